/- The plain law CodecSames. Conditions: as it says. -/
import Derived.Test.YtdoghfenhoigmaaPlLwJ
import Derived.Test.YtdoghfenhoigmaaPlCdC
import Derived.Test.YtdoghfenhoigmaaPlMsR1
namespace Go.Proofs.Ytdoghfenhoigmaa
set_option linter.unusedVariables false
set_option linter.unusedSimpArgs false
open Go.RowKit
theorem both_put {α : Type} [DecidableEq α] {c d : Int} {t u : List UInt8} {a b : α} (inj : c = 0 → d = 0 → t = u → a = b) (eq : a = b → c = d ∧ t = u) :
    ((if ((decide ((putV c t).2 = 0)) && (decide ((putV d u).2 = 0))) = true then ((bytes_Equal.f (putV c t).1 (putV d u).1).bind fun s => some s) else (some false)).bind fun s => some s) = some (decide (a = b) && decide (c = 0)) := by
  rw [chk_big, chk_big]
  unfold bytes_Equal.f
  by_cases hc : c = 0
  · by_cases hd : d = 0
    · have h1 : putV c t = (t, 0) := if_pos hc
      have h2 : putV d u = (u, 0) := if_pos hd
      rw [if_pos (by simp [hc, hd]), h1, h2]
      by_cases he : a = b
      · simp [he, hc, (eq he).2]
      · have : t ≠ u := fun h => he (inj hc hd h)
        simp [he, this]
    · rw [if_neg (by simp [hd])]
      have : a ≠ b := fun h => hd ((eq h).1 ▸ hc)
      simp [this]
  · rw [if_neg (by simp [hc])]
    simp [hc]
theorem sameM_k {k : Nat} (hk : 100 ≤ k) (m n : Msg) : codec_Same_Message_Messages.f k m.kd m.fr m.to m.tm m.ix m.lt m.cm m.hi m.cx m.rj m.es m.si m.st m.sd n.kd n.fr n.to n.tm n.ix n.lt n.cm n.hi n.cx n.rj n.es n.si n.st n.sd = some (decide (m = n) && decide (chkM m = 0)) := by
  have e1 := cPutM hk m
  have e2 := cPutM hk n
  unfold putM at e1 e2
  unfold codec_Same_Message_Messages.f
  rw [e1, Option.bind_some, e2, Option.bind_some]
  exact both_put txM_inj (fun h => by subst h; exact ⟨rfl, rfl⟩)
theorem sameS_k {k : Nat} (hk : 10 ≤ k) (a b c d e f : Int) : codec_Same_State_States.f k a b c d e f = some (decide ((a, b, c) = (d, e, f)) && decide (chkS a b c = 0)) := by
  unfold codec_Same_State_States.f
  rw [cPutS hk, Option.bind_some, cPutS hk, Option.bind_some]
  refine both_put (fun h1 h2 h3 => ?_) (fun h => by simp only [Prod.mk.injEq] at h; obtain ⟨rfl, rfl, rfl⟩ := h; exact ⟨rfl, rfl⟩)
  have h4 := getS_tx h1 []
  rw [h3, getS_tx h2 [], if_pos rfl, if_pos rfl] at h4
  simp only [Prod.mk.injEq] at h4 ⊢
  exact ⟨h4.1.symm, h4.2.1.symm, h4.2.2.1.symm⟩
set_option synthInstance.maxSize 4096 in
set_option synthInstance.maxHeartbeats 400000 in
theorem sameC_k {k : Nat} (hk : 10 ≤ k) (a b c : Int) (x y z : List UInt8) (d e f : Int) (u v w : List UInt8) : codec_Same_Command_Commands.f k a b c x y z d e f u v w = some (decide ((a, b, c, x, y, z) = (d, e, f, u, v, w)) && decide (chkC a b c x y z = 0)) := by
  unfold codec_Same_Command_Commands.f
  rw [cPutC hk, Option.bind_some, cPutC hk, Option.bind_some]
  refine both_put (fun h1 h2 h3 => ?_) (fun h => by simp only [Prod.mk.injEq] at h; obtain ⟨rfl, rfl, rfl, rfl, rfl, rfl⟩ := h; exact ⟨rfl, rfl⟩)
  have h4 := getC_tx h1 []
  rw [h3, getC_tx h2 [], if_pos rfl, if_pos rfl] at h4
  simp only [Prod.mk.injEq] at h4 ⊢
  obtain ⟨q1, q2, q3, q4, q5, q6, _⟩ := h4
  exact ⟨q1.symm, q2.symm, q3.symm, q4.symm, q5.symm, q6.symm⟩
theorem sames_k {k : Nat} (m n : Msg) (hR : Room k m) (hR2 : Room k n) (hk : 2000000 ≤ k) (a0 a1 a2 b0 b1 b2 c0 c1 c2 : Int) (c3 c4 c5 : List UInt8) (d0 d1 d2 : Int) (d3 d4 d5 : List UInt8) :
    synodlaw3_CodecSames.f k a0 a1 a2 b0 b1 b2 c0 c1 c2 c3 c4 c5 d0 d1 d2 d3 d4 d5 m.kd m.fr m.to m.tm m.ix m.lt m.cm m.hi m.cx m.rj m.es m.si m.st m.sd n.kd n.fr n.to n.tm n.ix n.lt n.cm n.hi n.cx n.rj n.es n.si n.st n.sd = some true := by
  unfold synodlaw3_CodecSames.f
  obtain ⟨sl, hsl⟩ := slight_k hR
  obtain ⟨sl2, hsl2⟩ := slight_k hR2
  rw [first_k (by omega), Option.bind_some, hsl, Option.bind_some, hsl2]
  have hS : (if sl = true then (some sl2).bind fun s => some s else some false) = some (sl && sl2) := by cases sl <;> rfl
  simp only [Option.bind_some] at hS ⊢
  rw [hS]
  simp only [Option.bind_some]
  have hif : ∀ {c : Prop} [Decidable c] {P : Option Bool}, P = some true → (if c then some true else P) = some true := by
    rintro c _ P rfl; split <;> rfl
  refine hif ?_
  have e4 := rM hR
  unfold rcheckM at e4
  rw [e4, rS, rC, sameM_k (by omega), sameS_k (by omega), sameC_k (by omega), SameMessage_eq (a := m) (b := n) hR]
  simp only [Option.bind_some]
  have g1 : (if (decide (a0 = b0) && (decide (a1 = b1) && decide (a2 = b2))) = true then some (decide (chkS a0 a1 a2 = 0)) else some false) = some (decide ((a0, a1, a2) = (b0, b1, b2)) && decide (chkS a0 a1 a2 = 0)) := by
    by_cases h : (a0, a1, a2) = (b0, b1, b2)
    · rw [if_pos (by simpa using h)]; simp [h]
    · rw [if_neg (by simpa using h)]; simp [h]
  have g2 : (if (decide (c0 = d0) && (decide (c1 = d1) && (decide (c2 = d2) && (decide (c3 = d3) && (decide (c4 = d4) && (decide (c5 = d5))))))) = true then some (decide (chkC c0 c1 c2 c3 c4 c5 = 0)) else some false) = some (decide ((c0, c1, c2, c3, c4, c5) = (d0, d1, d2, d3, d4, d5)) && decide (chkC c0 c1 c2 c3 c4 c5 = 0)) := by
    by_cases h : (c0, c1, c2, c3, c4, c5) = (d0, d1, d2, d3, d4, d5)
    · rw [if_pos (by simpa using h)]; simp [h]
    · rw [if_neg (by simpa using h)]; simp [h]
  have g3 : (if decide (m = n) = true then some (decide (chkM m = 0)) else some false) = some (decide (m = n) && decide (chkM m = 0)) := by
    by_cases h : m = n <;> simp [h]
  rw [g1, g2, g3]
  simp
theorem pure_CodecSames (a0 a1 a2 : Int) (ha : okI .i64 a0 ∧ okI .i64 a1 ∧ okI .i64 a2) (b0 b1 b2 : Int) (hb : okI .i64 b0 ∧ okI .i64 b1 ∧ okI .i64 b2)
    (c0 c1 c2 : Int) (c3 c4 c5 : List UInt8) (hc : okI .i64 c0 ∧ okI .i64 c1 ∧ okI .i64 c2 ∧ c3.length ≤ reachBytes ∧ c4.length ≤ reachBytes ∧ c5.length ≤ reachBytes)
    (d0 d1 d2 : Int) (d3 d4 d5 : List UInt8) (hd : okI .i64 d0 ∧ okI .i64 d1 ∧ okI .i64 d2 ∧ d3.length ≤ reachBytes ∧ d4.length ≤ reachBytes ∧ d5.length ≤ reachBytes)
    (kd fr to tm ix lt cm hi cx : Int) (rj : Bool) (es : List EnT) (si st : Int) (sd : List UInt8) (h : OkMg kd fr to tm ix lt cm hi cx rj es si st sd) (kd2 fr2 to2 tm2 ix2 lt2 cm2 hi2 cx2 : Int) (rj2 : Bool) (es2 : List EnT) (si2 st2 : Int) (sd2 : List UInt8) (h2 : OkMg kd2 fr2 to2 tm2 ix2 lt2 cm2 hi2 cx2 rj2 es2 si2 st2 sd2) :
    ∃ k, synodlaw3_CodecSames.f k a0 a1 a2 b0 b1 b2 c0 c1 c2 c3 c4 c5 d0 d1 d2 d3 d4 d5 kd fr to tm ix lt cm hi cx rj es si st sd kd2 fr2 to2 tm2 ix2 lt2 cm2 hi2 cx2 rj2 es2 si2 st2 sd2 = some true := by
  obtain ⟨_, _, _, _, _, _, _, _, _, _, h1, _, _, h3⟩ := h
  obtain ⟨_, _, _, _, _, _, _, _, _, _, h4, _, _, h5⟩ := h2
  exact ⟨wantM ⟨kd, fr, to, tm, ix, lt, cm, hi, cx, rj, es, si, st, sd⟩ + wantM ⟨kd2, fr2, to2, tm2, ix2, lt2, cm2, hi2, cx2, rj2, es2, si2, st2, sd2⟩ + 2000000, sames_k ⟨kd, fr, to, tm, ix, lt, cm, hi, cx, rj, es, si, st, sd⟩ ⟨kd2, fr2, to2, tm2, ix2, lt2, cm2, hi2, cx2, rj2, es2, si2, st2, sd2⟩ (room_arg h1 h3 (by omega)) (room_arg h4 h5 (by omega)) (by omega) ..⟩
end Go.Proofs.Ytdoghfenhoigmaa

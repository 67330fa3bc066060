/- The plain law CodecOne. Conditions: as it says. -/
import Derived.Test.YtdoghfenhoigmaaPlLwJ
namespace Go.Proofs.Ytdoghfenhoigmaa
set_option linter.unusedVariables false
set_option linter.unusedSimpArgs false
open Go.RowKit
theorem one_k {k : Nat} (m n : Msg) (hR : Room k m) (hR2 : Room k n) (x y : Int) (hy : okI .u8 y) (hk : 2000000 ≤ k) :
    synodlaw3_CodecOne.f k m.kd m.fr m.to m.tm m.ix m.lt m.cm m.hi m.cx m.rj m.es m.si m.st m.sd n.kd n.fr n.to n.tm n.ix n.lt n.cm n.hi n.cx n.rj n.es n.si n.st n.sd x y = some true := by
  have hy1 : 0 ≤ y ∧ y ≤ 255 := hy
  unfold synodlaw3_CodecOne.f
  obtain ⟨sl, hsl⟩ := slight_k hR
  obtain ⟨sl2, hsl2⟩ := slight_k hR2
  rw [first_k (by omega), Option.bind_some, hsl, Option.bind_some, hsl2]
  have hS : (if sl = true then (some sl2).bind fun s => some s else some false) = some (sl && sl2) := by cases sl <;> rfl
  simp only [Option.bind_some] at hS ⊢
  rw [hS]
  simp only [Option.bind_some]
  by_cases hs : (sl && sl2) = true
  · rw [hs, if_neg (by simp)]
    have e1 := cPutM (k := k) (by omega) m
    have e2 := cPutM (k := k) (by omega) n
    unfold putM at e1 e2
    rw [e1, e2]
    simp only [Option.bind_some, NumV]
    rw [chk_big, chk_big]
    by_cases hc : chkM m = 0
    · have hpv : putV (chkM m) (txM m) = (txM m, 0) := if_pos hc
      have hl2 := txM_len hc
      have hp := txM_pos hc
      rw [hpv]
      simp only []
      rw [if_neg (by simp [hc]; intro h; rw [h] at hp; simp at hp)]
      have hmid : ∀ {A : Option (Unit ⊕ Bool)} {B : Option Bool}, A = some (.inl ()) → B = some true → orR A (fun _ => B) = some true := by
        rintro A B rfl rfl; rfl
      refine hmid ?_ ?_
      · by_cases hc2 : chkM n = 0
        · have hpv2 : putV (chkM n) (txM n) = (txM n, 0) := if_pos hc2
          rw [if_pos hc2, hpv2]
          simp only []
          rw [SameBytes_eq (by omega) (by omega), SameMessage_eq (a := m) (b := n) hR]
          simp only [Option.bind_some]
          have : (!((decide (txM m = txM n)) == (decide (m = n)))) = false := by
            by_cases he : m = n
            · subst he; simp
            · have : txM m ≠ txM n := fun h => he (txM_inj hc hc2 h)
              simp [he, this]
          rw [this, if_neg Bool.false_ne_true]
        · rw [if_neg hc2]
      · have hn : ((txM m).length : Int) ≠ 0 := by omega
        have t1 := Int.tmod_lt_of_pos x (show (0 : Int) < (txM m).length by omega)
        have t2 : -((txM m).length : Int) < Int.tmod x (txM m).length := by
          have := Int.lt_tmod_of_pos x (show (0 : Int) < (txM m).length by omega)
          omega
        have hw : IntKind.i64.wrap (Int.tmod x (txM m).length + (txM m).length) = Int.tmod x (txM m).length + (txM m).length := w64 (by omega) (by omega)
        rw [if_pos hn, if_pos hn, hw]
        have t3 := Int.tmod_lt_of_pos (Int.tmod x (txM m).length + (txM m).length) (show (0 : Int) < (txM m).length by omega)
        have t4 : 0 ≤ Int.tmod (Int.tmod x (txM m).length + (txM m).length) (txM m).length := Int.tmod_nonneg _ (by omega)
        generalize Int.tmod (Int.tmod x (txM m).length + (txM m).length) (txM m).length = c at t3 t4 ⊢
        rw [if_pos (by omega)]
        have hcut : cut (txM m) 0 c = (txM m).take c.toNat := by unfold cut; simp
        have hg1 : codec_Messages_Get.f k ((txM m).take c.toNat) = some (tupM (getM ((txM m).take c.toNat)).1 (getM ((txM m).take c.toNat)).2) := cGetM (by first | omega | (simp; omega)) (by first | omega | (simp; omega))
        have hg2 : codec_Messages_Get.f k (txM m ++ [byte y]) = some (tupM (getM (txM m ++ [byte y])).1 (getM (txM m ++ [byte y])).2) := cGetM (by first | omega | (simp; omega)) (by first | omega | (simp; omega))
        rw [hcut, hg1, Bytes_eq (by omega)]
        simp only [Option.bind_some]
        rw [if_pos (by omega), if_pos (by simp; omega), hg2]
        simp only [Option.bind_some, tupM]
        have a := getM_front hc (c := c.toNat) (by omega)
        have b := getM_more hc (r := [byte y]) (by simp)
        simp [a, b]
    · rw [if_pos (by simp [hc])]
      simp [hc]
  · rw [if_pos (by cases sl <;> cases sl2 <;> simp_all)]
theorem pure_CodecOne (kd fr to tm ix lt cm hi cx : Int) (rj : Bool) (es : List EnT) (si st : Int) (sd : List UInt8) (h : OkMg kd fr to tm ix lt cm hi cx rj es si st sd) (kd2 fr2 to2 tm2 ix2 lt2 cm2 hi2 cx2 : Int) (rj2 : Bool) (es2 : List EnT) (si2 st2 : Int) (sd2 : List UInt8) (h2 : OkMg kd2 fr2 to2 tm2 ix2 lt2 cm2 hi2 cx2 rj2 es2 si2 st2 sd2)
    (x : Int) (hx : (Lit.int .i64 x).wf = true) (y : Int) (hy : (Lit.int .u8 y).wf = true) :
    ∃ k, synodlaw3_CodecOne.f k kd fr to tm ix lt cm hi cx rj es si st sd kd2 fr2 to2 tm2 ix2 lt2 cm2 hi2 cx2 rj2 es2 si2 st2 sd2 x y = some true := by
  obtain ⟨_, _, _, _, _, _, _, _, _, _, h1, _, _, h3⟩ := h
  obtain ⟨_, _, _, _, _, _, _, _, _, _, h4, _, _, h5⟩ := h2
  exact ⟨wantM ⟨kd, fr, to, tm, ix, lt, cm, hi, cx, rj, es, si, st, sd⟩ + wantM ⟨kd2, fr2, to2, tm2, ix2, lt2, cm2, hi2, cx2, rj2, es2, si2, st2, sd2⟩ + 2000000, one_k ⟨kd, fr, to, tm, ix, lt, cm, hi, cx, rj, es, si, st, sd⟩ ⟨kd2, fr2, to2, tm2, ix2, lt2, cm2, hi2, cx2, rj2, es2, si2, st2, sd2⟩ (room_arg h1 h3 (by omega)) (room_arg h4 h5 (by omega)) x y (by simpa [Lit.wf, okI] using hy) (by omega)⟩
end Go.Proofs.Ytdoghfenhoigmaa

/- The plain law CodecBack. Conditions: as it says. -/
import Derived.Test.YtdoghfenhoigmaaPlLwH
namespace Go.Proofs.Ytdoghfenhoigmaa
set_option linter.unusedVariables false
set_option linter.unusedSimpArgs false
open Go.RowKit
theorem back_k {k : Nat} (m : Msg) (hR : Room k m) (b : List UInt8) (hb : b.length ≤ reachBytes) (hk : 2000000 ≤ k) :
    synodlaw3_CodecBack.f k m.kd m.fr m.to m.tm m.ix m.lt m.cm m.hi m.cx m.rj m.es m.si m.st m.sd b = some true := by
  have hr := reach60
  unfold synodlaw3_CodecBack.f
  obtain ⟨sl, hsl⟩ := slight_k hR
  rw [first_k (by omega), Option.bind_some, hsl, Option.bind_some]
  by_cases hs : sl = true ∧ (b.length : Int) ≤ 20000
  · obtain ⟨rfl, hbl⟩ := hs
    have e1 := cPutM (k := k) (by omega) m
    have e3 := cM (k := k) (by omega) m
    unfold putM at e1; unfold checkM at e3
    have hl := putV_len (c := chkM m) (t := txM m) (n := 600000) txM_len
    rw [if_neg (by simp [hbl]), e1, Option.bind_some, e3, Option.bind_some]
    have hq : (!((decide (synodref_Num.v (putV (chkM m) (txM m)).2 = 0)) == (decide (synodref_Num.v (chkM m) = 0)))) = false := by rw [NumV', NumV', chk_big]; simp
    rw [hq, if_neg Bool.false_ne_true]
    have hT1 : codec_Messages_Get.f k b = some (tupM (getM b).1 (getM b).2) := cGetM (by omega) (by omega)
    rw [hT1]
    simp only [Option.bind_some, NumV, tupM]
    have hend : ∀ {P : Option Bool}, ((getM b).2 = 0 → P = some true) → (if (getM b).2 = 0 then P else some true) = some true := by
      intro P h
      by_cases h0 : (getM b).2 = 0
      · rw [if_pos h0, h h0]
      · rw [if_neg h0]
    have hmid : ∀ {A : Option (Unit ⊕ Bool)} {B : Option Bool}, A = some (.inl ()) → B = some true → orR A (fun _ => B) = some true := by
      rintro A B rfl rfl; rfl
    refine hmid ?_ (hend ?_)
    · rw [chk_big]
      by_cases hc : chkM m = 0
      · rw [if_pos hc]
        have hpv : putV (chkM m) (txM m) = (txM m, 0) := if_pos hc
        have hgt := getM_tx hc []
        rw [List.append_nil, if_pos rfl] at hgt
        have hl2 := txM_len hc
        rw [hpv]
        rw [cGetM (by omega) (by simp only []; omega)]
        simp only [hgt, tupM, Option.bind_some]
        rw [SameMessage_eq (a := m) (b := m) hR, e1, hpv]
        simp only [Option.bind_some]
        rw [SameBytes_eq (by omega) (by omega)]
        simp
      · rw [if_neg hc]
    · intro h0
      obtain ⟨hc, ht⟩ := getM_rev h0
      have e5 := cPutM (k := k) (by omega) (getM b).1
      have e6 := cM (k := k) (by omega) (getM b).1
      unfold putM at e5; unfold checkM at e6
      have hpv : putV (chkM (getM b).1) (txM (getM b).1) = (b, 0) := (if_pos hc).trans (by rw [ht])
      rw [e5, e6, hpv, hc]
      simp only [Option.bind_some]
      rw [SameBytes_eq (by omega) (by omega)]
      simp
  · rw [if_pos (by simp; cases sl <;> simp_all)]
theorem pure_CodecBack (kd fr to tm ix lt cm hi cx : Int) (rj : Bool) (es : List EnT) (si st : Int) (sd : List UInt8) (h : OkMg kd fr to tm ix lt cm hi cx rj es si st sd) (b : List UInt8) (hb : b.length ≤ reachBytes) :
    ∃ k, synodlaw3_CodecBack.f k kd fr to tm ix lt cm hi cx rj es si st sd b = some true := by
  obtain ⟨_, _, _, _, _, _, _, _, _, _, h1, _, _, h2⟩ := h
  exact ⟨wantM ⟨kd, fr, to, tm, ix, lt, cm, hi, cx, rj, es, si, st, sd⟩ + 2000000, back_k ⟨kd, fr, to, tm, ix, lt, cm, hi, cx, rj, es, si, st, sd⟩ (room_arg h1 h2 (Nat.le_add_right _ _)) b hb (by omega)⟩
end Go.Proofs.Ytdoghfenhoigmaa

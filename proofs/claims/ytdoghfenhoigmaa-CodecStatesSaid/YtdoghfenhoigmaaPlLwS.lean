/- A plain law: CodecStates. Conditions: as it says. -/
import Derived.Test.YtdoghfenhoigmaaPlCdF
namespace Go.Proofs.Ytdoghfenhoigmaa
set_option linter.unusedVariables false
set_option linter.unusedSimpArgs false
open Go.RowKit
theorem pure_CodecStates (t v c : Int) (_ : okI .i64 t ∧ okI .i64 v ∧ okI .i64 c) (b : List UInt8) (hb : b.length ≤ reachBytes) : ∃ k, synodlaw3_CodecStates.f k t v c b = some true := by
  refine ⟨1000000, ?_⟩
  generalize hk : (1000000 : Nat) = k
  unfold synodlaw3_CodecStates.f
  rw [first_k (by omega), Option.bind_some]
  by_cases hbl : (b.length : Int) ≤ 20000
  · have hl := putV_len (c := chkS t v c) (t := txS t v c) (fun _ => txS_len t v c)
    have ev : codec_States_Check.v t v c = chkS t v c := v_of (cS t v c)
    have ev2 : synodref3_CheckState.v t v c = chkS t v c := v_of (rS t v c)
    rw [if_neg (by simp [hbl]), cPutS (by omega), Option.bind_some, rPutS (by omega), Option.bind_some, SameBytes_eq (by omega) (by omega), Option.bind_some, ev, ev2]
    rw [if_neg (by simp [NumV'])]
    rw [Lent_eq (by omega), Option.bind_some, cGetS (by omega) (by simp only []; omega), Option.bind_some, rGetS (by omega) (by omega), Option.bind_some, Kept_eq (by simp only []; omega) (by simp only []; omega), Option.bind_some]
    simp only [Option.bind_some, decide_true, Bool.not_true, Bool.and_self, Bool.false_eq_true, if_false, NumV, Bool.or_false]
    rw [chk_big]
    by_cases hc : chkS t v c = 0
    · rw [if_pos hc]
      have hpv : putV (chkS t v c) (txS t v c) = (txS t v c, 0) := if_pos hc
      have hgt := getS_tx hc []
      rw [List.append_nil, if_pos rfl] at hgt
      rw [hpv]
      have hl2 := txS_len t v c
      rw [cGetS (by omega) (by simp only []; omega), Option.bind_some]
      simp only [hgt]
      have hov := over_of (f := synodlaw3_CodecStates.l0) (fun _ _ => rfl) (fun _ _ _ => rfl) (txS t v c).length 0 k (txS t v c) (by omega) (by omega) (by omega)
      rw [Int.natCast_zero] at hov
      rw [hov]
      simp
    · rw [if_neg hc]
  · rw [if_pos (by simp; omega)]
end Go.Proofs.Ytdoghfenhoigmaa

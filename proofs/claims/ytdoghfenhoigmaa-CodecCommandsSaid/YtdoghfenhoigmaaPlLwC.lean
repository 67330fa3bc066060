/- A plain law: CodecCommands. Conditions: as it says. -/
import Derived.Test.YtdoghfenhoigmaaPlCdF
import Derived.Test.YtdoghfenhoigmaaPlCdC
namespace Go.Proofs.Ytdoghfenhoigmaa
set_option linter.unusedVariables false
set_option linter.unusedSimpArgs false
open Go.RowKit
theorem pure_CodecCommands (o c s : Int) (ky v w : List UInt8) (_ : okI .i64 o ∧ okI .i64 c ∧ okI .i64 s ∧ ky.length ≤ reachBytes ∧ v.length ≤ reachBytes ∧ w.length ≤ reachBytes) (b : List UInt8) (hb : b.length ≤ reachBytes) : ∃ k, synodlaw3_CodecCommands.f k o c s ky v w b = some true := by
  refine ⟨1000000, ?_⟩
  generalize hk : (1000000 : Nat) = k
  unfold synodlaw3_CodecCommands.f
  rw [first_k (by omega), Option.bind_some]
  by_cases hs : ((ky.length : Int) ≤ 20000 ∧ (v.length : Int) ≤ 20000 ∧ (w.length : Int) ≤ 20000) ∧ (b.length : Int) ≤ 20000
  · obtain ⟨⟨h1, h2, h3⟩, hbl⟩ := hs
    have hl := putV_len (c := chkC o c s ky v w) (t := txC o c s ky v w) txC_len
    have ev : codec_Commands_Check.v o c s ky v w = chkC o c s ky v w := v_of (cC o c s ky v w)
    have ev2 : synodref3_CheckCommand.v o c s ky v w = chkC o c s ky v w := v_of (rC o c s ky v w)
    rw [if_neg (by simp [h1, h2, h3, hbl]), cPutC (by omega), Option.bind_some, rPutC (by omega), Option.bind_some, SameBytes_eq (by omega) (by omega), Option.bind_some, ev, ev2]
    rw [if_neg (by simp [NumV'])]
    rw [Lent_eq (by omega), Option.bind_some, cGetC (by omega) (by simp only []; omega), Option.bind_some, rGetC (by omega) (by omega), Option.bind_some, Kept_eq (by simp only []; omega) (by simp only []; omega), Option.bind_some]
    simp only [Option.bind_some, decide_true, Bool.not_true, Bool.and_self, Bool.false_eq_true, if_false, NumV, Bool.or_false]
    rw [chk_big]
    by_cases hc : chkC o c s ky v w = 0
    · rw [if_pos hc]
      have hpv : putV (chkC o c s ky v w) (txC o c s ky v w) = (txC o c s ky v w, 0) := if_pos hc
      have hgt := getC_tx hc []
      rw [List.append_nil, if_pos rfl] at hgt
      rw [hpv]
      have hl2 := txC_len hc
      rw [cGetC (by omega) (by simp only []; omega), Option.bind_some]
      simp only [hgt]
      have hov := over_of (f := synodlaw3_CodecCommands.l0) (fun _ _ => rfl) (fun _ _ _ => rfl) (txC o c s ky v w).length 0 k (txC o c s ky v w) (by omega) (by omega) (by omega)
      rw [Int.natCast_zero] at hov
      rw [hov]
      simp
    · rw [if_neg hc]
  · rw [if_pos (by simp; omega)]
end Go.Proofs.Ytdoghfenhoigmaa

/- A plain law: CodecReplies. Conditions: as it says. -/
import Derived.Test.YtdoghfenhoigmaaPlCdF
import Derived.Test.YtdoghfenhoigmaaPlCdR
namespace Go.Proofs.Ytdoghfenhoigmaa
set_option linter.unusedVariables false
set_option linter.unusedSimpArgs false
open Go.RowKit
theorem pure_CodecReplies (c : Int) (v : List UInt8) (_ : okI .i64 c ∧ v.length ≤ reachBytes) (b : List UInt8) (hb : b.length ≤ reachBytes) : ∃ k, synodlaw3_CodecReplies.f k c v b = some true := by
  refine ⟨1000000, ?_⟩
  generalize hk : (1000000 : Nat) = k
  unfold synodlaw3_CodecReplies.f
  rw [first_k (by omega), Option.bind_some]
  by_cases hs : (v.length : Int) ≤ 20000 ∧ (b.length : Int) ≤ 20000
  · obtain ⟨hd, hbl⟩ := hs
    have hl := putV_len (c := chkR c v) (t := txR c v) txR_len
    have ev : codec_Replies_Check.v c v = chkR c v := v_of (cR c v)
    have ev2 : synodref3_CheckReply.v c v = chkR c v := v_of (rR c v)
    rw [if_neg (by simp [hd, hbl]), cPutR (by omega), Option.bind_some, rPutR (by omega), Option.bind_some, SameBytes_eq (by omega) (by omega), Option.bind_some, ev, ev2]
    rw [if_neg (by simp [NumV'])]
    rw [Lent_eq (by omega), Option.bind_some, cGetR (by omega) (by simp only []; omega), Option.bind_some, rGetR (by omega) (by omega), Option.bind_some, Kept_eq (by simp only []; omega) (by simp only []; omega), Option.bind_some]
    simp only [Option.bind_some, decide_true, Bool.not_true, Bool.and_self, Bool.false_eq_true, if_false, NumV, Bool.or_false]
    rw [chk_big]
    by_cases hc : chkR c v = 0
    · rw [if_pos hc]
      have hpv : putV (chkR c v) (txR c v) = (txR c v, 0) := if_pos hc
      have hgt := getR_tx hc []
      rw [List.append_nil, if_pos rfl] at hgt
      rw [hpv]
      have hl2 := txR_len hc
      rw [cGetR (by omega) (by simp only []; omega), Option.bind_some]
      simp only [hgt]
      have hov := over_of (f := synodlaw3_CodecReplies.l0) (fun _ _ => rfl) (fun _ _ _ => rfl) (txR c v).length 0 k (txR c v) (by omega) (by omega) (by omega)
      rw [Int.natCast_zero] at hov
      rw [hov]
      simp
    · rw [if_neg hc]
  · rw [if_pos (by simp; omega)]
end Go.Proofs.Ytdoghfenhoigmaa

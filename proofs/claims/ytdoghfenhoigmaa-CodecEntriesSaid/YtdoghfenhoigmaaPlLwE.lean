/- A plain law: CodecEntries. Conditions: as it says. -/
import Derived.Test.YtdoghfenhoigmaaPlCdF
import Derived.Test.YtdoghfenhoigmaaPlSe
namespace Go.Proofs.Ytdoghfenhoigmaa
set_option linter.unusedVariables false
set_option linter.unusedSimpArgs false
open Go.RowKit
theorem pure_CodecEntries (t i kd : Int) (d : List UInt8) (_ : okI .i64 t ∧ okI .i64 i ∧ okI .i64 kd ∧ d.length ≤ reachBytes) (b : List UInt8) (hb : b.length ≤ reachBytes) : ∃ k, synodlaw3_CodecEntries.f k t i kd d b = some true := by
  refine ⟨1000000, ?_⟩
  generalize hk : (1000000 : Nat) = k
  unfold synodlaw3_CodecEntries.f
  rw [first_k (by omega), Option.bind_some]
  by_cases hs : (d.length : Int) ≤ 20000 ∧ (b.length : Int) ≤ 20000
  · obtain ⟨hd, hbl⟩ := hs
    have hl := putV_len (c := chkE t i kd d) (t := txE t i kd d) txE_len
    have ev : codec_Entries_Check.v t i kd d = chkE t i kd d := v_of (cE t i kd d)
    have ev2 : synodref3_CheckEntry.v t i kd d = chkE t i kd d := v_of (rE t i kd d)
    rw [if_neg (by simp [hd, hbl]), cPutE (by omega), Option.bind_some, rPutE (by omega), Option.bind_some, SameBytes_eq (by omega) (by omega), Option.bind_some, ev, ev2]
    rw [if_neg (by simp [NumV'])]
    rw [Lent_eq (by omega), Option.bind_some, cGetE (by omega) (by simp only []; omega), Option.bind_some, rGetE (by omega) (by omega), Option.bind_some, Kept_eq (by simp only []; omega) (by simp only []; omega), Option.bind_some]
    simp only []
    have hg := getE_len b
    rw [SameEntry_eq (a := ((getE b).1, (getE b).2.1, (getE b).2.2.1, (getE b).2.2.2.1)) (b := ((getE b).1, (getE b).2.1, (getE b).2.2.1, (getE b).2.2.2.1)) (by simp only []; omega) (by simp only []; omega)]
    simp only [Option.bind_some, decide_true, Bool.not_true, Bool.false_eq_true, if_false, NumV, Bool.or_false]
    rw [chk_big]
    by_cases hc : chkE t i kd d = 0
    · rw [if_pos hc]
      have hpv : putV (chkE t i kd d) (txE t i kd d) = (txE t i kd d, 0) := if_pos hc
      have hgt := getE_tx hc []
      rw [List.append_nil, if_pos rfl] at hgt
      rw [hpv]
      rw [cGetE (by omega) (by have := txE_len hc; simp only []; omega), Option.bind_some]
      simp only [hgt]
      rw [SameEntry_eq (a := (t, i, kd, d)) (b := (t, i, kd, d)) (by simp only []; omega) (by simp only []; omega)]
      have hl2 := txE_len hc
      have hov := over_of (f := synodlaw3_CodecEntries.l0) (fun _ _ => rfl) (fun _ _ _ => rfl) (txE t i kd d).length 0 k (txE t i kd d) (by omega) (by omega) (by omega)
      rw [Int.natCast_zero] at hov
      rw [hov]
      simp
    · rw [if_neg hc]
  · rw [if_pos (by simp; omega)]
end Go.Proofs.Ytdoghfenhoigmaa

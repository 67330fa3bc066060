/- A plain law: CodecSnaps. Conditions: as it says. -/
import Derived.Test.YtdoghfenhoigmaaPlCdF
namespace Go.Proofs.Ytdoghfenhoigmaa
set_option linter.unusedVariables false
set_option linter.unusedSimpArgs false
open Go.RowKit
theorem SameSnap_eq {k : Nat} {i t j u : Int} {d e : List UInt8} (h1 : d.length < 2 ^ 62) (h2 : d.length + 1 ≤ k) : synodref_SameSnap.f k i t d j u e = some (decide (d = e ∧ i = j ∧ t = u)) := by
  unfold synodref_SameSnap.f
  rw [SameBytes_eq h1 h2, Option.bind_some]
  congr 1
  rw [Bool.eq_iff_iff]; simp; grind
theorem pure_CodecSnaps (i t : Int) (d : List UInt8) (_ : okI .i64 i ∧ okI .i64 t ∧ d.length ≤ reachBytes) (b : List UInt8) (hb : b.length ≤ reachBytes) : ∃ k, synodlaw3_CodecSnaps.f k i t d b = some true := by
  refine ⟨1000000, ?_⟩
  generalize hk : (1000000 : Nat) = k
  unfold synodlaw3_CodecSnaps.f
  rw [first_k (by omega), Option.bind_some]
  by_cases hs : (d.length : Int) ≤ 20000 ∧ (b.length : Int) ≤ 20000
  · obtain ⟨hd, hbl⟩ := hs
    have hl := putV_len (c := chkP i t d) (t := txP i t d) txP_len
    have ev : codec_Snaps_Check.v i t d = chkP i t d := v_of (cP i t d)
    have ev2 : synodref3_CheckSnap.v i t d = chkP i t d := v_of (rP i t d)
    rw [if_neg (by simp [hd, hbl]), cPutP (by omega), Option.bind_some, rPutP (by omega), Option.bind_some, SameBytes_eq (by omega) (by omega), Option.bind_some, ev, ev2]
    rw [if_neg (by simp [NumV'])]
    rw [Lent_eq (by omega), Option.bind_some, cGetP (by omega) (by simp only []; omega), Option.bind_some, rGetP (by omega) (by omega), Option.bind_some, Kept_eq (by simp only []; omega) (by simp only []; omega), Option.bind_some]
    simp only []
    have hg := getP_len b
    rw [SameSnap_eq (by omega) (by omega)]
    simp only [Option.bind_some, and_self, decide_true, Bool.not_true, Bool.false_eq_true, if_false, NumV, Bool.or_false]
    rw [chk_big]
    by_cases hc : chkP i t d = 0
    · rw [if_pos hc]
      have hpv : putV (chkP i t d) (txP i t d) = (txP i t d, 0) := if_pos hc
      have hgt := getP_tx hc []
      rw [List.append_nil, if_pos rfl] at hgt
      rw [hpv]
      have hl2 := txP_len hc
      rw [cGetP (by omega) (by simp only []; omega), Option.bind_some]
      simp only [hgt]
      rw [SameSnap_eq (by omega) (by omega)]
      have hov := over_of (f := synodlaw3_CodecSnaps.l0) (fun _ _ => rfl) (fun _ _ _ => rfl) (txP i t d).length 0 k (txP i t d) (by omega) (by omega) (by omega)
      rw [Int.natCast_zero] at hov
      rw [hov]
      simp
    · rw [if_neg hc]
  · rw [if_pos (by simp; omega)]
end Go.Proofs.Ytdoghfenhoigmaa

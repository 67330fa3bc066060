/- The plain law LinExplains. Conditions: as it says. -/
import Derived.Test.YtlblpegbgbgliaaPlLwW0
namespace Go.Proofs.Ytlblpegbgbgliaa
set_option linter.unusedVariables false
set_option linter.unusedSimpArgs false
open Go.RowKit
theorem pure_LinExplains (h : List OpT) (hh : h.length * 112 ≤ reachBytes ∧ ∀ e ∈ h, Ok35 e) (key : List UInt8) (hkey : key.length ≤ reachBytes) (hu : Mu.mu h + Mu.mu key ≤ 1048576) : ∃ k, synodlaw16_LinExplains.f k h key = some true := by
  refine ⟨9940 + 60, ?_⟩
  have hr : reachBytes < 2 ^ 47 := by decide
  have hl : ∀ x ∈ h, (oKey x).length ≤ 140737488351232 := fun x hx => (hh.2 x hx).2.2.2.1
  unfold synodlaw16_LinExplains.f
  obtain ⟨b, hf, hb⟩ := few_eq (h := h) (by omega) (show 500 ≤ 9940 + 60 by decide)
  rw [first_eq 9940, Option.bind_some, hf, Option.bind_some]
  split
  · rfl
  · rename_i hc
    have hbt : b = true := by cases b <;> simp_all
    have h6 := hb hbt
    rw [Explain_eq h6 hl (by omega), Option.bind_some, rvalid_eq (by omega) (by omega), Option.bind_some]
    by_cases hv : validL h = 0
    · rw [if_pos hv, if_pos hv, rexplain_eq h6 ((validL_12 hv).2.2 key) (by omega), Option.bind_some]
      have hx := (explain_eq (key := key) h6 ((validL_12 hv).2.2 key) (show 6000 ≤ 9940 + 60 by decide)).2
      have hlen : (explL h key).1.length < 5000 := by
        rcases hx with ⟨o, ho, e⟩ | ⟨_, e⟩
        · rw [e]
          have h1 := comp_len (Nat.two_pow_pos _) ho.1
          have h2 : 2 ^ (opsL h key).length ≤ 2 ^ 12 := Nat.pow_le_pow_right (by decide) (by rw [opsL_len]; exact (validL_12 hv).2.2 key)
          simp; omega
        · rw [e]; simp
      simp only []
      rw [SameInts_eq (by omega) (by omega)]
      simp [num_eq]
    · rw [if_neg hv, if_neg hv, num_eq, Option.bind_some]
      simp
end Go.Proofs.Ytlblpegbgbgliaa

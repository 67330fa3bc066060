/- Whether a history is small. Conditions: as it says. -/
import Derived.Test.YtlblpegbgbgliaaPlLin2
import Derived.Test.YtlblpegbgbgliaaG
import Derived.Test.YtlblpegbgbgliaaRw3
namespace Go.Proofs.Ytlblpegbgbgliaa
set_option linter.unusedVariables false
set_option linter.unusedSimpArgs false
open Go.RowKit
theorem few_loop {h : List OpT} (hh : h.length < 2 ^ 47) : ∀ (d i k : Nat) (z : Int), i + d = 402 → d + 1 ≤ k → ∃ s, synodlaw16_few.l0 h k z (i : Int) = some s
  | d, i, 0, z, _, hk => by omega
  | 0, i, k + 1, z, hd, _ => by
    simp only [synodlaw16_few.l0]
    rw [if_neg (by simp; omega)]
    exact ⟨_, rfl⟩
  | d + 1, i, k + 1, z, hd, hk => by
    simp only [synodlaw16_few.l0]
    by_cases hc : (i : Int) < (h.length : Int) ∧ (i : Int) ≤ 400
    · rw [if_pos (by rw [decide_eq_true hc.1, decide_eq_true hc.2]; rfl), if_pos (by omega), if_pos (by omega), if_pos (by omega), if_pos (by omega), w64 (n := (i : Int) + 1) (by omega) (by omega)]
      exact few_loop hh d (i + 1) k _ (by omega) (by omega)
    · rw [if_neg (by simp; omega)]
      exact ⟨_, rfl⟩
theorem few_eq {h : List OpT} (hh : h.length < 2 ^ 47) {k : Nat} (hk : 500 ≤ k) : ∃ b : Bool, synodlaw16_few.f k h = some b ∧ (b = true → h.length ≤ 600) := by
  unfold synodlaw16_few.f
  obtain ⟨s, hs⟩ := few_loop hh 402 0 k 0 (by omega) (by omega)
  rw [show ((0 : Nat) : Int) = 0 from rfl] at hs
  rw [hs, Option.bind_some]
  exact ⟨_, rfl, fun hb => by simp at hb; omega⟩
theorem num_eq (x : Int) : synodref_Num.f x = some x := rfl
end Go.Proofs.Ytlblpegbgbgliaa

/- The plain law LinSteps. Conditions: none. -/
import Derived.Test.YtlblpegbgbgliaaG
namespace Go.Proofs.Ytlblpegbgbgliaa
set_option linter.unusedVariables false
set_option linter.unusedSimpArgs false
open Go.RowKit
theorem first_eq' (m : Nat) : synodlaw16_first.f (m + 60) = some true := by kernel_rfl
theorem pure_LinSteps (t : Bool) (v : List UInt8) (hv : v.length ≤ reachBytes) (a b c : Int) (k2 v2 o2 : List UInt8) (e f g : Int) (r : List UInt8) (_ : okI .i64 a ∧ okI .i64 b ∧ okI .i64 c ∧ k2.length ≤ reachBytes ∧ v2.length ≤ reachBytes ∧ o2.length ≤ reachBytes ∧ okI .i64 e ∧ okI .i64 f ∧ okI .i64 g ∧ r.length ≤ reachBytes) :
    ∃ k, synodlaw16_LinSteps.f k t v a b c k2 v2 o2 e f g r = some true := by
  refine ⟨0 + 60, ?_⟩
  unfold synodlaw16_LinSteps.f
  rw [first_eq' 0, Option.bind_some]
  split
  · rfl
  · have h : ∃ p, lin_Step.f t v a b c k2 v2 o2 e f g r = some p ∧ synodref16_Step.f t v a b c k2 v2 o2 e f g r = some p := by
      unfold lin_Step.f synodref16_Step.f
      cases t <;> simp only [Bool.not_false, Bool.not_true, if_true, Bool.false_eq_true, if_false, Option.bind_some] <;> (repeat' split) <;> simp_all
    obtain ⟨p, h1, h2⟩ := h
    rw [h1, h2]
    simp
end Go.Proofs.Ytlblpegbgbgliaa

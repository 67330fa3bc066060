/- Disk: the chapter's example; how much comes in. Conditions: none. -/
import Derived.Test.YtkkbgcocpkipjaaPlDk1
import Derived.Test.YtkkbgcocpkipjaaRw3
namespace Go.Proofs.Ytkkbgcocpkipjaa
set_option linter.unusedVariables false
set_option linter.unusedSimpArgs false
open Go.RowKit
theorem first_eq (m : Nat) : synodlaw4_first.f (m + 60) = some true := by kernel_rfl
theorem mu_mem {α : Type} [Mu α] {l : List α} {x : α} (h : x ∈ l) : Mu.mu x ≤ Mu.mu l := by
  induction l with
  | nil => cases h
  | cons y l ih =>
    rw [mu_cons]
    rcases List.mem_cons.1 h with rfl | h
    · have := mu_list l; omega
    · have := ih h; omega
theorem mu_len {α : Type} [Mu α] {l : List α} (h : ∀ x : α, 1 ≤ Mu.mu x) : l.length ≤ Mu.mu l := by
  induction l with
  | nil => simp
  | cons y l ih => rw [mu_cons, List.length_cons]; have := h y; omega
theorem mu_op (e : OpD) : Mu.mu e = 1 + (1 + ((e.2.2.1.length + 1) + ((e.2.2.2.1.length + 1) + (e.2.2.2.2.length + 1)))) := by
  obtain ⟨a, b, c, d, f⟩ := e
  rw [mu_pair, mu_pair, mu_pair, mu_pair, mu_int, mu_int, mu_bytes, mu_bytes, mu_bytes]
theorem ops_small {l : List OpD} (h : Mu.mu l ≤ 1048576) : smallL 1048577 l ∧ l.length ≤ 1048576 := by
  refine ⟨fun e he => ?_, Nat.le_trans (mu_len fun e => by rw [mu_op]; omega) h⟩
  have h1 := mu_mem he
  rw [mu_op] at h1
  exact ⟨⟨by omega, by omega, by omega⟩, by omega, by omega⟩
end Go.Proofs.Ytkkbgcocpkipjaa

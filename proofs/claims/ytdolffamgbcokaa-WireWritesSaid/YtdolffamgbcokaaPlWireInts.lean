/- The plain law of WireInts: what the pure function tells is true. Conditions: none. -/
import Derived.Test.YtdolffamgbcokaaPlWire
namespace Go.Proofs.Ytdolffamgbcokaa
set_option linter.unusedVariables false
set_option linter.unusedSimpArgs false
open Go.RowKit
theorem first_eq (m : Nat) : synodlaw1_first.f (m + 30) = some true := by kernel_rfl
theorem bytesV_len (x : Int) : (bytesV x).length ≤ 9 := by
  unfold bytesV
  split
  · rename_i h; have := h.2; exact sv9 (by omega)
  · simp
theorem pure_WireInts (x : Int) (_ : (Lit.int .i64 x).wf = true) : ∃ k, synodlaw1_WireInts.f k x = some true := by
  refine ⟨30, ?_⟩
  have hl := bytesV_len x
  unfold synodlaw1_WireInts.f
  rw [first_eq 0, wire_PutInt_eq (by decide), ref_PutInt_eq (by decide)]
  simp only [Option.bind_some]
  rw [SameBytes_eq (by omega) (by omega), wire_Size_eq (by decide), ref_Size_eq (by decide)]
  simp [synodref_Num.f]
end Go.Proofs.Ytdolffamgbcokaa

/- The codec's plain laws: whether two entries are the same. Conditions: as it says. -/
import Derived.Test.YtdoghfenhoigmaaPlMs
namespace Go.Proofs.Ytdoghfenhoigmaa
set_option linter.unusedVariables false
set_option linter.unusedSimpArgs false
open Go.RowKit
theorem SameEntry_eq {k : Nat} {a b : EnT} (h1 : a.2.2.2.length < 2 ^ 62) (h2 : a.2.2.2.length + 1 ≤ k) : synodref_SameEntry.f k a.1 a.2.1 a.2.2.1 a.2.2.2 b.1 b.2.1 b.2.2.1 b.2.2.2 = some (decide (a = b)) := by
  unfold synodref_SameEntry.f
  rw [SameBytes_eq h1 h2, Option.bind_some]
  congr 1
  obtain ⟨a1, a2, a3, a4⟩ := a
  obtain ⟨b1, b2, b3, b4⟩ := b
  rw [Bool.eq_iff_iff]
  simp
  grind
end Go.Proofs.Ytdoghfenhoigmaa

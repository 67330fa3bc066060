/- Whether a reader moved: a number. Conditions: as it says. -/
import Derived.Test.YtdoghfenhoigmaaPlMs3
namespace Go.Proofs.Ytdoghfenhoigmaa
set_option linter.unusedVariables false
set_option linter.unusedSimpArgs false
open Go.RowKit
section
variable {k : Nat} {b : List UInt8} (hb : b.length ≤ 100000000)
include hb
theorem movI (hk : 12 ≤ k) {p : Nat} (hp : p ≤ b.length) (e : Int) : codec_moved_int_wire_Reader_Int.f k b (p : Int) e = some ((rI b p e).1, decide ((rI b p e).2.2 = 0), (((rI b p e).2.1 : Nat) : Int), (rI b p e).2.2) := by
  unfold codec_moved_int_wire_Reader_Int.f wire_Reader_At.f
  rw [Option.bind_some, cI hk hb hp, Option.bind_some]; simp only [Option.bind_some]
  rw [rI_moved]
end
end Go.Proofs.Ytdoghfenhoigmaa

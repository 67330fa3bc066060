/- Plain laws on numbers as bytes: seven bits at a time, there and back. Conditions: none. -/
import Derived.Test.YtbcnegennmpliaaDoorSl11
import Derived.Laws.BitsLemmas
namespace Go.Proofs.YtbcnegennmpliaaDoor
set_option linter.unusedVariables false
set_option linter.unusedSimpArgs false
open Go.RowKit

theorem w64 {n : Int} (h0 : -9223372036854775808 ≤ n) (h1 : n ≤ 9223372036854775807) : IntKind.i64.wrap n = n := by rw [IntKind.wrap_i64]; omega
theorem w8 {n : Int} (h0 : 0 ≤ n) (h1 : n < 256) : IntKind.u8.wrap n = n := by rw [IntKind.wrap_u8]; omega
theorem byte_cast (b : UInt8) : byte (b.toNat : Int) = b := by simp [byte]
end Go.Proofs.YtbcnegennmpliaaDoor

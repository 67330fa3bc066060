/- Ranges over functions: an iterator's contract, a round's contract, the statement, the call of yield, and functions that leave with marks. Conditions: none. -/
import Derived.Test.YtbcnegennmpliaaDoorSl10
import Derived.RangeFuncRecord
namespace Go.Proofs.YtbcnegennmpliaaDoor
set_option linter.unusedVariables false
set_option linter.unusedSimpArgs false
open Go.RowKit

/-! ### 1. Marks -/
section
variable {K : Cx} {R S Y : Type} {Q : Post R} {E : Env} {H : List HA} {o : Option R}
end

/-! ### 2. Rounds and iterators -/
section
variable {K : Cx} {R S Y α : Type} {Q : Post R} {E : Env} {H : List HA} {o : Option R}
end
end Go.Proofs.YtbcnegennmpliaaDoor

/- Keys that are structs. Conditions: as each says. -/
import Derived.Test.YtbcnegennmpliaaDoorSl17
namespace Go.Proofs.YtbcnegennmpliaaDoor
set_option linter.unusedVariables false
set_option linter.unusedSimpArgs false
open Go.RowKit
section
variable {P : Program}
end
end Go.Proofs.YtbcnegennmpliaaDoor

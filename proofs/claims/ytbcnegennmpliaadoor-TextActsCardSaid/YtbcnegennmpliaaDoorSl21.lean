/- What a callee of the library leaves: all that lay is as it was, and a new row; the sorted keys of a map as one call. Conditions: none. -/
import Derived.Test.YtbcnegennmpliaaDoorSl20
import Derived.Maps.Own
import Derived.Maps.Range
import Derived.Sort.KeysCollected
import Derived.Lib.SlKeysI
namespace Go.Proofs.YtbcnegennmpliaaDoor
set_option linter.unusedVariables false
set_option linter.unusedSimpArgs false
open Go.RowKit
theorem Sat.below {W w w' : World} {H : List HA} (s : Sat W H w) (b : Below w.heap.size w w') : Sat W H w' := by
  refine ⟨b.os.trans s.os, b.tape.trans s.tape, b.output.trans s.output, Nat.le_trans s.size b.size, ?_⟩
  refine stars_absorb H tt _ ⟨fun i => if i < w.heap.size then none else w'.heap[i]?, hpw w, ?_, ?_, trivial, s.hp⟩
  · intro i
    by_cases h : i < w.heap.size
    · left; simp [h]
    · right; simp only [hpw]; exact Array.getElem?_eq_none (by omega)
  · funext i
    simp only [hpw, un]
    by_cases h : i < w.heap.size
    · simp [h]; rw [b.block i h]; simp [h]
    · simp [h]
section
variable {α β : Type}
open Go.WideElems Go.Maps
end
section
variable {α β : Type} [DecidableEq α]
end
section
variable {K : Cx} {E : Env} {H : List HA} {o : Oper} {α β : Type} [DecidableEq α] {ek : α → Value} {ev : β → Value} {T VT t : TypeId} {b : Nat} {kvs : List (α × β)}
theorem RQ.eq {v u : Value} (h : v = u) (hr : RQ K o E H v) : RQ K o E H u := h ▸ hr
end
end Go.Proofs.YtbcnegennmpliaaDoor

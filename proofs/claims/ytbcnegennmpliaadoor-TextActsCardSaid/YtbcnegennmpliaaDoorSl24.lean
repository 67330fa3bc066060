/- Ranges over maps of pointers, whatever the order; the sorted keys of such a map. Conditions: as each says. -/
import Derived.Test.YtbcnegennmpliaaDoorSl23
import Derived.Maps.RangeRun
namespace Go.Proofs.YtbcnegennmpliaaDoor
set_option linter.unusedVariables false
set_option linter.unusedSimpArgs false
set_option linter.unusedSectionVars false
open Go.RowKit
section
variable {α β S : Type} [DecidableEq α]
end
section
variable {K : Cx} {R S Y : Type} {Q : Post R} {E : Env} {H : List HA} {opt : Option R} {ops : Array Oper} {rest : List Oper} {o : Oper} {α β Z : Type} [DecidableEq α] {ek : α → Value} {fp : Nat → β → Z → List HA} {T VT t : TypeId} {b r : Nat} {kps : List (α × Nat)} {kvs : List (α × β)} {c : Code}
theorem Ent.into {A A' X : HA} {l : List HA} (h : ∀ h, A h → star A' tt h) : Ent (star A X :: l) (star A' X :: l) := by
  intro hp s
  have s1 : star (star A X) (stars l) hp := s
  rw [star_assoc] at s1
  have s2 := star_left hp h s1
  rw [star_assoc] at s2
  show star (star A' X) (stars l) hp
  rw [star_assoc]
  refine star_right hp (fun h s => ?_) s2
  have s3 := star_swap s
  exact star_right h (fun h s => stars_absorb l tt h s) s3
end
section
variable {K : Cx} {E : Env} {H : List HA} {o : Oper} {α : Type} {n : Nat} {V : α → List Value → Prop} {xs : List α}
end
theorem RowV.empty {α : Type} {T n c : Nat} {V V' : α → List Value → Prop} {a : Option Addr} {p : Hp} (h : RowV T n V a ([] : List α) c p) : RowV T n V' a ([] : List α) c p := by
  obtain ⟨rs, hl, hr⟩ := h
  cases rs with
  | nil => exact ⟨[], trivial, hr⟩
  | cons r rs => exact hl.elim
end Go.Proofs.YtbcnegennmpliaaDoor

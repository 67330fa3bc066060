/- Maps whose values are pointers to variables of our own: what each key's pointer leads to belongs to the map; one key's may be taken out. Conditions: none. -/
import Derived.Test.YtbcnegennmpliaaDoorSl21
namespace Go.Proofs.YtbcnegennmpliaaDoor
set_option linter.unusedVariables false
set_option linter.unusedSimpArgs false
set_option linter.unusedSectionVars false
open Go.RowKit
theorem star_left {A A' B : HA} (h : Hp) (ha : ∀ h, A h → A' h) (s : star A B h) : star A' B h := star_mono h ha (fun _ x => x) s
theorem star_right {A B B' : HA} (h : Hp) (hb : ∀ h, B h → B' h) (s : star A B h) : star A B' h := star_mono h (fun _ x => x) hb s
theorem star_swap {A B C : HA} {h : Hp} (s : star A (star B C) h) : star B (star A C) h := by
  rw [← star_assoc, star_comm A B, star_assoc] at s; exact s
abbrev encP (p : Nat) : Value := .pointer (some ⟨p, 0, none⟩)
section
variable {α β Z : Type} [DecidableEq α] {ek : α → Value} {fp : Nat → β → Z → List HA}
end
section
variable {α β Z : Type} [DecidableEq α] {ek : α → Value} {fp : Nat → β → Z → List HA} {M : HA} {kps : List (α × Nat)} {kvs : List (α × β)} {l m : List HA}
theorem getD_some {δ : Type} {o : Option δ} {d : δ} (h : o.isSome = true) : o = some (o.getD d) := by cases o with
  | none => cases h
  | some x => rfl
end
section
variable {K : Cx} {R S Y : Type} {Q : Post R} {E : Env} {H : List HA} {opt : Option R} {ops : Array Oper} {rest : List Oper} {o : Oper} {α β Z : Type} [DecidableEq α] {ek : α → Value} {fp : Nat → β → Z → List HA} {T VT t : TypeId} {M : HA} {kps : List (α × Nat)} {kvs : List (α × β)} {c : Code}
end
section
variable {K : Cx} {R S Y : Type} {Q : Post R} {E : Env} {H : List HA} {opt : Option R} {ops : Array Oper} {rest : List Oper} {o : Oper} {α β Z : Type} [DecidableEq α] {ek : α → Value} {fp : Nat → β → Z → List HA} {T VT t : TypeId} {b : Nat} {kps : List (α × Nat)} {kvs : List (α × β)} {c : Code}
def TellsP (H : List HA) (b : Nat) (ek : α → Value) (kps : List (α × Nat)) (kvs : List (α × β)) : Prop := ∃ X rst, Ent H (mapO b ek encP kps :: X :: rst) ∧ ∀ h, X h → kps.map (·.1) = kvs.map (·.1)
theorem TellsP.keys (t : TellsP H b ek kps kvs) {W w : World} (s : Sat W H w) : kps.map (·.1) = kvs.map (·.1) := by
  obtain ⟨X, rst, e, hX⟩ := t
  obtain ⟨_, _, _, _, _, ⟨_, _, _, _, hx, _⟩⟩ := (s.ent e).hp
  exact hX _ hx
end
end Go.Proofs.YtbcnegennmpliaaDoor

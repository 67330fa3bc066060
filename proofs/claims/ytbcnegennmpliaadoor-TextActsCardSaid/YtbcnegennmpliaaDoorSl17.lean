/- Guards that are known, in regions whose operations may come in several orders; cuts of nil; ranges over functions whose rounds' order is open. Conditions: none. -/
import Derived.Test.YtbcnegennmpliaaDoorSl16
namespace Go.Proofs.YtbcnegennmpliaaDoor
set_option linter.unusedVariables false
set_option linter.unusedSimpArgs false
set_option linter.unusedSectionVars false
open Go.RowKit
theorem bif_yes {α : Type} {b : Bool} (h : b = true) (u v : α) : (bif b then u else v) = u := by rw [h]; rfl
theorem bif_no {α : Type} {b : Bool} (h : b = false) (u v : α) : (bif b then u else v) = v := by rw [h]; rfl
theorem beq_yes {b : Bool} (h : b = true) : (b == true) = true := by rw [h]; rfl
theorem beq_no {b : Bool} (h : b = false) : (b == false) = true := by rw [h]; rfl
theorem beq_yes' {b : Bool} (h : b = true) : (b == false) = false := by rw [h]; rfl
theorem beq_no' {b : Bool} (h : b = false) : (b == true) = false := by rw [h]; rfl
theorem ndec_yes {p : Prop} [Decidable p] (h : ¬ p) : (!decide p) = true := by simp [h]
theorem ndec_no {p : Prop} [Decidable p] (h : p) : (!decide p) = false := by simp [h]
theorem cv_yes {b want : Bool} (h : (b == want) = true) (v : Value) : v = cv (b == want) v := by rw [h]; rfl
theorem cv_no {b want : Bool} (h : (b == want) = false) (v : Value) : undef = cv (b == want) v := by rw [h]; rfl
section
variable {K : Cx} {R S Y : Type} {Q : Post R} {E : Env} {H : List HA} {o : Option R}
theorem QOb.yes {ops : Array Oper} {anc : List (List Nat)} {val : Nat → Value} {i j dj : Nat} {want b : Bool} {v : Value} {op : Oper} (Ei : Env) (ho : ops[i]? = some op) (hg : op.guard = some (j, want)) (hj : dstOf ops j = some dj) (hb : lk Ei dj = some (.bool b)) (hw : (b == want) = true)
    (he : EnvOk ops anc val E i Ei) (h : RQ K op Ei H v) (hv : val i = v) : QOb K ops anc val E H i :=
  .grd Ei ho hg hj hb he (fun _ => h) (by rw [hv]; exact cv_yes hw v)
theorem QOb.no {ops : Array Oper} {anc : List (List Nat)} {val : Nat → Value} {i j dj : Nat} {want b : Bool} {op : Oper} (Ei : Env) (ho : ops[i]? = some op) (hg : op.guard = some (j, want)) (hj : dstOf ops j = some dj) (hb : lk Ei dj = some (.bool b)) (hw : (b == want) = false)
    (he : EnvOk ops anc val E i Ei) (hv : val i = undef) : QOb K ops anc val E H i :=
  .grd (v := undef) Ei ho hg hj hb he (fun x => by rw [hw] at x; cases x) (by rw [hv]; exact cv_no hw undef)
theorem QOb.und {ops : Array Oper} {anc : List (List Nat)} {val : Nat → Value} {i j dj : Nat} {want : Bool} {op : Oper} (Ei : Env) (ho : ops[i]? = some op) (hg : op.guard = some (j, want)) (hj : dstOf ops j = some dj) (hb : lk Ei dj = some undef)
    (he : EnvOk ops anc val E i Ei) (hv : val i = undef) : QOb K ops anc val E H i :=
  ⟨op, ho, Ei, he, .inr ⟨j, want, dj, hg, hj, .inr ⟨hb, hv⟩⟩⟩
theorem EnvOk.v {ops : Array Oper} {anc : List (List Nat)} {val : Nat → Value} {E : Env} {i : Nat} {l : Env} {s : Nat} (p : Nat) (hp : (ancAt anc i).contains p = true) (hd : dstOf ops p = some s) (r : EnvOk ops anc val E i l) : EnvOk ops anc val E i ((s, val p) :: l) := .w p hp hd rfl r
theorem qp {ops : Array Oper} {anc : List (List Nat)} {val : Nat → Value} {i : Nat} {op : Oper} {v : Value} {Ei : Env} (ho : ops[i]? = some op) (hg : op.guard = none) (he : EnvOk ops anc val E i Ei) (h : RQ K op Ei H v) (hv : val i = v) : QOb K ops anc val E H i := .plain Ei ho hg he h hv
theorem qy {ops : Array Oper} {anc : List (List Nat)} {val : Nat → Value} {i j dj : Nat} {want b : Bool} {v : Value} {op : Oper} {Ei : Env} (ho : ops[i]? = some op) (hg : op.guard = some (j, want)) (he : EnvOk ops anc val E i Ei) (hj : dstOf ops j = some dj) (hb : lk Ei dj = some (.bool b)) (hw : (b == want) = true)
    (h : RQ K op Ei H v) (hv : val i = v) : QOb K ops anc val E H i := .yes Ei ho hg hj hb hw he h hv
theorem qn {ops : Array Oper} {anc : List (List Nat)} {val : Nat → Value} {i j dj : Nat} {want b : Bool} {op : Oper} {Ei : Env} (ho : ops[i]? = some op) (hg : op.guard = some (j, want)) (he : EnvOk ops anc val E i Ei) (hj : dstOf ops j = some dj) (hb : lk Ei dj = some (.bool b)) (hw : (b == want) = false)
    (hv : val i = undef) : QOb K ops anc val E H i := .no Ei ho hg hj hb hw he hv
theorem qu {ops : Array Oper} {anc : List (List Nat)} {val : Nat → Value} {i j dj : Nat} {want : Bool} {op : Oper} {Ei : Env} (ho : ops[i]? = some op) (hg : op.guard = some (j, want)) (he : EnvOk ops anc val E i Ei) (hj : dstOf ops j = some dj) (hb : lk Ei dj = some undef)
    (hv : val i = undef) : QOb K ops anc val E H i := .und Ei ho hg hj hb he hv
theorem eo {ops : Array Oper} {anc : List (List Nat)} {Γ Z : Type} {val : Γ → Nat → Value} {heap : Nat → Γ → List HA} {m i : Nat} {pre : List Nat} {γ : Γ} {op : Oper} {v : Z → Value} {H' : Z → List HA} {Ei : Env} (f : Z → Γ) (ho : ops[i]? = some op) (hg : op.guard = none) (he : EnvOk ops anc (val γ) E i Ei)
    (h : RE K (Y := Z) op Ei (heap m γ) v H') (ha : ∀ z, Agree pre (val (f z)) (val γ)) (hv : ∀ z, op.dst = none ∨ v z = val (f z) i) (hH : ∀ z, Ent (H' z) (heap (m + 1) (f z))) : EOb K ops anc val E heap m i pre γ := .mk Ei f ho hg he h ha hv hH
abbrev rL (n : Nat) : List Nat := List.range n
theorem zA {p : Nat → Prop} : All [] p := trivial
theorem ac {l : List Nat} {p : Nat → Prop} {i : Nat} (h : p i) (r : All l p) : All (i :: l) p := ⟨h, r⟩
end
end Go.Proofs.YtbcnegennmpliaaDoor

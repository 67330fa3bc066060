/- Small things: a part of a row's element; a row that is cut where an operation needs it. Conditions: as each says. -/
import Derived.Test.YtbcnegennmpliaaDoorSl19
namespace Go.Proofs.YtbcnegennmpliaaDoor
set_option linter.unusedVariables false
set_option linter.unusedSimpArgs false
open Go.RowKit
section
variable {K : Cx} {Y : Type} {E : Env} {H : List HA} {o : Oper} {v : Y → Value} {H' : Y → List HA}
theorem RE.ent {H1 : List HA} (e : Ent H H1) (h : RE K o E H1 v H') : RE K o E H v H' := fun a w he hs next Q hn => h a w he (hs.ent e) next Q hn
end
section
variable {α : Type} {T : TypeId} {n c : Nat} {a : Option Addr} {V : α → List Value → Prop} {xs : List α} {H : List HA}
end
section
variable {K : Cx} {E : Env} {H : List HA} {o : Oper} {α : Type} {n c : Nat} {a : Option Addr} {V : α → List Value → Prop} {xs : List α}
end
/-! ### What may be nil -/
theorem Fn.when {P : Program} {W : World} {f : FuncId} {args : List Value} {A : List HA} {F : HA} {R Y : Type} {o : Option R} {val val' : R → Y → Value} {B B' : R → Y → List HA} (h : Fn P W f args A F o val B) (flag : R → Bool) (b : Bool)
    (hv : ∀ r y, flag r = b → val r y = val' r y) (hB : ∀ r y, flag r = b → Ent (B r y) (B' r y)) : Fn P W f args A F (o.filter fun r => flag r == b) val' B' := by
  intro r hr w hs
  obtain ⟨h1, h2⟩ := Option.filter_eq_some_iff.1 hr
  have h3 : flag r = b := by simpa using h2
  refine (h r h1 w hs).mono ?_
  rintro e w' ⟨y, he, s⟩
  exact ⟨y, by rw [he, hv r y h3], s.ent (Ent.app (hB r y h3) (Ent.refl _))⟩
/-! ### Short forms -/
section
variable {K : Cx} {R S Y : Type} {Q : Post R} {E : Env} {H : List HA} {opt : Option R} {ops : Array Oper} {rest : List Oper}
theorem vq {d : Nat} {v : Value} {p : Op} {t : TypeId} {ps : String} {af : Array Edge} (hr : RQ K ⟨some d, p, t, ps, af, none⟩ E H v) (hn : Nat.blt d K.n = true) (h : SimL K Q ops rest ((d, v) :: E) H opt) : SimL K Q ops (⟨some d, p, t, ps, af, none⟩ :: rest) E H opt := simL_val hr rfl rfl hn h
theorem vm {d : Nat} {v : Value} {x : Operand} {t : TypeId} {ps : String} {af : Array Edge} (hx : ev E x = some v) (hn : Nat.blt d K.n = true) (h : SimL K Q ops rest ((d, v) :: E) H opt) : SimL K Q ops (⟨some d, .move x, t, ps, af, none⟩ :: rest) E H opt := simL_val (q_move rfl hx) rfl rfl hn h
theorem va {d : Nat} {v : Value} {x : Operand} {t : TypeId} {ps : String} {af : Array Edge} (hx : ev E x = some v) (hn : Nat.blt d K.n = true) (h : SimL K Q ops rest ((d, v) :: E) H opt) : SimL K Q ops (⟨some d, .assign x, t, ps, af, none⟩ :: rest) E H opt := simL_val (q_asg rfl hx) rfl rfl hn h
theorem vn {d : Nat} {x : Operand} {ad : Addr} {t : TypeId} {ps : String} {af : Array Edge} (hx : ev E x = some (.pointer (some ad))) (hn : Nat.blt d K.n = true) (h : SimL K Q ops rest ((d, .pointer (some ad)) :: E) H opt) : SimL K Q ops (⟨some d, .nilCheck x, t, ps, af, none⟩ :: rest) E H opt := simL_val (q_nil rfl hx) rfl rfl hn h
theorem nx {id : Nat} {l : List Oper} {c2 : Code} (h : SimL K (thenQ K c2 Q) l.toArray l E H opt) : SimL K (thenQ K (.seq (.region id l.toArray false) c2) Q) ops [] E H opt := simL_nil (nrm_then (sim_seq (sim_region h)))
theorem ny {id : Nat} {l : List Oper} (h : SimL K Q l.toArray l E H opt) : SimL K (thenQ K (.region id l.toArray false) Q) ops [] E H opt := simL_nil (nrm_then (sim_region h))
theorem sr {id : Nat} {l : List Oper} {c2 : Code} (h : SimL K (thenQ K c2 Q) l.toArray l E H opt) : Sim K Q (.seq (.region id l.toArray false) c2) E H opt := sim_seq (sim_region h)
theorem qm {anc : List (List Nat)} {val : Nat → Value} {i : Nat} {d : Option Nat} {x : Operand} {t : TypeId} {ps : String} {af : Array Edge} {Ei : Env} (ho : ops[i]? = some ⟨d, .move x, t, ps, af, none⟩) (he : EnvOk ops anc val E i Ei) (hx : ev Ei x = some (val i)) : QOb K ops anc val E H i := .plain Ei ho rfl he (q_move rfl hx) rfl
theorem aq {Γ : Type} {l : List Nat} {p : Γ → Nat → Nat → Prop} {f : Nat → List Nat} {i j : Nat} (hf : f i = [j]) (h : ∀ γ, p γ i j) (r : All l fun i => ∀ γ, All (f i) fun j => p γ i j) : All (i :: l) fun i => ∀ γ, All (f i) fun j => p γ i j := ⟨fun γ => by rw [hf]; exact ⟨h γ, trivial⟩, r⟩
end
end Go.Proofs.YtbcnegennmpliaaDoor

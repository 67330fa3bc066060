/- A region whose operations may come in several orders, where those that turn the heap are not one chain. Conditions: as of the rule for a chain. -/
import Derived.Test.YtbcnegennmpliaaDoorSl13
namespace Go.Proofs.YtbcnegennmpliaaDoor
set_option linter.unusedVariables false
set_option linter.unusedSimpArgs false
open Go.RowKit
section
variable {K : Cx} {R S Y : Type} {Q : Post R} {E : Env} {H : List HA} {o : Option R}
def EObI (K : Cx) (ops : Array Oper) (anc : List (List Nat)) {Γ : Type} (val : Γ → Nat → Value) (E : Env) (heap : Nat → Γ → List HA) (s t i : Nat) (pre : List Nat) (γ : Γ) : Prop :=
  ∃ op, ops[i]? = some op ∧ ∃ Ei, EnvOk ops anc (val γ) E i Ei ∧ GOk ops op Ei ∧
    RE K (Y := { γ' : Γ // Agree pre (val γ') (val γ) }) op Ei (heap s γ) (fun γ' => val γ'.1 i) (fun γ' => heap t γ'.1)
theorem EObI.gen {ops : Array Oper} {anc : List (List Nat)} {Γ Z : Type} {val : Γ → Nat → Value} {heap : Nat → Γ → List HA} {s t i : Nat} {pre : List Nat} {γ : Γ} {op : Oper} {v : Z → Value} {H' : Z → List HA} (Ei : Env) (f : Z → Γ) (ho : ops[i]? = some op) (hg : GOk ops op Ei) (he : EnvOk ops anc (val γ) E i Ei)
    (h : RE K (Y := Z) op Ei (heap s γ) v H') (ha : ∀ z, Agree pre (val (f z)) (val γ)) (hv : ∀ z, op.dst = none ∨ v z = val (f z) i) (hH : ∀ z, Ent (H' z) (heap t (f z))) : EObI K ops anc val E heap s t i pre γ :=
  ⟨op, ho, Ei, he, hg, fun a w hh hs next Q hn => h a w hh hs next Q fun z w' s => by
    have := hn ⟨f z, ha z⟩ w' (s.ent (hH z))
    rcases hv z with e | e
    · rw [e] at this ⊢; exact this
    · rw [e]; exact this⟩
theorem EObI.mk {ops : Array Oper} {anc : List (List Nat)} {Γ Z : Type} {val : Γ → Nat → Value} {heap : Nat → Γ → List HA} {s t i : Nat} {pre : List Nat} {γ : Γ} {op : Oper} {v : Z → Value} {H' : Z → List HA} (Ei : Env) (f : Z → Γ) (ho : ops[i]? = some op) (hg : op.guard = none) (he : EnvOk ops anc (val γ) E i Ei)
    (h : RE K (Y := Z) op Ei (heap s γ) v H') (ha : ∀ z, Agree pre (val (f z)) (val γ)) (hv : ∀ z, op.dst = none ∨ v z = val (f z) i) (hH : ∀ z, Ent (H' z) (heap t (f z))) : EObI K ops anc val E heap s t i pre γ :=
  EObI.gen Ei f ho (.inl hg) he h ha hv hH
theorem EObI.yes {ops : Array Oper} {anc : List (List Nat)} {Γ Z : Type} {val : Γ → Nat → Value} {heap : Nat → Γ → List HA} {s t i : Nat} {pre : List Nat} {γ : Γ} {j dj : Nat} {want b : Bool} {op : Oper} {v : Z → Value} {H' : Z → List HA} (Ei : Env) (f : Z → Γ) (ho : ops[i]? = some op) (hg : op.guard = some (j, want)) (hj : dstOf ops j = some dj) (hb : lk Ei dj = some (.bool b)) (hw : (b == want) = true) (he : EnvOk ops anc (val γ) E i Ei)
    (h : RE K (Y := Z) op Ei (heap s γ) v H') (ha : ∀ z, Agree pre (val (f z)) (val γ)) (hv : ∀ z, op.dst = none ∨ v z = val (f z) i) (hH : ∀ z, Ent (H' z) (heap t (f z))) : EObI K ops anc val E heap s t i pre γ :=
  EObI.gen Ei f ho (.inr ⟨j, want, dj, b, hg, hj, hb, hw⟩) he h ha hv hH
def stg (ids : List (List Nat)) (s : Nat) : List Nat := ids.getD s []
def apart (anc : List (List Nat)) (effs : List Nat) (ids : List (List Nat)) (i s : Nat) : Bool :=
  effs.any fun e => ((ancAt anc i).contains e && !(stg ids s).contains e) || ((ancAt anc e).contains i && (stg ids s).contains e)
theorem RE.lend {op : Oper} {v : Y → Value} {H' : Y → List HA} {T : TypeId} {sz n c : Nat} {a : Option Addr} {cs : List Value} (k : Nat) (hk : H[k]? = some (Row T sz a n c cs)) (h : Rd (Row T sz a n c cs) a cs → n ≤ c → c ≤ maxLen → n * sz ≤ cs.length → RE K op E H v H') : RE K op E H v H' := by
  intro a' w he hs next Q hn
  rcases (hs.focus hk).row_cases with ⟨h1, h2, h3, h0⟩ | ⟨b, off, pre, junk, fz, ha, ok, _⟩
  · subst h2; subst h3
    exact h (.inl h0) (Nat.le_refl _) (Nat.zero_le _) (by simp) a' w he hs next Q hn
  · subst ha
    refine h (.inr ⟨b, off, rfl, fun x hx => ?_⟩) ok.le ok.cap ok.len a' w he hs next Q hn
    rcases hx with ⟨h, _⟩ | ⟨b', off', pre', junk', fz', e, ok', hb⟩
    · cases h
    · cases e
      refine ⟨_, T, fz', hb, fun j v hj => ?_⟩
      have := getElem?_mid (pre := pre') (junk := junk') hj
      rw [ok'.offs] at this
      simpa using this
theorem sim_posV {α : Type} {V : α → List Value → Prop} {xs : List α} {cd : Code} {T : TypeId} {n c : Nat} {a : Option Addr} {rs : List (List Value)} {i : Nat} (k : Nat) (hk : H[k]? = some (Row T n a xs.length c rs.flatten)) (hl : ListV n V xs rs) (hn : Nat.blt 0 n = true) (hi : i < xs.length) (d : α)
    (h : ∀ b off r, a = some ⟨b, off, none⟩ → V (xs.getD i d) r → r.length = n → (∀ {H' : List HA} (k : Nat), H'[k]? = some (Row T n a xs.length c rs.flatten) → ∀ j v, r[j]? = some v → CellAt H' b (off + i * n + j) v) → Sim K Q cd E H o) : Sim K Q cd E H o := by
  intro r hr a' w he hs
  exact simL_posV (rest := []) (ops := #[]) (Q := fun r e a w => cd.wpIn (fen K.ro) 0 K.P (Q r) a w) k hk hl hn hi d (fun b off r h1 h2 h3 h4 r hr a w he hs => h b off _ h1 h2 h3 h4 r hr a w he hs) r hr a' w he hs
end
end Go.Proofs.YtbcnegennmpliaaDoor

/- Elements of a list of our own, where its address has no name (the order is drawn). Conditions: none. -/
import Derived.Test.YtbcnegennmpliaaDoorSl27
namespace Go.Proofs.YtbcnegennmpliaaDoor
open Go.RowKit
set_option linter.unusedVariables false
set_option linter.unusedSimpArgs false
theorem one_nil : one [] := fun v h => by cases h
theorem one_cons {v : Value} {vs : List Value} (h : v.oneCell' = true) (t : one vs) : one (v :: vs) := fun x hx => by
  rcases List.mem_cons.1 hx with rfl | hx
  · exact h
  · exact t x hx
theorem fnV_one (x : Option Nat) : (fnV x).oneCell' = true := by cases x <;> rfl
def atV (a : Option Addr) (k : Nat) : Value := match a with
  | some p => .pointer (some ⟨p.block, p.off + k, none⟩)
  | none => .nilIface
section
variable {K : Cx} {E : Env} {H : List HA} {o : Oper} {α : Type} {V : α → List Value → Prop} {a : Option Addr} {xs : List α} {T : TypeId} {c : Nat}
theorem sat_posV {W w : World} (k : Nat) (hk : H[k]? = some (RowV T 1 V a xs c)) (s : Sat W H w) {i : Nat} (hi : i < xs.length) (d : α) :
    ∃ b off r, a = some ⟨b, off, none⟩ ∧ V (xs.getD i d) r ∧ r.length = 1 ∧ w.cell? ⟨b, off + i, none⟩ = r[0]? := by
  obtain ⟨rs, hl, s'⟩ := sat_openV k hk s
  obtain ⟨r, hV, hlr, _, hc⟩ := hl.at d hi
  have hkl : k < H.length := (List.getElem?_eq_some_iff.1 hk).1
  have hk' : (H.set k (Row T 1 a xs.length c rs.flatten))[k]? = some (Row T 1 a xs.length c rs.flatten) := by simp [hkl]
  have h0 : rs.flatten ≠ [] := by
    intro h0
    have := hl.flat
    rw [h0] at this
    simp at this
    omega
  rcases (s'.focus hk').row_cases with ⟨_, _, _, e0⟩ | ⟨b, off, pre, junk, fz, ha, _⟩
  · exact absurd e0 h0
  · refine ⟨b, off, r, ha, hV, hlr, ?_⟩
    subst ha
    obtain ⟨v, hv⟩ : ∃ v, r[0]? = some v := ⟨r[0]'(by omega), List.getElem?_eq_getElem (by omega)⟩
    have := (CellAt.row k hk' (hc 0 v hv)).sat s'
    rw [hv]
    simpa using this
theorem q_idxV {x y : Operand} {t e : TypeId} {k : IntKind} {i : Int} (j : Nat) (hk : H[j]? = some (RowV T 1 V a xs c)) (d : α) (ho : o.op = .indexAddr t x y) (hx : ev E x = some (.slice a xs.length c)) (hy : ev E y = some (.int k i))
    (hu : K.P.underlying t = some (.slice e)) (hs : ∀ w, (sizeOf e).run K.P w = .ok 1 w) (h0 : 0 ≤ i) (h1 : i < xs.length) : RQ K o E H (atV a i.toNat) := fun a' w he s => by
  obtain ⟨b, off, r, ha, _⟩ := sat_posV j hk s (i := i.toNat) (by omega) d
  subst ha
  have := q_idx1 (K := K) (E := E) (H := H) ho hx hy rfl hu hs h0 h1
  exact this a' w he s
theorem q_loadV {x : Operand} {t : TypeId} {i : Nat} (f : α → Value) (j : Nat) (hk : H[j]? = some (RowV T 1 V a xs c)) (d : α) (hV : ∀ x r, V x r → r = [f x]) (ho : o.op = .load t x) (hx : ev E x = some (atV a i))
    (ha : ∀ w, (isAgg t).run K.P w = .ok false w) (hi : i < xs.length) : RQ K o E H (f (xs.getD i d)) :=
  rq_same (by rw [ho]; intro c h; cases h) fun a' w he s => by
    obtain ⟨b, off, r, e, h1, h2, h3⟩ := sat_posV j hk s hi d
    subst e
    rw [hV _ _ h1] at h3
    unfold execOp; simp only [ho]; rw [he.ev hx]
    unfold atV
    have h4 : w.cell? ⟨b, off + i, none⟩ = some (f (xs.getD i d)) := h3
    simp [Instr.loadAt, Instr.sureAddr, loadVar, ha, h4]
end
/-! ### Effects that only add, told by lists: what each value and each part hangs on is said beside it -/
theorem All.of {l : List Nat} {p : Nat → Prop} (h : ∀ i, i ∈ l → p i) : All l p := by
  induction l with
  | nil => trivial
  | cons a l ih => exact ⟨h a (List.mem_cons_self ..), ih fun i hi => h i (List.mem_cons_of_mem _ hi)⟩
theorem Agree.of {l : List Nat} {f g : Nat → Value} (h : ∀ i, i ∈ l → f i = g i) : Agree l f g := by
  induction l with
  | nil => trivial
  | cons a l ih => exact ⟨h a (List.mem_cons_self ..), ih fun i hi => h i (List.mem_cons_of_mem _ hi)⟩
def valL (vl : List ((Nat → Nat) → Value)) (γ : Nat → Nat) (i : Nat) : Value := vl.getD i (fun _ => undef) γ
def addL (al : List ((Nat → Nat) → List HA)) (γ : Nat → Nat) (i : Nat) : List HA := al.getD i (fun _ => []) γ
def DepOk : List ((Nat → Nat) → Value) → List ((Nat → Nat) → List HA) → List (List Nat) → Prop
  | v :: vs, a :: zs, d :: ds => (∀ γ γ' : Nat → Nat, (∀ j, j ∈ d → γ j = γ' j) → v γ = v γ' ∧ a γ = a γ') ∧ DepOk vs zs ds
  | [], [], [] => True
  | _, _, _ => False
theorem DepOk.at : ∀ {vl : List ((Nat → Nat) → Value)} {al : List ((Nat → Nat) → List HA)} {dl : List (List Nat)}, DepOk vl al dl → ∀ (i : Nat) (γ γ' : Nat → Nat), (∀ j, j ∈ dl.getD i [] → γ j = γ' j) → valL vl γ i = valL vl γ' i ∧ addL al γ i = addL al γ' i
  | v :: vs, a :: zs, d :: ds, h, 0, γ, γ', e => h.1 γ γ' e
  | v :: vs, a :: zs, d :: ds, h, i + 1, γ, γ', e => h.2.at i γ γ' e
  | [], [], [], _, i, γ, γ', e => ⟨rfl, rfl⟩
theorem addL_flat {γ : Nat → Nat} : ∀ (al : List ((Nat → Nat) → List HA)), (List.range al.length).flatMap (addL al γ) = (al.map fun a => a γ).flatten
  | [] => rfl
  | a :: zs => by
    rw [List.length_cons, List.range_succ_eq_map, List.flatMap_cons, List.flatMap_map, List.map_cons, List.flatten_cons]
    congr 1
    exact addL_flat zs
section
variable {K : Cx} {R S Y : Type} {Q : Post R} {E : Env} {H : List HA} {o : Option R}
def EObB (K : Cx) (ops : Array Oper) (anc : List (List Nat)) (val : (Nat → Nat) → Nat → Value) (add : (Nat → Nat) → Nat → List HA) (E : Env) (H X : List HA) (i : Nat) (γ : Nat → Nat) : Prop :=
  ∃ op, ops[i]? = some op ∧ ∃ Ei, EnvOk ops anc (val γ) E i Ei ∧ GOk ops op Ei ∧
    RE K (Y := Nat) op Ei (H ++ X) (fun z => val (updN γ i z) i) (fun z => H ++ (add (updN γ i z) i ++ X))
theorem EObB.mk {ops : Array Oper} {anc : List (List Nat)} {Z : Type} {val : (Nat → Nat) → Nat → Value} {add : (Nat → Nat) → Nat → List HA} {X : List HA} {i : Nat} {γ : Nat → Nat} {op : Oper} {v : Z → Value} {H' : Z → List HA} (Ei : Env) (f : Z → Nat) (ho : ops[i]? = some op) (hg : op.guard = none) (he : EnvOk ops anc (val γ) E i Ei)
    (h : RE K (Y := Z) op Ei (H ++ X) v H') (hv : ∀ z, v z = val (updN γ i (f z)) i) (hH : ∀ z, Ent (H' z) (H ++ (add (updN γ i (f z)) i ++ X))) : EObB K ops anc val add E H X i γ :=
  ⟨op, ho, Ei, he, .inl hg, fun a w hh hs next Q hn => h a w hh hs next Q fun z w' s => by
    have := hn (f z) w' (s.ent (hH z))
    rw [hv z]; exact this⟩
theorem updN_ne {γ : Nat → Nat} {i z j : Nat} (h : j ≠ i) : updN γ i z j = γ j := by
  unfold updN
  rw [if_neg (by simp [h])]
theorem sim_drawB {id : Nat} {l : List Oper} (anc : List (List Nat)) (effs quiets : List Nat) (pre : Nat → List Nat) (vl : List ((Nat → Nat) → Value)) (al : List ((Nat → Nat) → List HA)) (dl : List (List Nat)) (E2 : (Nat → Nat) → Env)
    (hmix : K.P.follows .mixedOrders = true)
    (hon : onOk l.toArray = true) (hanc : ancOk l.toArray anc = true) (hal : Nat.ble anc.length l.length = true) (hdst : dstOk l.toArray = true)
    (hall : ((List.range l.length).all fun i => effs.contains i || quiets.contains i) = true)
    (nn : Nat) (hnn : K.n = nn) (hdn : ((List.range l.length).all fun i => match dstOf l.toArray i with | some d => Nat.blt d nn | none => true) = true)
    (hpre' : (effs.all fun i => notBehind l.toArray anc i (pre i)) = true)
    (hdep : (effs.all fun i => (pre i).all fun q => !(dl.getD q []).contains i) = true) (hlen : al.length = l.length)
    (hdk : DepOk vl al dl)
    (hqa : All quiets fun i => ∀ γ, addL al γ i = [])
    (hq : All quiets fun i => ∀ γ X, QOb K l.toArray anc (valL vl γ) E (H ++ X) i)
    (he : All effs fun i => ∀ γ X, EObB K l.toArray anc (valL vl) (addL al) E H X i γ)
    (hE : ∀ γ, Sub (E2 γ) (envL l.toArray (valL vl γ) E (List.range l.length).reverse))
    (h : ∀ γ, Nrm K Q (E2 γ) (H ++ (al.map fun a => a γ).flatten) o) : Sim K Q (.region id l.toArray true) E H o := by
  refine sim_drawA anc effs quiets pre (valL vl) (addL al) E2 hmix hon hanc hal hdst hall nn hnn hdn hpre' hqa hq ?_ hE ?_
  · refine All.of fun i hi γ X => ?_
    obtain ⟨op, h1, Ei, h2, h3, h4⟩ := he.mem hi γ X
    have hd : ∀ q, q ∈ pre i → ∀ z, valL vl (updN γ i z) q = valL vl γ q ∧ addL al (updN γ i z) q = addL al γ q := fun q hq z => by
      refine hdk.at q _ _ fun j hj => updN_ne fun e => ?_
      subst e
      have := List.all_eq_true.1 (List.all_eq_true.1 hdep j hi) q hq
      rw [Bool.not_eq_true'] at this
      rw [List.contains_iff_mem.2 hj] at this
      cases this
    exact ⟨op, h1, Ei, h2, h3, fun z => ⟨Agree.of fun q hq => (hd q hq z).1, All.of fun q hq => (hd q hq z).2⟩, h4⟩
  · intro γ
    rw [← hlen, addL_flat]
    exact h γ
theorem Ent.left {a b : List HA} : Ent (a ++ b) a := by
  induction a with
  | nil => exact Ent.nil _
  | cons x a ih => exact Ent.cons ih
theorem Ent.pick {l m : List HA} (idx : List Nat) (n : Nat) (hn : (idx.all fun i => (idx.count i == 1) && Nat.blt i n) = true) (hl : l.length = n) (hm : idx.map (fun i => l.getD i tt) = m) : Ent l m := by
  have h1 : ∀ i, i ∈ idx → idx.count i = 1 ∧ i < l.length := fun i hi => by
    have := List.all_eq_true.1 hn i hi
    rw [← hl] at this
    simpa [Nat.blt_eq] using this
  have hnd : idx.Nodup := List.nodup_iff_count.2 fun i => by
    by_cases hi : i ∈ idx
    · exact Nat.le_of_eq (h1 i hi).1
    · rw [List.count_eq_zero.2 hi]; omega
  have p : (List.range l.length).Perm (idx ++ (List.range l.length).filter fun i => !idx.contains i) := by
    refine (List.perm_ext_iff_of_nodup List.nodup_range (List.nodup_append.2 ⟨hnd, List.nodup_range.filter _, fun x hx y hy e => ?_⟩)).2 fun i => ?_
    · subst e
      have := (List.mem_filter.1 hy).2
      rw [List.contains_iff_mem.2 hx] at this
      cases this
    · rw [List.mem_append, List.mem_filter, List.mem_range]
      constructor
      · intro h
        by_cases hi : i ∈ idx
        · exact .inl hi
        · exact .inr ⟨h, by simpa using hi⟩
      · rintro (h | h)
        · exact (h1 i h).2
        · exact h.1
  have e : (List.range l.length).map (fun i => l.getD i tt) = l := by
    apply List.ext_getElem?
    intro i
    by_cases hi : i < l.length
    · simp [List.getElem?_map, List.getElem?_range hi, hi]
    · rw [List.getElem?_eq_none (by simp; omega), List.getElem?_eq_none (by omega)]
  have p2 := p.map fun i => l.getD i tt
  rw [e, List.map_append, hm] at p2
  exact (Ent.perm p2).trans Ent.left
theorem nrm_heq {E : Env} {H H' : List HA} (e : H = H') (h : Nrm K Q E H' o) : Nrm K Q E H o := by rw [e]; exact h
end
end Go.Proofs.YtbcnegennmpliaaDoor

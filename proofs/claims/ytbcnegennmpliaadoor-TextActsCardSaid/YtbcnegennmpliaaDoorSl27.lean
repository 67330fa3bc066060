/- A region whose operations may come in many orders, where each that turns the heap only adds to it. Conditions: as each says. -/
import Derived.Test.YtbcnegennmpliaaDoorSl26
namespace Go.Proofs.YtbcnegennmpliaaDoor
set_option linter.unusedVariables false
set_option linter.unusedSimpArgs false
open Go.RowKit
theorem Ent.perm {l m : List HA} (p : l.Perm m) : Ent l m := by
  induction p with
  | nil => exact Ent.refl _
  | cons a _ ih => exact Ent.cons ih
  | swap a b l => exact Ent.sel 1 rfl (Ent.refl _)
  | trans _ _ ih1 ih2 => exact ih1.trans ih2
def updN (γ : Nat → Nat) (i z : Nat) : Nat → Nat := fun j => if Nat.beq j i then z else γ j
section
variable {K : Cx} {R S Y : Type} {Q : Post R} {E : Env} {H : List HA} {o : Option R}
def EObA (K : Cx) (ops : Array Oper) (anc : List (List Nat)) (val : (Nat → Nat) → Nat → Value) (add : (Nat → Nat) → Nat → List HA) (E : Env) (H X : List HA) (i : Nat) (pre : List Nat) (γ : Nat → Nat) : Prop :=
  ∃ op, ops[i]? = some op ∧ ∃ Ei, EnvOk ops anc (val γ) E i Ei ∧ GOk ops op Ei ∧
    (∀ z, Agree pre (val (updN γ i z)) (val γ) ∧ All pre fun q => add (updN γ i z) q = add γ q) ∧
    RE K (Y := Nat) op Ei (H ++ X) (fun z => val (updN γ i z) i) (fun z => H ++ (add (updN γ i z) i ++ X))
theorem EObA.mk {ops : Array Oper} {anc : List (List Nat)} {Z : Type} {val : (Nat → Nat) → Nat → Value} {add : (Nat → Nat) → Nat → List HA} {X : List HA} {i : Nat} {pre : List Nat} {γ : Nat → Nat} {op : Oper} {v : Z → Value} {H' : Z → List HA} (Ei : Env) (f : Z → Nat) (ho : ops[i]? = some op) (hg : op.guard = none) (he : EnvOk ops anc (val γ) E i Ei)
    (ha : ∀ z, Agree pre (val (updN γ i z)) (val γ)) (hb : ∀ z, All pre fun q => add (updN γ i z) q = add γ q)
    (h : RE K (Y := Z) op Ei (H ++ X) v H') (hv : ∀ z, op.dst = none ∨ v z = val (updN γ i (f z)) i) (hH : ∀ z, Ent (H' z) (H ++ (add (updN γ i (f z)) i ++ X))) : EObA K ops anc val add E H X i pre γ :=
  ⟨op, ho, Ei, he, .inl hg, fun z => ⟨ha z, hb z⟩, fun a w hh hs next Q hn => h a w hh hs next Q fun z w' s => by
    have := hn (f z) w' (s.ent (hH z))
    rcases hv z with e | e
    · rw [e] at this ⊢; exact this
    · rw [e]; exact this⟩
theorem Ent.mid1 {A : HA} {X : List HA} : Ent (A :: (H ++ X)) (H ++ ([A] ++ X)) := Ent.perm (by
  rw [List.singleton_append]; exact List.perm_middle.symm)
theorem sim_drawA {id : Nat} {l : List Oper} (anc : List (List Nat)) (effs quiets : List Nat) (pre : Nat → List Nat) (val : (Nat → Nat) → Nat → Value) (add : (Nat → Nat) → Nat → List HA) (E2 : (Nat → Nat) → Env)
    (hmix : K.P.follows .mixedOrders = true)
    (hon : onOk l.toArray = true) (hanc : ancOk l.toArray anc = true) (hal : Nat.ble anc.length l.length = true) (hdst : dstOk l.toArray = true)
    (hall : ((List.range l.length).all fun i => effs.contains i || quiets.contains i) = true)
    (nn : Nat) (hnn : K.n = nn) (hdn : ((List.range l.length).all fun i => match dstOf l.toArray i with | some d => Nat.blt d nn | none => true) = true)
    (hpre' : (effs.all fun i => notBehind l.toArray anc i (pre i)) = true)
    (hqa : All quiets fun i => ∀ γ, add γ i = [])
    (hq : All quiets fun i => ∀ γ X, QOb K l.toArray anc (val γ) E (H ++ X) i)
    (he : All effs fun i => ∀ γ X, EObA K l.toArray anc val add E H X i (pre i) γ)
    (hE : ∀ γ, Sub (E2 γ) (envL l.toArray (val γ) E (List.range l.length).reverse))
    (h : ∀ γ, Nrm K Q (E2 γ) (H ++ (List.range l.length).flatMap (add γ)) o) : Sim K Q (.region id l.toArray true) E H o := by
  intro r hr a w hh hs
  refine wpIn_region_draw (fun t => ?_)
  rw [hmix, sched_eq]
  have hsz : l.toArray.size = l.length := by simp
  have hal' : anc.length ≤ l.toArray.size := by rw [hsz]; simpa [Nat.ble_eq] using hal
  refine wp_sched (F := fen K.ro) (n := 0) (P := K.P) (Q := Q r)
    (fun L a w => ∃ γ, L.Nodup ∧ (∀ i, i ∈ L → i < l.toArray.size) ∧ Has K.n K.ds (envL l.toArray (val γ) E L) a ∧ Sat K.W (H ++ L.flatMap (add γ)) w)
    hon ?_ ?_ l.toArray.size t (Array.replicate l.toArray.size false) [] a { w with drawn := w.drawn + 1 } (by simp) (by intro i hi; simp only [Array.getD_eq_getD_getElem?, Array.getElem?_replicate]; split <;> simp) (by intro i hi; cases hi) (by intro i hi; cases hi)
    (by refine Nat.le_trans (List.length_filter_le _ _) (by simp)) ⟨fun _ => 0, List.nodup_nil, (by intro i hi; cases hi), hh, by rw [List.flatMap_nil, List.append_nil]; exact hs.drew _⟩
  · rintro i op L a w hoi hno hpre hcl ⟨γ, hnd, hb, hhas, hsat⟩
    have hi : i < l.toArray.size := lt_of_some hoi
    have hil : i < l.length := by rwa [hsz] at hi
    have h1 : ∀ p, p ∈ ancAt anc i → p ∈ L := anc_done hon hanc hal' hcl i hpre
    have h2 : ∀ q, q ∈ L → ∀ p, p ∈ ancAt anc q → p ∈ L := fun q hq => anc_done hon hanc hal' hcl q (hcl q hq)
    have hbl : ∀ q, q ∈ i :: L → q < l.toArray.size := by
      intro q hq
      rcases List.mem_cons.1 hq with rfl | hq
      · exact hi
      · exact hb q hq
    have hnd2 : (i :: L).Nodup := List.nodup_cons.2 ⟨hno, hnd⟩
    have hput : ∀ (γ' : Nat → Nat) (a' : Act) (v : Value), Has K.n K.ds (envL l.toArray (val γ') E L) a' → v = val γ' i ∨ op.dst = none → Has K.n K.ds (envL l.toArray (val γ') E (i :: L)) (a'.put op.dst v) := by
      intro γ' a' v hx hv
      simp only [envL, dstOf, hoi, Option.bind_some]
      cases hd : op.dst with
      | none => exact hx
      | some d =>
        rcases hv with rfl | hv
        · refine hx.put _ ?_
          have := List.all_eq_true.1 hdn i (by simpa using hil)
          rw [hnn]
          simpa [dstOf, hoi, hd] using this
        · rw [hd] at hv; cases hv
    by_cases hef : i ∈ effs
    · obtain ⟨op', ho', Ei, hEi, hg, hag, hre⟩ := he.mem hef γ (L.flatMap (add γ))
      rw [hoi] at ho'
      cases ho'
      have hEnv : Has K.n K.ds Ei a := hhas.sub (hEi.sub hdst hno hb h1 h2)
      rw [if_pos (wantedG hEnv hg)]
      refine hre a w hEnv hsat _ _ ?_
      intro z w' s'
      have hin : ∀ q, q ∈ L → q ∈ pre i := fun q hq => by
        have hnb := List.all_eq_true.1 hpre' i hef
        have := List.all_eq_true.1 hnb q (by simpa using hb q hq)
        rw [Bool.or_eq_true, Bool.or_eq_true] at this
        rcases this with (e | e) | e
        · simpa using e
        · obtain rfl := Nat.eq_of_beq_eq_true e
          exact absurd hq hno
        · exact absurd (h2 q hq i (by simpa using e)) hno
      have hfm : L.flatMap (add (updN γ i z)) = L.flatMap (add γ) := by
        rw [List.flatMap_def, List.flatMap_def]
        congr 1
        exact List.map_congr_left fun q hq => (hag z).2.mem (hin q hq)
      refine ⟨updN γ i z, hnd2, hbl, hput _ a _ ?_ (.inl rfl), ?_⟩
      · rw [envL_congr (f := val (updN γ i z)) (g := val γ) L fun q hq => (hag z).1.mem (hin q hq)]
        exact hhas
      · rw [List.flatMap_cons, hfm]; exact s'
    · have hqi : i ∈ quiets := by
        have := List.all_eq_true.1 hall i (by simpa using hil)
        rw [Bool.or_eq_true] at this
        rcases this with e | e
        · exact absurd (by simpa using e) hef
        · simpa using e
      obtain ⟨op', ho', Ei, hEi, hcase⟩ := hq.mem hqi γ (L.flatMap (add γ))
      rw [hoi] at ho'
      cases ho'
      have hEnv : Has K.n K.ds Ei a := hhas.sub (hEi.sub hdst hno hb h1 h2)
      have hfm : (i :: L).flatMap (add γ) = L.flatMap (add γ) := by rw [List.flatMap_cons, hqa.mem hqi γ, List.nil_append]
      rcases hcase with ⟨hg, hrq⟩ | ⟨jg, want, dj, hg, hdj, hc2⟩
      · rw [if_pos (by simp [Region.wanted, hg])]
        refine hrq a w hEnv hsat _ _ fun w' s' => ⟨γ, hnd2, hbl, hput γ a _ hhas (.inl rfl), by rw [hfm]; exact s'⟩
      · rcases hc2 with ⟨b, v, hbv, hvi, hrq⟩ | ⟨hu, hvi⟩
        · rw [wanted_of hEnv hg hdj hbv]
          cases hbw : (b == want) with
          | true =>
            rw [hbw] at hvi
            simp only [if_true]
            refine hrq hbw a w hEnv hsat _ _ fun w' s' => ⟨γ, hnd2, hbl, hput γ a _ hhas (.inl hvi.symm), by rw [hfm]; exact s'⟩
          | false =>
            rw [hbw] at hvi
            simp only [Bool.false_eq_true, if_false]
            exact ⟨fun f _ => fen_fn _ _, γ, hnd2, hbl, hput γ a _ hhas (.inl hvi.symm), by rw [hfm]; exact hsat⟩
        · have hnw : Region.wanted op (yielded l.toArray a.tmps) = false := by
            simp only [Region.wanted, hg, yielded]
            rw [show ((l.toArray)[jg]?.bind (·.dst)) = some dj from hdj]
            simp [hEnv.get _ _ hu, undef]
          rw [hnw]
          simp only [Bool.false_eq_true, if_false]
          exact ⟨fun f _ => fen_fn _ _, γ, hnd2, hbl, hput γ a _ hhas (.inl hvi.symm), by rw [hfm]; exact hsat⟩
  · rintro L a w hL ⟨γ, hnd, hb, hhas, hsat⟩
    have hperm : L.Perm (List.range l.length) := (List.perm_ext_iff_of_nodup hnd List.nodup_range).2 fun i => by
      rw [List.mem_range, ← hsz]; exact ⟨hb i, hL i⟩
    refine h γ r hr a w (hhas.sub ((hE γ).congr fun s => ?_)) (hsat.ent (Ent.perm ((hperm.flatMap_right _).append_left H)))
    exact envL_all hdst (fun i hi => by simpa using hi) hL s
end
/-! ### Functions in cells -/
abbrev fnV (x : Option Nat) : Value := match x with
  | none => .nilFunc
  | some f => .func (.func f) #[] #[]
section
variable {K : Cx} {E : Env} {H : List HA} {o : Oper}
theorem rq_cast {v v' : Value} (e : v' = v) (h : RQ K o E H v) : RQ K o E H v' := by subst e; exact h
theorem fnV_eq {P : Program} {xt : TypeId} {x : Option Nat} {a : _} {b : _} {c : _} (hu : P.underlying xt = some (.func a b c)) (w : World) : (Op.equal xt (fnV x) .nilFunc).run P w = .ok (!x.isSome) w := by
  rw [show Op.equal xt (fnV x) .nilFunc = Op.equalIn (9999 + 1) xt (fnV x) .nilFunc from rfl, Op.equalIn]
  cases x <;> simp [underlying, program, Sem.run, hu]
theorem q_neqfn {xt yt : TypeId} {x : Operand} {t : Option Nat} {a : _} {b : _} {c : _} (ho : o.op = .binOp .neq xt x (.const .nilFunc) yt) (hx : ev E x = some (fnV t)) (hu : K.P.underlying xt = some (.func a b c)) : RQ K o E H (.bool t.isSome) :=
  rq_same (by rw [ho]; intro c h; cases h) fun a w he _ => by
    unfold execOp; simp only [ho]; rw [he.ev hx, he.ev (x := .const .nilFunc) rfl]
    have e := fnV_eq (P := K.P) (x := t) hu w
    cases t with
    | none => simp [eqGuard, binOp] at e ⊢; simp [e]
    | some f => simp [eqGuard, binOp] at e ⊢; simp [e]
end
theorem Rd.row_some {T : TypeId} {sz b off n c : Nat} {cs : List Value} : Rd (Row T sz (some ⟨b, off, none⟩) n c cs) (some ⟨b, off, none⟩) cs :=
  .inr ⟨b, off, rfl, fun x hx => by
    rcases hx with ⟨h, _⟩ | ⟨b', off', pre, junk, fz, e, ok, hb⟩
    · cases h
    · cases e
      refine ⟨_, T, fz, hb, fun j v hj => ?_⟩
      have := getElem?_mid (pre := pre) (junk := junk) hj
      rw [ok.offs] at this
      simpa using this⟩
end Go.Proofs.YtbcnegennmpliaaDoor

/- Guards that are known, in regions whose operations may come in several orders; cuts of nil; ranges over functions whose rounds' order is open. Conditions: none. -/
import Derived.Test.YtbcnegennmpliaaDoorSl16
namespace Go.Proofs.YtbcnegennmpliaaDoor
set_option linter.unusedVariables false
set_option linter.unusedSimpArgs false
set_option linter.unusedSectionVars false
open Go.RowKit
theorem bif_yes {α : Type} {b : Bool} (h : b = true) (u v : α) : (bif b then u else v) = u := by rw [h]; rfl
theorem bif_no {α : Type} {b : Bool} (h : b = false) (u v : α) : (bif b then u else v) = v := by rw [h]; rfl
theorem beq_yes {b : Bool} (h : b = true) : (b == true) = true := by rw [h]; rfl
theorem beq_no {b : Bool} (h : b = false) : (b == false) = true := by rw [h]; rfl
theorem beq_yes' {b : Bool} (h : b = true) : (b == false) = false := by rw [h]; rfl
theorem beq_no' {b : Bool} (h : b = false) : (b == true) = false := by rw [h]; rfl
theorem ndec_yes {p : Prop} [Decidable p] (h : ¬ p) : (!decide p) = true := by simp [h]
theorem ndec_no {p : Prop} [Decidable p] (h : p) : (!decide p) = false := by simp [h]
theorem cv_yes {b want : Bool} (h : (b == want) = true) (v : Value) : v = cv (b == want) v := by rw [h]; rfl
theorem cv_no {b want : Bool} (h : (b == want) = false) (v : Value) : undef = cv (b == want) v := by rw [h]; rfl
section
variable {K : Cx} {R S Y : Type} {Q : Post R} {E : Env} {H : List HA} {o : Option R}
theorem QOb.yes {ops : Array Oper} {anc : List (List Nat)} {val : Nat → Value} {i j dj : Nat} {want b : Bool} {v : Value} {op : Oper} (Ei : Env) (ho : ops[i]? = some op) (hg : op.guard = some (j, want)) (hj : dstOf ops j = some dj) (hb : lk Ei dj = some (.bool b)) (hw : (b == want) = true)
    (he : EnvOk ops anc val E i Ei) (h : RQ K op Ei H v) (hv : val i = v) : QOb K ops anc val E H i :=
  .grd Ei ho hg hj hb he (fun _ => h) (by rw [hv]; exact cv_yes hw v)
theorem QOb.no {ops : Array Oper} {anc : List (List Nat)} {val : Nat → Value} {i j dj : Nat} {want b : Bool} {op : Oper} (Ei : Env) (ho : ops[i]? = some op) (hg : op.guard = some (j, want)) (hj : dstOf ops j = some dj) (hb : lk Ei dj = some (.bool b)) (hw : (b == want) = false)
    (he : EnvOk ops anc val E i Ei) (hv : val i = undef) : QOb K ops anc val E H i :=
  .grd (v := undef) Ei ho hg hj hb he (fun x => by rw [hw] at x; cases x) (by rw [hv]; exact cv_no hw undef)
theorem QOb.und {ops : Array Oper} {anc : List (List Nat)} {val : Nat → Value} {i j dj : Nat} {want : Bool} {op : Oper} (Ei : Env) (ho : ops[i]? = some op) (hg : op.guard = some (j, want)) (hj : dstOf ops j = some dj) (hb : lk Ei dj = some undef)
    (he : EnvOk ops anc val E i Ei) (hv : val i = undef) : QOb K ops anc val E H i :=
  ⟨op, ho, Ei, he, .inr ⟨j, want, dj, hg, hj, .inr ⟨hb, hv⟩⟩⟩
theorem EnvOk.v {ops : Array Oper} {anc : List (List Nat)} {val : Nat → Value} {E : Env} {i : Nat} {l : Env} {s : Nat} (p : Nat) (hp : (ancAt anc i).contains p = true) (hd : dstOf ops p = some s) (r : EnvOk ops anc val E i l) : EnvOk ops anc val E i ((s, val p) :: l) := .w p hp hd rfl r
theorem qp {ops : Array Oper} {anc : List (List Nat)} {val : Nat → Value} {i : Nat} {op : Oper} {v : Value} {Ei : Env} (ho : ops[i]? = some op) (hg : op.guard = none) (he : EnvOk ops anc val E i Ei) (h : RQ K op Ei H v) (hv : val i = v) : QOb K ops anc val E H i := .plain Ei ho hg he h hv
theorem qy {ops : Array Oper} {anc : List (List Nat)} {val : Nat → Value} {i j dj : Nat} {want b : Bool} {v : Value} {op : Oper} {Ei : Env} (ho : ops[i]? = some op) (hg : op.guard = some (j, want)) (he : EnvOk ops anc val E i Ei) (hj : dstOf ops j = some dj) (hb : lk Ei dj = some (.bool b)) (hw : (b == want) = true)
    (h : RQ K op Ei H v) (hv : val i = v) : QOb K ops anc val E H i := .yes Ei ho hg hj hb hw he h hv
theorem qn {ops : Array Oper} {anc : List (List Nat)} {val : Nat → Value} {i j dj : Nat} {want b : Bool} {op : Oper} {Ei : Env} (ho : ops[i]? = some op) (hg : op.guard = some (j, want)) (he : EnvOk ops anc val E i Ei) (hj : dstOf ops j = some dj) (hb : lk Ei dj = some (.bool b)) (hw : (b == want) = false)
    (hv : val i = undef) : QOb K ops anc val E H i := .no Ei ho hg hj hb hw he hv
theorem qu {ops : Array Oper} {anc : List (List Nat)} {val : Nat → Value} {i j dj : Nat} {want : Bool} {op : Oper} {Ei : Env} (ho : ops[i]? = some op) (hg : op.guard = some (j, want)) (he : EnvOk ops anc val E i Ei) (hj : dstOf ops j = some dj) (hb : lk Ei dj = some undef)
    (hv : val i = undef) : QOb K ops anc val E H i := .und Ei ho hg hj hb he hv
theorem eo {ops : Array Oper} {anc : List (List Nat)} {Γ Z : Type} {val : Γ → Nat → Value} {heap : Nat → Γ → List HA} {m i : Nat} {pre : List Nat} {γ : Γ} {op : Oper} {v : Z → Value} {H' : Z → List HA} {Ei : Env} (f : Z → Γ) (ho : ops[i]? = some op) (hg : op.guard = none) (he : EnvOk ops anc (val γ) E i Ei)
    (h : RE K (Y := Z) op Ei (heap m γ) v H') (ha : ∀ z, Agree pre (val (f z)) (val γ)) (hv : ∀ z, op.dst = none ∨ v z = val (f z) i) (hH : ∀ z, Ent (H' z) (heap (m + 1) (f z))) : EOb K ops anc val E heap m i pre γ := .mk Ei f ho hg he h ha hv hH
theorem ey {ops : Array Oper} {anc : List (List Nat)} {Γ Z : Type} {val : Γ → Nat → Value} {heap : Nat → Γ → List HA} {m i j dj : Nat} {want b : Bool} {pre : List Nat} {γ : Γ} {op : Oper} {v : Z → Value} {H' : Z → List HA} {Ei : Env} (f : Z → Γ) (ho : ops[i]? = some op) (hg : op.guard = some (j, want)) (he : EnvOk ops anc (val γ) E i Ei)
    (hj : dstOf ops j = some dj) (hb : lk Ei dj = some (.bool b)) (hw : (b == want) = true)
    (h : RE K (Y := Z) op Ei (heap m γ) v H') (ha : ∀ z, Agree pre (val (f z)) (val γ)) (hv : ∀ z, op.dst = none ∨ v z = val (f z) i) (hH : ∀ z, Ent (H' z) (heap (m + 1) (f z))) : EOb K ops anc val E heap m i pre γ := .yes Ei f ho hg hj hb hw he h ha hv hH
theorem eoI {ops : Array Oper} {anc : List (List Nat)} {Γ Z : Type} {val : Γ → Nat → Value} {heap : Nat → Γ → List HA} {s t i : Nat} {pre : List Nat} {γ : Γ} {op : Oper} {v : Z → Value} {H' : Z → List HA} {Ei : Env} (f : Z → Γ) (ho : ops[i]? = some op) (hg : op.guard = none) (he : EnvOk ops anc (val γ) E i Ei)
    (h : RE K (Y := Z) op Ei (heap s γ) v H') (ha : ∀ z, Agree pre (val (f z)) (val γ)) (hv : ∀ z, op.dst = none ∨ v z = val (f z) i) (hH : ∀ z, Ent (H' z) (heap t (f z))) : EObI K ops anc val E heap s t i pre γ := .mk Ei f ho hg he h ha hv hH
theorem eyI {ops : Array Oper} {anc : List (List Nat)} {Γ Z : Type} {val : Γ → Nat → Value} {heap : Nat → Γ → List HA} {s t i j dj : Nat} {want b : Bool} {pre : List Nat} {γ : Γ} {op : Oper} {v : Z → Value} {H' : Z → List HA} {Ei : Env} (f : Z → Γ) (ho : ops[i]? = some op) (hg : op.guard = some (j, want)) (he : EnvOk ops anc (val γ) E i Ei)
    (hj : dstOf ops j = some dj) (hb : lk Ei dj = some (.bool b)) (hw : (b == want) = true)
    (h : RE K (Y := Z) op Ei (heap s γ) v H') (ha : ∀ z, Agree pre (val (f z)) (val γ)) (hv : ∀ z, op.dst = none ∨ v z = val (f z) i) (hH : ∀ z, Ent (H' z) (heap t (f z))) : EObI K ops anc val E heap s t i pre γ := .yes Ei f ho hg hj hb hw he h ha hv hH
abbrev rL (n : Nat) : List Nat := List.range n
theorem zA {p : Nat → Prop} : All [] p := trivial
theorem ac {l : List Nat} {p : Nat → Prop} {i : Nat} (h : p i) (r : All l p) : All (i :: l) p := ⟨h, r⟩
theorem q_cutnil {op : Oper} {x : Operand} {t e : TypeId} {n : Nat} {lo hi : Option Operand} {vl vh : Option Value} {lo' hi' : Int} (ho : op.op = .slice t x lo hi none) (hx : ev E x = some (.slice none 0 0))
    (hl : lim E lo = some vl) (hh : lim E hi = some vh) (hu : K.P.underlying t = some (.slice e)) (hs : ∀ w, (sizeOf e).run K.P w = .ok n w)
    (h1 : (vh = none ∧ hi' = 0) ∨ ∃ k, vh = some (.int k hi')) (h2 : (vl = none ∧ lo' = 0) ∨ ∃ k, vl = some (.int k lo')) (hb : 0 ≤ lo' ∧ lo' ≤ hi' ∧ hi' ≤ 0) : RQ K op E H (.slice none 0 0) := by
  have e1 : lo' = 0 := by omega
  have e2 : hi' = 0 := by omega
  subst e1; subst e2
  have q := q_slice (K := K) (E := E) (H := H) (o := op) (l := 0) (h := 0) ho hx hl hh hu hs (by rcases h1 with ⟨x, y⟩ | y; exact .inl ⟨x, rfl⟩; exact .inr y) (by rcases h2 with ⟨x, y⟩ | y; exact .inl ⟨x, rfl⟩; exact .inr y) (Nat.le_refl _) (Nat.le_refl _)
  simpa using q
theorem sim_rangeR {α R' Y' : Type} {g : Operand} {ps : List Nat} {assign body : Code} {f : FuncId} {cap : List Value} {Cap rst : List HA} {CapB : R' → Y' → List HA} {enc : α → List Value} {o2 : R' → Option R} {oN : Option R'} {val : R' → Y' → Value}
    {step : S → α → Option S} (Inv : S → Y → List HA) (s0 : S) (y0 : Y) (Eb : S → α → Y → Env) (gs : R' → Y' → S) (gy : R' → Y' → Y) (hro : K.ro = none) (hg : ev E g = some (.func (.func f) #[] cap.toArray))
    (hf : ∀ args w, (callFunc f args).run K.P w = .ok (.enter f args) w)
    (it : ∀ l (A : S → Y → HA), YieldOk K.P K.W l enc step A → ∀ X, Fn K.P K.W f (.func (.yield l) #[] #[] :: cap) (A s0 y0 :: Cap) (stars (X :: rst)) oN val (fun r y => A (gs r y) (gy r y) :: CapB r y))
    (hps0 : ps.all (fun p => Nat.blt p K.n) = true) (hen : ∀ x, ps.length = (enc x).length)
    (hH : Ent H (Inv s0 y0 ++ (Cap ++ rst)))
    (hA : ∀ l s x y Fr, Sim ⟨K.P, K.W, some l, K.n, []⟩ (cutQ ⟨K.P, K.W, some l, K.n, []⟩ (fun (_ : Unit) (_ : Unit) => Eb s x y) (fun _ _ => Inv s y ++ [Fr])) assign (putE ps (enc x) E) (Inv s y ++ [Fr]) (some ()))
    (hB : ∀ l s x y Fr, Sim ⟨K.P, K.W, some l, K.n, []⟩ (cutQ ⟨K.P, K.W, some l, K.n, []⟩ (fun (_ : S) (_ : Y) => []) (fun s y => Inv s y ++ [Fr])) body (Eb s x y) (Inv s y ++ [Fr]) (step s x))
    (h : ∀ D r y, Nrm { K with ds := mkD D :: K.ds } Q E (shutD D :: (Inv (gs r y) (gy r y) ++ (CapB r y ++ rst))) (o2 r)) :
    Sim K Q (.rangeFunc g ps.toArray assign body) E H (oN.bind o2) := by
  intro r hr a w he hs
  have hps : ∀ p ∈ ps, p < K.n := fun p hp => by simpa [Nat.blt_eq] using List.all_eq_true.1 hps0 p hp
  cases hfo : oN with
  | none => rw [hfo] at hr; cases hr
  | some rN =>
  rw [hfo] at hr
  rw [hro]
  refine wpIn_rangeFunc fun fn _ => ?_
  have hs1 := hs.new (.deferred (some []))
  have hs2 := hs1.new (.loop { state := .ready, pending := none, fn := fn, tmps := a.tmps, params := ps.toArray, assign := assign, body := body, defers := w.heap.size })
  have hz : ({ w with heap := w.heap.push (.deferred (some [])) } : World).heap.size = w.heap.size + 1 := by simp
  rw [hz] at hs2
  let rec0 : Loop := { state := .ready, pending := none, fn, tmps := a.tmps, params := ps.toArray, assign, body, defers := w.heap.size }
  let w2 : World := (w.alloc (.deferred (some []))).alloc (.loop rec0)
  refine ⟨w.heap.size + 1, [mkD w.heap.size], w2, { target := .fn (.func f) cap.toArray, args := #[.func (.yield (w.heap.size + 1)) #[] #[]] }, w2, f, (Value.func (.yield (w.heap.size + 1)) #[] #[] :: cap).toArray, w2, run_enterLoop_outer fn a.tmps ps.toArray assign body, ?_, ?_⟩
  · have e1 : a.eval (.const (.func (.yield (w.heap.size + 1)) #[] #[])) = .func (.yield (w.heap.size + 1)) #[] #[] := rfl
    simp [resolve, he.ev hg, Deferred.ofValue, e1]
  · refine ⟨fun f' _ => trivial, ?_, (by intro h; cases h), ?_⟩
    · simp [invoke, hf]
    refine callsIn_wide.2 ?_
    have hR : RoundOk K.P K.W (w.heap.size + 1) rec0 enc step Inv :=
      roundOk_of (ps := ps) Eb he rfl rfl rfl rfl hps hen (hA _) (hB _)
    have hY := yieldOk_of hR (fun x => by simpa [rec0] using (hen x).symm)
    have hs3 : Sat K.W ((itA (w.heap.size + 1) rec0 Inv s0 y0 :: Cap) ++ [stars (pts w.heap.size (.deferred (some [])) :: rst)]) w2 := by
      refine hs2.ent ?_
      intro h x
      have x1 : star (pts (w.heap.size + 1) (.loop rec0)) (star (pts w.heap.size (.deferred (some []))) (star (stars (Inv s0 y0)) (stars (Cap ++ rst)))) h :=
        star_mono h (fun _ x => x) (fun h x => star_mono h (fun _ x => x) (fun h x => (stars_app _ _ h).1 (hH h x)) x) x
      have x2 : star (star (pts (w.heap.size + 1) (.loop rec0)) (stars (Inv s0 y0))) (star (pts w.heap.size (.deferred (some []))) (stars (Cap ++ rst))) h := by
        rw [← star_assoc (pts w.heap.size _), star_comm (pts w.heap.size _), star_assoc, ← star_assoc] at x1
        exact x1
      refine star_mono h (fun _ x => x) (fun h x => ?_) x2
      have x3 : star (pts w.heap.size (.deferred (some []))) (star (stars Cap) (stars rst)) h := star_mono h (fun _ x => x) (fun h x => (stars_app _ _ h).1 x) x
      rw [← star_assoc, star_comm (pts _ _), star_assoc] at x3
      exact (stars_app _ _ h).2 (star_mono h (fun _ x => x) (fun h x => star_tt x) x3)
    have hc := it _ _ hY (pts w.heap.size (.deferred (some []))) rN hfo _ hs3
    refine hc.mono ?_
    rintro e w' ⟨y, rfl, s4⟩
    have s5 : Sat K.W (pts (w.heap.size + 1) (.loop rec0) :: (Inv (gs rN y) (gy rN y) ++ (CapB rN y ++ [stars (pts w.heap.size (.deferred (some [])) :: rst)]))) w' := s4.ent (ent_unit _ _)
    have hl := s5.pts_at (i := 0) rfl
    refine ⟨none, _, run_endLoop hl (by simp [rec0]), ?_⟩
    have s6 := s5.upd (o' := .loop { rec0 with state := .exhausted })
    have s7 : Sat K.W (shutD w.heap.size :: (Inv (gs rN y) (gy rN y) ++ (CapB rN y ++ rst))) _ := s6.ent (Ent.drop (by
      intro h x
      rw [← List.append_assoc] at x
      have x2 := (stars_app _ _ h).1 x
      have x3 : star (stars (Inv (gs rN y) (gy rN y) ++ CapB rN y)) (star (pts w.heap.size (.deferred (some []))) (stars rst)) h := star_mono h (fun _ x => x) (fun h (x : star (stars _) tt h) => by
        rw [star_comm] at x
        exact stars_absorb _ tt h x) x2
      rw [← star_assoc, star_comm _ (pts _ _), star_assoc] at x3
      refine star_mono h (fun _ x => x) (fun h x => ?_) x3
      rw [← List.append_assoc]
      exact (stars_app _ _ h).2 x))
    exact h w.heap.size rN y r hr _ _ ⟨he.size, by simp [he.defers, mkD], he.get⟩ s7
end
theorem fn_none {P : Program} {W : World} {f : FuncId} {args : List Value} {A : List HA} {F : HA} {R Y : Type} {o : Option R} {val : R → Y → Value} {B : R → Y → List HA} (h : o = none) : Fn P W f args A F o val B := fun r hr => by rw [h] at hr; cases hr
end Go.Proofs.YtbcnegennmpliaaDoor

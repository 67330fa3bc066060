/- Ranges over functions: an iterator's contract, a round's contract, the statement, the call of yield, and functions that leave with marks. Conditions: none. -/
import Derived.Test.YtbcnegennmpliaaDoorSl10
import Derived.RangeFuncRecord
namespace Go.Proofs.YtbcnegennmpliaaDoor
set_option linter.unusedVariables false
set_option linter.unusedSimpArgs false
open Go.RowKit

/-! ### 1. Marks -/
def mkD (D : Nat) : Deferred := { target := .collected D, args := #[] }
def shutD (D : Nat) : HA := pts D (.deferred (some []))
theorem leavesM {P : Program} {fn : Func} {tmps : Array Value} {R : Ending → World → Prop} {W : World} {B : List HA}
    (hR : ∀ w, Sat W B w → ∃ v, (results fn tmps).run P w = .ok v w ∧ R (.returned v) w) : ∀ (Ds : List Nat) (w : World), Sat W (Ds.map shutD ++ B) w → LeavesInM Fence.wide 0 P fn tmps R (Ds.map mkD) .returning w
  | [], w, s => hR w s
  | D :: Ds, w, s => ⟨by simp, .inl ⟨D, _, rfl, run_takeDeferred (s.pts_at (i := 0) rfl), leavesM hR Ds _ ((s.upd (b := D) (o' := .deferred none)).ent (Ent.drop (Ent.refl _)))⟩⟩
def retQM (K : Cx) {R Y : Type} (fn : Func) (val : R → Y → Value) (B : R → Y → List HA) : Post R := fun r e a w =>
  bodyPostM Fence.wide 0 K.P fn (fun e w' => ∃ y, e = .returned (val r y) ∧ Sat K.W (B r y) w') e a w
section
variable {K : Cx} {R S Y : Type} {Q : Post R} {E : Env} {H : List HA} {o : Option R}
theorem retM {fn : Func} {val : R → Y → Value} {B : R → Y → List HA} {r : R} {vs : List Value} (Ds : List Nat) (y : Y) (hd : K.ds = Ds.map mkD) (hres : resL fn.results.toList E = some vs) (hv : tup vs = val r y) (hH : Ent H (Ds.map shutD ++ B r y)) :
    ∀ r', some r = some r' → ∀ a w, Has K.n K.ds E a → Sat K.W H w → LeavesInM Fence.wide 0 K.P fn a.tmps (fun e w' => ∃ y, e = .returned (val r' y) ∧ Sat K.W (B r' y) w') a.defers .returning w := by
  intro r' hr a w he hs
  cases hr
  rw [he.defers, hd]
  exact leavesM (B := B r y) (fun w s => ⟨_, results_of he hres, y, by rw [hv], s⟩) Ds w (hs.ent hH)
theorem nrm_fnM {fn : Func} {val : R → Y → Value} {B : R → Y → List HA} {r : R} {vs : List Value} (Ds : List Nat) (y : Y) (hd : K.ds = Ds.map mkD) (hres : resL fn.results.toList E = some vs) (hv : tup vs = val r y) (hH : Ent H (Ds.map shutD ++ B r y)) :
    Nrm K (retQM K fn val B) E H (some r) := fun r' hr a w he hs => retM Ds y hd hres hv hH r' hr a w he hs
theorem rtn_fnM {fn : Func} {val : R → Y → Value} {B : R → Y → List HA} {r : R} {vs : List Value} (Ds : List Nat) (y : Y) (hd : K.ds = Ds.map mkD) (hres : resL fn.results.toList E = some vs) (hv : tup vs = val r y) (hH : Ent H (Ds.map shutD ++ B r y)) :
    Rtn K (retQM K fn val B) E H (some r) := fun r' hr a w he hs => retM Ds y hd hres hv hH r' hr a w he hs
theorem fn_introM {P : Program} {W : World} {f : FuncId} {args : List Value} {A : List HA} {F : HA} {o : Option R} {val : R → Y → Value} {B : R → Y → List HA}
    {fn : Func} {c : Code} (n : Nat) (hf : P.funcs[f]? = some fn) (hb : fn.body = some c) (hn : fn.ntmps = n) (hl : Nat.ble args.length n = true)
    (h : Sim ⟨P, W, none, n, []⟩ (retQM ⟨P, W, none, n, []⟩ fn val fun r y => B r y ++ [F]) c (argE 0 args) (A ++ [F]) o) : Fn P W f args A F o val B := by
  intro r hr w hs
  refine (callsIn_wide (n := 0)).1 (callsIn_of_wp_marks hf hb trivial ?_ rfl)
  have := h r hr _ w (has_args args n (by simpa [Nat.ble_eq] using hl)) hs
  rw [hn]
  exact this
end

/-! ### 2. Rounds and iterators -/
def foldO {α S : Type} (step : S → α → Option S) : S → List α → Option S
  | s, [] => some s
  | s, x :: xs => (step s x).bind fun s' => foldO step s' xs
theorem foldO_append {α S : Type} (step : S → α → Option S) : ∀ (xs ys : List α) (s : S), foldO step s (xs ++ ys) = (foldO step s xs).bind fun s' => foldO step s' ys
  | [], ys, s => rfl
  | x :: xs, ys, s => by
    simp only [List.cons_append, foldO]
    cases step s x with
    | none => rfl
    | some s' => exact foldO_append step xs ys s'
def inTmps (ps : List Nat) (vs : List Value) (t : Array Value) : Array Value := (ps.zip vs).foldl (fun tmps (t, a) => tmps.setIfInBounds t a) t
theorem inTmps_eq (ps : Array Nat) (vs : List Value) (t : Array Value) : (ps.zip vs.toArray).foldl (fun tmps (t, a) => tmps.setIfInBounds t a) t = inTmps ps.toList vs t := by
  unfold inTmps
  rw [← Array.foldl_toList]
  simp
def RoundOk (P : Program) (W : World) (l : Nat) (rec : Loop) {α S Y : Type} (enc : α → List Value) (step : S → α → Option S) (Inv : S → Y → List HA) : Prop :=
  ∀ s x s' y (Fr : HA) w, step s x = some s' → Sat W (pts l (.loop rec) :: (Inv s y ++ [Fr])) w →
    RoundIn Fence.wide 0 P l rec.fn (inTmps rec.params.toList (enc x) rec.tmps) rec.assign rec.body w fun e w' => e = .returned (.bool true) ∧ ∃ y', Sat W (pts l (.loop rec) :: (Inv s' y' ++ [Fr])) w'
def YieldOk (P : Program) (W : World) (l : Nat) {α S Y : Type} (enc : α → List Value) (step : S → α → Option S) (A : S → Y → HA) : Prop :=
  ∀ s x s' y (Fr : HA) w, step s x = some s' → Sat W [A s y, Fr] w → ∃ f tmps assign body, (Instr.yield l (enc x).toArray).run P w = .ok (.round l f tmps assign body) w ∧
    RoundIn Fence.wide 0 P l f tmps assign body w fun e w' => e = .returned (.bool true) ∧ ∃ y', Sat W [A s' y', Fr] w'
def itA (l : Nat) (rec : Loop) {S Y : Type} (Inv : S → Y → List HA) (s : S) (y : Y) : HA := stars (pts l (.loop rec) :: Inv s y)
theorem ent_it (L : List HA) (Fr : HA) : Ent (L ++ [Fr]) [stars L, Fr] := fun h s =>
  (stars_app [stars L] [Fr] h).2 (star_mono h (fun _ x => star_tt x) (fun _ x => x) ((stars_app _ _ h).1 s))
theorem ent_unit (L m : List HA) : Ent (stars L :: m) (L ++ m) := fun h s => (stars_app _ _ h).2 s
theorem yieldOk_of {P : Program} {W : World} {l : Nat} {rec : Loop} {α S Y : Type} {enc : α → List Value} {step : S → α → Option S} {Inv : S → Y → List HA} (hR : RoundOk P W l rec enc step Inv) (hp : ∀ x, (enc x).length = rec.params.size) :
    YieldOk P W l enc step (itA l rec Inv) := by
  intro s x s' y Fr w hs hsat
  have s2 : Sat W (pts l (.loop rec) :: (Inv s y ++ [Fr])) w := hsat.ent (ent_unit _ _)
  refine ⟨_, _, _, _, by rw [run_yield (s2.pts_at (i := 0) rfl) (by simpa using hp x), inTmps_eq], ?_⟩
  refine RoundIn.mono (hR s x s' y Fr w hs s2) ?_
  rintro e w' ⟨h1, y', s3⟩
  exact ⟨h1, y', s3.ent (ent_it (pts l (.loop rec) :: Inv s' y') Fr)⟩
theorem ent_tuck (A : HA) (I : List HA) (Fr : HA) : Ent (A :: (I ++ [Fr])) (I ++ [stars [A, Fr]]) := fun h s => by
  refine (stars_app _ _ h).2 ?_
  have s : star A (stars (I ++ [Fr])) h := s
  have s2 : star A (star (stars I) (stars [Fr])) h := star_mono h (fun _ x => x) (fun h x => (stars_app _ _ h).1 x) s
  rw [← star_assoc, star_comm A, star_assoc] at s2
  exact star_mono h (fun _ x => x) (fun h x => star_tt x) s2
theorem ent_untuck (A : HA) (I : List HA) (Fr : HA) : Ent (I ++ [stars [A, Fr]]) (A :: (I ++ [Fr])) := fun h s => by
  have s := (stars_app _ _ h).1 s
  have s2 : star (stars I) (star A (stars [Fr])) h := star_mono h (fun _ x => x) (fun h (x : star (stars [A, Fr]) tt h) => by
    rw [star_comm] at x
    exact stars_absorb [A, Fr] tt h x) s
  rw [← star_assoc, star_comm _ A, star_assoc] at s2
  exact star_mono h (fun _ x => x) (fun h x => (stars_app _ _ h).2 x) s2
def putE : List Nat → List Value → Env → Env
  | p :: ps, v :: vs, E => putE ps vs ((p, v) :: E)
  | _, _, E => E
theorem has_in : ∀ (ps : List Nat) (vs : List Value) {n : Nat} {E : Env} {t : Array Value}, (∀ p ∈ ps, p < n) → ps.length = vs.length → Has n [] E { tmps := t, defers := [] } → Has n [] (putE ps vs E) { tmps := inTmps ps vs t, defers := [] }
  | [], [], n, E, t, _, _, h => by simpa [putE, inTmps] using h
  | p :: ps, v :: vs, n, E, t, hp, hl, h => by
    have h2 : Has n [] ((p, v) :: E) { tmps := t.setIfInBounds p v, defers := [] } := h.put v (by simpa [Nat.blt_eq] using hp p (by simp))
    have := has_in ps vs (fun q hq => hp q (by simp [hq])) (by simpa using hl) h2
    simpa [putE, inTmps] using this
  | [], _ :: _, _, _, _, _, hl, _ => by simp at hl
  | _ :: _, [], _, _, _, _, hl, _ => by simp at hl
section
variable {K : Cx} {R S Y α : Type} {Q : Post R} {E : Env} {H : List HA} {o : Option R}
theorem roundOk_of {W : World} {P : Program} {n : Nat} {l : Nat} {rec : Loop} {ps : List Nat} {enc : α → List Value} {step : S → α → Option S} {Inv : S → Y → List HA} (Eb : S → α → Y → Env) {a : Act} {ds : List Deferred}
    (he : Has n ds E a) (h1 : rec.tmps = a.tmps) (h2 : rec.params = ps.toArray) (h3 : rec.state = .ready) (h4 : rec.pending = none) (hps : ∀ p ∈ ps, p < n) (hen : ∀ x, ps.length = (enc x).length)
    (hA : ∀ s x y Fr, Sim ⟨P, W, some l, n, []⟩ (cutQ ⟨P, W, some l, n, []⟩ (fun (_ : Unit) (_ : Unit) => Eb s x y) (fun _ _ => Inv s y ++ [Fr])) rec.assign (putE ps (enc x) E) (Inv s y ++ [Fr]) (some ()))
    (hB : ∀ s x y Fr, Sim ⟨P, W, some l, n, []⟩ (cutQ ⟨P, W, some l, n, []⟩ (fun (_ : S) (_ : Y) => []) (fun s y => Inv s y ++ [Fr])) rec.body (Eb s x y) (Inv s y ++ [Fr]) (step s x)) :
    RoundOk P W l rec enc step Inv := by
  intro s x s' y Fr w hst hs
  refine roundIn_of_wpIn trivial ?_
  have h0 : Has n [] E { tmps := rec.tmps, defers := [] } := ⟨by rw [h1]; exact he.size, rfl, fun i v h => by rw [h1]; exact he.get i v h⟩
  have hin := has_in ps (enc x) hps (hen x) h0
  have e2 : rec.params.toList = ps := by rw [h2]
  rw [e2]
  refine wpIn_mono (hA s x y (stars [pts l (.loop rec), Fr]) () rfl _ w hin (hs.ent (ent_tuck _ _ _))) ?_
  intro e a1 w1 hq
  cases e with
  | normal =>
    obtain ⟨_, x1, x2⟩ := hq
    have x3 := x2.ent (ent_untuck _ _ _)
    have hl := x3.pts_at (i := 0) rfl
    refine ⟨_, run_beginRound hl h3, ?_⟩
    have x4 : Sat W (pts l (.loop { rec with state := .busy }) :: (Inv s y ++ [Fr])) (w1.putObj l (.loop { rec with state := .busy })) := x3.upd
    refine wpIn_mono (hB s x y _ s' hst a1 _ x1 (x4.ent (ent_tuck _ _ _))) ?_
    intro e a2 w2 hq
    cases e with
    | normal =>
      obtain ⟨y', _, z2⟩ := hq
      have z3 := z2.ent (ent_untuck _ _ _)
      have hl2 := z3.pts_at (i := 0) rfl
      refine ⟨_, _, run_endRound none hl2, rfl, y', ?_⟩
      have z4 : Sat W (pts l (.loop rec) :: (Inv s' y' ++ [Fr])) (w2.putObj l (.loop rec)) := z3.upd
      have er : ({ ({ rec with state := .busy } : Loop) with state := if (none : Option Code).isNone then .ready else .done, pending := none } : Loop) = rec := by
        cases rec
        simp at h3 h4 ⊢
        exact ⟨h3.symm, h4.symm⟩
      have er2 : w2.putObj l (.loop rec) = w2.putObj l (.loop ({ ({ rec with state := .busy } : Loop) with state := if (none : Option Code).isNone then .ready else .done, pending := none } : Loop)) := by rw [er]
      rw [er2] at z4
      exact z4
    | _ => exact hq.elim
  | _ => exact hq.elim
theorem sim_range {R' Y' : Type} {g : Operand} {ps : List Nat} {assign body : Code} {f : FuncId} {cap : List Value} {Cap rst : List HA} {CapB : R' → Y' → List HA} {enc : α → List Value} {o2 : R' → Option R} {oN : Option R'} {val : R' → Y' → Value}
    {step : S → α → Option S} (Inv : S → Y → List HA) (s0 : S) (y0 : Y) (Eb : S → α → Y → Env) (gs : R' → S) (gy : R' → Y' → Y) (hro : K.ro = none) (hg : ev E g = some (.func (.func f) #[] cap.toArray))
    (hf : ∀ args w, (callFunc f args).run K.P w = .ok (.enter f args) w)
    (it : ∀ l (A : S → Y → HA), YieldOk K.P K.W l enc step A → ∀ X, Fn K.P K.W f (.func (.yield l) #[] #[] :: cap) (A s0 y0 :: Cap) (stars (X :: rst)) oN val (fun r y => A (gs r) (gy r y) :: CapB r y))
    (hps0 : ps.all (fun p => Nat.blt p K.n) = true) (hen : ∀ x, ps.length = (enc x).length)
    (hH : Ent H (Inv s0 y0 ++ (Cap ++ rst)))
    (hA : ∀ l s x y Fr, Sim ⟨K.P, K.W, some l, K.n, []⟩ (cutQ ⟨K.P, K.W, some l, K.n, []⟩ (fun (_ : Unit) (_ : Unit) => Eb s x y) (fun _ _ => Inv s y ++ [Fr])) assign (putE ps (enc x) E) (Inv s y ++ [Fr]) (some ()))
    (hB : ∀ l s x y Fr, Sim ⟨K.P, K.W, some l, K.n, []⟩ (cutQ ⟨K.P, K.W, some l, K.n, []⟩ (fun (_ : S) (_ : Y) => []) (fun s y => Inv s y ++ [Fr])) body (Eb s x y) (Inv s y ++ [Fr]) (step s x))
    (h : ∀ D r y, Nrm { K with ds := mkD D :: K.ds } Q E (shutD D :: (Inv (gs r) (gy r y) ++ (CapB r y ++ rst))) (o2 r)) :
    Sim K Q (.rangeFunc g ps.toArray assign body) E H (oN.bind o2) := by
  intro r hr a w he hs
  have hps : ∀ p ∈ ps, p < K.n := fun p hp => by simpa [Nat.blt_eq] using List.all_eq_true.1 hps0 p hp
  cases hfo : oN with
  | none => rw [hfo] at hr; cases hr
  | some rN =>
  rw [hfo] at hr
  rw [hro]
  refine wpIn_rangeFunc fun fn _ => ?_
  have hs1 := hs.new (.deferred (some []))
  have hs2 := hs1.new (.loop { state := .ready, pending := none, fn := fn, tmps := a.tmps, params := ps.toArray, assign := assign, body := body, defers := w.heap.size })
  have hz : ({ w with heap := w.heap.push (.deferred (some [])) } : World).heap.size = w.heap.size + 1 := by simp
  rw [hz] at hs2
  let rec0 : Loop := { state := .ready, pending := none, fn, tmps := a.tmps, params := ps.toArray, assign, body, defers := w.heap.size }
  let w2 : World := (w.alloc (.deferred (some []))).alloc (.loop rec0)
  refine ⟨w.heap.size + 1, [mkD w.heap.size], w2, { target := .fn (.func f) cap.toArray, args := #[.func (.yield (w.heap.size + 1)) #[] #[]] }, w2, f, (Value.func (.yield (w.heap.size + 1)) #[] #[] :: cap).toArray, w2, run_enterLoop_outer fn a.tmps ps.toArray assign body, ?_, ?_⟩
  · have e1 : a.eval (.const (.func (.yield (w.heap.size + 1)) #[] #[])) = .func (.yield (w.heap.size + 1)) #[] #[] := rfl
    simp [resolve, he.ev hg, Deferred.ofValue, e1]
  · refine ⟨fun f' _ => trivial, ?_, (by intro h; cases h), ?_⟩
    · simp [invoke, hf]
    refine callsIn_wide.2 ?_
    have hR : RoundOk K.P K.W (w.heap.size + 1) rec0 enc step Inv :=
      roundOk_of (ps := ps) Eb he rfl rfl rfl rfl hps hen (hA _) (hB _)
    have hY := yieldOk_of hR (fun x => by simpa [rec0] using (hen x).symm)
    have hs3 : Sat K.W ((itA (w.heap.size + 1) rec0 Inv s0 y0 :: Cap) ++ [stars (pts w.heap.size (.deferred (some [])) :: rst)]) w2 := by
      refine hs2.ent ?_
      intro h x
      have x1 : star (pts (w.heap.size + 1) (.loop rec0)) (star (pts w.heap.size (.deferred (some []))) (star (stars (Inv s0 y0)) (stars (Cap ++ rst)))) h :=
        star_mono h (fun _ x => x) (fun h x => star_mono h (fun _ x => x) (fun h x => (stars_app _ _ h).1 (hH h x)) x) x
      have x2 : star (star (pts (w.heap.size + 1) (.loop rec0)) (stars (Inv s0 y0))) (star (pts w.heap.size (.deferred (some []))) (stars (Cap ++ rst))) h := by
        rw [← star_assoc (pts w.heap.size _), star_comm (pts w.heap.size _), star_assoc, ← star_assoc] at x1
        exact x1
      refine star_mono h (fun _ x => x) (fun h x => ?_) x2
      have x3 : star (pts w.heap.size (.deferred (some []))) (star (stars Cap) (stars rst)) h := star_mono h (fun _ x => x) (fun h x => (stars_app _ _ h).1 x) x
      rw [← star_assoc, star_comm (pts _ _), star_assoc] at x3
      exact (stars_app _ _ h).2 (star_mono h (fun _ x => x) (fun h x => star_tt x) x3)
    have hc := it _ _ hY (pts w.heap.size (.deferred (some []))) rN hfo _ hs3
    refine hc.mono ?_
    rintro e w' ⟨y, rfl, s4⟩
    have s5 : Sat K.W (pts (w.heap.size + 1) (.loop rec0) :: (Inv (gs rN) (gy rN y) ++ (CapB rN y ++ [stars (pts w.heap.size (.deferred (some [])) :: rst)]))) w' := s4.ent (ent_unit _ _)
    have hl := s5.pts_at (i := 0) rfl
    refine ⟨none, _, run_endLoop hl (by simp [rec0]), ?_⟩
    have s6 := s5.upd (o' := .loop { rec0 with state := .exhausted })
    have s7 : Sat K.W (shutD w.heap.size :: (Inv (gs rN) (gy rN y) ++ (CapB rN y ++ rst))) _ := s6.ent (Ent.drop (by
      intro h x
      rw [← List.append_assoc] at x
      have x2 := (stars_app _ _ h).1 x
      have x3 : star (stars (Inv (gs rN) (gy rN y) ++ CapB rN y)) (star (pts w.heap.size (.deferred (some []))) (stars rst)) h := star_mono h (fun _ x => x) (fun h (x : star (stars _) tt h) => by
        rw [star_comm] at x
        exact stars_absorb _ tt h x) x2
      rw [← star_assoc, star_comm _ (pts _ _), star_assoc] at x3
      refine star_mono h (fun _ x => x) (fun h x => ?_) x3
      rw [← List.append_assoc]
      exact (stars_app _ _ h).2 x))
    exact h w.heap.size rN y r hr _ _ ⟨he.size, by simp [he.defers, mkD], he.get⟩ s7
theorem re_yield {op : Oper} {c : Call} {x : Operand} {xs : List Operand} {l : Nat} {enc : α → List Value} {step : S → α → Option S} {A : S → Y → HA} {s s' : S} {y : Y} (v : α) (k : Nat)
    (ho : op.op = .call c) (hcal : c.callee = .value x) (hca : c.args = xs.toArray) (hx : ev E x = some (.func (.yield l) #[] #[])) (hxs : evs xs E = some (enc v)) (hro : K.ro = none)
    (hY : YieldOk K.P K.W l enc step A) (hH : H[k]? = some (A s y)) (hs : step s v = some s') :
    RE K (Y := Y) op E H (fun _ => .bool true) (fun y => H.set k (A s' y)) := by
  intro a w he hsat next Q hnx
  refine ⟨fun f _ => fen_fn _ _, ?_⟩
  rw [Oper.semAt_eq _ _ _ (by rw [ho]; intro c h; cases h)]
  have hkl : k < H.length := (List.getElem?_eq_some_iff.1 hH).1
  have hs2 : Sat K.W ([A s y] ++ [stars (H.eraseIdx k)]) w := hsat.ent (fun h x => by rw [stars_sel H k _ hH] at x; exact Ent.fold [A s y] (H.eraseIdx k) h x)
  obtain ⟨f, tmps, assign, body, hrun, hround⟩ := hY s v s' y _ w hs hs2
  have hr : (execOp a.eval op).run K.P w = .ok (.round l f tmps assign body) w := by
    unfold execOp; simp only [ho]
    have hargs : c.args.map a.eval = (enc v).toArray := by rw [hca, ← evs_map he xs _ hxs]; simp
    simp [resolve, hcal, hargs, he.ev hx, Deferred.ofValue, invoke, callFunc, hrun]
  rw [hr]
  refine ⟨fen_depth _, ?_⟩
  rw [hro]
  refine RoundIn.mono hround ?_
  rintro e w' ⟨rfl, y', s3⟩
  refine hnx y' w' (s3.ent fun h x => ?_)
  rw [← stars_put H k _ hkl]
  exact Ent.unfold [A s' y'] (H.eraseIdx k) h x
end
end Go.Proofs.YtbcnegennmpliaaDoor

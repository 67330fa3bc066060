/- Ranges over functions whose rounds may leave: yield answers whether it goes on; what is pending is carried out behind. Conditions: none. -/
import Derived.Test.YtdaedoklkmdhcaaSl20
import Derived.LoopNIn
namespace Go.Proofs.Ytdaedoklkmdhcaa
set_option linter.unusedVariables false
set_option linter.unusedSimpArgs false
set_option linter.unusedSectionVars false
open Go.RowKit
def jumpAt (codes : List Code) (j : Nat) : Option Code := match j with
  | 0 => none
  | j + 1 => codes[j]?
def recAt (rec : Loop) (codes : List Code) (j : Nat) : Loop := match j with
  | 0 => rec
  | j + 1 => { rec with state := .done, pending := codes[j]? }
def RoundOkG (P : Program) (W : World) (l : Nat) (rec : Loop) {α S Y : Type} (enc : α → List Value) (codes : List Code) (step : S → α → Option (S × Nat)) (Inv : S → Y → List HA) : Prop :=
  ∀ s x s' j y (Fr : HA) w, step s x = some (s', j) → j ≤ codes.length → Sat W (pts l (.loop rec) :: (Inv s y ++ [Fr])) w →
    RoundIn Fence.wide 0 P l rec.fn (inTmps rec.params.toList (enc x) rec.tmps) rec.assign rec.body w fun e w' => e = .returned (.bool (j == 0)) ∧ ∃ y', Sat W (pts l (.loop (recAt rec codes j)) :: (Inv s' y' ++ [Fr])) w'
def YieldOkG (P : Program) (W : World) (l : Nat) {α T Y : Type} (enc : α → List Value) (go : T → Bool) (step : T → α → Option T) (A : T → Y → HA) : Prop :=
  ∀ t x t' y (Fr : HA) w, go t = true → step t x = some t' → Sat W [A t y, Fr] w → ∃ f tmps assign body, (Instr.yield l (enc x).toArray).run P w = .ok (.round l f tmps assign body) w ∧
    RoundIn Fence.wide 0 P l f tmps assign body w fun e w' => e = .returned (.bool (go t')) ∧ ∃ y', Sat W [A t' y', Fr] w'
def goJ {S : Type} (t : S × Nat) : Bool := t.2 == 0
def stepJ {α S : Type} (n : Nat) (step : S → α → Option (S × Nat)) (t : S × Nat) (x : α) : Option (S × Nat) := (step t.1 x).bind fun u => if u.2 ≤ n then some u else none
def itG (l : Nat) (rec : Loop) (codes : List Code) {S Y : Type} (Inv : S → Y → List HA) (t : S × Nat) (y : Y) : HA := stars (pts l (.loop (recAt rec codes t.2)) :: Inv t.1 y)
theorem yieldOkG_of {P : Program} {W : World} {l : Nat} {rec : Loop} {α S Y : Type} {enc : α → List Value} {codes : List Code} {step : S → α → Option (S × Nat)} {Inv : S → Y → List HA} (hR : RoundOkG P W l rec enc codes step Inv) (hp : ∀ x, (enc x).length = rec.params.size) :
    YieldOkG P W l enc goJ (stepJ codes.length step) (itG l rec codes Inv) := by
  rintro ⟨s, j⟩ x t' y Fr w hgo hs hsat
  have hj : j = 0 := by simpa [goJ] using hgo
  subst hj
  have s2 : Sat W (pts l (.loop rec) :: (Inv s y ++ [Fr])) w := hsat.ent (ent_unit _ _)
  refine ⟨_, _, _, _, by rw [run_yield (s2.pts_at (i := 0) rfl) (by simpa using hp x), inTmps_eq], ?_⟩
  obtain ⟨⟨s', j'⟩, h1, h2⟩ := Option.bind_eq_some_iff.1 hs
  split at h2
  · rename_i hle
    cases h2
    refine RoundIn.mono (hR s x s' j' y Fr w h1 hle s2) ?_
    rintro e w' ⟨h1, y', s3⟩
    exact ⟨h1, y', s3.ent (ent_it (pts l (.loop (recAt rec codes j')) :: Inv s' y') Fr)⟩
  · cases h2
section
variable {K : Cx} {R S Y α : Type} {Q : Post R} {E : Env} {H : List HA} {o : Option R}
def jumpQ (codes : List Code) (H : S → Y → List HA) (K : Cx) : Post (S × Nat) := fun r e a w =>
  match e with
  | .normal => r.2 = 0 ∧ ∃ y, Sat K.W (H r.1 y) w
  | .ret => 0 < r.2 ∧ jumpAt codes r.2 = some .ret ∧ ∃ y, Sat K.W (H r.1 y) w
  | .exit id => 0 < r.2 ∧ jumpAt codes r.2 = some (.exit id) ∧ ∃ y, Sat K.W (H r.1 y) w
  | _ => False
theorem nrm_jump {codes : List Code} {HI : S → Y → List HA} {s : S} (y : Y) (hH : Ent H (HI s y)) : Nrm K (jumpQ codes HI K) E H (some (s, 0)) := by
  intro r hr a w he hs
  cases hr
  exact ⟨rfl, y, hs.ent hH⟩
theorem rtn_jump {codes : List Code} {HI : S → Y → List HA} {s : S} (j : Nat) (y : Y) (hj : codes[j]? = some .ret) (hH : Ent H (HI s y)) : Rtn K (jumpQ codes HI K) E H (some (s, j + 1)) := by
  intro r hr a w he hs
  cases hr
  exact ⟨Nat.succ_pos _, hj, y, hs.ent hH⟩
theorem exi_jump {codes : List Code} {HI : S → Y → List HA} {s : S} {id : Nat} (j : Nat) (y : Y) (hj : codes[j]? = some (.exit id)) (hH : Ent H (HI s y)) : ∀ r, some (s, j + 1) = some r → ∀ a w, Has K.n K.ds E a → Sat K.W H w → jumpQ codes HI K r (.exit id) a w := by
  intro r hr a w he hs
  cases hr
  exact ⟨Nat.succ_pos _, hj, y, hs.ent hH⟩
theorem roundOkG_of {W : World} {P : Program} {n : Nat} {l : Nat} {rec : Loop} {ps : List Nat} {enc : α → List Value} {codes : List Code} {step : S → α → Option (S × Nat)} {Inv : S → Y → List HA} (Eb : S → α → Y → Env) {a : Act} {ds : List Deferred}
    (he : Has n ds E a) (h1 : rec.tmps = a.tmps) (h2 : rec.params = ps.toArray) (h3 : rec.state = .ready) (h4 : rec.pending = none) (hps : ∀ p ∈ ps, p < n) (hen : ∀ x, ps.length = (enc x).length)
    (hA : ∀ s x y Fr, Sim ⟨P, W, some l, n, []⟩ (cutQ ⟨P, W, some l, n, []⟩ (fun (_ : Unit) (_ : Unit) => Eb s x y) (fun _ _ => Inv s y ++ [Fr])) rec.assign (putE ps (enc x) E) (Inv s y ++ [Fr]) (some ()))
    (hB : ∀ s x y Fr, Sim ⟨P, W, some l, n, []⟩ (jumpQ codes (fun s (y : Y) => Inv s y ++ [Fr]) ⟨P, W, some l, n, []⟩) rec.body (Eb s x y) (Inv s y ++ [Fr]) (step s x)) :
    RoundOkG P W l rec enc codes step Inv := by
  intro s x s' j y Fr w hst hle hs
  refine roundIn_of_wpIn trivial ?_
  have h0 : Has n [] E { tmps := rec.tmps, defers := [] } := ⟨by rw [h1]; exact he.size, rfl, fun i v h => by rw [h1]; exact he.get i v h⟩
  have hin := has_in ps (enc x) hps (hen x) h0
  have e2 : rec.params.toList = ps := by rw [h2]
  rw [e2]
  refine wpIn_mono (hA s x y (stars [pts l (.loop rec), Fr]) () rfl _ w hin (hs.ent (ent_tuck _ _ _))) ?_
  intro e a1 w1 hq
  cases e with
  | normal =>
    obtain ⟨_, x1, x2⟩ := hq
    have x3 := x2.ent (ent_untuck _ _ _)
    have hl := x3.pts_at (i := 0) rfl
    refine ⟨_, run_beginRound hl h3, ?_⟩
    have x4 : Sat W (pts l (.loop { rec with state := .busy }) :: (Inv s y ++ [Fr])) (w1.putObj l (.loop { rec with state := .busy })) := x3.upd
    refine wpIn_mono (hB s x y _ (s', j) hst a1 _ x1 (x4.ent (ent_tuck _ _ _))) ?_
    have fin : ∀ (jump : Option Code) (w2 : World), jump = jumpAt codes j → (j = 0 ↔ jump = none) → (∃ y', Sat W (Inv s' y' ++ [stars [pts l (.loop { rec with state := .busy }), Fr]]) w2) →
        ∃ v w', (Instr.endRound l jump).run P w2 = .ok v w' ∧ (Ending.returned v = .returned (.bool (j == 0)) ∧ ∃ y', Sat W (pts l (.loop (recAt rec codes j)) :: (Inv s' y' ++ [Fr])) w') := by
      rintro jump w2 hj hz ⟨y', z2⟩
      have z3 := z2.ent (ent_untuck _ _ _)
      have hl2 := z3.pts_at (i := 0) rfl
      refine ⟨_, _, run_endRound jump hl2, ?_, y', ?_⟩
      · congr 2
        cases hjj : jump with
        | none => have := hz.2 hjj; subst this; rfl
        | some c =>
          have : j ≠ 0 := fun e => by rw [hz.1 e] at hjj; cases hjj
          simp [this]
      · have er : recAt rec codes j = { ({ rec with state := .busy } : Loop) with state := if jump.isNone then .ready else .done, pending := jump } := by
          cases j with
          | zero =>
            have : jump = none := hz.1 rfl
            subst this
            cases rec
            simp at h3 h4
            simp [recAt, h3, h4]
          | succ j =>
            have hne : jump ≠ none := fun e => by have := hz.2 e; omega
            have hsome : jump.isNone = false := by
              cases hjj : jump with
              | none => exact absurd hjj hne
              | some c => rfl
            subst hj
            show ({ rec with state := .done, pending := codes[j]? } : Loop) = _
            rw [hsome]; rfl
        rw [er]
        exact z3.upd
    intro e a2 w2 hq
    cases e with
    | normal =>
      obtain ⟨hj, y', z2⟩ := hq
      simp only at hj
      subst hj
      exact fin none w2 rfl (by simp) ⟨y', z2⟩
    | ret =>
      obtain ⟨hp, hj, y', z2⟩ := hq
      exact fin (some .ret) w2 hj.symm ⟨fun e => by simp only at hp; omega, fun e => by cases e⟩ ⟨y', z2⟩
    | exit id =>
      obtain ⟨hp, hj, y', z2⟩ := hq
      exact fin (some (.exit id)) w2 hj.symm ⟨fun e => by simp only at hp; omega, fun e => by cases e⟩ ⟨y', z2⟩
    | _ => exact hq.elim
  | _ => exact hq.elim
theorem sim_rangeG {α R' Y' : Type} {g : Operand} {ps : List Nat} {assign body : Code} {f : FuncId} {cap : List Value} {Cap rst : List HA} {CapB : R' → Y' → List HA} {enc : α → List Value} {o2 : R' → Option R} {oN : Option R'} {val : R' → Y' → Value}
    {codes : List Code} {step : S → α → Option (S × Nat)} (Inv : S → Y → List HA) (s0 : S) (y0 : Y) (Eb : S → α → Y → Env) (gs : R' → Y' → S × Nat) (gy : R' → Y' → Y) (hro : K.ro = none) (hg : ev E g = some (.func (.func f) #[] cap.toArray))
    (hf : ∀ args w, (callFunc f args).run K.P w = .ok (.enter f args) w)
    (it : ∀ l (A : S × Nat → Y → HA), YieldOkG K.P K.W l enc goJ (stepJ codes.length step) A → ∀ X, Fn K.P K.W f (.func (.yield l) #[] #[] :: cap) (A (s0, 0) y0 :: Cap) (stars (X :: rst)) oN val (fun r y => A (gs r y) (gy r y) :: CapB r y))
    (hps0 : ps.all (fun p => Nat.blt p K.n) = true) (hen : ∀ x, ps.length = (enc x).length)
    (hH : Ent H (Inv s0 y0 ++ (Cap ++ rst)))
    (hA : ∀ l s x y Fr, Sim ⟨K.P, K.W, some l, K.n, []⟩ (cutQ ⟨K.P, K.W, some l, K.n, []⟩ (fun (_ : Unit) (_ : Unit) => Eb s x y) (fun _ _ => Inv s y ++ [Fr])) assign (putE ps (enc x) E) (Inv s y ++ [Fr]) (some ()))
    (hB : ∀ l s x y Fr, Sim ⟨K.P, K.W, some l, K.n, []⟩ (jumpQ codes (fun s (y : Y) => Inv s y ++ [Fr]) ⟨K.P, K.W, some l, K.n, []⟩) body (Eb s x y) (Inv s y ++ [Fr]) (step s x))
    (h : ∀ D r y, (gs r y).2 = 0 → Nrm { K with ds := mkD D :: K.ds } Q E (shutD D :: (Inv (gs r y).1 (gy r y) ++ (CapB r y ++ rst))) (o2 r))
    (hj : ∀ D r y j c, (gs r y).2 = j + 1 → codes[j]? = some c → Sim { K with ds := mkD D :: K.ds } Q c E (shutD D :: (Inv (gs r y).1 (gy r y) ++ (CapB r y ++ rst))) (o2 r))
    (hn : ∀ r y, codes.length < (gs r y).2 → o2 r = none) :
    Sim K Q (.rangeFunc g ps.toArray assign body) E H (oN.bind o2) := by
  intro r hr a w he hs
  have hps : ∀ p ∈ ps, p < K.n := fun p hp => by simpa [Nat.blt_eq] using List.all_eq_true.1 hps0 p hp
  cases hfo : oN with
  | none => rw [hfo] at hr; cases hr
  | some rN =>
  rw [hfo] at hr
  rw [hro]
  refine wpIn_rangeFunc fun fn _ => ?_
  have hs1 := hs.new (.deferred (some []))
  have hs2 := hs1.new (.loop { state := .ready, pending := none, fn := fn, tmps := a.tmps, params := ps.toArray, assign := assign, body := body, defers := w.heap.size })
  have hz : ({ w with heap := w.heap.push (.deferred (some [])) } : World).heap.size = w.heap.size + 1 := by simp
  rw [hz] at hs2
  let rec0 : Loop := { state := .ready, pending := none, fn, tmps := a.tmps, params := ps.toArray, assign, body, defers := w.heap.size }
  let w2 : World := (w.alloc (.deferred (some []))).alloc (.loop rec0)
  refine ⟨w.heap.size + 1, [mkD w.heap.size], w2, { target := .fn (.func f) cap.toArray, args := #[.func (.yield (w.heap.size + 1)) #[] #[]] }, w2, f, (Value.func (.yield (w.heap.size + 1)) #[] #[] :: cap).toArray, w2, run_enterLoop_outer fn a.tmps ps.toArray assign body, ?_, ?_⟩
  · have e1 : a.eval (.const (.func (.yield (w.heap.size + 1)) #[] #[])) = .func (.yield (w.heap.size + 1)) #[] #[] := rfl
    simp [resolve, he.ev hg, Deferred.ofValue, e1]
  · refine ⟨fun f' _ => trivial, ?_, (by intro h; cases h), ?_⟩
    · simp [invoke, hf]
    refine callsIn_wide.2 ?_
    have hR : RoundOkG K.P K.W (w.heap.size + 1) rec0 enc codes step Inv :=
      roundOkG_of (ps := ps) Eb he rfl rfl rfl rfl hps hen (hA _) (hB _)
    have hY := yieldOkG_of hR (fun x => by simpa [rec0] using (hen x).symm)
    have hs3 : Sat K.W ((itG (w.heap.size + 1) rec0 codes Inv (s0, 0) y0 :: Cap) ++ [stars (pts w.heap.size (.deferred (some [])) :: rst)]) w2 := by
      refine hs2.ent ?_
      intro h x
      have x1 : star (pts (w.heap.size + 1) (.loop rec0)) (star (pts w.heap.size (.deferred (some []))) (star (stars (Inv s0 y0)) (stars (Cap ++ rst)))) h :=
        star_mono h (fun _ x => x) (fun h x => star_mono h (fun _ x => x) (fun h x => (stars_app _ _ h).1 (hH h x)) x) x
      have x2 : star (star (pts (w.heap.size + 1) (.loop rec0)) (stars (Inv s0 y0))) (star (pts w.heap.size (.deferred (some []))) (stars (Cap ++ rst))) h := by
        rw [← star_assoc (pts w.heap.size _), star_comm (pts w.heap.size _), star_assoc, ← star_assoc] at x1
        exact x1
      refine star_mono h (fun _ x => x) (fun h x => ?_) x2
      have x3 : star (pts w.heap.size (.deferred (some []))) (star (stars Cap) (stars rst)) h := star_mono h (fun _ x => x) (fun h x => (stars_app _ _ h).1 x) x
      rw [← star_assoc, star_comm (pts _ _), star_assoc] at x3
      exact (stars_app _ _ h).2 (star_mono h (fun _ x => x) (fun h x => star_tt x) x3)
    have hc := it _ _ hY (pts w.heap.size (.deferred (some []))) rN hfo _ hs3
    refine hc.mono ?_
    rintro e w' ⟨y, rfl, s4⟩
    have s5 : Sat K.W (pts (w.heap.size + 1) (.loop (recAt rec0 codes (gs rN y).2)) :: (Inv (gs rN y).1 (gy rN y) ++ (CapB rN y ++ [stars (pts w.heap.size (.deferred (some [])) :: rst)]))) w' := s4.ent (ent_unit _ _)
    have hl := s5.pts_at (i := 0) rfl
    refine ⟨(recAt rec0 codes (gs rN y).2).pending, _, run_endLoop hl (by cases (gs rN y).2 <;> simp [recAt, rec0]), ?_⟩
    have s6 := s5.upd (o' := .loop { recAt rec0 codes (gs rN y).2 with state := .exhausted })
    have s7 : Sat K.W (shutD w.heap.size :: (Inv (gs rN y).1 (gy rN y) ++ (CapB rN y ++ rst))) _ := s6.ent (Ent.drop (by
      intro h x
      rw [← List.append_assoc] at x
      have x2 := (stars_app _ _ h).1 x
      have x3 : star (stars (Inv (gs rN y).1 (gy rN y) ++ CapB rN y)) (star (pts w.heap.size (.deferred (some []))) (stars rst)) h := star_mono h (fun _ x => x) (fun h (x : star (stars _) tt h) => by
        rw [star_comm] at x
        exact stars_absorb _ tt h x) x2
      rw [← star_assoc, star_comm _ (pts _ _), star_assoc] at x3
      refine star_mono h (fun _ x => x) (fun h x => ?_) x3
      rw [← List.append_assoc]
      exact (stars_app _ _ h).2 x))
    have hh : Has K.n (mkD w.heap.size :: K.ds) E { a with defers := [mkD w.heap.size] ++ a.defers } := ⟨he.size, by simp [he.defers, mkD], he.get⟩
    cases hz : (gs rN y).2 with
    | zero =>
      rw [hz] at s7
      exact h w.heap.size rN y hz r hr _ _ hh s7
    | succ j =>
      rw [hz] at s7
      cases hc : codes[j]? with
      | none =>
        have : codes.length ≤ j := List.getElem?_eq_none_iff.1 hc
        rw [Option.bind_some, hn rN y (by omega)] at hr
        cases hr
      | some c =>
        have e : (recAt rec0 codes (j + 1)).pending = some c := by simp [recAt, hc]
        dsimp only at s7
        rw [e] at s7 ⊢
        have hs := hj w.heap.size rN y j c hz hc r hr _ _ hh s7
        rw [hro] at hs
        show Code.wpIn Fence.wide 0 K.P c (Q r) _ _
        exact hs
theorem re_yieldG {op : Oper} {c : Call} {x : Operand} {xs : List Operand} {l : Nat} {enc : α → List Value} {go : S → Bool} {step : S → α → Option S} {A : S → Y → HA} {s s' : S} {y : Y} (v : α) (k : Nat)
    (ho : op.op = .call c) (hcal : c.callee = .value x) (hca : c.args = xs.toArray) (hx : ev E x = some (.func (.yield l) #[] #[])) (hxs : evs xs E = some (enc v)) (hro : K.ro = none)
    (hY : YieldOkG K.P K.W l enc go step A) (hH : H[k]? = some (A s y)) (hgo : go s = true) (hs : step s v = some s') :
    RE K (Y := Y) op E H (fun _ => .bool (go s')) (fun y => H.set k (A s' y)) := by
  intro a w he hsat next Q hnx
  refine ⟨fun f _ => fen_fn _ _, ?_⟩
  rw [Oper.semAt_eq _ _ _ (by rw [ho]; intro c h; cases h)]
  have hkl : k < H.length := (List.getElem?_eq_some_iff.1 hH).1
  have hs2 : Sat K.W ([A s y] ++ [stars (H.eraseIdx k)]) w := hsat.ent (fun h x => by rw [stars_sel H k _ hH] at x; exact Ent.fold [A s y] (H.eraseIdx k) h x)
  obtain ⟨f, tmps, assign, body, hrun, hround⟩ := hY s v s' y _ w hgo hs hs2
  have hr : (execOp a.eval op).run K.P w = .ok (.round l f tmps assign body) w := by
    unfold execOp; simp only [ho]
    have hargs : c.args.map a.eval = (enc v).toArray := by rw [hca, ← evs_map he xs _ hxs]; simp
    simp [resolve, hcal, hargs, he.ev hx, Deferred.ofValue, invoke, callFunc, hrun]
  rw [hr]
  refine ⟨fen_depth _, ?_⟩
  rw [hro]
  refine RoundIn.mono hround ?_
  rintro e w' ⟨rfl, y', s3⟩
  refine hnx y' w' (s3.ent fun h x => ?_)
  rw [← stars_put H k _ hkl]
  exact Ent.unfold [A s' y'] (H.eraseIdx k) h x
/-! ### Results in variables, marks behind -/
theorem retMC {fn : Func} {val : R → Y → Value} {B : R → Y → List HA} {r : R} {vs : List Value} (Ds : List Nat) (y : Y) (H' : List HA) (hd : K.ds = Ds.map mkD) (hres : resOk K.P E H' fn.results.toList vs) (hv : tup vs = val r y) (hH : Ent H (Ds.map shutD ++ H')) (hH' : Ent H' (B r y)) :
    ∀ r', some r = some r' → ∀ a w, Has K.n K.ds E a → Sat K.W H w → LeavesInM Fence.wide 0 K.P fn a.tmps (fun e w' => ∃ y, e = .returned (val r' y) ∧ Sat K.W (B r' y) w') a.defers .returning w := by
  intro r' hr a w he hs
  cases hr
  rw [he.defers, hd]
  exact leavesM (B := H') (fun w s => ⟨_, results_ofC he s hres, y, by rw [hv], s.ent hH'⟩) Ds w (hs.ent hH)
theorem nrm_fnMC {fn : Func} {val : R → Y → Value} {B : R → Y → List HA} {r : R} {vs : List Value} (Ds : List Nat) (y : Y) (H' : List HA) (hd : K.ds = Ds.map mkD) (hres : resOk K.P E H' fn.results.toList vs) (hv : tup vs = val r y) (hH : Ent H (Ds.map shutD ++ H')) (hH' : Ent H' (B r y)) :
    Nrm K (retQM K fn val B) E H (some r) := fun r' hr a w he hs => retMC Ds y H' hd hres hv hH hH' r' hr a w he hs
theorem rtn_fnMC {fn : Func} {val : R → Y → Value} {B : R → Y → List HA} {r : R} {vs : List Value} (Ds : List Nat) (y : Y) (H' : List HA) (hd : K.ds = Ds.map mkD) (hres : resOk K.P E H' fn.results.toList vs) (hv : tup vs = val r y) (hH : Ent H (Ds.map shutD ++ H')) (hH' : Ent H' (B r y)) :
    Rtn K (retQM K fn val B) E H (some r) := fun r' hr a w he hs => retMC Ds y H' hd hres hv hH hH' r' hr a w he hs
theorem eqGuard_fn {xt : TypeId} {x y : Operand} {f : Go.Fn} {us vs : Array Value} (P : Program) (w : World) : (eqGuard .eql xt x y (.func f us vs) .nilFunc).run P w = .ok () w := by
  unfold eqGuard; rfl
theorem q_eqfn {op : Oper} {xt yt : TypeId} {x y : Operand} {f : Go.Fn} {us vs : Array Value} {d : TypeDesc} (ho : op.op = .binOp .eql xt x y yt) (hx : ev E x = some (.func f us vs)) (hy : ev E y = some .nilFunc) (hu : K.P.underlying xt = some d) (hd : ∀ w : World, (Op.equal xt (.func f us vs) .nilFunc).run K.P w = .ok false w) : RQ K op E H (.bool false) :=
  rq_same (by rw [ho]; intro c h; cases h) fun a w he _ => by
    unfold execOp; simp only [ho]; rw [he.ev hx, he.ev hy]
    simp [eqGuard_fn, binOp, hd]
theorem eql_fn {P : Program} {xt : TypeId} {f : Go.Fn} {us vs : Array Value} {a : _} {b : _} {c : _} (hu : P.underlying xt = some (.func a b c)) (w : World) : (Op.equal xt (.func f us vs) .nilFunc).run P w = .ok false w := by
  rw [show Op.equal xt (.func f us vs) .nilFunc = Op.equalIn (9999 + 1) xt (.func f us vs) .nilFunc from rfl, Op.equalIn]
  simp [underlying, program, Sem.run, hu]
def jumpO {R : Type} (j : Nat) (o0 : Option R) (l : List (Option R)) : Option R := match j with
  | 0 => o0
  | j + 1 => l.getD j none
def AllJ : List Code → Nat → (Nat → Code → Prop) → Prop
  | [], _, _ => True
  | c :: l, j, p => p j c ∧ AllJ l (j + 1) p
theorem AllJ.get : ∀ {l : List Code} {j : Nat} {p : Nat → Code → Prop}, AllJ l j p → ∀ {i : Nat} {c : Code}, l[i]? = some c → p (j + i) c
  | [], j, p, _, i, c, h => by simp at h
  | d :: l, j, p, ⟨h1, h2⟩, i, c, h => by
    cases i with
    | zero => simp at h; subst h; exact h1
    | succ i => have := AllJ.get h2 (i := i) (by simpa using h); rwa [show j + 1 + i = j + (i + 1) by omega] at this
/-! ### A loop of few rounds -/
def Rnd (K : Cx) (Q : Post R) (c : Code) (m : Nat) (E : Env) (H : List HA) (o : Option R) : Prop := ∀ r, o = some r → ∀ a w, Has K.n K.ds E a → Sat K.W H w → Code.roundsIn (fen K.ro) 0 K.P c (Q r) m a w
def rndQ (K : Cx) (c : Code) (m : Nat) (Q : Post R) : Post R := fun r => Exit.then (Code.roundsIn (fen K.ro) 0 K.P c (Q r) m) (Q r)
theorem sim_rounds {c : Code} (m : Nat) (h : Rnd K Q c m E H o) : Sim K Q (.loop c) E H o := fun r hr a w he hs => wpIn_loop_rounds m (h r hr a w he hs)
theorem rnd_succ {c : Code} {m : Nat} (h : Sim K (rndQ K c m Q) c E H o) : Rnd K Q c (m + 1) E H o := fun r hr a w he hs => h r hr a w he hs
theorem nrm_rnd {c : Code} {m : Nat} (h : Rnd K Q c m E H o) : Nrm K (rndQ K c m Q) E H o := h
theorem rtn_rnd {c : Code} {m : Nat} (h : Rtn K Q E H o) : Rtn K (rndQ K c m Q) E H o := h
theorem exi_rnd {id : Nat} {c : Code} {m : Nat} (h : Exi K Q id E H o) : Exi K (rndQ K c m Q) id E H o := h
theorem sim_rangeJ {α R' Y' : Type} {g : Operand} {ps : List Nat} {assign body : Code} {f : FuncId} {cap : List Value} {Cap rst : List HA} {CapB : R' → Y' → List HA} {enc : α → List Value} {o0 : R' → Option R} {os : R' → List (Option R)} {oN : Option R'} {val : R' → Y' → Value}
    {codes : List Code} {step : S → α → Option (S × Nat)} (Inv : S → Y → List HA) (s0 : S) (y0 : Y) (Eb : S → α → Y → Env) (gs : R' → S × Nat) (gy : R' → Y' → Y) (hro : K.ro = none) (hg : ev E g = some (.func (.func f) #[] cap.toArray))
    (hf : ∀ args w, (callFunc f args).run K.P w = .ok (.enter f args) w)
    (it : ∀ l (A : S × Nat → Y → HA), YieldOkG K.P K.W l enc goJ (stepJ codes.length step) A → ∀ X, Fn K.P K.W f (.func (.yield l) #[] #[] :: cap) (A (s0, 0) y0 :: Cap) (stars (X :: rst)) oN val (fun r y => A (gs r) (gy r y) :: CapB r y))
    (hps0 : ps.all (fun p => Nat.blt p K.n) = true) (hen : ∀ x, ps.length = (enc x).length)
    (hH : Ent H (Inv s0 y0 ++ (Cap ++ rst))) (hlen : ∀ r, (os r).length = codes.length)
    (hA : ∀ l s x y Fr, Sim ⟨K.P, K.W, some l, K.n, []⟩ (cutQ ⟨K.P, K.W, some l, K.n, []⟩ (fun (_ : Unit) (_ : Unit) => Eb s x y) (fun _ _ => Inv s y ++ [Fr])) assign (putE ps (enc x) E) (Inv s y ++ [Fr]) (some ()))
    (hB : ∀ l s x y Fr, Sim ⟨K.P, K.W, some l, K.n, []⟩ (jumpQ codes (fun s (y : Y) => Inv s y ++ [Fr]) ⟨K.P, K.W, some l, K.n, []⟩) body (Eb s x y) (Inv s y ++ [Fr]) (step s x))
    (h : ∀ D r y, Nrm { K with ds := mkD D :: K.ds } Q E (shutD D :: (Inv (gs r).1 (gy r y) ++ (CapB r y ++ rst))) (o0 r))
    (hj : AllJ codes 0 fun j c => ∀ D r y, Sim { K with ds := mkD D :: K.ds } Q c E (shutD D :: (Inv (gs r).1 (gy r y) ++ (CapB r y ++ rst))) ((os r).getD j none)) :
    Sim K Q (.rangeFunc g ps.toArray assign body) E H (oN.bind fun r => jumpO (gs r).2 (o0 r) (os r)) :=
  sim_rangeG (o2 := fun r => jumpO (gs r).2 (o0 r) (os r)) Inv s0 y0 Eb (fun r _ => gs r) gy hro hg hf it hps0 hen hH hA hB
    (fun D r y hz => by rw [hz]; exact h D r y)
    (fun D r y j c hz hc => by rw [hz]; have := hj.get hc D r y; rw [Nat.zero_add] at this; exact this)
    (fun r y hlt => by
      cases hz : (gs r).2 with
      | zero => rw [hz] at hlt; omega
      | succ j =>
        rw [hz] at hlt
        show (os r).getD j none = none
        rw [List.getD_eq_getElem?_getD, List.getElem?_eq_none (by rw [hlen]; omega)]; rfl)
end
end Go.Proofs.Ytdaedoklkmdhcaa

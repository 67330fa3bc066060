/- A region whose operations may come in several orders, where those that turn the heap are not one chain. Conditions: as of the rule for a chain. -/
import Derived.Test.YtbcnegennmpliaaDoorSl13
namespace Go.Proofs.YtbcnegennmpliaaDoor
set_option linter.unusedVariables false
set_option linter.unusedSimpArgs false
open Go.RowKit
section
variable {K : Cx} {R S Y : Type} {Q : Post R} {E : Env} {H : List HA} {o : Option R}
def EObI (K : Cx) (ops : Array Oper) (anc : List (List Nat)) {Γ : Type} (val : Γ → Nat → Value) (E : Env) (heap : Nat → Γ → List HA) (s t i : Nat) (pre : List Nat) (γ : Γ) : Prop :=
  ∃ op, ops[i]? = some op ∧ ∃ Ei, EnvOk ops anc (val γ) E i Ei ∧ GOk ops op Ei ∧
    RE K (Y := { γ' : Γ // Agree pre (val γ') (val γ) }) op Ei (heap s γ) (fun γ' => val γ'.1 i) (fun γ' => heap t γ'.1)
theorem EObI.gen {ops : Array Oper} {anc : List (List Nat)} {Γ Z : Type} {val : Γ → Nat → Value} {heap : Nat → Γ → List HA} {s t i : Nat} {pre : List Nat} {γ : Γ} {op : Oper} {v : Z → Value} {H' : Z → List HA} (Ei : Env) (f : Z → Γ) (ho : ops[i]? = some op) (hg : GOk ops op Ei) (he : EnvOk ops anc (val γ) E i Ei)
    (h : RE K (Y := Z) op Ei (heap s γ) v H') (ha : ∀ z, Agree pre (val (f z)) (val γ)) (hv : ∀ z, op.dst = none ∨ v z = val (f z) i) (hH : ∀ z, Ent (H' z) (heap t (f z))) : EObI K ops anc val E heap s t i pre γ :=
  ⟨op, ho, Ei, he, hg, fun a w hh hs next Q hn => h a w hh hs next Q fun z w' s => by
    have := hn ⟨f z, ha z⟩ w' (s.ent (hH z))
    rcases hv z with e | e
    · rw [e] at this ⊢; exact this
    · rw [e]; exact this⟩
theorem EObI.mk {ops : Array Oper} {anc : List (List Nat)} {Γ Z : Type} {val : Γ → Nat → Value} {heap : Nat → Γ → List HA} {s t i : Nat} {pre : List Nat} {γ : Γ} {op : Oper} {v : Z → Value} {H' : Z → List HA} (Ei : Env) (f : Z → Γ) (ho : ops[i]? = some op) (hg : op.guard = none) (he : EnvOk ops anc (val γ) E i Ei)
    (h : RE K (Y := Z) op Ei (heap s γ) v H') (ha : ∀ z, Agree pre (val (f z)) (val γ)) (hv : ∀ z, op.dst = none ∨ v z = val (f z) i) (hH : ∀ z, Ent (H' z) (heap t (f z))) : EObI K ops anc val E heap s t i pre γ :=
  EObI.gen Ei f ho (.inl hg) he h ha hv hH
theorem EObI.yes {ops : Array Oper} {anc : List (List Nat)} {Γ Z : Type} {val : Γ → Nat → Value} {heap : Nat → Γ → List HA} {s t i : Nat} {pre : List Nat} {γ : Γ} {j dj : Nat} {want b : Bool} {op : Oper} {v : Z → Value} {H' : Z → List HA} (Ei : Env) (f : Z → Γ) (ho : ops[i]? = some op) (hg : op.guard = some (j, want)) (hj : dstOf ops j = some dj) (hb : lk Ei dj = some (.bool b)) (hw : (b == want) = true) (he : EnvOk ops anc (val γ) E i Ei)
    (h : RE K (Y := Z) op Ei (heap s γ) v H') (ha : ∀ z, Agree pre (val (f z)) (val γ)) (hv : ∀ z, op.dst = none ∨ v z = val (f z) i) (hH : ∀ z, Ent (H' z) (heap t (f z))) : EObI K ops anc val E heap s t i pre γ :=
  EObI.gen Ei f ho (.inr ⟨j, want, dj, b, hg, hj, hb, hw⟩) he h ha hv hH
def stg (ids : List (List Nat)) (s : Nat) : List Nat := ids.getD s []
def apart (anc : List (List Nat)) (effs : List Nat) (ids : List (List Nat)) (i s : Nat) : Bool :=
  effs.any fun e => ((ancAt anc i).contains e && !(stg ids s).contains e) || ((ancAt anc e).contains i && (stg ids s).contains e)
def nextOk (effs : List Nat) (ids : List (List Nat)) (i s t : Nat) : Bool := Nat.blt t ids.length && effs.all fun e => (stg ids t).contains e == ((stg ids s).contains e || Nat.beq e i)
theorem sim_drawI {Γ : Type} {id : Nat} {l : List Oper} (γ0 : Γ) (anc : List (List Nat)) (effs quiets : List Nat) (ids : List (List Nat)) (fin : Nat) (rng : Nat → List Nat) (nx : Nat → Nat → Nat) (pre : Nat → List Nat) (val : Γ → Nat → Value) (heap : Nat → Γ → List HA) (E2 : Γ → Env)
    (hmix : K.P.follows .mixedOrders = true)
    (hon : onOk l.toArray = true) (hanc : ancOk l.toArray anc = true) (hal : Nat.ble anc.length l.length = true) (hdst : dstOk l.toArray = true)
    (hall : ((List.range l.length).all fun i => effs.contains i || quiets.contains i) = true)
    (hin : (effs.all fun e => Nat.blt e l.length) = true)
    (nn : Nat) (hnn : K.n = nn) (hdn : ((List.range l.length).all fun i => match dstOf l.toArray i with | some d => Nat.blt d nn | none => true) = true)
    (hst0 : (Nat.blt 0 ids.length && effs.all fun e => !(stg ids 0).contains e) = true)
    (hfin : ((List.range ids.length).all fun s => Nat.beq s fin || effs.any fun e => !(stg ids s).contains e) = true)
    (hrng : (quiets.all fun i => (List.range ids.length).all fun s => (rng i).contains s || apart anc effs ids i s) = true)
    (herng : (effs.all fun i => (List.range ids.length).all fun s => ((rng i).contains s && nextOk effs ids i s (nx i s)) || (stg ids s).contains i || apart anc effs ids i s) = true)
    (hpre' : (effs.all fun i => notBehind l.toArray anc i (pre i)) = true)
    (h0 : Ent H (heap 0 γ0))
    (hq : All quiets fun i => ∀ γ, All (rng i) fun s => QOb K l.toArray anc (val γ) E (heap s γ) i)
    (he : All effs fun i => ∀ γ, All (rng i) fun s => EObI K l.toArray anc val E heap s (nx i s) i (pre i) γ)
    (hE : ∀ γ, Sub (E2 γ) (envL l.toArray (val γ) E (List.range l.length).reverse))
    (h : ∀ γ, Nrm K Q (E2 γ) (heap fin γ) o) : Sim K Q (.region id l.toArray true) E H o := by
  intro r hr a w hh hs
  refine wpIn_region_draw (fun t => ?_)
  rw [hmix, sched_eq]
  have hsz : l.toArray.size = l.length := by simp
  have hal' : anc.length ≤ l.toArray.size := by rw [hsz]; simpa [Nat.ble_eq] using hal
  rw [Bool.and_eq_true] at hst0
  refine wp_sched (F := fen K.ro) (n := 0) (P := K.P) (Q := Q r)
    (fun L a w => ∃ γ s, s < ids.length ∧ (∀ i, i ∈ L → i < l.toArray.size) ∧ (∀ e, e ∈ effs → (e ∈ L ↔ e ∈ stg ids s)) ∧ Has K.n K.ds (envL l.toArray (val γ) E L) a ∧ Sat K.W (heap s γ) w)
    hon ?_ ?_ l.toArray.size t (Array.replicate l.toArray.size false) [] a { w with drawn := w.drawn + 1 } (by simp) (by intro i hi; simp only [Array.getD_eq_getD_getElem?, Array.getElem?_replicate]; split <;> simp) (by intro i hi; cases hi) (by intro i hi; cases hi)
    (by refine Nat.le_trans (List.length_filter_le _ _) (by simp)) ⟨γ0, 0, by simpa [Nat.blt_eq] using hst0.1, (by intro i hi; cases hi), (by
      intro e hef
      have := List.all_eq_true.1 hst0.2 e hef
      constructor
      · intro x; cases x
      · intro x; simp [x] at this), hh, (hs.drew _).ent h0⟩
  · rintro i op L a w hoi hno hpre hcl ⟨γ, s, hs2, hb, hst, hhas, hsat⟩
    have hi : i < l.toArray.size := lt_of_some hoi
    have hil : i < l.length := by rwa [hsz] at hi
    have h1 : ∀ p, p ∈ ancAt anc i → p ∈ L := anc_done hon hanc hal' hcl i hpre
    have h2 : ∀ q, q ∈ L → ∀ p, p ∈ ancAt anc q → p ∈ L := fun q hq => anc_done hon hanc hal' hcl q (hcl q hq)
    have hbl : ∀ q, q ∈ i :: L → q < l.toArray.size := by
      intro q hq
      rcases List.mem_cons.1 hq with rfl | hq
      · exact hi
      · exact hb q hq
    have hput : ∀ (γ' : Γ) (a' : Act) (v : Value), Has K.n K.ds (envL l.toArray (val γ') E L) a' → v = val γ' i ∨ op.dst = none → Has K.n K.ds (envL l.toArray (val γ') E (i :: L)) (a'.put op.dst v) := by
      intro γ' a' v hx hv
      simp only [envL, dstOf, hoi, Option.bind_some]
      cases hd : op.dst with
      | none => exact hx
      | some d =>
        rcases hv with rfl | hv
        · refine hx.put _ ?_
          have := List.all_eq_true.1 hdn i (by simpa using hil)
          rw [hnn]
          simpa [dstOf, hoi, hd] using this
        · rw [hd] at hv; cases hv
    have hnap : apart anc effs ids i s = false := by
      rw [Bool.eq_false_iff]
      intro x
      obtain ⟨e, hef, hc⟩ := List.any_eq_true.1 x
      rw [Bool.or_eq_true, Bool.and_eq_true, Bool.and_eq_true] at hc
      rcases hc with ⟨x, y⟩ | ⟨x, y⟩
      · have hx := h1 e (by simpa using x)
        have := (hst e hef).1 hx
        simp [this] at y
      · have hy := (hst e hef).2 (by simpa using y)
        exact absurd (h2 e hy i (by simpa using x)) hno
    by_cases hef : i ∈ effs
    · have hrg := List.all_eq_true.1 (List.all_eq_true.1 herng i hef) s (by simpa using hs2)
      rw [Bool.or_eq_true, Bool.or_eq_true, hnap] at hrg
      have hrg : (rng i).contains s = true ∧ nextOk effs ids i s (nx i s) = true := by
        rcases hrg with (x | x) | x
        · rwa [Bool.and_eq_true] at x
        · exact absurd ((hst i hef).2 (by simpa using x)) hno
        · cases x
      have hno2 := hrg.2
      unfold nextOk at hno2
      rw [Bool.and_eq_true] at hno2
      obtain ⟨op', ho', Ei, hEi, hg, hre⟩ := (he.mem hef γ).mem (i := s) (by simpa using hrg.1)
      rw [hoi] at ho'
      cases ho'
      have hEnv : Has K.n K.ds Ei a := hhas.sub (hEi.sub hdst hno hb h1 h2)
      rw [if_pos (wantedG hEnv hg)]
      refine hre a w hEnv hsat _ _ ?_
      rintro ⟨γ', hag⟩ w' s'
      refine ⟨γ', nx i s, by simpa [Nat.blt_eq] using hno2.1, hbl, ?_, ?_, s'⟩
      · intro e he'
        have h3 := List.all_eq_true.1 hno2.2 e he'
        have h4 : (stg ids (nx i s)).contains e = ((stg ids s).contains e || Nat.beq e i) := by simpa using h3
        rw [List.mem_cons, hst e he']
        constructor
        · rintro (x | x)
          · have : (stg ids (nx i s)).contains e = true := by rw [h4, x]; simp
            simpa using this
          · have : (stg ids (nx i s)).contains e = true := by rw [h4]; simp [x]
            simpa using this
        · intro x
          have : (stg ids (nx i s)).contains e = true := by simpa using x
          rw [h4, Bool.or_eq_true] at this
          rcases this with y | y
          · right; simpa using y
          · left; exact Nat.eq_of_beq_eq_true y
      · refine hput γ' a _ ?_ (.inl rfl)
        rw [envL_congr (f := val γ') (g := val γ) L fun q hq => ?_]
        · exact hhas
        · refine hag.mem ?_
          have hnb := List.all_eq_true.1 hpre' i hef
          have := List.all_eq_true.1 hnb q (by simpa using hb q hq)
          rw [Bool.or_eq_true, Bool.or_eq_true] at this
          rcases this with (e | e) | e
          · simpa using e
          · obtain rfl := Nat.eq_of_beq_eq_true e
            exact absurd hq hno
          · exact absurd (h2 q hq i (by simpa using e)) hno
    · have hqi : i ∈ quiets := by
        have := List.all_eq_true.1 hall i (by simpa using hil)
        rw [Bool.or_eq_true] at this
        rcases this with e | e
        · exact absurd (by simpa using e) hef
        · simpa using e
      have hjr : s ∈ rng i := by
        have := List.all_eq_true.1 (List.all_eq_true.1 hrng i hqi) s (by simpa using hs2)
        rw [Bool.or_eq_true, hnap] at this
        rcases this with e | e
        · simpa using e
        · cases e
      obtain ⟨op', ho', Ei, hEi, hcase⟩ := (hq.mem hqi γ).mem hjr
      rw [hoi] at ho'
      cases ho'
      have hEnv : Has K.n K.ds Ei a := hhas.sub (hEi.sub hdst hno hb h1 h2)
      have hst' : ∀ e, e ∈ effs → (e ∈ i :: L ↔ e ∈ stg ids s) := by
        intro e hme
        rw [List.mem_cons, hst e hme]
        constructor
        · rintro (x | x)
          · subst x; exact absurd hme hef
          · exact x
        · exact fun x => .inr x
      rcases hcase with ⟨hg, hrq⟩ | ⟨jg, want, dj, hg, hdj, hc2⟩
      · rw [if_pos (by simp [Region.wanted, hg])]
        refine hrq a w hEnv hsat _ _ fun w' s' => ⟨γ, s, hs2, hbl, hst', hput γ a _ hhas (.inl rfl), s'⟩
      · rcases hc2 with ⟨b, v, hbv, hvi, hrq⟩ | ⟨hu, hvi⟩
        · rw [wanted_of hEnv hg hdj hbv]
          cases hbw : (b == want) with
          | true =>
            rw [hbw] at hvi
            simp only [if_true]
            refine hrq hbw a w hEnv hsat _ _ fun w' s' => ⟨γ, s, hs2, hbl, hst', hput γ a _ hhas (.inl hvi.symm), s'⟩
          | false =>
            rw [hbw] at hvi
            simp only [Bool.false_eq_true, if_false]
            exact ⟨fun f _ => fen_fn _ _, γ, s, hs2, hbl, hst', hput γ a _ hhas (.inl hvi.symm), hsat⟩
        · have hnw : Region.wanted op (yielded l.toArray a.tmps) = false := by
            simp only [Region.wanted, hg, yielded]
            rw [show ((l.toArray)[jg]?.bind (·.dst)) = some dj from hdj]
            simp [hEnv.get _ _ hu, undef]
          rw [hnw]
          simp only [Bool.false_eq_true, if_false]
          exact ⟨fun f _ => fen_fn _ _, γ, s, hs2, hbl, hst', hput γ a _ hhas (.inl hvi.symm), hsat⟩
  · rintro L a w hL ⟨γ, s, hs2, hb, hst, hhas, hsat⟩
    have hjl : s = fin := by
      have := List.all_eq_true.1 hfin s (by simpa using hs2)
      rw [Bool.or_eq_true] at this
      rcases this with e | e
      · exact Nat.eq_of_beq_eq_true e
      · obtain ⟨e, hef, hc⟩ := List.any_eq_true.1 e
        have hlt : e < l.toArray.size := by
          rw [hsz]
          have := List.all_eq_true.1 hin e hef
          simpa [Nat.blt_eq] using this
        have := (hst e hef).1 (hL e hlt)
        simp [this] at hc
    subst hjl
    refine h γ r hr a w (hhas.sub ((hE γ).congr fun s => ?_)) hsat
    exact envL_all hdst (fun i hi => by simpa using hi) hL s
theorem RE.lend {op : Oper} {v : Y → Value} {H' : Y → List HA} {T : TypeId} {sz n c : Nat} {a : Option Addr} {cs : List Value} (k : Nat) (hk : H[k]? = some (Row T sz a n c cs)) (h : Rd (Row T sz a n c cs) a cs → n ≤ c → c ≤ maxLen → n * sz ≤ cs.length → RE K op E H v H') : RE K op E H v H' := by
  intro a' w he hs next Q hn
  rcases (hs.focus hk).row_cases with ⟨h1, h2, h3, h0⟩ | ⟨b, off, pre, junk, fz, ha, ok, _⟩
  · subst h2; subst h3
    exact h (.inl h0) (Nat.le_refl _) (Nat.zero_le _) (by simp) a' w he hs next Q hn
  · subst ha
    refine h (.inr ⟨b, off, rfl, fun x hx => ?_⟩) ok.le ok.cap ok.len a' w he hs next Q hn
    rcases hx with ⟨h, _⟩ | ⟨b', off', pre', junk', fz', e, ok', hb⟩
    · cases h
    · cases e
      refine ⟨_, T, fz', hb, fun j v hj => ?_⟩
      have := getElem?_mid (pre := pre') (junk := junk') hj
      rw [ok'.offs] at this
      simpa using this
theorem RE.lendt {op : Oper} {v : Y → Value} {H' : Y → List HA} {T : TypeId} {sz m c : Nat} {a : Option Addr} {cs : List Value} (k : Nat) (hk : H[k]? = some (Row T sz a m c cs)) (h : Rd (Row T sz a m c cs) a cs → cs.length ≤ c * sz → c ≤ maxLen → RE K op E H v H') : RE K op E H v H' := by
  refine RE.lend k hk fun h1 _ h3 _ => ?_
  intro a' w he hs next Q hn
  rcases (hs.focus hk).row_cases with ⟨x1, x2, x3, x4⟩ | ⟨b, off, pre, junk, fz, ha, ok, _⟩
  · exact h h1 (by rw [x4]; simp) h3 a' w he hs next Q hn
  · exact h h1 ok.top h3 a' w he hs next Q hn
theorem sim_posV {α : Type} {V : α → List Value → Prop} {xs : List α} {cd : Code} {T : TypeId} {n c : Nat} {a : Option Addr} {rs : List (List Value)} {i : Nat} (k : Nat) (hk : H[k]? = some (Row T n a xs.length c rs.flatten)) (hl : ListV n V xs rs) (hn : Nat.blt 0 n = true) (hi : i < xs.length) (d : α)
    (h : ∀ b off r, a = some ⟨b, off, none⟩ → V (xs.getD i d) r → r.length = n → (∀ {H' : List HA} (k : Nat), H'[k]? = some (Row T n a xs.length c rs.flatten) → ∀ j v, r[j]? = some v → CellAt H' b (off + i * n + j) v) → Sim K Q cd E H o) : Sim K Q cd E H o := by
  intro r hr a' w he hs
  exact simL_posV (rest := []) (ops := #[]) (Q := fun r e a w => cd.wpIn (fen K.ro) 0 K.P (Q r) a w) k hk hl hn hi d (fun b off r h1 h2 h3 h4 r hr a w he hs => h b off _ h1 h2 h3 h4 r hr a w he hs) r hr a' w he hs
end
end Go.Proofs.YtbcnegennmpliaaDoor

/- Texts that lead to the law SnapPlays: Sl14, Sl15, Sl16, Sl17, Sl18, Sl19, Sl20, Sl21, Sl23, Sl24, Sl25, Sl26, Sl27, Sh, Sl22, Sl28, Sl29, Sl30, Sl31, Sl32. Conditions: as each says. -/
import Derived.Test.YtjkjlggbikeliaaGreatDoorM1
import Derived.Maps.Own
import Derived.Maps.Range
import Derived.Sort.KeysCollected
import Derived.Lib.SlKeysI
import Derived.Maps.RangeRun
import Derived.Lib.LaidTab
import Derived.Shelf.Strconv.Itoa4
import Derived.Shelf.Strconv.ErrVarParseInt
import Derived.Shelf.SlIter.Nil
import Derived.Shelf.SlIterI.Nil
import Derived.Shelf.SortM.Plain
import Derived.Shelf.SortM.SortNone
import Derived.Shelf.Strings.Prefix
import Derived.Shelf.Strings.SlTrimAscii
import Derived.Shelf.Pu.ErrVarParseUint
import Derived.Shelf.Strconv.Itoa3
import Derived.Shelf.Strings.Repeat
import Derived.Shelf.Slices.Reverse
import Derived.Test.YtjkjlggbikeliaaGreatDoorProg
import Derived.LoopNIn
import Derived.RecoverIn
import Derived.Sort.Row
namespace Go.Proofs.YtjkjlggbikeliaaGreatDoor
set_option linter.unusedVariables false
set_option linter.unusedSimpArgs false
open Go.RowKit
section
variable {K : Cx} {R S Y : Type} {Q : dn R} {E : Env} {H : List HA} {o : Option R}
def lB (K : Cx) (ops : Array Oper) (anc : List (List Nat)) {Γ : Type} (val : Γ → Nat → Value) (E : Env) (heap : Nat → Γ → List HA) (s t i : Nat) (pre : List Nat) (γ : Γ) : Prop :=
  ∃ op, ops[i]? = some op ∧ ∃ Ei, dM ops anc (val γ) E i Ei ∧ GOk ops op Ei ∧
    RE K (Y := { γ' : Γ // hJ pre (val γ') (val γ) }) op Ei (heap s γ) (fun γ' => val γ'.1 i) (fun γ' => heap t γ'.1)
theorem lB.gen {ops : Array Oper} {anc : List (List Nat)} {Γ Z : Type} {val : Γ → Nat → Value} {heap : Nat → Γ → List HA} {s t i : Nat} {pre : List Nat} {γ : Γ} {op : Oper} {v : Z → Value} {H' : Z → List HA} (Ei : Env) (f : Z → Γ) (ho : ops[i]? = some op) (hg : GOk ops op Ei) (he : dM ops anc (val γ) E i Ei)
    (h : RE K (Y := Z) op Ei (heap s γ) v H') (ha : ∀ z, hJ pre (val (f z)) (val γ)) (hv : ∀ z, op.dst = none ∨ v z = val (f z) i) (hH : ∀ z, Ent (H' z) (heap t (f z))) : lB K ops anc val E heap s t i pre γ :=
  ⟨op, ho, Ei, he, hg, fun a w hh hs next Q hn => h a w hh hs next Q fun z w' s => by
    have := hn ⟨f z, ha z⟩ w' (s.ent (hH z))
    rcases hv z with e | e
    · rw [e] at this ⊢; exact this
    · rw [e]; exact this⟩
theorem lB.mk {ops : Array Oper} {anc : List (List Nat)} {Γ Z : Type} {val : Γ → Nat → Value} {heap : Nat → Γ → List HA} {s t i : Nat} {pre : List Nat} {γ : Γ} {op : Oper} {v : Z → Value} {H' : Z → List HA} (Ei : Env) (f : Z → Γ) (ho : ops[i]? = some op) (hg : op.guard = none) (he : dM ops anc (val γ) E i Ei)
    (h : RE K (Y := Z) op Ei (heap s γ) v H') (ha : ∀ z, hJ pre (val (f z)) (val γ)) (hv : ∀ z, op.dst = none ∨ v z = val (f z) i) (hH : ∀ z, Ent (H' z) (heap t (f z))) : lB K ops anc val E heap s t i pre γ :=
  lB.gen Ei f ho (.inl hg) he h ha hv hH
theorem lB.yes {ops : Array Oper} {anc : List (List Nat)} {Γ Z : Type} {val : Γ → Nat → Value} {heap : Nat → Γ → List HA} {s t i : Nat} {pre : List Nat} {γ : Γ} {j dj : Nat} {want b : Bool} {op : Oper} {v : Z → Value} {H' : Z → List HA} (Ei : Env) (f : Z → Γ) (ho : ops[i]? = some op) (hg : op.guard = some (j, want)) (hj : dY ops j = some dj) (hb : lk Ei dj = some (.bool b)) (hw : (b == want) = true) (he : dM ops anc (val γ) E i Ei)
    (h : RE K (Y := Z) op Ei (heap s γ) v H') (ha : ∀ z, hJ pre (val (f z)) (val γ)) (hv : ∀ z, op.dst = none ∨ v z = val (f z) i) (hH : ∀ z, Ent (H' z) (heap t (f z))) : lB K ops anc val E heap s t i pre γ :=
  lB.gen Ei f ho (.inr ⟨j, want, dj, b, hg, hj, hb, hw⟩) he h ha hv hH
def stg (ids : List (List Nat)) (s : Nat) : List Nat := ids.getD s []
def nG (anc : List (List Nat)) (effs : List Nat) (ids : List (List Nat)) (i s : Nat) : Bool :=
  effs.any fun e => ((gn anc i).contains e && !(stg ids s).contains e) || ((gn anc e).contains i && (stg ids s).contains e)
def sF (effs : List Nat) (ids : List (List Nat)) (i s t : Nat) : Bool := Nat.blt t ids.length && effs.all fun e => (stg ids t).contains e == ((stg ids s).contains e || Nat.beq e i)
theorem wd {Γ : Type} {id : Nat} {l : List Oper} (γ0 : Γ) (anc : List (List Nat)) (effs quiets : List Nat) (ids : List (List Nat)) (fin : Nat) (rng : Nat → List Nat) (nx : Nat → Nat → Nat) (pre : Nat → List Nat) (val : Γ → Nat → Value) (heap : Nat → Γ → List HA) (E2 : Γ → Env)
    (hmix : K.P.follows .mixedOrders = true)
    (hon : sb l.toArray = true) (hanc : ve l.toArray anc = true) (hal : Nat.ble anc.length l.length = true) (hdst : nB l.toArray = true)
    (hall : ((List.range l.length).all fun i => effs.contains i || quiets.contains i) = true)
    (hin : (effs.all fun e => Nat.blt e l.length) = true)
    (nn : Nat) (hnn : K.n = nn) (hdn : ((List.range l.length).all fun i => match dY l.toArray i with | some d => Nat.blt d nn | none => true) = true)
    (hst0 : (Nat.blt 0 ids.length && effs.all fun e => !(stg ids 0).contains e) = true)
    (hfin : ((List.range ids.length).all fun s => Nat.beq s fin || effs.any fun e => !(stg ids s).contains e) = true)
    (hrng : (quiets.all fun i => (List.range ids.length).all fun s => (rng i).contains s || nG anc effs ids i s) = true)
    (herng : (effs.all fun i => (List.range ids.length).all fun s => ((rng i).contains s && sF effs ids i s (nx i s)) || (stg ids s).contains i || nG anc effs ids i s) = true)
    (hpre' : (effs.all fun i => qw l.toArray anc i (pre i)) = true)
    (h0 : Ent H (heap 0 γ0))
    (hq : All quiets fun i => ∀ γ, All (rng i) fun s => QOb K l.toArray anc (val γ) E (heap s γ) i)
    (he : All effs fun i => ∀ γ, All (rng i) fun s => lB K l.toArray anc val E heap s (nx i s) i (pre i) γ)
    (hE : ∀ γ, Sub (E2 γ) (hQ l.toArray (val γ) E (List.range l.length).reverse))
    (h : ∀ γ, Nrm K Q (E2 γ) (heap fin γ) o) : Sim K Q (.region id l.toArray true) E H o := by
  intro r hr a w hh hs
  refine wpIn_region_draw (fun t => ?_)
  rw [hmix, sc]
  have hsz : l.toArray.size = l.length := by simp
  have hal' : anc.length ≤ l.toArray.size := by rw [hsz]; simpa [Nat.ble_eq] using hal
  rw [Bool.and_eq_true] at hst0
  refine sd (F := fen K.ro) (n := 0) (P := K.P) (Q := Q r)
    (fun L a w => ∃ γ s, s < ids.length ∧ (∀ i, i ∈ L → i < l.toArray.size) ∧ (∀ e, e ∈ effs → (e ∈ L ↔ e ∈ stg ids s)) ∧ Has K.n K.ds (hQ l.toArray (val γ) E L) a ∧ Sat K.W (heap s γ) w)
    hon ?_ ?_ l.toArray.size t (Array.replicate l.toArray.size false) [] a { w with drawn := w.drawn + 1 } (by simp) (by intro i hi; simp only [Array.getD_eq_getD_getElem?, Array.getElem?_replicate]; split <;> simp) (by intro i hi; cases hi) (by intro i hi; cases hi)
    (by refine Nat.le_trans (List.length_filter_le _ _) (by simp)) ⟨γ0, 0, by simpa [Nat.blt_eq] using hst0.1, (by intro i hi; cases hi), (by
      intro e hef
      have := List.all_eq_true.1 hst0.2 e hef
      constructor
      · intro x; cases x
      · intro x; simp [x] at this), hh, (hs.drew _).ent h0⟩
  · rintro i op L a w hoi hno hpre hcl ⟨γ, s, hs2, hb, hst, hhas, hsat⟩
    have hi : i < l.toArray.size := mn hoi
    have hil : i < l.length := by rwa [hsz] at hi
    have h1 : ∀ p, p ∈ gn anc i → p ∈ L := ml hon hanc hal' hcl i hpre
    have h2 : ∀ q, q ∈ L → ∀ p, p ∈ gn anc q → p ∈ L := fun q hq => ml hon hanc hal' hcl q (hcl q hq)
    have hbl : ∀ q, q ∈ i :: L → q < l.toArray.size := by
      intro q hq
      rcases List.mem_cons.1 hq with rfl | hq
      · exact hi
      · exact hb q hq
    have hput : ∀ (γ' : Γ) (a' : Act) (v : Value), Has K.n K.ds (hQ l.toArray (val γ') E L) a' → v = val γ' i ∨ op.dst = none → Has K.n K.ds (hQ l.toArray (val γ') E (i :: L)) (a'.put op.dst v) := by
      intro γ' a' v hx hv
      simp only [hQ, dY, hoi, Option.bind_some]
      cases hd : op.dst with
      | none => exact hx
      | some d =>
        rcases hv with rfl | hv
        · refine hx.put _ ?_
          have := List.all_eq_true.1 hdn i (by simpa using hil)
          rw [hnn]
          simpa [dY, hoi, hd] using this
        · rw [hd] at hv; cases hv
    have hnap : nG anc effs ids i s = false := by
      rw [Bool.eq_false_iff]
      intro x
      obtain ⟨e, hef, hc⟩ := List.any_eq_true.1 x
      rw [Bool.or_eq_true, Bool.and_eq_true, Bool.and_eq_true] at hc
      rcases hc with ⟨x, y⟩ | ⟨x, y⟩
      · have hx := h1 e (by simpa using x)
        have := (hst e hef).1 hx
        simp [this] at y
      · have hy := (hst e hef).2 (by simpa using y)
        exact absurd (h2 e hy i (by simpa using x)) hno
    by_cases hef : i ∈ effs
    · have hrg := List.all_eq_true.1 (List.all_eq_true.1 herng i hef) s (by simpa using hs2)
      rw [Bool.or_eq_true, Bool.or_eq_true, hnap] at hrg
      have hrg : (rng i).contains s = true ∧ sF effs ids i s (nx i s) = true := by
        rcases hrg with (x | x) | x
        · rwa [Bool.and_eq_true] at x
        · exact absurd ((hst i hef).2 (by simpa using x)) hno
        · cases x
      have hno2 := hrg.2
      unfold sF at hno2
      rw [Bool.and_eq_true] at hno2
      obtain ⟨op', ho', Ei, hEi, hg, hre⟩ := (he.mem hef γ).mem (i := s) (by simpa using hrg.1)
      rw [hoi] at ho'
      cases ho'
      have hEnv : Has K.n K.ds Ei a := hhas.sub (hEi.sub hdst hno hb h1 h2)
      rw [if_pos (ue hEnv hg)]
      refine hre a w hEnv hsat _ _ ?_
      rintro ⟨γ', hag⟩ w' s'
      refine ⟨γ', nx i s, by simpa [Nat.blt_eq] using hno2.1, hbl, ?_, ?_, s'⟩
      · intro e he'
        have h3 := List.all_eq_true.1 hno2.2 e he'
        have h4 : (stg ids (nx i s)).contains e = ((stg ids s).contains e || Nat.beq e i) := by simpa using h3
        rw [List.mem_cons, hst e he']
        constructor
        · rintro (x | x)
          · have : (stg ids (nx i s)).contains e = true := by rw [h4, x]; simp
            simpa using this
          · have : (stg ids (nx i s)).contains e = true := by rw [h4]; simp [x]
            simpa using this
        · intro x
          have : (stg ids (nx i s)).contains e = true := by simpa using x
          rw [h4, Bool.or_eq_true] at this
          rcases this with y | y
          · right; simpa using y
          · left; exact Nat.eq_of_beq_eq_true y
      · refine hput γ' a _ ?_ (.inl rfl)
        rw [mm (f := val γ') (g := val γ) L fun q hq => ?_]
        · exact hhas
        · refine hag.mem ?_
          have hnb := List.all_eq_true.1 hpre' i hef
          have := List.all_eq_true.1 hnb q (by simpa using hb q hq)
          rw [Bool.or_eq_true, Bool.or_eq_true] at this
          rcases this with (e | e) | e
          · simpa using e
          · obtain rfl := Nat.eq_of_beq_eq_true e
            exact absurd hq hno
          · exact absurd (h2 q hq i (by simpa using e)) hno
    · have hqi : i ∈ quiets := by
        have := List.all_eq_true.1 hall i (by simpa using hil)
        rw [Bool.or_eq_true] at this
        rcases this with e | e
        · exact absurd (by simpa using e) hef
        · simpa using e
      have hjr : s ∈ rng i := by
        have := List.all_eq_true.1 (List.all_eq_true.1 hrng i hqi) s (by simpa using hs2)
        rw [Bool.or_eq_true, hnap] at this
        rcases this with e | e
        · simpa using e
        · cases e
      obtain ⟨op', ho', Ei, hEi, hcase⟩ := (hq.mem hqi γ).mem hjr
      rw [hoi] at ho'
      cases ho'
      have hEnv : Has K.n K.ds Ei a := hhas.sub (hEi.sub hdst hno hb h1 h2)
      have hst' : ∀ e, e ∈ effs → (e ∈ i :: L ↔ e ∈ stg ids s) := by
        intro e hme
        rw [List.mem_cons, hst e hme]
        constructor
        · rintro (x | x)
          · subst x; exact absurd hme hef
          · exact x
        · exact fun x => .inr x
      rcases hcase with ⟨hg, hrq⟩ | ⟨jg, want, dj, hg, hdj, hc2⟩
      · rw [if_pos (by simp [Region.wanted, hg])]
        refine hrq a w hEnv hsat _ _ fun w' s' => ⟨γ, s, hs2, hbl, hst', hput γ a _ hhas (.inl rfl), s'⟩
      · rcases hc2 with ⟨b, v, hbv, hvi, hrq⟩ | ⟨hu, hvi⟩
        · rw [jG hEnv hg hdj hbv]
          cases hbw : (b == want) with
          | true =>
            rw [hbw] at hvi
            simp only [if_true]
            refine hrq hbw a w hEnv hsat _ _ fun w' s' => ⟨γ, s, hs2, hbl, hst', hput γ a _ hhas (.inl hvi.symm), s'⟩
          | false =>
            rw [hbw] at hvi
            simp only [Bool.false_eq_true, if_false]
            exact ⟨fun f _ => ib _ _, γ, s, hs2, hbl, hst', hput γ a _ hhas (.inl hvi.symm), hsat⟩
        · have hnw : Region.wanted op (yielded l.toArray a.tmps) = false := by
            simp only [Region.wanted, hg, yielded]
            rw [show ((l.toArray)[jg]?.bind (·.dst)) = some dj from hdj]
            simp [hEnv.get _ _ hu, undef]
          rw [hnw]
          simp only [Bool.false_eq_true, if_false]
          exact ⟨fun f _ => ib _ _, γ, s, hs2, hbl, hst', hput γ a _ hhas (.inl hvi.symm), hsat⟩
  · rintro L a w hL ⟨γ, s, hs2, hb, hst, hhas, hsat⟩
    have hjl : s = fin := by
      have := List.all_eq_true.1 hfin s (by simpa using hs2)
      rw [Bool.or_eq_true] at this
      rcases this with e | e
      · exact Nat.eq_of_beq_eq_true e
      · obtain ⟨e, hef, hc⟩ := List.any_eq_true.1 e
        have hlt : e < l.toArray.size := by
          rw [hsz]
          have := List.all_eq_true.1 hin e hef
          simpa [Nat.blt_eq] using this
        have := (hst e hef).1 (hL e hlt)
        simp [this] at hc
    subst hjl
    refine h γ r hr a w (hhas.sub ((hE γ).congr fun s => ?_)) hsat
    exact se hdst (fun i hi => by simpa using hi) hL s
theorem RE.lend {op : Oper} {v : Y → Value} {H' : Y → List HA} {T : TypeId} {sz n c : Nat} {a : Option Addr} {cs : List Value} (k : Nat) (hk : H[k]? = some (Row T sz a n c cs)) (h : Rd (Row T sz a n c cs) a cs → n ≤ c → c ≤ maxLen → n * sz ≤ cs.length → RE K op E H v H') : RE K op E H v H' := by
  intro a' w he hs next Q hn
  rcases (hs.focus hk).row_cases with ⟨h1, h2, h3, h0⟩ | ⟨b, off, pre, junk, fz, ha, ok, _⟩
  · subst h2; subst h3
    exact h (.inl h0) (Nat.le_refl _) (Nat.zero_le _) (by simp) a' w he hs next Q hn
  · subst ha
    refine h (.inr ⟨b, off, rfl, fun x hx => ?_⟩) ok.le ok.cap ok.len a' w he hs next Q hn
    rcases hx with ⟨h, _⟩ | ⟨b', off', pre', junk', fz', e, ok', hb⟩
    · cases h
    · cases e
      refine ⟨_, T, fz', hb, fun j v hj => ?_⟩
      have := jO (pre := pre') (junk := junk') hj
      rw [ok'.offs] at this
      simpa using this
theorem fA {α : Type} {V : α → List Value → Prop} {xs : List α} {cd : Code} {T : TypeId} {n c : Nat} {a : Option Addr} {rs : List (List Value)} {i : Nat} (k : Nat) (hk : H[k]? = some (Row T n a xs.length c rs.flatten)) (hl : bE n V xs rs) (hn : Nat.blt 0 n = true) (hi : i < xs.length) (d : α)
    (h : ∀ b off r, a = some ⟨b, off, none⟩ → V (xs.getD i d) r → r.length = n → (∀ {H' : List HA} (k : Nat), H'[k]? = some (Row T n a xs.length c rs.flatten) → ∀ j v, r[j]? = some v → fO H' b (off + i * n + j) v) → Sim K Q cd E H o) : Sim K Q cd E H o := by
  intro r hr a' w he hs
  exact dP (rest := []) (ops := #[]) (Q := fun r e a w => cd.wpIn (fen K.ro) 0 K.P (Q r) a w) k hk hl hn hi d (fun b off r h1 h2 h3 h4 r hr a w he hs => h b off _ h1 h2 h3 h4 r hr a w he hs) r hr a' w he hs
end
end Go.Proofs.YtjkjlggbikeliaaGreatDoor

namespace Go.Proofs.YtjkjlggbikeliaaGreatDoor
set_option linter.unusedVariables false
set_option linter.unusedSimpArgs false
set_option linter.unusedSectionVars false
open Go.RowKit
section
variable {α β : Type} [DecidableEq α]
def ay : List (α × β) → α → Option β
  | [], _ => none
  | p :: l, x => if p.1 = x then some p.2 else ay l x
def bk : List (α × β) → α → β → List (α × β)
  | [], x, y => [(x, y)]
  | p :: l, x, y => if p.1 = x then (x, y) :: l else p :: bk l x y
def bU : List (α × β) → α → List (α × β)
  | [], _ => []
  | p :: l, x => if p.1 = x then l else p :: bU l x
def fF : List (α × β) → α → Nat → Option (Nat × β)
  | [], _, _ => none
  | p :: l, x, i => if p.1 = x then some (i, p.2) else fF l x (i + 1)
theorem oG : ∀ (l : List (α × β)) (x : α) (i : Nat), (fF l x i).map (·.2) = ay l x
  | [], _, _ => rfl
  | p :: l, x, i => by
    simp only [fF, ay]
    split
    · rfl
    · exact oG l x (i + 1)
end
structure kZ (P : Program) (T : TypeId) {α : Type} [DecidableEq α] (ek : α → Value) : Prop where
  chk : ∀ e x w, (Instr.checkKey e 10000 T (ek x)).run P w = .ok () w
  desc : ∃ u, P.underlying T = some u ∧ ((∀ x y, Instr.sameNow u (ek x) (ek y) = some (decide (x = y))) ∨ ((∀ x y, Instr.sameNow u (ek x) (ek y) = none) ∧ ∀ x y w, (Op.equal T (ek x) (ek y)).run P w = .ok (decide (x = y)) w))
  bits : ∀ x, Instr.sameBits 10000 (ek x) (ek x) = true
section
variable {α β : Type} [DecidableEq α] {P : Program} {T : TypeId} {ek : α → Value} {ev : β → Value}
def cZ (ek : α → Value) (ev : β → Value) (es : List MapEntry) (kvs : List (α × β)) : Prop := es.map (fun e => (e.key, e.val)) = kvs.map fun p => (ek p.1, ev p.2)
theorem nl {u : TypeDesc} (hs : ∀ x y, Instr.sameNow u (ek x) (ek y) = some (decide (x = y))) (x : α) : ∀ (kvs : List (α × β)) (es : List MapEntry) (i : Nat), cZ ek ev es kvs → Instr.findNow u (ek x) es i = some ((fF kvs x i).map fun p => (p.1, ev p.2))
  | [], es, i, h => by
    have : es = [] := by simpa [cZ] using h
    subst this; rfl
  | p :: l, [], i, h => by simp [cZ] at h
  | p :: l, e :: es, i, h => by
    simp only [cZ, List.map_cons, List.cons.injEq, Prod.mk.injEq] at h
    obtain ⟨⟨h1, h2⟩, h3⟩ := h
    simp only [Instr.findNow, fF]
    rw [h1, hs]
    by_cases hx : p.1 = x
    · rw [if_pos hx, hx]; simp [h2]
    · rw [if_neg hx, decide_eq_false (fun e => hx e.symm)]
      exact nl hs x l es (i + 1) h3
theorem lV {x : α} (hs : ∀ x y w, (Op.equal T (ek x) (ek y)).run P w = .ok (decide (x = y)) w) (w : World) : ∀ (kvs : List (α × β)) (es : List MapEntry) (i : Nat), cZ ek ev es kvs → (Instr.findAsking T (ek x) es i).run P w = .ok ((fF kvs x i).map fun p => (p.1, ev p.2)) w
  | [], es, i, h => by
    have : es = [] := by simpa [cZ] using h
    subst this; simp [Instr.findAsking, fF]
  | p :: l, [], i, h => by simp [cZ] at h
  | p :: l, e :: es, i, h => by
    simp only [cZ, List.map_cons, List.cons.injEq, Prod.mk.injEq] at h
    obtain ⟨⟨h1, h2⟩, h3⟩ := h
    simp only [Instr.findAsking, fF, Sem.run_bind]
    rw [h1, hs]
    simp only [Result.andThen_ok]
    by_cases hx : p.1 = x
    · rw [if_pos hx, hx]; simp [h2]
    · rw [if_neg hx, decide_eq_false (fun e => hx e.symm)]
      simpa using lV hs w l es (i + 1) h3
theorem sV {u : TypeDesc} (hs : ∀ x y, Instr.sameNow u (ek x) (ek y) = none) (x : α) : ∀ (kvs : List (α × β)) (es : List MapEntry) (i : Nat), cZ ek ev es kvs → kvs ≠ [] → Instr.findNow u (ek x) es i = none
  | [], es, i, h, hn => absurd rfl hn
  | p :: l, [], i, h, _ => by simp [cZ] at h
  | p :: l, e :: es, i, h, _ => by
    simp only [cZ, List.map_cons, List.cons.injEq, Prod.mk.injEq] at h
    simp only [Instr.findNow]
    rw [h.1.1, hs]
theorem kZ.find (K : kZ P T ek) (w : World) {kvs : List (α × β)} {es : List MapEntry} (h : cZ ek ev es kvs) (x : α) : (Instr.findKey T (ek x) es).run P w = .ok ((fF kvs x 0).map fun p => (p.1, ev p.2)) w := by
  obtain ⟨u, hu, hs⟩ := K.desc
  unfold Instr.findKey
  simp only [Sem.run_bind, underlying, program, Sem.run, hu, Result.andThen_ok, Sem.run_pure]
  rcases hs with hs | ⟨hs, he⟩
  · rw [nl hs x kvs es 0 h]; simp
  · by_cases hn : kvs = []
    · subst hn
      have : es = [] := by simpa [cZ] using h
      subst this
      simp [Instr.findNow, fF]
    · rw [sV hs x kvs es 0 h hn]
      exact lV he w kvs es 0 h
def aB (b : Nat) (ek : α → Value) (ev : β → Value) (kvs : List (α × β)) : HA := fun h => ∃ es clock, h b = some (.map es clock) ∧ cZ ek ev es.toList kvs ∧ (es.toList.map (·.born)).Nodup ∧ ∀ e ∈ es.toList, e.born < clock
theorem Sat.map_open {W w : World} {l : List HA} {b : Nat} {kvs : List (α × β)} (s : Sat W (aB b ek ev kvs :: l) w) :
    ∃ es clock, cZ ek ev es.toList kvs ∧ (es.toList.map (·.born)).Nodup ∧ (∀ e ∈ es.toList, e.born < clock) ∧ Sat W (pts b (.map es clock) :: l) w := by
  obtain ⟨x, y, d, e, ⟨es, clock, h1, h2, h3, h4⟩, r⟩ := s.hp
  exact ⟨es, clock, h2, h3, h4, s.os, s.tape, s.output, s.size, x, y, d, e, h1, r⟩
theorem Sat.map_close {W w : World} {l : List HA} {b clock : Nat} {es : Array MapEntry} {kvs : List (α × β)} (s : Sat W (pts b (.map es clock) :: l) w) (h1 : cZ ek ev es.toList kvs) (h2 : (es.toList.map (·.born)).Nodup) (h3 : ∀ e ∈ es.toList, e.born < clock) : Sat W (aB b ek ev kvs :: l) w :=
  s.ent (Ent.sel' 0 rfl (fun h x => ⟨es, clock, x, h1, h2, h3⟩) (Ent.refl _))
theorem lW : ∀ (l : List (α × β)) (x : α) (i j : Nat) (y : β), fF l x i = some (j, y) → i ≤ j ∧ j - i < l.length
  | [], _, _, _, _, h => by simp [fF] at h
  | p :: l, x, i, j, y, h => by
    simp only [fF] at h
    split at h
    · simp at h; obtain ⟨rfl, _⟩ := h; simp
    · obtain ⟨h1, h2⟩ := lW l x (i + 1) j y h; simp; omega
theorem qO : ∀ (kvs : List (α × β)) (es : List MapEntry) (x : α) (y : β) (i j : Nat) (z : β), cZ ek ev es kvs → fF kvs x i = some (j, z) → cZ ek ev (es.modify (j - i) fun e => { e with key := ek x, val := ev y }) (bk kvs x y)
  | [], es, x, y, i, j, z, _, h => by simp [fF] at h
  | p :: l, [], x, y, i, j, z, he, h => by simp [cZ] at he
  | p :: l, e :: es, x, y, i, j, z, he, h => by
    simp only [cZ, List.map_cons, List.cons.injEq, Prod.mk.injEq] at he
    obtain ⟨⟨h1, h2⟩, h3⟩ := he
    simp only [fF] at h
    simp only [bk]
    split at h
    · rename_i hx
      simp at h
      rw [if_pos hx, ← h.1]
      simp [cZ]
      exact h3
    · rename_i hx
      obtain ⟨a, b⟩ := lW l x (i + 1) j z h
      rw [if_neg hx, show j - i = (j - (i + 1)) + 1 by omega]
      simp only [List.modify_succ_cons, cZ, List.map_cons, List.cons.injEq, Prod.mk.injEq]
      exact ⟨⟨h1, h2⟩, qO l es x y (i + 1) j z h3 h⟩
theorem qP : ∀ (kvs : List (α × β)) (es : List MapEntry) (x : α) (y : β) (i c : Nat), cZ ek ev es kvs → fF kvs x i = none → cZ ek ev (es ++ [{ key := ek x, val := ev y, born := c }]) (bk kvs x y)
  | [], es, x, y, i, c, he, _ => by
    have : es = [] := by simpa [cZ] using he
    subst this; simp [cZ, bk]
  | p :: l, [], x, y, i, c, he, h => by simp [cZ] at he
  | p :: l, e :: es, x, y, i, c, he, h => by
    simp only [cZ, List.map_cons, List.cons.injEq, Prod.mk.injEq] at he
    obtain ⟨⟨h1, h2⟩, h3⟩ := he
    simp only [fF] at h
    simp only [bk]
    split at h
    · simp at h
    · rename_i hx
      rw [if_neg hx]
      simp only [List.cons_append, cZ, List.map_cons, List.cons.injEq, Prod.mk.injEq]
      exact ⟨⟨h1, h2⟩, qP l es x y (i + 1) c h3 h⟩
theorem qQ : ∀ (kvs : List (α × β)) (es : List MapEntry) (x : α) (i j : Nat) (z : β), cZ ek ev es kvs → fF kvs x i = some (j, z) → cZ ek ev (es.eraseIdx (j - i)) (bU kvs x)
  | [], es, x, i, j, z, _, h => by simp [fF] at h
  | p :: l, [], x, i, j, z, he, h => by simp [cZ] at he
  | p :: l, e :: es, x, i, j, z, he, h => by
    simp only [cZ, List.map_cons, List.cons.injEq, Prod.mk.injEq] at he
    obtain ⟨⟨h1, h2⟩, h3⟩ := he
    simp only [fF] at h
    simp only [bU]
    split at h
    · rename_i hx
      simp at h
      rw [if_pos hx, ← h.1]
      simpa [cZ] using h3
    · rename_i hx
      obtain ⟨a, b⟩ := lW l x (i + 1) j z h
      rw [if_neg hx, show j - i = (j - (i + 1)) + 1 by omega]
      simp only [List.eraseIdx_cons_succ, cZ, List.map_cons, List.cons.injEq, Prod.mk.injEq]
      exact ⟨⟨h1, h2⟩, qQ l es x (i + 1) j z h3 h⟩
theorem qR : ∀ (kvs : List (α × β)) (x : α) (i : Nat), fF kvs x i = none → bU kvs x = kvs
  | [], _, _, _ => rfl
  | p :: l, x, i, h => by
    simp only [fF] at h
    simp only [bU]
    split at h
    · simp at h
    · rename_i hx; rw [if_neg hx, qR l x (i + 1) h]
theorem sW : ∀ (kvs : List (α × β)) (es : List MapEntry) (x : α) (i j : Nat) (z : β), cZ ek ev es kvs → fF kvs x i = some (j, z) → ∃ e, es[j - i]? = some e ∧ e.key = ek x
  | [], es, x, i, j, z, _, h => by simp [fF] at h
  | p :: l, [], x, i, j, z, he, h => by simp [cZ] at he
  | p :: l, e :: es, x, i, j, z, he, h => by
    simp only [cZ, List.map_cons, List.cons.injEq, Prod.mk.injEq] at he
    obtain ⟨⟨h1, h2⟩, h3⟩ := he
    simp only [fF] at h
    split at h
    · rename_i hx
      simp at h
      rw [← h.1]
      exact ⟨e, by simp, by rw [h1, hx]⟩
    · obtain ⟨a, b⟩ := lW l x (i + 1) j z h
      rw [show j - i = (j - (i + 1)) + 1 by omega]
      simpa using sW l es x (i + 1) j z h3 h
end
section
variable {K : Cx} {R S Y : Type} {Q : dn R} {E : Env} {H : List HA} {opt : Option R} {ops : Array Oper} {rest : List Oper} {o : Oper} {α β : Type} [DecidableEq α] {ek : α → Value} {ev : β → Value} {T VT t : TypeId} {b : Nat} {kvs : List (α × β)}
theorem xJ {t : TypeId} (ho : o.op = .makeMap t none) : RE K (Y := Nat) o E H (fun b => .map (some b)) (fun b => aB b ek ev [] :: H) :=
  gV (by rw [ho]; intro c h; cases h) fun a w he hs => by
    refine ⟨w.heap.size, { w with heap := w.heap.push (.map #[] 0) }, ?_, (hs.new _).map_close (by simp [cZ]) (by simp) (by simp)⟩
    unfold execOp; simp only [ho]
    simp [Instr.makeMap, newObj, Sem.run]
theorem kH (es : Array MapEntry) (i : Nat) (f : MapEntry → MapEntry) : (es.modify i f).toList = es.toList.modify i f := by
  apply List.ext_getElem?
  intro j
  simp [List.getElem?_modify, Array.getElem?_modify]
theorem yN {x y z : Operand} (k : Nat) (v : α) (u : β) (ho : o.op = .mapUpdate t x y z) (hx : Go.Proofs.YtjkjlggbikeliaaGreatDoor.ev E x = some (.map (some b))) (hy : Go.Proofs.YtjkjlggbikeliaaGreatDoor.ev E y = some (ek v)) (hz : Go.Proofs.YtjkjlggbikeliaaGreatDoor.ev E z = some (ev u)) (hu : K.P.underlying t = some (.map T VT)) (hK : kZ K.P T ek) (hk : H[k]? = some (aB b ek ev kvs)) :
    RE K (Y := Unit) o E H (fun _ => undef) (fun _ => H.set k (aB b ek ev (bk kvs v u))) :=
  nD (by rw [ho]; intro c h; cases h) fun a w he s => by
    obtain ⟨es, clock, h1, h2, h3, s2⟩ := (s.focus hk).map_open
    have hb := s2.pts_at (i := 0) rfl
    have hf := hK.find w h1 v
    cases hp : fF kvs v 0 with
    | none =>
      rw [hp] at hf
      refine ⟨(), _, ?_, Sat.unfocus hk ((s2.upd (b := b) (o' := .map (es.push { key := ek v, val := ev u, born := clock }) (clock + 1))).map_close ?_ ?_ ?_)⟩
      · unfold execOp; simp only [ho]; rw [he.ev hx, he.ev hy, he.ev hz]
        simp [Instr.mapUpdate, underlying, program, Sem.run, hu, getObj, hb, hK.chk, hf, setObj]
      · simpa using qP kvs es.toList v u 0 clock h1 hp
      · simp only [Array.toList_push, List.map_append, List.map_cons, List.map_nil]
        refine List.nodup_append.2 ⟨h2, by simp, fun a ha b hb => ?_⟩
        simp only [List.mem_singleton] at hb
        obtain ⟨e, he, rfl⟩ := List.mem_map.1 ha
        have := h3 e he
        omega
      · intro e he
        simp only [Array.toList_push, List.mem_append, List.mem_singleton] at he
        rcases he with he | rfl
        · have := h3 e he; omega
        · simp
    | some p =>
      obtain ⟨j, q⟩ := p
      rw [hp] at hf
      obtain ⟨e0, hj, hkey⟩ := sW kvs es.toList v 0 j q h1 hp
      rw [Nat.sub_zero] at hj
      have hj' : es[j]? = some e0 := by simpa using hj
      have hkts : (Instr.keyThatStays (ek v) (ek v)).run K.P w = .ok (ek v) w := by simp [Instr.keyThatStays, hK.bits]
      refine ⟨(), _, ?_, Sat.unfocus hk ((s2.upd (b := b) (o' := .map (es.modify j fun e => { e with key := ek v, val := ev u }) clock)).map_close ?_ ?_ ?_)⟩
      · unfold execOp; simp only [ho]; rw [he.ev hx, he.ev hy, he.ev hz]
        simp [Instr.mapUpdate, underlying, program, Sem.run, hu, getObj, hb, hK.chk, hf, hj', hkey, hkts, setObj]
      · rw [kH]
        simpa using qO kvs es.toList v u 0 j q h1 hp
      · rw [kH]
        have : (es.toList.modify j fun e => { e with key := ek v, val := ev u }).map (·.born) = es.toList.map (·.born) := by
          apply List.ext_getElem?
          intro i
          simp only [List.getElem?_map, List.getElem?_modify]
          by_cases hi : j = i <;> simp [hi] <;> cases es[i]? <;> simp
        rw [this]; exact h2
      · rw [kH]
        intro e he
        obtain ⟨i, hi⟩ := List.mem_iff_getElem?.1 he
        rw [List.getElem?_modify] at hi
        cases hq : es.toList[i]? with
        | none => rw [hq] at hi; simp at hi
        | some e1 =>
          rw [hq] at hi
          have := h3 e1 (List.mem_of_getElem? hq)
          by_cases hji : j = i
          · simp [hji] at hi; rw [← hi]; exact this
          · simp [hji] at hi; rw [← hi]; exact this
theorem uH {x y : Operand} {ts : Array TypeId} (k : Nat) (v : α) (ho : o.op = .call { callee := .builtin .delete, args := #[x, y], argTypes := ts }) (hx : Go.Proofs.YtjkjlggbikeliaaGreatDoor.ev E x = some (.map (some b))) (hy : Go.Proofs.YtjkjlggbikeliaaGreatDoor.ev E y = some (ek v)) (ht : ts[0]? = some t) (hu : K.P.underlying t = some (.map T VT)) (hK : kZ K.P T ek) (hk : H[k]? = some (aB b ek ev kvs)) :
    RE K (Y := Unit) o E H (fun _ => .tuple #[]) (fun _ => H.set k (aB b ek ev (bU kvs v))) :=
  gV (by rw [ho]; intro c h; cases h) fun a w he s => by
    obtain ⟨es, clock, h1, h2, h3, s2⟩ := (s.focus hk).map_open
    have hb := s2.pts_at (i := 0) rfl
    have hf := hK.find w h1 v
    cases hp : fF kvs v 0 with
    | none =>
      rw [hp] at hf
      refine ⟨(), _, ?_, Sat.unfocus hk ((s2.upd (b := b) (o' := .map es clock)).map_close (by rw [qR kvs v 0 hp]; exact h1) h2 h3)⟩
      unfold execOp; simp only [ho]
      simp [resolve, invoke, builtin, Builtin.delete_, ht, underlying, program, Sem.run, hu, he.ev hx, he.ev hy, getObj, hb, hK.chk, hf, setObj]
    | some p =>
      obtain ⟨j, q⟩ := p
      rw [hp] at hf
      have hjl := lW kvs v 0 j q hp
      have hsz : es.size = kvs.length := by have := congrArg List.length h1; simpa [cZ] using this
      have hjs : j < es.size := by omega
      refine ⟨(), _, ?_, Sat.unfocus hk ((s2.upd (b := b) (o' := .map (es.eraseIdxIfInBounds j) clock)).map_close ?_ ?_ ?_)⟩
      · unfold execOp; simp only [ho]
        simp [resolve, invoke, builtin, Builtin.delete_, ht, underlying, program, Sem.run, hu, he.ev hx, he.ev hy, getObj, hb, hK.chk, hf, setObj]
      · have := qQ kvs es.toList v 0 j q h1 hp
        simpa [Array.eraseIdxIfInBounds, hjs] using this
      · simp only [Array.eraseIdxIfInBounds, hjs, dif_pos, Array.toList_eraseIdx]
        exact (List.Sublist.map _ (List.eraseIdx_sublist _ _)).nodup h2
      · intro e he
        simp only [Array.eraseIdxIfInBounds, hjs, dif_pos, Array.toList_eraseIdx] at he
        exact h3 e ((List.eraseIdx_sublist _ _).subset he)
/-! ### Strings by order -/
theorem zV {xt yt : TypeId} {x y : Operand} {l m : List UInt8} (ho : o.op = .binOp .lss xt x y yt) (hx : Go.Proofs.YtjkjlggbikeliaaGreatDoor.ev E x = some (str l)) (hy : Go.Proofs.YtjkjlggbikeliaaGreatDoor.ev E y = some (str m)) : RQ K o E H (.bool (Op.bytesLess l m)) :=
  gp ho hx hy ko fun P w => by simp [binOp, Op.stringOp, str, ByteArray.toList_eq]
end
/-! ### Keys -/
theorem xe {P : Program} {T : TypeId} (hu : P.underlying T = some .string) : kZ P T (fun x : List UInt8 => str x) :=
  ⟨fun e x w => by rw [show (10000 : Nat) = 9999 + 1 from rfl, Instr.checkKey]; simp [underlying, program, Sem.run, hu, str], ⟨_, hu, .inl fun x y => by simp [Instr.sameNow, str]; rw [beq_toListBytes, ByteArray.toList_eq, ByteArray.toList_eq, Bool.eq_iff_iff]; simp⟩, fun x => by unfold str; rw [Instr.sameBits, beq_toListBytes]; simp⟩
end Go.Proofs.YtjkjlggbikeliaaGreatDoor

namespace Go.Proofs.YtjkjlggbikeliaaGreatDoor
set_option linter.unusedVariables false
set_option linter.unusedSimpArgs false
set_option linter.unusedSectionVars false
open Go.RowKit
theorem qT (vs : List Value) (l m : List Value) (k : Nat) (h : k + vs.length ≤ l.length) : fe (l ++ m) k vs = fe l k vs ++ m := by
  rw [il _ _ _ (by simp; omega), il _ _ _ h, List.take_append_of_le_length (by omega), List.drop_append_of_le_length h]
  simp
theorem pN (vs : List Value) (l m : List Value) (k : Nat) (h : k + vs.length ≤ m.length) : fe (l ++ m) (l.length + k) vs = l ++ fe m k vs := by
  rw [il _ _ _ (by simp; omega), il _ _ _ h]
  rw [List.take_append, List.drop_append, List.take_of_length_le (by omega), List.drop_of_length_le (by omega)]
  rw [show l.length + k - l.length = k by omega, show l.length + k + vs.length - l.length = k + vs.length by omega]
  simp
section
variable {α : Type} {n : Nat} {V : α → List Value → Prop}
theorem bE.set (u : α) (d : Nat) (vs : List Value) (hd : d + vs.length ≤ n) (h1 : one vs) (dflt : α) : ∀ {xs : List α} {rs : List (List Value)} (i : Nat), bE n V xs rs → i < xs.length → (∀ r, V (xs.getD i dflt) r → r.length = n → one r → V u (fe r d vs)) →
    ∃ rs', bE n V (xs.set i u) rs' ∧ fe rs.flatten (i * n + d) vs = rs'.flatten
  | x :: xs, r :: rs, 0, ⟨⟨a, b, c⟩, t⟩, _, hu => by
    refine ⟨fe r d vs :: rs, ⟨⟨by rw [gk]; exact a, ?_, hu r c a b⟩, t⟩, ?_⟩
    · rw [il _ _ _ (by omega)]
      intro v hv
      simp only [List.mem_append] at hv
      rcases hv with (hv | hv) | hv
      · exact b v (List.mem_of_mem_take hv)
      · exact h1 v hv
      · exact b v (List.mem_of_mem_drop hv)
    · simp only [List.flatten_cons, Nat.zero_mul, Nat.zero_add]
      exact qT vs r _ d (by omega)
  | x :: xs, r :: rs, i + 1, ⟨⟨a, b, c⟩, t⟩, h, hu => by
    obtain ⟨rs', h2, h3⟩ := bE.set u d vs hd h1 dflt i t (by simpa using h) (by simpa using hu)
    refine ⟨r :: rs', ⟨⟨a, b, c⟩, h2⟩, ?_⟩
    simp only [List.flatten_cons]
    have hfl := t.flat
    have hi : i < xs.length := by simpa using h
    have hin : i * n + d + vs.length ≤ rs.flatten.length := by
      rw [hfl]
      have : (i + 1) * n ≤ xs.length * n := Nat.mul_le_mul_right _ hi
      rw [Nat.add_mul] at this
      omega
    rw [← h3, show (i + 1) * n + d = r.length + (i * n + d) by rw [Nat.add_mul, a]; omega]
    exact pN vs r _ _ hin
end
structure uP (n : Nat) (a : Option Addr) (c : Nat) (lo : Int) (a' : Option Addr) (c' : Nat) : Prop where
  addr : a' = (if c = lo.toNat then a else a.map (·.add (lo.toNat * n)))
  cap : c' = c - lo.toNat
theorem jJ {α : Type} {n : Nat} {V : α → List Value → Prop} {F : HA} {a : Option Addr} {l : List α} {c : Nat} {lo hi : Int} (hF : RdV F n V a l) (hcap : l.length ≤ c) (hb : 0 ≤ lo ∧ lo ≤ hi ∧ hi ≤ l.length) :
    ∃ a' c', uP n a c lo a' c' ∧ RdV F n V a' (cut l lo hi) ∧ (cut l lo hi).length ≤ c' ∧ c' ≤ c :=
  ⟨_, _, ⟨rfl, rfl⟩, hF.cut lo.toNat hi.toNat (by omega), by rw [jk hb.2.2]; omega, by omega⟩
section
variable {K : Cx} {R S Y α : Type} {Q : dn R} {E : Env} {H : List HA} {opt : Option R} {ops : Array Oper} {rest : List Oper} {o : Oper} {n : Nat} {V : α → List Value → Prop} {a : Option Addr} {xs : List α} {T : TypeId} {c : Nat}
theorem kv {x : Operand} {t e : Nat} {lo hi : Option Operand} {a' : Option Addr} {c' m : Nat} {l : List α} {vl vh : Option Value} {lo' hi' : Int}
    (ho : o.op = .slice t x lo hi none) (hx : ev E x = some (.slice a m c))
    (hl : lim E lo = some vl) (hh : lim E hi = some vh) (hu : K.P.underlying t = some (.slice e)) (hs : ∀ w, (sizeOf e).run K.P w = .ok n w)
    (h1 : (vh = none ∧ hi' = m) ∨ ∃ k, vh = some (.int k hi')) (h2 : (vl = none ∧ lo' = 0) ∨ ∃ k, vl = some (.int k lo')) (hb : 0 ≤ lo' ∧ lo' ≤ hi' ∧ hi' ≤ l.length) (hcap : l.length ≤ c) (hS : uP n a c lo' a' c') :
    RQ K o E H (.slice a' (cut l lo' hi').length c') := by
  obtain ⟨b1, b2, b3⟩ := hb
  obtain ⟨rfl, rfl⟩ := hS
  obtain ⟨L, rfl⟩ := Int.eq_ofNat_of_zero_le b1
  obtain ⟨M, rfl⟩ := Int.eq_ofNat_of_zero_le (Int.le_trans b1 b2)
  have hlen := jk (l := l) (lo := (L : Int)) (hi := (M : Int)) b3
  simp only [Int.toNat_natCast] at hlen
  have q := pO (K := K) (H := H) (o := o) (l := L) (h := M) ho hx hl hh hu hs (by rcases h1 with ⟨x, y⟩ | y; exact .inl ⟨x, by omega⟩; exact .inr y) (by rcases h2 with ⟨x, y⟩ | y; exact .inl ⟨x, by omega⟩; exact .inr y) (by omega) (by omega)
  rw [← hlen] at q
  simpa using q
theorem tK {T : TypeId} {n m c c' : Nat} {a a' : Option Addr} {cs : List Value} {lo hi : Nat} (h1 : lo ≤ hi) (h2 : hi * n ≤ cs.length) (h3 : hi ≤ c) (ha : a' = (if c = lo then a else a.map (·.add (lo * n)))) (hc : c' = c - lo) :
    ∀ h, Row T n a m c cs h → Row T n a' (hi - lo) c' ((cs.take (hi * n)).drop (lo * n)) h := by
  intro h x
  rcases x with ⟨x1, x2, x3, x4⟩ | ⟨b, off, pre, junk, fz, hax, ok, hb⟩
  · left
    subst x4
    subst x3
    have : hi = 0 := by omega
    have : lo = 0 := by omega
    subst x1
    refine ⟨?_, by omega, by omega, by simp⟩
    rw [ha]; split <;> rfl
  · right
    subst hax
    have hln : lo * n ≤ hi * n := Nat.mul_le_mul_right _ h1
    have hcn : hi * n ≤ c * n := Nat.mul_le_mul_right _ h3
    have hroom := ok.room
    have hoffs := ok.offs
    have hcap := ok.cap
    by_cases e : c = lo
    · have hh : hi = lo := by omega
      refine ⟨b, off, pre, cs ++ junk, fz, by rw [ha, if_pos e], ⟨hoffs, by omega, by omega, by rw [hc, e]; simp, by rw [hh]; simp, by rw [hh]; simp [List.drop_of_length_le], ?_⟩, ?_⟩
      · rcases ok.fzok with x | x
        · exact .inl x
        · right; rw [hc, e]; simp; omega
      · rw [hb]; congr 1
        have : (cs.take (hi * n)).drop (lo * n) = [] := by rw [List.drop_of_length_le]; rw [List.length_take, hh]; exact Nat.min_le_left _ _
        rw [this]; simp
    · have hadd : (⟨b, off, none⟩ : Addr).add (lo * n) = ⟨b, off + lo * n, none⟩ := oe _ _ _
      refine ⟨b, off + lo * n, pre ++ cs.take (lo * n), cs.drop (hi * n) ++ junk, fz, by rw [ha, if_neg e]; simp [hadd], ⟨?_, by omega, by omega, ?_, ?_, ?_, ?_⟩, ?_⟩
      · rw [List.length_append, List.length_take]; omega
      · rw [hc, Nat.sub_mul, List.length_drop, List.length_take, List.length_append, List.length_drop]; omega
      · rw [Nat.sub_mul, List.length_drop, List.length_take]; omega
      · rw [hc, Nat.sub_mul, List.length_drop, List.length_take]; omega
      · rcases ok.fzok with x | x
        · exact .inl x
        · right; rw [hc, Nat.sub_mul]; omega
      · rw [hb]; congr 1
        have e1 : cs = cs.take (lo * n) ++ ((cs.take (hi * n)).drop (lo * n) ++ cs.drop (hi * n)) := by
          rw [← List.append_assoc]
          have : cs.take (lo * n) ++ (cs.take (hi * n)).drop (lo * n) = cs.take (hi * n) := by
            have := List.take_append_drop (lo * n) (cs.take (hi * n))
            rwa [List.take_take, Nat.min_eq_left hln] at this
          rw [this, List.take_append_drop]
        have e2 : pre ++ cs ++ junk = pre ++ cs.take (lo * n) ++ (cs.take (hi * n)).drop (lo * n) ++ (cs.drop (hi * n) ++ junk) := by
          conv => lhs; rw [e1]
          simp only [List.append_assoc]
        rw [e2]
theorem vT {lo hi : Int} {a' : Option Addr} {c' m : Nat} {rs : List (List Value)} (k : Nat) (hk : H[k]? = some (Row T n a m c rs.flatten)) (hl : bE n V xs rs) (hS : uP n a c lo a' c') (hb : 0 ≤ lo ∧ lo ≤ hi ∧ hi ≤ xs.length) (hcap : xs.length ≤ c)
    (h : bP K Q ops rest E (H.set k (aC T n V a' (cut xs lo hi) c')) opt) : bP K Q ops rest E H opt := by
  intro r hr aa w he hs
  refine h r hr aa w he (Sat.unfocus hk ((hs.focus hk).ent (Ent.sel' 0 rfl (fun p hp => ?_) (Ent.refl _))))
  have hfl := hl.flat
  have hhl : hi.toNat ≤ xs.length := by omega
  have h2 : hi.toNat * n ≤ rs.flatten.length := by rw [hfl]; exact Nat.mul_le_mul_right _ hhl
  have := tK (lo := lo.toNat) (hi := hi.toNat) (by omega) h2 (by omega) hS.addr hS.cap p hp
  refine ⟨(rs.take hi.toNat).drop lo.toNat, (hl.take _).drop _, ?_⟩
  rw [jk hb.2.2, (hl.take _).flat_drop, hl.flat_take]
  exact this
theorem hZ {x y : Operand} {t : TypeId} {b off i m : Nat} {v : Value} {vs : List Value} {rs : List (List Value)} (u : α) (d : Nat) (dflt : α) (k : Nat) (ho : o.op = .store t x y) (hx : ev E x = some (.pointer (some ⟨b, off + i * n + d, none⟩))) (hy : ev E y = some v)
    (hs : ∀ w, (sizeOf t).run K.P w = .ok m w) (hv : v.cells = vs.toArray) (hm : vs.length = m) (h1 : one vs) (hk : H[k]? = some (Row T n a xs.length c rs.flatten)) (hl : bE n V xs rs) (ha : a = some ⟨b, off, none⟩) (hi : i < xs.length) (hd : Nat.ble (d + m) n = true)
    (hu : ∀ r, V (xs.getD i dflt) r → r.length = n → one r → V u (fe r d vs)) :
    RE K (Y := Unit) o E H (fun _ => undef) (fun _ => H.set k (aC T n V a (xs.set i u) c)) := by
  have hd : d + m ≤ n := by simpa [Nat.ble_eq] using hd
  obtain ⟨rs', h2, h3⟩ := bE.set u d vs (by omega) h1 dflt i hl hi hu
  have hin : i * n + d + m ≤ rs.flatten.length := by
    rw [hl.flat]
    have : (i + 1) * n ≤ xs.length * n := Nat.mul_le_mul_right _ hi
    rw [Nat.add_mul] at this
    omega
  refine jq (mE (j := i * n + d) k ho (by rw [← Nat.add_assoc]; exact hx) hy hs hv hm h1 hk ha hin) (fun _ => rfl) fun _ => Ent.set k fun p hp => ⟨rs', h2, ?_⟩
  rw [List.length_set, ← h3]
  exact hp
theorem rE {t e sz bytes : Nat} {zs : List Value} (ho : o.op = .buildSlice t 0 [].toArray) (ht : K.P.underlying t = some (.slice e)) (hE : Elt K.P e sz bytes zs) :
    RE K (Y := Nat) o E H (fun b => .slice (some ⟨b, 0, none⟩) ([] : List α).length 0) (fun b => aC e sz V (some ⟨b, 0, none⟩) ([] : List α) 0 :: H) :=
  gV (by rw [ho]; intro c h; cases h) fun a' w he s => by
    obtain ⟨i, z, hi, hz, hsz, hby, hzs⟩ := hE.info
    refine ⟨w.heap.size, { w with heap := w.heap.push (.cells #[] e (0, 0)) }, ?_, (s.new _).ent (Ent.sel' 0 rfl ?_ (Ent.refl _))⟩
    · unfold execOp; simp only [ho]
      simp [Instr.buildSlice, underlying, program, Sem.run, ht, sizeOf, typeInfo, hi, newRow, newObj, Instr.fill]
      refine congrArg (fun x => w.alloc (.cells x e)) ?_
      apply Array.ext <;> simp
    · intro h x
      exact ⟨[], trivial, Row.mk (pre := []) (junk := []) (fz := (0, 0)) ⟨rfl, Nat.le_refl _, by simp [maxLen], by simp, by simp, by simp, Or.inl rfl⟩ h (by simpa [pts] using x)⟩
end
/-! ### Structs within structs -/
section
variable {P : Program} {d : Nat} {xs ys : Array Value} {f : Field} {fs : List Field} {a b : Value} {r s : Bool} {w : World}
end
section
variable {K : Cx} {E : Env} {H : List HA} {o : Oper}
end
end Go.Proofs.YtjkjlggbikeliaaGreatDoor

namespace Go.Proofs.YtjkjlggbikeliaaGreatDoor
set_option linter.unusedVariables false
set_option linter.unusedSimpArgs false
set_option linter.unusedSectionVars false
open Go.RowKit
theorem lM {α : Type} {b : Bool} (h : b = true) (u v : α) : (bif b then u else v) = u := by rw [h]; rfl
theorem lN {α : Type} {b : Bool} (h : b = false) (u v : α) : (bif b then u else v) = v := by rw [h]; rfl
theorem dH {b : Bool} (h : b = true) : (b == true) = true := by rw [h]; rfl
theorem dp {b : Bool} (h : b = false) : (b == false) = true := by rw [h]; rfl
theorem dG {b : Bool} (h : b = true) : (b == false) = false := by rw [h]; rfl
theorem dI {b : Bool} (h : b = false) : (b == true) = false := by rw [h]; rfl
theorem gC {p : Prop} [Decidable p] (h : ¬ p) : (!decide p) = true := by simp [h]
theorem hT {p : Prop} [Decidable p] (h : p) : (!decide p) = false := by simp [h]
theorem zf {b want : Bool} (h : (b == want) = true) (v : Value) : v = cv (b == want) v := by rw [h]; rfl
theorem zL {b want : Bool} (h : (b == want) = false) (v : Value) : undef = cv (b == want) v := by rw [h]; rfl
section
variable {K : Cx} {R S Y : Type} {Q : dn R} {E : Env} {H : List HA} {o : Option R}
theorem QOb.yes {ops : Array Oper} {anc : List (List Nat)} {val : Nat → Value} {i j dj : Nat} {want b : Bool} {v : Value} {op : Oper} (Ei : Env) (ho : ops[i]? = some op) (hg : op.guard = some (j, want)) (hj : dY ops j = some dj) (hb : lk Ei dj = some (.bool b)) (hw : (b == want) = true)
    (he : dM ops anc val E i Ei) (h : RQ K op Ei H v) (hv : val i = v) : QOb K ops anc val E H i :=
  .grd Ei ho hg hj hb he (fun _ => h) (by rw [hv]; exact zf hw v)
theorem QOb.no {ops : Array Oper} {anc : List (List Nat)} {val : Nat → Value} {i j dj : Nat} {want b : Bool} {op : Oper} (Ei : Env) (ho : ops[i]? = some op) (hg : op.guard = some (j, want)) (hj : dY ops j = some dj) (hb : lk Ei dj = some (.bool b)) (hw : (b == want) = false)
    (he : dM ops anc val E i Ei) (hv : val i = undef) : QOb K ops anc val E H i :=
  .grd (v := undef) Ei ho hg hj hb he (fun x => by rw [hw] at x; cases x) (by rw [hv]; exact zL hw undef)
theorem dM.v {ops : Array Oper} {anc : List (List Nat)} {val : Nat → Value} {E : Env} {i : Nat} {l : Env} {s : Nat} (p : Nat) (hp : (gn anc i).contains p = true) (hd : dY ops p = some s) (r : dM ops anc val E i l) : dM ops anc val E i ((s, val p) :: l) := .w p hp hd rfl r
theorem qp {ops : Array Oper} {anc : List (List Nat)} {val : Nat → Value} {i : Nat} {op : Oper} {v : Value} {Ei : Env} (ho : ops[i]? = some op) (hg : op.guard = none) (he : dM ops anc val E i Ei) (h : RQ K op Ei H v) (hv : val i = v) : QOb K ops anc val E H i := .plain Ei ho hg he h hv
theorem qy {ops : Array Oper} {anc : List (List Nat)} {val : Nat → Value} {i j dj : Nat} {want b : Bool} {v : Value} {op : Oper} {Ei : Env} (ho : ops[i]? = some op) (hg : op.guard = some (j, want)) (he : dM ops anc val E i Ei) (hj : dY ops j = some dj) (hb : lk Ei dj = some (.bool b)) (hw : (b == want) = true)
    (h : RQ K op Ei H v) (hv : val i = v) : QOb K ops anc val E H i := .yes Ei ho hg hj hb hw he h hv
theorem qn {ops : Array Oper} {anc : List (List Nat)} {val : Nat → Value} {i j dj : Nat} {want b : Bool} {op : Oper} {Ei : Env} (ho : ops[i]? = some op) (hg : op.guard = some (j, want)) (he : dM ops anc val E i Ei) (hj : dY ops j = some dj) (hb : lk Ei dj = some (.bool b)) (hw : (b == want) = false)
    (hv : val i = undef) : QOb K ops anc val E H i := .no Ei ho hg hj hb hw he hv
theorem eo {ops : Array Oper} {anc : List (List Nat)} {Γ Z : Type} {val : Γ → Nat → Value} {heap : Nat → Γ → List HA} {m i : Nat} {pre : List Nat} {γ : Γ} {op : Oper} {v : Z → Value} {H' : Z → List HA} {Ei : Env} (f : Z → Γ) (ho : ops[i]? = some op) (hg : op.guard = none) (he : dM ops anc (val γ) E i Ei)
    (h : RE K (Y := Z) op Ei (heap m γ) v H') (ha : ∀ z, hJ pre (val (f z)) (val γ)) (hv : ∀ z, op.dst = none ∨ v z = val (f z) i) (hH : ∀ z, Ent (H' z) (heap (m + 1) (f z))) : EOb K ops anc val E heap m i pre γ := .mk Ei f ho hg he h ha hv hH
theorem ey {ops : Array Oper} {anc : List (List Nat)} {Γ Z : Type} {val : Γ → Nat → Value} {heap : Nat → Γ → List HA} {m i j dj : Nat} {want b : Bool} {pre : List Nat} {γ : Γ} {op : Oper} {v : Z → Value} {H' : Z → List HA} {Ei : Env} (f : Z → Γ) (ho : ops[i]? = some op) (hg : op.guard = some (j, want)) (he : dM ops anc (val γ) E i Ei)
    (hj : dY ops j = some dj) (hb : lk Ei dj = some (.bool b)) (hw : (b == want) = true)
    (h : RE K (Y := Z) op Ei (heap m γ) v H') (ha : ∀ z, hJ pre (val (f z)) (val γ)) (hv : ∀ z, op.dst = none ∨ v z = val (f z) i) (hH : ∀ z, Ent (H' z) (heap (m + 1) (f z))) : EOb K ops anc val E heap m i pre γ := .yes Ei f ho hg hj hb hw he h ha hv hH
theorem eoI {ops : Array Oper} {anc : List (List Nat)} {Γ Z : Type} {val : Γ → Nat → Value} {heap : Nat → Γ → List HA} {s t i : Nat} {pre : List Nat} {γ : Γ} {op : Oper} {v : Z → Value} {H' : Z → List HA} {Ei : Env} (f : Z → Γ) (ho : ops[i]? = some op) (hg : op.guard = none) (he : dM ops anc (val γ) E i Ei)
    (h : RE K (Y := Z) op Ei (heap s γ) v H') (ha : ∀ z, hJ pre (val (f z)) (val γ)) (hv : ∀ z, op.dst = none ∨ v z = val (f z) i) (hH : ∀ z, Ent (H' z) (heap t (f z))) : lB K ops anc val E heap s t i pre γ := .mk Ei f ho hg he h ha hv hH
abbrev rL (n : Nat) : List Nat := List.range n
theorem zA {p : Nat → Prop} : All [] p := trivial
theorem ac {l : List Nat} {p : Nat → Prop} {i : Nat} (h : p i) (r : All l p) : All (i :: l) p := ⟨h, r⟩
end
end Go.Proofs.YtjkjlggbikeliaaGreatDoor

namespace Go.Proofs.YtjkjlggbikeliaaGreatDoor
set_option linter.unusedVariables false
set_option linter.unusedSimpArgs false
open Go.RowKit
section
variable {P : Program}
end
end Go.Proofs.YtjkjlggbikeliaaGreatDoor

namespace Go.Proofs.YtjkjlggbikeliaaGreatDoor
set_option linter.unusedVariables false
set_option linter.unusedSimpArgs false
open Go.RowKit
section
variable {α β : Type} [DecidableEq α] {P : Program} {T : TypeId} {ek : α → Value} {ev : β → Value}
end
section
variable {α β : Type} [DecidableEq α] {T VT : TypeId} {ek : α → Value} {ev : β → Value} {K : Cx} {E : Env} {H : List HA} {o : Oper} {t : TypeId} {b : Nat} {kvs : List (α × β)}
end
end Go.Proofs.YtjkjlggbikeliaaGreatDoor

namespace Go.Proofs.YtjkjlggbikeliaaGreatDoor
set_option linter.unusedVariables false
set_option linter.unusedSimpArgs false
open Go.RowKit
theorem lc {l m : List HA} (h : l = m) : Ent l m := by rw [h]; exact Ent.refl _
section
variable {K : Cx} {Y : Type} {E : Env} {H : List HA} {o : Oper} {v : Y → Value} {H' : Y → List HA}
theorem RE.ent {H1 : List HA} (e : Ent H H1) (h : RE K o E H1 v H') : RE K o E H v H' := fun a w he hs next Q hn => h a w he (hs.ent e) next Q hn
end
section
variable {α : Type} {T : TypeId} {n c : Nat} {a : Option Addr} {V : α → List Value → Prop} {xs : List α} {H : List HA}
theorem Ent.set' {l : List HA} {A B : HA} (k : Nat) (hk : l[k]? = some A) (h : ∀ x, A x → B x) : Ent l (l.set k B) := by
  have e : l.set k A = l := by
    apply List.ext_getElem?
    intro i
    rw [List.getElem?_set]
    split
    · rename_i hi; subst hi
      have := (List.getElem?_eq_some_iff.1 hk).1
      rw [if_pos this, hk]
    · rfl
  have := Ent.set (l := l) k h
  rwa [e] at this
theorem Ent.cutB {lo hi : Int} {a' : Option Addr} {c' m : Nat} {l : List UInt8} (k : Nat) (hk : H[k]? = some (Row T 1 a m c (ao l))) (hS : xj a c lo a' c') (hb : 0 ≤ lo ∧ lo ≤ hi ∧ hi ≤ l.length) (hcap : l.length ≤ c) :
    Ent H (H.set k (Row T 1 a' (cut l lo hi).length c' (ao (cut l lo hi)))) :=
  Ent.set' k hk fun p hp => by
    have := tK (lo := lo.toNat) (hi := hi.toNat) (by omega) (by rw [bT]; omega) (by omega) hS.addr hS.cap p hp
    rw [jk hb.2.2]
    unfold cut
    rw [← lq, ← jE]
    simpa using this
end
section
variable {K : Cx} {E : Env} {H : List HA} {o : Oper} {α : Type} {n c : Nat} {a : Option Addr} {V : α → List Value → Prop} {xs : List α}
theorem RE.openV {Y : Type} {v : Y → Value} {H' : Y → List HA} {H1 : List (List Value) → Y → List HA} {T : TypeId} (k : Nat) (hk : H[k]? = some (aC T n V a xs c)) (h : ∀ rs, bE n V xs rs → RE K o E (H.set k (Row T n a xs.length c rs.flatten)) v (H1 rs)) (he : ∀ rs, bE n V xs rs → ∀ y, Ent (H1 rs y) (H' y)) : RE K o E H v H' := by
  intro a' w ha hs next Q hn
  obtain ⟨rs, hl, s⟩ := lg k hk hs
  exact h rs hl a' w ha s next Q fun y w' s' => hn y w' (s'.ent (he rs hl y))
def mj (n : Int) : List UInt8 := (Utf8.encode n).data.toList
theorem zg {k : IntKind} {m : Int} {x : Operand} {s d : TypeId} {k' : IntKind} (ho : o.op = .convert s d x) (hx : ev E x = some (.int k m)) (hu : K.P.underlying s = some (.int k')) (hd : K.P.underlying d = some .string) : RQ K o E H (str (mj m)) :=
  cT (by rw [ho]; intro c h; cases h) fun a w he _ => by
    unfold execOp; simp only [ho]; rw [he.ev hx]
    simp [convert, underlying, program, Sem.run, hu, hd, Conv.intToString, str, mj]
theorem nP {xt e : TypeId} (P : Program) (hu : P.underlying xt = some (.pointer e)) (w : World) : (Op.equal xt (.pointer none) (.pointer none)).run P w = .ok true w := by
  rw [show Op.equal xt (.pointer none) (.pointer none) = Op.equalIn (9999 + 1) xt (.pointer none) (.pointer none) from rfl, Op.equalIn]
  simp [underlying, program, Sem.run, hu]
theorem mK {xt yt e : TypeId} {x y : Operand} (ho : o.op = .binOp .eql xt x y yt) (hx : ev E x = some (.pointer none)) (hy : ev E y = some (.pointer none)) (hu : K.P.underlying xt = some (.pointer e)) : RQ K o E H (.bool true) :=
  cT (by rw [ho]; intro c h; cases h) fun a w he _ => by
    unfold execOp; simp only [ho]; rw [he.ev hx, he.ev hy]
    simp [kn, binOp, nP K.P hu]
theorem zh {xt yt e : TypeId} {x y : Operand} (ho : o.op = .binOp .neq xt x y yt) (hx : ev E x = some (.pointer none)) (hy : ev E y = some (.pointer none)) (hu : K.P.underlying xt = some (.pointer e)) : RQ K o E H (.bool false) :=
  cT (by rw [ho]; intro c h; cases h) fun a w he _ => by
    unfold execOp; simp only [ho]; rw [he.ev hx, he.ev hy]
    simp [kn, binOp, nP K.P hu]
end
/-! ### What may be nil -/
theorem Fn.when {P : Program} {W : World} {f : FuncId} {args : List Value} {A : List HA} {F : HA} {R Y : Type} {o : Option R} {val val' : R → Y → Value} {B B' : R → Y → List HA} (h : Fn P W f args A F o val B) (flag : R → Bool) (b : Bool)
    (hv : ∀ r y, flag r = b → val r y = val' r y) (hB : ∀ r y, flag r = b → Ent (B r y) (B' r y)) : Fn P W f args A F (o.filter fun r => flag r == b) val' B' := by
  intro r hr w hs
  obtain ⟨h1, h2⟩ := Option.filter_eq_some_iff.1 hr
  have h3 : flag r = b := by simpa using h2
  refine (h r h1 w hs).mono ?_
  rintro e w' ⟨y, he, s⟩
  exact ⟨y, by rw [he, hv r y h3], s.ent (Ent.app (hB r y h3) (Ent.refl _))⟩
/-! ### Short forms -/
section
variable {K : Cx} {R S Y : Type} {Q : dn R} {E : Env} {H : List HA} {opt : Option R} {ops : Array Oper} {rest : List Oper}
theorem vq {d : Nat} {v : Value} {p : Op} {t : TypeId} {ps : String} {af : Array Edge} (hr : RQ K ⟨some d, p, t, ps, af, none⟩ E H v) (hn : Nat.blt d K.n = true) (h : bP K Q ops rest ((d, v) :: E) H opt) : bP K Q ops (⟨some d, p, t, ps, af, none⟩ :: rest) E H opt := jX hr rfl rfl hn h
theorem vm {d : Nat} {v : Value} {x : Operand} {t : TypeId} {ps : String} {af : Array Edge} (hx : ev E x = some v) (hn : Nat.blt d K.n = true) (h : bP K Q ops rest ((d, v) :: E) H opt) : bP K Q ops (⟨some d, .move x, t, ps, af, none⟩ :: rest) E H opt := jX (aS rfl hx) rfl rfl hn h
theorem va {d : Nat} {v : Value} {x : Operand} {t : TypeId} {ps : String} {af : Array Edge} (hx : ev E x = some v) (hn : Nat.blt d K.n = true) (h : bP K Q ops rest ((d, v) :: E) H opt) : bP K Q ops (⟨some d, .assign x, t, ps, af, none⟩ :: rest) E H opt := jX (dA rfl hx) rfl rfl hn h
theorem vn {d : Nat} {x : Operand} {ad : Addr} {t : TypeId} {ps : String} {af : Array Edge} (hx : ev E x = some (.pointer (some ad))) (hn : Nat.blt d K.n = true) (h : bP K Q ops rest ((d, .pointer (some ad)) :: E) H opt) : bP K Q ops (⟨some d, .nilCheck x, t, ps, af, none⟩ :: rest) E H opt := jX (cj rfl hx) rfl rfl hn h
theorem nx {id : Nat} {l : List Oper} {c2 : Code} (h : bP K (lr K c2 Q) l.toArray l E H opt) : bP K (lr K (.seq (.region id l.toArray false) c2) Q) ops [] E H opt := ag (ae (ap (aE h)))
theorem ny {id : Nat} {l : List Oper} (h : bP K Q l.toArray l E H opt) : bP K (lr K (.region id l.toArray false) Q) ops [] E H opt := ag (ae (aE h))
theorem sr {id : Nat} {l : List Oper} {c2 : Code} (h : bP K (lr K c2 Q) l.toArray l E H opt) : Sim K Q (.seq (.region id l.toArray false) c2) E H opt := ap (aE h)
theorem qm {anc : List (List Nat)} {val : Nat → Value} {i : Nat} {d : Option Nat} {x : Operand} {t : TypeId} {ps : String} {af : Array Edge} {Ei : Env} (ho : ops[i]? = some ⟨d, .move x, t, ps, af, none⟩) (he : dM ops anc val E i Ei) (hx : ev Ei x = some (val i)) : QOb K ops anc val E H i := .plain Ei ho rfl he (aS rfl hx) rfl
theorem aq {Γ : Type} {l : List Nat} {p : Γ → Nat → Nat → Prop} {f : Nat → List Nat} {i j : Nat} (hf : f i = [j]) (h : ∀ γ, p γ i j) (r : All l fun i => ∀ γ, All (f i) fun j => p γ i j) : All (i :: l) fun i => ∀ γ, All (f i) fun j => p γ i j := ⟨fun γ => by rw [hf]; exact ⟨h γ, trivial⟩, r⟩
end
end Go.Proofs.YtjkjlggbikeliaaGreatDoor

namespace Go.Proofs.YtjkjlggbikeliaaGreatDoor
set_option linter.unusedVariables false
set_option linter.unusedSimpArgs false
open Go.RowKit
theorem Sat.below {W w w' : World} {H : List HA} (s : Sat W H w) (b : Below w.heap.size w w') : Sat W H w' := by
  refine ⟨b.os.trans s.os, b.tape.trans s.tape, b.output.trans s.output, Nat.le_trans s.size b.size, ?_⟩
  refine fo H tt _ ⟨fun i => if i < w.heap.size then none else w'.heap[i]?, hpw w, ?_, ?_, trivial, s.hp⟩
  · intro i
    by_cases h : i < w.heap.size
    · left; simp [h]
    · right; simp only [hpw]; exact Array.getElem?_eq_none (by omega)
  · funext i
    simp only [hpw, un]
    by_cases h : i < w.heap.size
    · simp [h]; rw [b.block i h]; simp [h]
    · simp [h]
theorem Sat.below_new {W w w' : World} {H : List HA} {g : Nat} {o : Obj} (s : Sat W H w) (b : Below w.heap.size w w') (hg : w.heap.size ≤ g) (ho : w'.heap[g]? = some o) : Sat W (pts g o :: H) w' := by
  refine ⟨b.os.trans s.os, b.tape.trans s.tape, b.output.trans s.output, Nat.le_trans s.size b.size, ?_⟩
  refine ⟨fun i => if i = g then some o else none, fun i => if i = g then none else w'.heap[i]?, ?_, ?_, by simp [pts], ?_⟩
  · intro i
    by_cases h : i = g
    · right; simp [h]
    · left; simp [h]
  · funext i
    simp only [hpw, un]
    by_cases h : i = g
    · subst h; simp [ho]
    · simp [h]
  · refine fo H tt _ ⟨fun i => if i < w.heap.size ∨ i = g then none else w'.heap[i]?, hpw w, ?_, ?_, trivial, s.hp⟩
    · intro i
      by_cases h : i < w.heap.size
      · left; simp [h]
      · right; simp only [hpw]; exact Array.getElem?_eq_none (by omega)
    · funext i
      simp only [hpw, un]
      by_cases h : i < w.heap.size
      · have : i ≠ g := by omega
        simp [h, this]; rw [b.block i h]; simp [h]
      · by_cases h2 : i = g
        · subst h2; simp [h]
        · simp [h, h2]
section
variable {α β : Type}
def dz (kvs : List (List UInt8 × β)) : List (List UInt8) := (kvs.map (·.1)).mergeSort fun x y => decide (x ≤ y)
theorem qF {n : Nat} {V : α → List Value → Prop} {f : α → Value} (h1 : n = 1) (hV : ∀ x, V x [f x]) (ho : ∀ x, (f x).oneCell' = true) : ∀ l : List α, bE n V l (l.map fun x => [f x])
  | [] => trivial
  | x :: l => by
    rw [List.map_cons]
    exact ⟨⟨by simp [h1], by intro v hv; simp at hv; subst hv; exact ho x, hV x⟩, qF h1 hV ho l⟩
theorem qG {f : α → Value} : ∀ l : List α, (l.map fun x => [f x]).flatten = l.map f
  | [] => rfl
  | x :: l => by simp [qG l]
theorem Sat.ownsRow {W w w' : World} {H : List HA} {T : TypeId} {v : Value} {n : Nat} {xs : List Value} (s : Sat W H w) (b : Below w.heap.size w w') (h : w'.ownsRow w.heap.size T 1 v n xs) : ∃ a c, v = .slice a n c ∧ Sat W (Row T 1 a n c xs :: H) w' := by
  obtain ⟨hl, h⟩ := h
  rcases h with ⟨rfl, rfl⟩ | ⟨g, cap, cur, rfl, hg, hb, hn, hc, hs, ht⟩
  · refine ⟨none, 0, rfl, ?_⟩
    have : xs = [] := List.eq_nil_of_length_eq_zero (by simpa using hl)
    subst this
    exact (s.below b).ent (Ent.row_nil (Ent.refl _))
  · refine ⟨some ⟨g, 0, none⟩, cap, rfl, ?_⟩
    rw [Nat.mul_one] at hl hs ht
    refine (s.below_new b hg hb).ent (Ent.sel' 0 rfl (fun h x => ?_) (Ent.refl _))
    refine .inr ⟨g, 0, [], cur.toList.drop n, (0, 0), rfl, ⟨rfl, hn, hc, ?_, by omega, by omega, .inl rfl⟩, ?_⟩
    · rw [Nat.mul_one, hl, List.length_drop, Array.length_toList, hs]; omega
    · rw [x, List.nil_append, ← ht, List.take_append_drop]
open Go.WideElems Go.Maps
def R0 : Value → Option (DataW Unit × List MemPlace) := fun _ => some (.lit (.bool true), [])
def Ac (kvs : List (List UInt8 × β)) : DataW Unit := .map ((kvs.map fun p => (Lit.string p.1, (DataW.lit (.bool true) : DataW Unit))).foldr DataW.insert [])
theorem xS {P : Program} {k : TypeId} {ek : α → Value} {ev : β → Value} {kl : α → Lit} : ∀ (kvs : List (α × β)) (es : List MapEntry), cZ ek ev es kvs → (∀ p ∈ kvs, keyOf P k (ek p.1) = some (kl p.1)) →
    es.map (rg P k R0) = kvs.map (fun p => (kl p.1, (DataW.lit (.bool true) : DataW Unit))) ∧ (∀ x ∈ es, ∃ y, rd P k R0 x = some y) ∧ es.map (·.key) = kvs.map fun p => ek p.1
  | [], es, h, _ => by
    have : es = [] := by simpa [cZ] using h
    subst this; simp
  | p :: l, [], h, _ => by simp [cZ] at h
  | p :: l, e :: es, h, hk => by
    simp only [cZ, List.map_cons, List.cons.injEq, Prod.mk.injEq] at h
    obtain ⟨⟨h1, h2⟩, h3⟩ := h
    have hr : rd P k R0 e = some (kl p.1, .lit (.bool true)) := by
      unfold rd R0
      rw [h1, hk p (by simp)]; rfl
    obtain ⟨i1, i2, i3⟩ := xS l es h3 fun q hq => hk q (by simp [hq])
    refine ⟨by simp only [List.map_cons, rg_of hr, i1], ?_, by simp [h1, i3]⟩
    intro x hx
    simp only [List.mem_cons] at hx
    rcases hx with rfl | hx
    · exact ⟨_, hr⟩
    · exact i2 x hx
theorem Sat.owns {P : Program} {k : TypeId} {W w : World} {H : List HA} {b : Nat} {ek : α → Value} {ev : β → Value} {kl : α → Lit} {kvs : List (α × β)} [DecidableEq α] {i : Nat} (s : Sat W H w) (hi : H[i]? = some (aB b ek ev kvs)) (hinj : ∀ x y, ek x = ek y → x = y) (hk : ∀ p ∈ kvs, keyOf P k (ek p.1) = some (kl p.1)) (hnd : (kvs.map (·.1)).Nodup) (hsz : kvs.length ≤ maxLen) :
    w.ownsMap P k R0 b kvs.length (.map ((kvs.map fun p => (kl p.1, (DataW.lit (.bool true) : DataW Unit))).foldr DataW.insert [])) := by
  obtain ⟨es, clock, h1, h2, h3, s2⟩ := (s.focus hi).map_open
  have hb := s2.pts_at (i := 0) rfl
  obtain ⟨r1, r2, r3⟩ := xS (P := P) (k := k) kvs es.toList h1 hk
  have hs : es.size = kvs.length := by have := congrArg List.length h1; simpa [cZ] using this
  refine ⟨es, clock, hb, ⟨by omega, ⟨h3, h2, ?_⟩, r2⟩, by omega, by rw [r1]⟩
  rw [r3]
  have : (kvs.map fun p => ek p.1) = (kvs.map (·.1)).map ek := by simp
  rw [this]
  exact List.Pairwise.map ek (fun a b hab e => hab (hinj _ _ e)) hnd
theorem uw {l : List (Lit × DataW Unit)} : Maps.size (.map (l.foldr DataW.insert [])) = l.length := by
  show (l.foldr DataW.insert []).length = l.length
  exact (Go.WideShapes.sorted_perm l).length_eq
theorem sE (kvs : List (List UInt8 × β)) : (strKeys (Ac kvs)).Perm (kvs.map (·.1)) := by
  have := (Go.WideShapes.sorted_perm (kvs.map fun p => (Lit.string p.1, (DataW.lit (.bool true) : DataW Unit)))).map (fun p => strOf p.1)
  refine this.trans ?_
  rw [List.map_map]
  exact List.Perm.refl _
theorem uS {P : Program} {W : World} {F : HA} {f g k T T2 b c : Nat} {ev : β → Value} {V : List UInt8 → List Value → Prop} {kvs : List (List UInt8 × β)} (hV : ∀ x, V x [str x]) (hkt : P.underlying k = some .string)
    (hC : ∀ (w : World) (D0 : DataW Unit) (nn : Nat), w.ownsMap P k R0 b nn D0 → w.cell? ⟨c, 0, none⟩ = some (.map (some b)) → c < w.heap.size → Maps.size D0 ≤ maxLen → Maps.size D0 * 16 ≤ 140737488355328 →
      CallsIn Fence.wide 5 P f #[.func (.func g) #[] #[.pointer (some ⟨c, 0, none⟩)]] w fun e w' => ∃ (v : Value) (ss : List (List UInt8)), e = .returned v ∧ ss.Perm (strKeys D0) ∧
        w'.ownsRow w.heap.size T 1 v ss.length ((ss.mergeSort (fun x y => decide (x ≤ y))).map encStr) ∧ (v = .slice none 0 0 ↔ ss = []) ∧ Below w.heap.size w w') :
    Fn P W f [.func (.func g) #[] #[.pointer (some ⟨c, 0, none⟩)]] [obj c T2 [.map (some b)], aB b (fun x : List UInt8 => str x) ev kvs] F
      (if (kvs.map (·.1)).Nodup ∧ kvs.length * 16 ≤ 140737488355328 ∧ ∀ p ∈ kvs, p.1.length ≤ 140737488351232 then some (dz kvs) else none)
      (fun r (y : Option Addr × Nat) => .slice y.1 r.length y.2) (fun r y => [aC T 1 V y.1 r y.2, obj c T2 [.map (some b)], aB b (fun x : List UInt8 => str x) ev kvs]) := by
  intro r hr w hs
  split at hr
  · rename_i hh
    obtain ⟨hnd, hsz, hkl⟩ := hh
    cases hr
    have hm : maxLen = 9223372036854775807 := rfl
    have hown := hs.owns (P := P) (k := k) (kl := fun x => Lit.string x) (i := 1) rfl (fun x y e => by simpa [str] using e) (fun p hp => by
      have := hkl p hp
      simp [keyOf, hkt, mapKey, str, ByteArray.size, hm]; omega) hnd (by omega)
    have hc : w.heap[c]? = some (.cells #[.map (some b)] T2 (0, 0)) := hs.pts_at (i := 0) rfl
    have hclt : c < w.heap.size := (Array.getElem?_eq_some_iff.1 hc).1
    refine (callsIn_wide (n := 5)).1 ((hC w _ _ hown (by simp [World.cell?, hc]) hclt (by rw [uw]; simp; omega) (by rw [uw]; simp; omega)).mono ?_)
    rintro e w' ⟨v, ss, rfl, hp, hrow, hnil, hb⟩
    have hss : ss.mergeSort (fun x y => decide (x ≤ y)) = dz kvs := mergeSort_of_perm (hp.trans (sE kvs))
    have hlen : ss.length = (dz kvs).length := by rw [← hss, List.length_mergeSort]
    obtain ⟨a, cap, rfl, s2⟩ := hs.ownsRow hb hrow
    refine ⟨(a, cap), by rw [hlen], s2.ent ?_⟩
    rw [hss, hlen]
    refine Ent.sel' 0 rfl (fun h x => ⟨_, qF (f := str) rfl hV (fun _ => rfl) (dz kvs), ?_⟩) (Ent.refl _)
    rw [qG]; exact x
  · cases hr
end
section
variable {α β : Type} [DecidableEq α]
end
section
variable {K : Cx} {E : Env} {H : List HA} {o : Oper} {α β : Type} [DecidableEq α] {ek : α → Value} {ev : β → Value} {T VT t : TypeId} {b : Nat} {kvs : List (α × β)}
end
end Go.Proofs.YtjkjlggbikeliaaGreatDoor

namespace Go.Proofs.YtjkjlggbikeliaaGreatDoor
set_option linter.unusedVariables false
set_option linter.unusedSimpArgs false
set_option linter.unusedSectionVars false
open Go.RowKit
theorem gT {p : Prop} {A : HA} {h : Hp} : aW (pr p) A h ↔ p ∧ aW tt A h := by
  constructor
  · rintro ⟨a, b, d, e, hp, hb⟩; exact ⟨hp, a, b, d, e, trivial, hb⟩
  · rintro ⟨hp, a, b, d, e, _, hb⟩; exact ⟨a, b, d, e, hp, hb⟩
theorem gQ {A A' B : HA} (h : Hp) (ha : ∀ h, A h → A' h) (s : aW A B h) : aW A' B h := cR h ha (fun _ x => x) s
theorem bo {A B B' : HA} (h : Hp) (hb : ∀ h, B h → B' h) (s : aW A B h) : aW A B' h := cR h (fun _ x => x) hb s
theorem da {A B C : HA} {h : Hp} (s : aW A (aW B C) h) : aW B (aW A C) h := by
  rw [← bg, fD A B, bg] at s; exact s
abbrev Kps := List (List UInt8 × Nat)
abbrev aA (p : Nat) : Value := .pointer (some ⟨p, 0, none⟩)
section
variable {α β Z : Type} [DecidableEq α] {ek : α → Value} {fp : Nat → β → Z → List HA}
def mt (fp : Nat → β → Z → List HA) (p : Nat) (v : β) : HA := exs fun y => aN (fp p v y)
def cf (fp : Nat → β → Z → List HA) : List (α × Nat) → List (α × β) → HA
  | [], [] => tt
  | (k, p) :: l, (k', v) :: m => aW (pr (k = k')) (aW (mt fp p v) (cf fp l m))
  | _, _ => pr False
def gH (fp : Nat → β → Z → List HA) (x : α) : List (α × Nat) → List (α × β) → HA
  | [], [] => tt
  | (k, p) :: l, (k', v) :: m => aW (pr (k = k')) (if k = x then cf fp l m else aW (mt fp p v) (gH fp x l m))
  | _, _ => pr False
def bt (kps : List (α × Nat)) (x : α) : Nat := (ay kps x).getD 0
theorem jf {p : Prop} {X : HA} {h : Hp} (s : aW X (pr p) h) : p := by obtain ⟨_, _, _, _, _, hp⟩ := s; exact hp
theorem iL (X : HA) : ∀ (l : List (α × Nat)) (m : List (α × β)) (h : Hp), aW X (cf fp l m) h → cf fp l m h
  | [], [], h, _ => trivial
  | (k, p) :: l, (k', v) :: m, h, s => by
    simp only [cf] at s ⊢
    have s1 := da s
    refine bo h (fun h s => ?_) s1
    have s2 := da s
    exact bo h (fun h s => iL X l m h s) s2
  | [], _ :: _, h, s => jf s
  | _ :: _, [], h, s => jf s
theorem mC (X : HA) (x : α) : ∀ (l : List (α × Nat)) (m : List (α × β)) (h : Hp), aW X (gH fp x l m) h → gH fp x l m h
  | [], [], h, _ => trivial
  | (k, p) :: l, (k', v) :: m, h, s => by
    simp only [gH] at s ⊢
    have s1 := da s
    refine bo h (fun h s => ?_) s1
    split at s
    · rename_i hk; rw [if_pos hk]; exact iL X l m h s
    · rename_i hk; rw [if_neg hk]
      have s2 := da s
      exact bo h (fun h s => mC X x l m h s) s2
  | [], _ :: _, h, s => jf s
  | _ :: _, [], h, s => jf s
theorem iM : ∀ (l : List (α × Nat)) (m : List (α × β)) (h : Hp), cf fp l m h → l.map (·.1) = m.map (·.1)
  | [], [], h, _ => rfl
  | (k, p) :: l, (k', v) :: m, h, s => by
    simp only [cf] at s
    obtain ⟨hk, s⟩ := gT.1 s
    obtain ⟨_, _, _, _, _, _, h2, _, _, _, s⟩ := s
    simp only [List.map_cons]
    rw [hk, iM l m h2 s]
  | [], _ :: _, h, s => s.elim
  | _ :: _, [], h, s => s.elim
theorem hD {γ δ : Type} : ∀ (l : List (α × γ)) (m : List (α × δ)) (x : α), l.map (·.1) = m.map (·.1) → (ay l x).isSome = (ay m x).isSome
  | [], [], x, _ => rfl
  | p :: l, q :: m, x, h => by
    simp only [List.map_cons, List.cons.injEq] at h
    simp only [ay, h.1]
    split
    · rfl
    · exact hD l m x h.2
  | [], _ :: _, x, h => by simp at h
  | _ :: _, [], x, h => by simp at h
theorem yO {kps : List (α × Nat)} {x : α} (h : (ay kps x).isSome = true) : ay kps x = some (bt kps x) := by
  unfold bt
  cases hm : ay kps x with
  | none => rw [hm] at h; cases h
  | some p => rfl
theorem nZ (x : α) (v : β) : ∀ (l : List (α × Nat)) (m : List (α × β)) (h : Hp), ay m x = some v → cf fp l m h → aW (mt fp (bt l x) v) (gH fp x l m) h
  | [], [], h, hx, _ => by simp [ay] at hx
  | (k, p) :: l, (k', u) :: m, h, hx, s => by
    simp only [cf] at s
    have hk := (gT.1 s).1
    subst hk
    rw [gH]
    by_cases hkx : k = x
    · rw [if_pos hkx]
      simp only [ay, if_pos hkx, Option.some.injEq] at hx
      have hp : bt ((k, p) :: l) x = p := by simp [bt, ay, hkx]
      rw [hp, ← hx]
      exact da s
    · rw [if_neg hkx]
      simp only [ay, if_neg hkx] at hx
      have hp : bt ((k, p) :: l) x = bt l x := by simp [bt, ay, hkx]
      rw [hp]
      have s2 := bo h (fun h s => bo h (fun h s => nZ x v l m h hx s) s) s
      exact da (bo h (fun h s => da s) s2)
  | [], _ :: _, h, _, s => s.elim
  | _ :: _, [], h, _, s => s.elim
theorem oa (x : α) (v : β) : ∀ (l : List (α × Nat)) (m : List (α × β)) (h : Hp), (ay l x).isSome = true → aW (mt fp (bt l x) v) (gH fp x l m) h → cf fp l (bk m x v) h
  | [], m, h, hx, _ => by simp [ay] at hx
  | (k, p) :: l, (k', u) :: m, h, hx, s => by
    simp only [gH] at s
    have s1 := da s
    have hk := (gT.1 s1).1
    subst hk
    by_cases hkx : k = x
    · have hp : bt ((k, p) :: l) x = p := by simp [bt, ay, hkx]
      rw [hp, if_pos hkx] at s1
      subst hkx
      rw [bk, if_pos rfl, cf]
      exact s1
    · simp only [ay, if_neg hkx] at hx
      have hp : bt ((k, p) :: l) x = bt l x := by simp [bt, ay, hkx]
      rw [hp, if_neg hkx] at s1
      rw [bk, if_neg hkx, cf]
      exact bo h (fun h s => bo h (fun h s => oa x v l m h hx s) (da s)) s1
  | _ :: _, [], h, _, s => (jf s).elim
theorem pF (x : α) : ∀ (l : List (α × Nat)) (m : List (α × β)) (h : Hp), gH fp x l m h → cf fp (bU l x) (bU m x) h
  | [], [], h, _ => trivial
  | (k, p) :: l, (k', u) :: m, h, s => by
    simp only [gH] at s
    have hk := (gT.1 s).1
    subst hk
    by_cases hkx : k = x
    · rw [if_pos hkx] at s
      simp only [bU, if_pos hkx]
      exact iL _ _ _ _ s
    · rw [if_neg hkx] at s
      rw [bU, bU, if_neg hkx, if_neg hkx, cf]
      exact bo h (fun h s => bo h (fun h s => pF x l m h s) s) s
  | [], _ :: _, h, s => s.elim
  | _ :: _, [], h, s => s.elim
theorem pG (x : α) : ∀ (l : List (α × Nat)) (m : List (α × β)) (h : Hp), cf fp l m h → cf fp (bU l x) (bU m x) h
  | [], [], h, _ => trivial
  | (k, p) :: l, (k', u) :: m, h, s => by
    simp only [cf] at s
    have hk := (gT.1 s).1
    subst hk
    by_cases hkx : k = x
    · simp only [bU, if_pos hkx]
      exact iL _ _ _ _ (filesA_absorb_star s)
    · rw [bU, bU, if_neg hkx, if_neg hkx, cf]
      exact bo h (fun h s => bo h (fun h s => pG x l m h s) s) s
  | [], _ :: _, h, s => s.elim
  | _ :: _, [], h, s => s.elim
where
  filesA_absorb_star {X Y C : HA} {h : Hp} (s : aW X (aW Y C) h) : aW (aW X Y) C h := by rw [bg]; exact s
theorem pH (x : α) (p : Nat) (v : β) : ∀ (l : List (α × Nat)) (m : List (α × β)) (h : Hp), aW (mt fp p v) (cf fp l m) h → cf fp (bk l x p) (bk m x v) h
  | [], [], h, s => by
    simp only [bk, cf]
    exact gT.2 ⟨trivial, jc s⟩
  | (k, q) :: l, (k', u) :: m, h, s => by
    simp only [cf] at s
    have s1 := da s
    have hk := (gT.1 s1).1
    subst hk
    by_cases hkx : k = x
    · rw [bk, bk, if_pos hkx, if_pos hkx, cf]
      refine gT.2 ⟨rfl, bo h (fun h s => ?_) (gT.1 s1).2⟩
      exact bo h (fun h s => iL _ _ _ _ s) s
    · rw [bk, bk, if_neg hkx, if_neg hkx, cf]
      exact bo h (fun h s => bo h (fun h s => pH x p v l m h s) (da s)) s1
  | [], _ :: _, h, s => (jf s).elim
  | _ :: _, [], h, s => (jf s).elim
def aF (M : HA) (fp : Nat → β → Z → List HA) (kps : List (α × Nat)) (kvs : List (α × β)) : HA := aW M (cf fp kps kvs)
def fK (M : HA) (fp : Nat → β → Z → List HA) (kps : List (α × Nat)) (kvs : List (α × β)) (x : α) : HA := aW (pr ((ay kps x).isSome = true)) (aW M (gH fp x kps kvs))
def zF (M : HA) (fp : Nat → β → Z → List HA) (kps : List (α × Nat)) (kvs : List (α × β)) (x : α) (p : Nat) : HA := aW M (cf fp kps kvs)
end
section
variable {α β Z : Type} [DecidableEq α] {ek : α → Value} {fp : Nat → β → Z → List HA} {M : HA} {kps : List (α × Nat)} {kvs : List (α × β)} {l m : List HA}
theorem Ent.openF {H : List HA} {x : α} {v : β} (k : Nat) (hk : H[k]? = some (aF M fp kps kvs)) (hx : ay kvs x = some v) :
    Ent H (exs (fun y => aN (fp (bt kps x) v y)) :: fK M fp kps kvs x :: H.eraseIdx k) := by
  intro h s
  rw [ga H k _ hk] at s
  have s1 : aW (aW M (cf fp kps kvs)) (aN (H.eraseIdx k)) h := s
  have hkeys : (ay kps x).isSome = true := by
    obtain ⟨_, _, _, _, ⟨_, h2, _, _, _, s2⟩, _⟩ := s1
    rw [hD kps kvs x (iM _ _ _ s2), hx]; rfl
  rw [bg] at s1
  have s2 := bo h (fun h s => gQ h (fun h s => nZ x v kps kvs h hx s) s) s1
  show aW (mt fp (bt kps x) v) (aW (fK M fp kps kvs x) (aN (H.eraseIdx k))) h
  unfold fK
  have s3 : aW (mt fp (bt kps x) v) (aW (aW M (gH fp x kps kvs)) (aN (H.eraseIdx k))) h := by
    rw [bg]
    have s4 := bo h (fun h s => by rw [bg] at s; exact s) s2
    exact da s4
  refine bo h (fun h s => ?_) s3
  rw [bg]
  exact gT.2 ⟨hkeys, jc s⟩
theorem Ent.foldF {x : α} {v : β} {p : Nat} (y : Z) (hp : p = bt kps x) (r : Ent l (fK M fp kps kvs x :: (fp p v y ++ m))) : Ent l (aF M fp kps (bk kvs x v) :: m) := by
  intro h s
  subst hp
  have s1 : aW (fK M fp kps kvs x) (aN (fp (bt kps x) v y ++ m)) h := r h s
  unfold fK at s1
  rw [bg] at s1
  obtain ⟨hx, s2⟩ := gT.1 s1
  have s3 : aW (aW M (gH fp x kps kvs)) (aW (aN (fp (bt kps x) v y)) (aN m)) h := by
    have s4 := stars_absorb_tt s2
    exact bo h (fun h s => (cY _ _ h).1 s) s4
  show aW (aW M (cf fp kps (bk kvs x v))) (aN m) h
  rw [bg] at s3 ⊢
  refine bo h (fun h s => ?_) s3
  have s5 := da s
  rw [← bg] at s5
  exact gQ h (fun h s => oa x v kps kvs h hx (gQ h (fun h s => ⟨y, s⟩) s)) s5
where
  stars_absorb_tt {A : HA} {l : List HA} {h : Hp} (s : aW tt (aW A (aN l)) h) : aW A (aN l) h := bo h (fun h s => fo l tt h s) (da s)
theorem kz {x : α} {v : β} : ∀ {kvs : List (α × β)}, ay kvs x = some v → bk kvs x v = kvs
  | [], h => by simp [ay] at h
  | p :: l, h => by
    rw [ay] at h
    rw [bk]
    by_cases hp : p.1 = x
    · rw [if_pos hp] at h ⊢
      cases h
      rw [← hp]
    · rw [if_neg hp] at h ⊢
      rw [kz h]
theorem Ent.foldF0 {x : α} {v : β} {p : Nat} (y : Z) (hp : p = bt kps x) (hx : ay kvs x = some v) (r : Ent l (fK M fp kps kvs x :: (fp p v y ++ m))) : Ent l (aF M fp kps kvs :: m) := by
  have := Ent.foldF (v := v) y hp r
  rwa [kz hx] at this
theorem Ent.foldU {x : α} {v : β} {p : Nat} (y : Z) (r : Ent l (zF M fp kps kvs x p :: (fp p v y ++ m))) : Ent l (aF M fp (bk kps x p) (bk kvs x v) :: m) := by
  intro h s
  have s1 : aW (aW M (cf fp kps kvs)) (aN (fp p v y ++ m)) h := r h s
  show aW (aW M (cf fp (bk kps x p) (bk kvs x v))) (aN m) h
  rw [bg] at s1 ⊢
  refine bo h (fun h s => ?_) s1
  have s2 := bo h (fun h s => (cY _ _ h).1 s) s
  have s3 := da s2
  rw [← bg] at s3
  exact gQ h (fun h s => pH x p v kps kvs h (gQ h (fun h s => ⟨y, s⟩) s)) s3
theorem Ent.makeF (r : Ent l (M :: m)) : Ent l (aF M fp [] ([] : List (α × β)) :: m) := by
  intro h s
  have s1 : aW M (aN m) h := r h s
  exact gQ h (fun h s => jZ s) s1
theorem ew {δ : Type} {o : Option δ} {d : δ} (h : o.isSome = true) : o = some (o.getD d) := by cases o with
  | none => cases h
  | some x => rfl
theorem iz {δ : Type} {o : Option δ} (h : ¬ o.isSome = true) : o = none := by cases o with
  | none => rfl
  | some x => exact absurd rfl h
end
section
variable {K : Cx} {R S Y : Type} {Q : dn R} {E : Env} {H : List HA} {opt : Option R} {ops : Array Oper} {rest : List Oper} {o : Oper} {α β Z : Type} [DecidableEq α] {ek : α → Value} {fp : Nat → β → Z → List HA} {T VT t : TypeId} {M : HA} {kps : List (α × Nat)} {kvs : List (α × β)} {c : Code}
theorem ia {x : α} {v : β} (k : Nat) (hk : H[k]? = some (aF M fp kps kvs)) (hx : ay kvs x = some v)
    (h : ∀ y, Sim K Q c E (fp (bt kps x) v y ++ (fK M fp kps kvs x :: H.eraseIdx k)) opt) : Sim K Q c E H opt := by
  refine fT (Ent.openF k hk hx) (yP fun y => fT ?_ (h y))
  intro h s
  exact (cY _ _ h).2 s
theorem vK {x : α} {v : β} (k : Nat) (hk : H[k]? = some (aF M fp kps kvs)) (hx : ay kvs x = some v)
    (h : ∀ y, bP K Q ops rest E (fp (bt kps x) v y ++ (fK M fp kps kvs x :: H.eraseIdx k)) opt) : bP K Q ops rest E H opt := by
  refine gZ (Ent.openF k hk hx) (xK fun y => gZ ?_ (h y))
  intro h s
  exact (cY _ _ h).2 s
end
section
variable {K : Cx} {R S Y : Type} {Q : dn R} {E : Env} {H : List HA} {opt : Option R} {ops : Array Oper} {rest : List Oper} {o : Oper} {α β Z : Type} [DecidableEq α] {ek : α → Value} {fp : Nat → β → Z → List HA} {T VT t : TypeId} {b : Nat} {kps : List (α × Nat)} {kvs : List (α × β)} {c : Code}
theorem sA (k : Nat) (hk : H[k]? = some (aF (aB b ek aA kps) fp kps kvs)) : Ent H (aB b ek aA kps :: cf fp kps kvs :: H.eraseIdx k) := by
  intro h s
  rw [ga H k _ hk] at s
  have s1 : aW (aW (aB b ek aA kps) (cf fp kps kvs)) (aN (H.eraseIdx k)) h := s
  rw [bg] at s1
  exact s1
def lX (H : List HA) (b : Nat) (ek : α → Value) (kps : List (α × Nat)) (kvs : List (α × β)) : Prop := ∃ X rst, Ent H (aB b ek aA kps :: X :: rst) ∧ ∀ h, X h → kps.map (·.1) = kvs.map (·.1)
theorem gX (k : Nat) (hk : H[k]? = some (aF (aB b ek aA kps) fp kps kvs)) : lX H b ek kps kvs := ⟨_, _, sA k hk, fun h s => iM _ _ h s⟩
theorem lX.keys (t : lX H b ek kps kvs) {W w : World} (s : Sat W H w) : kps.map (·.1) = kvs.map (·.1) := by
  obtain ⟨X, rst, e, hX⟩ := t
  obtain ⟨_, _, _, _, _, ⟨_, _, _, _, hx, _⟩⟩ := (s.ent e).hp
  exact hX _ hx
theorem ju {x y : Operand} (v : α) (tl : lX H b ek kps kvs) (hm : (ay kvs v).isSome = true) (ho : o.op = .lookup t x y false) (hx : Go.Proofs.YtjkjlggbikeliaaGreatDoor.ev E x = some (.map (some b))) (hy : Go.Proofs.YtjkjlggbikeliaaGreatDoor.ev E y = some (ek v)) (hu : K.P.underlying t = some (.map T VT)) (hK : kZ K.P T ek) :
    RQ K o E H (.pointer (some ⟨bt kps v, 0, none⟩)) :=
  cT (by rw [ho]; intro c h; cases h) fun a w he s => by
    have hkeys := tl.keys s
    have hp := yO (by rw [hD kps kvs v hkeys]; exact hm)
    obtain ⟨X, rst, e, hX⟩ := tl
    obtain ⟨es, clock, h1, h2, h3, s2⟩ := (s.ent e).map_open
    have hb := s2.pts_at (i := 0) rfl
    have hf := hK.find w h1 v
    have hg := oG kps v 0
    rw [hp] at hg
    unfold execOp; simp only [ho]; rw [he.ev hx, he.ev hy]
    cases hq : fF kps v 0 with
    | none => rw [hq] at hg; simp at hg
    | some q =>
      rw [hq] at hf hg
      simp at hg
      simp [Instr.lookup, underlying, program, Sem.run, hu, getObj, hb, hK.chk, hf, hg]
theorem jv {x y : Operand} (v : α) (tl : lX H b ek kps kvs) (hm : ay kvs v = none) (ho : o.op = .lookup t x y false) (hx : Go.Proofs.YtjkjlggbikeliaaGreatDoor.ev E x = some (.map (some b))) (hy : Go.Proofs.YtjkjlggbikeliaaGreatDoor.ev E y = some (ek v)) (hu : K.P.underlying t = some (.map T VT)) (hK : kZ K.P T ek) (hz : ∀ w, (zeroValue VT).run K.P w = .ok (.pointer none) w) :
    RQ K o E H (.pointer none) :=
  cT (by rw [ho]; intro c h; cases h) fun a w he s => by
    have hkeys := tl.keys s
    have hp : ay kps v = none := by
      have := hD kps kvs v hkeys
      rw [hm] at this
      exact iz (by rw [this]; simp)
    obtain ⟨X, rst, e, hX⟩ := tl
    obtain ⟨es, clock, h1, h2, h3, s2⟩ := (s.ent e).map_open
    have hb := s2.pts_at (i := 0) rfl
    have hf := hK.find w h1 v
    have hg := oG kps v 0
    rw [hp] at hg
    unfold execOp; simp only [ho]; rw [he.ev hx, he.ev hy]
    cases hq : fF kps v 0 with
    | none => rw [hq] at hf; simp [Instr.lookup, underlying, program, Sem.run, hu, getObj, hb, hK.chk, hf, hz]
    | some q => rw [hq] at hg; simp at hg
theorem yL {x : Operand} {ts : Array TypeId} (tl : lX H b ek kps kvs) (ho : o.op = .call { callee := .builtin .len, args := #[x], argTypes := ts }) (hx : Go.Proofs.YtjkjlggbikeliaaGreatDoor.ev E x = some (.map (some b))) (ht : ts[0]? = some t) (hu : K.P.underlying t = some (.map T VT)) :
    RQ K o E H (.int .i64 (kvs.length : Int)) :=
  cT (by rw [ho]; intro c h; cases h) fun a w he s => by
    have hkeys := congrArg List.length (tl.keys s)
    simp only [List.length_map] at hkeys
    obtain ⟨X, rst, e, hX⟩ := tl
    obtain ⟨es, clock, h1, h2, h3, s2⟩ := (s.ent e).map_open
    have hb := s2.pts_at (i := 0) rfl
    have hsz : es.size = kvs.length := by have := congrArg List.length h1; simpa [cZ, hkeys] using this
    unfold execOp; simp only [ho]
    simp [resolve, invoke, builtin, Builtin.len_, ht, underlying, program, Sem.run, hu, he.ev hx, getObj, hb, goInt, hsz]
theorem sX {Y : Type} {v : Y → Value} {X : HA} (k : Nat) {M M2 : HA} (hk : H[k]? = some (aW M X)) (h : RE K o E (M :: X :: H.eraseIdx k) v (fun _ : Y => M2 :: X :: H.eraseIdx k)) : RE K o E H v (fun _ => H.set k (aW M2 X)) := by
  have hl : k < H.length := (List.getElem?_eq_some_iff.1 hk).1
  refine jq (RE.ent ?_ h) (fun _ => rfl) fun y => ?_
  · intro h s
    rw [ga H k _ hk] at s
    have s1 : aW (aW M X) (aN (H.eraseIdx k)) h := s
    rw [bg] at s1
    exact s1
  · intro h s
    rw [← ie H k _ hl]
    show aW (aW M2 X) (aN (H.eraseIdx k)) h
    rw [bg]
    exact s
theorem sU {x y z : Operand} (k : Nat) (v : α) (p : Nat) (ho : o.op = .mapUpdate t x y z) (hx : Go.Proofs.YtjkjlggbikeliaaGreatDoor.ev E x = some (.map (some b))) (hy : Go.Proofs.YtjkjlggbikeliaaGreatDoor.ev E y = some (ek v)) (hz : Go.Proofs.YtjkjlggbikeliaaGreatDoor.ev E z = some (aA p)) (hu : K.P.underlying t = some (.map T VT)) (hK : kZ K.P T ek) (hk : H[k]? = some (aF (aB b ek aA kps) fp kps kvs)) :
    RE K (Y := Unit) o E H (fun _ => undef) (fun _ => H.set k (zF (aB b ek aA (bk kps v p)) fp kps kvs v p)) :=
  sX k hk (yN (kvs := kps) (ev := aA) 0 v p ho hx hy hz hu hK rfl)
theorem xG {x y : Operand} {ts : Array TypeId} (k : Nat) (v : α) (ho : o.op = .call { callee := .builtin .delete, args := #[x, y], argTypes := ts }) (hx : Go.Proofs.YtjkjlggbikeliaaGreatDoor.ev E x = some (.map (some b))) (hy : Go.Proofs.YtjkjlggbikeliaaGreatDoor.ev E y = some (ek v)) (ht : ts[0]? = some t) (hu : K.P.underlying t = some (.map T VT)) (hK : kZ K.P T ek) (hk : H[k]? = some (aF (aB b ek aA kps) fp kps kvs)) :
    RE K (Y := Unit) o E H (fun _ => .tuple #[]) (fun _ => H.set k (aF (aB b ek aA (bU kps v)) fp (bU kps v) (bU kvs v))) :=
  jq (sX k hk (uH (kvs := kps) (ev := aA) 0 v ho hx hy ht hu hK rfl)) (fun _ => rfl) fun y => Ent.set k fun h s => bo h (fun h s => pG v kps kvs h s) s
theorem xH {x y : Operand} {ts : Array TypeId} (k : Nat) (v : α) (ho : o.op = .call { callee := .builtin .delete, args := #[x, y], argTypes := ts }) (hx : Go.Proofs.YtjkjlggbikeliaaGreatDoor.ev E x = some (.map (some b))) (hy : Go.Proofs.YtjkjlggbikeliaaGreatDoor.ev E y = some (ek v)) (ht : ts[0]? = some t) (hu : K.P.underlying t = some (.map T VT)) (hK : kZ K.P T ek) (hk : H[k]? = some (fK (aB b ek aA kps) fp kps kvs v)) :
    RE K (Y := Unit) o E H (fun _ => .tuple #[]) (fun _ => H.set k (aF (aB b ek aA (bU kps v)) fp (bU kps v) (bU kvs v))) := by
  have hl : k < H.length := (List.getElem?_eq_some_iff.1 hk).1
  have e : Ent H (H.set k (aW (aB b ek aA kps) (gH fp v kps kvs))) := Ent.set' k hk fun h s => by
    obtain ⟨_, s2⟩ := gT.1 s
    exact bo h (fun h s => mC tt v _ _ h s) (da s2)
  have hk2 : (H.set k (aW (aB b ek aA kps) (gH fp v kps kvs)))[k]? = some (aW (aB b ek aA kps) (gH fp v kps kvs)) := by simp [hl]
  have r := RE.ent e (sX k hk2 (uH (kvs := kps) (ev := aA) 0 v ho hx hy ht hu hK rfl))
  refine jq r (fun _ => rfl) fun y => ?_
  intro h s
  rw [List.set_set] at s
  exact Ent.set k (fun h s => bo h (fun h s => pF v kps kvs h s) s) h s
theorem vW {t : TypeId} (ho : o.op = .makeMap t none) : RE K (Y := Nat) o E H (fun b => .map (some b)) (fun b => aF (aB b ek aA ([] : List (α × Nat))) fp ([] : List (α × Nat)) ([] : List (α × β)) :: H) :=
  jq (xJ (ek := ek) (ev := aA) ho) (fun _ => rfl) fun b => Ent.makeF (Ent.refl _)
theorem wS (a : Addr) : a.add 0 = a := by unfold Addr.add; split <;> simp_all
theorem xL {T : TypeId} {a : Option Addr} {m c n : Nat} {l : List UInt8} (h1 : n ≤ l.length) (h2 : l.length ≤ c) (h : Hp) (s : Row T 1 a m c (ao l) h) : Row T 1 a (l.take n).length n (ao (l.take n)) h := by
  have hl : (l.take n).length = n := by simp; omega
  rcases s with ⟨rfl, h3, h4, h5⟩ | ⟨b, off, pre, junk, fz, rfl, ok, hb⟩
  · have : l = [] := List.eq_nil_of_length_eq_zero (by omega)
    subst this
    have : n = 0 := by simpa using h1
    subst this
    exact Or.inl ⟨rfl, rfl, rfl, rfl⟩
  · refine .inr ⟨b, off, pre, ao (l.drop n) ++ junk, fz, rfl, ⟨ok.offs, by omega, ?_, ?_, ?_, ?_, ?_⟩, ?_⟩
    · have := ok.cap; omega
    · simp [bT]; omega
    · simp [bT]
    · simp [bT]; omega
    · rcases ok.fzok with h | h
      · exact .inl h
      · exact .inr (by omega)
    · have e : ao l = ao (l.take n) ++ ao (l.drop n) := by rw [← jE, ← lq, List.take_append_drop]
      rw [hb, e]
      simp only [List.append_assoc]
theorem yk {x hi mx : Operand} {t e c : Nat} {T : TypeId} {a : Option Addr} {l : List UInt8} {k k' : IntKind} {n : Int} (j : Nat) (ho : o.op = .slice t x none (some hi) (some mx)) (hx : Go.Proofs.YtjkjlggbikeliaaGreatDoor.ev E x = some (.slice a l.length c)) (hh : Go.Proofs.YtjkjlggbikeliaaGreatDoor.ev E hi = some (.int k n)) (hm : Go.Proofs.YtjkjlggbikeliaaGreatDoor.ev E mx = some (.int k' n))
    (hu : K.P.underlying t = some (.slice e)) (hs : ∀ w, (sizeOf e).run K.P w = .ok 1 w) (hk : H[j]? = some (Row T 1 a l.length c (ao l))) (hb : 0 ≤ n ∧ n ≤ (l.length : Int)) :
    RE K (Y := Unit) o E H (fun _ => .slice a (l.take n.toNat).length n.toNat) (fun _ => H.set j (Row T 1 a (l.take n.toNat).length n.toNat (ao (l.take n.toNat)))) :=
  gV (by rw [ho]; intro c h; cases h) fun a' w he s => by
    obtain ⟨N, rfl⟩ := Int.eq_ofNat_of_zero_le hb.1
    have hN : N ≤ l.length := by omega
    have hlc : l.length ≤ c := by
      rcases (s.focus hk).row_cases with ⟨_, h1, h2, _⟩ | ⟨b, off, pre, junk, fz, _, ok, _⟩
      · omega
      · exact ok.le
    have hlen : (l.take N).length = N := by simp; omega
    refine ⟨(), w, ?_, s.ent (Ent.set' j hk fun h x => xL hN hlc h x)⟩
    unfold execOp; simp only [ho]
    have e0 : a.map (fun x => x.add 0) = a := by cases a <;> simp [wS]
    have hNc : N ≤ c := by omega
    simp [Instr.sliceAt, Instr.slice, underlying, program, Sem.run, hu, he.ev hx, he.ev hh, he.ev hm, Instr.sliceBounds, Instr.sliceBound, asIntOf, hs, hNc, hlen, e0]
end
end Go.Proofs.YtjkjlggbikeliaaGreatDoor

namespace Go.Proofs.YtjkjlggbikeliaaGreatDoor
set_option linter.unusedVariables false
set_option linter.unusedSimpArgs false
set_option linter.unusedSectionVars false
open Go.RowKit
section
variable {α β S : Type} [DecidableEq α]
def gD (step : S → α → β → Option (S × β)) : List α → S → List (α × β) → Option (S × List (α × β))
  | [], s, kvs => some (s, kvs)
  | x :: l, s, kvs => (ay kvs x).bind fun v => (step s x v).bind fun z => gD step l z.1 (bk kvs x z.2)
def jl (x : α) : List α → List (List α)
  | [] => [[x]]
  | y :: l => (x :: y :: l) :: (jl x l).map (y :: ·)
def kr : List α → List (List α)
  | [] => [[]]
  | x :: l => (kr l).flatMap (jl x)
theorem nT {x : α} : ∀ {a b : List α}, a ++ x :: b ∈ jl x (a ++ b)
  | [], [] => by simp [jl]
  | [], y :: b => by simp [jl]
  | y :: a, b => by
    simp only [List.cons_append, jl, List.mem_cons, List.mem_map]
    exact .inr ⟨_, nT, rfl⟩
theorem na {x : α} : ∀ {m l : List α}, l ∈ jl x m → l.Perm (x :: m)
  | [], l, h => by simp [jl] at h; subst h; exact List.Perm.refl _
  | y :: m, l, h => by
    simp only [jl, List.mem_cons, List.mem_map] at h
    rcases h with rfl | ⟨l', h, rfl⟩
    · exact List.Perm.refl _
    · exact (List.Perm.cons y (na h)).trans (List.Perm.swap x y m)
theorem qC : ∀ {m l : List α}, l.Perm m → l ∈ kr m
  | [], l, h => by rw [h.eq_nil]; simp [kr]
  | x :: m, l, h => by
    obtain ⟨a, b, rfl⟩ := List.append_of_mem (h.mem_iff.2 List.mem_cons_self)
    have h2 : (a ++ b).Perm m := (List.perm_cons x).1 ((List.perm_middle.symm).trans h)
    simp only [kr, List.mem_flatMap]
    exact ⟨a ++ b, qC h2, nT⟩
theorem kR : ∀ {m l : List α}, l ∈ kr m → l.Perm m
  | [], l, h => by simp [kr] at h; subst h; exact List.Perm.refl _
  | x :: m, l, h => by
    simp only [kr, List.mem_flatMap] at h
    obtain ⟨a, h1, h2⟩ := h
    exact (na h2).trans (List.Perm.cons x (kR h1))
def iZ [DecidableEq S] [DecidableEq β] (step : S → α → β → Option (S × β)) (s : S) (kvs : List (α × β)) : Option (S × List (α × β)) :=
  if (kvs.map (·.1)).Nodup ∧ ∀ l ∈ kr (kvs.map (·.1)), gD step l s kvs = gD step (kvs.map (·.1)) s kvs then gD step (kvs.map (·.1)) s kvs else none
def nc [DecidableEq S] [DecidableEq β] (step : S → α → β → Option S) (s : S) (kvs : List (α × β)) : Option S := (iZ (fun s x v => (step s x v).map fun s' => (s', v)) s kvs).map (·.1)
theorem pp {v : β} {x : α} : ∀ {kvs : List (α × β)}, (ay kvs x).isSome = true → (bk kvs x v).map (·.1) = kvs.map (·.1)
  | [], h => by simp [ay] at h
  | p :: l, h => by
    rw [ay] at h
    rw [bk]
    by_cases hp : p.1 = x
    · rw [if_pos hp]; simp [hp]
    · rw [if_neg hp] at h ⊢
      rw [List.map_cons, List.map_cons, pp h]
theorem qD {γ : Type} : ∀ {l : List (α × γ)} {p : α × γ}, (l.map (·.1)).Nodup → p ∈ l → ay l p.1 = some p.2
  | [], _, _, h => by cases h
  | q :: l, p, hn, h => by
    rw [List.map_cons, List.nodup_cons] at hn
    rw [ay]
    rcases List.mem_cons.1 h with rfl | h
    · rw [if_pos rfl]
    · rw [if_neg (fun e => hn.1 (by rw [e]; exact List.mem_map.2 ⟨p, h, rfl⟩))]
      exact qD hn.2 h
def itI (b r : Nat) (ek : α → Value) (kps : List (α × Nat)) (todo : List α) : HA := exs fun (es : Array MapEntry) => exs fun (k : Nat × Nat × Array Nat × Nat) =>
  aW (pts b (.map es k.1)) (aW (pts r (.mapIter (some b) k.2.1 k.2.2.1 k.2.2.2)) (pr (cZ ek aA es.toList kps ∧ (es.toList.map (·.born)).Nodup ∧ (∀ e ∈ es.toList, e.born < k.2.1) ∧ k.2.1 ≤ k.2.2.2 ∧ k.2.1 ≤ k.1 ∧ (leftOf es k.2.2.1).toList.map (·.key) = todo.map ek)))
def itJ (b r : Nat) (ek : α → Value) (kps : List (α × Nat)) (todo : List α) (x : α) : HA := exs fun (es : Array MapEntry) => exs fun (k : Nat × Nat × Array Nat × MapEntry) =>
  aW (pts b (.map es k.1)) (aW (pts r (.mapIter (some b) k.2.1 (k.2.2.1.push k.2.2.2.born) k.1)) (pr (cZ ek aA es.toList kps ∧ (es.toList.map (·.born)).Nodup ∧ (∀ e ∈ es.toList, e.born < k.2.1) ∧ k.2.1 ≤ k.1 ∧ (leftOf es (k.2.2.1.push k.2.2.2.born)).toList.map (·.key) = todo.map ek ∧ k.2.2.2 ∈ es.toList ∧ k.2.2.2.key = ek x ∧ k.2.2.2.val = aA (bt kps x))))
theorem xw {b r : Nat} {ek : α → Value} {kps : List (α × Nat)} {todo : List α} {x : α} (h : Hp) (s : itJ b r ek kps todo x h) : itI b r ek kps todo h := by
  obtain ⟨es, ⟨c, since, seen, e⟩, s⟩ := s
  refine ⟨es, ⟨c, since, seen.push e.born, c⟩, ?_⟩
  exact bo h (fun h s => bo h (fun h ⟨h1, h2, h3, h4, h5, _⟩ => ⟨h1, h2, h3, h4, h4, h5⟩) s) s
theorem xx {b r : Nat} {ek : α → Value} {kps : List (α × Nat)} {todo : List α} (h : Hp) (s : itI b r ek kps todo h) : aW (aB b ek aA kps) tt h := by
  obtain ⟨es, ⟨c, since, seen, c0⟩, h1, h2, hd, he, hb, h3, h4, hd2, he2, hr, hp⟩ := s
  exact ⟨h1, h2, hd, he, ⟨es, c, hb, hp.1, hp.2.1, fun e h => Nat.lt_of_lt_of_le (hp.2.2.1 e h) hp.2.2.2.2.1⟩, trivial⟩
end
section
variable {K : Cx} {R S Y : Type} {Q : dn R} {E : Env} {H : List HA} {opt : Option R} {ops : Array Oper} {rest : List Oper} {o : Oper} {α β Z : Type} [DecidableEq α] {ek : α → Value} {fp : Nat → β → Z → List HA} {T VT t : TypeId} {b r : Nat} {kps : List (α × Nat)} {kvs : List (α × β)} {c : Code}
theorem Ent.into {A A' X : HA} {l : List HA} (h : ∀ h, A h → aW A' tt h) : Ent (aW A X :: l) (aW A' X :: l) := by
  intro hp s
  have s1 : aW (aW A X) (aN l) hp := s
  rw [bg] at s1
  have s2 := gQ hp h s1
  rw [bg] at s2
  show aW (aW A' X) (aN l) hp
  rw [bg]
  refine bo hp (fun h s => ?_) s2
  have s3 := da s
  exact bo h (fun h s => fo l tt h s) s3
theorem yA {todo : List α} {l : List HA} : Ent (aF (itI b r ek kps todo) fp kps kvs :: l) (aF (aB b ek aA kps) fp kps kvs :: l) := Ent.into fun h s => xx h s
theorem yB {todo : List α} {x : α} {l : List HA} : Ent (aF (itJ b r ek kps todo x) fp kps kvs :: l) (aF (itI b r ek kps todo) fp kps kvs :: l) := Ent.into fun h s => jZ (xw h s)
theorem qv {x : Operand} (k : Nat) (ho : o.op = .range t x) (hx : Go.Proofs.YtjkjlggbikeliaaGreatDoor.ev E x = some (.map (some b))) (hu : K.P.underlying t = some (.map T VT)) (hk : H[k]? = some (aF (aB b ek aA kps) fp kps kvs)) :
    RE K (Y := Nat) o E H (fun r => .pointer (some ⟨r, 0, none⟩)) (fun r => H.set k (aF (itI b r ek kps (kps.map (·.1))) fp kps kvs)) :=
  gV (by rw [ho]; intro c h; cases h) fun a w he s => by
    have hl : k < H.length := (List.getElem?_eq_some_iff.1 hk).1
    have s1 : Sat K.W (aB b ek aA kps :: cf fp kps kvs :: H.eraseIdx k) w := s.ent (sA k hk)
    obtain ⟨es, clock, h1, h2, h3, s2⟩ := s1.map_open
    have hb := s2.pts_at (i := 0) rfl
    refine ⟨w.heap.size, { w with heap := w.heap.push (.mapIter (some b) clock #[] clock) }, ?_, ?_⟩
    · unfold execOp; simp only [ho]; rw [he.ev hx]
      have := run_range_map (P := K.P) w t T VT b es clock hu hb
      rw [show w.alloc (.mapIter (some b) clock #[] clock) = { w with heap := w.heap.push (.mapIter (some b) clock #[] clock) } from rfl] at this
      simp [this]
    · refine (s2.new (.mapIter (some b) clock #[] clock)).ent ?_
      intro h s
      rw [← ie H k _ hl]
      have s3 : aW (pts w.heap.size (.mapIter (some b) clock #[] clock)) (aW (pts b (.map es clock)) (aW (cf fp kps kvs) (aN (H.eraseIdx k)))) h := s
      show aW (aW (itI b w.heap.size ek kps (kps.map (·.1))) (cf fp kps kvs)) (aN (H.eraseIdx k)) h
      rw [bg]
      have s4 := da s3
      rw [← bg] at s4
      rw [← bg] at s4
      rw [bg] at s4
      refine gQ h (fun h s => ⟨es, ⟨clock, clock, #[], clock⟩, bo h (fun h s => ?_) s⟩) s4
      rw [fD]
      refine gT.2 ⟨⟨h1, h2, h3, Nat.le_refl _, Nat.le_refl _, ?_⟩, jc s⟩
      have e1 : (leftOf es #[]).toList = es.toList := by simp [leftOf]
      rw [e1]
      have := congrArg (List.map (·.1)) h1
      simpa [cZ, List.map_map, Function.comp_def] using this
theorem wx {es : Array MapEntry} {seen : Array Nat} {e : MapEntry} (hn : (es.toList.map (·.born)).Nodup) {i : Nat} (hi : (leftOf es seen).toList[i]? = some e) : (leftOf es (seen.push e.born)).toList = (leftOf es seen).toList.eraseIdx i := by
  have e1 : (leftOf es (seen.push e.born)).toList = ((leftOf es seen).toList).filter fun x => !(x.born == e.born) := by
    simp only [leftOf, Array.toList_filter, List.filter_filter]
    congr 1
    funext x
    simp only [Array.contains_push, Bool.not_or]
    rw [Bool.and_comm]
  rw [e1]
  have hn2 : ((leftOf es seen).toList.map (·.born)).Nodup := by
    simp only [leftOf, Array.toList_filter]
    exact (List.Sublist.map _ List.filter_sublist).nodup hn
  generalize (leftOf es seen).toList = l at hi hn2
  clear e1 hn
  induction l generalizing i with
  | nil => simp at hi
  | cons a l ih =>
    rw [List.map_cons, List.nodup_cons] at hn2
    cases i with
    | zero =>
      simp at hi
      subst hi
      simp only [List.eraseIdx_zero, List.tail_cons, List.filter_cons, beq_self_eq_true, Bool.not_true, Bool.false_eq_true, if_false]
      rw [List.filter_eq_self]
      intro x hx
      have : x.born ≠ a.born := fun e => hn2.1 (by rw [← e]; exact List.mem_map.2 ⟨x, hx, rfl⟩)
      simp [this]
    | succ i =>
      simp only [List.getElem?_cons_succ] at hi
      have : a.born ≠ e.born := fun e' => hn2.1 (by rw [e']; exact List.mem_map.2 ⟨e, List.mem_of_getElem? hi, rfl⟩)
      rw [List.eraseIdx_cons_succ, List.filter_cons, if_pos (by simp [this]), ih hi hn2.2]
theorem nf {γ δ : Type} (f : γ → δ) : ∀ (l : List γ) (i : Nat), (l.eraseIdx i).map f = (l.map f).eraseIdx i
  | [], _ => by simp
  | a :: l, 0 => by simp
  | a :: l, i + 1 => by simp [nf f l i]
theorem xy {es : Array MapEntry} {seen : Array Nat} {e : MapEntry} (h : e ∈ (leftOf es seen).toList) : e ∈ es.toList := by
  simp only [leftOf, Array.toList_filter, List.mem_filter] at h
  exact h.1
theorem wy {x : Operand} {d : Nat} {todo : List α} (k : Nat) (ho : o.op = .next x false) (hg : o.guard = none) (hd : o.dst = some d) (hdn : Nat.blt d K.n = true) (hx : Go.Proofs.YtjkjlggbikeliaaGreatDoor.ev E x = some (.pointer (some ⟨r, 0, none⟩)))
    (hinj : ∀ x y, ek x = ek y → x = y) (hnd : (kvs.map (·.1)).Nodup) (hk : H[k]? = some (aF (itI b r ek kps todo) fp kps kvs))
    (h0 : todo = [] → bP K Q ops rest ((d, .tuple #[.bool false]) :: E) H opt)
    (h1 : ∀ i z, todo[i]? = some z → (ay kvs z).isSome = true → bP K Q ops rest ((d, .tuple #[.bool true, ek z, aA (bt kps z)]) :: E) (H.set k (aF (itJ b r ek kps (todo.eraseIdx i) z) fp kps kvs)) opt) : bP K Q ops (o :: rest) E H opt := by
  intro rr hr a w he s
  have hl : k < H.length := (List.getElem?_eq_some_iff.1 hk).1
  have s1 : Sat K.W (itI b r ek kps todo :: cf fp kps kvs :: H.eraseIdx k) w := s.ent (by
    intro h s
    rw [ga H k _ hk] at s
    have s1 : aW (aW (itI b r ek kps todo) (cf fp kps kvs)) (aN (H.eraseIdx k)) h := s
    rw [bg] at s1
    exact s1)
  have hkeys : kps.map (·.1) = kvs.map (·.1) := by
    obtain ⟨_, _, _, _, _, ⟨_, _, _, _, hx, _⟩⟩ := s1.hp
    exact iM _ _ _ hx
  obtain ⟨ha, hb', hdj, hun, ⟨es, ⟨clock, since, seen, c0⟩, hI⟩, hrest⟩ := s1.hp
  have s2 : Sat K.W (pts r (.mapIter (some b) since seen c0) :: pts b (.map es clock) :: pr (cZ ek aA es.toList kps ∧ (es.toList.map (·.born)).Nodup ∧ (∀ e ∈ es.toList, e.born < since) ∧ since ≤ c0 ∧ since ≤ clock ∧ (leftOf es seen).toList.map (·.key) = todo.map ek) :: cf fp kps kvs :: H.eraseIdx k) w := by
    refine ⟨s1.os, s1.tape, s1.output, s1.size, ?_⟩
    have s3 : aW (aW (pts b (.map es clock)) (aW (pts r (.mapIter (some b) since seen c0)) (pr _))) (aN (cf fp kps kvs :: H.eraseIdx k)) (hpw w) := ⟨ha, hb', hdj, hun, hI, hrest⟩
    rw [bg, bg] at s3
    exact da s3
  have hr0 := s2.pts_at (i := 0) rfl
  have hb0 := s2.pts_at (i := 1) rfl
  obtain ⟨_, ⟨p1, p2, p3, p4, p5, p6⟩, _⟩ := s2.at (i := 2) rfl
  have hrun : ∀ v w', (Instr.next (.pointer (some ⟨r, 0, none⟩)) false o.type).run K.P w = .ok v w' → (execOp a.eval o).run K.P w = .ok (.value v) w' := by
    intro v w' h
    unfold execOp; simp only [ho]; rw [he.ev hx]
    simp [h]
  have hnodef : ∀ c, o.op ≠ .defer c := by rw [ho]; intro c h; cases h
  refine wpListIn_plain hg fun K' hK' => ?_
  refine ⟨fun f _ => ib _ _, ?_⟩
  rw [Oper.semAt_eq _ _ _ hnodef]
  rcases run_next_at (P := K.P) w o.type r b since c0 seen es clock hr0 hb0 p3 p4 with ⟨hz, hn⟩ | ⟨e, hem, w1, hal, hn⟩
  · rw [hrun _ _ hn]
    have ht : todo = [] := by
      have : (leftOf es seen).toList = [] := List.eq_nil_of_length_eq_zero (by simpa using hz)
      rw [this] at p6
      simpa using p6.symm
    refine hK' _ _ ?_
    rw [hd]
    exact h0 ht rr hr _ w (he.put _ hdn) s
  · rw [hrun _ _ hn]
    obtain ⟨i, hi⟩ := List.mem_iff_getElem?.1 hem
    have hki : (todo.map ek)[i]? = some e.key := by rw [← p6, List.getElem?_map, hi]; rfl
    rw [List.getElem?_map] at hki
    obtain ⟨z, hz, hze⟩ := Option.map_eq_some_iff.1 hki
    have hmem := xy hem
    have hpair : (e.key, e.val) ∈ kps.map fun p => (ek p.1, aA p.2) := by
      rw [← (show es.toList.map (fun e => (e.key, e.val)) = _ from p1)]
      exact List.mem_map.2 ⟨e, hmem, rfl⟩
    obtain ⟨p, hp, hpe⟩ := List.mem_map.1 hpair
    simp only [Prod.mk.injEq] at hpe
    have hpz : p.1 = z := hinj _ _ (by rw [hpe.1, hze])
    have hmg : ay kps z = some p.2 := by rw [← hpz]; exact qD (by rw [hkeys]; exact hnd) hp
    have hval : e.val = aA (bt kps z) := by rw [← hpe.2]; simp [bt, hmg]
    have hsm : (ay kvs z).isSome = true := by rw [← hD kps kvs z hkeys, hmg]; rfl
    refine hK' _ _ ?_
    rw [hd]
    have hr1 : Sat K.W (pts r (.mapIter (some b) since seen c0) :: pts b (.map es clock) :: pr (cZ ek aA es.toList kps ∧ (es.toList.map (·.born)).Nodup ∧ (∀ e ∈ es.toList, e.born < since) ∧ since ≤ c0 ∧ since ≤ clock ∧ (leftOf es seen).toList.map (·.key) = todo.map ek) :: cf fp kps kvs :: H.eraseIdx k) w1 := by
      rcases hal with rfl | rfl
      · exact s2
      · exact s2.drew _
    have s5 := hr1.upd (o' := .mapIter (some b) since (seen.push e.born) clock)
    have := h1 i z hz hsm rr hr (a.put (some d) (.tuple #[.bool true, e.key, e.val])) (Go.ChangeMaps.setBlock w1 r (.mapIter (some b) since (seen.push e.born) clock)) (by rw [hze.symm, hval]; exact he.put _ hdn) (s5.ent ?_)
    · exact this
    · intro h s
      rw [← ie H k _ hl]
      show aW (aW (itJ b r ek kps (todo.eraseIdx i) z) (cf fp kps kvs)) (aN (H.eraseIdx k)) h
      rw [bg]
      have s6 : aW (pts r (.mapIter (some b) since (seen.push e.born) clock)) (aW (pts b (.map es clock)) (aW (pr _) (aW (cf fp kps kvs) (aN (H.eraseIdx k))))) h := s
      have s7 := da s6
      have s8 : aW (pts b (.map es clock)) (aW (pts r (.mapIter (some b) since (seen.push e.born) clock)) (aW (pr (cZ ek aA es.toList kps ∧ (es.toList.map (·.born)).Nodup ∧ (∀ x ∈ es.toList, x.born < since) ∧ since ≤ clock ∧ (leftOf es (seen.push e.born)).toList.map (·.key) = (todo.eraseIdx i).map ek ∧ e ∈ es.toList ∧ e.key = ek z ∧ e.val = aA (bt kps z))) (aW (cf fp kps kvs) (aN (H.eraseIdx k))))) h :=
        bo h (fun h s => bo h (fun h s => gQ h (fun h q => ⟨p1, p2, p3, p5, by
          rw [wx p2 hi, nf, p6, nf], hmem, hze.symm, hval⟩) s) s) s7
      rw [← bg (pts r _), ← bg (pts b _)] at s8
      exact gQ h (fun h s => ⟨es, ⟨clock, since, seen, e⟩, s⟩) s8
theorem uc {x : Operand} {todo : List α} {z : α} {H' : List HA} {X : HA} (ho : o.op = .entry x) (hx : Go.Proofs.YtjkjlggbikeliaaGreatDoor.ev E x = some (.pointer (some ⟨r, 0, none⟩))) (e : Ent H (itJ b r ek kps todo z :: X :: H')) :
    RQ K o E H (.tuple #[ek z, aA (bt kps z)]) :=
  cT (by rw [ho]; intro c h; cases h) fun a w he s => by
    have s1 := s.ent e
    obtain ⟨ha, hb', hdj, hun, ⟨es, ⟨clock, since, seen, e⟩, hI⟩, hrest⟩ := s1.hp
    have s2 : Sat K.W (pts r (.mapIter (some b) since (seen.push e.born) clock) :: pts b (.map es clock) :: pr (cZ ek aA es.toList kps ∧ (es.toList.map (·.born)).Nodup ∧ (∀ e ∈ es.toList, e.born < since) ∧ since ≤ clock ∧ (leftOf es (seen.push e.born)).toList.map (·.key) = todo.map ek ∧ e ∈ es.toList ∧ e.key = ek z ∧ e.val = aA (bt kps z)) :: X :: H') w := by
      refine ⟨s1.os, s1.tape, s1.output, s1.size, ?_⟩
      have s3 : aW (aW (pts b (.map es clock)) (aW (pts r (.mapIter (some b) since (seen.push e.born) clock)) (pr _))) (aN (X :: H')) (hpw w) := ⟨ha, hb', hdj, hun, hI, hrest⟩
      rw [bg, bg] at s3
      exact da s3
    have hr0 := s2.pts_at (i := 0) rfl
    have hb0 := s2.pts_at (i := 1) rfl
    obtain ⟨_, ⟨p1, p2, p3, p4, p5, p6, p7, p8⟩, _⟩ := s2.at (i := 2) rfl
    unfold execOp; simp only [ho]; rw [he.ev hx]
    simp [run_entry_at (P := K.P) w r b since seen es clock e hr0 hb0 p6 p2, p7, p8]
theorem xP {todo : List α} {z : α} (k : Nat) (hk : H[k]? = some (aF (itJ b r ek kps todo z) fp kps kvs)) : Ent H (itJ b r ek kps todo z :: cf fp kps kvs :: H.eraseIdx k) := by
  intro h s
  rw [ga H k _ hk] at s
  have s1 : aW (aW (itJ b r ek kps todo z) (cf fp kps kvs)) (aN (H.eraseIdx k)) h := s
  rw [bg] at s1
  exact s1
theorem pq {γ : Type} : ∀ (l : List γ) (i : Nat) (x : γ), l[i]? = some x → (x :: l.eraseIdx i).Perm l
  | [], i, x, h => by simp at h
  | a :: l, 0, x, h => by simp at h; subst h; exact List.Perm.refl _
  | a :: l, i + 1, x, h => by
    rw [List.eraseIdx_cons_succ]
    exact (List.Perm.swap a x _).trans (List.Perm.cons a (pq l i x (by simpa using h)))
theorem xz {o' : Option R} (e : ∀ r, opt = some r → o' = some r) (h : bP K Q ops rest E H o') : bP K Q ops rest E H opt := fun r hr a w he hs => h r (e r hr) a w he hs
def jm {β S R : Type} {α : Type} [DecidableEq α] [DecidableEq S] [DecidableEq β] (step : S → α → β → Option (S × β)) (o2 : S × List (α × β) → Option R) (k : Nat) (z : S × List (α × β) × List α) : Option R :=
  if z.2.2.length < k ∧ (z.2.1.map (·.1)).Nodup ∧ ∀ l ∈ kr z.2.2, gD step l z.1 z.2.1 = gD step z.2.2 z.1 z.2.1 then (gD step z.2.2 z.1 z.2.1).bind o2 else none
theorem vx [DecidableEq S] [DecidableEq β] {step : S → α → β → Option (S × β)} {o2 : S × List (α × β) → Option R} {k : Nat} {s : S} {todo : List α} {i : Nat} {x : α} {v : β} {rr : R} (hi : todo[i]? = some x) (hv : ay kvs x = some v)
    (h : jm step o2 (k + 1) (s, kvs, todo) = some rr) : ∃ z, step s x v = some z ∧ jm step o2 k (z.1, bk kvs x z.2, todo.eraseIdx i) = some rr := by
  unfold jm at h
  split at h
  · rename_i hc
    obtain ⟨h1, h2, h3'⟩ := hc
    simp only at h1 h2 h3' h
    have h3 := fun l hl => h3' l (qC hl)
    have hil := (List.getElem?_eq_some_iff.1 hi).1
    have hperm : ∀ l, l.Perm (todo.eraseIdx i) → (x :: l).Perm todo := fun l hl => by
      have e1 : todo[i]'hil = x := (List.getElem?_eq_some_iff.1 hi).2
      have e2 : (x :: todo.eraseIdx i).Perm todo := by
        rw [← e1]
        exact pq _ _ _ (by rw [e1]; exact hi)
      exact (List.Perm.cons x hl).trans e2
    rw [← h3 _ (hperm _ (List.Perm.refl _))] at h
    rw [gD, hv, Option.bind_some] at h
    cases hs : step s x v with
    | none => rw [hs] at h; cases h
    | some z =>
      refine ⟨z, rfl, ?_⟩
      rw [hs, Option.bind_some] at h
      unfold jm
      have hle : (todo.eraseIdx i).length < k := by rw [List.length_eraseIdx_of_lt hil]; omega
      have hn : ((bk kvs x z.2).map (·.1)).Nodup := by rw [pp (by rw [hv]; rfl)]; exact h2
      have hall : ∀ l, l.Perm (todo.eraseIdx i) → gD step l z.1 (bk kvs x z.2) = gD step (todo.eraseIdx i) z.1 (bk kvs x z.2) := fun l hl => by
        have e1 := h3 _ (hperm l hl)
        have e2 := h3 _ (hperm _ (List.Perm.refl _))
        rw [gD, hv, Option.bind_some, hs, Option.bind_some] at e1 e2
        rw [e1, ← e2]
      rw [if_pos ⟨hle, hn, fun l hl => hall l (kR hl)⟩]
      exact h
  · cases h
theorem vy [DecidableEq S] [DecidableEq β] {step : S → α → β → Option (S × β)} {o2 : S × List (α × β) → Option R} {k : Nat} {s : S} {rr : R} (h : jm step o2 k (s, kvs, []) = some rr) : o2 (s, kvs) = some rr := by
  unfold jm at h
  split at h
  · simpa [gD] using h
  · cases h
theorem tn [DecidableEq S] [DecidableEq β] {step : S → α → β → Option (S × β)} {o2 : S × List (α × β) → Option R} {k : Nat} {s : S} {todo : List α} {rr : R} (h : jm step o2 k (s, kvs, todo) = some rr) : (kvs.map (·.1)).Nodup := by
  unfold jm at h
  split at h
  · rename_i hc; exact hc.2.1
  · cases h
theorem tq [DecidableEq S] [DecidableEq β] {step : S → α → β → Option (S × β)} {o2 : S × List (α × β) → Option R} {s : S} : (iZ step s kvs).bind o2 = jm step o2 (kvs.length + 1) (s, kvs, kvs.map (·.1)) := by
  unfold iZ jm
  simp only [List.length_map]
  by_cases hc : (kvs.map (·.1)).Nodup ∧ ∀ l ∈ kr (kvs.map (·.1)), gD step l s kvs = gD step (kvs.map (·.1)) s kvs
  · rw [if_pos hc, if_pos ⟨by omega, hc⟩]
  · rw [if_neg hc, if_neg (fun h => hc h.2)]; rfl
theorem pf [DecidableEq S] [DecidableEq β] {tI tN tO eid bid id1 : Nat} {body : Code} {ty1 ty2 : TypeId} {ps1 ps2 : String} {af1 af2 : Array Edge} {o2 : S × List (α × β) → Option R} (step : S → α → β → Option (S × β)) (Es : S → Y → Env) (Hs : S → Y → List HA) (s0 : S) (y0 : Y)
    (hinj : ∀ x y, ek x = ek y → x = y) (hEs : ∀ s y, lk (Es s y) tI = some (.pointer (some ⟨r, 0, none⟩))) (hn1 : Nat.blt tN K.n = true) (hn2 : Nat.blt tO K.n = true) (hS : ∀ s y v1 v2, Sub (Es s y) ((tO, v1) :: (tN, v2) :: Es s y))
    (hE : Sub (Es s0 y0) E) (hH : Ent H (aF (itI b r ek kps (kps.map (·.1))) fp kps kvs :: Hs s0 y0))
    (hB : ∀ kvs todo s y x v, ay kvs x = some v → Sim K (lC K (fun (z : S × β) (y : Y) => Es z.1 y) (fun z y => aF (itJ b r ek kps todo x) fp kps (bk kvs x z.2) :: Hs z.1 y)) (.block bid body) ((tO, .bool true) :: (tN, .tuple #[.bool true, ek x, aA (bt kps x)]) :: Es s y) (aF (itJ b r ek kps todo x) fp kps kvs :: Hs s y) (step s x v))
    (hN : ∀ kvs s y, Nrm K Q (Es s y) (aF (aB b ek aA kps) fp kps kvs :: Hs s y) (o2 (s, kvs))) :
    Sim K (lS eid Q) (.loop (.seq (.region id1 [⟨some tN, .next (.tmp tI) false, ty1, ps1, af1, none⟩, ⟨some tO, .extract (.tmp tN) 0, ty2, ps2, af2, none⟩].toArray false) (.seq (.cond (.tmp tO) .skip (.exit eid)) (.block bid body)))) E H ((iZ step s0 kvs).bind o2) := by
  have hkeys : ∀ w, Sat K.W H w → kps.map (·.1) = kvs.map (·.1) := fun w s => by
    obtain ⟨_, _, _, _, ⟨_, _, _, _, _, hx⟩, _⟩ := (s.ent hH).hp
    exact iM _ _ _ hx
  intro rr hr a w he hs
  have hk := hkeys w hs
  rw [tq] at hr
  rw [hk] at hH
  refine (bX (S := S × List (α × β) × List α) Y (fun k z => jm step o2 k z) (fun z y => Es z.1 y) (fun z y => aF (itI b r ek kps z.2.2) fp kps z.2.1 :: Hs z.1 y) (fun z => by unfold jm; rw [if_neg (by omega)]) ?_ (kvs.length + 1) (s0, kvs, kvs.map (·.1)) y0 hE hH) rr hr a w he hs
  rintro k ⟨s, kvs, todo⟩ y
  refine ap (aE ?_)
  by_cases hnd : (kvs.map (·.1)).Nodup
  · refine wy (todo := todo) (kvs := kvs) 0 rfl rfl rfl hn1 (hEs s y) hinj hnd rfl (fun ht => ?_) (fun i x hi hx => ?_)
    · subst ht
      refine jX (bh (vs := #[.bool false]) (v := .bool false) (i := 0) rfl (by simp [Go.Proofs.YtjkjlggbikeliaaGreatDoor.ev, lk]) rfl) rfl rfl hn2 (ag (ae (ap (iy (by simp [Go.Proofs.YtjkjlggbikeliaaGreatDoor.ev, lk]) (ck ?_)))))
      refine bQ (bY (bR ?_))
      intro rr hr a w he hs
      have hh := hN kvs s y rr (vy hr) a w (he.sub ?_) (hs.ent yA)
      · exact hh
      · exact hS s y _ _
    · obtain ⟨v, hv⟩ := Option.isSome_iff_exists.1 hx
      refine xz (o' := (step s x v).bind fun z => jm step o2 k (z.1, bk kvs x z.2, todo.eraseIdx i)) (fun rr hr => ?_) ?_
      · obtain ⟨z, h1, h2⟩ := vx hi hv hr
        rw [h1]; exact h2
      · refine jX (bh (vs := #[.bool true, ek x, aA (bt kps x)]) (v := .bool true) (i := 0) rfl (by simp [Go.Proofs.YtjkjlggbikeliaaGreatDoor.ev, lk]) rfl) rfl rfl hn2 (ag (ae (ap (gY (by simp [Go.Proofs.YtjkjlggbikeliaaGreatDoor.ev, lk]) (au (ae ?_))))))
        intro rr hr a w he hs
        obtain ⟨z, h1, h2⟩ := Option.bind_eq_some_iff.1 hr
        refine wpIn_mono (hB kvs (todo.eraseIdx i) s y x v hv z h1 a w he hs) ?_
        intro e a' w' hq
        cases e with
        | normal => obtain ⟨y', x1, x2⟩ := hq; exact ⟨(z.1, bk kvs x z.2, todo.eraseIdx i), y', h2, x1, x2.ent yB⟩
        | _ => exact hq.elim
  · exact fun rr hr => absurd (tn hr) hnd
theorem qE {step : S → α → β → Option S} : ∀ (l : List α) (s : S) (kvs : List (α × β)) (z : S × List (α × β)), gD (fun s x v => (step s x v).map fun s' => (s', v)) l s kvs = some z → z.2 = kvs
  | [], s, kvs, z, h => by simp [gD] at h; rw [← h]
  | x :: l, s, kvs, z, h => by
    rw [gD] at h
    obtain ⟨v, hv, h⟩ := Option.bind_eq_some_iff.1 h
    obtain ⟨u, hu, h⟩ := Option.bind_eq_some_iff.1 h
    obtain ⟨s', _, rfl⟩ := Option.map_eq_some_iff.1 hu
    rw [kz hv] at h
    exact qE l _ _ _ h
theorem tr [DecidableEq S] [DecidableEq β] {step : S → α → β → Option S} {s : S} {z : S × List (α × β)} (h : iZ (fun s x v => (step s x v).map fun s' => (s', v)) s kvs = some z) : z.2 = kvs := by
  unfold iZ at h
  split at h
  · exact qE _ _ _ _ h
  · cases h
theorem Ent.sameF {M : HA} {x : α} {v : β} {l m : List HA} (hx : ay kvs x = some v) (r : Ent l (aF M fp kps kvs :: m)) : Ent l (aF M fp kps (bk kvs x v) :: m) := by rw [kz hx]; exact r
theorem vz [DecidableEq S] [DecidableEq β] {tI tN tO eid bid id1 : Nat} {body : Code} {ty1 ty2 : TypeId} {ps1 ps2 : String} {af1 af2 : Array Edge} {o2 : S → Option R} (step : S → α → β → Option S) (Es : S → Y → Env) (Hs : S → Y → List HA) (s0 : S) (y0 : Y)
    (hinj : ∀ x y, ek x = ek y → x = y) (hEs : ∀ s y, lk (Es s y) tI = some (.pointer (some ⟨r, 0, none⟩))) (hn1 : Nat.blt tN K.n = true) (hn2 : Nat.blt tO K.n = true) (hS : ∀ s y v1 v2, Sub (Es s y) ((tO, v1) :: (tN, v2) :: Es s y))
    (hE : Sub (Es s0 y0) E) (hH : Ent H (aF (itI b r ek kps (kps.map (·.1))) fp kps kvs :: Hs s0 y0))
    (hB : ∀ kvs todo s y x v, ay kvs x = some v → Sim K (lC K (fun (z : S) (y : Y) => Es z y) (fun z y => aF (itJ b r ek kps todo x) fp kps kvs :: Hs z y)) (.block bid body) ((tO, .bool true) :: (tN, .tuple #[.bool true, ek x, aA (bt kps x)]) :: Es s y) (aF (itJ b r ek kps todo x) fp kps kvs :: Hs s y) (step s x v))
    (hN : ∀ s y, Nrm K Q (Es s y) (aF (aB b ek aA kps) fp kps kvs :: Hs s y) (o2 s)) :
    Sim K (lS eid Q) (.loop (.seq (.region id1 [⟨some tN, .next (.tmp tI) false, ty1, ps1, af1, none⟩, ⟨some tO, .extract (.tmp tN) 0, ty2, ps2, af2, none⟩].toArray false) (.seq (.cond (.tmp tO) .skip (.exit eid)) (.block bid body)))) E H ((nc step s0 kvs).bind o2) := by
  have e : (nc step s0 kvs).bind o2 = (iZ (fun s x v => (step s x v).map fun s' => (s', v)) s0 kvs).bind fun z => if z.2 = kvs then o2 z.1 else none := by
    unfold nc
    cases h : iZ (fun s x v => (step s x v).map fun s' => (s', v)) s0 kvs with
    | none => rfl
    | some z => simp [tr h]
  rw [e]
  refine pf (o2 := fun z => if z.2 = kvs then o2 z.1 else none) _ Es Hs s0 y0 hinj hEs hn1 hn2 hS hE hH (fun kvs todo s y x v hv => ?_) (fun kvs' s y => ?_)
  · intro z hz a w he hs
    obtain ⟨s', h1, rfl⟩ := Option.map_eq_some_iff.1 hz
    refine wpIn_mono (hB kvs todo s y x v hv s' h1 a w he hs) ?_
    intro e a' w' hq
    cases e with
    | normal => obtain ⟨y', x1, x2⟩ := hq; exact ⟨y', x1, x2.ent (Ent.sameF hv (Ent.refl _))⟩
    | _ => exact hq.elim
  · by_cases hk : kvs' = kvs
    · subst hk; simpa using hN s y
    · simp only [hk, if_false]; exact xA
end
theorem tc {P : Program} {W : World} {F O : HA} {f b : Nat} {args : List Value} {β Z Y : Type} {ek : List UInt8 → Value} {fp : Nat → β → Z → List HA} {kps : List (List UInt8 × Nat)} {kvs : List (List UInt8 × β)} {val : List (List UInt8) → Y → Value} {B : List (List UInt8) → Y → HA}
    (h : ∀ F, Fn P W f args [O, aB b ek aA kps] F (if (kps.map (·.1)).Nodup ∧ kps.length * 16 ≤ 140737488355328 ∧ ∀ p ∈ kps, p.1.length ≤ 140737488351232 then some (dz kps) else none) val (fun r y => [B r y, O, aB b ek aA kps])) :
    Fn P W f args [O, aF (aB b ek aA kps) fp kps kvs] F (if (kvs.map (·.1)).Nodup ∧ kvs.length * 16 ≤ 140737488355328 ∧ ∀ p ∈ kvs, p.1.length ≤ 140737488351232 then some (dz kvs) else none) val (fun r y => [B r y, O, aF (aB b ek aA kps) fp kps kvs]) := by
  intro r hr w hs
  have hs1 : Sat W (aF (aB b ek aA kps) fp kps kvs :: [O, F]) w := hs.ent (Ent.sel 1 rfl (Ent.sel 0 rfl (Ent.sel 0 rfl (Ent.nil _))))
  have hkeys : kps.map (·.1) = kvs.map (·.1) := by
    obtain ⟨_, _, _, _, ⟨_, _, _, _, _, hx⟩, _⟩ := hs1.hp
    exact iM _ _ _ hx
  have hlen : kps.length = kvs.length := by simpa using congrArg List.length hkeys
  have hks : dz kps = dz kvs := by unfold dz; rw [hkeys]
  split at hr
  · rename_i hh
    cases hr
    have hh2 : (kps.map (·.1)).Nodup ∧ kps.length * 16 ≤ 140737488355328 ∧ ∀ p ∈ kps, p.1.length ≤ 140737488351232 := by
      refine ⟨by rw [hkeys]; exact hh.1, by rw [hlen]; exact hh.2.1, fun p hp => ?_⟩
      have : p.1 ∈ kvs.map (·.1) := by rw [← hkeys]; exact List.mem_map.2 ⟨p, hp, rfl⟩
      obtain ⟨q, hq, e⟩ := List.mem_map.1 this
      rw [← e]; exact hh.2.2 q hq
    have := h (aW (cf fp kps kvs) F) (dz kvs) (by rw [if_pos hh2, hks]) w (hs1.ent ?_)
    · refine this.mono ?_
      rintro e w' ⟨y, rfl, s⟩
      refine ⟨y, rfl, s.ent ?_⟩
      intro h s
      have s1 : aW (B (dz kvs) y) (aW O (aW (aB b ek aA kps) (aW (aW (cf fp kps kvs) F) tt))) h := s
      refine bo h (fun h s => bo h (fun h s => ?_) s) s1
      show aW (aW (aB b ek aA kps) (cf fp kps kvs)) (aW F tt) h
      rw [bg] at s
      rw [bg]
      exact s
    · intro h s
      have s1 : aW (aW (aB b ek aA kps) (cf fp kps kvs)) (aW O (aW F tt)) h := s
      show aW O (aW (aB b ek aA kps) (aW (aW (cf fp kps kvs) F) tt)) h
      rw [bg] at s1
      have s2 := bo h (fun h s => da s) s1
      have s3 := da s2
      refine bo h (fun h s => bo h (fun h s => ?_) s) s3
      rw [bg]
      exact s
  · cases hr
section
variable {K : Cx} {E : Env} {H : List HA} {o : Oper} {α : Type} {n : Nat} {V : α → List Value → Prop} {xs : List α}
theorem xl {t e bytes len : Nat} {zs : List Value} {l : List (Nat × Operand)} {vs : List (Nat × Value)} {cs : List Value} (rs : List (List Value)) (ho : o.op = .buildSlice t len l.toArray) (hx : evP l E = some vs) (ht : K.P.underlying t = some (.slice e)) (hE : Elt K.P e n bytes zs)
    (hb : Nat.ble (len * n) 16777216 = true) (hf : Instr.fill (fun i => some (i * n, n)) ((Array.range (len * n)).map (zs.toArray[· % zs.toArray.size]!)) vs = some cs.toArray) (h0 : Nat.blt 0 (len * n) = true) (hr : bE n V xs rs) (hcs : rs.flatten = cs) (hlen : xs.length = len) :
    RE K (Y := Nat) o E H (fun b => .slice (some ⟨b, 0, none⟩) xs.length len) (fun b => aC e n V (some ⟨b, 0, none⟩) xs len :: H) :=
  jq (lK rs ho hx ht hE hb hf h0 hr hcs hlen) (fun _ => rfl) fun b => Ent.sel' 0 rfl (aC.mk hr) (Ent.refl _)
end
theorem aC.empty {α : Type} {T n c : Nat} {V V' : α → List Value → Prop} {a : Option Addr} {p : Hp} (h : aC T n V a ([] : List α) c p) : aC T n V' a ([] : List α) c p := by
  obtain ⟨rs, hl, hr⟩ := h
  cases rs with
  | nil => exact ⟨[], trivial, hr⟩
  | cons r rs => exact hl.elim
end Go.Proofs.YtjkjlggbikeliaaGreatDoor

namespace Go.Proofs.YtjkjlggbikeliaaGreatDoor
set_option linter.unusedVariables false
set_option linter.unusedSimpArgs false
open Go.RowKit
def sQ (T : TypeId) (F : HA) (a : Option Addr) (c : Nat) : Prop := ∀ h, F h → c = 0 ∨ ∃ b off, a = some ⟨b, off, none⟩ ∧ ∃ (l : List Value) (fz : Nat × Nat), h b = some (.cells l.toArray T fz) ∧ off + c ≤ l.length ∧ (fz.1 = fz.2 ∨ off + c ≤ fz.1)
theorem sQ.row {T : TypeId} {a : Option Addr} {n c : Nat} {cs : List Value} : sQ T (Row T 1 a n c cs) a c := by
  rintro h (⟨rfl, rfl, rfl, rfl⟩ | ⟨b, off, pre, junk, fz, rfl, ok, hb⟩)
  · exact .inl rfl
  · have h1 := ok.room; have h2 := ok.offs; have h3 := ok.fzok
    refine .inr ⟨b, off, rfl, _, fz, hb, ?_, ?_⟩
    · simp only [List.length_append]; omega
    · rcases h3 with h | h
      · exact .inl h
      · right; omega
structure RdW (T : TypeId) (F : HA) (a : Option Addr) (c : Nat) (cs : List Value) : Prop where
  rd : Rd F a cs
  cap : sQ T F a c
theorem RdW.row {T : TypeId} {a : Option Addr} {n c : Nat} {cs : List Value} (h : Rd (Row T 1 a n c cs) a cs) : RdW T (Row T 1 a n c cs) a c cs := ⟨h, .row⟩
theorem RdW.none {T : TypeId} {F : HA} : RdW T F none 0 [] := ⟨.inl rfl, fun _ _ => .inl rfl⟩
def UpC (G F : HA) : Prop := ∀ h, F h → ∃ g, G g ∧ ∀ b o, g b = some o → h b = some o
theorem UpC.refl (F : HA) : UpC F F := fun h x => ⟨h, x, fun _ _ e => e⟩
theorem UpC.trans {A B C : HA} (u : UpC A B) (v : UpC B C) : UpC A C := fun h x => by
  obtain ⟨g, hg, e⟩ := v h x
  obtain ⟨f, hf, e'⟩ := u g hg
  exact ⟨f, hf, fun b o y => e b o (e' b o y)⟩
theorem UpC.lend {F : HA} {l : List HA} (k : Nat) (hk : l[k]? = some F) : UpC F (aN l) := fun h x => jW l k F hk h x
theorem UpC.up {G F : HA} (u : UpC G F) : Up G F := fun a cs r => by
  rcases r with h | ⟨b, off, ha, hc⟩
  · exact .inl h
  · refine .inr ⟨b, off, ha, fun h x => ?_⟩
    obtain ⟨g, hg, e⟩ := u h x
    obtain ⟨l, T, fz, h1, h2⟩ := hc g hg
    exact ⟨l, T, fz, e _ _ h1, h2⟩
theorem RdW.up {T : TypeId} {G F : HA} {a : Option Addr} {c : Nat} {cs : List Value} (r : RdW T G a c cs) (u : UpC G F) : RdW T F a c cs :=
  ⟨u.up _ _ r.rd, fun h x => by
    obtain ⟨g, hg, e⟩ := u h x
    rcases r.cap g hg with h0 | ⟨b, off, ha, l, fz, h1, h2⟩
    · exact .inl h0
    · exact .inr ⟨b, off, ha, l, fz, e _ _ h1, h2⟩⟩
/-! ### What may be written -/
def je (h : Hp) (b : Nat) (o : Obj) : Hp := fun i => if i = b then some o else h i
def Shp (z : HA) : HA := fun h' => ∃ h, z h ∧ ∀ b (l : List Value) T fz, h b = some (.cells l.toArray T fz) → ∃ l' : List Value, h' b = some (.cells l'.toArray T fz) ∧ l'.length = l.length
theorem Shp.of {z : HA} (h : Hp) (x : z h) : Shp z h := ⟨h, x, fun _ l _ _ e => ⟨l, e, rfl⟩⟩
def Wrt (T : TypeId) (J : HA) (a : Option Addr) (c : Nat) : Prop := ∀ h, J h → c = 0 ∨ ∃ b off, a = some ⟨b, off, none⟩ ∧ ∃ (l : List Value) (fz : Nat × Nat), h b = some (.cells l.toArray T fz) ∧ off + c ≤ l.length ∧ (fz.1 = fz.2 ∨ off + c ≤ fz.1) ∧
  ∀ l' : List Value, l'.length = l.length → J (je h b (.cells l'.toArray T fz))
theorem sQ.shp {T : TypeId} {z : HA} {a : Option Addr} {c : Nat} (r : sQ T z a c) : Wrt T (Shp z) a c := by
  rintro h' ⟨h, hz, hs⟩
  rcases r h hz with h0 | ⟨b, off, ha, l, fz, h1, h2, h3⟩
  · exact .inl h0
  · obtain ⟨l', e, hl⟩ := hs b l T fz h1
    refine .inr ⟨b, off, ha, l', fz, e, by omega, h3, fun m hm => ⟨h, hz, fun b' k T' fz' hk => ?_⟩⟩
    by_cases hb : b' = b
    · subst hb
      rw [h1] at hk
      simp only [Option.some.injEq, Obj.cells.injEq] at hk
      obtain ⟨e1, e2, e3⟩ := hk
      have e1 : l = k := by simpa using congrArg Array.toList e1
      subst e1; subst e2; subst e3
      exact ⟨m, by simp [je], by omega⟩
    · obtain ⟨k', hk', hl'⟩ := hs b' k T' fz' hk
      exact ⟨k', by simp [je, hb, hk'], hl'⟩
def UpW (J J' : HA) : Prop := ∀ T a c, Wrt T J a c → Wrt T J' a c
theorem UpW.refl (J : HA) : UpW J J := fun _ _ _ h => h
theorem UpW.trans {A B C : HA} (u : UpW A B) (v : UpW B C) : UpW A C := fun T a c h => v T a c (u T a c h)
theorem Wrt.up {T : TypeId} {J J' : HA} {a : Option Addr} {c : Nat} (h : Wrt T J a c) (u : UpW J J') : Wrt T J' a c := u T a c h
theorem UpW.star {A J : HA} : UpW J (aW A J) := by
  rintro T a c r h ⟨x, y, d, rfl, hx, hy⟩
  rcases r y hy with h0 | ⟨b, off, ha, l, fz, h1, h2, h3, h4⟩
  · exact .inl h0
  · refine .inr ⟨b, off, ha, l, fz, pw d h1, h2, h3, fun m hm => ⟨x, je y b (.cells m.toArray T fz), ?_, ?_, hx, h4 m hm⟩⟩
    · intro i
      by_cases hi : i = b
      · subst hi
        rcases d i with e | e
        · exact .inl e
        · rw [h1] at e; cases e
      · simpa [je, hi] using d i
    · funext i
      by_cases hi : i = b
      · subst hi
        rcases d i with e | e
        · simp [je, un, e]
        · rw [h1] at e; cases e
      · simp [je, un, hi]
def Blk (T : TypeId) (b s : Nat) : HA := fun h => ∃ l : List Value, h b = some (.cells l.toArray T (0, 0)) ∧ l.length = s
theorem Wrt.blk {T : TypeId} {b s c : Nat} {J : HA} (hc : c ≤ s) : Wrt T (aW (Blk T b s) J) (some ⟨b, 0, none⟩) c := by
  rintro h ⟨x, y, d, rfl, ⟨l, hx, hl⟩, hy⟩
  refine .inr ⟨b, 0, rfl, l, (0, 0), lT hx, by omega, .inl rfl, fun m hm => ⟨je x b (.cells m.toArray T (0, 0)), y, ?_, ?_, ⟨m, by simp [je], by omega⟩, hy⟩⟩
  · intro i
    by_cases hi : i = b
    · subst hi
      rcases d i with e | e
      · rw [hx] at e; cases e
      · exact .inr e
    · simpa [je, hi] using d i
  · funext i
    by_cases hi : i = b
    · subst hi; simp [je, un]
    · simp [je, un, hi]
def vJ (T : TypeId) (J : HA) (b : Nat) (l0 : List Value) (fz : Nat × Nat) : HA := fun h => h b = some (.cells l0.toArray T fz) ∧ ∀ l' : List Value, l'.length = l0.length → J (je h b (.cells l'.toArray T fz))
theorem Sat.wrt {W w : World} {l : List HA} {T : TypeId} {J : HA} {a : Option Addr} {c : Nat} (hW : Wrt T J a c) (s : Sat W (J :: l) w) :
    c = 0 ∨ ∃ b off l0 fz, a = some ⟨b, off, none⟩ ∧ off + c ≤ l0.length ∧ (fz.1 = fz.2 ∨ off + c ≤ fz.1) ∧ Sat W (vJ T J b l0 fz :: l) w := by
  obtain ⟨x, r, d, e, hx, hr⟩ := s.hp
  rcases hW x hx with h0 | ⟨b, off, ha, l0, fz, h1, h2, h3, h4⟩
  · exact .inl h0
  · exact .inr ⟨b, off, l0, fz, ha, h2, h3, s.os, s.tape, s.output, s.size, x, r, d, e, ⟨h1, h4⟩, hr⟩
theorem Sat.blk_at {W w : World} {l : List HA} {T : TypeId} {J : HA} {b : Nat} {l0 : List Value} {fz : Nat × Nat} (s : Sat W (vJ T J b l0 fz :: l) w) : w.heap[b]? = some (.cells l0.toArray T fz) := by
  obtain ⟨a, ha, k⟩ := s.at (i := 0) rfl
  exact k _ _ ha.1
theorem Sat.blk_upd {W w : World} {l : List HA} {T : TypeId} {J : HA} {b : Nat} {l0 l1 : List Value} {fz : Nat × Nat} (hl : l1.length = l0.length) (s : Sat W (vJ T J b l0 fz :: l) w) : Sat W (J :: l) { w with heap := w.heap.setIfInBounds b (.cells l1.toArray T fz) } := by
  have hb := s.blk_at
  have hlt : b < w.heap.size := (Array.getElem?_eq_some_iff.1 hb).1
  refine ⟨s.os, s.tape, s.output, by simpa using s.size, ?_⟩
  obtain ⟨a, r, d, e, ha, hr⟩ := s.hp
  refine ⟨je a b (.cells l1.toArray T fz), r, ?_, ?_, ha.2 l1 hl, hr⟩
  · intro i
    by_cases h : i = b
    · subst h
      rcases d i with x | x
      · rw [ha.1] at x; cases x
      · exact .inr x
    · simpa [je, h] using d i
  · funext i
    have := congrFun e i
    simp only [hpw] at this ⊢
    simp only [un] at this ⊢
    rw [Array.getElem?_setIfInBounds]
    by_cases h : i = b
    · subst h; simp [je, hlt]
    · have h' : ¬ b = i := fun x => h x.symm
      simp [je, h, h', this]
section
variable {K : Cx} {R S Y : Type} {Q : dn R} {E : Env} {H : List HA} {opt : Option R} {ops : Array Oper} {rest : List Oper} {o : Oper}
theorem xm {T : TypeId} {J : HA} {a : Option Addr} {c : Nat} (k : Nat) (hk : H[k]? = some J) (hW : Wrt T J a c) (hc : 0 < c) (h : ∀ b off, a = some ⟨b, off, none⟩ → bP K Q ops rest E H opt) : bP K Q ops rest E H opt := by
  intro r hr a' w he hs
  rcases (hs.focus hk).wrt hW with h0 | ⟨b, off, l0, fz, ha, _⟩
  · omega
  · exact h b off ha r hr a' w he hs
theorem wo {x y : Operand} {t T : TypeId} {b off c j : Nat} {v : Value} {a : Option Addr} {J : HA} (k : Nat) (ho : o.op = .store t x y) (hx : ev E x = some (.pointer (some ⟨b, off + j, none⟩))) (hy : ev E y = some v)
    (hs : ∀ w, (sizeOf t).run K.P w = .ok 1 w) (hv : v.cells = [v].toArray) (h1 : one [v]) (hk : H[k]? = some J) (hW : Wrt T J a c) (ha : a = some ⟨b, off, none⟩) (hj : j < c) :
    RE K (Y := Unit) o E H (fun _ => undef) (fun _ => H) :=
  nD (by rw [ho]; intro c h; cases h) fun a' w he s => by
    rcases (s.focus hk).wrt hW with h0 | ⟨b', off', l0, fz, ha', h2, h3, s2⟩
    · omega
    · rw [ha] at ha'
      simp only [Option.some.injEq, Addr.mk.injEq] at ha'
      obtain ⟨rfl, rfl, _⟩ := ha'
      have hb := s2.blk_at
      have hst := ja (P := K.P) (off + j) [v] 0 l0 w hb (by simp; omega) (fun q h4 h5 h6 => by
        simp only [List.length_cons, List.length_nil] at h6
        rcases h3 with h | h <;> omega) h1
      have hu := Sat.unfocus hk (s2.blk_upd (l1 := fe l0 (off + j) [v]) (by rw [gk]))
      have hset : H.set k J = H := by
        apply List.ext_getElem?
        intro i
        rw [List.getElem?_set]
        have hlt : k < H.length := (List.getElem?_eq_some_iff.1 hk).1
        by_cases h : k = i
        · subst h; rw [if_pos rfl, if_pos hlt, hk]
        · rw [if_neg h]
      rw [hset] at hu
      refine ⟨(), _, ?_, hu⟩
      unfold execOp; simp only [ho]; rw [he.ev hx, he.ev hy]
      rw [Nat.add_zero] at hst
      simp [Instr.storeAt, Instr.sureAddr, storeVar, hs, hv, hst]
theorem tA {P : Program} {W w : World} {l : List HA} {t ty e : TypeId} {i : TypeInfo} {z : Value} {a a2 : Option Addr} {n c m c2 : Nat} {J : HA} {news : List Value}
    (s : Sat W (J :: l) w) (hW : Wrt e J a c) (hnc : n ≤ c) (hcm : c ≤ maxLen) (ht : P.underlying t = some (.slice e)) (hi : P.info? e = some i) (hz : i.zero = some z) (hsz : i.size = 1) (hby : i.bytes = 1) (hzs : z.cells.size = 1)
    (hl : news.length = m) (hr : Rds l a2 news) (h1 : one news) (hm0 : 0 < m) (hb : n + m ≤ 140737488355328) :
    ∃ a' c' J' w', (Builtin.append_ #[t, t] ty #[.slice a n c, .slice a2 m c2]).run P w = .ok (.slice a' (n + m) c') w' ∧ (Wrt e J' a' c' ∧ n + m ≤ c' ∧ c' ≤ maxLen) ∧ UpW J J' ∧ Sat W (J' :: l) w' := by
  have hml : n + m ≤ maxLen := by simp only [maxLen]; omega
  have s' : Sat W l w := s.ent (Ent.drop (Ent.refl _))
  have hnews : ∀ w2, Sat W l w2 → (Builtin.firstCells i.size m (.slice a2 m c2)).run P w2 = .ok news.toArray w2 := by
    intro w2 s2
    rcases hr.cells s2 with hn | ⟨b2, off2, ha2, hc⟩
    · subst hn; simp at hl; omega
    · subst ha2
      have := iB (P := P) (w := w2) (b := b2) (off := off2) (vs := news) hc
      rw [hl] at this
      simpa [Builtin.firstCells, hsz] using this
  have grown : ∀ (old : List Value), old.length = n → c < n + m → ∃ b' c', (Wrt e (aW (Blk e b' c') J) (some ⟨b', 0, none⟩) c' ∧ n + m ≤ c' ∧ c' ≤ maxLen) ∧ c' = grownCap w (n + m) c e ∧ b' = w.heap.size ∧ Sat W (aW (Blk e b' c') J :: l)
      { w with drawn := w.drawn + 1, heap := w.heap.push (.cells (old.toArray ++ news.toArray ++ Builtin.zeroCells z.cells (grownCap w (n + m) c e - (n + m))) e (0, 0)) } := by
    intro old ho hc
    have hge := grownCap_ge w (n + m) c e
    have hcm := grownCap_le_maxLen w (n + m) c e hml
    have s2 := (s.drew (w.drawn + 1)).new (.cells (old.toArray ++ news.toArray ++ Builtin.zeroCells z.cells (grownCap w (n + m) c e - (n + m))) e (0, 0))
    refine ⟨_, _, ⟨Wrt.blk (Nat.le_refl _), hge, hcm⟩, rfl, rfl, s2.ent fun h x => ?_⟩
    obtain ⟨p, q, d, rfl, hp, p2, q2, d2, rfl, hp2, hq2⟩ := x
    refine ⟨un p p2, q2, ?_, ?_, ⟨p, p2, ?_, rfl, ⟨(old ++ news ++ (Builtin.zeroCells z.cells (grownCap w (n + m) c e - (n + m))).toList), ?_, ?_⟩, hp2⟩, hq2⟩
    · intro i
      rcases d2 i with e1 | e1
      · rcases d i with e2 | e2
        · left; simp [un, e1, e2]
        · right; simp only [un] at e2; rw [e1] at e2; simpa using e2
      · exact .inr e1
    · funext i; simp [un, Option.or_assoc]
    · intro i
      rcases d i with e2 | e2
      · exact .inl e2
      · right
        simp only [un] at e2
        cases h2 : p2 i with
        | none => rfl
        | some o => rw [h2] at e2; simp at e2
    · have : (old.toArray ++ news.toArray ++ Builtin.zeroCells z.cells (grownCap w (n + m) c e - (n + m))) = (old ++ news ++ (Builtin.zeroCells z.cells (grownCap w (n + m) c e - (n + m))).toList).toArray := by
        apply Array.ext'; simp
      rw [this] at hp
      exact hp
    · have hzl : (Builtin.zeroCells z.cells (grownCap w (n + m) c e - (n + m))).toList.length = grownCap w (n + m) c e - (n + m) := by rw [Array.length_toList, size_zeroCells, hzs, Nat.mul_one]
      simp only [List.length_append, hzl, ho, hl]
      omega
  have hcut : ∀ old, (Question.appendCap (n + m) old e).cut (w.tape w.drawn (.appendCap (n + m) old e)) = grownCap w (n + m) old e := fun _ => rfl
  by_cases hroom : n + m ≤ c
  · rcases s.wrt hW with h0 | ⟨b, off, l0, fz, rfl, h2, h3, s2⟩
    · omega
    · have hbk := s2.blk_at
      have hst := ja (P := P) (off + n) news 0 l0 w hbk (by simp; omega) (fun q h4 h5 h6 => by rcases h3 with h | h <;> omega) h1
      rw [Nat.add_zero] at hst
      refine ⟨some ⟨b, off, none⟩, c, J, _, ?_, ⟨hW, hroom, hcm⟩, UpW.refl _, s2.blk_upd (l1 := fe l0 (off + n) news) (by rw [gk])⟩
      simp [Builtin.append_, run_underlying ht, sizeOf, typeInfo, program, Sem.run, hi, Builtin.lenOf, hroom, hnews w s', oe, hst, hsz]
      simp [hsz] at hnews
      simp [hnews w s', hst]
  · have hg : c < n + m := by omega
    have h63 : ¬ (9223372036854775807 < ((n : Int) + (m : Int))) := by simp only [maxLen] at hml; omega
    have hfits := growslice_fits (bytes := i.bytes) hg (by rw [hby]; omega)
    have h48 : ¬ (281474976710656 < Builtin.nextslicecap (n + m) c * i.bytes) := by omega
    have hd : Sat W l w.drew := s'.drew _
    rcases s.wrt hW with h0 | ⟨b, off, l0, fz, rfl, h2, h3, s2⟩
    · have hn : n = 0 := by omega
      subst hn; subst h0
      obtain ⟨b', c', hw', rfl, rfl, hs'⟩ := grown [] rfl hg
      refine ⟨_, _, _, _, ?_, hw', UpW.star, hs'⟩
      have hf0 : (Builtin.firstCells i.size 0 (.slice a 0 0)).run P w.drew = .ok #[] w.drew := by cases a <;> simp [Builtin.firstCells, loadCells, loadCellsFrom]
      have hm : m ≠ 0 := by omega
      have h63' : ¬ (9223372036854775807 < (m : Int)) := by omega
      simp only [Nat.zero_add] at hroom h48 hcut ⊢
      simp [Builtin.append_, run_underlying ht, sizeOf, typeInfo, zeroValue, hi, hz, Builtin.lenOf, hm, h63', h48, Question.forced, hf0, hnews _ hd, newRow, grownCap]
      rfl
    · have hbk := s2.blk_at
      have hold : (Builtin.firstCells i.size n (.slice (some ⟨b, off, none⟩) n c)).run P w.drew = .ok ((l0.drop off).take n).toArray w.drew := by
        have := iB (P := P) (w := w.drew) (b := b) (off := off) (vs := (l0.drop off).take n) fun j v hj => by
          rw [List.getElem?_take] at hj
          split at hj
          · rw [List.getElem?_drop] at hj
            refine fO.sat (H := vJ e J b l0 fz :: l) (.of 0 rfl fun x hx => ⟨l0.toArray, e, fz, hx.1, by simpa using hj⟩) (s2.drew _)
          · cases hj
        rw [List.length_take, List.length_drop, Nat.min_eq_left (by omega)] at this
        simpa [Builtin.firstCells, hsz] using this
      obtain ⟨b', c', hw', rfl, rfl, hs'⟩ := grown ((l0.drop off).take n) (by rw [List.length_take, List.length_drop, Nat.min_eq_left (by omega)]) hg
      refine ⟨_, _, _, _, ?_, hw', UpW.star, hs'⟩
      simp [Builtin.append_, run_underlying ht, sizeOf, typeInfo, zeroValue, hi, hz, Builtin.lenOf, hroom, h63, h48, Question.forced, hold, hnews _ hd, newRow, grownCap]
      refine congrArg (fun x => w.drew.alloc (.cells x e)) ?_
      apply Array.ext'
      simp [List.append_assoc]
theorem vk {x y : Operand} {t e : Nat} {zs : List Value} {a a2 : Option Addr} {c c2 : Nat} {l m : List UInt8} {J : HA} (k : Nat) (ho : o.op = .call { callee := .builtin .append, args := #[x, y], argTypes := #[t, t] })
    (hx : ev E x = some (.slice a l.length c)) (hy : ev E y = some (.slice a2 m.length c2)) (ht : K.P.underlying t = some (.slice e)) (hE : Elt K.P e 1 1 zs) (hk : H[k]? = some J) (hW : Wrt e J a c) (hnc : l.length ≤ c) (hcm : c ≤ maxLen)
    (hr : Rds (H.eraseIdx k) a2 (ao m)) (hm : 0 < m.length) (hb : (l.length + m.length) * 1 ≤ 140737488355328) :
    RE K (Y := Option Addr × Nat × HA) o E H (fun y => .slice y.1 (l ++ m).length y.2.1) (fun y => pr (Wrt e y.2.2 y.1 y.2.1 ∧ (l ++ m).length ≤ y.2.1 ∧ y.2.1 ≤ maxLen) :: pr (UpW J y.2.2) :: H.set k y.2.2) :=
  gV (by rw [ho]; intro c h; cases h) fun a' w he s => by
    obtain ⟨i, z, hi, hz, hsz, hby, hzs⟩ := hE.info
    obtain ⟨a3, c3, J', w', hrun, hw, hu, s2⟩ := tA (t := t) (ty := o.type) (c2 := c2) (s.focus hk) hW hnc hcm ht hi hz hsz hby (by rw [hzs]; simpa using hE.len) (by rw [bT]) hr (oB m) hm (by omega)
    refine ⟨(a3, c3, J'), w', ?_, (Sat.unfocus hk s2).ent fun h x => ⟨fun _ => none, h, fun _ => .inl rfl, by funext i; simp [un], by rw [List.length_append]; exact hw, fun _ => none, h, fun _ => .inl rfl, by funext i; simp [un], hu, x⟩⟩
    rw [List.length_append]
    unfold execOp; simp only [ho]
    simp only [resolve, invoke, builtin, Sem.run_bind, Sem.run_pure, Result.andThen_ok, List.map_toArray, List.map_cons, List.map_nil, he.ev hx, he.ev hy, hrun]
end
end Go.Proofs.YtjkjlggbikeliaaGreatDoor

namespace Go.Proofs.YtjkjlggbikeliaaGreatDoor
set_option linter.unusedVariables false
set_option linter.unusedSimpArgs false
open Go.RowKit
theorem iV {n : Int} {b : UInt8} {cs : List Value} {bs : List UInt8} (h : (b.toNat : Int) = n) (t : cs = ao bs) : Value.int .u8 n :: cs = ao (b :: bs) := by
  subst h; subst t; rfl
theorem tW : ([] : List Value) = ao [] := rfl
section
variable {K : Cx} {R S Y : Type} {Q : dn R} {E : Env} {H : List HA} {opt : Option R} {ops : Array Oper} {rest : List Oper} {o : Oper}
theorem vV {x : Operand} {t : TypeId} {lo hi : Option Operand} {s : List UInt8} {vl vh : Option Value} {lo' hi' : Int} (ho : o.op = .slice t x lo hi none) (hx : ev E x = some (str s))
    (hl : lim E lo = some vl) (hh : lim E hi = some vh) (hu : K.P.underlying t = some .string)
    (h1 : (vh = none ∧ hi' = (s.length : Int)) ∨ ∃ k, vh = some (.int k hi')) (h2 : (vl = none ∧ lo' = 0) ∨ ∃ k, vl = some (.int k lo')) (hb : 0 ≤ lo' ∧ lo' ≤ hi' ∧ hi' ≤ (s.length : Int)) :
    RQ K o E H (str (cut s lo' hi')) := by
  obtain ⟨a, rfl⟩ := Int.eq_ofNat_of_zero_le hb.1
  obtain ⟨b, rfl⟩ := Int.eq_ofNat_of_zero_le (Int.le_trans hb.1 hb.2.1)
  have q := xd (K := K) (E := E) (H := H) (o := o) (s := s) (l := a) (h := b) ho hx hl hh hu (by rcases h1 with ⟨x, y⟩ | y; exact .inl ⟨x, by omega⟩; exact .inr y) (by rcases h2 with ⟨x, y⟩ | y; exact .inl ⟨x, by omega⟩; exact .inr y) (by omega) (by omega)
  simpa [cut] using q
end
/-! ### Functions of the library -/
theorem ye {P : Program} {W : World} {F : HA} {f : FuncId} {args : List Value} {R : Type} {r : R} {val : R → Unit → Value} (hC : ∀ w, Calls P f args.toArray w fun e w' => e = .returned (val r ()) ∧ w' = w) :
    Fn P W f args [] F (some r) val (fun _ _ => []) := fun r' hr w hs => by
  cases hr
  exact (hC w).mono fun e w' ⟨h1, h2⟩ => ⟨(), h1, by subst h2; exact hs⟩
theorem rK {P : Program} {W : World} {F : HA} {f : FuncId} {args : List Value} {R : Type} {r : R} {val : R → Unit → Value} (hC : ∀ w, Calls P f args.toArray w fun e w' => e = .returned (val r ()) ∧ Below w.heap.size w w') :
    Fn P W f args [] F (some r) val (fun _ _ => []) := fun r' hr w hs => by
  cases hr
  exact (hC w).mono fun e w' ⟨h1, h2⟩ => ⟨(), h1, hs.below h2⟩
theorem oZ {P : Program} {W : World} {F : HA} {f : FuncId} {args : List Value} {R Y : Type} {p : Prop} [Decidable p] {r : R} {val : R → Y → Value} {A : List HA} {B : R → Y → List HA} (h : p → Fn P W f args A F (some r) val B) :
    Fn P W f args A F (if p then some r else none) val B := fun r' hr w hs => by
  split at hr
  · rename_i hp; exact h hp r' hr w hs
  · cases hr
/-! ### What the library's variables hold -/
def kx (F : HA) (w : World) : Prop := ∃ a, F a ∧ ∀ j o, a j = some o → w.heap[j]? = some o
structure Glb (P : Program) (F : HA) : Prop where
  pow : ∀ w, kx F w → Lib.TabIs P w "internal/strconv.uint64pow10" .u64 Lib.pow10Tab
  syn : (P.globalNamed "strconv.ErrSyntax").isSome = true → ∀ w, kx F w → ∃ t p, w.var? P "strconv.ErrSyntax" = some #[.iface t p]
  rng : (P.globalNamed "strconv.ErrRange").isSome = true → ∀ w, kx F w → ∃ t p, w.var? P "strconv.ErrRange" = some #[.iface t p]
theorem kx.lend {F : HA} {l : List HA} {w : World} (k : Nat) (hk : l[k]? = some F) (h : kx (aN l) w) : kx F w := by
  obtain ⟨a, ha, e⟩ := h
  obtain ⟨b, hb, e'⟩ := jW l k F hk a ha
  exact ⟨b, hb, fun j o x => e j o (e' j o x)⟩
theorem Glb.lend {P : Program} {F : HA} {l : List HA} (h : Glb P F) (k : Nat) (hk : l[k]? = some F) : Glb P (aN l) :=
  ⟨fun w x => h.pow w (x.lend k hk), fun e w x => h.syn e w (x.lend k hk), fun e w x => h.rng e w (x.lend k hk)⟩
theorem Sat.holds {W w : World} {l : List HA} {F : HA} (s : Sat W (l ++ [F]) w) : kx F w := s.at (i := l.length) (by simp)
theorem uQ (w : World) (k : Nat) (os : Array Obj) : Below w.heap.size w (Sort.grow (w.drewN k) os) := by
  refine ⟨rfl, rfl, rfl, by simp [Sort.grow, World.drewN], fun j hj => ?_⟩
  show (w.heap ++ os)[j]? = _
  rw [Array.getElem?_append_left hj]
theorem yf {P : Program} {W : World} {F : HA} {f : FuncId} {args : List Value} {n : Int} (hg : Glb P F)
    (hC : ∀ w, Lib.TabIs P w "internal/strconv.uint64pow10" .u64 Lib.pow10Tab → Calls P f args.toArray w fun e w' => e = .returned (.string ⟨(Lib.itoa n).toArray⟩) ∧ ∃ k os, w' = Sort.grow (w.drewN k) os) :
    Fn P W f args [] F (some (Lib.itoa n)) (fun (r : List UInt8) (_ : Unit) => str r) (fun _ _ => []) := fun r' hr w hs => by
  cases hr
  exact (hC w (hg.pow w hs.holds)).mono fun e w' ⟨h1, k, os, h2⟩ => ⟨(), h1, by subst h2; exact hs.below (uQ w k os)⟩
def rm (ok : Bool) (T : TypeId) (y : Nat) : Value := match ok with
  | true => .nilIface
  | false => .iface T (.pointer (some ⟨y, 0, none⟩))
section
variable {K : Cx} {E : Env} {H : List HA} {o : Oper}
end
end Go.Proofs.YtjkjlggbikeliaaGreatDoor

namespace Go.Proofs.YtjkjlggbikeliaaGreatDoor
set_option linter.unusedVariables false
set_option linter.unusedSimpArgs false
open Go.RowKit
theorem Ent.perm {l m : List HA} (p : l.Perm m) : Ent l m := by
  induction p with
  | nil => exact Ent.refl _
  | cons a _ ih => exact Ent.cons ih
  | swap a b l => exact Ent.sel 1 rfl (Ent.refl _)
  | trans _ _ ih1 ih2 => exact ih1.trans ih2
def kG (γ : Nat → Nat) (i z : Nat) : Nat → Nat := fun j => if Nat.beq j i then z else γ j
section
variable {K : Cx} {R S Y : Type} {Q : dn R} {E : Env} {H : List HA} {o : Option R}
def zu (K : Cx) (ops : Array Oper) (anc : List (List Nat)) (val : (Nat → Nat) → Nat → Value) (add : (Nat → Nat) → Nat → List HA) (E : Env) (H X : List HA) (i : Nat) (pre : List Nat) (γ : Nat → Nat) : Prop :=
  ∃ op, ops[i]? = some op ∧ ∃ Ei, dM ops anc (val γ) E i Ei ∧ GOk ops op Ei ∧
    (∀ z, hJ pre (val (kG γ i z)) (val γ) ∧ All pre fun q => add (kG γ i z) q = add γ q) ∧
    RE K (Y := Nat) op Ei (H ++ X) (fun z => val (kG γ i z) i) (fun z => H ++ (add (kG γ i z) i ++ X))
theorem zu.mk {ops : Array Oper} {anc : List (List Nat)} {Z : Type} {val : (Nat → Nat) → Nat → Value} {add : (Nat → Nat) → Nat → List HA} {X : List HA} {i : Nat} {pre : List Nat} {γ : Nat → Nat} {op : Oper} {v : Z → Value} {H' : Z → List HA} (Ei : Env) (f : Z → Nat) (ho : ops[i]? = some op) (hg : op.guard = none) (he : dM ops anc (val γ) E i Ei)
    (ha : ∀ z, hJ pre (val (kG γ i z)) (val γ)) (hb : ∀ z, All pre fun q => add (kG γ i z) q = add γ q)
    (h : RE K (Y := Z) op Ei (H ++ X) v H') (hv : ∀ z, op.dst = none ∨ v z = val (kG γ i (f z)) i) (hH : ∀ z, Ent (H' z) (H ++ (add (kG γ i (f z)) i ++ X))) : zu K ops anc val add E H X i pre γ :=
  ⟨op, ho, Ei, he, .inl hg, fun z => ⟨ha z, hb z⟩, fun a w hh hs next Q hn => h a w hh hs next Q fun z w' s => by
    have := hn (f z) w' (s.ent (hH z))
    rcases hv z with e | e
    · rw [e] at this ⊢; exact this
    · rw [e]; exact this⟩
end
/-! ### Functions in cells -/
abbrev fnV (x : Option Nat) : Value := match x with
  | none => .nilFunc
  | some f => .func (.func f) #[] #[]
section
variable {K : Cx} {E : Env} {H : List HA} {o : Oper}
theorem kV {v v' : Value} (e : v' = v) (h : RQ K o E H v) : RQ K o E H v' := by subst e; exact h
end
end Go.Proofs.YtjkjlggbikeliaaGreatDoor

namespace Go.Proofs.YtjkjlggbikeliaaGreatDoor
open Go.RowKit Go.Maps Go.Sort Go.Shelf
set_option linter.unusedVariables false
def ly : Go.Shelf.Ren := ⟨fun | 6 => 84 | 8 => 129 | 9 => 130 | 11 => 168 | 13 => 170 | 12 => 169 | 23 => 195 | 24 => 182 | 14 => 186 | 15 => 187 | 16 => 188 | 17 => 189 | 18 => 190 | 19 => 191 | 20 => 192 | 21 => 193 | 22 => 194 | 25 => 205 | 26 => 206 | 27 => 207 | 28 => 208 | 29 => 209 | 30 => 210 | 31 => 212 | n => n, fun | 26 => 9 | 28 => 135 | 24 => 90 | 0 => 0 | 3 => 3 | 37 => 123 | 48 => 170 | 50 => 111 | 4 => 4 | 40 => 233 | 39 => 232 | 45 => 59 | 5 => 5 | 9 => 9 | 51 => 250 | 55 => 254 | 57 => 258 | 58 => 97 | 33 => 116 | n => n, fun | n => n⟩
theorem tz : Go.Proofs.SlLaysZ.n6 Tryz.prog ly := {
  mixed := by kernel_rfl
  f6 := ⟨Tryz.f84.name, by decide, Tryz.func84.trans (congrArg some (by kernel_rfl))⟩
  f8 := ⟨Tryz.f129.name, by decide, Tryz.func129.trans (congrArg some (by kernel_rfl))⟩
  f11 := ⟨Tryz.f168.name, by decide, Tryz.func168.trans (congrArg some (by kernel_rfl))⟩
  t0 := Tryz.underlying0
  a0 := Tryz.isAgg0
  z0 := Tryz.sizeOf0
  v0 := Tryz.zeroValue0
  t24 := Tryz.underlying90
  a24 := Tryz.isAgg90
  z24 := Tryz.sizeOf90
  v24 := Tryz.zeroValue90
  t26 := Tryz.underlying9
  a26 := Tryz.isAgg9
  z26 := Tryz.sizeOf9
  v26 := Tryz.zeroValue9
  t28 := Tryz.underlying135
  a28 := Tryz.isAgg135
  z28 := Tryz.sizeOf135
  v28 := Tryz.zeroValue135
  i26 := by kernel_rfl }
def mB : Go.Shelf.Ren := ⟨fun | 10 => 131 | n => n, fun | 33 => 116 | 23 => 74 | 0 => 0 | 4 => 4 | 26 => 9 | 3 => 87 | n => n, fun | n => n⟩
theorem wH : Go.Proofs.SlLaysZ.n10 Tryz.prog mB := {
  mixed := by kernel_rfl
  f10 := ⟨Tryz.f131.name, by decide, Tryz.func131.trans (congrArg some (by kernel_rfl))⟩
  t0 := Tryz.underlying0
  a0 := Tryz.isAgg0
  z0 := Tryz.sizeOf0
  v0 := Tryz.zeroValue0
  t4 := Tryz.underlying4
  a4 := Tryz.isAgg4
  z4 := Tryz.sizeOf4
  v4 := Tryz.zeroValue4
  t23 := Tryz.underlying74
  a23 := Tryz.isAgg74
  z23 := Tryz.sizeOf74
  v23 := Tryz.zeroValue74
  t26 := Tryz.underlying9
  a26 := Tryz.isAgg9
  z26 := Tryz.sizeOf9
  v26 := Tryz.zeroValue9
  t33 := Tryz.underlying116
  a33 := Tryz.isAgg116
  z33 := Tryz.sizeOf116
  v33 := Tryz.zeroValue116 }
def qW : Go.Shelf.Ren := ⟨fun | 6 => 130 | 8 => 170 | 9 => 169 | 19 => 195 | 20 => 182 | 21 => 186 | 22 => 187 | 23 => 188 | 24 => 189 | 25 => 190 | 26 => 191 | 27 => 192 | 28 => 193 | 29 => 194 | 36 => 205 | 31 => 206 | 32 => 207 | 37 => 208 | 38 => 209 | 39 => 210 | 41 => 212 | n => n, fun | 27 => 90 | 29 => 9 | 3 => 3 | 32 => 123 | 26 => 90 | 0 => 0 | 44 => 170 | 46 => 111 | 4 => 4 | 36 => 233 | 35 => 232 | 41 => 59 | 5 => 5 | 9 => 9 | 53 => 250 | 57 => 254 | 63 => 258 | 64 => 97 | n => n, fun | n => n⟩
theorem qM : Go.Proofs.SlLaysM.n6 Tryz.prog qW := {
  mixed := by kernel_rfl
  f6 := ⟨Tryz.f130.name, by decide, Tryz.func130.trans (congrArg some (by kernel_rfl))⟩
  f8 := Tryz.func170.trans (congrArg some (by kernel_rfl))
  f9 := ⟨Tryz.f169.name, by decide, Tryz.func169.trans (congrArg some (by kernel_rfl))⟩
  f19 := Tryz.func195.trans (congrArg some (by kernel_rfl))
  f20 := Tryz.func182.trans (congrArg some (by kernel_rfl))
  f21 := ⟨Tryz.f186.name, by decide, Tryz.func186.trans (congrArg some (by kernel_rfl))⟩
  f22 := ⟨Tryz.f187.name, by decide, Tryz.func187.trans (congrArg some (by kernel_rfl))⟩
  f23 := ⟨Tryz.f188.name, by decide, Tryz.func188.trans (congrArg some (by kernel_rfl))⟩
  f24 := ⟨Tryz.f189.name, by decide, Tryz.func189.trans (congrArg some (by kernel_rfl))⟩
  f25 := ⟨Tryz.f190.name, by decide, Tryz.func190.trans (congrArg some (by kernel_rfl))⟩
  f26 := ⟨Tryz.f191.name, by decide, Tryz.func191.trans (congrArg some (by kernel_rfl))⟩
  f27 := ⟨Tryz.f192.name, by decide, Tryz.func192.trans (congrArg some (by kernel_rfl))⟩
  f28 := ⟨Tryz.f193.name, by decide, Tryz.func193.trans (congrArg some (by kernel_rfl))⟩
  f29 := ⟨Tryz.f194.name, by decide, Tryz.func194.trans (congrArg some (by kernel_rfl))⟩
  f31 := Tryz.func206.trans (congrArg some (by kernel_rfl))
  f32 := Tryz.func207.trans (congrArg some (by kernel_rfl))
  f36 := ⟨Tryz.f205.name, by decide, Tryz.func205.trans (congrArg some (by kernel_rfl))⟩
  f37 := ⟨Tryz.f208.name, by decide, Tryz.func208.trans (congrArg some (by kernel_rfl))⟩
  f38 := ⟨Tryz.f209.name, by decide, Tryz.func209.trans (congrArg some (by kernel_rfl))⟩
  f39 := ⟨Tryz.f210.name, by decide, Tryz.func210.trans (congrArg some (by kernel_rfl))⟩
  f41 := ⟨Tryz.f212.name, by decide, Tryz.func212.trans (congrArg some (by kernel_rfl))⟩
  t0 := Tryz.underlying0
  a0 := Tryz.isAgg0
  z0 := Tryz.sizeOf0
  v0 := Tryz.zeroValue0
  t3 := Tryz.underlying3
  a3 := Tryz.isAgg3
  z3 := Tryz.sizeOf3
  v3 := Tryz.zeroValue3
  t4 := Tryz.underlying4
  a4 := Tryz.isAgg4
  z4 := Tryz.sizeOf4
  v4 := Tryz.zeroValue4
  t5 := Tryz.underlying5
  a5 := Tryz.isAgg5
  z5 := Tryz.sizeOf5
  v5 := Tryz.zeroValue5
  t9 := Tryz.underlying9
  a9 := Tryz.isAgg9
  z9 := Tryz.sizeOf9
  v9 := Tryz.zeroValue9
  t26 := Tryz.underlying90
  a26 := Tryz.isAgg90
  z26 := Tryz.sizeOf90
  v26 := Tryz.zeroValue90
  t27 := Tryz.underlying90
  a27 := Tryz.isAgg90
  z27 := Tryz.sizeOf90
  v27 := Tryz.zeroValue90
  t29 := Tryz.underlying9
  a29 := Tryz.isAgg9
  z29 := Tryz.sizeOf9
  v29 := Tryz.zeroValue9
  t32 := Tryz.underlying123
  a32 := Tryz.isAgg123
  z32 := Tryz.sizeOf123
  v32 := Tryz.zeroValue123
  t35 := Tryz.underlying232
  a35 := Tryz.isAgg232
  z35 := Tryz.sizeOf232
  v35 := Tryz.zeroValue232
  t36 := Tryz.underlying233
  a36 := Tryz.isAgg233
  z36 := Tryz.sizeOf233
  v36 := Tryz.zeroValue233
  t41 := Tryz.underlying59
  a41 := Tryz.isAgg59
  z41 := Tryz.sizeOf59
  v41 := Tryz.zeroValue59
  t44 := Tryz.underlying170
  a44 := Tryz.isAgg170
  z44 := Tryz.sizeOf170
  v44 := Tryz.zeroValue170
  t46 := Tryz.underlying111
  a46 := Tryz.isAgg111
  z46 := Tryz.sizeOf111
  v46 := Tryz.zeroValue111
  t53 := Tryz.underlying250
  a53 := Tryz.isAgg250
  z53 := Tryz.sizeOf250
  v53 := Tryz.zeroValue250
  t57 := Tryz.underlying254
  a57 := Tryz.isAgg254
  z57 := Tryz.sizeOf254
  v57 := Tryz.zeroValue254
  t63 := Tryz.underlying258
  a63 := Tryz.isAgg258
  z63 := Tryz.sizeOf258
  v63 := Tryz.zeroValue258
  t64 := Tryz.underlying97
  a64 := Tryz.isAgg97
  z64 := Tryz.sizeOf97
  v64 := Tryz.zeroValue97 }
def vF : Go.Shelf.Ren := ⟨fun | 206 => 126 | n => n, fun | 9 => 9 | 4 => 4 | 3 => 3 | n => n, fun | n => n⟩
theorem yZ : Go.Proofs.Lays.n206 Tryz.prog vF := {
  mixed := by kernel_rfl
  f206 := Tryz.func126.trans (congrArg some (by kernel_rfl))
  t3 := Tryz.underlying3
  a3 := Tryz.isAgg3
  z3 := Tryz.sizeOf3
  v3 := Tryz.zeroValue3
  t4 := Tryz.underlying4
  a4 := Tryz.isAgg4
  z4 := Tryz.sizeOf4
  v4 := Tryz.zeroValue4
  t9 := Tryz.underlying9
  a9 := Tryz.isAgg9
  z9 := Tryz.sizeOf9
  v9 := Tryz.zeroValue9 }
def vG : Go.Shelf.Ren := ⟨fun | 160 => 66 | 232 => 107 | 231 => 106 | 227 => 108 | 234 => 110 | 233 => 109 | 236 => 112 | 235 => 111 | 228 => 150 | 271 => 153 | 151 => 152 | 197 => 151 | 120 => 178 | 152 => 177 | 260 => 176 | 137 => 199 | 119 => 200 | 224 => 201 | 225 => 202 | 217 => 211 | 266 => 213 | n => n, fun | 9 => 9 | 4 => 4 | 3 => 3 | 5 => 5 | 117 => 155 | 116 => 154 | 0 => 0 | 124 => 158 | 21 => 21 | 105 => 198 | 46 => 123 | 119 => 241 | 139 => 244 | 138 => 243 | n => n, fun | 3 => 4 | 4 => 5 | n => n⟩
theorem za : Go.Proofs.Lays.n160 Tryz.prog vG := {
  mixed := by kernel_rfl
  f119 := Tryz.func200.trans (congrArg some (by kernel_rfl))
  f120 := Tryz.func178.trans (congrArg some (by kernel_rfl))
  f137 := Tryz.func199.trans (congrArg some (by kernel_rfl))
  f151 := Tryz.func152.trans (congrArg some (by kernel_rfl))
  f152 := Tryz.func177.trans (congrArg some (by kernel_rfl))
  f160 := Tryz.func66.trans (congrArg some (by kernel_rfl))
  f197 := Tryz.func151.trans (congrArg some (by kernel_rfl))
  f217 := Tryz.func211.trans (congrArg some (by kernel_rfl))
  f224 := Tryz.func201.trans (congrArg some (by kernel_rfl))
  f225 := Tryz.func202.trans (congrArg some (by kernel_rfl))
  f227 := Tryz.func108.trans (congrArg some (by kernel_rfl))
  f228 := Tryz.func150.trans (congrArg some (by kernel_rfl))
  f231 := Tryz.func106.trans (congrArg some (by kernel_rfl))
  f232 := Tryz.func107.trans (congrArg some (by kernel_rfl))
  f233 := Tryz.func109.trans (congrArg some (by kernel_rfl))
  f234 := Tryz.func110.trans (congrArg some (by kernel_rfl))
  f235 := Tryz.func111.trans (congrArg some (by kernel_rfl))
  f236 := Tryz.func112.trans (congrArg some (by kernel_rfl))
  f260 := Tryz.func176.trans (congrArg some (by kernel_rfl))
  f266 := Tryz.func213.trans (congrArg some (by kernel_rfl))
  f271 := Tryz.func153.trans (congrArg some (by kernel_rfl))
  t0 := Tryz.underlying0
  a0 := Tryz.isAgg0
  z0 := Tryz.sizeOf0
  v0 := Tryz.zeroValue0
  t3 := Tryz.underlying3
  a3 := Tryz.isAgg3
  z3 := Tryz.sizeOf3
  v3 := Tryz.zeroValue3
  t4 := Tryz.underlying4
  a4 := Tryz.isAgg4
  z4 := Tryz.sizeOf4
  v4 := Tryz.zeroValue4
  t5 := Tryz.underlying5
  a5 := Tryz.isAgg5
  z5 := Tryz.sizeOf5
  v5 := Tryz.zeroValue5
  t9 := Tryz.underlying9
  a9 := Tryz.isAgg9
  z9 := Tryz.sizeOf9
  v9 := Tryz.zeroValue9
  t21 := Tryz.underlying21
  a21 := Tryz.isAgg21
  z21 := Tryz.sizeOf21
  v21 := Tryz.zeroValue21
  t46 := Tryz.underlying123
  a46 := Tryz.isAgg123
  z46 := Tryz.sizeOf123
  v46 := Tryz.zeroValue123
  t105 := Tryz.underlying198
  a105 := Tryz.isAgg198
  z105 := Tryz.sizeOf198
  v105 := Tryz.zeroValue198
  t116 := Tryz.underlying154
  a116 := Tryz.isAgg154
  z116 := Tryz.sizeOf154
  t117 := Tryz.underlying155
  a117 := Tryz.isAgg155
  z117 := Tryz.sizeOf155
  v117 := Tryz.zeroValue155
  t119 := Tryz.underlying241
  a119 := Tryz.isAgg241
  z119 := Tryz.sizeOf241
  t124 := Tryz.underlying158
  a124 := Tryz.isAgg158
  z124 := Tryz.sizeOf158
  v124 := Tryz.zeroValue158
  t138 := Tryz.underlying243
  a138 := Tryz.isAgg243
  z138 := Tryz.sizeOf243
  v138 := Tryz.zeroValue243
  t139 := Tryz.underlying244
  a139 := Tryz.isAgg244
  z139 := Tryz.sizeOf244
  v139 := Tryz.zeroValue244
  g3 := by kernel_rfl
  g4 := by kernel_rfl }
def wJ : Go.Shelf.Ren := ⟨fun | 14 => 67 | 16 => 113 | 17 => 114 | 19 => 154 | 20 => 155 | 21 => 156 | 22 => 157 | 23 => 158 | 24 => 159 | 25 => 179 | 27 => 43 | 26 => 180 | 28 => 77 | 29 => 123 | 30 => 162 | 31 => 163 | 32 => 164 | 33 => 165 | 35 => 182 | 34 => 181 | 36 => 183 | 37 => 184 | 38 => 185 | 39 => 203 | 40 => 204 | n => n, fun | 9 => 9 | 3 => 3 | 22 => 111 | 24 => 113 | 25 => 114 | 4 => 4 | 34 => 201 | 5 => 5 | 36 => 123 | 37 => 25 | 0 => 0 | 39 => 203 | 21 => 21 | 44 => 225 | 47 => 177 | 50 => 249 | 48 => 247 | 2 => 2 | 52 => 206 | 55 => 209 | 59 => 228 | 60 => 170 | 20 => 20 | 61 => 229 | 65 => 256 | 66 => 257 | 67 => 132 | n => n, fun | 0 => 0 | 1 => 1 | 2 => 2 | 3 => 6 | 4 => 7 | n => n⟩
theorem uT : Go.Proofs.LaysPu.n14 Tryz.prog wJ := {
  mixed := by kernel_rfl
  f14 := Tryz.func67.trans (congrArg some (by kernel_rfl))
  f16 := Tryz.func113.trans (congrArg some (by kernel_rfl))
  f17 := Tryz.func114.trans (congrArg some (by kernel_rfl))
  f19 := Tryz.func154.trans (congrArg some (by kernel_rfl))
  f20 := Tryz.func155.trans (congrArg some (by kernel_rfl))
  f21 := Tryz.func156.trans (congrArg some (by kernel_rfl))
  f22 := Tryz.func157.trans (congrArg some (by kernel_rfl))
  f23 := Tryz.func158.trans (congrArg some (by kernel_rfl))
  f24 := Tryz.func159.trans (congrArg some (by kernel_rfl))
  f25 := Tryz.func179.trans (congrArg some (by kernel_rfl))
  f26 := Tryz.func180.trans (congrArg some (by kernel_rfl))
  f27 := Tryz.func43.trans (congrArg some (by kernel_rfl))
  f28 := Tryz.func77.trans (congrArg some (by kernel_rfl))
  f29 := Tryz.func123.trans (congrArg some (by kernel_rfl))
  f30 := Tryz.func162.trans (congrArg some (by kernel_rfl))
  f31 := Tryz.func163.trans (congrArg some (by kernel_rfl))
  f32 := Tryz.func164.trans (congrArg some (by kernel_rfl))
  f33 := Tryz.func165.trans (congrArg some (by kernel_rfl))
  f34 := Tryz.func181.trans (congrArg some (by kernel_rfl))
  f35 := Tryz.func182.trans (congrArg some (by kernel_rfl))
  f36 := Tryz.func183.trans (congrArg some (by kernel_rfl))
  f37 := Tryz.func184.trans (congrArg some (by kernel_rfl))
  f38 := Tryz.func185.trans (congrArg some (by kernel_rfl))
  f39 := Tryz.func203.trans (congrArg some (by kernel_rfl))
  f40 := Tryz.func204.trans (congrArg some (by kernel_rfl))
  t0 := Tryz.underlying0
  a0 := Tryz.isAgg0
  z0 := Tryz.sizeOf0
  v0 := Tryz.zeroValue0
  i0 := by kernel_rfl
  t2 := Tryz.underlying2
  a2 := Tryz.isAgg2
  z2 := Tryz.sizeOf2
  v2 := Tryz.zeroValue2
  i2 := by kernel_rfl
  t3 := Tryz.underlying3
  a3 := Tryz.isAgg3
  z3 := Tryz.sizeOf3
  v3 := Tryz.zeroValue3
  i3 := by kernel_rfl
  t4 := Tryz.underlying4
  a4 := Tryz.isAgg4
  z4 := Tryz.sizeOf4
  v4 := Tryz.zeroValue4
  i4 := by kernel_rfl
  t5 := Tryz.underlying5
  a5 := Tryz.isAgg5
  z5 := Tryz.sizeOf5
  v5 := Tryz.zeroValue5
  i5 := by kernel_rfl
  t9 := Tryz.underlying9
  a9 := Tryz.isAgg9
  z9 := Tryz.sizeOf9
  v9 := Tryz.zeroValue9
  i9 := by kernel_rfl
  t20 := Tryz.underlying20
  a20 := Tryz.isAgg20
  z20 := Tryz.sizeOf20
  v20 := Tryz.zeroValue20
  i20 := by kernel_rfl
  t21 := Tryz.underlying21
  a21 := Tryz.isAgg21
  z21 := Tryz.sizeOf21
  v21 := Tryz.zeroValue21
  i21 := by kernel_rfl
  t22 := Tryz.underlying111
  a22 := Tryz.isAgg111
  z22 := Tryz.sizeOf111
  v22 := Tryz.zeroValue111
  i22 := by kernel_rfl
  t24 := Tryz.underlying113
  a24 := Tryz.isAgg113
  z24 := Tryz.sizeOf113
  v24 := Tryz.zeroValue113
  i24 := by kernel_rfl
  t25 := Tryz.underlying114
  a25 := Tryz.isAgg114
  z25 := Tryz.sizeOf114
  v25 := Tryz.zeroValue114
  i25 := by kernel_rfl
  t34 := Tryz.underlying201
  a34 := Tryz.isAgg201
  z34 := Tryz.sizeOf201
  v34 := Tryz.zeroValue201
  i34 := by kernel_rfl
  c34 := by kernel_rfl
  t36 := Tryz.underlying123
  a36 := Tryz.isAgg123
  z36 := Tryz.sizeOf123
  v36 := Tryz.zeroValue123
  i36 := by kernel_rfl
  t37 := Tryz.underlying25
  a37 := Tryz.isAgg25
  z37 := Tryz.sizeOf25
  v37 := Tryz.zeroValue25
  i37 := by kernel_rfl
  t39 := Tryz.underlying203
  a39 := Tryz.isAgg203
  z39 := Tryz.sizeOf203
  v39 := Tryz.zeroValue203
  i39 := by kernel_rfl
  t44 := Tryz.underlying225
  a44 := Tryz.isAgg225
  z44 := Tryz.sizeOf225
  v44 := Tryz.zeroValue225
  i44 := by kernel_rfl
  t47 := Tryz.underlying177
  a47 := Tryz.isAgg177
  z47 := Tryz.sizeOf177
  v47 := Tryz.zeroValue177
  i47 := by kernel_rfl
  t48 := Tryz.underlying247
  a48 := Tryz.isAgg247
  z48 := Tryz.sizeOf247
  v48 := Tryz.zeroValue247
  i48 := by kernel_rfl
  t50 := Tryz.underlying249
  a50 := Tryz.isAgg249
  z50 := Tryz.sizeOf249
  v50 := Tryz.zeroValue249
  i50 := by kernel_rfl
  t52 := Tryz.underlying206
  a52 := Tryz.isAgg206
  z52 := Tryz.sizeOf206
  v52 := Tryz.zeroValue206
  i52 := by kernel_rfl
  t55 := Tryz.underlying209
  a55 := Tryz.isAgg209
  z55 := Tryz.sizeOf209
  v55 := Tryz.zeroValue209
  i55 := by kernel_rfl
  t59 := Tryz.underlying228
  a59 := Tryz.isAgg228
  z59 := Tryz.sizeOf228
  v59 := Tryz.zeroValue228
  i59 := by kernel_rfl
  t60 := Tryz.underlying170
  a60 := Tryz.isAgg170
  z60 := Tryz.sizeOf170
  v60 := Tryz.zeroValue170
  i60 := by kernel_rfl
  t61 := Tryz.underlying229
  a61 := Tryz.isAgg229
  z61 := Tryz.sizeOf229
  t65 := Tryz.underlying256
  a65 := Tryz.isAgg256
  z65 := Tryz.sizeOf256
  v65 := Tryz.zeroValue256
  i65 := by kernel_rfl
  t66 := Tryz.underlying257
  a66 := Tryz.isAgg257
  z66 := Tryz.sizeOf257
  v66 := Tryz.zeroValue257
  i66 := by kernel_rfl
  t67 := Tryz.underlying132
  a67 := Tryz.isAgg132
  z67 := Tryz.sizeOf132
  v67 := Tryz.zeroValue132
  i67 := by kernel_rfl
  g0 := by kernel_rfl
  m0 := by kernel_rfl
  g1 := by kernel_rfl
  m1 := by kernel_rfl
  g2 := by kernel_rfl
  m2 := by kernel_rfl
  g3 := by kernel_rfl
  m3 := by kernel_rfl
  g4 := by kernel_rfl
  m4 := by kernel_rfl }
def vH : Go.Shelf.Ren := ⟨fun | 171 => 43 | 243 => 77 | 246 => 123 | 283 => 162 | 284 => 163 | 285 => 164 | 286 => 165 | 129 => 182 | 317 => 181 | 318 => 183 | 319 => 184 | 320 => 185 | 337 => 203 | 338 => 204 | n => n, fun | 3 => 3 | 9 => 9 | 2 => 2 | 4 => 4 | 171 => 206 | 0 => 0 | 53 => 111 | 37 => 25 | 5 => 5 | 173 => 209 | 212 => 228 | 51 => 170 | 20 => 20 | 213 => 229 | 46 => 123 | 232 => 256 | 233 => 257 | n => n, fun | 17 => 2 | 18 => 6 | 19 => 7 | n => n⟩
theorem zb : Go.Proofs.LaysM.n171 Tryz.prog vH := {
  mixed := by kernel_rfl
  f129 := Tryz.func182.trans (congrArg some (by kernel_rfl))
  f171 := Tryz.func43.trans (congrArg some (by kernel_rfl))
  f243 := Tryz.func77.trans (congrArg some (by kernel_rfl))
  f246 := Tryz.func123.trans (congrArg some (by kernel_rfl))
  f283 := Tryz.func162.trans (congrArg some (by kernel_rfl))
  f284 := Tryz.func163.trans (congrArg some (by kernel_rfl))
  f285 := Tryz.func164.trans (congrArg some (by kernel_rfl))
  f286 := Tryz.func165.trans (congrArg some (by kernel_rfl))
  f317 := Tryz.func181.trans (congrArg some (by kernel_rfl))
  f318 := Tryz.func183.trans (congrArg some (by kernel_rfl))
  f319 := Tryz.func184.trans (congrArg some (by kernel_rfl))
  f320 := Tryz.func185.trans (congrArg some (by kernel_rfl))
  f337 := Tryz.func203.trans (congrArg some (by kernel_rfl))
  f338 := Tryz.func204.trans (congrArg some (by kernel_rfl))
  t0 := Tryz.underlying0
  a0 := Tryz.isAgg0
  z0 := Tryz.sizeOf0
  v0 := Tryz.zeroValue0
  t2 := Tryz.underlying2
  a2 := Tryz.isAgg2
  z2 := Tryz.sizeOf2
  v2 := Tryz.zeroValue2
  t3 := Tryz.underlying3
  a3 := Tryz.isAgg3
  z3 := Tryz.sizeOf3
  v3 := Tryz.zeroValue3
  t4 := Tryz.underlying4
  a4 := Tryz.isAgg4
  z4 := Tryz.sizeOf4
  v4 := Tryz.zeroValue4
  t5 := Tryz.underlying5
  a5 := Tryz.isAgg5
  z5 := Tryz.sizeOf5
  v5 := Tryz.zeroValue5
  t9 := Tryz.underlying9
  a9 := Tryz.isAgg9
  z9 := Tryz.sizeOf9
  v9 := Tryz.zeroValue9
  t20 := Tryz.underlying20
  a20 := Tryz.isAgg20
  z20 := Tryz.sizeOf20
  v20 := Tryz.zeroValue20
  t37 := Tryz.underlying25
  a37 := Tryz.isAgg25
  z37 := Tryz.sizeOf25
  v37 := Tryz.zeroValue25
  t46 := Tryz.underlying123
  a46 := Tryz.isAgg123
  z46 := Tryz.sizeOf123
  v46 := Tryz.zeroValue123
  t51 := Tryz.underlying170
  a51 := Tryz.isAgg170
  z51 := Tryz.sizeOf170
  v51 := Tryz.zeroValue170
  t53 := Tryz.underlying111
  a53 := Tryz.isAgg111
  z53 := Tryz.sizeOf111
  v53 := Tryz.zeroValue111
  t171 := Tryz.underlying206
  a171 := Tryz.isAgg206
  z171 := Tryz.sizeOf206
  v171 := Tryz.zeroValue206
  t173 := Tryz.underlying209
  a173 := Tryz.isAgg209
  z173 := Tryz.sizeOf209
  v173 := Tryz.zeroValue209
  t212 := Tryz.underlying228
  a212 := Tryz.isAgg228
  z212 := Tryz.sizeOf228
  v212 := Tryz.zeroValue228
  t213 := Tryz.underlying229
  a213 := Tryz.isAgg229
  z213 := Tryz.sizeOf229
  t232 := Tryz.underlying256
  a232 := Tryz.isAgg256
  z232 := Tryz.sizeOf256
  v232 := Tryz.zeroValue256
  t233 := Tryz.underlying257
  a233 := Tryz.isAgg257
  z233 := Tryz.sizeOf257
  v233 := Tryz.zeroValue257
  g17 := by kernel_rfl
  g18 := by kernel_rfl
  g19 := by kernel_rfl
  i0 := by kernel_rfl
  i2 := by kernel_rfl
  i3 := by kernel_rfl
  i4 := by kernel_rfl
  i5 := by kernel_rfl
  i9 := by kernel_rfl
  i20 := by kernel_rfl
  i37 := by kernel_rfl
  i46 := by kernel_rfl
  i51 := by kernel_rfl
  i53 := by kernel_rfl
  i171 := by kernel_rfl
  i173 := by kernel_rfl
  i212 := by kernel_rfl
  i232 := by kernel_rfl
  i233 := by kernel_rfl
  m17 := by kernel_rfl
  m18 := by kernel_rfl
  m19 := by kernel_rfl }
def pB : Go.Shelf.Ren := ⟨fun | 105 => 44 | 212 => 78 | 99 => 79 | 165 => 80 | 166 => 81 | 170 => 82 | 169 => 83 | 263 => 124 | 264 => 125 | 206 => 126 | 240 => 127 | 241 => 128 | 276 => 166 | 277 => 167 | n => n, fun | 9 => 9 | 3 => 3 | 4 => 4 | 20 => 20 | 0 => 0 | 46 => 123 | 109 => 124 | 5 => 5 | 72 => 129 | 76 => 130 | 51 => 170 | 146 => 173 | 53 => 111 | 148 => 175 | 70 => 127 | 37 => 25 | 75 => 113 | 127 => 177 | 164 => 211 | 80 => 132 | n => n, fun | n => n⟩
theorem mJ : Go.Proofs.Lays.n105 Tryz.prog pB := {
  mixed := by kernel_rfl
  f99 := Tryz.func79.trans (congrArg some (by kernel_rfl))
  f105 := Tryz.func44.trans (congrArg some (by kernel_rfl))
  f165 := Tryz.func80.trans (congrArg some (by kernel_rfl))
  f166 := Tryz.func81.trans (congrArg some (by kernel_rfl))
  f169 := Tryz.func83.trans (congrArg some (by kernel_rfl))
  f170 := Tryz.func82.trans (congrArg some (by kernel_rfl))
  f206 := Tryz.func126.trans (congrArg some (by kernel_rfl))
  f212 := Tryz.func78.trans (congrArg some (by kernel_rfl))
  f240 := Tryz.func127.trans (congrArg some (by kernel_rfl))
  f241 := Tryz.func128.trans (congrArg some (by kernel_rfl))
  f263 := Tryz.func124.trans (congrArg some (by kernel_rfl))
  f264 := Tryz.func125.trans (congrArg some (by kernel_rfl))
  f276 := Tryz.func166.trans (congrArg some (by kernel_rfl))
  f277 := Tryz.func167.trans (congrArg some (by kernel_rfl))
  t0 := Tryz.underlying0
  a0 := Tryz.isAgg0
  z0 := Tryz.sizeOf0
  v0 := Tryz.zeroValue0
  t3 := Tryz.underlying3
  a3 := Tryz.isAgg3
  z3 := Tryz.sizeOf3
  v3 := Tryz.zeroValue3
  t4 := Tryz.underlying4
  a4 := Tryz.isAgg4
  z4 := Tryz.sizeOf4
  v4 := Tryz.zeroValue4
  t5 := Tryz.underlying5
  a5 := Tryz.isAgg5
  z5 := Tryz.sizeOf5
  v5 := Tryz.zeroValue5
  t9 := Tryz.underlying9
  a9 := Tryz.isAgg9
  z9 := Tryz.sizeOf9
  v9 := Tryz.zeroValue9
  t20 := Tryz.underlying20
  a20 := Tryz.isAgg20
  z20 := Tryz.sizeOf20
  v20 := Tryz.zeroValue20
  t37 := Tryz.underlying25
  a37 := Tryz.isAgg25
  z37 := Tryz.sizeOf25
  v37 := Tryz.zeroValue25
  t46 := Tryz.underlying123
  a46 := Tryz.isAgg123
  z46 := Tryz.sizeOf123
  v46 := Tryz.zeroValue123
  t51 := Tryz.underlying170
  a51 := Tryz.isAgg170
  z51 := Tryz.sizeOf170
  v51 := Tryz.zeroValue170
  t53 := Tryz.underlying111
  a53 := Tryz.isAgg111
  z53 := Tryz.sizeOf111
  v53 := Tryz.zeroValue111
  t70 := Tryz.underlying127
  a70 := Tryz.isAgg127
  z70 := Tryz.sizeOf127
  v70 := Tryz.zeroValue127
  t72 := Tryz.underlying129
  a72 := Tryz.isAgg129
  z72 := Tryz.sizeOf129
  v72 := Tryz.zeroValue129
  t75 := Tryz.underlying113
  a75 := Tryz.isAgg113
  z75 := Tryz.sizeOf113
  v75 := Tryz.zeroValue113
  t76 := Tryz.underlying130
  a76 := Tryz.isAgg130
  z76 := Tryz.sizeOf130
  v76 := Tryz.zeroValue130
  t109 := Tryz.underlying124
  a109 := Tryz.isAgg124
  z109 := Tryz.sizeOf124
  v109 := Tryz.zeroValue124
  t127 := Tryz.underlying177
  a127 := Tryz.isAgg177
  z127 := Tryz.sizeOf177
  v127 := Tryz.zeroValue177
  t146 := Tryz.underlying173
  a146 := Tryz.isAgg173
  z146 := Tryz.sizeOf173
  v146 := Tryz.zeroValue173
  t148 := Tryz.underlying175
  a148 := Tryz.isAgg175
  z148 := Tryz.sizeOf175
  v148 := Tryz.zeroValue175
  t164 := Tryz.underlying211
  a164 := Tryz.isAgg211
  z164 := Tryz.sizeOf211
  v164 := Tryz.zeroValue211 }
def vI : Go.Shelf.Ren := ⟨fun | 112 => 47 | n => n, fun | 28 => 23 | 3 => 3 | 4 => 4 | 0 => 0 | n => n, fun | n => n⟩
theorem vY : Go.Proofs.Lays.n112 Tryz.prog vI := {
  mixed := by kernel_rfl
  f112 := Tryz.func47.trans (congrArg some (by kernel_rfl))
  t0 := Tryz.underlying0
  a0 := Tryz.isAgg0
  z0 := Tryz.sizeOf0
  v0 := Tryz.zeroValue0
  t3 := Tryz.underlying3
  a3 := Tryz.isAgg3
  z3 := Tryz.sizeOf3
  v3 := Tryz.zeroValue3
  t4 := Tryz.underlying4
  a4 := Tryz.isAgg4
  z4 := Tryz.sizeOf4
  v4 := Tryz.zeroValue4
  t28 := Tryz.underlying23
  a28 := Tryz.isAgg23
  z28 := Tryz.sizeOf23
  v28 := Tryz.zeroValue23 }
theorem zc : Builder.Extra Tryz.prog pB := { sizeBuilder := by kernel_rfl, liesBuilder := by kernel_rfl, t5 := mJ.t5, a5 := mJ.a5, z5 := mJ.z5, v5 := mJ.v5, infoByte := by kernel_rfl, cellsByte := by kernel_rfl, sizeByte := by kernel_rfl, neB5 := by decide }
theorem qX (m : Nat) : AnyZ.SortsIn Tryz.prog ly Fence.wide m :=
  ⟨fun blk off cap ss W hH hblk hsz => callsIn_wide.2 (AnyM.slices_Sort_string qM blk off cap ss W hH hblk hsz),
   fun p cap W => callsIn_wide.2 (AnyM.slices_Sort_string_none qM p cap W)⟩
set_option maxHeartbeats 1000000 in
theorem ol (w : World) (D0 : DataW Unit) (nn b c : Nat) (hown : w.ownsMap Tryz.prog 9 R0 b nn D0) (hcell : w.cell? ⟨c, 0, none⟩ = some (.map (some b))) (hlt : c < w.heap.size) (hmax : Maps.size D0 ≤ maxLen) (hbytes : Maps.size D0 * 16 ≤ 140737488355328) :
    CallsIn Fence.wide 5 Tryz.prog 84 #[.func (.func 131) #[] #[.pointer (some ⟨c, 0, none⟩)]] w fun e w' => ∃ (v : Value) (ss : List (List UInt8)), e = .returned v ∧ ss.Perm (strKeys D0) ∧
      w'.ownsRow w.heap.size 9 1 v ss.length ((ss.mergeSort (fun x y => decide (x ≤ y))).map encStr) ∧ (v = .slice none 0 0 ↔ ss = []) ∧ Below w.heap.size w w' := by
  have hseq : SeqGives Fence.wide 2 Tryz.prog 131 #[.pointer (some ⟨c, 0, none⟩)] encStr (fun ss => ss.Perm (strKeys D0)) (Maps.size D0) w :=
    AnyZ.keys_gives (ρ := mB) { wH with } Fence.wide _ trivial rfl (by omega) c b nn D0 _ hlt hcell hown
  exact AnyZ.sorted_in tz Fence.wide 5 trivial trivial trivial trivial O (by omega) (qX _) (enters_of Tryz.func130 (by kernel_rfl) O) 131 #[.pointer (some ⟨c, 0, none⟩)] trivial (enters_of Tryz.func131 (by kernel_rfl) O) _ _ hmax hbytes _ hseq
end Go.Proofs.YtjkjlggbikeliaaGreatDoor

namespace Go.Proofs.YtjkjlggbikeliaaGreatDoor
set_option linter.unusedVariables false
set_option linter.unusedSimpArgs false
set_option linter.unusedSectionVars false
open Go.RowKit
section
variable {K : Cx} {R S Y α : Type} {Q : dn R} {E : Env} {H : List HA} {o : Option R}
/-! ### Results in variables, marks behind -/
def uJ : List Code → Nat → (Nat → Code → Prop) → Prop
  | [], _, _ => True
  | c :: l, j, p => p j c ∧ uJ l (j + 1) p
theorem uJ.get : ∀ {l : List Code} {j : Nat} {p : Nat → Code → Prop}, uJ l j p → ∀ {i : Nat} {c : Code}, l[i]? = some c → p (j + i) c
  | [], j, p, _, i, c, h => by simp at h
  | d :: l, j, p, ⟨h1, h2⟩, i, c, h => by
    cases i with
    | zero => simp at h; subst h; exact h1
    | succ i => have := uJ.get h2 (i := i) (by simpa using h); rwa [show j + 1 + i = j + (i + 1) by omega] at this
/-! ### A loop of few rounds -/
def Rnd (K : Cx) (Q : dn R) (c : Code) (m : Nat) (E : Env) (H : List HA) (o : Option R) : Prop := ∀ r, o = some r → ∀ a w, Has K.n K.ds E a → Sat K.W H w → Code.roundsIn (fen K.ro) 0 K.P c (Q r) m a w
def uK (K : Cx) (c : Code) (m : Nat) (Q : dn R) : dn R := fun r => Exit.then (Code.roundsIn (fen K.ro) 0 K.P c (Q r) m) (Q r)
theorem uL {c : Code} (m : Nat) (h : Rnd K Q c m E H o) : Sim K Q (.loop c) E H o := fun r hr a w he hs => wpIn_loop_rounds m (h r hr a w he hs)
theorem jR {c : Code} {m : Nat} (h : Sim K (uK K c m Q) c E H o) : Rnd K Q c (m + 1) E H o := fun r hr a w he hs => h r hr a w he hs
theorem lF {c : Code} {m : Nat} (h : Rnd K Q c m E H o) : Nrm K (uK K c m Q) E H o := h
theorem lG {c : Code} {m : Nat} (h : Rtn K Q E H o) : Rtn K (uK K c m Q) E H o := h
theorem xV {id : Nat} {c : Code} {m : Nat} (h : Exi K Q id E H o) : Exi K (uK K c m Q) id E H o := h
end
end Go.Proofs.YtjkjlggbikeliaaGreatDoor

namespace Go.Proofs.YtjkjlggbikeliaaGreatDoor
open Go.RowKit
set_option linter.unusedVariables false
set_option linter.unusedSimpArgs false
section
variable {K : Cx} {E : Env} {H : List HA} {o : Oper} {α : Type} {V : α → List Value → Prop} {a : Option Addr} {xs : List α} {T : TypeId} {c : Nat}
end
/-! ### Effects that only add, told by lists: what each value and each part hangs on is said beside it -/
theorem All.of {l : List Nat} {p : Nat → Prop} (h : ∀ i, i ∈ l → p i) : All l p := by
  induction l with
  | nil => trivial
  | cons a l ih => exact ⟨h a (List.mem_cons_self ..), ih fun i hi => h i (List.mem_cons_of_mem _ hi)⟩
theorem hJ.of {l : List Nat} {f g : Nat → Value} (h : ∀ i, i ∈ l → f i = g i) : hJ l f g := by
  induction l with
  | nil => trivial
  | cons a l ih => exact ⟨h a (List.mem_cons_self ..), ih fun i hi => h i (List.mem_cons_of_mem _ hi)⟩
def zn (vl : List ((Nat → Nat) → Value)) (γ : Nat → Nat) (i : Nat) : Value := vl.getD i (fun _ => undef) γ
def zo (al : List ((Nat → Nat) → List HA)) (γ : Nat → Nat) (i : Nat) : List HA := al.getD i (fun _ => []) γ
def vj : List ((Nat → Nat) → Value) → List ((Nat → Nat) → List HA) → List (List Nat) → Prop
  | v :: vs, a :: zs, d :: ds => (∀ γ γ' : Nat → Nat, (∀ j, j ∈ d → γ j = γ' j) → v γ = v γ' ∧ a γ = a γ') ∧ vj vs zs ds
  | [], [], [] => True
  | _, _, _ => False
theorem vj.at : ∀ {vl : List ((Nat → Nat) → Value)} {al : List ((Nat → Nat) → List HA)} {dl : List (List Nat)}, vj vl al dl → ∀ (i : Nat) (γ γ' : Nat → Nat), (∀ j, j ∈ dl.getD i [] → γ j = γ' j) → zn vl γ i = zn vl γ' i ∧ zo al γ i = zo al γ' i
  | v :: vs, a :: zs, d :: ds, h, 0, γ, γ', e => h.1 γ γ' e
  | v :: vs, a :: zs, d :: ds, h, i + 1, γ, γ', e => h.2.at i γ γ' e
  | [], [], [], _, i, γ, γ', e => ⟨rfl, rfl⟩
section
variable {K : Cx} {R S Y : Type} {Q : dn R} {E : Env} {H : List HA} {o : Option R}
def zp (K : Cx) (ops : Array Oper) (anc : List (List Nat)) (val : (Nat → Nat) → Nat → Value) (add : (Nat → Nat) → Nat → List HA) (E : Env) (H X : List HA) (i : Nat) (γ : Nat → Nat) : Prop :=
  ∃ op, ops[i]? = some op ∧ ∃ Ei, dM ops anc (val γ) E i Ei ∧ GOk ops op Ei ∧
    RE K (Y := Nat) op Ei (H ++ X) (fun z => val (kG γ i z) i) (fun z => H ++ (add (kG γ i z) i ++ X))
theorem zp.mk {ops : Array Oper} {anc : List (List Nat)} {Z : Type} {val : (Nat → Nat) → Nat → Value} {add : (Nat → Nat) → Nat → List HA} {X : List HA} {i : Nat} {γ : Nat → Nat} {op : Oper} {v : Z → Value} {H' : Z → List HA} (Ei : Env) (f : Z → Nat) (ho : ops[i]? = some op) (hg : op.guard = none) (he : dM ops anc (val γ) E i Ei)
    (h : RE K (Y := Z) op Ei (H ++ X) v H') (hv : ∀ z, v z = val (kG γ i (f z)) i) (hH : ∀ z, Ent (H' z) (H ++ (add (kG γ i (f z)) i ++ X))) : zp K ops anc val add E H X i γ :=
  ⟨op, ho, Ei, he, .inl hg, fun a w hh hs next Q hn => h a w hh hs next Q fun z w' s => by
    have := hn (f z) w' (s.ent (hH z))
    rw [hv z]; exact this⟩
theorem Ent.left {a b : List HA} : Ent (a ++ b) a := by
  induction a with
  | nil => exact Ent.nil _
  | cons x a ih => exact Ent.cons ih
theorem Ent.pick {l m : List HA} (idx : List Nat) (n : Nat) (hn : (idx.all fun i => (idx.count i == 1) && Nat.blt i n) = true) (hl : l.length = n) (hm : idx.map (fun i => l.getD i tt) = m) : Ent l m := by
  have h1 : ∀ i, i ∈ idx → idx.count i = 1 ∧ i < l.length := fun i hi => by
    have := List.all_eq_true.1 hn i hi
    rw [← hl] at this
    simpa [Nat.blt_eq] using this
  have hnd : idx.Nodup := List.nodup_iff_count.2 fun i => by
    by_cases hi : i ∈ idx
    · exact Nat.le_of_eq (h1 i hi).1
    · rw [List.count_eq_zero.2 hi]; omega
  have p : (List.range l.length).Perm (idx ++ (List.range l.length).filter fun i => !idx.contains i) := by
    refine (List.perm_ext_iff_of_nodup List.nodup_range (List.nodup_append.2 ⟨hnd, List.nodup_range.filter _, fun x hx y hy e => ?_⟩)).2 fun i => ?_
    · subst e
      have := (List.mem_filter.1 hy).2
      rw [List.contains_iff_mem.2 hx] at this
      cases this
    · rw [List.mem_append, List.mem_filter, List.mem_range]
      constructor
      · intro h
        by_cases hi : i ∈ idx
        · exact .inl hi
        · exact .inr ⟨h, by simpa using hi⟩
      · rintro (h | h)
        · exact (h1 i h).2
        · exact h.1
  have e : (List.range l.length).map (fun i => l.getD i tt) = l := by
    apply List.ext_getElem?
    intro i
    by_cases hi : i < l.length
    · simp [List.getElem?_map, List.getElem?_range hi, hi]
    · rw [List.getElem?_eq_none (by simp; omega), List.getElem?_eq_none (by omega)]
  have p2 := p.map fun i => l.getD i tt
  rw [e, List.map_append, hm] at p2
  exact (Ent.perm p2).trans Ent.left
end
end Go.Proofs.YtjkjlggbikeliaaGreatDoor

namespace Go.Proofs.YtjkjlggbikeliaaGreatDoor
open Go.RowKit
set_option linter.unusedVariables false
set_option linter.unusedSimpArgs false
section
variable {K : Cx} {E : Env} {H : List HA} {op : Oper}
end
end Go.Proofs.YtjkjlggbikeliaaGreatDoor

namespace Go.Proofs.YtjkjlggbikeliaaGreatDoor
open Go.RowKit Go.Shelf
set_option linter.unusedVariables false
set_option linter.unusedSimpArgs false
def mI (l : List UInt8) : Int × Bool := match Lib.parseUintB 64 l with
  | .ok v => ((v : Int), true)
  | .range => (18446744073709551615, false)
  | _ => (0, false)
theorem vX {P : Program} {W : World} {F : HA} {f : FuncId} {args : List Value} {l : List UInt8} {T : TypeId} (hg : Glb P F) (he : (P.globalNamed "strconv.ErrSyntax").isSome = true ∧ (P.globalNamed "strconv.ErrRange").isSome = true)
    (h1 : ∀ v : Nat, Lib.parseUintB 64 l = .ok v → ∀ w, Calls P f args.toArray w fun e w' => e = .returned (.tuple #[.int .u64 v, .nilIface]) ∧ (w' = w ∨ ∃ e t, w' = Lib.bytesWorld w e t))
    (h2 : Lib.parseUintB 64 l = Lib.parseUintB 64 [] → ∀ tp p w, w.var? P "strconv.ErrSyntax" = some #[.iface tp p] → Calls P f args.toArray w fun e w' => ∃ N, e = .returned (.tuple #[.int .u64 0, .iface T (.pointer (some ⟨N, 0, none⟩))]) ∧ Below w.heap.size w w')
    (h3 : Lib.parseUintB 64 l = .range → ∀ tp p w, w.var? P "strconv.ErrRange" = some #[.iface tp p] → Calls P f args.toArray w fun e w' => ∃ N, e = .returned (.tuple #[.int .u64 18446744073709551615, .iface T (.pointer (some ⟨N, 0, none⟩))]) ∧ Below w.heap.size w w') :
    Fn P W f args [] F (some (mI l)) (fun (r : Int × Bool) (y : Nat) => .tuple #[.int .u64 r.1, rm r.2 T y]) (fun _ _ => []) := fun r' hr w hs => by
  cases hr
  unfold mI
  cases hp : Lib.parseUintB 64 l with
  | ok v =>
    refine (h1 v hp w).mono fun e w' ⟨e1, e2⟩ => ⟨0, e1, ?_⟩
    rcases e2 with rfl | ⟨e, t, rfl⟩
    · exact hs
    · exact hs.below (Lib.bytesWorld_below _ _ _)
  | range =>
    obtain ⟨t, p, hv⟩ := hg.rng he.2 w hs.holds
    exact (h3 hp t p w hv).mono fun e w' ⟨N, e1, e2⟩ => ⟨N, e1, hs.below e2⟩
  | _ =>
    obtain ⟨t, p, hv⟩ := hg.syn he.1 w hs.holds
    exact (h2 hp t p w hv).mono fun e w' ⟨N, e1, e2⟩ => ⟨N, e1, hs.below e2⟩
section
variable {K : Cx} {E : Env} {H : List HA} {o : Oper}
end
end Go.Proofs.YtjkjlggbikeliaaGreatDoor

namespace Go.Proofs.YtjkjlggbikeliaaGreatDoor
open Go.RowKit
set_option linter.unusedVariables false
set_option linter.unusedSimpArgs false
section
variable {K : Cx} {R S Y : Type} {Q : dn R} {E : Env} {H : List HA} {opt : Option R} {ops : Array Oper} {rest : List Oper} {o : Oper}
end
section
variable {K : Cx} {R S Y : Type} {Q : dn R} {E : Env} {H : List HA} {o : Option R}
end
end Go.Proofs.YtjkjlggbikeliaaGreatDoor

namespace Go.Proofs.YtjkjlggbikeliaaGreatDoor
open Go.RowKit Go.Sort
set_option linter.unusedVariables false
set_option linter.unusedSimpArgs false
theorem oI {V : Int → List Value → Prop} (hV : ∀ x r, V x r → r = [.int .i64 x]) : ∀ (xs : List Int) (rs : List (List Value)), bE 1 V xs rs → rs.flatten = xs.map fun x => .int .i64 x
  | [], [], _ => rfl
  | x :: xs, r :: rs, h => by
    rw [List.flatten_cons, hV x r h.1.2.2, oI hV xs rs h.2]
    rfl
  | [], _ :: _, h => h.elim
  | _ :: _, [], h => h.elim
theorem mw {V : Int → List Value → Prop} (hV : ∀ x, V x [.int .i64 x]) : ∀ (xs : List Int), bE 1 V xs (xs.map fun x => [Value.int .i64 x])
  | [] => trivial
  | x :: xs => ⟨⟨rfl, (fun v hv => by rw [List.mem_singleton.1 hv]; rfl), hV x⟩, mw hV xs⟩
theorem qa : ∀ (xs : List Int), (xs.map fun x => [Value.int .i64 x]).flatten = xs.map fun x => Value.int .i64 x
  | [] => rfl
  | x :: xs => by rw [List.map_cons, List.flatten_cons, qa xs]; rfl
theorem xW (pre junk : List Value) (xs : List Int) : putCells (Value.int .i64) pre.length xs.reverse.toArray (pre ++ (xs.map fun x => Value.int .i64 x) ++ junk).toArray = (pre ++ (xs.reverse.map fun x => Value.int .i64 x) ++ junk).toArray := by
  unfold putCells
  apply Array.ext_getElem?
  intro k
  simp only [Array.getElem?_mapIdx, List.getElem?_toArray, List.size_toArray, List.length_reverse]
  by_cases h1 : k < pre.length
  · rw [List.append_assoc, List.append_assoc, List.getElem?_append_left h1, List.getElem?_append_left h1, List.getElem?_eq_getElem h1]
    simp only [Option.map_some]
    rw [if_neg (by omega)]
  · by_cases h2 : k < pre.length + xs.length
    · have e1 : (pre ++ (xs.map fun x => Value.int .i64 x) ++ junk)[k]? = some (Value.int .i64 (xs[k - pre.length]'(by omega))) := by
        rw [List.append_assoc, List.getElem?_append_right (by omega), List.getElem?_append_left (by simp; omega), List.getElem?_map, List.getElem?_eq_getElem (by omega)]
        rfl
      have e2 : (pre ++ (xs.reverse.map fun x => Value.int .i64 x) ++ junk)[k]? = some (Value.int .i64 (xs.reverse[k - pre.length]'(by simp; omega))) := by
        rw [List.append_assoc, List.getElem?_append_right (by omega), List.getElem?_append_left (by simp; omega), List.getElem?_map, List.getElem?_eq_getElem (by simp; omega)]
        rfl
      rw [e1, e2]
      simp only [Option.map_some]
      rw [if_pos (by omega)]
      simp [getElem!_pos, show k - pre.length < xs.length by omega]
    · rw [List.append_assoc, List.append_assoc, List.getElem?_append_right (by omega), List.getElem?_append_right (l₁ := pre) (by omega), List.getElem?_append_right (by simp; omega), List.getElem?_append_right (by simp; omega)]
      simp only [List.length_map, List.length_reverse]
      cases junk[k - pre.length - xs.length]? with
      | none => rfl
      | some v =>
        simp only [Option.map_some]
        rw [if_neg (by omega)]
theorem uM {P : Program} {W : World} {F : HA} {f : FuncId} {T : TypeId} {V : Int → List Value → Prop} {a : Option Addr} {xs : List Int} {c : Nat} (hV : ∀ x r, V x r → r = [.int .i64 x]) (hV' : ∀ x, V x [.int .i64 x])
    (h1 : ∀ (blk off : Nat) (w : World), xs.length ≤ 9223372036854775807 → Holds (Value.int .i64) w blk off xs.toArray → Calls P f #[.slice (some ⟨blk, off, none⟩) xs.length c] w fun e w' => e = .returned (.tuple #[]) ∧ ∃ n, w' = putRow (Value.int .i64) (Sort.ahead w n) blk off xs.reverse.toArray)
    (h0 : ∀ w, Calls P f #[.slice none 0 c] w fun e w' => e = .returned (.tuple #[]) ∧ w' = w) :
    Fn P W f [.slice a xs.length c] [aC T 1 V a xs c] F (some ()) (fun (_ : Unit) (_ : Unit) => .tuple #[]) (fun _ _ => [aC T 1 V a xs.reverse c]) := fun r' hr w hs => by
  cases hr
  obtain ⟨rs, hl, s⟩ := lg 0 rfl hs
  rw [oI hV xs rs hl] at s
  rcases s.row_cases with ⟨ha, hn, hc, hcs⟩ | ⟨b, off, pre, junk, fz, ha, ok, s2⟩
  · have hx : xs = [] := by cases xs with | nil => rfl | cons x t => simp at hn
    subst hx; subst ha
    refine (h0 w).mono ?_
    rintro e w' ⟨rfl, rfl⟩
    exact ⟨(), rfl, hs⟩
  · have hb := s2.pts_at (i := 0) rfl
    have hoff := ok.offs
    subst ha
    have hlen : xs.length ≤ maxLen := Nat.le_trans ok.le ok.cap
    have hmax : maxLen ≤ 9223372036854775807 := by decide
    have hH : Holds (Value.int .i64) w b off xs.toArray := by
      intro j hj
      have hj' : j < xs.length := by simpa using hj
      constructor
      · rw [tC hb, List.append_assoc, List.getElem?_append_right (by omega), List.getElem?_append_left (by simp; omega), List.getElem?_map]
        have : off + j - pre.length = j := by omega
        rw [this, List.getElem?_eq_getElem hj']
        simp [getElem!_pos, hj']
      · simp only [World.frozen?, hb]
        have h2 := ok.free (off + j) (by omega) (by have := ok.le; omega)
        simpa using h2
    refine (h1 b off w (by omega) hH).mono ?_
    rintro e w' ⟨rfl, n, rfl⟩
    refine ⟨(), rfl, ?_⟩
    have e3 : putRow (Value.int .i64) (Sort.ahead w n) b off xs.reverse.toArray = { (Sort.ahead w n) with heap := w.heap.setIfInBounds b (.cells (pre ++ (xs.reverse.map fun x => Value.int .i64 x) ++ junk).toArray T fz) } := by
      unfold putRow mapBlock
      rw [show (Sort.ahead w n).heap = w.heap from rfl, jS _ _ _ _ hb]
      simp only [onCells]
      rw [← hoff, xW]
    rw [e3]
    have s3 : Sat W (pts b (.cells (pre ++ (xs.map fun x => Value.int .i64 x) ++ junk).toArray T fz) :: [F]) (Sort.ahead w n) := s2.drew _
    have s4 := s3.upd (o' := .cells (pre ++ (xs.reverse.map fun x => Value.int .i64 x) ++ junk).toArray T fz)
    refine s4.ent (Ent.sel' 0 rfl (fun h hp => ?_) (Ent.refl _))
    rw [show (aC T 1 V (some ⟨b, off, none⟩) xs.reverse c) h = ∃ rs, bE 1 V xs.reverse rs ∧ Row T 1 (some ⟨b, off, none⟩) xs.reverse.length c rs.flatten h from rfl]
    refine ⟨_, mw hV' xs.reverse, ?_⟩
    rw [qa]
    refine Row.mk ⟨hoff, by simpa using ok.le, ok.cap, by simpa using ok.room, by simp, by simpa using ok.top, ok.fzok⟩ h hp
section
variable {K : Cx} {E : Env} {H : List HA} {o : Oper}
theorem xX {t e bytes len : Nat} {zs : List Value} {l : List (Nat × Operand)} {vs : List (Nat × Value)} {cs : List Value} (ho : o.op = .buildSlice t len l.toArray) (hx : evP l E = some vs) (ht : K.P.underlying t = some (.slice e)) (hE : Elt K.P e 1 bytes zs)
    (hb : Nat.ble (len * 1) 16777216 = true) (hf : Instr.fill (fun i => some (i * 1, 1)) ((Array.range (len * 1)).map (zs.toArray[· % zs.toArray.size]!)) vs = some cs.toArray) (h0 : Nat.blt 0 (len * 1) = true) :
    RE K (Y := Nat) o E H (fun b => .slice (some ⟨b, 0, none⟩) len len) (fun b => obj b e cs :: H) :=
  gV (by rw [ho]; intro c h; cases h) fun a' w he s => by
    obtain ⟨i, z, hi, hz, hsz, hby, hzs⟩ := hE.info
    have hb' : len * 1 ≤ 16777216 := by simpa [Nat.ble_eq] using hb
    have h0' : 0 < len * 1 := by simpa [Nat.blt_eq] using h0
    refine ⟨w.heap.size, { w with heap := w.heap.push (.cells cs.toArray e (0, 0)) }, ?_, s.new _⟩
    unfold execOp; simp only [ho]
    have : (l.toArray.map fun (i, x) => (i, a'.eval x)) = vs.toArray := by
      rw [← np he l vs hx]; simp
    rw [this]
    have hne : ¬ (len * 1 = 0) := by omega
    have hgt : ¬ (len * 1 > 2 ^ 24) := by omega
    simp only [Instr.buildSlice, underlying, program, Sem.run_bind, Sem.run, ht, sizeOf, typeInfo, hi, hsz, Result.andThen_ok, Sem.run_pure, hgt, hne, if_false, zeroValue, hz, hzs, newRow, newObj]
    simp only [hf, Sem.run_bind, Sem.run, Result.andThen_ok, Sem.run_pure, newRow, newObj]
theorem xY {xt yt T : TypeId} {x : Operand} {ok : Bool} {y : Nat} {ms : _} (ho : o.op = .binOp .neq xt x (.const .nilIface) yt) (hx : ev E x = some (rm ok T y)) (hu : K.P.underlying xt = some (.interface ms)) : RQ K o E H (.bool (!ok)) :=
  cT (by rw [ho]; intro c h; cases h) fun a w he _ => by
    unfold execOp; simp only [ho]; rw [he.ev hx, he.ev (x := .const .nilIface) rfl]
    cases ok with
    | true =>
      have e : (Op.equal xt .nilIface .nilIface).run K.P w = .ok true w := by
        rw [show Op.equal xt .nilIface .nilIface = Op.equalIn (9999 + 1) xt .nilIface .nilIface from rfl, Op.equalIn]
        simp [underlying, program, Sem.run, hu]
      simp [rm, eqGuard, binOp, e]
    | false =>
      have e : (Op.equal xt (.iface T (.pointer (some ⟨y, 0, none⟩))) .nilIface).run K.P w = .ok false w := by
        rw [show Op.equal xt (.iface T (.pointer (some ⟨y, 0, none⟩))) .nilIface = Op.equalIn (9999 + 1) xt (.iface T (.pointer (some ⟨y, 0, none⟩))) .nilIface from rfl, Op.equalIn]
        simp [underlying, program, Sem.run, hu]
      simp [rm, eqGuard, binOp, e]
end
end Go.Proofs.YtjkjlggbikeliaaGreatDoor

/- Texts that lead to the law WalRecovers: Sl35, Sl36, G1. Conditions: as each says. -/
import Derived.Test.YtndjkejhacfpdaaGreatDoorM2
import Derived.Test.YtndjkejhacfpdaaGreatDoorProg
set_option linter.unusedVariables false
set_option linter.unusedSimpArgs false
set_option linter.unusedSectionVars false
namespace Go.Proofs.YtndjkejhacfpdaaGreatDoor
open Go.RowKit
def su (ops : Array Oper) (anc : List (List Nat)) (i s : Nat) : Bool := (List.range ops.size).all fun q => (match fk ops q with | some d => !Nat.beq d s | none => true) || Nat.beq q i || (ie anc q).contains i
def mr (ops : Array Oper) (vs : Env) : List Nat → Env
 | [] => []
 | p :: ps => match fk ops p, lk vs p with
  | some d, some v => (d, v) :: mr ops vs ps
  | _, _ => mr ops vs ps
def qS (E : Env) : List Nat → Env
 | [] => []
 | s :: ss => match lk E s with
  | some v => (s, v) :: qS E ss
  | none => qS E ss
def iT (ops : Array Oper) (anc : List (List Nat)) (vs E : Env) (i : Nat) (D : List Nat) : Env := mr ops vs (ie anc i) ++ qS E D
def QX (K : Cx) (ops : Array Oper) (op : Oper) (I : Env) (H : List HA) (v : Value) : Prop :=
 (op.guard = none ∧ RQ K op I H v) ∨
 (∃ j D dj, op.guard = some (j, D) ∧ fk ops j = some dj ∧ ((∃ b u, lk I dj = some (.bool b) ∧ v = cv (b == D) u ∧ ((b == D) = true → RQ K op I H u)) ∨ (lk I dj = some undef ∧ v = undef)))
def okX (ops : Array Oper) (anc : List (List Nat)) (vs : Env) (i : Nat) (D : List Nat) : Bool := (lk vs i).isNone && D.all (su ops anc i)
def PX (K : Cx) (ops : Array Oper) (anc : List (List Nat)) (vs E : Env) (H : List HA) (j : Nat) : Prop := ∃ op v D, ops[j]? = some op ∧ lk vs j = some v ∧ D.all (su ops anc j) = true ∧ QX K ops op (iT ops anc vs E j D) H v
def sx (ops : Array Oper) (anc : List (List Nat)) (vs : Env) (i : Nat) : Bool := (List.range ops.size).all fun x => (lk vs x).isSome || Nat.beq x i || (ie anc x).contains i
def lN (anc : List (List Nat)) (i : Nat) (ld : List Nat) : List Nat := ld.filter fun j => !(ie anc i).contains j
inductive DL (K : Cx) {R : Type} (ops : Array Oper) (anc : List (List Nat)) (E : Env) (Q : eM R) (o : Option R) : Env → List HA → List Nat → Prop
 | fin {vs : Env} {H : List HA} {ld : List Nat} (E2 : Env) (hd : ((List.range ops.size).all fun x => (lk vs x).isSome) = true) (hs : Sub E2 (mr ops vs (List.range ops.size) ++ E)) (h : Nrm K Q E2 H o) : DL K ops anc E Q o vs H ld
 | q {vs : Env} {H : List HA} {ld : List Nat} {op : Oper} {v : Value} (i : Nat) (ss : List Nat) (c : okX ops anc vs i ss = true) (ho : ops[i]? = some op) (h : ∀ H, QX K ops op (iT ops anc vs E i ss) H v) (r : DL K ops anc E Q o ((i, v) :: vs) H ld) : DL K ops anc E Q o vs H ld
 | l {vs : Env} {H : List HA} {ld : List Nat} {op : Oper} {v : Value} (i : Nat) (ss : List Nat) (c : okX ops anc vs i ss = true) (ho : ops[i]? = some op) (h : QX K ops op (iT ops anc vs E i ss) H v) (r : DL K ops anc E Q o ((i, v) :: vs) H (i :: ld)) : DL K ops anc E Q o vs H ld
 | e {vs : Env} {H : List HA} {ld : List Nat} {op : Oper} {Y : Type} {v : Y → Value} {H' : Y → List HA} (i : Nat) (ss : List Nat) (c : okX ops anc vs i ss = true) (c2 : sx ops anc vs i = true) (ho : ops[i]? = some op) (hg : GOk ops op (iT ops anc vs E i ss))
   (h : ∀ r, o = some r → ∀ a w, Has K.n K.ds (iT ops anc vs E i ss) a → Sat K.W H w → ∀ next, (∀ y w', Sat K.W (H' y) w' → next (a.put op.dst (v y)) w') → op.wpIn (fen K.ro) 0 K.P a w next (Q r))
   (hp : ∀ y, All (lN anc i ld) (PX K ops anc vs E (H' y))) (r : ∀ y, DL K ops anc E Q o ((i, v y) :: vs) (H' y) (lN anc i ld)) : DL K ops anc E Q o vs H ld
 | prk {vs : Env} {H : List HA} {ld : List Nat} {p : Prop} (k : Nat) (hk : H[k]? = some (pr p)) (r : p → DL K ops anc E Q o vs H ld) : DL K ops anc E Q o vs H ld
theorem vj : ∀ (a b : Env) (t : Nat), lk (a ++ b) t = (lk a t).or (lk b t)
 | [], b, t => by simp [lk]
 | (i, v) :: a, b, t => by
  simp only [List.cons_append, lk]
  cases Nat.beq i t with
  | true => simp
  | false => simpa using vj a b t
theorem vk {ops : Array Oper} {vs : Env} {t : Nat} {u : Value} : ∀ ps, lk (mr ops vs ps) t = some u → ∃ p, p ∈ ps ∧ fk ops p = some t ∧ lk vs p = some u
 | [], h => by simp [mr, lk] at h
 | p :: ps, h => by
  have I := @vk ops vs t u ps
  unfold mr at h
  split at h
  ·rename_i d v h1 J
   simp only [lk] at h
   cases hb : Nat.beq d t with
   | true =>
    rw [hb] at h
    obtain rfl := Nat.eq_of_beq_eq_true hb
    simp only [cond_true, Option.some.injEq] at h
    subst h
    exact ⟨p, by simp, h1, J⟩
   | false =>
    rw [hb] at h
    obtain ⟨D, a, b⟩ := I (by simpa using h)
    exact ⟨D, by simp [a], b⟩
  ·obtain ⟨D, a, b⟩ := I h
   exact ⟨D, by simp [a], b⟩
theorem xd {E : Env} {t : Nat} {u : Value} : ∀ D, lk (qS E D) t = some u → t ∈ D ∧ lk E t = some u
 | [], h => by simp [qS, lk] at h
 | s :: D, h => by
  have I := @xd E t u D
  unfold qS at h
  split at h
  ·rename_i v h1
   simp only [lk] at h
   cases hb : Nat.beq s t with
   | true =>
    rw [hb] at h
    obtain rfl := Nat.eq_of_beq_eq_true hb
    simp only [cond_true, Option.some.injEq] at h
    subst h
    exact ⟨by simp, h1⟩
   | false =>
    rw [hb] at h
    have := I (by simpa using h)
    exact ⟨by simp [this.1], this.2⟩
  ·have := I h
   exact ⟨by simp [this.1], this.2⟩
def Okv (ops : Array Oper) (anc : List (List Nat)) (vs E D : Env) (i : Nat) : Prop := ∀ t u, lk D t = some u → (∃ p, p ∈ ie anc i ∧ fk ops p = some t ∧ lk vs p = some u) ∨ (lk E t = some u ∧ su ops anc i t = true)
theorem uA {ops : Array Oper} {anc : List (List Nat)} {vs E : Env} {i : Nat} {I : List Nat} (h : I.all (su ops anc i) = true) : Okv ops anc vs E (iT ops anc vs E i I) i := fun t u D => by
 unfold iT at D
 rw [vj] at D
 cases h1 : lk (mr ops vs (ie anc i)) t with
 | some u' =>
  rw [h1] at D
  obtain rfl : u' = u := by simpa using D
  exact .inl (vk _ h1)
 | none =>
  rw [h1] at D
  obtain ⟨a, b⟩ := xd _ (by simpa using D)
  exact .inr ⟨b, List.all_eq_true.1 h t a⟩
theorem kH {vs : Env} {i j : Nat} {v : Value} (h : i ≠ j) : lk ((i, v) :: vs) j = lk vs j := by
 have : Nat.beq i j = false := by rw [Bool.eq_false_iff]; intro x; exact h (Nat.eq_of_beq_eq_true x)
 simp [lk, this]
theorem pI {vs : Env} {i : Nat} {v : Value} : lk ((i, v) :: vs) i = some v := by simp [lk]
theorem pJ {ops : Array Oper} {anc : List (List Nat)} {vs E D : Env} {i k : Nat} {v : Value} (I : lk vs k = none) (h : Okv ops anc vs E D i) : Okv ops anc ((k, v) :: vs) E D i := fun t u J => by
 rcases h t u J with ⟨p, a, b, c⟩ | x
 ·refine .inl ⟨p, a, b, ?_⟩
  rw [kH (fun e => by subst e; rw [I] at c; cases c)]
  exact c
 ·exact .inr x
def ku (vs : Env) (i : Nat) : Value := (lk vs i).getD undef
section
variable {K : Cx} {R : Type} {Q : eM R} {E : Env} {H : List HA} {o : Option R} {ops : Array Oper} {anc : List (List Nat)}
def pK (K : Cx) (ops : Array Oper) (anc : List (List Nat)) (E : Env) (vs : Env) (H : List HA) (ld L : List Nat) : Prop :=
 ∀ i, (lk vs i).isSome = true → i ∉ L → ∃ op v D, ops[i]? = some op ∧ lk vs i = some v ∧ Okv ops anc vs E D i ∧ ((∀ H, QX K ops op D H v) ∨ (i ∈ ld ∧ QX K ops op D H v))
def Ar (K : Cx) (ops : Array Oper) (anc : List (List Nat)) (E : Env) (Q : eM R) (o : Option R) (vs : Env) (H : List HA) (ld : List Nat) : Prop :=
 (∃ I, ((List.range ops.size).all fun x => (lk vs x).isSome) = true ∧ Sub I (mr ops vs (List.range ops.size) ++ E) ∧ Nrm K Q I H o) ∨
 (∃ (i : Nat) (D : List Nat) (op : Oper) (Y : Type) (v : Y → Value) (H' : Y → List HA), okX ops anc vs i D = true ∧ sx ops anc vs i = true ∧ ops[i]? = some op ∧ GOk ops op (iT ops anc vs E i D) ∧
  (∀ r, o = some r → ∀ a w, Has K.n K.ds (iT ops anc vs E i D) a → Sat K.W H w → ∀ next, (∀ y J, Sat K.W (H' y) J → next (a.put op.dst (v y)) J) → op.wpIn (fen K.ro) 0 K.P a w next (Q r)) ∧
  (∀ y, All (lN anc i ld) (PX K ops anc vs E (H' y))) ∧ ∀ y, DL K ops anc E Q o ((i, v y) :: vs) (H' y) (lN anc i ld))
theorem tG {vs : Env} {ld D L : List Nat} {i : Nat} {v : Value} {op : Oper} {I : Env} (hi : lk vs i = none) (X : ∀ j, j ∈ ld → j ∈ D) (hg : pK K ops anc E vs H ld L) (ho : ops[i]? = some op) (hE : Okv ops anc vs E I i) (h : (∀ H, QX K ops op I H v) ∨ (i ∈ D ∧ QX K ops op I H v)) : pK K ops anc E ((i, v) :: vs) H D L := fun j U hn => by
 by_cases e : i = j
 ·subst e
  exact ⟨op, v, I, ho, pI, pJ hi hE, h⟩
 ·rw [kH e] at U ⊢
  obtain ⟨J, v', Ej, a, b, c, d⟩ := hg j U hn
  exact ⟨J, v', Ej, a, b, pJ hi c, d.imp id fun x => ⟨X _ x.1, x.2⟩⟩
theorem xe {L : List Nat} {a : Act} {w : World} {vs : Env} {ld : List Nat} (h : DL K ops anc E Q o vs H ld) (hg : pK K ops anc E vs H ld L) (I : ∀ i, i ∈ L → (lk vs i).isSome = true) (U : Has K.n K.ds (iu ops (ku vs) E L) a) (hs : Sat K.W H w) :
  ∃ D ad, Ar K ops anc E Q o D H ad ∧ pK K ops anc E D H ad L ∧ (∀ i, i ∈ L → (lk D i).isSome = true) ∧ Has K.n K.ds (iu ops (ku D) E L) a := by
 have J : ∀ {vs : Env} {i : Nat} {v : Value}, lk vs i = none → (∀ i, i ∈ L → (lk vs i).isSome = true) → Has K.n K.ds (iu ops (ku vs) E L) a → (∀ j, j ∈ L → (lk ((i, v) :: vs) j).isSome = true) ∧ Has K.n K.ds (iu ops (ku ((i, v) :: vs)) E L) a := by
  intro vs i v hi I U
  have af : ∀ j, j ∈ L → i ≠ j := fun j X e => by subst e; have := I _ X; rw [hi] at this; cases this
  refine ⟨fun j X => by rw [kH (af j X)]; exact I j X, ?_⟩
  rw [nF (f := ku ((i, v) :: vs)) (g := ku vs) L fun j X => by unfold ku; rw [kH (af j X)]]
  exact U
 induction h with
 | fin E2 hd hsb h => exact ⟨_, _, .inl ⟨E2, hd, hsb, h⟩, hg, I, U⟩
 | e i ss c c2 ho hgk h hp r ih => exact ⟨_, _, .inr ⟨i, ss, _, _, _, _, c, c2, ho, hgk, h, hp, r⟩, hg, I, U⟩
 | q i ss c ho h r ih =>
  unfold okX at c
  rw [Bool.and_eq_true, Option.isNone_iff_eq_none] at c
  obtain ⟨x1, x2⟩ := J c.1 I U
  exact ih (tG c.1 (fun _ x => x) hg ho (uA c.2) (.inl h)) x1 x2 hs
 | l i ss c ho h r ih =>
  unfold okX at c
  rw [Bool.and_eq_true, Option.isNone_iff_eq_none] at c
  obtain ⟨x1, x2⟩ := J c.1 I U
  exact ih (tG c.1 (fun _ x => List.mem_cons_of_mem _ x) hg ho (uA c.2) (.inr ⟨List.mem_cons_self, h⟩)) x1 x2 hs
 | prk k hk r ih => exact ih (sZ k hk hs) hg I U hs
theorem A9 {vs U : Env} {i : Nat} {L : List Nat} {a : Act} (hd : pq ops = true) (hi : i ∉ L) (X : ∀ j, j ∈ L → j < ops.size) (h1 : ∀ p, p ∈ ie anc i → p ∈ L) (h2 : ∀ q, q ∈ L → ∀ p, p ∈ ie anc q → p ∈ L) (hk : Okv ops anc vs E U i) (D : Has K.n K.ds (iu ops (ku vs) E L) a) : Has K.n K.ds U a := by
 refine ⟨D.size, D.defers, fun t u ht => D.get t u ?_⟩
 rcases hk t u ht with ⟨p, p1, p2, p3⟩ | ⟨x1, x2⟩
 ·rw [nZ hd p2 L (h1 p p1)]
  unfold ku
  rw [p3]; rfl
 ·rw [ph L fun q I J => ?_]
  ·exact x1
  ·have := List.all_eq_true.1 x2 q (by simpa using X q I)
   rw [J] at this
   simp only [Bool.or_eq_true, Bool.not_eq_true', Nat.beq_eq] at this
   rcases this with (e | e) | e
   ·simp at e
   ·have e := Nat.eq_of_beq_eq_true (by simpa using e); subst e; exact hi I
   ·exact hi (h2 q I i (by simpa using e))
def Cv (ops : Array Oper) (anc : List (List Nat)) (n : Nat) : Bool := uI ops && (xY ops anc && (Nat.ble anc.length ops.size && (pq ops && ((List.range ops.size).all fun i => match fk ops i with | some d => Nat.blt d n | none => true))))
theorem bK {id : Nat} {l : List Oper} (anc : List (List Nat)) (nn : Nat) (d5 : K.n = nn) (b7 : K.P.follows .mixedOrders = true) (c : Cv l.toArray anc nn = true) (h : DL K l.toArray anc E Q o [] H []) : Sim K Q (.region id l.toArray true) E H o := by
 unfold Cv at c
 simp only [Bool.and_eq_true] at c
 obtain ⟨b2, be, d6, an, d7⟩ := c
 intro r hr a w hh hs
 refine wpIn_region_draw (fun t => ?_)
 rw [b7, uJ]
 have ft : l.toArray.size = l.length := by simp
 have br : anc.length ≤ l.toArray.size := by simpa [Nat.ble_eq] using d6
 obtain ⟨d8, d9, r0, g0, s0, e0⟩ := xe (L := []) h (fun i hi _ => by simp [lk] at hi) (fun i hi => by cases hi) hh (hs.drew (w.drawn + 1))
 refine uK (F := fen K.ro) (n := 0) (P := K.P) (Q := Q r)
  (fun L a w => (∀ i, i ∈ L → i < l.toArray.size) ∧ ∃ vs H ld, Ar K l.toArray anc E Q o vs H ld ∧ pK K l.toArray anc E vs H ld L ∧ (∀ i, i ∈ L → (lk vs i).isSome = true) ∧ Has K.n K.ds (iu l.toArray (ku vs) E L) a ∧ Sat K.W H w)
  b2 ?_ ?_ l.toArray.size t (Array.replicate l.toArray.size false) [] a { w with drawn := w.drawn + 1 } (by simp) (by intro i hi; simp only [Array.getD_eq_getD_getElem?, Array.getElem?_replicate]; split <;> simp) (by intro i hi; cases hi) (by intro i hi; cases hi)
  (by refine Nat.le_trans (List.length_filter_le _ _) (by simp)) ⟨(by intro i hi; cases hi), d8, H, d9, r0, g0, s0, e0, hs.drew _⟩
 ·rintro i op L a w hoi X hpre hcl ⟨hb, vs, Hc, ld, ad, a7, a1, I, J⟩
  have hi : i < l.toArray.size := pt hoi
  have h1 : ∀ p, p ∈ ie anc i → p ∈ L := pu b2 be br hcl i hpre
  have h2 : ∀ q, q ∈ L → ∀ p, p ∈ ie anc q → p ∈ L := fun q hq => pu b2 be br hcl q (hcl q hq)
  have b9 : ∀ q, q ∈ i :: L → q < l.toArray.size := by
   intro q hq
   rcases List.mem_cons.1 hq with rfl | hq
   ·exact hi
   ·exact hb q hq
  have b0 : ∀ (vs : Env) (a' : Act) (v : Value), lk vs i = some v → Has K.n K.ds (iu l.toArray (ku vs) E L) a' → Has K.n K.ds (iu l.toArray (ku vs) E (i :: L)) (a'.put op.dst v) := by
   intro vs a' v hv hx
   simp only [iu, fk, hoi, Option.bind_some]
   cases hd : op.dst with
   | none => exact hx
   | some d =>
    have e : ku vs i = v := by unfold ku; rw [hv]; rfl
    simp only
    rw [e]
    refine hx.put _ ?_
    have := List.all_eq_true.1 d7 i (by simpa using hi)
    rw [d5]
    simpa [fk, hoi, hd] using this
  by_cases hv : (lk vs i).isSome = true
  ·obtain ⟨cd, v, Ei, ch, ec, ed, hq⟩ := a7 i hv X
   rw [hoi] at ch
   cases ch
   have U : Has K.n K.ds Ei a := A9 an X hb h1 h2 ed I
   have ee : QX K l.toArray op Ei Hc v := hq.elim (fun x => x Hc) fun x => x.2
   have fin : ∀ w', Sat K.W Hc w' → (∀ c0, c0 ∈ i :: L → c0 < l.toArray.size) ∧ ∃ vs H ld, Ar K l.toArray anc E Q o vs H ld ∧ pK K l.toArray anc E vs H ld (i :: L) ∧ (∀ j, j ∈ i :: L → (lk vs j).isSome = true) ∧ Has K.n K.ds (iu l.toArray (ku vs) E (i :: L)) (a.put op.dst v) ∧ Sat K.W H w' := fun w' s' =>
    ⟨b9, vs, Hc, ld, ad, fun j hj hn => a7 j hj fun x => hn (List.mem_cons_of_mem _ x), fun j hj => by rcases List.mem_cons.1 hj with rfl | hj; exact hv; exact a1 j hj, b0 vs a v ec I, s'⟩
   rcases ee with ⟨hg, b3⟩ | ⟨jg, c3, dj, hg, c4, ef⟩
   ·rw [if_pos (by simp [Region.wanted, hg])]
    exact b3 a w U J _ _ fin
   ·rcases ef with ⟨b, u, eg, af, b3⟩ | ⟨hu, af⟩
    ·rw [lX U hg c4 eg]
     cases hbw : (b == c3) with
     | true =>
      rw [hbw] at af
      simp only [if_true]
      obtain rfl : v = u := af
      exact b3 hbw a w U J _ _ fin
     | false =>
      rw [hbw] at af
      simp only [Bool.false_eq_true, if_false]
      obtain rfl : v = undef := af
      exact ⟨fun f _ => iU _ _, fin w J⟩
    ·have ei : Region.wanted op (yielded l.toArray a.tmps) = false := by
      simp only [Region.wanted, hg, yielded]
      rw [show ((l.toArray)[jg]?.bind (·.dst)) = some dj from c4]
      simp [U.get _ _ hu, undef]
     rw [ei]
     simp only [Bool.false_eq_true, if_false]
     subst af
     exact ⟨fun f _ => iU _ _, fin w J⟩
  ·rcases ad with ⟨E2, hd, _⟩ | ⟨x, ss, el, Y, v, H', c1, c2, bc, em, er, et, ex⟩
   ·exact absurd (List.all_eq_true.1 hd i (by simpa using hi)) hv
   ·unfold okX at c1
    rw [Bool.and_eq_true, Option.isNone_iff_eq_none] at c1
    have eA : i = x := by
     have := List.all_eq_true.1 c2 i (by simpa using hi)
     simp only [Bool.or_eq_true] at this
     rcases this with (e | e) | e
     ·exact absurd e hv
     ·exact Nat.eq_of_beq_eq_true e
     ·have eB := h1 x (by simpa using e)
      have := a1 x eB
      rw [c1.1] at this
      cases this
    subst eA
    rw [hoi] at bc
    cases bc
    have U : Has K.n K.ds (iT l.toArray anc vs E i ss) a := A9 an X hb h1 h2 (uA c1.2) I
    rw [if_pos (wW U em)]
    refine er r hr a w U J _ fun y w' s' => ?_
    have b4 : iu l.toArray (ku ((i, v y) :: vs)) E L = iu l.toArray (ku vs) E L := nF L fun j hj => by
     unfold ku; rw [kH (fun e => X (by rw [e]; exact hj))]
    have hx := b0 ((i, v y) :: vs) a (v y) pI (by rw [b4]; exact I)
    have b5 : pK K l.toArray anc E ((i, v y) :: vs) (H' y) (lN anc i ld) (i :: L) := fun j hj hn => by
     have eD : i ≠ j := fun e => hn (by rw [e]; exact List.mem_cons_self)
     have c5 : j ∉ L := fun x => hn (List.mem_cons_of_mem _ x)
     rw [kH eD] at hj ⊢
     obtain ⟨cd, v', Ej, x1, x2, x3, x4⟩ := a7 j hj c5
     rcases x4 with x4 | ⟨x4, x5⟩
     ·exact ⟨cd, v', Ej, x1, x2, pJ c1.1 x3, .inl x4⟩
     ·have c7 : j ∈ lN anc i ld := List.mem_filter.2 ⟨x4, by
       simp only [Bool.not_eq_true', Bool.eq_false_iff]
       intro hc
       exact c5 (h1 j (by simpa using hc))⟩
      obtain ⟨eF, v2, g7, y1, y2, y3, y4⟩ := (et y).mem c7
      exact ⟨eF, v2, _, y1, y2, pJ c1.1 (uA y3), .inr ⟨c7, y4⟩⟩
    obtain ⟨e1, e2, z1, z2, z3, z4⟩ := xe (ex y) b5 (fun j hj => by
     rcases List.mem_cons.1 hj with rfl | hj
     ·rw [pI]; rfl
     ·rw [kH (fun e => X (by rw [e]; exact hj))]; exact a1 j hj) hx s'
    exact ⟨b9, e1, H' y, e2, z1, z2, z3, z4, s'⟩
 ·rintro L a w hL ⟨hb, vs, Hc, ld, ad, a7, a1, I, J⟩
  rcases ad with ⟨E2, hd, e3, hn⟩ | ⟨x, ss, el, Y, v, H', c1, c2, bc, _⟩
  ·refine hn r hr a w ⟨I.size, I.defers, ?_⟩ J
   have c8 : ∀ t u, lk (mr l.toArray vs (List.range l.toArray.size) ++ E) t = some u → lk (iu l.toArray (ku vs) E L) t = some u := fun t u ht => by
    rw [vj] at ht
    cases h1 : lk (mr l.toArray vs (List.range l.toArray.size)) t with
    | some u' =>
     rw [h1] at ht
     obtain rfl : u' = u := by simpa using ht
     obtain ⟨p, p1, p2, p3⟩ := vk _ h1
     rw [nZ an p2 L (hL p (by simpa using p1))]
     unfold ku
     rw [p3]; rfl
    | none =>
     rw [h1] at ht
     rw [ph L fun q hq c9 => ?_]
     ·simpa using ht
     ·have dz := hb q hq
      obtain ⟨v, hv⟩ := Option.isSome_iff_exists.1 (List.all_eq_true.1 hd q (by simpa using dz))
      have : ∀ ps : List Nat, q ∈ ps → lk (mr l.toArray vs ps) t ≠ none := by
       intro ps
       induction ps with
       | nil => intro h; cases h
       | cons p ps ih =>
        intro h
        unfold mr
        split
        ·rename_i d v' h1 h2
         simp only [lk]
         cases hbq : Nat.beq d t with
         | true => simp
         | false =>
          rcases List.mem_cons.1 h with rfl | h
          ·rw [c9] at h1; cases h1; simp at hbq
          ·simpa using ih h
        ·rename_i X
         rcases List.mem_cons.1 h with rfl | h
         ·exact absurd hv (X _ _ c9)
         ·exact ih h
      exact this _ (by simpa using dz) h1
   have key : ∀ (D : Env), Sub D (mr l.toArray vs (List.range l.toArray.size) ++ E) → ∀ t u, lk D t = some u → a.tmps[t]? = some u := by
    intro D
    induction D with
    | nil => intro _ t u h; simp [lk] at h
    | cons p D ih =>
     obtain ⟨j, x⟩ := p
     rintro ⟨s1, s2⟩ t u ht
     simp only [lk] at ht
     cases hbq : Nat.beq j t with
     | true =>
      rw [hbq] at ht
      obtain rfl := Nat.eq_of_beq_eq_true hbq
      simp only [cond_true, Option.some.injEq] at ht
      subst ht
      exact I.get _ _ (c8 _ _ s1)
     | false =>
      rw [hbq] at ht
      exact ih s2 t u (by simpa using ht)
   exact key E2 e3
  ·unfold okX at c1
   rw [Bool.and_eq_true, Option.isNone_iff_eq_none] at c1
   have := a1 x (hL x (pt bc))
   rw [c1.1] at this
   cases this
/-! ### Steps -/
variable {vs : Env} {ld : List Nat} {op : Oper} {v : Value}
theorem dq (i : Nat) (c : okX ops anc vs i [] = true) (D : ops[i]? = some op) (I : op.guard = none) (h : ∀ {H : List HA}, RQ K op (iT ops anc vs E i []) H v) (r : DL K ops anc E Q o ((i, v) :: vs) H ld) : DL K ops anc E Q o vs H ld := .q i [] c D (fun _ => .inl ⟨I, h⟩) r
theorem dqo (i : Nat) (D : List Nat) (c : okX ops anc vs i D = true) (I : ops[i]? = some op) (J : op.guard = none) (h : ∀ {H : List HA}, RQ K op (iT ops anc vs E i D) H v) (r : DL K ops anc E Q o ((i, v) :: vs) H ld) : DL K ops anc E Q o vs H ld := .q i D c I (fun _ => .inl ⟨J, h⟩) r
theorem dl (i : Nat) (D : List Nat) (c : okX ops anc vs i D = true) (I : ops[i]? = some op) (J : op.guard = none) (h : RQ K op (iT ops anc vs E i D) H v) (r : DL K ops anc E Q o ((i, v) :: vs) H (i :: ld)) : DL K ops anc E Q o vs H ld := .l i D c I (.inl ⟨J, h⟩) r
theorem qxy {I : Env} {j dj : Nat} {D b : Bool} (J : op.guard = some (j, D)) (U : fk ops j = some dj) (X : lk I dj = some (.bool b)) (hw : (b == D) = true) (h : RQ K op I H v) : QX K ops op I H v := .inr ⟨j, D, dj, J, U, .inl ⟨b, v, X, Cw hw v, fun _ => h⟩⟩
theorem dly (i : Nat) (I : List Nat) {j dj : Nat} {D b : Bool} (c : okX ops anc vs i I = true) (J : ops[i]? = some op) (U : op.guard = some (j, D)) (X : fk ops j = some dj) (hb : lk (iT ops anc vs E i I) dj = some (.bool b)) (hw : (b == D) = true) (h : RQ K op (iT ops anc vs E i I) H v) (r : DL K ops anc E Q o ((i, v) :: vs) H (i :: ld)) : DL K ops anc E Q o vs H ld := .l i I c J (qxy U X hb hw h) r
theorem dqy (i : Nat) (I : List Nat) {j dj : Nat} {D b : Bool} (c : okX ops anc vs i I = true) (J : ops[i]? = some op) (U : op.guard = some (j, D)) (X : fk ops j = some dj) (hb : lk (iT ops anc vs E i I) dj = some (.bool b)) (hw : (b == D) = true) (h : ∀ {H : List HA}, RQ K op (iT ops anc vs E i I) H v) (r : DL K ops anc E Q o ((i, v) :: vs) H ld) : DL K ops anc E Q o vs H ld := .q i I c J (fun _ => qxy U X hb hw h) r
theorem dqg (i : Nat) (I : List Nat) {j dj : Nat} {D : Bool} (b : Bool) (c : okX ops anc vs i I = true) (J : ops[i]? = some op) (U : op.guard = some (j, D)) (X : fk ops j = some dj) (hb : lk (iT ops anc vs E i I) dj = some (.bool b)) (h : ∀ {H : List HA}, (b == D) = true → RQ K op (iT ops anc vs E i I) H v) (r : DL K ops anc E Q o ((i, cv (b == D) v) :: vs) H ld) : DL K ops anc E Q o vs H ld :=
 .q i I c J (fun _ => .inr ⟨j, D, dj, U, X, .inl ⟨b, v, hb, rfl, h⟩⟩) r
theorem dqn (i : Nat) (I : List Nat) {j dj : Nat} {D b : Bool} (c : okX ops anc vs i I = true) (U : ops[i]? = some op) (X : op.guard = some (j, D)) (hj : fk ops j = some dj) (hb : lk (iT ops anc vs E i I) dj = some (.bool b)) (J : (b == D) = false) (r : DL K ops anc E Q o ((i, undef) :: vs) H ld) : DL K ops anc E Q o vs H ld :=
 .q i I c U (fun _ => .inr ⟨j, D, dj, X, hj, .inl ⟨b, undef, hb, Ba J undef, fun x => by rw [J] at x; cases x⟩⟩) r
theorem dlg (i : Nat) (I : List Nat) {j dj : Nat} {D : Bool} (b : Bool) (c : okX ops anc vs i I = true) (J : ops[i]? = some op) (U : op.guard = some (j, D)) (X : fk ops j = some dj) (hb : lk (iT ops anc vs E i I) dj = some (.bool b)) (h : (b == D) = true → RQ K op (iT ops anc vs E i I) H v) (r : DL K ops anc E Q o ((i, cv (b == D) v) :: vs) H (i :: ld)) : DL K ops anc E Q o vs H ld :=
 .l i I c J (.inr ⟨j, D, dj, U, X, .inl ⟨b, v, hb, rfl, h⟩⟩) r
variable {Y : Type} {u : Y → Value} {H' : Y → List HA}
theorem de (i : Nat) (D : List Nat) (c : okX ops anc vs i D = true) (c2 : sx ops anc vs i = true) (I : ops[i]? = some op) (J : op.guard = none) (h : RE K op (iT ops anc vs E i D) H u H') (hp : ∀ y, All (lN anc i ld) (PX K ops anc vs E (H' y))) (r : ∀ y, DL K ops anc E Q o ((i, u y) :: vs) (H' y) (lN anc i ld)) : DL K ops anc E Q o vs H ld :=
 .e i D c c2 I (.inl J) (fun r' hr a w U X next hn => h a w U X next _ hn) hp r
theorem dey (i : Nat) (I : List Nat) {j dj : Nat} {D b : Bool} (c : okX ops anc vs i I = true) (c2 : sx ops anc vs i = true) (J : ops[i]? = some op) (U : op.guard = some (j, D)) (X : fk ops j = some dj) (hb : lk (iT ops anc vs E i I) dj = some (.bool b)) (hw : (b == D) = true) (h : RE K op (iT ops anc vs E i I) H u H') (hp : ∀ y, All (lN anc i ld) (PX K ops anc vs E (H' y))) (r : ∀ y, DL K ops anc E Q o ((i, u y) :: vs) (H' y) (lN anc i ld)) : DL K ops anc E Q o vs H ld :=
 .e i I c c2 J (.inr ⟨j, D, dj, b, U, X, hb, hw⟩) (fun r' hr a w hh hs next hn => h a w hh hs next _ hn) hp r
theorem px {j : Nat} (D : List Nat) (I : ops[j]? = some op) (J : lk vs j = some v) (U : D.all (su ops anc j) = true) (X : op.guard = none) (h : RQ K op (iT ops anc vs E j D) H v) : PX K ops anc vs E H j := ⟨op, v, D, I, J, U, .inl ⟨X, h⟩⟩
theorem deP (i : Nat) (D : List Nat) {en : Int} {X : Int → Value} {o1 o2 : Option R} (c : okX ops anc vs i D = true) (c2 : sx ops anc vs i = true) (ho : ops[i]? = some op) (hg : op.guard = none) (h : REP K op (iT ops anc vs E i D) H en X u H') (hp : ∀ y, All (lN anc i ld) (PX K ops anc vs E (H' y))) (hP : en ≠ 0 → ∀ y, Pan K Q (X en) (iT ops anc vs E i D) (H' y) o2) (r : en = 0 → ∀ y, DL K ops anc E Q o1 ((i, u y) :: vs) (H' y) (lN anc i ld)) : DL K ops anc E Q (if en = 0 then o1 else o2) vs H ld := by
 by_cases hz : en = 0
 ·rw [if_pos hz]
  exact .e i D c c2 ho (.inl hg) (fun r' hr a w I J next hn => h a w I J next _ (fun _ y U s => hn y U s) fun x => absurd hz x) hp (r hz)
 ·rw [if_neg hz]
  exact .e (Y := { y : Y // False }) (v := fun y => u y.1) (H' := fun y => H' y.1) i D c c2 ho (.inl hg) (fun r' hr a w I J next hn => h a w I J next _ (fun x => absurd x hz) fun x y U s => hP x y r' hr a U I s) (fun y => y.2.elim) fun y => y.2.elim
end
end Go.Proofs.YtndjkejhacfpdaaGreatDoor

namespace Go.Proofs.YtndjkejhacfpdaaGreatDoor
open Go.RowKit
section
variable {K : Cx} {R S Y : Type} {Q : eM R} {E : Env} {H : List HA} {o : Oper} {opt : Option R} {ops : Array Oper} {rest : List Oper}
theorem oM {d : Nat} {v : Value} {x : Operand} {t : TypeId} {ps : String} {u : Array Edge} (h1 : (ev E x, Nat.blt d K.n) = (some v, true)) (h : cx K Q ops rest ((d, v) :: E) H opt) : cx K Q ops (⟨some d, .move x, t, ps, u, none⟩ :: rest) E H opt := vm (Prod.mk.inj h1).1 (Prod.mk.inj h1).2 h
theorem oA {d : Nat} {v : Value} {x : Operand} {t : TypeId} {ps : String} {u : Array Edge} (h1 : (ev E x, Nat.blt d K.n) = (some v, true)) (h : cx K Q ops rest ((d, v) :: E) H opt) : cx K Q ops (⟨some d, .assign x, t, ps, u, none⟩ :: rest) E H opt := va (Prod.mk.inj h1).1 (Prod.mk.inj h1).2 h
theorem oN {d : Nat} {x : Operand} {u : Addr} {t : TypeId} {ps : String} {D : Array Edge} (h1 : (ev E x, Nat.blt d K.n) = (some (.pointer (some u)), true)) (h : cx K Q ops rest ((d, .pointer (some u)) :: E) H opt) : cx K Q ops (⟨some d, .nilCheck x, t, ps, D, none⟩ :: rest) E H opt := vn (Prod.mk.inj h1).1 (Prod.mk.inj h1).2 h
theorem oF {x : Operand} {t : TypeId} {i b off d : Nat} {fs : Array Field} {f : Field} {n : Nat} (h1 : (o.op, ev E x) = (.fieldAddr t x i, some (.pointer (some ⟨b, off, none⟩)))) (D : K.P.underlying t = some (.struct fs)) (u : (fs[i]?, f.offset) = (some f, d))
  (I : ∀ w, (sizeOf f.type).run K.P w = .ok n w) (J : (n == 0) = false) : RQ K o E H (.pointer (some ⟨b, off + d, none⟩)) := Dm (Prod.mk.inj h1).1 (Prod.mk.inj h1).2 D (Prod.mk.inj u).1 (Prod.mk.inj u).2 I J
theorem oL {x : Operand} {t T : TypeId} {b off : Nat} {v : Value} {l : List Value} (h1 : (o.op, ev E x) = (.load t x, some (.pointer (some ⟨b, off, none⟩)))) (D : ∀ w, (isAgg t).run K.P w = .ok false w) (k : Nat) (u : (H[k]?, l[off]?) = (some (obj b T l), some v)) : RQ K o E H v := dR (Prod.mk.inj h1).1 (Prod.mk.inj h1).2 D (.obj k (Prod.mk.inj u).1 (Prod.mk.inj u).2)
theorem oE {d : Nat} {v : Y → Value} {H' : Y → List HA} (u : RE K o E H v H') (h1 : (o.guard, o.dst, Nat.blt d K.n) = (none, some d, true)) (h : ∀ y, cx K Q ops rest ((d, v y) :: E) (H' y) opt) : cx K Q ops (o :: rest) E H opt :=
 Ah u (Prod.mk.inj h1).1 (Prod.mk.inj (Prod.mk.inj h1).2).1 (Prod.mk.inj (Prod.mk.inj h1).2).2 h
theorem oT {c : Code} (h : Sim K Q c E H opt) : cx K (lJ K c Q) ops [] E H opt := aw (ai h)
theorem oC {c : Call} {x : Operand} {xs : List Operand} {vs u cap : List Value} {f : FuncId} {A : List HA} {rst : List HA} {S Y : Type} {D : Option S} {val : S → Y → Value} {B : S → Y → List HA} {s : S}
  (h1 : (o.op, c.callee, c.args, ev E x, evs xs E, vs ++ cap) = (.call c, .value x, xs.toArray, some (.func (.func f) #[] cap.toArray), some vs, u))
  (I : ∀ args w, (callFunc f args).run K.P w = .ok (.enter f args) w) (J : Ent H (A ++ rst))
  (h : Fn K.P K.W f u A (bl rst) D val B) (U : D = some s) : RE K o E H (val s) (fun y => B s y ++ rst) := by
 simp only [Prod.mk.injEq] at h1
 exact kQ h1.1 h1.2.1 h1.2.2.1 h1.2.2.2.1 h1.2.2.2.2.1 h1.2.2.2.2.2 I J h U
theorem oS {o : Oper} {j dj d : Nat} {u b : Bool} (h1 : (o.guard, (ops[j]?).bind (·.dst), lk E dj, b == u, o.dst, Nat.blt d K.n) = (some (j, u), some dj, some (.bool b), false, some d, true)) (h : cx K Q ops rest ((d, undef) :: E) H opt) : cx K Q ops (o :: rest) E H opt := by
 simp only [Prod.mk.injEq] at h1
 exact yA h1.1 h1.2.1 h1.2.2.1 h1.2.2.2.1 h1.2.2.2.2.1 h1.2.2.2.2.2 h
end
theorem Ent.a {l m : List HA} {A : HA} (r : Ent (l) m) : Ent (A :: l) (A :: m) := .sel 0 rfl r
theorem Ent.b {l m : List HA} {u A : HA} (r : Ent (u :: l) m) : Ent (u :: A :: l) (A :: m) := .sel 1 rfl r
theorem Ent.c {l m : List HA} {u D A : HA} (r : Ent (u :: D :: l) m) : Ent (u :: D :: A :: l) (A :: m) := .sel 2 rfl r
theorem Ent.d {l m : List HA} {u D I A : HA} (r : Ent (u :: D :: I :: l) m) : Ent (u :: D :: I :: A :: l) (A :: m) := .sel 3 rfl r
theorem Ent.e {l m : List HA} {u D I J A : HA} (r : Ent (u :: D :: I :: J :: l) m) : Ent (u :: D :: I :: J :: A :: l) (A :: m) := .sel 4 rfl r
theorem Ent.f {l m : List HA} {u D I J U A : HA} (r : Ent (u :: D :: I :: J :: U :: l) m) : Ent (u :: D :: I :: J :: U :: A :: l) (A :: m) := .sel 5 rfl r
theorem Ent.g {l m : List HA} {u D I J U X A : HA} (r : Ent (u :: D :: I :: J :: U :: X :: l) m) : Ent (u :: D :: I :: J :: U :: X :: A :: l) (A :: m) := .sel 6 rfl r
theorem Ent.h {l m : List HA} {u D I J U X x6 A : HA} (r : Ent (u :: D :: I :: J :: U :: X :: x6 :: l) m) : Ent (u :: D :: I :: J :: U :: X :: x6 :: A :: l) (A :: m) := .sel 7 rfl r
theorem Ent.i {l m : List HA} {u D I J U X x6 x7 A : HA} (r : Ent (u :: D :: I :: J :: U :: X :: x6 :: x7 :: l) m) : Ent (u :: D :: I :: J :: U :: X :: x6 :: x7 :: A :: l) (A :: m) := .sel 8 rfl r
theorem Ent.j {l m : List HA} {u D I J U X x6 x7 x8 A : HA} (r : Ent (u :: D :: I :: J :: U :: X :: x6 :: x7 :: x8 :: l) m) : Ent (u :: D :: I :: J :: U :: X :: x6 :: x7 :: x8 :: A :: l) (A :: m) := .sel 9 rfl r
theorem Ent.k {l m : List HA} {u D I J U X x6 x7 x8 x9 A : HA} (r : Ent (u :: D :: I :: J :: U :: X :: x6 :: x7 :: x8 :: x9 :: l) m) : Ent (u :: D :: I :: J :: U :: X :: x6 :: x7 :: x8 :: x9 :: A :: l) (A :: m) := .sel 10 rfl r
theorem Ent.l {l m : List HA} {D I J U X x5 x6 x7 x8 x9 u A : HA} (r : Ent (D :: I :: J :: U :: X :: x5 :: x6 :: x7 :: x8 :: x9 :: u :: l) m) : Ent (D :: I :: J :: U :: X :: x5 :: x6 :: x7 :: x8 :: x9 :: u :: A :: l) (A :: m) := .sel 11 rfl r
theorem Ent.m {l m : List HA} {I J U X x4 x5 x6 x7 x8 x9 u D A : HA} (r : Ent (I :: J :: U :: X :: x4 :: x5 :: x6 :: x7 :: x8 :: x9 :: u :: D :: l) m) : Ent (I :: J :: U :: X :: x4 :: x5 :: x6 :: x7 :: x8 :: x9 :: u :: D :: A :: l) (A :: m) := .sel 12 rfl r
end Go.Proofs.YtndjkejhacfpdaaGreatDoor

namespace Go.Proofs.YtndjkejhacfpdaaGreatDoor
open Go.RowKit _root_.Go.Proofs.Tryz
set_option maxRecDepth 20000
set_option maxHeartbeats 20000000
abbrev je := call101
abbrev jk := call13
abbrev dN := call43
abbrev fE := call47
abbrev jm := call84
abbrev dH := isAgg102
abbrev kk := isAgg133
abbrev eX := isAgg23
abbrev ae := isAgg3
abbrev fC := isAgg32
abbrev cP := isAgg33
abbrev cy := isAgg35
abbrev bb := isAgg36
abbrev co := isAgg39
abbrev dY := isAgg4
abbrev dm := isAgg43
abbrev jz := isAgg47
abbrev ig := isAgg64
abbrev bO := isAgg78
abbrev dn := isAgg87
abbrev fL := isAgg95
abbrev bV := sizeOf102
abbrev dX := sizeOf144
abbrev cT := sizeOf23
abbrev aa := sizeOf3
abbrev ew := sizeOf32
abbrev bM := sizeOf33
abbrev aR := sizeOf35
abbrev eR := sizeOf39
abbrev cM := sizeOf4
abbrev aU := sizeOf43
abbrev ia := sizeOf45
abbrev fy := sizeOf47
abbrev fB := sizeOf5
abbrev gF := sizeOf64
abbrev bp := sizeOf78
abbrev bR := sizeOf87
abbrev fb := sizeOf89
abbrev iz := sizeOf9
abbrev fx := sizeOf95
abbrev aT := underlying102
abbrev fH := underlying107
abbrev dp := underlying109
abbrev ga := underlying141
abbrev fc := underlying144
abbrev fo := underlying149
abbrev fd := underlying160
abbrev db := underlying180
abbrev fi := underlying3
abbrev cq := underlying32
abbrev aH := underlying33
abbrev bj := underlying35
abbrev jq := underlying36
abbrev bH := underlying43
abbrev aS := underlying45
abbrev du := underlying47
abbrev eP := underlying5
abbrev iE := underlying51
abbrev gW := underlying56
abbrev fT := underlying60
abbrev cz := underlying64
abbrev cC := underlying74
abbrev aO := underlying78
abbrev bQ := underlying80
abbrev fD := underlying84
abbrev bJ := underlying87
abbrev aC := underlying89
abbrev fR := underlying9
abbrev av := underlying91
abbrev ey := underlying95
abbrev bD := underlying97
abbrev dv := underlying99
abbrev iF := zeroValue102
abbrev ke := zeroValue107
abbrev js := zeroValue140
abbrev jG := zeroValue23
abbrev dy := zeroValue35
abbrev iW := zeroValue47
theorem ks : Elt Tryz.prog 5 1 1 [.int .u8 0] := .of (.int .u8 0) (by kernel_rfl) rfl rfl rfl rfl
abbrev aP : Type := Int × Int × Int × List UInt8 × Int
abbrev aD : aP := ((0 : Int), (0 : Int), (0 : Int), ([] : List UInt8), (0 : Int))
abbrev aV : Type := Int × Int × Int × List UInt8
abbrev bh : aV := ((0 : Int), (0 : Int), (0 : Int), ([] : List UInt8))
abbrev ff : Type := Int × Int × Int × Int × Int × Int × Int × Int × Int × Int × List UInt8
abbrev aQ : ff := ((0 : Int), (0 : Int), (0 : Int), (0 : Int), (0 : Int), (0 : Int), (0 : Int), (0 : Int), (0 : Int), (0 : Int), ([] : List UInt8))
abbrev dE : Type := Int × Int × Int × Int × Int × Int × Int × Int × Int × List UInt8
abbrev io : dE := ((0 : Int), (0 : Int), (0 : Int), (0 : Int), (0 : Int), (0 : Int), (0 : Int), (0 : Int), (0 : Int), ([] : List UInt8))
abbrev aB (x : List UInt8) : Value := str x
abbrev nA (x : Int) : Value := .int .i64 x
abbrev kZ (x : Option Nat) : Value := match x with
  | none => .nilFunc
  | some f => .func (.func f) #[] #[]
theorem nB : mp Tryz.prog 9 aB := Aj fR
theorem pF : mp Tryz.prog 3 nA := Ai fi
abbrev ak (p : Nat) (x : List UInt8 × Int) (y : Option Addr × Nat) : List HA := [obj p 109 [.slice y.1 x.1.length y.2, .int .i64 x.2], Row 5 1 y.1 x.1.length y.2 (aL x.1)]
theorem Co : Elt Tryz.prog 9 1 16 [str ([] : Lb)] := .of (str ([] : Lb)) (by kernel_rfl) rfl rfl rfl rfl
theorem pb : Elt Tryz.prog 144 5 56 [Iv 0, Iv 0, Iv 0, .slice none 0 0, Iv 0] := .of (.agg #[Iv 0, Iv 0, Iv 0, .slice none 0 0, Iv 0]) (by kernel_rfl) rfl rfl rfl rfl
theorem lF : Elt Tryz.prog 3 1 8 [Iv 0] := .of (Iv 0) (by kernel_rfl) rfl rfl rfl rfl
theorem mT : Elt Tryz.prog 33 1 24 [.slice none 0 0] := .of (.slice none 0 0) (by kernel_rfl) rfl rfl rfl rfl
theorem qL : Elt Tryz.prog 35 4 48 [Iv 0, Iv 0, Iv 0, .slice none 0 0] := .of (.agg #[Iv 0, Iv 0, Iv 0, .slice none 0 0]) (by kernel_rfl) rfl rfl rfl rfl
theorem nj : Elt Tryz.prog 102 11 104 [Iv 0, Iv 0, Iv 0, Iv 0, Iv 0, Iv 0, Iv 0, Iv 0, Iv 0, Iv 0, .slice none 0 0] := .of (.agg #[Iv 0, Iv 0, Iv 0, Iv 0, Iv 0, Iv 0, Iv 0, Iv 0, Iv 0, Iv 0, .slice none 0 0]) (by kernel_rfl) rfl rfl rfl rfl
theorem jZ : Elt Tryz.prog 84 10 96 [Iv 0, Iv 0, Iv 0, Iv 0, Iv 0, Iv 0, Iv 0, Iv 0, Iv 0, .slice none 0 0] := .of (.agg #[Iv 0, Iv 0, Iv 0, Iv 0, Iv 0, Iv 0, Iv 0, Iv 0, Iv 0, .slice none 0 0]) (by kernel_rfl) rfl rfl rfl rfl
def V9 (_ : HA) (x : List UInt8) (r : List Value) : Prop := r = [str x]
theorem V9.up {G F : HA} (_ : Up G F) : ∀ x r, V9 G x r → V9 F x r := fun _ _ h => h
def ba (F : HA) (x : Int × Int × Int × List UInt8 × Int) (r : List Value) : Prop := ∃ (a3 : Option Addr) (c3 : Nat), r = [.int .i64 x.1, .int .i64 x.2.1, .int .i64 x.2.2.1, .slice a3 x.2.2.2.1.length c3, .int .i64 x.2.2.2.2] ∧ (Rd F a3 (aL x.2.2.2.1) ∧ x.2.2.2.1.length ≤ c3 ∧ c3 ≤ maxLen)
theorem ba.up {G F : HA} (u : Up G F) : ∀ x r, ba G x r → ba F x r := by
  rintro x r ⟨a3, c3, e, ⟨h3, k3, m3⟩⟩
  exact ⟨a3, c3, e, ⟨h3.up u, k3, m3⟩⟩
def V3 (_ : HA) (x : Int) (r : List Value) : Prop := r = [.int .i64 x]
theorem V3.up {G F : HA} (_ : Up G F) : ∀ x r, V3 G x r → V3 F x r := fun _ _ h => h
def V33 (F : HA) (x : List UInt8) (r : List Value) : Prop := ∃ (a0 : Option Addr) (c0 : Nat), r = [.slice a0 x.length c0] ∧ (Rd F a0 (aL x) ∧ x.length ≤ c0 ∧ c0 ≤ maxLen)
theorem V33.up {G F : HA} (u : Up G F) : ∀ x r, V33 G x r → V33 F x r := by
  rintro x r ⟨a0, c0, e, ⟨h0, k0, m0⟩⟩
  exact ⟨a0, c0, e, ⟨h0.up u, k0, m0⟩⟩
def V35 (F : HA) (x : Int × Int × Int × List UInt8) (r : List Value) : Prop := ∃ (a3 : Option Addr) (c3 : Nat), r = [.int .i64 x.1, .int .i64 x.2.1, .int .i64 x.2.2.1, .slice a3 x.2.2.2.length c3] ∧ (Rd F a3 (aL x.2.2.2) ∧ x.2.2.2.length ≤ c3 ∧ c3 ≤ maxLen)
theorem V35.up {G F : HA} (u : Up G F) : ∀ x r, V35 G x r → V35 F x r := by
  rintro x r ⟨a3, c3, e, ⟨h3, k3, m3⟩⟩
  exact ⟨a3, c3, e, ⟨h3.up u, k3, m3⟩⟩
def Cr (x : Int × Int × Int × List UInt8) : Prop := okI .i64 x.1 ∧ okI .i64 x.2.1 ∧ okI .i64 x.2.2.1 ∧ x.2.2.2.length ≤ 140737488351232
def gh (F : HA) (x : Int × Int × Int × Int × Int × Int × Int × Int × Int × Int × List UInt8) (r : List Value) : Prop := ∃ (b : Option Addr) (a : Nat), r = [.int .i64 x.1, .int .i64 x.2.1, .int .i64 x.2.2.1, .int .i64 x.2.2.2.1, .int .i64 x.2.2.2.2.1, .int .i64 x.2.2.2.2.2.1, .int .i64 x.2.2.2.2.2.2.1, .int .i64 x.2.2.2.2.2.2.2.1, .int .i64 x.2.2.2.2.2.2.2.2.1, .int .i64 x.2.2.2.2.2.2.2.2.2.1, .slice b x.2.2.2.2.2.2.2.2.2.2.length a] ∧ (Rd F b (aL x.2.2.2.2.2.2.2.2.2.2) ∧ x.2.2.2.2.2.2.2.2.2.2.length ≤ a ∧ a ≤ maxLen)
theorem gh.up {G F : HA} (u : Up G F) : ∀ x r, gh G x r → gh F x r := by
  rintro x r ⟨a, b, e, ⟨c, d, f⟩⟩
  exact ⟨a, b, e, ⟨c.up u, d, f⟩⟩
def V56 (F : HA) (x : Int × Int × Bool × Int × Int × Int × Int × Int × (List (Int × Int × Int × List UInt8))) (r : List Value) : Prop := ∃ (a8 : Option Addr) (c8 : Nat), r = [.int .i64 x.1, .int .i64 x.2.1, .bool x.2.2.1, .int .i64 x.2.2.2.1, .int .i64 x.2.2.2.2.1, .int .i64 x.2.2.2.2.2.1, .int .i64 x.2.2.2.2.2.2.1, .int .i64 x.2.2.2.2.2.2.2.1, .slice a8 x.2.2.2.2.2.2.2.2.length c8] ∧ (RdV F 4 (V35 F) a8 x.2.2.2.2.2.2.2.2 ∧ x.2.2.2.2.2.2.2.2.length ≤ c8 ∧ c8 ≤ maxLen)
theorem V56.up {G F : HA} (u : Up G F) : ∀ x r, V56 G x r → V56 F x r := by
  rintro x r ⟨a8, c8, e, ⟨h8, k8, m8⟩⟩
  exact ⟨a8, c8, e, ⟨h8.up u (V35.up u), k8, m8⟩⟩
def Dl (x : Int × Int × Bool × Int × Int × Int × Int × Int × (List (Int × Int × Int × List UInt8))) : Prop := okI .i64 x.1 ∧ okI .i64 x.2.1 ∧ True ∧ okI .i64 x.2.2.2.1 ∧ okI .i64 x.2.2.2.2.1 ∧ okI .i64 x.2.2.2.2.2.1 ∧ okI .i64 x.2.2.2.2.2.2.1 ∧ okI .i64 x.2.2.2.2.2.2.2.1 ∧ (x.2.2.2.2.2.2.2.2.length * 48 ≤ 140737488351232 ∧ ∀ y ∈ x.2.2.2.2.2.2.2.2, Cr y)
def V84 (F : HA) (x : Int × Int × Int × Int × Int × Int × Int × Int × Int × List UInt8) (r : List Value) : Prop := ∃ (a9 : Option Addr) (c9 : Nat), r = [.int .i64 x.1, .int .i64 x.2.1, .int .i64 x.2.2.1, .int .i64 x.2.2.2.1, .int .i64 x.2.2.2.2.1, .int .i64 x.2.2.2.2.2.1, .int .i64 x.2.2.2.2.2.2.1, .int .i64 x.2.2.2.2.2.2.2.1, .int .i64 x.2.2.2.2.2.2.2.2.1, .slice a9 x.2.2.2.2.2.2.2.2.2.length c9] ∧ (Rd F a9 (aL x.2.2.2.2.2.2.2.2.2) ∧ x.2.2.2.2.2.2.2.2.2.length ≤ c9 ∧ c9 ≤ maxLen)
theorem V84.up {G F : HA} (u : Up G F) : ∀ x r, V84 G x r → V84 F x r := by
  rintro x r ⟨a9, c9, e, ⟨h9, k9, m9⟩⟩
  exact ⟨a9, c9, e, ⟨h9.up u, k9, m9⟩⟩
abbrev ml (e : Int) : Value := .iface 123 (.agg #[.int .i64 e])
theorem mixed : Tryz.prog.follows .mixedOrders = true := by kernel_rfl
def kY.f  : Option ((List ((List UInt8) × (List UInt8 × Int))) × List UInt8 × Int × Bool) := some (([] : List ((List UInt8) × (List UInt8 × Int))), ([] : List UInt8), 0, false)
theorem kY.calls (W : World) (F : HA)   :
    Fn Tryz.prog W 16 [] [] F (kY.f ) (fun r (y : Nat × Nat × Kps) => Pt y.1) (fun r y => [W1 y.1 y.2.1 r.2, ax (au y.2.1 aB ar y.2.2) ak y.2.2 r.1]) := by
 unfold kY.f
 refine aX 4 Tryz.func16 O Tryz.ntmps16 O (sr (oA O (nx (oE (zc (ek := aB) (fp := ak) O) O ?_))))
 intro b
 refine vq (cW (v := .agg #[.map (some b), str ([] : Lb), Iv 0, .bool false]) O O (fun _ => by kernel_rfl)) O (oE (cH O O O) O ?_)
 intro c
 refine oA O (oT (ay ?_))
 exact aJ (c, b, ([] : Kps)) O O O (.a (.a (.a .n)))

def jI.f  : Option (Unit) := some ()
theorem jI.calls (W : World) (F : HA) (m0 : Nat)  :
    Fn Tryz.prog W 70 [.map (some m0)] [] F (jI.f ) (fun r (y : Nat) => .func (.func 98) #[] #[Pt y]) (fun r y => [obj y 95 [.map (some m0)]]) := by
 unfold jI.f
 refine aX 4 Tryz.func70 O Tryz.ntmps70 O (sr (oE (cH O O O) O ?_))
 intro b
 refine oA O (nx (vq (jj O O O) O (oA O (oT (ay ?_)))))
 exact aJ b O O O (.a (.a .n))

def dQ.f (a : List ((List UInt8) × (List UInt8 × Int))) : Option (List (List UInt8)) := if (a.map (·.1)).Nodup ∧ a.length * 16 ≤ 140737488355328 ∧ ∀ p ∈ a, p.1.length ≤ 140737488351232 then some (gb a) else none
theorem dQ.calls (W : World) (F : HA) (d a : Nat) (b : Kps) (c : List (Lb × (Lb × Int))) :
    Fn Tryz.prog W 69 [.func (.func 98) #[] #[Pt d]] [obj d 95 [.map (some a)], ax (au a aB ar b) ak b c] F (dQ.f c) (fun r (y : Option Addr × Nat) => .slice y.1 r.length y.2) (fun r y => [ah 9 1 (V9 tt) y.1 r y.2, obj d 95 [.map (some a)], ax (au a aB ar b) ak b c]) := by
  unfold dQ.f
  exact wG fun F => yk (V := (V9 tt)) (fun _ => O) fR (fun w D0 nn => sn w D0 nn a d)

def ja.f (a : List ((List UInt8) × (List UInt8 × Int))) (c : List UInt8) (d : Int) (e : Bool) : Option (List (List UInt8)) := (jI.f).bind fun g => ((dQ.f a).bind fun b => (some b))
theorem ja.calls (W : World) (F : HA) (b0 d : Nat) (e : Kps) (g : List (Lb × (Lb × Int))) (h : Lb) (i : Int) (j : Bool)  :
    Fn Tryz.prog W 29 [Pt b0] [W0 b0 d h i j, ax (au d aB ar e) ak e g] F (ja.f g h i j) (fun r (y : Option Addr × Nat) => .slice y.1 r.length y.2) (fun r y => [ah 9 1 (V9 tt) y.1 r y.2, W0 b0 d h i j, ax (au d aB ar e) ak e g]) := by
 unfold ja.f
 refine aX 9 Tryz.func29 O Tryz.ntmps29 O (sr (oA O (nx (oM O (oN O (vq (oF O bD O fx O) O (vq (oL O fL 0 O) O (aj (fun o m => (oE (oC (vs := [.map (some d)]) (cap := []) (A := []) O call70 (.a (.a (.a .n))) (jI.calls _ _ d ) m) O ?_))))))))))
 intro k
 refine aj (fun p n => (oE (oC (vs := [.func (.func 98) #[] #[Pt k]]) (cap := []) (A := [obj k 95 [.map (some d)], ax (au d aB ar e) ak e g]) O call69 (.a (.b (.a (.a .n)))) (dQ.calls _ _ k d e g ) n) O ?_))
 intro l
 refine oA O (oT (ay ?_))
 exact aJ l O O O (.a (.c (.b (.b .n))))

def gc.l0 (x0 : List UInt8) : Nat → Int → Int → Option ((Int) ⊕ (Int × Bool))
  | 0, _, _ => none
  | k + 1, b, a => if a < ((cut x0 (4 : Int) (x0.length : Int)).length : Int) then (if 0 ≤ a ∧ a < ((cut x0 (4 : Int) (x0.length : Int)).length : Int) then (if ((decide ((((cut x0 (4 : Int) (x0.length : Int)).getD a.toNat 0).toNat : Int) < (48 : Int))) || (decide ((57 : Int) < (((cut x0 (4 : Int) (x0.length : Int)).getD a.toNat 0).toNat : Int)))) = true then (some (.inr (0, false))) else (gc.l0 x0 k (IntKind.i64.wrap ((IntKind.i64.wrap (10 * b)) + (IntKind.i64.wrap (IntKind.u8.wrap ((((cut x0 (4 : Int) (x0.length : Int)).getD a.toNat 0).toNat : Int) - 48))))) (IntKind.i64.wrap (a + 1)))) else none) else (some (.inl b))
def gc.f (k : Nat) (x0 : List UInt8) : Option (Int × Bool) := (if (x0.length : Int) = (12 : Int) then (if 0 ≤ (0 : Int) ∧ (0 : Int) ≤ (4 : Int) ∧ (4 : Int) ≤ (x0.length : Int) then (some (!decide ((cut x0 (0 : Int) (4 : Int)) = ([119, 97, 108, 45] : List UInt8)))) else none) else (some true)).bind fun b => (if b = true then (some (0, false)) else (orR (if 0 ≤ (4 : Int) ∧ (4 : Int) ≤ (x0.length : Int) ∧ (x0.length : Int) ≤ (x0.length : Int) then (if (cut x0 (4 : Int) (x0.length : Int)).length ≤ 140737488355328 then (gc.l0 x0 k 0 0) else none) else none) fun a => (some (a, decide ((0 : Int) < a)))))
theorem gc.calls (W : World) (F : HA) (k : Nat) (x0 : Lb)  :
    Fn Tryz.prog W 11 [str x0] [] F (gc.f k x0) (fun r (y : Unit) => .tuple #[Iv r.1, .bool r.2]) (fun r y => []) := by
 unfold gc.f
 refine aX 39 Tryz.func11 O Tryz.ntmps11 O (sr (oA O (oA O (oT (ap (sr (oM O (vq (qe O O O fR) O (vq (ej O O O) O (oM O ?_))))))))))
 refine eG 4 (S := Bool) Unit (fun s y => [(0, str x0), (14, .bool s)]) (fun s y => [F]) ?_ ?_
 refine so (fun m => ?_) (fun n => ?_)
 rw [m]
 refine oS O (oS O (oS O (vq (bZ O O O O O) O (aw ?_))))
 exact aF (s := true) () ⟨O, O, trivial⟩ (.a .n)
 rw [n]
 refine aK (am O O) O O O O O O (bo (fun o => (aK (zd (lo' := (0 : Int)) (hi' := (4 : Int)) O O O O fR (.inr ⟨_, O⟩) (.inl ⟨O, O⟩) o) O O O O O O (aK (C2 O O O) O O O O O O (vq (bZ O O O O O) O (aw ?_))))))
 exact aF (s := !decide ((cut x0 (0 : Int) (4 : Int)) = ([119, 97, 108, 45] : Lb))) () ⟨O, O, trivial⟩ (.a .n)
 intro ab ad
 refine oT ?_
 refine bm O (fun af => ?_) (fun ag => ?_)
 refine sr (oA O (oA O (oT (ay (aY ?_)))))
 exact aJ () O O O (.a .n)
 refine aA (ai (sr (oA O (oT ?_))))
 refine iA (S := Int) Unit (fun s y => [(4, Iv s)]) (fun s y => [F]) ?_ ?_
 refine sr (oM O (bo (fun h => (vq (zd (lo' := (4 : Int)) (hi' := (x0.length : Int)) O O O O fR (.inl ⟨O, O⟩) (.inr ⟨_, O⟩) h) O (bo (fun i => (oE (yl O O fR aH eP i) O ?_)))))))
 intro d
 refine vq (bL O O O aH) O (oM O (oT (aZ ?_)))
 refine da (S := Int × Int) Unit (fun k s => gc.l0 x0 k s.1 s.2) (fun s y => [(4, Iv s.1), (17, .slice (some ⟨d.1, 0, none⟩) ((cut x0 (4 : Int) (x0.length : Int)).length) d.2), (18, Iv ((cut x0 (4 : Int) (x0.length : Int)).length : Int)), (19, Iv s.2)]) (fun s y => [Row 5 1 (some ⟨d.1, 0, none⟩) (cut x0 (4 : Int) (x0.length : Int)).length d.2 (aL (cut x0 (4 : Int) (x0.length : Int))), F]) (fun _ => by rw [gc.l0]) ?_ k (0, 0) () ⟨O, O, O, O, trivial⟩ (.a (.a .n))
 intro k c t
 refine dW (by rw [gc.l0]) (sr (vq (dG O O O) O (oT (ap ?_))))
 refine bu O (fun u => ?_) (fun v => ?_)
 refine aA (ai (ap (aZ (sr (bo (fun e => (uL 0 O (lu (j := c.2.toNat) (by omega)) (fun w p g => (vq (mj O O O g aH fB e.1 e.2) O (vq (dR O O isAgg5 (.row' 0 O g (kD (by omega)))) O (oA O (oT (ap (sr (oM O (vq (dG O O O) O (oM O (ao (b := decide ((((cut x0 (4 : Int) (x0.length : Int)).getD c.2.toNat 0).toNat : Int) < (48 : Int))) (fun q => RQ.sub (E' := [(6, .int .u8 (((cut x0 (4 : Int) (x0.length : Int)).getD c.2.toNat 0).toNat : Int))]) ⟨O, trivial⟩ (am O O)) O O O O O (ao (b := decide ((((cut x0 (4 : Int) (x0.length : Int)).getD c.2.toNat 0).toNat : Int) < (48 : Int))) (fun l => RQ.sub (E' := [(26, .int .u8 (((cut x0 (4 : Int) (x0.length : Int)).getD c.2.toNat 0).toNat : Int))]) ⟨aN O l, trivial⟩ (dO O O O)) O O O O O (vq (ik O O O) O (oT ?_)))))))))))))))))))))
 refine bm O (fun x => ?_) (fun z => ?_)
 refine sr (oA O (oA O (oT (ay (aY (bI (aY (ij (bI (gP ?_))))))))))
 exact aJ () O O O (.b .n)
 refine aA (ai (aG (oM O (vq (A6 O O O) O (oM O (vq (eL O O O) O (vq (jN O O eP fi) O (vq (cn O O O) O (oA O (aw (bz (ai (aG (vq (cn O O O) O (oM O (aw ?_))))))))))))))))
 exact bT (s := (IntKind.i64.wrap ((IntKind.i64.wrap (10 * c.1)) + (IntKind.i64.wrap (IntKind.u8.wrap ((((cut x0 (4 : Int) (x0.length : Int)).getD c.2.toNat 0).toNat : Int) - 48)))), IntKind.i64.wrap (c.2 + 1))) () ⟨O, O, O, O, trivial⟩ (.a (.a .n))
 refine dt (cK (cU (cN ?_)))
 exact gx (s := c.1) () ⟨O, trivial⟩ (.b .n)
 intro al an
 refine sr (oM O (oM O (vq (dO O O O) O (oA O (oA O (oT (ay ?_)))))))
 exact aJ () O O O (.a .n)

def kt.f (x0 : Int) : Option (List UInt8) := if -9223372036854775808 ≤ x0 ∧ x0 ≤ 9223372036854775807 then some (Lib.itoa x0) else none
theorem kt.calls (W : World) (F : HA) (x0 : Int) (hgl : Glb Tryz.prog F) :
    Fn Tryz.prog W 39 [Iv x0] [] F (kt.f x0) (fun r (y : Unit) => str r) (fun r y => []) := by
  unfold kt.f
  exact Cs (fun h => By hgl (fun w ht => Any.strconv_Itoa Ct x0 h.1 h.2 w ht))

def ip.l0 : Nat → List UInt8 → Option (List UInt8)
  | 0, _ => none
  | k + 1, a => if (a.length : Int) < (8 : Int) then (if ([48] : List UInt8).length + a.length ≤ 9223372036854775807 then (ip.l0 k (([48] : List UInt8) ++ a)) else none) else (some a)
def ip.f (k : Nat) (x0 : Int) : Option (List UInt8 × Int) := if ((decide (x0 < (1 : Int))) || (decide ((99999999 : Int) < x0))) = true then (some (([] : List UInt8), 1)) else ((kt.f x0).bind fun b => ((ip.l0 k b).bind fun a => (if ([119, 97, 108, 45] : List UInt8).length + a.length ≤ 9223372036854775807 then (some (([119, 97, 108, 45] : List UInt8) ++ a, 0)) else none)))
theorem ip.calls (W : World) (F : HA) (k : Nat) (x0 : Int) (hgl : Glb Tryz.prog F) :
    Fn Tryz.prog W 10 [Iv x0] [] F (ip.f k x0) (fun r (y : Unit) => .tuple #[str r.1, Iv r.2]) (fun r y => []) := by
 unfold ip.f
 refine aX 20 Tryz.func10 O Tryz.ntmps10 O (sr (oA O (oA O (oT (ap (sr (oM O (vq (dG O O O) O (oM O (ao (b := decide (x0 < (1 : Int))) (fun j => RQ.sub (E' := [(0, Iv x0)]) ⟨O, trivial⟩ (am O O)) O O O O O (ao (b := decide (x0 < (1 : Int))) (fun c => RQ.sub (E' := [(8, Iv x0)]) ⟨aN O c, trivial⟩ (dO O O O)) O O O O O (vq (ik O O O) O (oT ?_)))))))))))))
 refine bm O (fun n => ?_) (fun o => ?_)
 refine sr (oA O (oA O (oT (ay (aY ?_)))))
 exact aJ () O O O (.a .n)
 refine aA (ai (sr (oM O (aj (fun i h => (oE (oC (vs := [Iv x0]) (cap := []) (A := []) O call39 (.a .n) (kt.calls _ _ x0 (hgl.lend 0 O)) h) O ?_))))))
 intro p
 refine oA O (oT ?_)
 refine bP (S := Lb) Unit (fun s y => [(4, str s)]) (fun s y => [F]) ?_ ?_
 refine aZ ?_
 refine da (S := Lb) Unit (fun k s => ip.l0 k s) (fun s y => [(4, str s)]) (fun s y => [F]) (fun _ => by rw [ip.l0]) ?_ k i () ⟨O, trivial⟩ (.a .n)
 intro k g q
 refine dW (by rw [ip.l0]) (ap (sr (oM O (vq (qe O O O fR) O (vq (dG O O O) O (oT ?_))))))
 refine bu O (fun l => ?_) (fun m => ?_)
 refine aA (ai (aZ (aG (oM O (bo (fun d => (vq (A7 O O O d) O (oA O (aw (bz ?_))))))))))
 exact bT (s := ([48] : Lb) ++ g) () ⟨O, trivial⟩ (.a .n)
 refine dt (cK (cU (cN ?_)))
 exact aF (s := g) () ⟨O, trivial⟩ (.a .n)
 intro t u
 refine sr (oM O (bo (fun e => (vq (A7 O O O e) O (oA O (oA O (oT (ay ?_))))))))
 exact aJ () O O O (.a .n)

def cm.f (x0 : Int) : Option (Unit) := if x0 = (0 : Int) then (some ()) else (none)
theorem cm.calls (W : World) (F : HA) (x0 : Int)  :
    Fn Tryz.prog W 43 [Iv x0] [] F (cm.f x0) (fun r (y : Unit) => .tuple #[]) (fun r y => []) := by
 unfold cm.f
 refine aX 7 Tryz.func43 O Tryz.ntmps43 O (sr (oM O (vq (ej O O O) O (oT ?_))))
 refine eN O (fun b => ?_) (fun c => ?_)
 refine aA ?_
 exact gw () O O O (.a .n)
 exact lQ

def cA.f (k : Nat) (x0 : Int) : Option (List UInt8) := (ip.f k x0).bind fun a => ((cm.f a.2).bind fun b => (some a.1))
theorem cA.calls (W : World) (F : HA) (k : Nat) (x0 : Int) (hgl : Glb Tryz.prog F) :
    Fn Tryz.prog W 47 [Iv x0] [] F (cA.f k x0) (fun r (y : Unit) => str r) (fun r y => []) := by
 unfold cA.f
 refine aX 13 Tryz.func47 O Tryz.ntmps47 O (sr (oA O (nx (oM O (aj (fun b c => (oE (oC (vs := [Iv x0]) (cap := []) (A := []) O call10 (.a .n) (ip.calls _ _ k x0 (hgl.lend 0 O)) c) O ?_)))))))
 intro e
 refine oM O (vq (bY O O O) O (vq (bY O O O) O (oA O (oA O (nx (oM O (aj (fun g d => (oE (oC (vs := [Iv b.2]) (cap := []) (A := []) O dN (.a .n) (cm.calls _ _ b.2 ) d) O ?_)))))))))
 intro h
 refine nx (oM O (oA O (oT (ay ?_))))
 exact aJ () O O O (.a .n)

def fP.l0 (x0 : List UInt8) : Nat → Int → Option ((Unit) ⊕ (Bool))
  | 0, _ => none
  | k + 1, a => if a < (x0.length : Int) then (if 0 ≤ a ∧ a < (x0.length : Int) then ((if ((decide (((x0.getD a.toNat 0).toNat : Int) < (97 : Int))) || (decide ((122 : Int) < ((x0.getD a.toNat 0).toNat : Int)))) = true then (some ((decide (((x0.getD a.toNat 0).toNat : Int) < (48 : Int))) || (decide ((57 : Int) < ((x0.getD a.toNat 0).toNat : Int))))) else (some false)).bind fun b => (if ((b && (!decide (((x0.getD a.toNat 0).toNat : Int) = (45 : Int)))) && (!decide (((x0.getD a.toNat 0).toNat : Int) = (46 : Int)))) = true then (some (.inr false)) else (fP.l0 x0 k (IntKind.i64.wrap (a + 1))))) else none) else (some (.inl ()))
def fP.f (k : Nat) (x0 : List UInt8) : Option (Bool) := orR (fP.l0 x0 k 0) fun a => (some ((decide ((0 : Int) < (x0.length : Int))) && (decide ((x0.length : Int) ≤ (32 : Int)))))
theorem fP.calls (W : World) (F : HA) (k : Nat) (x0 : Lb)  :
    Fn Tryz.prog W 56 [str x0] [] F (fP.f k x0) (fun r (y : Unit) => .bool r) (fun r y => []) := by
 unfold fP.f
 refine aX 44 Tryz.func56 O Tryz.ntmps56 O (sr (oA O (oT ?_)))
 refine iA (S := Unit) Unit (fun s y => [(0, str x0)]) (fun s y => [F]) ?_ ?_
 refine sr (oA O (oT (aZ ?_)))
 refine da (S := Int) Unit (fun k s => fP.l0 x0 k s) (fun s y => [(0, str x0), (3, Iv s)]) (fun s y => [F]) (fun _ => by rw [fP.l0]) ?_ k 0 () ⟨O, O, trivial⟩ (.a .n)
 intro k c ab
 refine dW (by rw [fP.l0]) (ap (sr (oM O (oM O (vq (qe O O O fR) O (vq (dG O O O) O (oT ?_)))))))
 refine bu O (fun ad => ?_) (fun af => ?_)
 refine aA (ai (ap (aZ (sr (oM O (oM O (bo (fun e => (vq (Cn O O O fR e.1 e.2) O (oA O (nx (oM O (vq (dG O O O) O (oM O (ao (b := decide (((x0.getD c.toNat 0).toNat : Int) < (97 : Int))) (fun p => RQ.sub (E' := [(4, .int .u8 ((x0.getD c.toNat 0).toNat : Int))]) ⟨O, trivial⟩ (am O O)) O O O O O (ao (b := decide (((x0.getD c.toNat 0).toNat : Int) < (97 : Int))) (fun g => RQ.sub (E' := [(17, .int .u8 ((x0.getD c.toNat 0).toNat : Int))]) ⟨aN O g, trivial⟩ (dO O O O)) O O O O O (vq (ik O O O) O (oM O ?_))))))))))))))))))
 refine eG 7 (S := Bool) Unit (fun s y => [(0, str x0), (3, Iv c), (4, .int .u8 ((x0.getD c.toNat 0).toNat : Int)), (27, .bool s)]) (fun s y => [F]) ?_ ?_
 refine ii (fun h => ?_) (fun i => ?_)
 rw [h]
 refine aK (am O O) O O O O O O (aK (dG O O O) O O O O O O (aK (am O O) O O O O O O (ao (b := decide (((x0.getD c.toNat 0).toNat : Int) < (48 : Int))) (fun q => RQ.sub (E' := [(4, .int .u8 ((x0.getD c.toNat 0).toNat : Int))]) ⟨O, trivial⟩ (am O O)) O O O O O (ao (b := decide (((x0.getD c.toNat 0).toNat : Int) < (48 : Int))) (fun j => RQ.sub (E' := [(24, .int .u8 ((x0.getD c.toNat 0).toNat : Int))]) ⟨aN O j, trivial⟩ (dO O O O)) O O O O O (aK (ik O O O) O O O O O O (vq (bZ O O O O O) O (aw ?_)))))))
 exact aF (s := (decide (((x0.getD c.toNat 0).toNat : Int) < (48 : Int))) || (decide ((57 : Int) < ((x0.getD c.toNat 0).toNat : Int)))) () ⟨O, O, O, O, trivial⟩ (.a .n)
 rw [i]
 refine oS O (oS O (oS O (cQ O O O O O (cQ O O O O O (oS O (vq (bZ O O O O O) O (aw ?_)))))))
 exact aF (s := false) () ⟨O, O, O, O, trivial⟩ (.a .n)
 intro d w
 refine oM O (ao (b := d) (fun t => RQ.sub (E' := [(4, .int .u8 ((x0.getD c.toNat 0).toNat : Int))]) ⟨O, trivial⟩ (am O O)) O O O O O (ao (b := d) (fun l => RQ.sub (E' := [(29, .int .u8 ((x0.getD c.toNat 0).toNat : Int))]) ⟨aN O l, trivial⟩ (ej O O O)) O O O O O (vq (fN O O O) O (oM O (ao (b := d && (!decide (((x0.getD c.toNat 0).toNat : Int) = (45 : Int)))) (fun u => RQ.sub (E' := [(4, .int .u8 ((x0.getD c.toNat 0).toNat : Int))]) ⟨O, trivial⟩ (am O O)) O O O O O (ao (b := d && (!decide (((x0.getD c.toNat 0).toNat : Int) = (45 : Int)))) (fun m => RQ.sub (E' := [(33, .int .u8 ((x0.getD c.toNat 0).toNat : Int))]) ⟨aN O m, trivial⟩ (ej O O O)) O O O O O (vq (fN O O O) O (oT ?_))))))))
 refine bm O (fun x => ?_) (fun z => ?_)
 refine sr (oA O (oT (ay (bI (aY (ij (bI (gP ?_))))))))
 exact aJ () O O O (.a .n)
 refine aA (bz (ai (aG (oM O (vq (cn O O O) O (oA O (aw ?_)))))))
 exact bT (s := IntKind.i64.wrap (c + 1)) () ⟨O, O, trivial⟩ (.a .n)
 refine dt (cK (cU (cN ?_)))
 exact gx (s := ()) () ⟨O, trivial⟩ (.a .n)
 intro ag al
 refine sr (oM O (vq (qe O O O fR) O (vq (dO O O O) O (oM O (ao (b := decide ((0 : Int) < (x0.length : Int))) (fun v => RQ.sub (E' := [(0, str x0)]) ⟨O, trivial⟩ (am O O)) O O O O O (ao (b := decide ((0 : Int) < (x0.length : Int))) (fun n => RQ.sub (E' := [(40, str x0)]) ⟨aN O n, trivial⟩ (qe O O O fR)) O O O O O (ao (b := decide ((0 : Int) < (x0.length : Int))) (fun o => RQ.sub (E' := [(41, Iv (x0.length : Int))]) ⟨aN O o, trivial⟩ (lv O O O)) O O O O O (vq (fN O O O) O (oA O (oT (ay ?_)))))))))))
 exact aJ () O O O (.a .n)

def eH.f (a : List ((List UInt8) × (List UInt8 × Int))) (b : List UInt8) (c : Int) (d : Bool) (x1 : List UInt8) : Option (Bool) := if (aW a x1).isSome = true then (some true) else (some false)
theorem eH.calls (W : World) (F : HA) (b0 c : Nat) (b : Kps) (d : List (Lb × (Lb × Int))) (e : Lb) (g : Int) (h : Bool) (x1 : Lb)  :
    Fn Tryz.prog W 57 [Pt b0, str x1] [W0 b0 c e g h, ax (au c aB ar b) ak b d] F (eH.f d e g h x1) (fun r (y : Unit) => .bool r) (fun r y => [W0 b0 c e g h, ax (au c aB ar b) ak b d]) := by
 unfold eH.f
 refine aX 12 Tryz.func57 O Tryz.ntmps57 O (sr (oA O (oT (ap ?_))))
 refine ji (fun i => ?_) (fun i => ?_)
 refine aG (oM O (oN O (vq (oF O bD O fx O) O (vq (oL O fL 0 O) O (oM O (vq ((nX (ek := aB) x1 (lc 1 O) i O O O ey nB : RQ _ _ _ _ (.pointer (some ⟨(dS b x1), 0, none⟩)))) O (vq (C3 O O O fH) O (oA O (oT (ay ?_))))))))))
 exact aJ () O O O (.a (.a (.a .n)))
 refine aG (oM O (oN O (vq (oF O bD O fx O) O (vq (oL O fL 0 O) O (oM O (vq (nY (ek := aB) x1 (lc 1 O) (md i) O O O ey nB ke) O (vq (Cj O O O fH) O (oA O (oT (ay ?_))))))))))
 exact aJ () O O O (.a (.a (.a .n)))
def eH.v (a : List ((List UInt8) × (List UInt8 × Int))) (b : List UInt8) (c : Int) (d : Bool) (x1 : List UInt8) : Bool := (eH.f a b c d x1).getD false
theorem eH.tot (a : List (Lb × (Lb × Int))) (b : Lb) (c : Int) (d : Bool) (x1 : Lb) : eH.f a b c d x1 = some (eH.v a b c d x1) := by
  have h : ∃ r, eH.f a b c d x1 = some r := by
    unfold eH.f
    repeat' (first | exact ⟨_, rfl⟩ | split | simp only [Option.bind_some])
  obtain ⟨r, h⟩ := h
  unfold eH.v
  rw [h]; rfl

def cD.f (d : List ((List UInt8) × (List UInt8 × Int))) (b : List UInt8) (a : Int) (c : Bool) : Option (Bool × List UInt8 × Int × Bool) := if a = (0 : Int) then (some (false, b, a, c)) else (some (decide (IntKind.i64.wrap (a - 1) = (0 : Int)), b, IntKind.i64.wrap (a - 1), decide (IntKind.i64.wrap (a - 1) = (0 : Int))))
theorem cD.calls (W : World) (F : HA) (b0 b : Nat) (c : Kps) (d : List (Lb × (Lb × Int))) (e : Lb) (g : Int) (h : Bool)  :
    Fn Tryz.prog W 58 [Pt b0] [W0 b0 b e g h, ax (au b aB ar c) ak c d] F (cD.f d e g h) (fun r (y : Unit) => .bool r.1) (fun r y => [W1 b0 b r.2, ax (au b aB ar c) ak c d]) := by
 unfold cD.f
 refine aX 27 Tryz.func58 O Tryz.ntmps58 O (sr (oA O (oT (ap (sr (oM O (oN O (vq (oF O bD O aa O) O (vq (oL O ae 0 O) O (vq (cr O O O) O (oT ?_)))))))))))
 refine bu O (fun i => ?_) (fun j => ?_)
 refine sr (oA O (oT (ay (aY ?_))))
 exact aJ () O O O (.a (.a (.a .n)))
 refine aA (ai (sr (oM O (oN O (vq (oF O bD O aa O) O (vq (oL O ae 0 O) O (vq (eL O O O) O (oN O (vq (oF O bD O aa O) O (bg (aI 0 O O O aa O O (aM (by rfl)) O O) O O ?_))))))))))
 intro _
 refine nx (oM O (oM O (oN O (vq (oF O bD O aa O) O (vq (oL O ae 0 O) O (vq (cr O O O) O (oN O (vq (oF O bD O cM O) O (bg (aI 0 O O O cM O O (aM (by rfl)) O O) O O ?_)))))))))
 intro _
 refine nx (oM O (oN O (vq (oF O bD O cM O) O (vq (oL O dY 0 O) O (oA O (oT (ay ?_)))))))
 exact aJ () O O O (.a (.a (.a .n)))
def cD.v (a : List ((List UInt8) × (List UInt8 × Int))) (b : List UInt8) (c : Int) (d : Bool) : Bool × List UInt8 × Int × Bool := (cD.f a b c d).getD (false, [], 0, false)
theorem cD.tot (a : List (Lb × (Lb × Int))) (b : Lb) (c : Int) (d : Bool) : cD.f a b c d = some (cD.v a b c d) := by
  have h : ∃ r, cD.f a b c d = some r := by
    unfold cD.f
    repeat' (first | exact ⟨_, rfl⟩ | split | simp only [Option.bind_some])
  obtain ⟨r, h⟩ := h
  unfold cD.v
  rw [h]; rfl

def fZ.f (k : Nat) (a : List ((List UInt8) × (List UInt8 × Int))) (d : List UInt8) (e : Int) (b : Bool) (x1 : List UInt8) : Option (Int × (List ((List UInt8) × (List UInt8 × Int))) × List UInt8 × Int × Bool) := if b = true then (some (11, a, d, e, b)) else ((fP.f k x1).bind fun g => (if (!g) = true then (some (7, a, d, e, b)) else ((eH.f a d e b x1).bind fun h => (if h = true then (some (9, a, d, e, b)) else (if (256 : Int) ≤ (a.length : Int) then (some (10, a, d, e, b)) else ((cD.f a d e b).bind fun c => (if c.1 = true then (some (11, a, c.2.1, c.2.2.1, c.2.2.2)) else (some (0, bE a x1 (([] : List UInt8), (0 : Int)), c.2.1, c.2.2.1, c.2.2.2)))))))))
theorem fZ.calls (W : World) (F : HA) (k b0 c : Nat) (d : Kps) (e : List (Lb × (Lb × Int))) (g : Lb) (h : Int) (i : Bool) (x1 : Lb)  :
    Fn Tryz.prog W 21 [Pt b0, str x1] [W0 b0 c g h i, ax (au c aB ar d) ak d e] F (fZ.f k e g h i x1) (fun r (y : Nat × Kps) => Iv r.1) (fun r y => [W1 b0 y.1 r.2.2, ax (au y.1 aB ar y.2) ak y.2 r.2.1]) := by
 unfold fZ.f
 refine aX 35 Tryz.func21 O Tryz.ntmps21 O (sr (oA O (oT (ap (aZ (sr (oM O (oN O (vq (oF O bD O cM O) O (vq (oL O dY 0 O) O (oA O (oT ?_))))))))))))
 refine bm O (fun af => ?_) (fun ag => ?_)
 refine sr (oA O (oT (ay (bI (aY ?_)))))
 exact aJ (c, d) O O O (.a (.a (.a .n)))
 refine sr (oM O (aj (fun al n => (oE (oC (vs := [str x1]) (cap := []) (A := []) O call56 (.a (.a (.a .n))) (fP.calls _ _ k x1 ) n) O ?_))))
 intro an
 refine vq (iB O O) O (oA O (oT ?_))
 refine bm O (fun az => ?_) (fun a0 => ?_)
 refine sr (oA O (oT (ay (bI (aY ?_)))))
 exact aJ (c, d) O O O (.a (.a (.a .n)))
 refine sr (oM O (oM O (aj (fun a1 o => (oE (oC (vs := [Pt b0, str x1]) (cap := []) (A := [W0 b0 c g h i, ax (au c aB ar d) ak d e]) O call57 (.a (.a (.a .n))) (eH.calls _ _ b0 c d e g h i x1 ) o) O ?_)))))
 intro q
 refine oA O (oT ?_)
 refine bm O (fun s => ?_) (fun t => ?_)
 refine sr (oA O (oT (ay (bI (aY ?_)))))
 exact aJ (c, d) O O O (.a (.a (.a .n)))
 refine sr (oM O (oN O (vq (oF O bD O fx O) O (vq (oL O fL 0 O) O (vq (Bz (lc 1 O) O O O ey) O (vq (lw O O O) O (oA O (oT ?_))))))))
 refine bu O (fun u => ?_) (fun w => ?_)
 refine sr (oA O (oT (ay (bI (aY ?_)))))
 exact aJ (c, d) O O O (.a (.a (.a .n)))
 refine sr (oM O (aj (fun l m => (oE (oC (vs := [Pt b0]) (cap := []) (A := [W0 b0 c g h i, ax (au c aB ar d) ak d e]) O call58 (.a (.a (.a .n))) (cD.calls _ _ b0 c d e g h i ) m) O ?_))))
 intro z
 refine oA O (oT ?_)
 refine bm O (fun ab => ?_) (fun ad => ?_)
 refine sr (oA O (oT (ay (bI (aY ?_)))))
 exact aJ (c, d) O O O (.a (.a (.a .n)))
 refine aA (bz (ai (sr (oM O (oN O (vq (oF O bD O fx O) O (vq (oL O fL 0 O) O (oM O (vq (cW (v := .agg #[.slice none 0 0, Iv 0]) O O (fun _ => by kernel_rfl)) O (oE (cH O O O) O ?_))))))))))
 intro j
 refine bg (Ap (ek := aB) 2 x1 j O O O O ey nB O) O O ?_
 intro _
 refine cl (H' := [W1 b0 c l.2, ax (au c aB ar (bE d x1 j)) ak (bE d x1 j) (bE e x1 (([] : Lb), (0 : Int))), F]) ((.b (.foldU (x := x1) (p := j) (v := (([] : Lb), (0 : Int))) (none, 0) (.b (.a (.row_nil (.a .n))))))) (nx (oA O (oT (ay ?_))))
 exact aJ (c, bE d x1 j) O O O (.a (.a (.a .n)))

def mI.f (d e g b c : Int) (a : List (aP)) : Option (Int × Int) := if (0 : Int) < (a.length : Int) then (if 0 ≤ IntKind.i64.wrap ((a.length : Int) - 1) ∧ IntKind.i64.wrap ((a.length : Int) - 1) < (a.length : Int) then (some ((a.getD (IntKind.i64.wrap ((a.length : Int) - 1)).toNat aD).2.1, (a.getD (IntKind.i64.wrap ((a.length : Int) - 1)).toNat aD).1)) else none) else (some (b, c))
theorem mI.calls (W : World) (F : HA) (b0 : Nat) (h k l d e : Int) (m : Option Addr) (g : Nat) (c : List aP) (o : RdV F 5 (ba F) m c) (u : c.length ≤ g) (w : g ≤ maxLen) :
    Fn Tryz.prog W 61 [Pt b0] [W15 b0 h k l d e c m g] F (mI.f h k l d e c) (fun r (y : Unit) => .tuple #[Iv r.1, Iv r.2]) (fun r y => [W15 b0 h k l d e c m g]) := by
 unfold mI.f
 refine aX 34 Tryz.func61 O Tryz.ntmps61 O (sr (oA O (oA O (oT (ap (sr (oM O (oN O (vq (oF O aC O bR O) O (vq (oL O dn 0 O) O (vq (bL O O O bJ) O (oA O (nx (oM O (vq (dO O O O) O (oT ?_))))))))))))))))
 refine bu O (fun al => ?_) (fun an => ?_)
 refine sr (oM O (oN O (vq (oF O aC O bR O) O (vq (oL O dn 0 O) O (oM O (vq (eL O O O) O (bo (fun n => ?_))))))))
 obtain ⟨az, af, a0, p, q, x, hcell10v⟩ := RdV.pos o (Up.refl _) rfl (i := (IntKind.i64.wrap ((c.length : Int) - 1)).toNat) (by omega) aD
 obtain ⟨s, t, rfl, ⟨z, ab, ad⟩⟩ := q
 refine vq (dM O O O p bJ dX n.1 n.2) O (vq (oF O fc O aR O) O (vq (cw (vs := [Iv ((c.getD (IntKind.i64.wrap ((c.length : Int) - 1)).toNat aD).1), Iv ((c.getD (IntKind.i64.wrap ((c.length : Int) - 1)).toNat aD).2.1), Iv ((c.getD (IntKind.i64.wrap ((c.length : Int) - 1)).toNat aD).2.2.1), .slice s (((c.getD (IntKind.i64.wrap ((c.length : Int) - 1)).toNat aD).2.2.2.1).length) t]) O O cy aR O (fun j v hj => nE (hcell10v 1 O (0 + j) v (cL (off := 0) O j v hj)))) O (oE (bX O dy O) O ?_)))
 intro ag
 refine bg (aI 0 O O O aR O O (aM (by rfl)) O O) O O ?_
 intro _
 refine oT (ap (bK [[], [0], [], [2], [0, 1], rL 5] 34 O mixed (by decide) (dqo 0 [5] O O O (oF O bj O aa O) (dl 1 [] O O O (oL O ae 0 O) (dqo 2 [5] O O O (oF O bj O aa O) (dl 3 [] O O O (oL O ae 0 O) (dq 4 O O O (dx O O) (dq 5 O O O (dx O O) (.fin [(2, Iv ((c.getD (IntKind.i64.wrap ((c.length : Int) - 1)).toNat aD).2.1)), (3, Iv ((c.getD (IntKind.i64.wrap ((c.length : Int) - 1)).toNat aD).1))] O ⟨O, O, trivial⟩ (ai (ay (aY ?_))))))))))))
 exact aJ () O O O (.b (.b .n))
 refine aA (ai (ap (bK [[], [0], [0, 1], [0, 1, 2], [], [4], [4, 5], [4, 5, 6], rL 4, rL 9] 34 O mixed (by decide) (dqo 0 [0] O O O (am O O) (dq 1 O O O (bi O O) (dq 2 O O O (oF O aC O aa O) (dl 3 [] O O O (oL O ae 0 O) (dqo 4 [0] O O O (am O O) (dq 5 O O O (bi O O) (dq 6 O O O (oF O aC O aa O) (dl 7 [] O O O (oL O ae 0 O) (dq 8 O O O (dx O O) (dq 9 O O O (dx O O) (.fin [(2, Iv d), (3, Iv e)] O ⟨O, O, trivial⟩ (ai (ay ?_))))))))))))))))
 exact aJ () O O O (.a (.a .n))

def gL.f  : Option (List UInt8 × Int) := some (([] : List UInt8), 0)
theorem gL.calls (W : World) (F : HA)   :
    Fn Tryz.prog W 83 [] [] F (gL.f ) (fun r (y : Nat × Option Addr × Nat) => Pt y.1) (fun r y => [obj y.1 160 [.slice y.2.1 r.1.length y.2.2, Iv r.2], Row 5 1 y.2.1 r.1.length y.2.2 (aL r.1)]) := by
 unfold gL.f
 refine aX 3 Tryz.func83 O Tryz.ntmps83 O (sr (oA O (nx (vq (cW (v := .agg #[.slice none 0 0, Iv 0]) O O (fun _ => by kernel_rfl)) O (oE (cH O O O) O ?_)))))
 intro b
 refine oA O (oT (ay ?_))
 exact aJ (b, none, 0) O O O (.a (.row_nil (.a .n)))

def gr.l0 : Nat → Int → Int → Option (Int)
  | 0, _, _ => none
  | k + 1, a, b => if (128 : Int) ≤ a then (gr.l0 k (Int.fdiv a (2 ^ (min (7 : Int).toNat IntKind.i64.bits))) (IntKind.i64.wrap (b + 1))) else (some b)
def gr.f (k : Nat) (x0 : Int) : Option (Int) := if ((decide (x0 < (0 : Int))) || (decide ((4611686018427387904 : Int) < x0))) = true then (some 0) else ((gr.l0 k x0 1).bind fun a => (some a))
theorem gr.calls (W : World) (F : HA) (k : Nat) (x0 : Int)  :
    Fn Tryz.prog W 106 [Iv x0] [] F (gr.f k x0) (fun r (y : Unit) => Iv r) (fun r y => []) := by
 unfold gr.f
 refine aX 17 Tryz.func106 O Tryz.ntmps106 O (sr (oA O (oT (ap (sr (oM O (vq (dG O O O) O (oM O (ao (b := decide (x0 < (0 : Int))) (fun e => RQ.sub (E' := [(0, Iv x0)]) ⟨O, trivial⟩ (am O O)) O O O O O (ao (b := decide (x0 < (0 : Int))) (fun d => RQ.sub (E' := [(7, Iv x0)]) ⟨aN O d, trivial⟩ (dO O O O)) O O O O O (vq (ik O O O) O (oT ?_))))))))))))
 refine bm O (fun h => ?_) (fun i => ?_)
 refine sr (oA O (oT (ay (aY ?_))))
 exact aJ () O O O (.a .n)
 refine aA (ai (sr (oA O (oT ?_))))
 refine bP (S := Int) Unit (fun s y => [(3, Iv s)]) (fun s y => [F]) ?_ ?_
 refine aZ ?_
 refine da (S := Int × Int) Unit (fun k s => gr.l0 k s.1 s.2) (fun s y => [(0, Iv s.1), (3, Iv s.2)]) (fun s y => [F]) (fun _ => by rw [gr.l0]) ?_ k (x0, 1) () ⟨O, O, trivial⟩ (.a .n)
 intro k c j
 refine dW (by rw [gr.l0]) (ap (sr (oM O (vq (lw O O O) O (oT ?_)))))
 refine bu O (fun l => ?_) (fun g => ?_)
 refine aA (ai (aZ (sr (oM O (vq (qO O O O (by decide)) O (oA O (ny (oM O (vq (cn O O O) O (oA O (aw (bz ?_))))))))))))
 exact bT (s := (Int.fdiv c.1 (2 ^ (min (7 : Int).toNat IntKind.i64.bits)), IntKind.i64.wrap (c.2 + 1))) () ⟨O, O, trivial⟩ (.a .n)
 refine dt (cK (cU (cN ?_)))
 exact aF (s := c.2) () ⟨O, trivial⟩ (.a .n)
 intro m n
 refine sr (oM O (oA O (oT (ay ?_))))
 exact aJ () O O O (.a .n)

def eE.l0 {S : Type} (step : S → Int → Option S) : Nat → Int → S → Option (Int × S)
  | 0, _, _ => none
  | k + 1, a, b => if (128 : Int) ≤ a then ((step b (IntKind.u8.wrap (df .or .i64 (df .and .i64 a 127) 128))).bind fun c => (eE.l0 step k (Int.fdiv a (2 ^ (min (7 : Int).toNat IntKind.i64.bits))) c)) else (some (a, b))
def eE.f {S : Type} (k : Nat) (step : S → Int → Option S) (s0 : S) (b : Int) : Option (S) := (eE.l0 step k b s0).bind fun a => ((step a.2 (IntKind.u8.wrap a.1)).bind fun c => (some c))
theorem eE.calls (W : World) (F : HA) (k : Nat) (S Y : Type) (l : Nat) (step : S → Int → Option S) (A : S → Y → HA) (s0 : S) (y0 : Y) (b1 : Nat) (c : Int) (hY : qP Tryz.prog W l (fun (x : Int) => [.int .u8 x]) step A) :
    Fn Tryz.prog W 126 [.func (.yield l) #[] #[], Pt b1] [A s0 y0, obj b1 3 [Iv c]] F (eE.f k step s0 c) (fun r (y : Y) => .tuple #[]) (fun r y => [A r y, obj b1 3 [Iv c]]) := by
 unfold eE.f
 refine aX 20 Tryz.func126 O Tryz.ntmps126 O (sr (vq (oL O ae 1 O) O (oA O (oT ?_))))
 refine bP (S := Int × S) Y (fun s y => [(0, .func (.yield l) #[] #[]), (3, Iv s.1)]) (fun s y => [obj b1 3 [Iv c], A s.2 y, F]) ?_ ?_
 refine aZ ?_
 refine da (S := Int × S) Y (fun k s => eE.l0 step k s.1 s.2) (fun s y => [(0, .func (.yield l) #[] #[]), (3, Iv s.1)]) (fun s y => [obj b1 3 [Iv c], A s.2 y, F]) (fun _ => by rw [eE.l0]) ?_ k (c, s0) y0 ⟨O, O, trivial⟩ (.b (.a (.a .n)))
 intro k d j
 refine dW (by rw [eE.l0]) (ap (sr (oM O (vq (lw O O O) O (oT ?_)))))
 refine bu O (fun p => ?_) (fun q => ?_)
 refine aA (ai (aZ (ap (sr (oM O (oM O (vq (vf O O O) O (vq (sq O O O) O (vq (jN O O fi eP) O (aj (fun m e => (oE (vg (IntKind.u8.wrap (df .or .i64 (df .and .i64 d.1 127) 128)) 1 O O O O O O hY O e) O ?_))))))))))))
 intro h
 refine vq (iB O O) O (oT (jE O (aA (ai (aG (oM O (vq (qO O O O (by decide)) O (oA O (aw (bz ?_))))))))))
 exact bT (s := (Int.fdiv d.1 (2 ^ (min (7 : Int).toNat IntKind.i64.bits)), m)) h ⟨O, O, trivial⟩ (.a (.a (.a .n)))
 refine dt (cK (cU (cN ?_)))
 exact aF (s := d) j ⟨O, O, trivial⟩ (.a (.a (.a .n)))
 intro n t
 refine aG (oM O (oM O (vq (jN O O fi eP) O (aj (fun o g => (oE (vg (IntKind.u8.wrap n.1) 1 O O O O O O hY O g) O ?_))))))
 intro i
 refine aw ?_
 exact gw i O O O (.b (.a (.a .n)))

def lI.f (x0 : Int) : Option (Int) := some x0
theorem lI.calls (W : World) (F : HA) (x0 : Int)  :
    Fn Tryz.prog W 107 [Iv x0] [] F (lI.f x0) (fun r (y : Nat) => .func (.func 126) #[] #[Pt y]) (fun r y => [obj y 3 [Iv r]]) := by
 unfold lI.f
 refine aX 4 Tryz.func107 O Tryz.ntmps107 O (sr (oE (cH O O O) O ?_))
 intro b
 refine oA O (nx (vq (jj O O O) O (oA O (oT (ay ?_)))))
 exact aJ b O O O (.a (.a .n))

def bU.f (k : Nat) (b : List UInt8) (c x1 : Int) : Option (List UInt8 × Int) := if c = (0 : Int) then ((gr.f k x1).bind fun g => (if g = (0 : Int) then (some (b, 1)) else ((lI.f x1).bind fun h => ((eE.f k (fun (d : List UInt8) (a : Int) => if 0 ≤ a ∧ a < 256 then (if (d.length + ([(hJ a)] : List UInt8).length) * 1 ≤ 140737488355328 then (some (d ++ ([(hJ a)] : List UInt8))) else none) else none) b h).bind fun e => (some (e, c)))))) else (some (b, c))
theorem bU.calls (W : World) (F : HA) (k b0 : Nat) (j : Option Addr) (m : Nat) (g : Lb) (h x1 : Int)  :
    Fn Tryz.prog W 84 [Pt b0, Iv x1] [obj b0 160 [.slice j g.length m, Iv h], Row 5 1 j g.length m (aL g)] F (bU.f k g h x1) (fun r (y : Option Addr × Nat) => .tuple #[]) (fun r y => [obj b0 160 [.slice y.1 r.1.length y.2, Iv r.2], Row 5 1 y.1 r.1.length y.2 (aL r.1)]) := by
 unfold bU.f
 refine tF 29 Tryz.func84 O Tryz.ntmps84 O (sr (oE (cH O O O) O ?_))
 intro o
 refine oT (ap (sr (vq (oL O kk 0 O) O (oN O (vq (oF O fd O cT O) O (vq (oL O eX 1 O) O (vq (ej O O O) O (oT ?_))))))))
 refine eN O (fun af => ?_) (fun ag => ?_)
 refine aA (ai (ap (sr (oM O (aj (fun al ab => (oE (oC (vs := [Iv x1]) (cap := []) (A := []) O call106 (.a (.a (.a (.a .n)))) (gr.calls _ _ k x1 ) ab) O ?_)))))))
 intro an
 refine vq (cr O O O) O (oT ?_)
 refine bu O (fun az => ?_) (fun a0 => ?_)
 refine sr (vq (oL O kk 0 O) O (oN O (vq (oF O fd O cT O) O (bg (aI 1 O O O cT O O (aM (by rfl)) O O) O O ?_))))
 intro _
 refine oT (ay (aY ?_))
 exact qQ [] (j, m) O O O (.b (.b (.b .n)))
 refine aA (ai (sr (oM O (aj (fun p v => (oE (oC (vs := [Iv x1]) (cap := []) (A := []) O call107 (.a (.a (.a (.a .n)))) (lI.calls _ _ x1 ) v) O ?_))))))
 intro n
 refine oT (aZ ?_)
 refine ze (S := Lb) (Y := Option Addr × Nat) (R' := Lb) (Y' := (Option Addr × Nat)) (ps := [18]) (Cap := [obj n 3 [Iv p]]) (rst := []) (CapB := fun r y => [obj n 3 [Iv p]]) (enc := fun (x : Int) => [.int .u8 x]) (oN := eE.f k (fun (c : Lb) (d : Int) => if 0 ≤ d ∧ d < 256 then (if (c.length + ([(hJ d)] : Lb).length) * 1 ≤ 140737488355328 then (some (c ++ ([(hJ d)] : Lb))) else none) else none) g p) (fun s y => [obj o 133 [Pt b0], obj b0 160 [.slice y.1 s.length y.2, Iv h], Row 5 1 y.1 s.length y.2 (aL s), F]) g (j, m) (fun c d e => [(2, Pt o), (4, .int .u8 d)]) (fun r => r) (fun r y => y) O O call126 (fun l A hY X => eE.calls _ _ k _ _ l _ A _ _ n p hY) O (fun _ => O) (.b (.b (.b (.b (.a .n))))) ?_ ?_ ?_
 intro l c d e Fr
 refine gq (H' := [obj o 133 [Pt b0], obj b0 160 [.slice e.1 c.length e.2, Iv h], Row 5 1 e.1 c.length e.2 (aL c), F, Fr]) (Ent.refl _) (aG (oA O (aw ?_)))
 exact aF () ⟨O, O, trivial⟩ (Ent.refl _)
 intro l c d e Fr
 refine gq (H' := [obj o 133 [Pt b0], obj b0 160 [.slice e.1 c.length e.2, Iv h], Row 5 1 e.1 c.length e.2 (aL c), F, Fr]) (Ent.refl _) (aZ (dh (fun w => (dh (fun z => (bK [[], [], [1], [1, 2], [1, 2, 3], [], [5], [1, 2, 3, 4, 5, 6], rL 8, rL 9, rL 10] 29 O mixed (by decide) (dl 0 [2] O O O (oL O kk 0 O) (dl 1 [2] O O O (oL O kk 0 O) (dq 2 O O O (bi O O) (dq 3 O O O (oF O fd O bM O) (dl 4 [] O O O (oL O cP 1 O) (dqo 5 [4] O O O (am O O) (de 6 [] O O O O (sV (cs := [.int .u8 d]) ([(hJ d)] : Lb) O O aH ks O (by kernel_rfl) O O (zf w)) (fun ad => (ac (px [] O O O O (oL O cP 2 O)) (ac (px [2] O O O O (oL O kk 1 O)) (ac (px [2] O O O O (oL O kk 1 O)) zA)))) (fun ad => (de 7 [] O O O O (iG 3 O O O aH ks O (Rds.row 0 O) z) (fun q => (ac (px [2] O O O O (oL O kk 1 O)) zA)) (fun q => (dq 8 O O O (bi O O) (dq 9 O O O (oF O fd O bM O) (de 10 [] O O O O (aI 2 O O O bM O O (aM (by rfl)) O O) (fun _ => zA) (fun _ => (.fin [] O trivial (bz ?_))))))))))))))))))))))
 exact aF (s := c ++ ([(hJ d)] : Lb)) q trivial (.b (.b (.b (.b (.b .n)))))
 intro u t i
 refine qK (H' := [mW u, obj o 133 [Pt b0], obj b0 160 [.slice i.1 t.length i.2, Iv h], Row 5 1 i.1 t.length i.2 (aL t), F, obj n 3 [Iv p]]) (Ent.refl _) (bz ?_)
 exact BA [u] i O O O (.a (.b (.b (.b .n))))
 refine ay (aY ?_)
 exact qQ [] (j, m) O O O (.b (.b (.b .n)))

def dF.f (x0 x1 : Int) : Option (Bool) := some ((decide (x1 ≤ x0)) && (decide (x0 ≤ (4611686018427387904 : Int))))
theorem dF.calls (W : World) (F : HA) (x0 x1 : Int)  :
    Fn Tryz.prog W 105 [Iv x0, Iv x1] [] F (dF.f x0 x1) (fun r (y : Unit) => .bool r) (fun r y => []) := by
 unfold dF.f
 refine aX 12 Tryz.func105 O Tryz.ntmps105 O (sr (oA O (nx (oM O (oM O (vq (lw O O O) O (oM O (ao (b := decide (x1 ≤ x0)) (fun d => RQ.sub (E' := [(0, Iv x0)]) ⟨O, trivial⟩ (am O O)) O O O O O (ao (b := decide (x1 ≤ x0)) (fun c => RQ.sub (E' := [(9, Iv x0)]) ⟨aN O c, trivial⟩ (lv O O O)) O O O O O (vq (fN O O O) O (oA O (oT (ay ?_)))))))))))))
 exact aJ () O O O (.a .n)
def dF.v (x0 x1 : Int) : Bool := (dF.f x0 x1).getD false
theorem dF.tot (x0 x1 : Int) : dF.f x0 x1 = some (dF.v x0 x1) := by
  have h : ∃ r, dF.f x0 x1 = some r := by
    unfold dF.f
    repeat' (first | exact ⟨_, rfl⟩ | split | simp only [Option.bind_some])
  obtain ⟨r, h⟩ := h
  unfold dF.v
  rw [h]; rfl

def ce.f (c d a : Int) (b : List UInt8) : Option (Int) := (dF.f c (1 : Int)).bind fun e => ((if (!e) = true then (some true) else ((dF.f d (1 : Int)).bind fun g => (some (!g)))).bind fun h => (if h = true then (some 1) else (if ((!decide (a = (0 : Int))) && (!decide (a = (1 : Int)))) = true then (some 6) else (if (4096 : Int) < (b.length : Int) then (some 3) else (if ((decide (a = (0 : Int))) && (decide ((0 : Int) < (b.length : Int)))) = true then (some 4) else (some 0))))))
theorem ce.calls (W : World) (F : HA) (e g c : Int) (j : Option Addr) (h : Nat) (d : Lb) (ad : Rd F j (aL d)) (w : d.length ≤ h) (x : h ≤ maxLen) :
    Fn Tryz.prog W 79 [.agg #[], .agg #[Iv e, Iv g, Iv c, .slice j d.length h]] [] F (ce.f e g c d) (fun r (y : Unit) => Iv r) (fun r y => []) := by
 unfold ce.f
 refine aX 40 Tryz.func79 O Tryz.ntmps79 O (sr (oE (cH O O O) O ?_))
 intro a4
 refine oE (cH O O O) O ?_
 intro i
 refine oA O (oT (ap (aZ (sr (vq (oF O bj O aa O) O (vq (oL O ae 0 O) O (aj (fun a5 t => (oE (oC (vs := [Iv e, Iv 1]) (cap := []) (A := []) O call105 (.a (.a (.a .n))) (dF.calls _ _ e (1 : Int) ) t) O ?_)))))))))
 intro a6
 refine vq (iB O O) O (oM O ?_)
 refine eG 5 (S := Bool) Unit (fun s y => [(3, Pt i), (15, .bool s)]) (fun s y => [W8 i e g c d j h, F]) ?_ ?_
 refine ii (fun k => ?_) (fun l => ?_)
 rw [k]
 refine oS O (oS O (oS O (oS O (vq (bZ O O O O O) O (aw ?_)))))
 exact aF (s := true) () ⟨O, O, trivial⟩ (.a (.b .n))
 rw [l]
 refine aK (oF O bj O aa O) O O O O O O (aK (oL O ae 0 O) O O O O O O (aj (fun v u => (gj (oC (vs := [Iv g, Iv 1]) (cap := []) (A := []) O call105 (.a (.a (.a .n))) (dF.calls _ _ g (1 : Int) ) u) O O O O O O ?_))))
 intro af
 refine aK (iB O O) O O O O O O (vq (bZ O O O O O) O (aw ?_))
 exact aF (s := !v) () ⟨O, O, trivial⟩ (.a (.b .n))
 intro a7 a8
 refine oA O (oT ?_)
 refine bm O (fun ag => ?_) (fun al => ?_)
 refine sr (oA O (oT (ay (bI (aY ?_)))))
 exact aJ () O O O (.b .n)
 refine sr (vq (oF O bj O aa O) O (vq (oL O ae 0 O) O (vq (ej O O O) O (oM O (ao (b := !decide (c = (0 : Int))) (fun z => RQ.sub (E' := [(3, Pt i)]) ⟨O, trivial⟩ (oF O bj O aa O)) O O O O O (ao (b := !decide (c = (0 : Int))) (fun m => RQ.sub (E' := [(21, .pointer (some ⟨i, 2, none⟩))]) ⟨aN O m, trivial⟩ (oL O ae 0 O)) O O O O O (ao (b := !decide (c = (0 : Int))) (fun n => RQ.sub (E' := [(22, Iv c)]) ⟨aN O n, trivial⟩ (ej O O O)) O O O O O (vq (fN O O O) O (oA O (oT ?_))))))))))
 refine bm O (fun an => ?_) (fun az => ?_)
 refine sr (oA O (oT (ay (bI (aY ?_)))))
 exact aJ () O O O (.b .n)
 refine sr (vq (oF O bj O bM O) O (vq (oL O cP 0 O) O (vq (bL O O O aH) O (vq (dO O O O) O (oA O (oT ?_))))))
 refine bu O (fun a0 => ?_) (fun a1 => ?_)
 refine sr (oA O (oT (ay (bI (aY ?_)))))
 exact aJ () O O O (.b .n)
 refine sr (vq (oF O bj O aa O) O (vq (oL O ae 0 O) O (vq (cr O O O) O (oM O (ao (b := decide (c = (0 : Int))) (fun ab => RQ.sub (E' := [(3, Pt i)]) ⟨O, trivial⟩ (oF O bj O bM O)) O O O O O (ao (b := decide (c = (0 : Int))) (fun o => RQ.sub (E' := [(35, .pointer (some ⟨i, 3, none⟩))]) ⟨aN O o, trivial⟩ (oL O cP 0 O)) O O O O O (ao (b := decide (c = (0 : Int))) (fun p => RQ.sub (E' := [(36, .slice j d.length h)]) ⟨aN O p, trivial⟩ (bL O O O aH)) O O O O O (ao (b := decide (c = (0 : Int))) (fun q => RQ.sub (E' := [(37, Iv (d.length : Int))]) ⟨aN O q, trivial⟩ (dO O O O)) O O O O O (vq (fN O O O) O (oA O (oT ?_)))))))))))
 refine bm O (fun a2 => ?_) (fun a3 => ?_)
 refine sr (oA O (oT (ay (bI (aY ?_)))))
 exact aJ () O O O (.b .n)
 refine aA (bz (ai (sr (oA O (oT (ay ?_))))))
 exact aJ () O O O (.b .n)
def ce.v (a b c : Int) (d : List UInt8) : Int := (ce.f a b c d).getD 0
theorem ce.tot (a b c : Int) (d : Lb) : ce.f a b c d = some (ce.v a b c d) := by
  have h : ∃ r, ce.f a b c d = some r := by
    unfold ce.f
    repeat' (first | exact ⟨_, rfl⟩ | split | simp only [Option.bind_some, dF.tot])
  obtain ⟨r, h⟩ := h
  unfold ce.v
  rw [h]; rfl

def fA.f (k : Nat) (b : List UInt8) (c : Int) (x1 : List UInt8) (x2 : Int) : Option (List UInt8 × Int) := (if ((decide (c = (0 : Int))) && (decide (max x2 (0 : Int) < (x1.length : Int)))) = true then (some 3) else (some c)).bind fun d => (if d = (0 : Int) then ((bU.f k b d (x1.length : Int)).bind fun a => (if (a.1.length + x1.length) * 1 ≤ 140737488355328 then (some (a.1 ++ x1, a.2)) else none)) else (some (b, d)))
theorem fA.calls (W : World) (F : HA) (k b0 : Nat) (d : Option Addr) (e : Nat) (c : Lb) (g : Int) (a1 : Option Addr) (c1 : Nat) (x1 : Lb) (x2 : Int) (h1 : Rd F a1 (aL x1)) (x : x1.length ≤ c1) (z : c1 ≤ maxLen) :
    Fn Tryz.prog W 86 [Pt b0, .slice a1 x1.length c1, Iv x2] [obj b0 160 [.slice d c.length e, Iv g], Row 5 1 d c.length e (aL c)] F (fA.f k c g x1 x2) (fun r (y : Option Addr × Nat) => .tuple #[]) (fun r y => [obj b0 160 [.slice y.1 r.1.length y.2, Iv r.2], Row 5 1 y.1 r.1.length y.2 (aL r.1)]) := by
 unfold fA.f
 refine aX 39 Tryz.func86 O Tryz.ntmps86 O ?_
 refine bP (S := Int) Unit (fun s y => [(0, Pt b0), (1, .slice a1 x1.length c1)]) (fun s y => [obj b0 160 [.slice d c.length e, Iv s], Row 5 1 d c.length e (aL c), F]) ?_ ?_
 refine sr (oM O (oN O (vq (oF O fd O cT O) O (vq (oL O eX 0 O) O (vq (cr O O O) O (oM O (ao (b := decide (g = (0 : Int))) (fun p => RQ.sub (E' := [(1, .slice a1 x1.length c1)]) ⟨O, trivial⟩ (am O O)) O O O O O (ao (b := decide (g = (0 : Int))) (fun n => RQ.sub (E' := [(12, .slice a1 x1.length c1)]) ⟨aN O n, trivial⟩ (bL O O O aH)) O O O O O (ao (b := decide (g = (0 : Int))) (fun q => RQ.sub (E' := [(2, Iv x2)]) ⟨O, trivial⟩ (am O O)) O O O O O (ao (b := decide (g = (0 : Int))) (fun o => RQ.sub (E' := [(14, Iv x2)]) ⟨aN O o, trivial⟩ (qJ O O O)) O O O O O (ao (b := decide (g = (0 : Int))) (fun h => RQ.sub (E' := [(13, Iv (x1.length : Int)), (15, Iv (max x2 (0 : Int)))]) ⟨aN O h, aN O h, trivial⟩ (dO O O O)) O O O O O (vq (fN O O O) O (oT ?_)))))))))))))
 refine bm O (fun ab => ?_) (fun ad => ?_)
 refine aG (oM O (oN O (vq (oF O fd O cT O) O (bg (aI 0 O O O cT O O (aM (by rfl)) O O) O O ?_))))
 intro _
 refine aw ?_
 exact aF (s := 3) () ⟨O, O, trivial⟩ (.a (.a (.a .n)))
 refine aA ?_
 exact aF (s := g) () ⟨O, O, trivial⟩ (.a (.a (.a .n)))
 intro m af
 refine ap (sr (oM O (oN O (vq (oF O fd O cT O) O (vq (oL O eX 0 O) O (vq (ej O O O) O (oT ?_)))))))
 refine eN O (fun t => ?_) (fun u => ?_)
 refine aA (ai (sr (oM O (oM O (vq (bL O O O aH) O (aj (fun v j => (oE (oC (vs := [Pt b0, Iv (x1.length : Int)]) (cap := []) (A := [obj b0 160 [.slice d c.length e, Iv m], Row 5 1 d c.length e (aL c)]) O jm (.a (.a (.a .n))) (bU.calls _ _ k b0 d e c m (x1.length : Int) ) j) O ?_))))))))
 intro w
 refine ny (oM O (oM O (oN O (vq (oF O fd O bM O) O (vq (oL O cP 0 O) O (oM O (bo (fun l => ?_))))))))
 refine oE (iG 1 O O O aH ks O (h1.rds 1 O) l) O ?_
 intro i
 refine oN O (vq (oF O fd O bM O) O (bg (aI 0 O O O bM O O (aM (by rfl)) O O) O O ?_))
 intro _
 refine aw ?_
 exact gw i O O O (.a (.a (.a .n)))
 refine ay (aY ?_)
 exact aJ (d, e) O O O (.a (.a (.a .n)))

def gX.f (k : Nat) (e : List UInt8) (g h i j : Int) (l : List UInt8) : Option (List UInt8 × Int) := (bU.f k e g h).bind fun b => ((bU.f k b.1 b.2 i).bind fun c => ((bU.f k c.1 c.2 j).bind fun d => ((fA.f k d.1 d.2 l (4096 : Int)).bind fun a => (some (a.1, a.2)))))
theorem gX.calls (W : World) (F : HA) (k b0 : Nat) (e : Option Addr) (g : Nat) (b : Lb) (t : Int) (b1 : Nat) (h i j : Int) (l : Option Addr) (d : Nat) (c : Lb) (z : Rd F l (aL c)) (v : c.length ≤ d) (w : d ≤ maxLen) :
    Fn Tryz.prog W 109 [Pt b0, Pt b1] [obj b0 160 [.slice e b.length g, Iv t], Row 5 1 e b.length g (aL b), W8 b1 h i j c l d] F (gX.f k b t h i j c) (fun r (y : Option Addr × Nat) => .tuple #[]) (fun r y => [obj b0 160 [.slice y.1 r.1.length y.2, Iv r.2], Row 5 1 y.1 r.1.length y.2 (aL r.1), W8 b1 h i j c l d]) := by
 unfold gX.f
 refine aX 19 Tryz.func109 O Tryz.ntmps109 O (sr (oM O (vq (oF O bj O aa O) O (vq (oL O ae 2 O) O (aj (fun m ab => (oE (oC (vs := [Pt b0, Iv h]) (cap := []) (A := [obj b0 160 [.slice e b.length g, Iv t], Row 5 1 e b.length g (aL b)]) O jm (.a (.a (.a (.a .n)))) (bU.calls _ _ k b0 e g b t h ) ab) O ?_)))))))
 intro n
 refine nx (oM O (vq (oF O bj O aa O) O (vq (oL O ae 2 O) O (aj (fun o ad => (oE (oC (vs := [Pt b0, Iv i]) (cap := []) (A := [obj b0 160 [.slice n.1 m.1.length n.2, Iv m.2], Row 5 1 n.1 m.1.length n.2 (aL m.1)]) O jm (.a (.a (.a (.a .n)))) (bU.calls _ _ k b0 n.1 n.2 m.1 m.2 i ) ad) O ?_))))))
 intro p
 refine nx (oM O (vq (oF O bj O aa O) O (vq (oL O ae 2 O) O (aj (fun q af => (oE (oC (vs := [Pt b0, Iv j]) (cap := []) (A := [obj b0 160 [.slice p.1 o.1.length p.2, Iv o.2], Row 5 1 p.1 o.1.length p.2 (aL o.1)]) O jm (.a (.a (.a (.a .n)))) (bU.calls _ _ k b0 p.1 p.2 o.1 o.2 j ) af) O ?_))))))
 intro s
 refine ny (oM O (vq (oF O bj O bM O) O (vq (oL O cP 2 O) O (aj (fun ag x => (oE (oC (vs := [Pt b0, .slice l c.length d, Iv 4096]) (cap := []) (A := [obj b0 160 [.slice s.1 q.1.length s.2, Iv q.2], Row 5 1 s.1 q.1.length s.2 (aL q.1)]) O call86 (.a (.a (.a (.a .n)))) (fA.calls _ _ k b0 s.1 s.2 q.1 q.2 l d c (4096 : Int) (z.lend 1 O) v w) x) O ?_))))))
 intro u
 refine aw ?_
 exact gw u O O O (.a (.a (.a (.a .n))))

def iH.f (x0 : List UInt8) : Option (List UInt8) := if 0 ≤ (x0.length : Int) ∧ (x0.length : Int) ≤ (x0.length : Int) ∧ (x0.length : Int) * 1 ≤ 140737488355328 then (some (mX (List.replicate (x0.length : Int).toNat (0 : UInt8)) x0)) else none
theorem iH.calls (W : World) (F : HA) (a0 : Option Addr) (c0 : Nat) (x0 : Lb) (h0 : Rd F a0 (aL x0)) (e : x0.length ≤ c0) (g : c0 ≤ maxLen) :
    Fn Tryz.prog W 110 [.slice a0 x0.length c0] [] F (iH.f x0) (fun r (y : Option Addr × Nat) => .slice y.1 r.length y.2) (fun r y => [Row 5 1 y.1 r.length y.2 (aL r)]) := by
 unfold iH.f
 refine aX 11 Tryz.func110 O Tryz.ntmps110 O (sr (oA O (nx (oM O (vq (bL O O O aH) O (bo (fun b => (oE (pG O O O aH ks b.1 b.2.1 b.2.2) O ?_))))))))
 intro c
 refine oA O (nx (oM O (oM O ?_)))
 refine oE (Aq 0 O O O aH ks O (h0.rds 1 O)) O ?_
 intro _
 refine rz (.slice (some ⟨c, 0, none⟩) ((mX (List.replicate (x0.length : Int).toNat (0 : UInt8)) x0).length) ((x0.length : Int).toNat)) (d := 6) O (sY (mq _ _).symm) (rz (.slice (some ⟨c, 0, none⟩) ((mX (List.replicate (x0.length : Int).toNat (0 : UInt8)) x0).length) ((x0.length : Int).toNat)) (d := 3) O (sY (mq _ _).symm) (rz (.slice (some ⟨c, 0, none⟩) ((mX (List.replicate (x0.length : Int).toNat (0 : UInt8)) x0).length) ((x0.length : Int).toNat)) (d := 7) O (sY (mq _ _).symm) (nx (oM O (oA O (oT (ay ?_)))))))
 exact aJ ((some ⟨c, 0, none⟩), (x0.length : Int).toNat) O O O (.a (.a .n))

def fq.f (b : List UInt8) (a : Int) : Option (List UInt8 × Int) := if a = (0 : Int) then ((iH.f b).bind fun c => (some (c, 0))) else (some (([] : List UInt8), a))
theorem fq.calls (W : World) (F : HA) (b0 : Nat) (d : Option Addr) (c : Nat) (b : Lb) (e : Int) (j : Rd F d (aL b)) (g : b.length ≤ c) (h : c ≤ maxLen) :
    Fn Tryz.prog W 87 [Pt b0] [obj b0 160 [.slice d b.length c, Iv e]] F (fq.f b e) (fun r (y : Option Addr × Nat) => .tuple #[.slice y.1 r.1.length y.2, Iv r.2]) (fun r y => [Row 5 1 y.1 r.1.length y.2 (aL r.1), obj b0 160 [.slice d b.length c, Iv e]]) := by
 unfold fq.f
 refine aX 18 Tryz.func87 O Tryz.ntmps87 O (sr (oA O (oA O (oT (ap (sr (oM O (oN O (vq (oF O fd O cT O) O (vq (oL O eX 0 O) O (vq (ej O O O) O (oT ?_))))))))))))
 refine eN O (fun l => ?_) (fun m => ?_)
 refine aA (ai (sr (oM O (oN O (vq (oF O fd O bM O) O (vq (oL O cP 0 O) O (aj (fun n k => (oE (oC (vs := [.slice d b.length c]) (cap := []) (A := []) O call110 (.a (.a .n)) (iH.calls _ _ d c b (j.lend 1 O) g h) k) O ?_)))))))))
 intro i
 refine oA O (oA O (oT (ay ?_)))
 exact aJ i O O O (.a (.a (.a .n)))
 refine ap (bK [[], [0], [0, 1], [0, 1, 2], [], rL 5] 18 O mixed (by decide) (dqo 0 [0] O O O (am O O) (dq 1 O O O (bi O O) (dq 2 O O O (oF O fd O cT O) (dl 3 [] O O O (oL O eX 0 O) (dq 4 O O O (dx O O) (dq 5 O O O (dx O O) (.fin [(2, .slice none 0 0), (3, Iv e)] O ⟨O, O, trivial⟩ (ai (ay (aY ?_)))))))))))
 exact aJ (none, 0) O O O (.row_nil (.a (.a .n)))

def eZ.f (k : Nat) (x0 b c d : Int) (e : List UInt8) : Option (List UInt8 × Int) := if x0 = (0 : Int) then ((gL.f).bind fun g => ((gX.f k g.1 g.2 b c d e).bind fun h => ((fq.f h.1 h.2).bind fun a => (some (a.1, a.2))))) else (some (([] : List UInt8), x0))
theorem eZ.calls (W : World) (F : HA) (k : Nat) (x0 : Int) (l : Nat) (g h i : Int) (j : Option Addr) (e : Nat) (b : Lb) (t : Rd F j (aL b)) (p : b.length ≤ e) (q : e ≤ maxLen) :
    Fn Tryz.prog W 108 [Iv x0, .func (.func 109) #[] #[Pt l]] [W8 l g h i b j e] F (eZ.f k x0 g h i b) (fun r (y : Option Addr × Nat) => .tuple #[.slice y.1 r.1.length y.2, Iv r.2]) (fun r y => [Row 5 1 y.1 r.1.length y.2 (aL r.1), W8 l g h i b j e]) := by
 unfold eZ.f
 refine aX 18 Tryz.func108 O Tryz.ntmps108 O (sr (oA O (oA O (oT (ap (sr (oM O (vq (ej O O O) O (oT ?_)))))))))
 refine eN O (fun ag => ?_) (fun al => ?_)
 refine aA (ai (sr (aj (fun m x => (oE (oC (vs := []) (cap := []) (A := []) O call83 (.a (.a .n)) (gL.calls _ _ ) x) O ?_)))))
 intro d
 refine oA O (nx (oM O (oM O (aj (fun n z => (oE (oC (vs := [Pt d.1]) (cap := [Pt l]) (A := [obj d.1 160 [.slice d.2.1 m.1.length d.2.2, Iv m.2], Row 5 1 d.2.1 m.1.length d.2.2 (aL m.1), W8 l g h i b j e]) O call109 (.a (.a (.a (.a .n)))) (gX.calls _ _ k d.1 d.2.1 d.2.2 m.1 m.2 l g h i j e b (t.lend 0 O) p q) z) O ?_))))))
 intro o
 refine nx (oM O (aj (fun af u => (bw 1 O (fun ab v w ad => (oE (oC (vs := [Pt d.1]) (cap := []) (A := [obj d.1 160 [.slice o.1 n.1.length o.2, Iv n.2]]) O call87 (.a (.a (.a (.a .n)))) (fq.calls _ _ d.1 o.1 o.2 n.1 n.2 (ab.lend 0 O) v w) u) O ?_))))))
 intro s
 refine vq (bY O O O) O (vq (bY O O O) O (oA O (oA O (oT (ay ?_)))))
 exact aJ s O O O (.a (.c (.c .n)))
 refine sr (oM O (oA O (oA O (oT (ay (aY ?_))))))
 exact aJ (none, 0) O O O (.row_nil (.a (.a .n)))

def gQ.f (k : Nat) (a b c : Int) (d : List UInt8) : Option (List UInt8 × Int) := (ce.f a b c d).bind fun g => ((eZ.f k g a b c d).bind fun e => (some (e.1, e.2)))
theorem gQ.calls (W : World) (F : HA) (k : Nat) (e g h : Int) (i : Option Addr) (d : Nat) (b : Lb) (m : Rd F i (aL b)) (j : b.length ≤ d) (l : d ≤ maxLen) :
    Fn Tryz.prog W 85 [.agg #[], .agg #[Iv e, Iv g, Iv h, .slice i b.length d]] [] F (gQ.f k e g h b) (fun r (y : Option Addr × Nat) => .tuple #[.slice y.1 r.1.length y.2, Iv r.2]) (fun r y => [Row 5 1 y.1 r.1.length y.2 (aL r.1)]) := by
 unfold gQ.f
 refine aX 13 Tryz.func85 O Tryz.ntmps85 O (sr (oE (cH O O O) O ?_))
 intro t
 refine oE (cH O O O) O ?_
 intro n
 refine oA O (oA O (nx (vq (cF 1 O O isAgg131 sizeOf131 O O) O (vq (cF 0 O O cy aR O O) O (aj (fun o q => (oE (oC (vs := [.agg #[], .agg #[Iv e, Iv g, Iv h, .slice i b.length d]]) (cap := []) (A := []) O call79 (.a (.a (.a .n))) (ce.calls _ _ e g h i d b (m.lend 2 O) j l) q) O ?_)))))))
 intro u
 refine vq (jj O O O) O (aj (fun v s => (oE (oC (vs := [Iv o, .func (.func 109) #[] #[Pt n]]) (cap := []) (A := [W8 n e g h b i d]) O call108 (.a (.a (.a .n))) (eZ.calls _ _ k o n e g h i d b (m.lend 1 O) j l) s) O ?_)))
 intro p
 refine vq (bY O O O) O (vq (bY O O O) O (oA O (oA O (oT (ay ?_)))))
 exact aJ p O O O (.a (.c .n))

def jy.f (x0 : Int) : Option (List UInt8) := if 0 ≤ IntKind.u8.wrap x0 ∧ IntKind.u8.wrap x0 < 256 then (if 0 ≤ IntKind.u8.wrap (Int.fdiv x0 (2 ^ (min (8 : Int).toNat IntKind.u32.bits))) ∧ IntKind.u8.wrap (Int.fdiv x0 (2 ^ (min (8 : Int).toNat IntKind.u32.bits))) < 256 then (if 0 ≤ IntKind.u8.wrap (Int.fdiv x0 (2 ^ (min (16 : Int).toNat IntKind.u32.bits))) ∧ IntKind.u8.wrap (Int.fdiv x0 (2 ^ (min (16 : Int).toNat IntKind.u32.bits))) < 256 then (if 0 ≤ IntKind.u8.wrap (Int.fdiv x0 (2 ^ (min (24 : Int).toNat IntKind.u32.bits))) ∧ IntKind.u8.wrap (Int.fdiv x0 (2 ^ (min (24 : Int).toNat IntKind.u32.bits))) < 256 then (some ([(hJ (IntKind.u8.wrap x0)), (hJ (IntKind.u8.wrap (Int.fdiv x0 (2 ^ (min (8 : Int).toNat IntKind.u32.bits))))), (hJ (IntKind.u8.wrap (Int.fdiv x0 (2 ^ (min (16 : Int).toNat IntKind.u32.bits))))), (hJ (IntKind.u8.wrap (Int.fdiv x0 (2 ^ (min (24 : Int).toNat IntKind.u32.bits)))))] : List UInt8)) else none) else none) else none) else none
theorem jy.calls (W : World) (F : HA) (x0 : Int)  :
    Fn Tryz.prog W 127 [.int .u32 x0] [] F (jy.f x0) (fun r (y : Option Addr × Nat) => .slice y.1 r.length y.2) (fun r y => [Row 5 1 y.1 r.length y.2 (aL r)]) := by
 unfold jy.f
 refine aX 15 Tryz.func127 O Tryz.ntmps127 O (sr (oA O (nx (oM O (vq (jN O O fo eP) O (oM O (vq (qO O O O (by decide)) O (vq (jN O O fo eP) O (oM O (vq (qO O O O (by decide)) O (vq (jN O O fo eP) O (oM O (vq (qO O O O (by decide)) O (vq (jN O O fo eP) O (bo (fun b => (bo (fun c => (bo (fun d => (bo (fun e => (oE (sV (cs := [.int .u8 (IntKind.u8.wrap x0), .int .u8 (IntKind.u8.wrap (Int.fdiv x0 (2 ^ (min (8 : Int).toNat IntKind.u32.bits)))), .int .u8 (IntKind.u8.wrap (Int.fdiv x0 (2 ^ (min (16 : Int).toNat IntKind.u32.bits)))), .int .u8 (IntKind.u8.wrap (Int.fdiv x0 (2 ^ (min (24 : Int).toNat IntKind.u32.bits))))]) ([(hJ (IntKind.u8.wrap x0)), (hJ (IntKind.u8.wrap (Int.fdiv x0 (2 ^ (min (8 : Int).toNat IntKind.u32.bits))))), (hJ (IntKind.u8.wrap (Int.fdiv x0 (2 ^ (min (16 : Int).toNat IntKind.u32.bits))))), (hJ (IntKind.u8.wrap (Int.fdiv x0 (2 ^ (min (24 : Int).toNat IntKind.u32.bits)))))] : Lb) O O aH ks O (by kernel_rfl) O O (pH (kG b.1 b.2) (pH (kG c.1 c.2) (pH (kG d.1 d.2) (pH (kG e.1 e.2) BB))))) O ?_)))))))))))))))))))))))
 intro g
 refine oA O (oT (ay ?_))
 exact aJ ((some ⟨g, 0, none⟩), 4) O O O (.a (.a .n))

def cV.l1 : Nat → Int → Int → Option (Int)
  | 0, _, _ => none
  | k + 1, a, b => if b < (8 : Int) then (if df .and .u32 a 1 = (1 : Int) then (cV.l1 k (df .xor .u32 (Int.fdiv a (2 ^ (min (1 : Int).toNat IntKind.u32.bits))) 2197175160) (IntKind.i64.wrap (b + 1))) else (cV.l1 k (Int.fdiv a (2 ^ (min (1 : Int).toNat IntKind.u32.bits))) (IntKind.i64.wrap (b + 1)))) else (some a)
def cV.l0 (x1 : List UInt8) : Nat → Int → Int → Option (Int)
  | 0, _, _ => none
  | k + 1, b, a => if a < (x1.length : Int) then ((if 0 ≤ a ∧ a < (x1.length : Int) then (cV.l1 k (df .xor .u32 b (IntKind.u32.wrap ((x1.getD a.toNat 0).toNat : Int))) 0) else none).bind fun c => (cV.l0 x1 k c (IntKind.i64.wrap (a + 1)))) else (some b)
def cV.f (k : Nat) (x0 : Int) (x1 : List UInt8) : Option (Int) := (cV.l0 x1 k x0 0).bind fun a => (some a)
theorem cV.calls (W : World) (F : HA) (k : Nat) (x0 : Int) (a1 : Option Addr) (c1 : Nat) (x1 : Lb) (h1 : Rd F a1 (aL x1)) (t : x1.length ≤ c1) (u : c1 ≤ maxLen) :
    Fn Tryz.prog W 95 [.int .u32 x0, .slice a1 x1.length c1] [] F (cV.f k x0 x1) (fun r (y : Unit) => .int .u32 r) (fun r y => []) := by
 unfold cV.f
 refine aX 31 Tryz.func95 O Tryz.ntmps95 O (sr (oA O (oT ?_)))
 refine bP (S := Int) Unit (fun s y => [(0, .int .u32 s)]) (fun s y => [F]) ?_ ?_
 refine sr (oM O (vq (bL O O O aH) O (oM O (oT (aZ ?_)))))
 refine da (S := Int × Int) Unit (fun k s => cV.l0 x1 k s.1 s.2) (fun s y => [(0, .int .u32 s.1), (8, .slice a1 x1.length c1), (9, Iv (x1.length : Int)), (10, Iv s.2)]) (fun s y => [F]) (fun _ => by rw [cV.l0]) ?_ k (x0, 0) () ⟨O, O, O, O, trivial⟩ (.a .n)
 intro k b v
 refine dW (by rw [cV.l0]) (sr (vq (dG O O O) O (oT (ap ?_))))
 refine bu O (fun w => ?_) (fun x => ?_)
 refine aA (ai ?_)
 refine bP (S := Int) Unit (fun s y => [(0, .int .u32 s), (8, .slice a1 x1.length c1), (9, Iv (x1.length : Int)), (10, Iv b.2)]) (fun s y => [F]) ?_ ?_
 refine aZ (sr (bo (fun d => ?_)))
 obtain ⟨i, h, e⟩ := h1.pos (lu (j := b.2.toNat) (by omega))
 refine vq (mj O O O e aH fB d.1 d.2) O (vq (dR O O isAgg5 (h1.cell 0 O e (kD (by omega)))) O (oA O (nx (oM O (oM O (vq (jN O O eP fo) O (vq (zg O O O) O (oA O (nx (oM O (oT (aZ ?_))))))))))))
 refine da (S := Int × Int) Unit (fun k s => cV.l1 k s.1 s.2) (fun s y => [(0, .int .u32 s.1), (8, .slice a1 x1.length c1), (9, Iv (x1.length : Int)), (10, Iv b.2), (18, Iv s.2)]) (fun s y => [F]) (fun _ => by rw [cV.l1]) ?_ k (df .xor .u32 b.1 (IntKind.u32.wrap ((x1.getD b.2.toNat 0).toNat : Int)), 0) () ⟨O, O, O, O, O, trivial⟩ (.a .n)
 intro k c l
 refine dW (by rw [cV.l1]) (sr (vq (dG O O O) O (oT (ap ?_))))
 refine bu O (fun m => ?_) (fun n => ?_)
 refine aA (ai (ap (aZ (sr (oM O (vq (vf O O O) O (oA O (nx (oM O (vq (qO O O O (by decide)) O (oA O (nx (oM O (vq (cr O O O) O (oT ?_)))))))))))))))
 refine bu O (fun o => ?_) (fun p => ?_)
 refine aG (oM O (vq (zg O O O) O (oA O (aw (bz (ai (aG (vq (cn O O O) O (oM O (aw ?_))))))))))
 exact bT (s := (df .xor .u32 (Int.fdiv c.1 (2 ^ (min (1 : Int).toNat IntKind.u32.bits))) 2197175160, IntKind.i64.wrap (c.2 + 1))) () ⟨O, O, O, O, O, trivial⟩ (.a .n)
 refine aA (bz (ai (aG (vq (cn O O O) O (oM O (aw ?_))))))
 exact bT (s := (Int.fdiv c.1 (2 ^ (min (1 : Int).toNat IntKind.u32.bits)), IntKind.i64.wrap (c.2 + 1))) () ⟨O, O, O, O, O, trivial⟩ (.a .n)
 refine dt (cK (cU (cN (bz ?_))))
 exact aF (s := c.1) () ⟨O, O, O, O, trivial⟩ (.a .n)
 intro g q
 refine aG (vq (cn O O O) O (oM O (aw ?_)))
 exact bT (s := (g, IntKind.i64.wrap (b.2 + 1))) () ⟨O, O, O, O, trivial⟩ (.a .n)
 refine dt (cK (cU (cN ?_)))
 exact aF (s := b.1) () ⟨O, trivial⟩ (.a .n)
 intro z ab
 refine sr (oM O (oA O (oT (ay ?_))))
 exact aJ () O O O (.a .n)

def kV.f (k : Nat) (x0 x1 : List UInt8) : Option (List UInt8) := (jy.f (IntKind.u32.wrap (x1.length : Int))).bind fun a => ((cV.f k (4294967295 : Int) a).bind fun d => ((cV.f k d x1).bind fun c => (if (x0.length + a.length) * 1 ≤ 140737488355328 then ((jy.f (df .xor .u32 (if IntKind.u32.signed then -1 else IntKind.u32.max) c)).bind fun b => (if ((x0 ++ a).length + b.length) * 1 ≤ 140737488355328 then (if (((x0 ++ a) ++ b).length + x1.length) * 1 ≤ 140737488355328 then (some (((x0 ++ a) ++ b) ++ x1)) else none) else none)) else none)))
theorem kV.calls (W : World) (F : HA) (k : Nat) (a0 : Option Addr) (c0 : Nat) (x0 : Lb) (a1 : Option Addr) (c1 : Nat) (x1 : Lb) (h1 : Rd F a1 (aL x1)) (u : x1.length ≤ c1) (v : c1 ≤ maxLen) :
    Fn Tryz.prog W 111 [.slice a0 x0.length c0, .slice a1 x1.length c1] [Row 5 1 a0 x0.length c0 (aL x0)] F (kV.f k x0 x1) (fun r (y : Option Addr × Nat) => .slice y.1 r.length y.2) (fun r y => [Row 5 1 y.1 r.length y.2 (aL r)]) := by
 unfold kV.f
 refine aX 26 Tryz.func111 O Tryz.ntmps111 O (sr (oA O (nx (oM O (vq (bL O O O aH) O (vq (jN O O fi fo) O (aj (fun m o => (oE (oC (vs := [.int .u32 (IntKind.u32.wrap (x1.length : Int))]) (cap := []) (A := []) O call127 (.a (.a .n)) (jy.calls _ _ (IntKind.u32.wrap (x1.length : Int)) ) o) O ?_)))))))))
 intro b
 refine oA O (nx (oM O (aj (fun n p => (bw 0 O (fun q s t w => (oE (oC (vs := [.int .u32 4294967295, .slice b.1 m.length b.2]) (cap := []) (A := []) O call95 (.a (.a (.a .n))) (cV.calls _ _ k (4294967295 : Int) b.1 b.2 m (q.lend 0 O) s t) p) O ?_)))))))
 intro x
 refine oM O (aj (fun d g => (oE (oC (vs := [.int .u32 n, .slice a1 x1.length c1]) (cap := []) (A := []) O call95 (.a (.a (.a .n))) (cV.calls _ _ k n a1 c1 x1 (h1.lend 2 O) u v) g) O ?_)))
 intro z
 refine vq (A8 O O) O (oA O (nx (oM O (oM O (bo (fun h => (oE (iG 1 O O O aH ks O (Rds.row 0 O) h) O ?_)))))))
 intro ab
 refine oA O (nx (oM O (oM O (aj (fun ad i => (oE (oC (vs := [.int .u32 (df .xor .u32 (if IntKind.u32.signed then -1 else IntKind.u32.max) d)]) (cap := []) (A := []) O call127 (.a (.a (.a .n))) (jy.calls _ _ (df .xor .u32 (if IntKind.u32.signed then -1 else IntKind.u32.max) d) ) i) O ?_))))))
 intro af
 refine bo (fun j => (oE (iG 2 O O O aH ks O (Rds.row 0 O) j) O ?_))
 intro ag
 refine oA O (nx (oM O (oM O (bo (fun l => ?_)))))
 refine oE (iG 2 O O O aH ks O (h1.rds 2 O) l) O ?_
 intro e
 refine oA O (oT (ay ?_))
 exact aJ e O O O (.c (.c .n))

def kz.f (k : Nat) (x0 : List UInt8) : Option (List UInt8 × Int) := if (1048576 : Int) < (x0.length : Int) then (some (([] : List UInt8), 3)) else (if 0 ≤ (0 : Int) ∧ (0 : Int) ≤ IntKind.i64.wrap (8 + (x0.length : Int)) ∧ IntKind.i64.wrap (8 + (x0.length : Int)) * 1 ≤ 140737488355328 then ((kV.f k (List.replicate (0 : Int).toNat (0 : UInt8)) x0).bind fun a => (some (a, 0))) else none)
theorem kz.calls (W : World) (F : HA) (k : Nat) (a0 : Option Addr) (c0 : Nat) (x0 : Lb) (h0 : Rd F a0 (aL x0)) (g : x0.length ≤ c0) (h : c0 ≤ maxLen) :
    Fn Tryz.prog W 88 [.slice a0 x0.length c0] [] F (kz.f k x0) (fun r (y : Option Addr × Nat) => .tuple #[.slice y.1 r.1.length y.2, Iv r.2]) (fun r y => [Row 5 1 y.1 r.1.length y.2 (aL r.1)]) := by
 unfold kz.f
 refine aX 13 Tryz.func88 O Tryz.ntmps88 O (sr (oA O (oA O (oT (ap (sr (oM O (vq (bL O O O aH) O (vq (dO O O O) O (oT ?_))))))))))
 refine bu O (fun i => ?_) (fun j => ?_)
 refine sr (oA O (oA O (oT (ay (aY ?_)))))
 exact aJ (none, 0) O O O (.row_nil (.a .n))
 refine aA (ai (sr (oM O (vq (bL O O O aH) O (vq (cn O O O) O (bo (fun b => (oE (pG O O O aH ks b.1 b.2.1 b.2.2) O ?_))))))))
 intro c
 refine oM O (aj (fun l e => (oE (oC (vs := [.slice (some ⟨c, 0, none⟩) ((List.replicate (0 : Int).toNat (0 : UInt8)).length) ((IntKind.i64.wrap (8 + (x0.length : Int))).toNat), .slice a0 x0.length c0]) (cap := []) (A := [Row 5 1 (some ⟨c, 0, none⟩) (List.replicate (0 : Int).toNat (0 : UInt8)).length ((IntKind.i64.wrap (8 + (x0.length : Int))).toNat) (aL (List.replicate (0 : Int).toNat (0 : UInt8)))]) O call111 (.a (.a .n)) (kV.calls _ _ k (some ⟨c, 0, none⟩) ((IntKind.i64.wrap (8 + (x0.length : Int))).toNat) (List.replicate (0 : Int).toNat (0 : UInt8)) a0 c0 x0 (h0.lend 0 O) g h) e) O ?_)))
 intro d
 refine oA O (oA O (oT (ay ?_)))
 exact aJ d O O O (.a (.a .n))

def dT.f (k : Nat) (a u v w x y z ab ad af : Int) (s : List UInt8) : Option (List UInt8) := (gL.f).bind fun t => ((bU.f k t.1 t.2 a).bind fun d => ((if a = (0 : Int) then ((bU.f k d.1 d.2 u).bind fun g => (some (g.1, g.2))) else (some (d.1, d.2))).bind fun e => ((if ((decide (a = (0 : Int))) || (decide (a = (1 : Int)))) = true then ((bU.f k e.1 e.2 v).bind fun h => ((bU.f k h.1 h.2 w).bind fun i => ((bU.f k i.1 i.2 x).bind fun j => (some (j.1, j.2))))) else (some (e.1, e.2))).bind fun b => ((if ((decide (a = (0 : Int))) || (decide (a = (3 : Int)))) = true then ((bU.f k b.1 b.2 y).bind fun l => ((bU.f k l.1 l.2 z).bind fun m => (some (m.1, m.2)))) else (some (b.1, b.2))).bind fun c => ((if a = (2 : Int) then ((gQ.f k ab ad af s).bind fun n => ((cm.f n.2).bind fun ag => ((fA.f k c.1 c.2 n.1 (8192 : Int)).bind fun o => (some (o.1, o.2))))) else (some (c.1, c.2))).bind fun p => ((fq.f p.1 p.2).bind fun q => ((cm.f q.2).bind fun al => ((kz.f k q.1).bind fun r => ((cm.f r.2).bind fun an => (some r.1))))))))))
theorem dT.calls (W : World) (F : HA) (k : Nat) (g w x z ab ad af l m n : Int) (j : Option Addr) (i : Nat) (h : Lb) (b9 : Rd F j (aL h)) (br : h.length ≤ i) (bs : i ≤ maxLen) :
    Fn Tryz.prog W 52 [.agg #[Iv g, Iv w, Iv x, Iv z, Iv ab, Iv ad, Iv af, Iv l, Iv m, Iv n, .slice j h.length i]] [] F (dT.f k g w x z ab ad af l m n h) (fun r (y : Option Addr × Nat) => .slice y.1 r.length y.2) (fun r y => [Row 5 1 y.1 r.length y.2 (aL r)]) := by
 unfold dT.f
 refine aX 90 Tryz.func52 O Tryz.ntmps52 O (sr (oE (cH O O O) O ?_))
 intro u
 refine oA O (nx (aj (fun a6 ec => (oE (oC (vs := []) (cap := []) (A := []) O call83 (.a (.a .n)) (gL.calls _ _ ) ec) O ?_))))
 intro e
 refine oA O (nx (oM O (vq (oF O aT O aa O) O (vq (oL O ae 2 O) O (aj (fun a2 ed => (oE (oC (vs := [Pt e.1, Iv g]) (cap := []) (A := [obj e.1 160 [.slice e.2.1 a6.1.length e.2.2, Iv a6.2], Row 5 1 e.2.1 a6.1.length e.2.2 (aL a6.1)]) O jm (.a (.a (.a (.a .n)))) (bU.calls _ _ k e.1 e.2.1 e.2.2 a6.1 a6.2 g ) ed) O ?_)))))))
 intro a3
 refine oT ?_
 refine bP (S := Lb × Int) (Option Addr × Nat) (fun s y => [(1, Pt u), (3, Pt e.1)]) (fun s y => [obj e.1 160 [.slice y.1 s.1.length y.2, Iv s.2], W19 u g w x z ab ad af l m n h j i, Row 5 1 y.1 s.1.length y.2 (aL s.1), F]) ?_ ?_
 refine sr (vq (oF O aT O aa O) O (vq (oL O ae 2 O) O (vq (cr O O O) O (oT ?_))))
 refine bu O (fun el => ?_) (fun em => ?_)
 refine aG (oM O (vq (oF O aT O aa O) O (vq (oL O ae 2 O) O (aj (fun bt cd => (oE (oC (vs := [Pt e.1, Iv w]) (cap := []) (A := [obj e.1 160 [.slice a3.1 a2.1.length a3.2, Iv a2.2], Row 5 1 a3.1 a2.1.length a3.2 (aL a2.1)]) O jm (.a (.a (.a (.a .n)))) (bU.calls _ _ k e.1 a3.1 a3.2 a2.1 a2.2 w ) cd) O ?_))))))
 intro b0
 refine aw ?_
 exact aF (s := bt) b0 ⟨O, O, trivial⟩ (.a (.b (.a (.a .n))))
 refine aA ?_
 exact aF (s := a2) a3 ⟨O, O, trivial⟩ (.a (.b (.a (.a .n))))
 intro a4 a5
 refine bP (S := Lb × Int) (Option Addr × Nat) (fun s y => [(1, Pt u), (3, Pt e.1)]) (fun s y => [obj e.1 160 [.slice y.1 s.1.length y.2, Iv s.2], W19 u g w x z ab ad af l m n h j i, Row 5 1 y.1 s.1.length y.2 (aL s.1), F]) ?_ ?_
 refine sr (vq (oF O aT O aa O) O (vq (oL O ae 1 O) O (vq (cr O O O) O (oM O (ao (b := decide (g = (0 : Int))) (fun ee => RQ.sub (E' := [(1, Pt u)]) ⟨O, trivial⟩ (oF O aT O aa O)) O O O O O (ao (b := decide (g = (0 : Int))) (fun ch => RQ.sub (E' := [(25, Pt u)]) ⟨aN O ch, trivial⟩ (oL O ae 1 O)) O O O O O (ao (b := decide (g = (0 : Int))) (fun cs => RQ.sub (E' := [(26, Iv g)]) ⟨aN O cs, trivial⟩ (cr O O O)) O O O O O (vq (ik O O O) O (oT ?_)))))))))
 refine bm O (fun en => ?_) (fun er => ?_)
 refine sr (oM O (vq (oF O aT O aU O) O (vq (oF O bH O aa O) O (vq (oL O ae 1 O) O (aj (fun ag c0 => (oE (oC (vs := [Pt e.1, Iv x]) (cap := []) (A := [obj e.1 160 [.slice a5.1 a4.1.length a5.2, Iv a4.2], Row 5 1 a5.1 a4.1.length a5.2 (aL a4.1)]) O jm (.a (.b (.a (.a .n)))) (bU.calls _ _ k e.1 a5.1 a5.2 a4.1 a4.2 x ) c0) O ?_)))))))
 intro al
 refine nx (oM O (vq (oF O aT O aU O) O (vq (oF O bH O aa O) O (vq (oL O ae 2 O) O (aj (fun an c1 => (oE (oC (vs := [Pt e.1, Iv z]) (cap := []) (A := [obj e.1 160 [.slice al.1 ag.1.length al.2, Iv ag.2], Row 5 1 al.1 ag.1.length al.2 (aL ag.1)]) O jm (.a (.a (.a (.a .n)))) (bU.calls _ _ k e.1 al.1 al.2 ag.1 ag.2 z ) c1) O ?_)))))))
 intro az
 refine ny (oM O (vq (oF O aT O aU O) O (vq (oF O bH O aa O) O (vq (oL O ae 2 O) O (aj (fun b1 c2 => (oE (oC (vs := [Pt e.1, Iv ab]) (cap := []) (A := [obj e.1 160 [.slice az.1 an.1.length az.2, Iv an.2], Row 5 1 az.1 an.1.length az.2 (aL an.1)]) O jm (.a (.a (.a (.a .n)))) (bU.calls _ _ k e.1 az.1 az.2 an.1 an.2 ab ) c2) O ?_)))))))
 intro b2
 refine aw ?_
 exact aF (s := b1) b2 ⟨O, O, trivial⟩ (.a (.b (.a (.a .n))))
 refine aA ?_
 exact aF (s := a4) a5 ⟨O, O, trivial⟩ (.a (.a (.a (.a .n))))
 intro o p
 refine bP (S := Lb × Int) (Option Addr × Nat) (fun s y => [(1, Pt u), (3, Pt e.1)]) (fun s y => [obj e.1 160 [.slice y.1 s.1.length y.2, Iv s.2], W19 u g w x z ab ad af l m n h j i, Row 5 1 y.1 s.1.length y.2 (aL s.1), F]) ?_ ?_
 refine sr (vq (oF O aT O aa O) O (vq (oL O ae 1 O) O (vq (cr O O O) O (oM O (ao (b := decide (g = (0 : Int))) (fun ef => RQ.sub (E' := [(1, Pt u)]) ⟨O, trivial⟩ (oF O aT O aa O)) O O O O O (ao (b := decide (g = (0 : Int))) (fun c3 => RQ.sub (E' := [(48, Pt u)]) ⟨aN O c3, trivial⟩ (oL O ae 1 O)) O O O O O (ao (b := decide (g = (0 : Int))) (fun c4 => RQ.sub (E' := [(49, Iv g)]) ⟨aN O c4, trivial⟩ (cr O O O)) O O O O O (vq (ik O O O) O (oT ?_)))))))))
 refine bm O (fun es => ?_) (fun et => ?_)
 refine sr (oM O (vq (oF O aT O aa O) O (vq (oL O ae 1 O) O (aj (fun a0 c5 => (oE (oC (vs := [Pt e.1, Iv ad]) (cap := []) (A := [obj e.1 160 [.slice p.1 o.1.length p.2, Iv o.2], Row 5 1 p.1 o.1.length p.2 (aL o.1)]) O jm (.a (.b (.a (.a .n)))) (bU.calls _ _ k e.1 p.1 p.2 o.1 o.2 ad ) c5) O ?_))))))
 intro a1
 refine ny (oM O (vq (oF O aT O aa O) O (vq (oL O ae 2 O) O (aj (fun b3 c6 => (oE (oC (vs := [Pt e.1, Iv af]) (cap := []) (A := [obj e.1 160 [.slice a1.1 a0.1.length a1.2, Iv a0.2], Row 5 1 a1.1 a0.1.length a1.2 (aL a0.1)]) O jm (.a (.a (.a (.a .n)))) (bU.calls _ _ k e.1 a1.1 a1.2 a0.1 a0.2 af ) c6) O ?_))))))
 intro b4
 refine aw ?_
 exact aF (s := b3) b4 ⟨O, O, trivial⟩ (.a (.b (.a (.a .n))))
 refine aA ?_
 exact aF (s := o) p ⟨O, O, trivial⟩ (.a (.a (.a (.a .n))))
 intro q t
 refine bP (S := Lb × Int) (Option Addr × Nat) (fun s y => [(3, Pt e.1)]) (fun s y => [obj e.1 160 [.slice y.1 s.1.length y.2, Iv s.2], Row 5 1 y.1 s.1.length y.2 (aL s.1), F]) ?_ ?_
 refine sr (vq (oF O aT O aa O) O (vq (oL O ae 1 O) O (vq (cr O O O) O (oT ?_))))
 refine bu O (fun ex => ?_) (fun eA => ?_)
 refine sr (vq (cW (v := .agg #[]) O O (fun _ => by kernel_rfl)) O (vq (oF O aT O aR O) O (vq (cw (vs := [Iv l, Iv m, Iv n, .slice j h.length i]) O O cy aR O (dc 1 O (cL O))) O (aj (fun a7 c7 => (oE (oC (vs := [.agg #[], .agg #[Iv l, Iv m, Iv n, .slice j h.length i]]) (cap := []) (A := []) O call85 (.a (.a (.a (.a .n)))) (gQ.calls _ _ k l m n j i h (b9.lend 3 O) br bs) c7) O ?_))))))
 intro a8
 refine oM O (vq (bY O O O) O (vq (bY O O O) O (oA O (oA O (nx (oM O (aj (fun eB c8 => (oE (oC (vs := [Iv a7.2]) (cap := []) (A := []) O dN (.a (.a (.a (.a (.a .n))))) (cm.calls _ _ a7.2 ) c8) O ?_)))))))))
 intro eD
 refine ny (oM O (oM O (aj (fun b5 c9 => (bw 0 O (fun ds dz d1 eg => (oE (oC (vs := [Pt e.1, .slice a8.1 a7.1.length a8.2, Iv 8192]) (cap := []) (A := [obj e.1 160 [.slice t.1 q.1.length t.2, Iv q.2], Row 5 1 t.1 q.1.length t.2 (aL q.1)]) O call86 (.b (.c (.a (.a (.a .n))))) (fA.calls _ _ k e.1 t.1 t.2 q.1 q.2 a8.1 a8.2 a7.1 (8192 : Int) (ds.lend 0 O) dz d1) c9) O ?_)))))))
 intro b6
 refine aw ?_
 exact aF (s := b5) b6 ⟨O, trivial⟩ (.a (.a (.c .n)))
 refine aA ?_
 exact aF (s := q) t ⟨O, trivial⟩ (.a (.b (.b .n)))
 intro a9 bc
 refine sr (oM O (aj (fun bd d2 => (bw 1 O (fun d3 d4 d5 ei => (oE (oC (vs := [Pt e.1]) (cap := []) (A := [obj e.1 160 [.slice bc.1 a9.1.length bc.2, Iv a9.2]]) O call87 (.a (.a (.a .n))) (fq.calls _ _ e.1 bc.1 bc.2 a9.1 a9.2 (d3.lend 0 O) d4 d5) d2) O ?_))))))
 intro be
 refine oM O (vq (bY O O O) O (vq (bY O O O) O (oA O (oA O (nx (oM O (aj (fun eF d6 => (oE (oC (vs := [Iv bd.2]) (cap := []) (A := []) O dN (.a (.a (.a (.a .n)))) (cm.calls _ _ bd.2 ) d6) O ?_)))))))))
 intro e0
 refine nx (oM O (aj (fun b7 d7 => (bw 0 O (fun d8 d9 ea ek => (oE (oC (vs := [.slice be.1 bd.1.length be.2]) (cap := []) (A := []) O call88 (.a (.a (.a (.a .n)))) (kz.calls _ _ k be.1 be.2 bd.1 (d8.lend 0 O) d9 ea) d7) O ?_))))))
 intro b8
 refine oM O (vq (bY O O O) O (vq (bY O O O) O (oA O (oA O (nx (oM O (aj (fun e1 eb => (oE (oC (vs := [Iv b7.2]) (cap := []) (A := []) O dN (.a (.a (.a (.a (.a .n))))) (cm.calls _ _ b7.2 ) eb) O ?_)))))))))
 intro e2
 refine nx (oM O (oA O (oT (ay ?_))))
 exact aJ b8 O O O (.a (.d .n))

def jb.f (b : List ((List UInt8) × (List UInt8 × Int))) (e : List UInt8) (g : Int) (h : Bool) : Option (Int) := ((qq (fun (a : Int) (i : List UInt8) (c : List UInt8 × Int) => some (IntKind.i64.wrap (a + (c.1.length : Int)))) 0 b).bind fun a => (some a)).bind fun d => (some d)
theorem jb.calls (W : World) (F : HA) (b0 g : Nat) (d : Kps) (n : List (Lb × (Lb × Int))) (h : Lb) (i : Int) (j : Bool)  :
    Fn Tryz.prog W 59 [Pt b0] [W0 b0 g h i j, ax (au g aB ar d) ak d n] F (jb.f n h i j) (fun r (y : Unit) => Iv r) (fun r y => [W0 b0 g h i j, ax (au g aB ar d) ak d n]) := by
 unfold jb.f
 refine aX 23 Tryz.func59 O Tryz.ntmps59 O (sr (oA O (nx (oA O (oT ?_)))))
 refine bP (S := Int) Unit (fun s y => [(3, Iv s)]) (fun s y => [W0 b0 g h i j, ax (au g aB ar d) ak d n, F]) ?_ ?_
 refine sr (oM O (oN O (vq (oF O bD O fx O) O (vq (oL O fL 0 O) O (oE (tz 1 O O ey O) O ?_)))))
 intro q
 refine oT (aZ ?_)
 refine ym (S := Int) (Y := Unit) (o2 := fun l => some l) (fun (l : Int) (o : Lb) (k : Lb × Int) => some (IntKind.i64.wrap (l + (k.1.length : Int)))) (fun s y => [(3, Iv s), (10, Pt q)]) (fun s y => [W0 b0 g h i j, F]) 0 () (fun x y e => by simpa [str] using e) (fun _ _ => O) O O (fun _ _ _ _ => ⟨O, O, trivial⟩) ⟨O, O, trivial⟩ ((.b (.a (.a .n)))) ?_ ?_
 intro t u l z o k w
 refine dW (o' := some (IntKind.i64.wrap (l + (k.1.length : Int)))) O (gq (H' := [ax (itJ g q aB d u o) ak d t, W0 b0 g h i j, F]) (Ent.refl _) (aZ (sr (vq (wZ O O (A5 0 O)) O (vq (bY O O O) O (oA O (oT (kA (v := k) 0 O w (fun m => (gq (H' := [obj (dS d o) 109 [.slice m.1 k.1.length m.2, Iv k.2], Row 5 1 m.1 k.1.length m.2 (aL k.1), lE (itJ g q aB d u o) ak d t o, W0 b0 g h i j, F]) (Ent.refl _) (aG (oM O (oM O (oN O (vq (oF O dp O bM O) O (vq (oL O cP 0 O) O (vq (bL O O O aH) O (vq (cn O O O) O (oA O (aw (bz ?_)))))))))))))))))))))
 exact aF (s := IntKind.i64.wrap (l + (k.1.length : Int))) () ⟨O, O, trivial⟩ ((.foldF0 (x := o) (p := (dS d o)) (v := k) m O w (.c (.a (.a (.a (.a .n)))))))
 intro l z
 refine yW (o' := some l) O (qK (H' := [ax (au g aB ar d) ak d n, W0 b0 g h i j, F]) (Ent.refl _) ?_)
 exact aF (s := l) () ⟨O, trivial⟩ (.b (.a (.a .n)))
 intro ab ad
 refine sr (oM O (oA O (oT (ay ?_))))
 exact aJ () O O O (.a (.a (.a .n)))

def eO.f (a : List ((List UInt8) × (List UInt8 × Int))) (d : List UInt8) (e : Int) (b : Bool) (x1 x2 : List UInt8) : Option (Int × (List ((List UInt8) × (List UInt8 × Int))) × List UInt8 × Int × Bool) := if (aW a x1).isSome = true then (if b = true then (some (11, a, d, e, b)) else ((jb.f a d e b).bind fun h => (if IntKind.i64.wrap (16777216 - h) < (x2.length : Int) then (some (10, a, d, e, b)) else (((cD.f a d e b).bind fun c => (if c.1 = true then (if 0 ≤ (0 : Int) ∧ (0 : Int) ≤ IntKind.i64.wrap (Int.tdiv (x2.length : Int) 2) ∧ IntKind.i64.wrap (Int.tdiv (x2.length : Int) 2) ≤ (x2.length : Int) then (some (cut x2 (0 : Int) (IntKind.i64.wrap (Int.tdiv (x2.length : Int) 2)), 11, c.2.1, c.2.2.1, c.2.2.2)) else none) else (some (x2, 0, c.2.1, c.2.2.1, c.2.2.2)))).bind fun g => (if ((((aW a x1).getD (([] : List UInt8), (0 : Int))).1).length + g.1.length) * 1 ≤ 140737488355328 then (some (g.2.1, bE a x1 ((((aW a x1).getD (([] : List UInt8), (0 : Int))).1) ++ g.1, ((aW a x1).getD (([] : List UInt8), (0 : Int))).2), x1, g.2.2.2.1, g.2.2.2.2)) else none))))) else (if b = true then (some (11, a, d, e, b)) else (some (8, a, d, e, b)))
theorem eO.calls (W : World) (F : HA) (b0 e : Nat) (b : Kps) (g : List (Lb × (Lb × Int))) (h : Lb) (i : Int) (j : Bool) (x1 : Lb) (a2 : Option Addr) (c2 : Nat) (x2 : Lb) (h2 : Rd F a2 (aL x2)) (t : x2.length ≤ c2) (an : c2 ≤ maxLen) :
    Fn Tryz.prog W 22 [Pt b0, str x1, .slice a2 x2.length c2] [W0 b0 e h i j, ax (au e aB ar b) ak b g] F (eO.f g h i j x1 x2) (fun r (y : Nat × Kps) => Iv r.1) (fun r y => [W1 b0 y.1 r.2.2, ax (au y.1 aB ar y.2) ak y.2 r.2.1]) := by
 unfold eO.f
 refine aX 51 Tryz.func22 O Tryz.ntmps22 O (sr (oA O (oT (ap ?_))))
 refine ji (fun m => ?_) (fun m => ?_)
 refine aG (oM O (oN O (vq (oF O bD O fx O) O (vq (oL O fL 0 O) O (oM O (vq ((nX (ek := aB) x1 (lc 1 O) m O O O ey nB : RQ _ _ _ _ (.pointer (some ⟨(dS b x1), 0, none⟩)))) O (oA O (oT (ap (aZ (sr (oM O (oN O (vq (oF O bD O cM O) O (vq (oL O dY 0 O) O (oA O (oT ?_)))))))))))))))))
 refine bm O (fun a9 => ?_) (fun bc => ?_)
 refine sr (oA O (oT (ay (bI (aY ?_)))))
 exact aJ (e, b) O O O (.a (.a (.a .n)))
 refine sr (oM O (vq (pC O O O fH) O (oA O (oT (jE O (sr (oM O (vq (bL O O O aH) O (oM O (aj (fun bd az => (oE (oC (vs := [Pt b0]) (cap := []) (A := [W0 b0 e h i j, ax (au e aB ar b) ak b g]) O call59 (.a (.a (.a .n))) (jb.calls _ _ b0 e b g h i j ) az) O ?_))))))))))))
 intro be
 refine vq (eL O O O) O (vq (dO O O O) O (oA O (oT ?_)))
 refine bu O (fun br => ?_) (fun bs => ?_)
 refine sr (oA O (oT (ay (bI (aY ?_)))))
 exact aJ (e, b) O O O (.a (.a (.a .n)))
 refine aA (bz (ai (sr (oA O (oT ?_)))))
 refine bP (S := Lb × Int × Lb × Int × Bool) (Option Addr × Nat) (fun s y => [(0, Pt b0), (1, str x1), (2, .slice y.1 s.1.length y.2), (7, .pointer (some ⟨(dS b x1), 0, none⟩)), (8, Iv s.2.1)]) (fun s y => [pr (Rd F y.1 (aL s.1) ∧ s.1.length ≤ y.2 ∧ y.2 ≤ maxLen), W1 b0 e s.2.2, ax (au e aB ar b) ak b g, F]) ?_ ?_
 refine sr (oM O (aj (fun k w => (oE (oC (vs := [Pt b0]) (cap := []) (A := [W0 b0 e h i j, ax (au e aB ar b) ak b g]) O call58 (.a (.a (.a .n))) (cD.calls _ _ b0 e b g h i j ) w) O ?_))))
 intro a3
 refine oT ?_
 refine bm O (fun a4 => ?_) (fun a5 => ?_)
 refine aG (oM O (oM O (vq (bL O O O aH) O (vq (C4 O O O (by decide)) O (bo (fun o => ?_))))))
 obtain ⟨a0, a1, z, ab, ad, af⟩ := lf (lo := (0 : Int)) (hi := IntKind.i64.wrap (Int.tdiv (x2.length : Int) 2)) h2 t o
 refine vq (lS (l := x2) (lo' := (0 : Int)) (hi' := IntKind.i64.wrap (Int.tdiv (x2.length : Int) 2)) O O O O aH fB (.inr ⟨_, O⟩) (.inl ⟨O, O⟩) o t z) O (oA O (oA O (aw ?_)))
 exact aF (s := (cut x2 (0 : Int) (IntKind.i64.wrap (Int.tdiv (x2.length : Int) 2)), 11, k.2)) (a0, a1) ⟨O, O, O, O, O, trivial⟩ (.pr_in ⟨ab, ad, (Nat.le_trans af an)⟩ (.a (.a (.a .n))))
 refine aA ?_
 exact aF (s := (x2, 0, k.2)) (a2, c2) ⟨O, O, O, O, O, trivial⟩ (.pr_in ⟨h2, t, an⟩ (.a (.a (.a .n))))
 intro q a6
 refine qg (fun ag => (ap (kA (v := ((aW g x1).getD (([] : Lb), (0 : Int)))) 1 O (jn m) (fun n => (gq (H' := [obj (dS b x1) 109 [.slice n.1 ((((aW g x1).getD (([] : Lb), (0 : Int))).1).length) n.2, Iv (((aW g x1).getD (([] : Lb), (0 : Int))).2)], Row 5 1 n.1 (((aW g x1).getD (([] : Lb), (0 : Int))).1).length n.2 (aL (((aW g x1).getD (([] : Lb), (0 : Int))).1)), lE (au e aB ar b) ak b g x1, W1 b0 e q.2.2, F]) (Ent.refl _) (aG (oM O (oM O (oN O (vq (oF O dp O bM O) O (vq (oL O cP 0 O) O (oM O (bo (fun al => ?_))))))))))))))
 refine oE (iG 1 O O O aH ks O (ag.1.rds 3 O) al) O ?_
 intro u
 refine oN O (vq (oF O dp O bM O) O (bg (aI 0 O O O bM O O (aM (by rfl)) O O) O O ?_))
 intro _
 refine nx (oM O (oM O (oN O (vq (oF O bD O iz O) O (bg (aI 3 O O O iz O O (aM (by rfl)) O O) O O ?_)))))
 intro _
 refine nx (oM O (oA O (oT (ay ?_))))
 exact aJ (e, b) O O O (.d (.foldF (x := x1) (p := (dS b x1)) (v := ((((aW g x1).getD (([] : Lb), (0 : Int))).1) ++ q.1, ((aW g x1).getD (([] : Lb), (0 : Int))).2)) u O (.c (.a (.a (.a .n))))))
 refine aG (oM O (oN O (vq (oF O bD O fx O) O (vq (oL O fL 0 O) O (oM O (vq (nY (ek := aB) x1 (lc 1 O) (md m) O O O ey nB ke) O (oA O (oT (ap (aZ (sr (oM O (oN O (vq (oF O bD O cM O) O (vq (oL O dY 0 O) O (oA O (oT ?_)))))))))))))))))
 refine bm O (fun a7 => ?_) (fun a8 => ?_)
 refine sr (oA O (oT (ay (bI (aY ?_)))))
 exact aJ (e, b) O O O (.a (.a (.a .n)))
 refine sr (oM O (vq (nT O O O fH) O (oA O (oT (ix O (sr (oA O (oT (ay (bI (aY ?_)))))))))))
 exact aJ (e, b) O O O (.a (.a (.a .n)))

def cX.f (a : List ((List UInt8) × (List UInt8 × Int))) (d : List UInt8) (e : Int) (b : Bool) (x1 : List UInt8) : Option (Int × (List ((List UInt8) × (List UInt8 × Int))) × List UInt8 × Int × Bool) := if (aW a x1).isSome = true then (if b = true then (some (11, a, d, e, b)) else ((cD.f a d e b).bind fun c => (if c.1 = true then (some (11, a, c.2.1, c.2.2.1, c.2.2.2)) else (some (0, bE a x1 (((aW a x1).getD (([] : List UInt8), (0 : Int))).1, ((((aW a x1).getD (([] : List UInt8), (0 : Int))).1).length : Int)), c.2.1, c.2.2.1, c.2.2.2))))) else (if b = true then (some (11, a, d, e, b)) else (some (8, a, d, e, b)))
theorem cX.calls (W : World) (F : HA) (b0 e : Nat) (b : Kps) (g : List (Lb × (Lb × Int))) (i : Lb) (j : Int) (k : Bool) (x1 : Lb)  :
    Fn Tryz.prog W 46 [Pt b0, str x1] [W0 b0 e i j k, ax (au e aB ar b) ak b g] F (cX.f g i j k x1) (fun r (y : Nat × Kps) => Iv r.1) (fun r y => [W1 b0 y.1 r.2.2, ax (au y.1 aB ar y.2) ak y.2 r.2.1]) := by
 unfold cX.f
 refine aX 31 Tryz.func46 O Tryz.ntmps46 O (sr (oA O (oT (ap ?_))))
 refine ji (fun l => ?_) (fun l => ?_)
 refine aG (oM O (oN O (vq (oF O bD O fx O) O (vq (oL O fL 0 O) O (oM O (vq ((nX (ek := aB) x1 (lc 1 O) l O O O ey nB : RQ _ _ _ _ (.pointer (some ⟨(dS b x1), 0, none⟩)))) O (oA O (oT (ap (aZ (sr (oM O (oN O (vq (oF O bD O cM O) O (vq (oL O dY 0 O) O (oA O (oT ?_)))))))))))))))))
 refine bm O (fun s => ?_) (fun t => ?_)
 refine sr (oA O (oT (ay (bI (aY ?_)))))
 exact aJ (e, b) O O O (.a (.a (.a .n)))
 refine sr (oM O (vq (pC O O O fH) O (oA O (oT (jE O (sr (oM O (aj (fun m n => (oE (oC (vs := [Pt b0]) (cap := []) (A := [W0 b0 e i j k, ax (au e aB ar b) ak b g]) O call58 (.a (.a (.a .n))) (cD.calls _ _ b0 e b g i j k ) n) O ?_))))))))))
 intro u
 refine oA O (oT ?_)
 refine bm O (fun w => ?_) (fun z => ?_)
 refine sr (oA O (oT (ay (bI (aY ?_)))))
 exact aJ (e, b) O O O (.a (.a (.a .n)))
 refine aA (bz (ai (ap (kA (v := ((aW g x1).getD (([] : Lb), (0 : Int)))) 1 O (jn l) (fun h => (gq (H' := [obj (dS b x1) 109 [.slice h.1 ((((aW g x1).getD (([] : Lb), (0 : Int))).1).length) h.2, Iv (((aW g x1).getD (([] : Lb), (0 : Int))).2)], Row 5 1 h.1 (((aW g x1).getD (([] : Lb), (0 : Int))).1).length h.2 (aL (((aW g x1).getD (([] : Lb), (0 : Int))).1)), lE (au e aB ar b) ak b g x1, W1 b0 e m.2, F]) (Ent.refl _) (aG (oM O (oM O (oN O (vq (oF O dp O bM O) O (vq (oL O cP 0 O) O (vq (bL O O O aH) O (oN O (vq (oF O dp O aa O) O (bg (aI 0 O O O aa O O (aM (by rfl)) O O) O O ?_))))))))))))))))
 intro _
 refine nx (oA O (oT (ay ?_)))
 exact aJ (e, b) O O O (.d (.foldF (x := x1) (p := (dS b x1)) (v := (((aW g x1).getD (([] : Lb), (0 : Int))).1, ((((aW g x1).getD (([] : Lb), (0 : Int))).1).length : Int))) h O (.c (.a (.a (.a .n))))))
 refine aG (oM O (oN O (vq (oF O bD O fx O) O (vq (oL O fL 0 O) O (oM O (vq (nY (ek := aB) x1 (lc 1 O) (md l) O O O ey nB ke) O (oA O (oT (ap (aZ (sr (oM O (oN O (vq (oF O bD O cM O) O (vq (oL O dY 0 O) O (oA O (oT ?_)))))))))))))))))
 refine bm O (fun o => ?_) (fun q => ?_)
 refine sr (oA O (oT (ay (bI (aY ?_)))))
 exact aJ (e, b) O O O (.a (.a (.a .n)))
 refine sr (oM O (vq (nT O O O fH) O (oA O (oT (ix O (sr (oA O (oT (ay (bI (aY ?_)))))))))))
 exact aJ (e, b) O O O (.a (.a (.a .n)))

def fS.f (x0 : List Int) : Option (List Int) := if (([] : List Int).length + x0.length) * 8 ≤ 140737488355328 then (some (([] : List Int) ++ x0)) else none
theorem fS.calls (W : World) (F : HA) (a0 : Option Addr) (c0 : Nat) (x0 : List Int) (h0 : RdV F 1 (V3 tt) a0 x0) (g : x0.length ≤ c0) (h : c0 ≤ maxLen) :
    Fn Tryz.prog W 44 [.slice a0 x0.length c0] [] F (fS.f x0) (fun r (y : Option Addr × Nat) => .slice y.1 r.length y.2) (fun r y => [ah 3 1 (V3 tt) y.1 r y.2]) := by
 unfold fS.f
 refine aX 8 Tryz.func44 O Tryz.ntmps44 O ?_
 rcases a0 with _ | p0
 have hx : x0 = [] := uU rfl h0
 subst hx
 refine dW (o' := some ([] : List Int)) (by simp) (sr (oA O (oT (ap (sr (oM O (vq (rt O O aO) O (oT (ix O (sr (oA O (oT (ay (aY ?_))))))))))))))
 exact aJ (none, 0) O O O (.rowV_nil (.a .n))
 refine sr (oA O (oT (ap (sr (oM O (vq (ru O O aO) O (oT (jE O (aA (ai (sr (oE (mC (α := Int) (V := (V3 tt)) O aO lF) O ?_))))))))))))
 intro i
 refine oM O (bk 0 O (fun e c => (bo (fun d => ?_))))
 refine oE (eV 0 O O O aO lF O c (h0.rds 0 O) d) O ?_
 intro b
 refine oA O (oT (ay ?_))
 exact aJ b O O O (.a (.a .n))

def jC.f (x0 : List UInt8) : Option (List UInt8) := if 0 ≤ (0 : Int) ∧ (0 : Int) ≤ (x0.length : Int) ∧ (x0.length : Int) * 1 ≤ 140737488355328 then (if ((List.replicate (0 : Int).toNat (0 : UInt8)).length + x0.length) * 1 ≤ 140737488355328 then (some ((List.replicate (0 : Int).toNat (0 : UInt8)) ++ x0)) else none) else none
theorem jC.calls (W : World) (F : HA) (a0 : Option Addr) (c0 : Nat) (x0 : Lb) (h0 : Rd F a0 (aL x0)) (e : x0.length ≤ c0) (g : c0 ≤ maxLen) :
    Fn Tryz.prog W 66 [.slice a0 x0.length c0] [] F (jC.f x0) (fun r (y : Option Addr × Nat) => .slice y.1 r.length y.2) (fun r y => [Row 5 1 y.1 r.length y.2 (aL r)]) := by
 unfold jC.f
 refine aX 8 Tryz.func66 O Tryz.ntmps66 O (sr (oA O (nx (oM O (vq (bL O O O aH) O (bo (fun b => (oE (pG O O O aH ks b.1 b.2.1 b.2.2) O ?_))))))))
 intro h
 refine oM O (bo (fun d => ?_))
 refine oE (iG 0 O O O aH ks O (h0.rds 0 O) d) O ?_
 intro c
 refine oA O (oT (ay ?_))
 exact aJ c O O O (.a (.a .n))

def fQ.f (a : List ((List UInt8) × (List UInt8 × Int))) (c : List UInt8) (d : Int) (e : Bool) (x1 : List UInt8) : Option (List UInt8 × Int) := if (aW a x1).isSome = true then ((jC.f (((aW a x1).getD (([] : List UInt8), (0 : Int))).1)).bind fun b => (some (b, 0))) else (some (([] : List UInt8), 8))
theorem fQ.calls (W : World) (F : HA) (b0 h : Nat) (e : Kps) (b : List (Lb × (Lb × Int))) (j : Lb) (k : Int) (l : Bool) (x1 : Lb)  :
    Fn Tryz.prog W 26 [Pt b0, str x1] [W0 b0 h j k l, ax (au h aB ar e) ak e b] F (fQ.f b j k l x1) (fun r (y : Option Addr × Nat) => .tuple #[.slice y.1 r.1.length y.2, Iv r.2]) (fun r y => [Row 5 1 y.1 r.1.length y.2 (aL r.1), W0 b0 h j k l, ax (au h aB ar e) ak e b]) := by
 unfold fQ.f
 refine aX 20 Tryz.func26 O Tryz.ntmps26 O (sr (oA O (oA O (oT (ap ?_)))))
 refine ji (fun i => ?_) (fun i => ?_)
 refine aG (oM O (oN O (vq (oF O bD O fx O) O (vq (oL O fL 0 O) O (oM O (vq ((nX (ek := aB) x1 (lc 1 O) i O O O ey nB : RQ _ _ _ _ (.pointer (some ⟨(dS e x1), 0, none⟩)))) O (oA O (oT (ap (sr (oM O (vq (pC O O O fH) O (oT (jE O (aA (ai (ap (kA (v := ((aW b x1).getD (([] : Lb), (0 : Int)))) 1 O (jn i) (fun g => (gq (H' := [obj (dS e x1) 109 [.slice g.1 ((((aW b x1).getD (([] : Lb), (0 : Int))).1).length) g.2, Iv (((aW b x1).getD (([] : Lb), (0 : Int))).2)], Row 5 1 g.1 (((aW b x1).getD (([] : Lb), (0 : Int))).1).length g.2 (aL (((aW b x1).getD (([] : Lb), (0 : Int))).1)), lE (au h aB ar e) ak e b x1, W0 b0 h j k l, F]) (Ent.refl _) (aG (oM O (oN O (vq (oF O dp O bM O) O (vq (oL O cP 0 O) O (aj (fun u n => (bw 1 O (fun o q s t => (oE (kQ (vs := [.slice g.1 ((((aW b x1).getD (([] : Lb), (0 : Int))).1).length) g.2]) (cap := []) (A := []) O O O O O O call66 (.a (.a (.a (.a (.a .n))))) (jC.calls _ _ g.1 g.2 (((aW b x1).getD (([] : Lb), (0 : Int))).1) (o.lend 1 O) q s) n) O ?_))))))))))))))))))))))))))))))
 intro m
 refine oA O (oA O (oT (ay ?_)))
 exact aJ m O O O (.a (.d (.foldF0 (x := x1) (p := (dS e x1)) (v := ((aW b x1).getD (([] : Lb), (0 : Int)))) g O (jn i) (.c (.a (.a (.a .n)))))))
 refine aG (oM O (oN O (vq (oF O bD O fx O) O (vq (oL O fL 0 O) O (oM O (vq (nY (ek := aB) x1 (lc 1 O) (md i) O O O ey nB ke) O (oA O (oT (ap (sr (oM O (vq (nT O O O fH) O (oT (ix O (sr (oA O (oA O (oT (ay (aY ?_))))))))))))))))))))
 exact aJ (none, 0) O O O (.row_nil (.a (.a (.a .n))))

def jB.f (x0 : List UInt8) : Option (Int) := if 0 ≤ (0 : Int) ∧ (0 : Int) < (x0.length : Int) then (if 0 ≤ (1 : Int) ∧ (1 : Int) < (x0.length : Int) then (if 0 ≤ (2 : Int) ∧ (2 : Int) < (x0.length : Int) then (if 0 ≤ (3 : Int) ∧ (3 : Int) < (x0.length : Int) then (some (df .or .u32 (df .or .u32 (df .or .u32 (IntKind.u32.wrap ((x0.getD (0 : Int).toNat 0).toNat : Int)) (IntKind.u32.wrap ((IntKind.u32.wrap ((x0.getD (1 : Int).toNat 0).toNat : Int)) * 2 ^ (min (8 : Int).toNat IntKind.u32.bits)))) (IntKind.u32.wrap ((IntKind.u32.wrap ((x0.getD (2 : Int).toNat 0).toNat : Int)) * 2 ^ (min (16 : Int).toNat IntKind.u32.bits)))) (IntKind.u32.wrap ((IntKind.u32.wrap ((x0.getD (3 : Int).toNat 0).toNat : Int)) * 2 ^ (min (24 : Int).toNat IntKind.u32.bits))))) else none) else none) else none) else none
theorem jB.calls (W : World) (F : HA) (a0 : Option Addr) (c0 : Nat) (x0 : Lb) (h0 : Rd F a0 (aL x0)) (s : x0.length ≤ c0) (t : c0 ≤ maxLen) :
    Fn Tryz.prog W 94 [.slice a0 x0.length c0] [] F (jB.f x0) (fun r (y : Unit) => .int .u32 r) (fun r y => []) := by
 unfold jB.f
 refine aX 25 Tryz.func94 O Tryz.ntmps94 O (sr (oA O (oT (ap (dh (fun e => ?_))))))
 obtain ⟨u, n, g⟩ := h0.pos (lu (j := (0 : Int).toNat) (by omega))
 refine dh (fun h => ?_)
 obtain ⟨v, o, i⟩ := h0.pos (lu (j := (1 : Int).toNat) (by omega))
 refine dh (fun k => ?_)
 obtain ⟨p, l, b⟩ := h0.pos (lu (j := (2 : Int).toNat) (by omega))
 refine dh (fun c => ?_)
 obtain ⟨q, m, d⟩ := h0.pos (lu (j := (3 : Int).toNat) (by omega))
 refine bK [[], [0], [0, 1], [0, 1, 2], [], [4], [4, 5], [4, 5, 6], [4, 5, 6, 7], rL 9, [], [10], [10, 11], [10, 11, 12], [10, 11, 12, 13], rL 15, [], [16], [16, 17], [16, 17, 18], [16, 17, 18, 19], rL 21, rL 22] 25 O mixed (by decide) (dqo 0 [0] O O O (am O O) (dq 1 O O O (mj O O O g aH fB e.1 e.2) (dl 2 [] O O O (dR O O isAgg5 (h0.cell 0 O g (kD (by omega)))) (dq 3 O O O (jN O O eP fo) (dqo 4 [0] O O O (am O O) (dq 5 O O O (mj O O O i aH fB h.1 h.2) (dl 6 [] O O O (dR O O isAgg5 (h0.cell 0 O i (kD (by omega)))) (dq 7 O O O (jN O O eP fo) (dq 8 O O O (uz O O O (by decide)) (dq 9 O O O (sq O O O) (dqo 10 [0] O O O (am O O) (dq 11 O O O (mj O O O b aH fB k.1 k.2) (dl 12 [] O O O (dR O O isAgg5 (h0.cell 0 O b (kD (by omega)))) (dq 13 O O O (jN O O eP fo) (dq 14 O O O (uz O O O (by decide)) (dq 15 O O O (sq O O O) (dqo 16 [0] O O O (am O O) (dq 17 O O O (mj O O O d aH fB c.1 c.2) (dl 18 [] O O O (dR O O isAgg5 (h0.cell 0 O d (kD (by omega)))) (dq 19 O O O (jN O O eP fo) (dq 20 O O O (uz O O O (by decide)) (dq 21 O O O (sq O O O) (dq 22 O O O (dx O O) (.fin [(2, .int .u32 (df .or .u32 (df .or .u32 (df .or .u32 (IntKind.u32.wrap ((x0.getD (0 : Int).toNat 0).toNat : Int)) (IntKind.u32.wrap ((IntKind.u32.wrap ((x0.getD (1 : Int).toNat 0).toNat : Int)) * 2 ^ (min (8 : Int).toNat IntKind.u32.bits)))) (IntKind.u32.wrap ((IntKind.u32.wrap ((x0.getD (2 : Int).toNat 0).toNat : Int)) * 2 ^ (min (16 : Int).toNat IntKind.u32.bits)))) (IntKind.u32.wrap ((IntKind.u32.wrap ((x0.getD (3 : Int).toNat 0).toNat : Int)) * 2 ^ (min (24 : Int).toNat IntKind.u32.bits)))))] O ⟨O, trivial⟩ (ai (ay ?_))))))))))))))))))))))))))
 exact aJ () O O O (.a .n)

def ka.f (k : Nat) (x0 : List UInt8) (x1 : Int) : Option (List UInt8 × Int × Int) := if (((decide (x1 < (0 : Int))) || (decide ((x0.length : Int) < x1))) || (decide (IntKind.i64.wrap ((x0.length : Int) - x1) < (4 : Int)))) = true then (some (([] : List UInt8), 0, 2)) else (if 0 ≤ x1 ∧ x1 ≤ (x0.length : Int) ∧ (x0.length : Int) ≤ (x0.length : Int) then ((jB.f (cut x0 x1 (x0.length : Int))).bind fun a => (if (1048576 : Int) < IntKind.i64.wrap a then (some (([] : List UInt8), 0, 3)) else (if ((cut x0 x1 (x0.length : Int)).length : Int) < IntKind.i64.wrap (8 + (IntKind.i64.wrap a)) then (some (([] : List UInt8), 0, 2)) else (if 0 ≤ (8 : Int) ∧ (8 : Int) ≤ IntKind.i64.wrap (8 + (IntKind.i64.wrap a)) ∧ IntKind.i64.wrap (8 + (IntKind.i64.wrap a)) ≤ ((cut x0 x1 (x0.length : Int)).length : Int) then (if 0 ≤ (0 : Int) ∧ (0 : Int) ≤ (4 : Int) ∧ (4 : Int) ≤ ((cut x0 x1 (x0.length : Int)).length : Int) then ((cV.f k (4294967295 : Int) (cut (cut x0 x1 (x0.length : Int)) (0 : Int) (4 : Int))).bind fun b => ((cV.f k b (cut (cut x0 x1 (x0.length : Int)) (8 : Int) (IntKind.i64.wrap (8 + (IntKind.i64.wrap a))))).bind fun c => (if 0 ≤ (4 : Int) ∧ (4 : Int) ≤ ((cut x0 x1 (x0.length : Int)).length : Int) ∧ ((cut x0 x1 (x0.length : Int)).length : Int) ≤ ((cut x0 x1 (x0.length : Int)).length : Int) then ((jB.f (cut (cut x0 x1 (x0.length : Int)) (4 : Int) ((cut x0 x1 (x0.length : Int)).length : Int))).bind fun d => (if df .xor .u32 (if IntKind.u32.signed then -1 else IntKind.u32.max) c = d then (if 0 ≤ (0 : Int) ∧ (0 : Int) ≤ IntKind.i64.wrap a ∧ IntKind.i64.wrap a * 1 ≤ 140737488355328 then (if ((List.replicate (0 : Int).toNat (0 : UInt8)).length + (cut (cut x0 x1 (x0.length : Int)) (8 : Int) (IntKind.i64.wrap (8 + (IntKind.i64.wrap a)))).length) * 1 ≤ 140737488355328 then (some ((List.replicate (0 : Int).toNat (0 : UInt8)) ++ (cut (cut x0 x1 (x0.length : Int)) (8 : Int) (IntKind.i64.wrap (8 + (IntKind.i64.wrap a)))), IntKind.i64.wrap (8 + (IntKind.i64.wrap a)), 0)) else none) else none) else (some (([] : List UInt8), 0, 5)))) else none))) else none) else none)))) else none)
theorem ka.calls (W : World) (F : HA) (k : Nat) (a0 : Option Addr) (c0 : Nat) (x0 : Lb) (x1 : Int) (h0 : Rd F a0 (aL x0)) (bt : x0.length ≤ c0) (m : c0 ≤ maxLen) :
    Fn Tryz.prog W 68 [.slice a0 x0.length c0, Iv x1] [] F (ka.f k x0 x1) (fun r (y : Option Addr × Nat) => .tuple #[.slice y.1 r.1.length y.2, Iv r.2.1, Iv r.2.2]) (fun r y => [Row 5 1 y.1 r.1.length y.2 (aL r.1)]) := by
 unfold ka.f
 refine aX 58 Tryz.func68 O Tryz.ntmps68 O (sr (oA O (oA O (oA O (oT (ap (sr (oM O (vq (dG O O O) O (oM O (ao (b := decide (x1 < (0 : Int))) (fun b8 => RQ.sub (E' := [(1, Iv x1)]) ⟨O, trivial⟩ (am O O)) O O O O O (ao (b := decide (x1 < (0 : Int))) (fun b9 => RQ.sub (E' := [(0, .slice a0 x0.length c0)]) ⟨O, trivial⟩ (am O O)) O O O O O (ao (b := decide (x1 < (0 : Int))) (fun af => RQ.sub (E' := [(14, .slice a0 x0.length c0)]) ⟨aN O af, trivial⟩ (bL O O O aH)) O O O O O (ao (b := decide (x1 < (0 : Int))) (fun n => RQ.sub (E' := [(13, Iv x1), (15, Iv (x0.length : Int))]) ⟨aN O n, aN O n, trivial⟩ (dO O O O)) O O O O O (vq (ik O O O) O (oM O (ao (b := (decide (x1 < (0 : Int))) || (decide ((x0.length : Int) < x1))) (fun cd => RQ.sub (E' := [(0, .slice a0 x0.length c0)]) ⟨O, trivial⟩ (am O O)) O O O O O (ao (b := (decide (x1 < (0 : Int))) || (decide ((x0.length : Int) < x1))) (fun ag => RQ.sub (E' := [(19, .slice a0 x0.length c0)]) ⟨aN O ag, trivial⟩ (bL O O O aH)) O O O O O (ao (b := (decide (x1 < (0 : Int))) || (decide ((x0.length : Int) < x1))) (fun ch => RQ.sub (E' := [(1, Iv x1)]) ⟨O, trivial⟩ (am O O)) O O O O O (ao (b := (decide (x1 < (0 : Int))) || (decide ((x0.length : Int) < x1))) (fun o => RQ.sub (E' := [(20, Iv (x0.length : Int)), (21, Iv x1)]) ⟨aN O o, aN O o, trivial⟩ (eL O O O)) O O O O O (ao (b := (decide (x1 < (0 : Int))) || (decide ((x0.length : Int) < x1))) (fun al => RQ.sub (E' := [(22, Iv (IntKind.i64.wrap ((x0.length : Int) - x1)))]) ⟨aN O al, trivial⟩ (dG O O O)) O O O O O (vq (ik O O O) O (oT ?_)))))))))))))))))))))))
 refine bm O (fun c8 => ?_) (fun c9 => ?_)
 refine sr (oA O (oA O (oA O (oT (ay (aY ?_))))))
 exact aJ (none, 0) O O O (.row_nil (.a .n))
 refine aA (ai (sr (oM O (oM O (bo (fun u => ?_))))))
 obtain ⟨b0, b1, b2, e, c, g⟩ := lf (lo := x1) (hi := (x0.length : Int)) h0 bt u
 refine vq (lS (l := x0) (lo' := x1) (hi' := (x0.length : Int)) O O O O aH fB (.inl ⟨O, O⟩) (.inr ⟨_, O⟩) u bt b2) O (oA O (nx (oM O (aj (fun d an => (oE (oC (vs := [.slice b0 ((cut x0 x1 (x0.length : Int)).length) b1]) (cap := []) (A := []) O call94 (.a .n) (jB.calls _ _ b0 b1 (cut x0 x1 (x0.length : Int)) (e.lend 0 O) c (Nat.le_trans g m)) an) O ?_))))))
 intro cs
 refine vq (jN O O fo fi) O (oA O (oT (ap (sr (oM O (vq (dO O O O) O (oT ?_)))))))
 refine bu O (fun c1 => ?_) (fun c2 => ?_)
 refine sr (oA O (oA O (oA O (oT (ay (aY ?_))))))
 exact aJ (none, 0) O O O (.row_nil (.a .n))
 refine aA (ai (ap (sr (oM O (vq (bL O O O aH) O (oM O (vq (cn O O O) O (vq (dG O O O) O (oT ?_)))))))))
 refine bu O (fun c3 => ?_) (fun c4 => ?_)
 refine sr (oA O (oA O (oA O (oT (ay (aY ?_))))))
 exact aJ (none, 0) O O O (.row_nil (.a .n))
 refine aA (ai (sr (oM O (oM O (vq (cn O O O) O (bo (fun p => ?_)))))))
 obtain ⟨i, j, az, q, a1, a2⟩ := lf (lo := (8 : Int)) (hi := IntKind.i64.wrap (8 + (IntKind.i64.wrap d))) e c p
 refine vq (lS (l := (cut x0 x1 (x0.length : Int))) (lo' := (8 : Int)) (hi' := IntKind.i64.wrap (8 + (IntKind.i64.wrap d))) O O O O aH fB (.inr ⟨_, O⟩) (.inr ⟨_, O⟩) p c az) O (oA O (oT (ap (ap (dh (fun s => ?_))))))
 obtain ⟨v, w, a3, a4, a5, a6⟩ := lf (lo := (0 : Int)) (hi := (4 : Int)) e c s
 refine bC (fun x a7 => (bC (fun b3 a8 => (dh (fun t => ?_)))))
 obtain ⟨z, ab, a9, bc, bd, be⟩ := lf (lo := (4 : Int)) (hi := ((cut x0 x1 (x0.length : Int)).length : Int)) e c t
 refine bC (fun b4 br => (bK [[], [0], [0, 1], [], rL 4, rL 5, [], [6], [0, 1, 2, 3, 4, 6, 7], rL 9] 58 O mixed (by decide) (dqo 0 [7] O O O (am O O) (dq 1 O O O (lS (l := (cut x0 x1 (x0.length : Int))) (lo' := (0 : Int)) (hi' := (4 : Int)) O O O O aH fB (.inr ⟨_, O⟩) (.inl ⟨O, O⟩) s c a3) (dqo 3 [9] O O O (am O O) (dqo 6 [7] O O O (am O O) (dq 7 O O O (lS (l := (cut x0 x1 (x0.length : Int))) (lo' := (4 : Int)) (hi' := ((cut x0 x1 (x0.length : Int)).length : Int)) O O O O aH fB (.inl ⟨O, O⟩) (.inr ⟨_, O⟩) t c a9) (de 2 [] O O O O (oC (vs := [.int .u32 4294967295, .slice v ((cut (cut x0 x1 (x0.length : Int)) (0 : Int) (4 : Int)).length) w]) (cap := []) (A := []) O call95 (.a .n) (cV.calls _ _ k (4294967295 : Int) v w (cut (cut x0 x1 (x0.length : Int)) (0 : Int) (4 : Int)) (a4.lend 0 O) a5 (Nat.le_trans a6 (Nat.le_trans g m))) a7) (fun b5 => zA) (fun b5 => (de 4 [] O O O O (kQ (vs := [.int .u32 x, .slice i ((cut (cut x0 x1 (x0.length : Int)) (8 : Int) (IntKind.i64.wrap (8 + (IntKind.i64.wrap d)))).length) j]) (cap := []) (A := []) O O O O O O call95 (.a .n) (cV.calls _ _ k x i j (cut (cut x0 x1 (x0.length : Int)) (8 : Int) (IntKind.i64.wrap (8 + (IntKind.i64.wrap d)))) (q.lend 0 O) a1 (Nat.le_trans a2 (Nat.le_trans g m))) a8) (fun b6 => zA) (fun b6 => (dq 5 O O O (A8 O O) (de 8 [] O O O O (kQ (vs := [.slice z ((cut (cut x0 x1 (x0.length : Int)) (4 : Int) ((cut x0 x1 (x0.length : Int)).length : Int)).length) ab]) (cap := []) (A := []) O O O O O O call94 (.a .n) (jB.calls _ _ z ab (cut (cut x0 x1 (x0.length : Int)) (4 : Int) ((cut x0 x1 (x0.length : Int)).length : Int)) (bc.lend 0 O) bd (Nat.le_trans be (Nat.le_trans g m))) br) (fun b7 => zA) (fun b7 => (dq 9 O O O (ej O O O) (.fin [(8, Iv (IntKind.i64.wrap d)), (9, .slice i ((cut (cut x0 x1 (x0.length : Int)) (8 : Int) (IntKind.i64.wrap (8 + (IntKind.i64.wrap d)))).length) j), (51, .bool (!decide (df .xor .u32 (if IntKind.u32.signed then -1 else IntKind.u32.max) b3 = b4)))] O ⟨O, O, O, trivial⟩ (ai ?_)))))))))))))))))
 refine eN O (fun c5 => ?_) (fun c6 => ?_)
 refine aA (ai (sr (oM O (bo (fun h => (oE (pG O O O aH ks h.1 h.2.1 h.2.2) O ?_))))))
 intro c7
 refine oM O (bo (fun bs => ?_))
 refine oE (iG 0 O O O aH ks O (q.rds 0 O) bs) O ?_
 intro ad
 refine oM O (vq (cn O O O) O (oA O (oA O (oA O (oT (ay ?_))))))
 exact aJ ad O O O (.a (.a .n))
 refine sr (oA O (oA O (oA O (oT (ay (aY ?_))))))
 exact aJ (none, 0) O O O (.row_nil (.a .n))
end Go.Proofs.YtndjkejhacfpdaaGreatDoor

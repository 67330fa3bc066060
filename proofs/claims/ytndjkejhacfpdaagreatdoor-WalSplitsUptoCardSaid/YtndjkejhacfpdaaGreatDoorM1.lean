/- Texts that lead to the law WalSplits: Sl1, Sl2, Sl3, Sl4, Sl5, Sl6, Sl7, Sl8, Sl9, Sl10, Sl11, Sl12, Sl13. Conditions: as each says. -/
import Derived.WalkKit
import Derived.TacticsIn
import Derived.TacticsInMore
import Derived.LoopNIn
import Derived.LoopIn
import Derived.RangeFuncCalls
import Derived.Below
import Derived.KernelRfl
import Derived.Laws.Cells
import Derived.Laws.Append
import Derived.Laws.BytesString
import Derived.Laws.AppendOwn
import Derived.RangeFuncRecord
import Derived.Laws.StructEq
namespace Go.Proofs.YtndjkejhacfpdaaGreatDoor
theorem O {α : Sort _} {a : α} : a = a := rfl
set_option linter.unusedVariables false
set_option linter.unusedSimpArgs false
open Go.RowKit

/-! ### 1. Parts of the heap -/
abbrev Hp := Nat → Option Obj
abbrev HA := Hp → Prop
def dj (a b : Hp) : Prop := ∀ i, a i = none ∨ b i = none
def un (a b : Hp) : Hp := fun i => (a i).or (b i)
def tt : HA := fun _ => True
def aS (A B : HA) : HA := fun h => ∃ a b, dj a b ∧ h = un a b ∧ A a ∧ B b
def aP : List HA → HA
  | [] => tt
  | A :: l => aS A (aP l)
def pr (p : Prop) : HA := fun _ => p
def exs {α : Type} (A : α → HA) : HA := fun h => ∃ x, A x h
def pts (b : Nat) (o : Obj) : HA := fun h => h b = some o

theorem sT {a b : Hp} (d : dj a b) : un a b = un b a := by
  funext i; simp only [un]; rcases d i with h | h <;> simp [h]
theorem oM (a b c : Hp) : un (un a b) c = un a (un b c) := by
  funext i; simp [un, Option.or_assoc]
theorem im {a b : Hp} (d : dj a b) : dj b a := fun i => (d i).symm
theorem iW {a b c : Hp} : dj (un a b) c ↔ dj a c ∧ dj b c := by
  constructor
  · intro h
    refine ⟨fun i => ?_, fun i => ?_⟩
    · rcases h i with e | e
      · simp [un] at e; exact .inl e.1
      · exact .inr e
    · rcases h i with e | e
      · simp [un] at e; exact .inl e.2
      · exact .inr e
  · rintro ⟨h1, h2⟩ i
    rcases h1 i with e1 | e1 <;> rcases h2 i with e2 | e2 <;> simp [un, e1, e2]
theorem lb {a b c : Hp} : dj a (un b c) ↔ dj a b ∧ dj a c := by
  constructor
  · intro h; have := iW.1 (im h); exact ⟨im this.1, im this.2⟩
  · rintro ⟨h1, h2⟩; exact im (iW.2 ⟨im h1, im h2⟩)

theorem dv (A B : HA) : aS A B = aS B A := by
  funext h
  apply propext
  constructor <;> (rintro ⟨a, b, d, rfl, ha, hb⟩; exact ⟨b, a, im d, sT d, hb, ha⟩)
theorem aW (A B C : HA) : aS (aS A B) C = aS A (aS B C) := by
  funext h
  apply propext
  constructor
  · rintro ⟨ab, c, d, rfl, ⟨a, b, d2, rfl, ha, hb⟩, hc⟩
    have := iW.1 d
    exact ⟨a, un b c, lb.2 ⟨d2, this.1⟩, oM _ _ _, ha, b, c, this.2, rfl, hb, hc⟩
  · rintro ⟨a, bc, d, rfl, ha, b, c, d2, rfl, hb, hc⟩
    have := lb.1 d
    exact ⟨un a b, c, iW.2 ⟨this.2, d2⟩, (oM _ _ _).symm, ⟨a, b, this.1, rfl, ha, hb⟩, hc⟩
theorem bQ {A A' B B' : HA} (h : Hp) (ha : ∀ h, A h → A' h) (hb : ∀ h, B h → B' h) (s : aS A B h) : aS A' B' h := by
  obtain ⟨a, b, d, rfl, x, y⟩ := s
  exact ⟨a, b, d, rfl, ha _ x, hb _ y⟩
theorem gw {A : HA} {h : Hp} (s : A h) : aS tt A h := ⟨fun _ => none, h, fun _ => .inl rfl, (by funext i; simp [un]), trivial, s⟩
theorem gQ {A : HA} {h : Hp} (s : A h) : aS A tt h := by rw [dv]; exact gw s

theorem dE (l : List HA) (X : HA) : ∀ h, aS X (aP l) h → aP l h := by
  induction l with
  | nil => intro h _; trivial
  | cons A l ih =>
    intro h s
    have s2 : aS A (aS X (aP l)) h := by
      rw [← aW, dv A X, aW]; exact s
    exact bQ h (fun _ x => x) ih s2
theorem ca (l m : List HA) : ∀ h, aP (l ++ m) h ↔ aS (aP l) (aP m) h := by
  induction l with
  | nil => intro h; exact ⟨gw, fun s => dE m tt h s⟩
  | cons A l ih =>
    intro h
    simp only [List.cons_append, aP]
    rw [aW]
    constructor
    · exact bQ h (fun _ x => x) (fun h s => (ih h).1 s)
    · exact bQ h (fun _ x => x) (fun h s => (ih h).2 s)
theorem lV (A B : HA) (l : List HA) : aP (A :: B :: l) = aP (B :: A :: l) := by
  simp only [aP]; rw [← aW, dv A B, aW]
theorem eu : ∀ (l : List HA) (i : Nat) (A : HA), l[i]? = some A → aP l = aP (A :: l.eraseIdx i)
  | [], i, A, h => by simp at h
  | B :: l, 0, A, h => by simp at h; simp [h]
  | B :: l, i + 1, A, h => by
    have := eu l i A (by simpa using h)
    simp only [List.eraseIdx_cons_succ]
    rw [lV]
    show aS B (aP l) = aS B (aP (A :: l.eraseIdx i))
    rw [this]
theorem fD : ∀ (l : List HA) (i : Nat) (A : HA), i < l.length → aP (A :: l.eraseIdx i) = aP (l.set i A)
  | [], i, A, h => by simp at h
  | B :: l, 0, A, h => by simp
  | B :: l, i + 1, A, h => by
    have := fD l i A (by simpa using h)
    simp only [List.eraseIdx_cons_succ, List.set_cons_succ]
    rw [lV]
    show aS B (aP (A :: l.eraseIdx i)) = aS B (aP (l.set i A))
    rw [this]

def Ent (l m : List HA) : Prop := ∀ h, aP l h → aP m h
theorem Ent.refl (l : List HA) : Ent l l := fun _ s => s
theorem Ent.trans {l m k : List HA} (a : Ent l m) (b : Ent m k) : Ent l k := fun h s => b h (a h s)
theorem Ent.nil (l : List HA) : Ent l [] := fun _ _ => trivial
theorem Ent.sel {l m : List HA} {A : HA} (i : Nat) (h : l[i]? = some A) (r : Ent (l.eraseIdx i) m) : Ent l (A :: m) := by
  intro hp s
  rw [eu l i A h] at s
  exact bQ hp (fun _ x => x) r s
theorem Ent.sel' {l m : List HA} {A B : HA} (i : Nat) (h : l[i]? = some A) (e : ∀ hp, A hp → B hp) (r : Ent (l.eraseIdx i) m) : Ent l (B :: m) := by
  intro hp s
  rw [eu l i A h] at s
  exact bQ hp e r s
theorem Ent.cons {l m : List HA} {A : HA} (r : Ent l m) : Ent (A :: l) (A :: m) := fun hp s => bQ hp (fun _ x => x) r s
theorem Ent.app {l l' m m' : List HA} (a : Ent l l') (b : Ent m m') : Ent (l ++ m) (l' ++ m') := fun h s =>
  (ca _ _ h).2 (bQ h a b ((ca _ _ h).1 s))
theorem Ent.drop {l m : List HA} {A : HA} (r : Ent l m) : Ent (A :: l) m := fun h s => r h (dE l A h s)
theorem Ent.pr_in {l m : List HA} {p : Prop} (hp : p) (r : Ent l m) : Ent l (pr p :: m) := fun h s =>
  ⟨fun _ => none, h, fun _ => .inl rfl, (by funext i; simp [un]), hp, r h s⟩
theorem Ent.pr_out {l m : List HA} {p : Prop} (r : p → Ent l m) : Ent (pr p :: l) m := by
  rintro h ⟨a, b, d, rfl, hp, s⟩
  exact dE m tt _ ⟨a, b, d, rfl, trivial, r hp b s⟩
theorem Ent.ex_out {α : Type} {l m : List HA} {A : α → HA} (r : ∀ x, Ent (A x :: l) m) : Ent (exs A :: l) m := by
  rintro h ⟨a, b, d, rfl, ⟨x, hx⟩, s⟩
  exact r x _ ⟨a, b, d, rfl, hx, s⟩
theorem Ent.fold (l m : List HA) : Ent (l ++ m) (l ++ [aP m]) := fun h s =>
  (ca _ _ h).2 (bQ h (fun _ x => x) (fun _ x => gQ x) ((ca _ _ h).1 s))
theorem Ent.unfold (l m : List HA) : Ent (l ++ [aP m]) (l ++ m) := fun h s =>
  (ca _ _ h).2 (bQ h (fun _ x => x) (fun h x => by
    have x : aS (aP m) tt h := x
    rw [dv] at x
    exact dE m tt h x) ((ca _ _ h).1 s))

def hpw (w : World) : Hp := fun b => w.heap[b]?
structure Sat (W : World) (H : List HA) (w : World) : Prop where
  os : w.os = W.os
  tape : w.tape = W.tape
  output : w.output = W.output
  size : W.heap.size ≤ w.heap.size
  hp : aP H (hpw w)
theorem Sat.ent {W w : World} {l m : List HA} (s : Sat W l w) (e : Ent l m) : Sat W m w := ⟨s.os, s.tape, s.output, s.size, e _ s.hp⟩
theorem Sat.drew {W w : World} {l : List HA} (s : Sat W l w) (n : Nat) : Sat W l { w with drawn := n } := ⟨s.os, s.tape, s.output, s.size, s.hp⟩
theorem Sat.pr_out {W w : World} {l : List HA} {p : Prop} (s : Sat W (pr p :: l) w) : p ∧ Sat W l w := by
  obtain ⟨a, b, _, _, hp, _⟩ := s.hp
  exact ⟨hp, s.ent (Ent.drop (Ent.refl _))⟩
theorem Sat.ex_out {α : Type} {W w : World} {l : List HA} {A : α → HA} (s : Sat W (exs A :: l) w) : ∃ x, Sat W (A x :: l) w := by
  obtain ⟨a, b, d, e, ⟨x, hx⟩, r⟩ := s.hp
  exact ⟨x, s.os, s.tape, s.output, s.size, a, b, d, e, hx, r⟩
theorem jF {a b : Hp} {i : Nat} {o : Obj} (h : a i = some o) : un a b i = some o := by simp [un, h]
theorem lQ {a b : Hp} (d : dj a b) {i : Nat} {o : Obj} (h : b i = some o) : un a b i = some o := by
  rcases d i with e | e
  · simp [un, e, h]
  · rw [h] at e; cases e
theorem ik : ∀ (l : List HA) (i : Nat) (A : HA), l[i]? = some A → ∀ h, aP l h → ∃ a, A a ∧ ∀ j o, a j = some o → h j = some o := by
  intro l i A hi h s
  rw [eu l i A hi] at s
  obtain ⟨a, b, d, rfl, ha, _⟩ := s
  exact ⟨a, ha, fun j o e => jF e⟩
theorem Sat.at {W w : World} {l : List HA} (s : Sat W l w) {i : Nat} {A : HA} (h : l[i]? = some A) : ∃ a, A a ∧ ∀ j o, a j = some o → w.heap[j]? = some o :=
  ik l i A h _ s.hp
theorem Sat.pts_at {W w : World} {l : List HA} (s : Sat W l w) {i b : Nat} {o : Obj} (h : l[i]? = some (pts b o)) : w.heap[b]? = some o := by
  obtain ⟨a, ha, k⟩ := s.at h
  exact k _ _ ha

/-! ### 2. What is done to the heap -/
theorem Sat.new {W w : World} {l : List HA} (s : Sat W l w) (o : Obj) : Sat W (pts w.heap.size o :: l) { w with heap := w.heap.push o } := by
  refine ⟨s.os, s.tape, s.output, ?_, ?_⟩
  · have := s.size; simp; omega
  · refine ⟨fun i => if i = w.heap.size then some o else none, hpw w, ?_, ?_, ?_, s.hp⟩
    · intro i
      by_cases h : i = w.heap.size
      · right; subst h; simp [hpw]
      · left; simp [h]
    · funext i
      simp only [hpw, un, Array.getElem?_push]
      by_cases h : i = w.heap.size
      · subst h; simp
      · simp [h]
    · simp [pts]
theorem Sat.upd {W w : World} {l : List HA} {b : Nat} {o o' : Obj} (s : Sat W (pts b o :: l) w) : Sat W (pts b o' :: l) { w with heap := w.heap.setIfInBounds b o' } := by
  have hb : w.heap[b]? = some o := s.pts_at (i := 0) rfl
  have hlt : b < w.heap.size := (Array.getElem?_eq_some_iff.1 hb).1
  refine ⟨s.os, s.tape, s.output, by simpa using s.size, ?_⟩
  obtain ⟨a, r, d, e, ha, hr⟩ := s.hp
  refine ⟨fun i => if i = b then some o' else a i, r, ?_, ?_, ?_, hr⟩
  · intro i
    by_cases h : i = b
    · subst h
      rcases d i with x | x
      · have ha : a i = some o := ha
        rw [ha] at x; cases x
      · exact .inr x
    · simpa [h] using d i
  · funext i
    have := congrFun e i
    simp only [hpw] at this ⊢
    simp only [un] at this ⊢
    rw [Array.getElem?_setIfInBounds]
    by_cases h : i = b
    · subst h; simp [hlt]
    · have h' : ¬ b = i := fun x => h x.symm
      simp [h, h', this]
  · simp [pts]
theorem ie (h : Array Obj) (b : Nat) (f : Obj → Obj) (o : Obj) (e : h[b]? = some o) : h.modify b f = h.setIfInBounds b (f o) := by
  apply Array.ext_getElem?
  intro i
  rw [Array.getElem?_modify, Array.getElem?_setIfInBounds]
  have hlt : b < h.size := (Array.getElem?_eq_some_iff.1 e).1
  by_cases hi : b = i
  · subst hi
    have e2 : h[b] = o := by rw [Array.getElem?_eq_getElem hlt] at e; simpa using e
    simp [hlt, e2]
  · simp [hi]

/-! ### 3. Temporaries -/
abbrev Env := List (Nat × Value)
def lk : Env → Nat → Option Value
  | [], _ => none
  | (i, v) :: t, j => bif Nat.beq i j then some v else lk t j
def ev (E : Env) : Operand → Option Value
  | .tmp t => lk E t
  | .const v => some v
  | .global g => some (.pointer (some ⟨g, 0, none⟩))
  | .func f => some (.func (.func f) #[] #[])
structure Has (n : Nat) (ds : List Deferred) (E : Env) (a : Act) : Prop where
  size : a.tmps.size = n
  defers : a.defers = ds
  get : ∀ i v, lk E i = some v → a.tmps[i]? = some v
theorem Has.ev {n : Nat} {ds : List Deferred} {E : Env} {a : Act} (h : Has n ds E a) {x : Operand} {v : Value} (e : ev E x = some v) : a.eval x = v := by
  cases x with
  | tmp t =>
    have := h.get t v e
    simp [Act.eval, Array.getD_eq_getD_getElem?, this]
  | const v' => simpa [Go.Proofs.YtndjkejhacfpdaaGreatDoor.ev, Act.eval] using e
  | global g => simpa [Go.Proofs.YtndjkejhacfpdaaGreatDoor.ev, Act.eval] using e
  | func f => simpa [Go.Proofs.YtndjkejhacfpdaaGreatDoor.ev, Act.eval] using e
theorem Has.put {n : Nat} {ds : List Deferred} {E : Env} {a : Act} (h : Has n ds E a) {d : Nat} (v : Value) (hd : Nat.blt d n = true) : Has n ds ((d, v) :: E) (a.put (some d) v) := by
  have hd' : d < n := by simpa [Nat.blt_eq] using hd
  refine ⟨by simpa [Act.put] using h.size, h.defers, fun i u hi => ?_⟩
  simp only [Act.put]
  rw [Array.getElem?_setIfInBounds]
  simp only [lk] at hi
  by_cases e : d = i
  · subst e
    simp [h.size, hd'] at hi ⊢
    exact hi
  · have : Nat.beq d i = false := by
      rw [Bool.eq_false_iff]; intro x; exact e (Nat.eq_of_beq_eq_true x)
    rw [this] at hi
    simp only [cond_false] at hi
    rw [if_neg e]
    exact h.get i u hi
def Sub : Env → Env → Prop
  | [], _ => True
  | (i, v) :: t, E => lk E i = some v ∧ Sub t E
theorem Has.sub {n : Nat} {ds : List Deferred} {E E' : Env} {a : Act} (h : Has n ds E a) (s : Sub E' E) : Has n ds E' a := by
  refine ⟨h.size, h.defers, ?_⟩
  induction E' with
  | nil => intro i v e; simp [lk] at e
  | cons p t ih =>
    obtain ⟨j, u⟩ := p
    obtain ⟨h1, h2⟩ := s
    intro i v e
    simp only [lk] at e
    cases hb : Nat.beq j i with
    | true =>
      rw [hb] at e
      obtain rfl := Nat.eq_of_beq_eq_true hb
      simp only [cond_true, Option.some.injEq] at e
      subst e
      exact h.get _ _ h1
    | false =>
      rw [hb] at e
      exact ih h2 i v e

end Go.Proofs.YtndjkejhacfpdaaGreatDoor

namespace Go.Proofs.YtndjkejhacfpdaaGreatDoor
set_option linter.unusedVariables false
set_option linter.unusedSimpArgs false
open Go.RowKit

structure Cx where
  P : Program
  W : World
  ro : Option Nat
  n : Nat
  ds : List Deferred
def fen : Option Nat → Fence
  | none => Fence.wide
  | some l => Fence.wide.inRound l
theorem fv (ro : Option Nat) (f : FuncId) : (fen ro).fn f := by cases ro <;> trivial
theorem jp (ro : Option Nat) : (fen ro).depth.isSome = true → 1 ≤ 0 := by cases ro <;> (intro h; cases h)
theorem qR (ro : Option Nat) : (fen ro).round = ro := by cases ro <;> rfl

abbrev cT (R : Type) := R → Exit → Act → World → Prop
section defs
variable (K : Cx) {R S Y : Type}
def Sim (Q : cT R) (c : Code) (E : Env) (H : List HA) (o : Option R) : Prop :=
  ∀ r, o = some r → ∀ a w, Has K.n K.ds E a → Sat K.W H w → c.wpIn (fen K.ro) 0 K.P (Q r) a w
def bP (Q : cT R) (ops : Array Oper) (l : List Oper) (E : Env) (H : List HA) (o : Option R) : Prop :=
  ∀ r, o = some r → ∀ a w, Has K.n K.ds E a → Sat K.W H w → wpListIn (fen K.ro) 0 K.P ops (Q r) l a w
def Nrm (Q : cT R) (E : Env) (H : List HA) (o : Option R) : Prop :=
  ∀ r, o = some r → ∀ a w, Has K.n K.ds E a → Sat K.W H w → Q r .normal a w
def iT (c : Code) (Q : cT R) : cT R := fun r => Exit.then (c.wpIn (fen K.ro) 0 K.P (Q r)) (Q r)
def jE (id : Nat) (Q : cT R) : cT R := fun r => Exit.inBlock id (Q r)
def gX (E : S → Y → Env) (H : S → Y → List HA) : cT S := fun s e a w =>
  match e with
  | .normal => ∃ y, Has K.n K.ds (E s y) a ∧ Sat K.W (H s y) w
  | _ => False
def rH (Q : cT R) (E : S → Y → Env) (H : S → Y → List HA) : cT (S ⊕ R) := fun sr e a w =>
  match sr with
  | .inl s => match e with
    | .normal => ∃ y, Has K.n K.ds (E s y) a ∧ Sat K.W (H s y) w
    | _ => False
  | .inr r => match e with
    | .normal => False
    | e => Q r e a w
def nF (L : S → Option R) (E : S → Y → Env) (H : S → Y → List HA) (Q : cT R) : cT R := fun r e a w =>
  match e with
  | .normal => ∃ s y, L s = some r ∧ Has K.n K.ds (E s y) a ∧ Sat K.W (H s y) w
  | e => Q r e a w
def oi (fn : Func) (val : R → Y → Value) (B : R → Y → List HA) : cT R := fun r e a w =>
  bodyPost K.P fn (fun e w' => ∃ y, e = .returned (val r y) ∧ Sat K.W (B r y) w') e a w
end defs

def orR {S R : Type} (o1 : Option (S ⊕ R)) (o2 : S → Option R) : Option R :=
  match o1 with
  | none => none
  | some (.inl s) => o2 s
  | some (.inr r) => some r

section rules
variable {K : Cx} {R S Y : Type} {Q : cT R} {E : Env} {H : List HA} {o : Option R}
theorem ay {c1 c2 : Code} (h : Sim K (iT K c2 Q) c1 E H o) : Sim K Q (.seq c1 c2) E H o :=
  fun r hr a w he hs => wpIn_seq (h r hr a w he hs)
theorem aT {id : Nat} {c : Code} (h : Sim K (jE id Q) c E H o) : Sim K Q (.block id c) E H o :=
  fun r hr a w he hs => wpIn_block (h r hr a w he hs)
theorem aC (h : Nrm K Q E H o) : Sim K Q .skip E H o := fun r hr a w he hs => wpIn_skip (h r hr a w he hs)
theorem aJ {id : Nat} {l : List Oper} (h : bP K Q l.toArray l E H o) : Sim K Q (.region id l.toArray false) E H o :=
  fun r hr a w he hs => wpIn_region_lit (h r hr a w he hs)
theorem ae {ops : Array Oper} (h : Nrm K Q E H o) : bP K Q ops [] E H o := h
theorem aa {c : Code} (h : Sim K Q c E H o) : Nrm K (iT K c Q) E H o := h
theorem bv {id : Nat} (h : Nrm K Q E H o) : Nrm K (jE id Q) E H o := h
theorem gN {c : Code} : Sim K Q c E H none := fun _ h => nomatch h
theorem mW {ops : Array Oper} {l : List Oper} : bP K Q ops l E H none := fun _ h => nomatch h
theorem rI : Nrm K Q E H none := fun _ h => nomatch h
theorem bf {x : Operand} {c1 c2 : Code} {p : Prop} [Decidable p] {o1 o2 : Option R} (hx : ev E x = some (.bool (decide p)))
    (h1 : p → Sim K Q c1 E H o1) (h2 : ¬ p → Sim K Q c2 E H o2) : Sim K Q (.cond x c1 c2) E H (if p then o1 else o2) := by
  intro r hr a w he hs
  by_cases hp : p
  · rw [if_pos hp] at hr
    exact wpIn_cond_true (by rw [he.ev hx]; simp [hp]) (h1 hp r hr a w he hs)
  · rw [if_neg hp] at hr
    exact wpIn_cond_false (by rw [he.ev hx]; simp [hp]) (h2 hp r hr a w he hs)
theorem aY {x : Operand} {c1 c2 : Code} {b : Bool} {o1 o2 : Option R} (hx : ev E x = some (.bool b))
    (h1 : b = true → Sim K Q c1 E H o1) (h2 : b = false → Sim K Q c2 E H o2) : Sim K Q (.cond x c1 c2) E H (if b = true then o1 else o2) := by
  intro r hr a w he hs
  cases b with
  | true => exact wpIn_cond_true (he.ev hx) (h1 rfl r (by simpa using hr) a w he hs)
  | false => exact wpIn_cond_false (he.ev hx) (h2 rfl r (by simpa using hr) a w he hs)
theorem cS {x : Operand} {c1 c2 : Code} {p : Prop} [Decidable p] {o1 o2 : Option R} (hx : ev E x = some (.bool (!decide p)))
    (h1 : p → Sim K Q c2 E H o1) (h2 : ¬ p → Sim K Q c1 E H o2) : Sim K Q (.cond x c1 c2) E H (if p then o1 else o2) := by
  intro r hr a w he hs
  by_cases hp : p
  · rw [if_pos hp] at hr
    exact wpIn_cond_false (by rw [he.ev hx]; simp [hp]) (h1 hp r hr a w he hs)
  · rw [if_neg hp] at hr
    exact wpIn_cond_true (by rw [he.ev hx]; simp [hp]) (h2 hp r hr a w he hs)
theorem eM {x : Operand} {c1 c2 : Code} (hx : ev E x = some (.bool true)) (h1 : Sim K Q c1 E H o) : Sim K Q (.cond x c1 c2) E H o :=
  fun r hr a w he hs => wpIn_cond_true (he.ev hx) (h1 r hr a w he hs)
theorem fx {x : Operand} {c1 c2 : Code} (hx : ev E x = some (.bool false)) (h1 : Sim K Q c2 E H o) : Sim K Q (.cond x c1 c2) E H o :=
  fun r hr a w he hs => wpIn_cond_false (he.ev hx) (h1 r hr a w he hs)
theorem fd {c : Code} {p : Prop} [Decidable p] {o1 o2 : Option R} (h1 : p → Sim K Q c E H o1) (h2 : ¬ p → Sim K Q c E H o2) : Sim K Q c E H (if p then o1 else o2) := by
  by_cases hp : p
  · rw [if_pos hp]; exact h1 hp
  · rw [if_neg hp]; exact h2 hp
theorem gT {ops : Array Oper} {l : List Oper} {p : Prop} [Decidable p] {o1 o2 : Option R} (h1 : p → bP K Q ops l E H o1) (h2 : ¬ p → bP K Q ops l E H o2) : bP K Q ops l E H (if p then o1 else o2) := by
  by_cases hp : p
  · rw [if_pos hp]; exact h1 hp
  · rw [if_neg hp]; exact h2 hp
theorem bh {ops : Array Oper} {l : List Oper} {p : Prop} [Decidable p] {o1 : Option R} (h1 : p → bP K Q ops l E H o1) : bP K Q ops l E H (if p then o1 else none) :=
  gT h1 fun _ => mW
theorem cU {c : Code} {p : Prop} [Decidable p] {o1 : Option R} (h1 : p → Sim K Q c E H o1) : Sim K Q c E H (if p then o1 else none) :=
  fd h1 fun _ => gN
theorem aw {ops : Array Oper} {l : List Oper} {o1 : Option S} {o2 : S → Option R} (h : ∀ s, o1 = some s → bP K Q ops l E H (o2 s)) : bP K Q ops l E H (o1.bind o2) := by
  cases o1 with
  | none => exact mW
  | some s => exact h s rfl
theorem bp {c : Code} {o1 : Option S} {o2 : S → Option R} (h : ∀ s, o1 = some s → Sim K Q c E H (o2 s)) : Sim K Q c E H (o1.bind o2) := by
  cases o1 with
  | none => exact gN
  | some s => exact h s rfl
theorem bR {ops : Array Oper} {l : List Oper} {H' : List HA} (e : Ent H H') (h : bP K Q ops l E H' o) : bP K Q ops l E H o :=
  fun r hr a w he hs => h r hr a w he (hs.ent e)
theorem eD {c : Code} {H' : List HA} (e : Ent H H') (h : Sim K Q c E H' o) : Sim K Q c E H o :=
  fun r hr a w he hs => h r hr a w he (hs.ent e)
theorem mx {H' : List HA} (e : Ent H H') (h : Nrm K Q E H' o) : Nrm K Q E H o :=
  fun r hr a w he hs => h r hr a w he (hs.ent e)
theorem lL {c : Code} {p : Prop} (h : p → Sim K Q c E H o) : Sim K Q c E (pr p :: H) o :=
  fun r hr a w he hs => h hs.pr_out.1 r hr a w he hs.pr_out.2
theorem sN {c : Code} {A : Y → HA} (h : ∀ y, Sim K Q c E (A y :: H) o) : Sim K Q c E (exs A :: H) o :=
  fun r hr a w he hs => let ⟨y, s⟩ := hs.ex_out; h y r hr a w he s
theorem bE (Y : Type) {c1 c2 : Code} {o1 : Option S} {o2 : S → Option R} (E2 : S → Y → Env) (H2 : S → Y → List HA)
    (h1 : Sim K (gX K E2 H2) c1 E H o1) (h2 : ∀ s y, Sim K Q c2 (E2 s y) (H2 s y) (o2 s)) : Sim K Q (.seq c1 c2) E H (o1.bind o2) := by
  intro r hr a w he hs
  cases ho : o1 with
  | none => rw [ho] at hr; cases hr
  | some s =>
    rw [ho] at hr
    refine wpIn_seq (wpIn_mono (h1 s ho a w he hs) ?_)
    intro e a' w' hq
    cases e with
    | normal => obtain ⟨y, x1, x2⟩ := hq; exact h2 s y r hr a' w' x1 x2
    | _ => exact hq.elim
theorem gp (Y : Type) {c1 c2 : Code} {o1 : Option (S ⊕ R)} {o2 : S → Option R} (E2 : S → Y → Env) (H2 : S → Y → List HA)
    (h1 : Sim K (rH K Q E2 H2) c1 E H o1) (h2 : ∀ s y, Sim K Q c2 (E2 s y) (H2 s y) (o2 s)) : Sim K Q (.seq c1 c2) E H (orR o1 o2) := by
  intro r hr a w he hs
  cases ho : o1 with
  | none => rw [ho] at hr; cases hr
  | some sr =>
    rw [ho] at hr
    cases sr with
    | inl s =>
      refine wpIn_seq (wpIn_mono (h1 _ ho a w he hs) ?_)
      intro e a' w' hq
      cases e with
      | normal => obtain ⟨y, x1, x2⟩ := hq; exact h2 s y r hr a' w' x1 x2
      | _ => exact hq.elim
    | inr r' =>
      obtain rfl : r' = r := by simpa [orR] using hr
      refine wpIn_seq (wpIn_mono (h1 _ ho a w he hs) ?_)
      intro e a' w' hq
      cases e with
      | normal => exact hq.elim
      | _ => exact hq
theorem aF {E2 : S → Y → Env} {H2 : S → Y → List HA} {s : S} (y : Y) (hE : Sub (E2 s y) E) (hH : Ent H (H2 s y)) : Nrm K (gX K E2 H2) E H (some s) := by
  intro r hr a w he hs
  cases hr
  exact ⟨y, he.sub hE, hs.ent hH⟩
theorem fW {E2 : S → Y → Env} {H2 : S → Y → List HA} {s : S} (y : Y) (hE : Sub (E2 s y) E) (hH : Ent H (H2 s y)) : Nrm K (rH K Q E2 H2) E H (some (.inl s)) := by
  intro r hr a w he hs
  cases hr
  exact ⟨y, he.sub hE, hs.ent hH⟩
theorem jU {F : Fence} {n : Nat} {P : Program} {ops : Array Oper} {Q1 Q2 : Exit → Act → World → Prop} : ∀ (l1 l2 : List Oper) (a : Act) (w : World),
    wpListIn F n P ops Q1 l1 a w → (∀ a w, Q1 .normal a w → wpListIn F n P ops Q2 l2 a w) → (∀ c a w, Q1 (.panic c) a w → Q2 (.panic c) a w) → (∀ a w, Q1 .outgrown a w → Q2 .outgrown a w) → wpListIn F n P ops Q2 (l1 ++ l2) a w
  | [], l2, a, w, h, h2, _, _ => h2 a w h
  | o :: l1, l2, a, w, h, h2, h3, h4 => by
    simp only [List.cons_append, wpListIn] at h ⊢
    split
    · rename_i hw
      rw [if_pos hw] at h
      refine ⟨h.1, ?_⟩
      have mono : ∀ (r : Result Next), o.uponIn F n P a (wpListIn F n P ops Q1 l1) Q1 r → o.uponIn F n P a (wpListIn F n P ops Q2 (l1 ++ l2)) Q2 r := by
        intro r hr
        have nx : ∀ a w, wpListIn F n P ops Q1 l1 a w → wpListIn F n P ops Q2 (l1 ++ l2) a w := fun a w x => jU l1 l2 a w x h2 h3 h4
        have og : LetsOut Q1 → LetsOut Q2 := fun ⟨a, w, x⟩ => ⟨a, w, h4 a w x⟩
        cases r with
        | ok nxt w' =>
          cases nxt with
          | value v => exact nx _ _ hr
          | skip => exact nx _ _ hr
          | defer d => exact nx _ _ hr
          | enter f args =>
            refine ⟨hr.1, hr.2.mono ?_⟩
            intro e w'' x
            cases e with
            | returned v => exact nx _ _ x
            | panicked c => exact h3 _ _ _ x
            | outgrown => exact og x
          | row row args => exact ⟨hr.1, hr.2.mono fun v w'' x => nx _ _ x⟩
          | round l f tmps assign body =>
            refine ⟨hr.1, hr.2.mono ?_⟩
            intro e w'' x
            cases e with
            | returned v => exact nx _ _ x
            | panicked c => exact h3 _ _ _ x
            | outgrown => exact og x
          | _ => exact hr.elim
        | halt h w' => cases h <;> first | exact h3 _ _ _ hr | exact hr.elim
      exact mono _ h.2
    · rename_i hw
      rw [if_neg hw] at h
      exact ⟨h.1, jU l1 l2 _ w h.2 h2 h3 h4⟩
theorem rJ (Y : Type) {ops : Array Oper} {l1 l2 : List Oper} {o1 : Option S} {o2 : S → Option R} (E2 : S → Y → Env) (H2 : S → Y → List HA)
    (h1 : bP K (gX K E2 H2) ops l1 E H o1) (h2 : ∀ s y, bP K Q ops l2 (E2 s y) (H2 s y) (o2 s)) : bP K Q ops (l1 ++ l2) E H (o1.bind o2) := by
  intro r hr a w he hs
  cases ho : o1 with
  | none => rw [ho] at hr; cases hr
  | some s =>
    rw [ho] at hr
    exact jU l1 l2 a w (h1 s ho a w he hs) (fun a' w' ⟨y, x1, x2⟩ => h2 s y r hr a' w' x1 x2) (fun _ _ _ x => x.elim) (fun _ _ x => x.elim)

theorem cC {c : Code} (Y : Type) (L : Nat → S → Option R) (Es : S → Y → Env) (Hs : S → Y → List HA) (h0 : ∀ s, L 0 s = none)
    (hb : ∀ k s y, Sim K (nF K (L k) Es Hs Q) c (Es s y) (Hs s y) (L (k + 1) s)) (k : Nat) (s : S) (y : Y) (hE : Sub (Es s y) E) (hH : Ent H (Hs s y)) :
    Sim K Q (.loop c) E H (L k s) := by
  intro r hr a w he hs
  refine wpIn_wpghost (fun j a w => ∃ s y, L j s = some r ∧ Has K.n K.ds (Es s y) a ∧ Sat K.W (Hs s y) w) k ⟨s, y, hr, he.sub hE, hs.ent hH⟩ ?_
  rintro j a w ⟨s, y, hr, he, hs⟩
  cases j with
  | zero => rw [h0] at hr; cases hr
  | succ j =>
    refine wpIn_mono (hb j s y r hr a w he hs) ?_
    intro e a' w' hq
    cases e with
    | normal => exact ⟨j, Nat.lt_succ_self j, hq⟩
    | _ => exact hq
where
  wpIn_wpghost {F : Fence} {n : Nat} {P : Program} {Q : Exit → Act → World → Prop} {a : Act} {w : World} {c : Code} (I : Nat → Act → World → Prop) (n₀ : Nat) (h₀ : I n₀ a w)
      (round : ∀ m a w, I m a w → c.wpIn F n P (Exit.then (fun a' w' => ∃ k, k < m ∧ I k a' w') Q) a w) : (Code.loop c).wpIn F n P Q a w := by
    intro b k cs hro hb hr
    have key : ∀ j a w, I j a w →
        ∃ e a' w', Q e a' w' ∧ ArrivesIn (Machine.fenced P F) P (lone (b.atR a (.code c :: .inLoop c :: k)) cs w) b k cs e a' w' := by
      intro j
      induction j using Nat.strongRecOn with
      | _ j ih =>
        intro a w hI
        obtain ⟨e, a₁, w₁, hq, harr⟩ := round j a w hI b (.inLoop c :: k) cs hro hb hr
        cases e with
        | normal =>
          obtain ⟨j', hlt, hI₁⟩ := hq
          obtain ⟨e₂, a₂, w₂, hq₂, harr₂⟩ := ih j' hlt a₁ w₁ hI₁
          exact ⟨e₂, a₂, w₂, hq₂, .of_steps (StepsIn.trans harr (.one (fenced_calm hb hr rfl) stepR_inLoop)) harr₂⟩
        | exit id => exact ⟨_, a₁, w₁, hq, .pass (x := .inLoop c) rfl (fun _ _ => .inl (by simp)) harr⟩
        | goto l => exact ⟨_, a₁, w₁, hq, .pass (x := .inLoop c) rfl (fun _ _ => .inl (by simp)) harr⟩
        | ret => exact ⟨_, a₁, w₁, hq, .pass (x := .inLoop c) rfl (fun _ _ => .inl (by simp)) harr⟩
        | panic ch => exact ⟨_, a₁, w₁, hq, .pass (x := .inLoop c) rfl (fun _ _ => .inl (by simp)) harr⟩
        | outgrown => exact ⟨_, a₁, w₁, hq, .pass (x := .inLoop c) rfl (fun _ _ => .inl (by simp)) harr⟩
    obtain ⟨e, a', w', hq, harr⟩ := key _ a w h₀
    exact ⟨e, a', w', hq, .of_steps (.one (fenced_calm hb hr rfl) stepR_loop) harr⟩
theorem bV {L : S → Option R} {Es : S → Y → Env} {Hs : S → Y → List HA} {s : S} (y : Y) (hE : Sub (Es s y) E) (hH : Ent H (Hs s y)) : Nrm K (nF K L Es Hs Q) E H (L s) :=
  fun _ hr _ _ he hs => ⟨s, y, hr, he.sub hE, hs.ent hH⟩
/-! ### Results -/
def iL : List ResultVar → Env → Option (List Value)
  | [], _ => some []
  | .tmp t :: l, E => match lk E t, iL l E with
    | some v, some vs => some (v :: vs)
    | _, _ => none
  | .cell .. :: _, _ => none
def tup : List Value → Value
  | [v] => v
  | vs => .tuple vs.toArray
theorem oD {n : Nat} {ds : List Deferred} {a : Act} {P : Program} {w : World} (he : Has n ds E a) (g : ResultVar → Sem Value) (hg : ∀ t, g (.tmp t) = Sem.pure (a.tmps.getD t undef)) : ∀ (l : List ResultVar) (vs : List Value), iL l E = some vs →
    (l.mapM g).run P w = .ok vs w
  | [], vs, h => by simp [iL] at h; subst h; rfl
  | .tmp t :: l, vs, h => by
    simp only [iL] at h
    split at h
    · rename_i v vs' h1 h2
      cases h
      have ih := oD (P := P) (w := w) he g hg l vs' h2
      have := he.get _ _ h1
      simp only [List.mapM_cons, Sem.run_bind, hg, Sem.run_pure', Result.andThen_ok]
      rw [ih]
      simp [Array.getD_eq_getD_getElem?, this]
    · cases h
  | .cell .. :: l, vs, h => by simp [iL] at h
theorem lO {n : Nat} {ds : List Deferred} {a : Act} {P : Program} {w : World} {fn : Func} (he : Has n ds E a) {vs : List Value} (h : iL fn.results.toList E = some vs) :
    (results fn a.tmps).run P w = .ok (tup vs) w := by
  unfold results
  simp only [Sem.run_bind]
  rw [← Array.toArray_toList (xs := fn.results), List.mapM_toArray]
  simp only [Sem.run_map]
  rw [oD (P := P) (w := w) he _ (fun _ => rfl) fn.results.toList vs h]
  simp only [Result.andThen_ok]
  match vs with
  | [] => simp [tup]
  | [v] => simp [tup]
  | v :: u :: t => simp [tup]
theorem pG {fn : Func} {val : R → Y → Value} {B : R → Y → List HA} {r : R} {vs : List Value} (y : Y) (hd : K.ds = []) (hres : iL fn.results.toList E = some vs) (hv : tup vs = val r y) (hH : Ent H (B r y)) :
    ∀ r', some r = some r' → ∀ a w, Has K.n K.ds E a → Sat K.W H w → a.defers = [] ∧ ∃ v, (results fn a.tmps).run K.P w = .ok v w ∧ ∃ y, Ending.returned v = .returned (val r' y) ∧ Sat K.W (B r' y) w := by
  intro r' hr a w he hs
  cases hr
  exact ⟨he.defers.trans hd, _, lO he hres, y, by rw [hv], hs.ent hH⟩
theorem gb {fn : Func} {val : R → Y → Value} {B : R → Y → List HA} {r : R} {vs : List Value} (y : Y) (hd : K.ds = []) (hres : iL fn.results.toList E = some vs) (hv : tup vs = val r y) (hH : Ent H (B r y)) :
    Nrm K (oi K fn val B) E H (some r) := fun r' hr a w he hs => pG (K := K) y hd hres hv hH r' hr a w he hs

/-! ### Functions -/
end rules
def Fn (P : Program) (W : World) (f : FuncId) (args : List Value) (A : List HA) (F : HA) {R Y : Type} (o : Option R) (val : R → Y → Value) (B : R → Y → List HA) : Prop :=
  ∀ r, o = some r → ∀ w, Sat W (A ++ [F]) w → Calls P f args.toArray w fun e w' => ∃ y, e = .returned (val r y) ∧ Sat W (B r y ++ [F]) w'
def jO : Nat → List Value → Env
  | _, [] => []
  | i, v :: l => (i, v) :: jO (i + 1) l
theorem oE : ∀ (l : List Value) (i j : Nat) (v : Value), lk (jO i l) j = some v → ∃ k, j = i + k ∧ l[k]? = some v
  | [], i, j, v, h => by simp [jO, lk] at h
  | u :: l, i, j, v, h => by
    simp only [jO, lk] at h
    cases hb : Nat.beq i j with
    | true =>
      rw [hb] at h
      exact ⟨0, (Nat.eq_of_beq_eq_true hb).symm, by simpa using h⟩
    | false =>
      rw [hb] at h
      obtain ⟨k, h1, h2⟩ := oE l (i + 1) j v h
      exact ⟨k + 1, by omega, by simpa using h2⟩
theorem jP (args : List Value) (n : Nat) (hn : args.length ≤ n) : Has n [] (jO 0 args) { tmps := args.toArray ++ Array.replicate (n - args.toArray.size) undef, defers := [] } := by
  refine ⟨by simp; omega, rfl, fun i v h => ?_⟩
  obtain ⟨k, rfl, h2⟩ := oE args 0 i v h
  have hk : k < args.length := (List.getElem?_eq_some_iff.1 h2).1
  simp only [Nat.zero_add]
  rw [Array.getElem?_append_left (by simpa using hk)]
  simpa using h2
theorem aN {P : Program} {W : World} {f : FuncId} {args : List Value} {A : List HA} {F : HA} {R Y : Type} {o : Option R} {val : R → Y → Value} {B : R → Y → List HA}
    {fn : Func} {c : Code} (n : Nat) (hf : P.funcs[f]? = some fn) (hb : fn.body = some c) (hn : fn.ntmps = n) (hl : Nat.ble args.length n = true)
    (h : Sim ⟨P, W, none, n, []⟩ (oi ⟨P, W, none, n, []⟩ fn val fun r y => B r y ++ [F]) c (jO 0 args) (A ++ [F]) o) : Fn P W f args A F o val B := by
  intro r hr w hs
  refine (callsIn_wide (n := 0)).1 (callsIn_of_wp hf hb trivial ?_ rfl)
  have := h r hr _ w (jP args n (by simpa [Nat.ble_eq] using hl)) hs
  rw [hn]
  exact this

/-! ### Operations -/
section ops
variable (K : Cx) {R Y : Type}
def RQ (o : Oper) (E : Env) (H : List HA) (v : Value) : Prop :=
  ∀ a w, Has K.n K.ds E a → Sat K.W H w → ∀ next Q, (∀ w', Sat K.W H w' → next (a.put o.dst v) w') → o.wpIn (fen K.ro) 0 K.P a w next Q
def RE (o : Oper) (E : Env) (H : List HA) (v : Y → Value) (H' : Y → List HA) : Prop :=
  ∀ a w, Has K.n K.ds E a → Sat K.W H w → ∀ next Q, (∀ y w', Sat K.W (H' y) w' → next (a.put o.dst (v y)) w') → o.wpIn (fen K.ro) 0 K.P a w next Q
end ops
section
variable {K : Cx} {R S Y : Type} {Q : cT R} {E : Env} {H : List HA} {opt : Option R} {ops : Array Oper} {rest : List Oper} {o : Oper}
theorem RE.rq {v : Y → Value} {H' : Y → List HA} {u : Value} (h : RE K o E H v H') (hv : ∀ y, v y = u) (hH : ∀ y, Ent (H' y) H) : RQ K o E H u :=
  fun a w he hs next Q hn => h a w he hs next Q fun y w' s => by rw [hv]; exact hn w' (s.ent (hH y))
theorem RQ.sub {v : Value} {E' : Env} (s : Sub E' E) (h : RQ K o E' H v) : RQ K o E H v := fun a w he hs => h a w (he.sub s) hs
theorem ij {d : Nat} {v : Value} (hr : RQ K o E H v) (hg : o.guard = none) (hd : o.dst = some d) (hn : Nat.blt d K.n = true)
    (h : bP K Q ops rest ((d, v) :: E) H opt) : bP K Q ops (o :: rest) E H opt := by
  intro r hr' a w he hs
  refine wpListIn_plain hg fun K' hK' => hr a w he hs _ _ fun w' s => hK' _ _ ?_
  rw [hd]
  exact h r hr' _ w' (he.put v hn) s
theorem aU {v : Y → Value} {H' : Y → List HA} (hr : RE K o E H v H') (hg : o.guard = none) (hd : o.dst = none)
    (h : ∀ y, bP K Q ops rest E (H' y) opt) : bP K Q ops (o :: rest) E H opt := by
  intro r hr' a w he hs
  refine wpListIn_plain hg fun K' hK' => hr a w he hs _ _ fun y w' s => hK' _ _ ?_
  rw [hd]
  exact h y r hr' _ w' he s
theorem ah {d : Nat} {v : Y → Value} {H' : Y → List HA} (hr : RE K o E H v H') (hg : o.guard = none) (hd : o.dst = some d) (hn : Nat.blt d K.n = true)
    (h : ∀ y, bP K Q ops rest ((d, v y) :: E) (H' y) opt) : bP K Q ops (o :: rest) E H opt := by
  intro r hr' a w he hs
  refine wpListIn_plain hg fun K' hK' => hr a w he hs _ _ fun y w' s => hK' _ _ ?_
  rw [hd]
  exact h y r hr' _ w' (he.put _ hn) s
/-! A guard: the operation is carried out, or not. -/
theorem iD {E : Env} {n : Nat} {ds : List Deferred} {a : Act} (he : Has n ds E a) {j dj : Nat} {want b : Bool} (hg : o.guard = some (j, want)) (hj : ((ops[j]?).bind (·.dst)) = some dj) (hb : lk E dj = some (.bool b)) :
    Region.wanted o (yielded ops a.tmps) = (b == want) := by
  simp only [Region.wanted, hg, yielded, hj, Option.bind_some, he.get _ _ hb]
  cases b <;> cases want <;> rfl
theorem oF {j dj : Nat} {want b : Bool} (hg : o.guard = some (j, want)) (hj : ((ops[j]?).bind (·.dst)) = some dj) (hb : lk E dj = some (.bool b)) (hw : (b == want) = true)
    (h : ∀ r, opt = some r → ∀ a w, Has K.n K.ds E a → Sat K.W H w → ∀ next, (∀ a w, wpListIn (fen K.ro) 0 K.P ops (Q r) rest a w → next a w) → o.wpIn (fen K.ro) 0 K.P a w next (Q r)) : bP K Q ops (o :: rest) E H opt := by
  intro r hr' a w he hs
  refine wpListIn_step fun K' hK' => ?_
  rw [iD he hg hj hb, hw]
  simp only [if_true]
  exact h r hr' a w he hs K' hK'
theorem aZ {d j dj : Nat} {want b : Bool} {v : Value} (hr : RQ K o E H v) (hg : o.guard = some (j, want)) (hj : ((ops[j]?).bind (·.dst)) = some dj) (hb : lk E dj = some (.bool b)) (hw : (b == want) = true) (hd : o.dst = some d) (hn : Nat.blt d K.n = true)
    (h : bP K Q ops rest ((d, v) :: E) H opt) : bP K Q ops (o :: rest) E H opt :=
  oF hg hj hb hw fun r hr' a w he hs next hK' => hr a w he hs _ _ fun w' s => hK' _ _ (by rw [hd]; exact h r hr' _ w' (he.put v hn) s)
theorem fC {d j dj : Nat} {want b : Bool} {v : Y → Value} {H' : Y → List HA} (hr : RE K o E H v H') (hg : o.guard = some (j, want)) (hj : ((ops[j]?).bind (·.dst)) = some dj) (hb : lk E dj = some (.bool b)) (hw : (b == want) = true) (hd : o.dst = some d) (hn : Nat.blt d K.n = true)
    (h : ∀ y, bP K Q ops rest ((d, v y) :: E) (H' y) opt) : bP K Q ops (o :: rest) E H opt :=
  oF hg hj hb hw fun r hr' a w he hs next hK' => hr a w he hs _ _ fun y w' s => hK' _ _ (by rw [hd]; exact h y r hr' _ w' (he.put _ hn) s)
def cv (g : Bool) (v : Value) : Value := bif g then v else undef
theorem au {d j dj : Nat} {want b : Bool} {v : Value} (hr : (b == want) = true → RQ K o E H v) (hg : o.guard = some (j, want)) (hj : ((ops[j]?).bind (·.dst)) = some dj) (hb : lk E dj = some (.bool b)) (hd : o.dst = some d) (hn : Nat.blt d K.n = true)
    (h : bP K Q ops rest ((d, cv (b == want) v) :: E) H opt) : bP K Q ops (o :: rest) E H opt := by
  cases hw : (b == want) with
  | true =>
    rw [hw] at h
    exact aZ (hr hw) hg hj hb hw hd hn h
  | false =>
    rw [hw] at h
    intro r hr' a w he hs
    refine wpListIn_step fun K' hK' => ?_
    rw [iD he hg hj hb, hw]
    simp only [Bool.false_eq_true, if_false]
    refine ⟨fun f _ => fv _ _, hK' _ _ ?_⟩
    rw [hd]
    exact h r hr' _ w (he.put undef hn) hs
end

end Go.Proofs.YtndjkejhacfpdaaGreatDoor

namespace Go.Proofs.YtndjkejhacfpdaaGreatDoor
set_option linter.unusedVariables false
set_option linter.unusedSimpArgs false
open Go.RowKit

section
variable {K : Cx} {R S Y : Type} {Q : cT R} {E : Env} {H : List HA} {opt : Option R} {ops : Array Oper} {rest : List Oper} {o : Oper}

theorem fu {v : Y → Value} {H' : Y → List HA} (hn : ∀ c, o.op ≠ .defer c)
    (h : ∀ a w, Has K.n K.ds E a → Sat K.W H w → ∃ y w', (execOp a.eval o).run K.P w = .ok (.value (v y)) w' ∧ Sat K.W (H' y) w') : RE K o E H v H' := by
  intro a w he hs next Q hnx
  obtain ⟨y, w', hr, s⟩ := h a w he hs
  refine ⟨fun f _ => fv _ _, ?_⟩
  rw [Oper.semAt_eq _ _ _ hn, hr]
  exact hnx y w' s
theorem mn {H' : Y → List HA} (hn : ∀ c, o.op ≠ .defer c)
    (h : ∀ a w, Has K.n K.ds E a → Sat K.W H w → ∃ y w', (execOp a.eval o).run K.P w = .ok .skip w' ∧ Sat K.W (H' y) w') : RE K o E H (fun _ => undef) H' := by
  intro a w he hs next Q hnx
  obtain ⟨y, w', hr, s⟩ := h a w he hs
  refine ⟨fun f _ => fv _ _, ?_⟩
  rw [Oper.semAt_eq _ _ _ hn, hr]
  exact hnx y w' s
theorem tu {v : Value} (hn : ∀ c, o.op ≠ .defer c)
    (h : ∀ a w, Has K.n K.ds E a → Sat K.W H w → ∃ w', (execOp a.eval o).run K.P w = .ok (.value v) w' ∧ Sat K.W H w') : RQ K o E H v := by
  intro a w he hs next Q hnx
  obtain ⟨w', hr, s⟩ := h a w he hs
  refine ⟨fun f _ => fv _ _, ?_⟩
  rw [Oper.semAt_eq _ _ _ hn, hr]
  exact hnx w' s
theorem ck {v : Value} (hn : ∀ c, o.op ≠ .defer c) (h : ∀ a w, Has K.n K.ds E a → Sat K.W H w → (execOp a.eval o).run K.P w = .ok (.value v) w) : RQ K o E H v :=
  tu hn fun a w he hs => ⟨w, h a w he hs, hs⟩

/-! ### 1. Moves -/
theorem ba {x : Operand} {v : Value} (ho : o.op = .move x) (hx : ev E x = some v) : RQ K o E H v :=
  ck (by rw [ho]; intro c h; cases h) fun a w he _ => by unfold execOp; simp only [ho]; rw [he.ev hx]; rfl
theorem ci {x : Operand} {v : Value} (ho : o.op = .assign x) (hx : ev E x = some v) : RQ K o E H v :=
  ck (by rw [ho]; intro c h; cases h) fun a w he _ => by unfold execOp; simp only [ho]; rw [he.ev hx]; rfl
theorem bW {x y z : Operand} {b : Bool} {u v t : Value} (ho : o.op = .pick x y z) (hx : ev E x = some (.bool b)) (hy : ev E y = some u) (hz : ev E z = some v) (ht : (bif b then u else v) = t) : RQ K o E H t :=
  ck (by rw [ho]; intro c h; cases h) fun a w he _ => by
    unfold execOp; simp only [ho]; rw [he.ev hx, he.ev hy, he.ev hz, ← ht]; cases b <;> rfl
theorem db {x y : Operand} {b c : Bool} (ho : o.op = .pick x y (.const (.bool false))) (hx : ev E x = some (.bool b)) (hy : ev E y = some (cv (b == true) (.bool c))) : RQ K o E H (.bool (b && c)) :=
  bW ho hx hy rfl (by cases b <;> rfl)
theorem ex {x y : Operand} {b c : Bool} (ho : o.op = .pick x (.const (.bool true)) y) (hx : ev E x = some (.bool b)) (hy : ev E y = some (cv (b == false) (.bool c))) : RQ K o E H (.bool (b || c)) :=
  bW ho hx rfl hy (by cases b <;> rfl)
theorem bu {x : Operand} {i : Nat} {vs : Array Value} {v : Value} (ho : o.op = .extract x i) (hx : ev E x = some (.tuple vs)) (hv : vs[i]? = some v) : RQ K o E H v :=
  ck (by rw [ho]; intro c h; cases h) fun a w he _ => by
    unfold execOp; simp only [ho]; rw [he.ev hx]
    simp [Instr.extract, hv]

/-! ### 2. Numbers -/
theorem fj {b : BinOp} {xt yt : TypeId} {x y : Operand} {u v t : Value} (ho : o.op = .binOp b xt x y yt) (hx : ev E x = some u) (hy : ev E y = some v)
    (hg : ∀ P w, (eqGuard b xt x y u v).run P w = .ok () w) (hr : ∀ P w, (binOp b xt u v).run P w = .ok t w) : RQ K o E H t :=
  ck (by rw [ho]; intro c h; cases h) fun a w he _ => by
    unfold execOp; simp only [ho]; rw [he.ev hx, he.ev hy]
    simp [hg, hr]
theorem dm {b : BinOp} {xt : TypeId} {x y : Operand} {k k' : IntKind} {m n : Int} (P : Program) (w : World) : (eqGuard b xt x y (.int k m) (.int k' n)).run P w = .ok () w := by
  unfold eqGuard; cases b <;> rfl
theorem nK {b : BinOp} {xt : TypeId} {x y : Operand} {m n : Bool} (P : Program) (w : World) : (eqGuard b xt x y (.bool m) (.bool n)).run P w = .ok () w := by
  unfold eqGuard; cases b <;> rfl
theorem jx {b : BinOp} {xt : TypeId} {x y : Operand} {m n : ByteArray} (P : Program) (w : World) : (eqGuard b xt x y (.string m) (.string n)).run P w = .ok () w := by
  unfold eqGuard; cases b <;> rfl
section ints
variable {xt yt : TypeId} {x y : Operand} {k : IntKind} {m n : Int}
theorem cb (ho : o.op = .binOp .add xt x y yt) (hx : ev E x = some (.int k m)) (hy : ev E y = some (.int k n)) : RQ K o E H (.int k (k.wrap (m + n))) :=
  fj ho hx hy dm fun P w => by simp [binOp, Op.intArith]
theorem dc (ho : o.op = .binOp .sub xt x y yt) (hx : ev E x = some (.int k m)) (hy : ev E y = some (.int k n)) : RQ K o E H (.int k (k.wrap (m - n))) :=
  fj ho hx hy dm fun P w => by simp [binOp, Op.intArith]
theorem su (ho : o.op = .binOp .mul xt x y yt) (hx : ev E x = some (.int k m)) (hy : ev E y = some (.int k n)) : RQ K o E H (.int k (k.wrap (m * n))) :=
  fj ho hx hy dm fun P w => by simp [binOp, Op.intArith]
theorem ud (ho : o.op = .binOp .quo xt x y yt) (hx : ev E x = some (.int k m)) (hy : ev E y = some (.int k n)) (h0 : n ≠ 0) : RQ K o E H (.int k (k.wrap (m.tdiv n))) :=
  fj ho hx hy dm fun P w => by simp [binOp, Op.intDiv, h0]
theorem cH (ho : o.op = .binOp .lss xt x y yt) (hx : ev E x = some (.int k m)) (hy : ev E y = some (.int k n)) : RQ K o E H (.bool (decide (m < n))) :=
  fj ho hx hy dm fun P w => by simp [binOp, Op.intCmp]
theorem iQ (ho : o.op = .binOp .leq xt x y yt) (hx : ev E x = some (.int k m)) (hy : ev E y = some (.int k n)) : RQ K o E H (.bool (decide (m ≤ n))) :=
  fj ho hx hy dm fun P w => by simp [binOp, Op.intCmp]
theorem cI (ho : o.op = .binOp .gtr xt x y yt) (hx : ev E x = some (.int k m)) (hy : ev E y = some (.int k n)) : RQ K o E H (.bool (decide (n < m))) :=
  fj ho hx hy dm fun P w => by simp [binOp, Op.intCmp]
theorem jo (ho : o.op = .binOp .geq xt x y yt) (hx : ev E x = some (.int k m)) (hy : ev E y = some (.int k n)) : RQ K o E H (.bool (decide (n ≤ m))) :=
  fj ho hx hy dm fun P w => by simp [binOp, Op.intCmp]
theorem bI (ho : o.op = .binOp .eql xt x y yt) (hx : ev E x = some (.int k m)) (hy : ev E y = some (.int k n)) : RQ K o E H (.bool (decide (m = n))) :=
  fj ho hx hy dm fun P w => by simp [binOp, Op.intCmp]; rfl
theorem cZ (ho : o.op = .binOp .neq xt x y yt) (hx : ev E x = some (.int k m)) (hy : ev E y = some (.int k n)) : RQ K o E H (.bool (!decide (m = n))) :=
  fj ho hx hy dm fun P w => by simp [binOp, Op.intCmp]; rfl
def bS (b : BinOp) (k : IntKind) (m n : Int) : Int :=
  k.wrap (match b with
    | .and => (BitVec.ofInt k.bits m &&& BitVec.ofInt k.bits n).toNat
    | .or => (BitVec.ofInt k.bits m ||| BitVec.ofInt k.bits n).toNat
    | .xor => (BitVec.ofInt k.bits m ^^^ BitVec.ofInt k.bits n).toNat
    | _ => (BitVec.ofInt k.bits m &&& ~~~(BitVec.ofInt k.bits n)).toNat)
theorem nL (ho : o.op = .binOp .and xt x y yt) (hx : ev E x = some (.int k m)) (hy : ev E y = some (.int k n)) : RQ K o E H (.int k (bS .and k m n)) :=
  fj ho hx hy dm fun P w => by simp [binOp, Op.intBits, bS]
theorem lF (ho : o.op = .binOp .or xt x y yt) (hx : ev E x = some (.int k m)) (hy : ev E y = some (.int k n)) : RQ K o E H (.int k (bS .or k m n)) :=
  fj ho hx hy dm fun P w => by simp [binOp, Op.intBits, bS]
theorem qG (ho : o.op = .binOp .xor xt x y yt) (hx : ev E x = some (.int k m)) (hy : ev E y = some (.int k n)) : RQ K o E H (.int k (bS .xor k m n)) :=
  fj ho hx hy dm fun P w => by simp [binOp, Op.intBits, bS]
theorem nA {k' : IntKind} (ho : o.op = .binOp .shl xt x y yt) (hx : ev E x = some (.int k m)) (hy : ev E y = some (.int k' n)) (h0 : 0 ≤ n) : RQ K o E H (.int k (k.wrap (m * 2 ^ (min n.toNat k.bits)))) :=
  fj ho hx hy dm fun P w => by simp [binOp, Op.shift, Int.not_lt.2 h0]
theorem kJ {k' : IntKind} (ho : o.op = .binOp .shr xt x y yt) (hx : ev E x = some (.int k m)) (hy : ev E y = some (.int k' n)) (h0 : 0 ≤ n) : RQ K o E H (.int k (m.fdiv (2 ^ (min n.toNat k.bits)))) :=
  fj ho hx hy dm fun P w => by simp [binOp, Op.shift, Int.not_lt.2 h0]
theorem pW {xt : TypeId} (ho : o.op = .unOp .xor xt x) (hx : ev E x = some (.int k m)) : RQ K o E H (.int k (bS .xor k (if k.signed then -1 else k.max) m)) :=
  ck (by rw [ho]; intro c h; cases h) fun a w he _ => by
    unfold execOp; simp only [ho]; rw [he.ev hx]
    simp [Op.unary, Op.intBits, bS]
theorem eP {xt : TypeId} {b : Bool} (ho : o.op = .unOp .not xt x) (hx : ev E x = some (.bool b)) : RQ K o E H (.bool (!b)) :=
  ck (by rw [ho]; intro c h; cases h) fun a w he _ => by
    unfold execOp; simp only [ho]; rw [he.ev hx]
    simp [Op.unary]
theorem eX {s d : TypeId} {k' : IntKind} {u : TypeDesc} (ho : o.op = .convert s d x) (hx : ev E x = some (.int k m)) (hu : K.P.underlying s = some u) (hd : K.P.underlying d = some (.int k')) : RQ K o E H (.int k' (k'.wrap m)) :=
  ck (by rw [ho]; intro c h; cases h) fun a w he _ => by
    unfold execOp; simp only [ho]; rw [he.ev hx]
    simp [convert, underlying, program, Sem.run, hu, hd, Conv.intToInt]
theorem nM {t : TypeId} {b c : Bool} (P : Program) (hu : P.underlying t = some .bool) (w : World) : (Op.equal t (.bool b) (.bool c)).run P w = .ok (b == c) w := by
  rw [show Op.equal t (.bool b) (.bool c) = Op.equalIn (9999 + 1) t (.bool b) (.bool c) from rfl, Op.equalIn]
  simp [underlying, program, Sem.run, hu]
theorem sw {b c : Bool} (ho : o.op = .binOp .neq xt x y yt) (hx : ev E x = some (.bool b)) (hy : ev E y = some (.bool c)) (hu : K.P.underlying xt = some .bool) : RQ K o E H (.bool (!(b == c))) :=
  ck (by rw [ho]; intro c h; cases h) fun a w he _ => by
    unfold execOp; simp only [ho]; rw [he.ev hx, he.ev hy]
    simp [nK, binOp, nM K.P hu]
end ints
/-! ### 3. Strings: as lists of bytes -/
def str (l : List UInt8) : Value := .string ⟨l.toArray⟩
section strs
variable {xt yt : TypeId} {x y : Operand} {l m : List UInt8}
theorem sx (ho : o.op = .binOp .eql xt x y yt) (hx : ev E x = some (str l)) (hy : ev E y = some (str m)) : RQ K o E H (.bool (decide (l = m))) :=
  fj ho hx hy jx fun P w => by simp [binOp, Op.stringOp, str]; rw [Bool.eq_iff_iff]; simp
theorem ue (ho : o.op = .binOp .neq xt x y yt) (hx : ev E x = some (str l)) (hy : ev E y = some (str m)) : RQ K o E H (.bool (!decide (l = m))) :=
  fj ho hx hy jx fun P w => by simp [binOp, Op.stringOp, str]; rw [Bool.eq_iff_iff]; simp
end strs
end
end Go.Proofs.YtndjkejhacfpdaaGreatDoor

namespace Go.Proofs.YtndjkejhacfpdaaGreatDoor
set_option linter.unusedVariables false
set_option linter.unusedSimpArgs false
open Go.RowKit

/-! ### 1. Cells -/
def eO : List Value → Nat → List Value → List Value
  | l, _, [] => l
  | l, k, v :: vs => eO (l.set k v) (k + 1) vs
theorem iq (vs : List Value) : ∀ (l : List Value) (k : Nat), (eO l k vs).length = l.length := by
  induction vs with
  | nil => intro l k; rfl
  | cons v vs ih => intro l k; simp only [eO]; rw [ih]; simp
theorem gC (vs : List Value) : ∀ (l : List Value) (k : Nat), k + vs.length ≤ l.length → eO l k vs = l.take k ++ vs ++ l.drop (k + vs.length) := by
  induction vs with
  | nil => intro l k h; simp [eO]
  | cons v vs ih =>
    intro l k h
    simp only [List.length_cons] at h
    simp only [eO]
    rw [ih _ _ (by simp; omega)]
    have e1 : (l.set k v).take (k + 1) = l.take k ++ [v] := by
      rw [List.take_succ_eq_append_getElem (by simp; omega), List.take_set_of_le (Nat.le_refl k)]
      simp
    have e2 : (l.set k v).drop (k + 1 + vs.length) = l.drop (k + (v :: vs).length) := by
      rw [List.drop_set_of_lt (by omega)]
      simp [Nat.add_comm, Nat.add_left_comm]
    rw [e1, e2]
    simp
def obj (b : Nat) (T : TypeId) (l : List Value) : HA := pts b (.cells l.toArray T (0, 0))
def one (vs : List Value) : Prop := ∀ v ∈ vs, v.oneCell' = true
theorem td {w : World} {b : Nat} {l : List Value} {T : TypeId} {fz : Nat × Nat} (h : w.heap[b]? = some (.cells l.toArray T fz)) (off : Nat) : w.cell? ⟨b, off, none⟩ = l[off]? := by
  simp [World.cell?, h]
theorem qu {w : World} {b : Nat} {l : List Value} {T : TypeId} {fz : Nat × Nat} (h : w.heap[b]? = some (.cells l.toArray T fz)) (off : Nat) (v : Value) :
    w.setCell ⟨b, off, none⟩ v = { w with heap := w.heap.setIfInBounds b (.cells (l.set off v).toArray T fz) } := by
  unfold World.setCell
  rw [ie _ _ _ _ h]
  simp
theorem jn {P : Program} {b : Nat} {T : TypeId} {fz : Nat × Nat} (off : Nat) : ∀ (vs : List Value) (i : Nat) (l : List Value) (w : World), w.heap[b]? = some (.cells l.toArray T fz) →
    off + i + vs.length ≤ l.length → (∀ j, off ≤ j → j < l.length → j < off + i + vs.length → ¬ (fz.1 ≤ j ∧ j < fz.2)) → one vs →
    (storeCells ⟨b, off, none⟩ vs i).run P w = .ok () { w with heap := w.heap.setIfInBounds b (.cells (eO l (off + i) vs).toArray T fz) }
  | [], i, l, w, h, _, _, _ => by
    have : w.heap.setIfInBounds b (.cells l.toArray T fz) = w.heap := by
      apply Array.ext_getElem?
      intro j
      rw [Array.getElem?_setIfInBounds]
      by_cases e : b = j
      · subst e; rw [if_pos rfl, h]; have := (Array.getElem?_eq_some_iff.1 h).1; simp [this]
      · rw [if_neg e]
    simp [storeCells, eO, this]
  | v :: vs, i, l, w, h, hl, hf, h1 => by
    simp only [List.length_cons] at hl hf
    have hc : w.cell? ⟨b, off + i, none⟩ = some (l[off + i]'(by omega)) := by rw [td h]; simp
    have hfr : w.frozen? ⟨b, off + i, none⟩ = false := by
      have := hf (off + i) (by omega) (by omega) (by omega)
      simp only [World.frozen?, h]
      rw [Bool.eq_false_iff]
      intro x
      simp at x
      omega
    have hv : v.oneCell' = true := h1 v (by simp)
    have hadd : (⟨b, off, none⟩ : Addr).add i = ⟨b, off + i, none⟩ := by unfold Addr.add; split <;> simp_all
    have hs : (store ((⟨b, off, none⟩ : Addr).add i) v).run P w = .ok () { w with heap := w.heap.setIfInBounds b (.cells (l.set (off + i) v).toArray T fz) } := by
      rw [hadd, ← qu h]
      unfold store
      cases v <;> first | (simp only [Sem.run, hc, hfr]; rfl) | (simp [Value.oneCell'] at hv)
    simp only [storeCells, Sem.run_bind, hs, Result.andThen_ok]
    have hb : b < w.heap.size := (Array.getElem?_eq_some_iff.1 h).1
    have ih := jn (P := P) (T := T) (fz := fz) (b := b) off vs (i + 1) (l.set (off + i) v) { w with heap := w.heap.setIfInBounds b (.cells (l.set (off + i) v).toArray T fz) }
      (by rw [Array.getElem?_setIfInBounds]; simp [hb]) (by simp; omega) (fun j a b c => hf j a (by simpa using b) (by omega)) (fun u hu => h1 u (by simp [hu]))
    rw [ih]
    simp [eO, Nat.add_assoc]
theorem ix {P : Program} {w : World} {b off : Nat} {vs : List Value} (h : ∀ j v, vs[j]? = some v → w.cell? ⟨b, off + j, none⟩ = some v) : (loadCells ⟨b, off, none⟩ vs.length).run P w = .ok vs.toArray w := by
  refine run_loadCells_list (P := P) w _ vs fun j v hj => ?_
  have hadd : (⟨b, off, none⟩ : Addr).add j = ⟨b, off + j, none⟩ := by unfold Addr.add; split <;> simp_all
  rw [hadd]; exact h j v hj

def dH (H : List HA) (b off : Nat) (v : Value) : Prop := ∀ h, aP H h → ∃ l T fz, h b = some (.cells l T fz) ∧ l[off]? = some v
theorem dH.sat {H : List HA} {b off : Nat} {v : Value} (c : dH H b off v) {W w : World} (s : Sat W H w) : w.cell? ⟨b, off, none⟩ = some v := by
  obtain ⟨l, T, fz, h1, h2⟩ := c _ s.hp
  simp only [hpw] at h1
  simp [World.cell?, h1, h2]
theorem dH.of {H : List HA} {A : HA} {b off : Nat} {v : Value} (k : Nat) (hk : H[k]? = some A) (hA : ∀ a, A a → ∃ l T fz, a b = some (.cells l T fz) ∧ l[off]? = some v) : dH H b off v := by
  intro h s
  obtain ⟨a, ha, x⟩ := ik H k A hk h s
  obtain ⟨l, T, fz, h1, h2⟩ := hA a ha
  exact ⟨l, T, fz, x _ _ h1, h2⟩
theorem dH.obj {H : List HA} {b off : Nat} {v : Value} {T : TypeId} {l : List Value} (k : Nat) (hk : H[k]? = some (obj b T l)) (hv : l[off]? = some v) : dH H b off v :=
  .of k hk fun a ha => ⟨l.toArray, T, (0, 0), ha, by simpa using hv⟩

section
variable {K : Cx} {R S Y : Type} {Q : cT R} {E : Env} {H : List HA} {opt : Option R} {ops : Array Oper} {rest : List Oper} {o : Oper}
/-! ### 2. Variables -/
theorem cy {x : Operand} {v : Value} {t : TypeId} {cs : List Value} (ho : o.op = .box t x) (hx : ev E x = some v) (hc : v.cells = cs.toArray) :
    RE K (Y := Nat) o E H (fun b => .pointer (some ⟨b, 0, none⟩)) (fun b => obj b t cs :: H) :=
  fu (by rw [ho]; intro c h; cases h) fun a w he hs => by
    refine ⟨w.heap.size, { w with heap := w.heap.push (.cells cs.toArray t (0, 0)) }, ?_, hs.new _⟩
    unfold execOp; simp only [ho]; rw [he.ev hx]
    simp [Instr.box, newVar, newRow, newObj, Sem.run, hc]
theorem bL {t : TypeId} {z : Value} {cs : List Value} (ho : o.op = .alloc t) (hz : ∀ w, (zeroValue t).run K.P w = .ok z w) (hc : z.cells = cs.toArray) :
    RE K (Y := Nat) o E H (fun b => .pointer (some ⟨b, 0, none⟩)) (fun b => obj b t cs :: H) :=
  fu (by rw [ho]; intro c h; cases h) fun a w he hs => by
    refine ⟨w.heap.size, { w with heap := w.heap.push (.cells cs.toArray t (0, 0)) }, ?_, hs.new _⟩
    unfold execOp; simp only [ho]
    simp [Instr.alloc, hz, newVar, newRow, newObj, Sem.run, hc]
theorem ag {x : Operand} {t : TypeId} {b off : Nat} {v : Value} (ho : o.op = .load t x) (hx : ev E x = some (.pointer (some ⟨b, off, none⟩))) (ha : ∀ w, (isAgg t).run K.P w = .ok false w)
    (hc : dH H b off v) : RQ K o E H v :=
  ck (by rw [ho]; intro c h; cases h) fun a w he hs => by
    unfold execOp; simp only [ho]; rw [he.ev hx]
    simp [Instr.loadAt, Instr.sureAddr, loadVar, ha, hc.sat hs]
theorem cf {x : Operand} {t : TypeId} {b off n : Nat} {vs : List Value} (ho : o.op = .load t x) (hx : ev E x = some (.pointer (some ⟨b, off, none⟩))) (ha : ∀ w, (isAgg t).run K.P w = .ok true w)
    (hs : ∀ w, (sizeOf t).run K.P w = .ok n w) (hn : vs.length = n) (hc : ∀ j v, vs[j]? = some v → dH H b (off + j) v) : RQ K o E H (.agg vs.toArray) :=
  ck (by rw [ho]; intro c h; cases h) fun a w he s => by
    unfold execOp; simp only [ho]; rw [he.ev hx]
    simp [Instr.loadAt, Instr.sureAddr, loadVar, ha, hs, ← hn, ix (P := K.P) fun j v hj => (hc j v hj).sat s]
theorem cM {b off : Nat} {T : TypeId} {l vs : List Value} (k : Nat) (hk : H[k]? = some (obj b T l)) (hv : ∀ j v, vs[j]? = some v → l[off + j]? = some v) : ∀ j v, vs[j]? = some v → dH H b (off + j) v :=
  fun j v h => .obj k hk (hv j v h)
theorem bU {x : Operand} {t T : TypeId} {b n : Nat} {vs : List Value} (k : Nat) (ho : o.op = .load t x) (hx : ev E x = some (.pointer (some ⟨b, 0, none⟩))) (ha : ∀ w, (isAgg t).run K.P w = .ok true w)
    (hs : ∀ w, (sizeOf t).run K.P w = .ok n w) (hk : H[k]? = some (obj b T vs)) (hn : vs.length = n) : RQ K o E H (.agg vs.toArray) :=
  cf ho hx ha hs hn (by intro j v h; rw [Nat.zero_add]; exact .obj k hk h)
theorem aH {x y : Operand} {t T : TypeId} {b off n : Nat} {v : Value} {vs l : List Value} (k : Nat) (ho : o.op = .store t x y) (hx : ev E x = some (.pointer (some ⟨b, off, none⟩))) (hy : ev E y = some v)
    (hs : ∀ w, (sizeOf t).run K.P w = .ok n w) (hv : v.cells = vs.toArray) (hn : vs.length = n) (h1 : one vs) (hk : H[k]? = some (obj b T l)) (hin : Nat.ble (off + n) l.length = true) :
    RE K (Y := Unit) o E H (fun _ => undef) (fun _ => H.set k (obj b T (eO l off vs))) :=
  mn (by rw [ho]; intro c h; cases h) fun a w he s => by
    have hin : off + n ≤ l.length := by simpa [Nat.ble_eq] using hin
    have hkl : k < H.length := (List.getElem?_eq_some_iff.1 hk).1
    have s2 : Sat K.W (obj b T l :: H.eraseIdx k) w := s.ent (fun h x => by rw [eu H k _ hk] at x; exact x)
    have hb : w.heap[b]? = some (.cells l.toArray T (0, 0)) := s2.pts_at (i := 0) rfl
    refine ⟨(), _, ?_, (s2.upd (o' := .cells (eO l off vs).toArray T (0, 0))).ent (fun h x => by rw [← fD H k _ hkl]; exact x)⟩
    unfold execOp; simp only [ho]; rw [he.ev hx, he.ev hy]
    have := jn (P := K.P) off vs 0 l w hb (by omega) (fun j _ _ _ x => absurd x.2 (Nat.not_lt_zero _)) h1
    simp [Instr.storeAt, Instr.sureAddr, storeVar, hs, hv, hn, this]
theorem aX {x : Operand} {ad : Addr} (ho : o.op = .nilCheck x) (hx : ev E x = some (.pointer (some ad))) : RQ K o E H (.pointer (some ad)) :=
  ck (by rw [ho]; intro c h; cases h) fun a w he hs => by
    unfold execOp; simp only [ho]; rw [he.ev hx]; rfl
theorem ar {x : Operand} {t : TypeId} {i b off d : Nat} {fs : Array Field} {f : Field} {n : Nat} (ho : o.op = .fieldAddr t x i) (hx : ev E x = some (.pointer (some ⟨b, off, none⟩))) (hu : K.P.underlying t = some (.struct fs)) (hf : fs[i]? = some f) (hd : f.offset = d)
    (hs : ∀ w, (sizeOf f.type).run K.P w = .ok n w) (hn : (n == 0) = false) : RQ K o E H (.pointer (some ⟨b, off + d, none⟩)) :=
  ck (by rw [ho]; intro c h; cases h) fun a w he _ => by
    unfold execOp; simp only [ho]; rw [he.ev hx]
    have hn' : n ≠ 0 := by simpa using hn
    have hadd : (⟨b, off, none⟩ : Addr).add d = ⟨b, off + d, none⟩ := by unfold Addr.add; split <;> simp_all
    simp [Instr.fieldAt, underlying, program, Sem.run, hu, hf, Instr.sureAddr, fieldPlace, hs, hn', hd, hadd]
def evP : List (Nat × Operand) → Env → Option (List (Nat × Value))
  | [], _ => some []
  | (i, x) :: l, E => match ev E x, evP l E with
    | some v, some vs => some ((i, v) :: vs)
    | _, _ => none
theorem mm {n : Nat} {ds : List Deferred} {a : Act} (he : Has n ds E a) : ∀ (l : List (Nat × Operand)) (vs : List (Nat × Value)), evP l E = some vs → l.map (fun p => (p.1, a.eval p.2)) = vs
  | [], vs, h => by simp [evP] at h; subst h; rfl
  | (i, x) :: l, vs, h => by
    simp only [evP] at h
    split at h
    · rename_i v vs' h1 h2
      cases h
      simp [mm he l vs' h2, he.ev h1]
    · cases h
theorem cx {t : TypeId} {l : List (Nat × Operand)} {vs : List (Nat × Value)} {v : Value} (ho : o.op = .build t l.toArray) (hx : evP l E = some vs) (hr : ∀ w, (Instr.build t vs.toArray).run K.P w = .ok v w) : RQ K o E H v :=
  ck (by rw [ho]; intro c h; cases h) fun a w he _ => by
    unfold execOp; simp only [ho]
    have : (l.toArray.map fun (i, x) => (i, a.eval x)) = vs.toArray := by
      rw [← mm he l vs hx]; simp
    rw [this]
    simp [hr]

/-! ### 3. Calls -/
def evs : List Operand → Env → Option (List Value)
  | [], _ => some []
  | x :: l, E => match ev E x, evs l E with
    | some v, some vs => some (v :: vs)
    | _, _ => none
theorem gR {n : Nat} {ds : List Deferred} {a : Act} (he : Has n ds E a) : ∀ (l : List Operand) (vs : List Value), evs l E = some vs → l.map a.eval = vs
  | [], vs, h => by simp [evs] at h; subst h; rfl
  | x :: l, vs, h => by
    simp only [evs] at h
    split at h
    · rename_i v vs' h1 h2
      cases h
      simp [gR he l vs' h2, he.ev h1]
    · cases h
theorem av {c : Call} {x : Operand} {xs : List Operand} {vs ws cap : List Value} {f : FuncId} {A : List HA} {rst : List HA} {S Y : Type} {o1 : Option S} {val : S → Y → Value} {B : S → Y → List HA} {s : S}
    (ho : o.op = .call c) (hcal : c.callee = .value x) (hca : c.args = xs.toArray) (hx : ev E x = some (.func (.func f) #[] cap.toArray)) (hxs : evs xs E = some vs) (hws : vs ++ cap = ws)
    (hf : ∀ args w, (callFunc f args).run K.P w = .ok (.enter f args) w) (hH : Ent H (A ++ rst))
    (h : Fn K.P K.W f ws A (aP rst) o1 val B) (hs : o1 = some s) : RE K o E H (val s) (fun y => B s y ++ rst) := by
  intro a w he hsat next Q hnx
  refine ⟨fun f _ => fv _ _, ?_⟩
  rw [Oper.semAt_eq _ _ _ (by rw [ho]; intro c h; cases h)]
  have hr : (execOp a.eval o).run K.P w = .ok (.enter f ws.toArray) w := by
    unfold execOp; simp only [ho]
    have : c.args.map a.eval = vs.toArray := by rw [hca, ← gR he xs vs hxs]; simp
    simp [resolve, hcal, this, he.ev hx, Deferred.ofValue, invoke, hf, ← hws]
  rw [hr]
  refine ⟨jp _, ?_⟩
  have := h s hs w (hsat.ent (hH.trans (Ent.fold A rst)))
  have hw : CallsIn (fen K.ro) (0 - 1) K.P f ws.toArray w (fun e w' => ∃ y, e = Ending.returned (val s y) ∧ Sat K.W (B s y ++ [aP rst]) w') := by
    cases hro : K.ro with
    | none => exact callsIn_wide.2 this
    | some l => exact CallsIn.inRound l (callsIn_wide.2 this)
  refine hw.mono ?_
  rintro e w' ⟨y, rfl, s2⟩
  exact hnx y w' (s2.ent (Ent.unfold _ _))
end
end Go.Proofs.YtndjkejhacfpdaaGreatDoor

namespace Go.Proofs.YtndjkejhacfpdaaGreatDoor
set_option linter.unusedVariables false
set_option linter.unusedSimpArgs false
open Go.RowKit

/-! ### 1. Rows -/
structure lU (sz off n c : Nat) (pre cs junk : List Value) (fz : Nat × Nat) : Prop where
  offs : pre.length = off
  le : n ≤ c
  cap : c ≤ maxLen
  room : c * sz ≤ cs.length + junk.length
  len : n * sz ≤ cs.length
  top : cs.length ≤ c * sz
  fzok : fz.1 = fz.2 ∨ off + c * sz ≤ fz.1
theorem lU.free {sz off n c : Nat} {pre cs junk : List Value} {fz : Nat × Nat} (ok : lU sz off n c pre cs junk fz) : ∀ j, off ≤ j → j < off + c * sz → ¬ (fz.1 ≤ j ∧ j < fz.2) := fun j _ h x => by
  rcases ok.fzok with h' | h' <;> omega
def Row (T : TypeId) (sz : Nat) (a : Option Addr) (n c : Nat) (cs : List Value) : HA := fun h =>
  (a = none ∧ n = 0 ∧ c = 0 ∧ cs = []) ∨
  ∃ b off pre junk fz, a = some ⟨b, off, none⟩ ∧ lU sz off n c pre cs junk fz ∧ h b = some (.cells (pre ++ cs ++ junk).toArray T fz)
theorem Sat.row_cases {W w : World} {l : List HA} {T : TypeId} {sz n c : Nat} {a : Option Addr} {cs : List Value} (s : Sat W (Row T sz a n c cs :: l) w) :
    (a = none ∧ n = 0 ∧ c = 0 ∧ cs = []) ∨ ∃ b off pre junk fz, a = some ⟨b, off, none⟩ ∧ lU sz off n c pre cs junk fz ∧ Sat W (pts b (.cells (pre ++ cs ++ junk).toArray T fz) :: l) w := by
  obtain ⟨x, y, d, e, h, r⟩ := s.hp
  rcases h with h | ⟨b, off, pre, junk, fz, ha, ok, hb⟩
  · exact .inl h
  · exact .inr ⟨b, off, pre, junk, fz, ha, ok, s.os, s.tape, s.output, s.size, x, y, d, e, hb, r⟩
theorem Row.mk {T : TypeId} {sz n c b off : Nat} {pre cs junk : List Value} {fz : Nat × Nat} (ok : lU sz off n c pre cs junk fz) : ∀ h, pts b (.cells (pre ++ cs ++ junk).toArray T fz) h → Row T sz (some ⟨b, off, none⟩) n c cs h :=
  fun _ x => .inr ⟨b, off, pre, junk, fz, rfl, ok, x⟩
theorem Row.nil (T : TypeId) (sz : Nat) (h : Hp) : Row T sz none 0 0 [] h := .inl ⟨rfl, rfl, rfl, rfl⟩
theorem Ent.row_nil {l m : List HA} {T : TypeId} {sz : Nat} (r : Ent l m) : Ent l (Row T sz none 0 0 [] :: m) := fun h s =>
  ⟨fun _ => none, h, fun _ => .inl rfl, (by funext i; simp [un]), Row.nil T sz _, r h s⟩
theorem Sat.focus {W w : World} {H : List HA} {A : HA} {k : Nat} (hk : H[k]? = some A) (s : Sat W H w) : Sat W (A :: H.eraseIdx k) w := s.ent fun h x => by rw [eu H k _ hk] at x; exact x
theorem Sat.unfocus {W w : World} {H : List HA} {A B : HA} {k : Nat} (hk : H[k]? = some A) (s : Sat W (B :: H.eraseIdx k) w) : Sat W (H.set k B) w :=
  s.ent fun h x => by rw [← fD H k _ (List.getElem?_eq_some_iff.1 hk).1]; exact x
theorem hQ {pre cs junk : List Value} {j : Nat} {v : Value} (h : cs[j]? = some v) : (pre ++ cs ++ junk)[pre.length + j]? = some v := by
  have hj : j < cs.length := (List.getElem?_eq_some_iff.1 h).1
  rw [List.append_assoc, List.getElem?_append_right (by omega), List.getElem?_append_left (by omega)]
  simpa using h
theorem dH.row {H : List HA} {T : TypeId} {sz n c b off j : Nat} {cs : List Value} {v : Value} (k : Nat) (hk : H[k]? = some (Row T sz (some ⟨b, off, none⟩) n c cs)) (hv : cs[j]? = some v) : dH H b (off + j) v :=
  .of k hk fun a ha => by
    rcases ha with ⟨h, _⟩ | ⟨b', off', pre, junk, fz, e, ok, hb⟩
    · cases h
    · cases e
      refine ⟨_, T, fz, hb, ?_⟩
      have := hQ (pre := pre) (junk := junk) hv
      rw [ok.offs] at this
      simpa using this
def Rds (H : List HA) (a : Option Addr) (cs : List Value) : Prop := ∀ h, aP H h → cs = [] ∨ ∃ b off, a = some ⟨b, off, none⟩ ∧ ∃ l T fz, h b = some (.cells l T fz) ∧ ∀ j v, cs[j]? = some v → l[off + j]? = some v
def Rd (F : HA) (a : Option Addr) (cs : List Value) : Prop := cs = [] ∨ ∃ b off, a = some ⟨b, off, none⟩ ∧ ∀ h, F h → ∃ l T fz, h b = some (.cells l T fz) ∧ ∀ j v, cs[j]? = some v → l[off + j]? = some v
theorem Rds.of {H : List HA} {A : HA} {a : Option Addr} {cs : List Value} (k : Nat) (hk : H[k]? = some A) (hA : ∀ x, A x → cs = [] ∨ ∃ b off, a = some ⟨b, off, none⟩ ∧ ∃ l T fz, x b = some (.cells l T fz) ∧ ∀ j v, cs[j]? = some v → l[off + j]? = some v) : Rds H a cs := by
  intro h s
  obtain ⟨x, hx, hz⟩ := ik H k A hk h s
  rcases hA x hx with e | ⟨b, off, ha, l, T, fz, h1, h2⟩
  · exact .inl e
  · exact .inr ⟨b, off, ha, l, T, fz, hz _ _ h1, h2⟩
theorem Rd.rds {F : HA} {a : Option Addr} {cs : List Value} (h : Rd F a cs) {H : List HA} (k : Nat) (hk : H[k]? = some F) : Rds H a cs :=
  .of k hk fun x hx => by
    rcases h with h | ⟨b, off, ha, hc⟩
    · exact .inl h
    · obtain ⟨l, T, fz, h1, h2⟩ := hc x hx
      exact .inr ⟨b, off, ha, l, T, fz, h1, h2⟩
theorem Rds.row {H : List HA} {T : TypeId} {sz n c : Nat} {a : Option Addr} {cs : List Value} (k : Nat) (hk : H[k]? = some (Row T sz a n c cs)) : Rds H a cs :=
  .of k hk fun x hx => by
    rcases hx with ⟨_, _, _, h⟩ | ⟨b, off, pre, junk, fz, e, ok, hb⟩
    · exact .inl h
    · refine .inr ⟨b, off, e, _, T, fz, hb, fun j v hj => ?_⟩
      have := hQ (pre := pre) (junk := junk) hj
      rw [ok.offs] at this
      simpa using this
theorem Rds.nil (H : List HA) (a : Option Addr) : Rds H a [] := fun _ _ => .inl rfl
theorem Rds.cells {H : List HA} {a : Option Addr} {cs : List Value} (h : Rds H a cs) {W w : World} (s : Sat W H w) : cs = [] ∨ ∃ b off, a = some ⟨b, off, none⟩ ∧ ∀ j v, cs[j]? = some v → w.cell? ⟨b, off + j, none⟩ = some v := by
  rcases h _ s.hp with h | ⟨b, off, ha, l, T, fz, h1, h2⟩
  · exact .inl h
  · refine .inr ⟨b, off, ha, fun j v hj => ?_⟩
    simp only [hpw] at h1
    simp [World.cell?, h1, h2 j v hj]
theorem Rd.lend {F : HA} {a : Option Addr} {cs : List Value} (h : Rd F a cs) {l : List HA} (k : Nat) (hk : l[k]? = some F) : Rd (aP l) a cs := by
  rcases h with h | ⟨b, off, ha, hc⟩
  · exact .inl h
  · refine .inr ⟨b, off, ha, fun x hx => ?_⟩
    obtain ⟨y, hy, hz⟩ := ik l k F hk x hx
    obtain ⟨l', T, fz, h1, h2⟩ := hc y hy
    exact ⟨l', T, fz, hz _ _ h1, h2⟩
theorem Rd.take {F : HA} {a : Option Addr} {cs : List Value} (h : Rd F a cs) (n : Nat) : Rd F a (cs.take n) := by
  rcases h with h | ⟨b, off, ha, hc⟩
  · left; simp [h]
  · refine .inr ⟨b, off, ha, fun x hx => ?_⟩
    obtain ⟨l, T, fz, h1, h2⟩ := hc x hx
    refine ⟨l, T, fz, h1, fun j v hj => h2 j v ?_⟩
    rw [List.getElem?_take] at hj
    split at hj
    · exact hj
    · cases hj
theorem Rd.drop {F : HA} {a : Option Addr} {cs : List Value} (h : Rd F a cs) (n : Nat) : Rd F (a.map (·.add n)) (cs.drop n) := by
  rcases h with h | ⟨b, off, ha, hc⟩
  · left; simp [h]
  · refine .inr ⟨b, off + n, ?_, fun x hx => ?_⟩
    · rw [ha]; simp only [Option.map_some, Option.some.injEq]; unfold Addr.add; split <;> simp_all
    · obtain ⟨l, T, fz, h1, h2⟩ := hc x hx
      refine ⟨l, T, fz, h1, fun j v hj => ?_⟩
      rw [List.getElem?_drop] at hj
      rw [Nat.add_assoc]
      exact h2 _ v hj
theorem Rd.nil (F : HA) (a : Option Addr) : Rd F a [] := .inl rfl

section
variable {K : Cx} {R S Y : Type} {Q : cT R} {E : Env} {H : List HA} {opt : Option R} {ops : Array Oper} {rest : List Oper} {o : Oper}
theorem oL {T : TypeId} {sz n c : Nat} {a : Option Addr} {cs : List Value} (k : Nat) (hk : H[k]? = some (Row T sz a n c cs)) (hn : cs ≠ []) (h : ∀ b off, a = some ⟨b, off, none⟩ → bP K Q ops rest E H opt) : bP K Q ops rest E H opt := by
  intro r hr a' w he hs
  rcases (hs.focus hk).row_cases with ⟨_, _, _, h0⟩ | ⟨b, off, pre, junk, fz, ha, _⟩
  · exact absurd h0 hn
  · exact h b off ha r hr a' w he hs
theorem bd {T : TypeId} {sz n c : Nat} {a : Option Addr} {cs : List Value} (k : Nat) (hk : H[k]? = some (Row T sz a n c cs)) (h : Rd (Row T sz a n c cs) a cs → n ≤ c → c ≤ maxLen → n * sz ≤ cs.length → bP K Q ops rest E H opt) : bP K Q ops rest E H opt := by
  intro r hr a' w he hs
  rcases (hs.focus hk).row_cases with ⟨h1, h2, h3, h0⟩ | ⟨b, off, pre, junk, fz, ha, ok, _⟩
  · subst h2; subst h3
    exact h (.inl h0) (Nat.le_refl _) (Nat.zero_le _) (by simp) r hr a' w he hs
  · subst ha
    refine h (.inr ⟨b, off, rfl, fun x hx => ?_⟩) ok.le ok.cap ok.len r hr a' w he hs
    rcases hx with ⟨h, _⟩ | ⟨b', off', pre', junk', fz', e, ok', hb⟩
    · cases h
    · cases e
      refine ⟨_, T, fz', hb, fun j v hj => ?_⟩
      have := hQ (pre := pre') (junk := junk') hj
      rw [ok'.offs] at this
      simpa using this

/-! ### 2. Lengths, elements, cuts -/
theorem kU {b : Builtin} {xs : List Operand} {vs : List Value} {ts : Array TypeId} {v : Value} (ho : o.op = .call { callee := .builtin b, args := xs.toArray, argTypes := ts }) (hx : evs xs E = some vs)
    (hr : ∀ cs w, (builtin b ts o.type cs vs.toArray).run K.P w = .ok (.value v) w) : RQ K o E H v :=
  ck (by rw [ho]; intro c h; cases h) fun a w he _ => by
    unfold execOp; simp only [ho]
    have : xs.toArray.map a.eval = vs.toArray := by rw [← gR he xs vs hx]; simp
    simp only [resolve, this, Sem.run_bind, Sem.run_pure, Result.andThen_ok, invoke]
    exact hr _ w
theorem bD {x : Operand} {t e : TypeId} {ts : Array TypeId} {a : Option Addr} {n c : Nat} (ho : o.op = .call { callee := .builtin .len, args := #[x], argTypes := ts }) (hx : ev E x = some (.slice a n c)) (ht : ts[0]? = some t) (hu : K.P.underlying t = some (.slice e)) : RQ K o E H (.int .i64 (n : Int)) :=
  kU (xs := [x]) (vs := [.slice a n c]) ho (by simp [evs, hx]) fun cs w => by simp [builtin, Builtin.len_, ht, underlying, program, Sem.run, hu, goInt]
theorem kw {x : Operand} {t : TypeId} {ts : Array TypeId} {l : List UInt8} (ho : o.op = .call { callee := .builtin .len, args := #[x], argTypes := ts }) (hx : ev E x = some (str l)) (ht : ts[0]? = some t) (hu : K.P.underlying t = some .string) : RQ K o E H (.int .i64 (l.length : Int)) :=
  kU (xs := [x]) (vs := [str l]) ho (by simp [evs, hx]) fun cs w => by
    have hsz : (ByteArray.mk l.toArray).size = l.length := by show l.toArray.size = _; simp
    simp [builtin, Builtin.len_, ht, underlying, program, Sem.run, hu, goInt, str, hsz]
theorem sB {x y : Operand} {ts : Array TypeId} {k k' : IntKind} {m n : Int} (ho : o.op = .call { callee := .builtin .max, args := #[x, y], argTypes := ts }) (hx : ev E x = some (.int k m)) (hy : ev E y = some (.int k' n)) : RQ K o E H (.int k (max m n)) :=
  kU (xs := [x, y]) (vs := [.int k m, .int k' n]) ho (by simp [evs, hx, hy]) fun cs w => by
    have : (if n > m then n else m) = max m n := by split <;> omega
    simp [builtin, Builtin.max_, Builtin.max2]; omega
theorem qa {x y : Operand} {ts : Array TypeId} {k k' : IntKind} {m n : Int} (ho : o.op = .call { callee := .builtin .min, args := #[x, y], argTypes := ts }) (hx : ev E x = some (.int k m)) (hy : ev E y = some (.int k' n)) : RQ K o E H (.int k (min m n)) :=
  kU (xs := [x, y]) (vs := [.int k m, .int k' n]) ho (by simp [evs, hx, hy]) fun cs w => by
    simp [builtin, Builtin.min_, Builtin.min2]; omega
theorem dC {x y : Operand} {t e : TypeId} {a : Option Addr} {n c b off sz : Nat} {k : IntKind} {i : Int} (ho : o.op = .indexAddr t x y) (hx : ev E x = some (.slice a n c)) (hy : ev E y = some (.int k i)) (ha : a = some ⟨b, off, none⟩)
    (hu : K.P.underlying t = some (.slice e)) (hs : ∀ w, (sizeOf e).run K.P w = .ok sz w) (h0 : 0 ≤ i) (h1 : i < n) : RQ K o E H (.pointer (some ⟨b, off + i.toNat * sz, none⟩)) :=
  ck (by rw [ho]; intro c h; cases h) fun a' w he _ => by
    unfold execOp; simp only [ho]; rw [he.ev hx, he.ev hy, ha]
    have hadd : (⟨b, off, none⟩ : Addr).add (i.toNat * sz) = ⟨b, off + i.toNat * sz, none⟩ := by unfold Addr.add; split <;> simp_all
    simp [Instr.indexAt, asIntOf, underlying, program, Sem.run, hu, hs, h0, h1, hadd]
theorem hJ {x y : Operand} {t e : TypeId} {a : Option Addr} {n c b off : Nat} {k : IntKind} {i : Int} (ho : o.op = .indexAddr t x y) (hx : ev E x = some (.slice a n c)) (hy : ev E y = some (.int k i)) (ha : a = some ⟨b, off, none⟩)
    (hu : K.P.underlying t = some (.slice e)) (hs : ∀ w, (sizeOf e).run K.P w = .ok 1 w) (h0 : 0 ≤ i) (h1 : i < n) : RQ K o E H (.pointer (some ⟨b, off + i.toNat, none⟩)) := by
  have := dC (K := K) (H := H) (sz := 1) ho hx hy ha hu hs h0 h1
  rwa [Nat.mul_one] at this
theorem tH {x y : Operand} {t : TypeId} {l : List UInt8} {k : IntKind} {i : Int} (ho : o.op = .index t x y) (hx : ev E x = some (str l)) (hy : ev E y = some (.int k i))
    (hu : K.P.underlying t = some .string) (h0 : 0 ≤ i) (h1 : i < l.length) : RQ K o E H (.int .u8 ((l.getD i.toNat 0).toNat : Int)) :=
  ck (by rw [ho]; intro c h; cases h) fun a' w he _ => by
    unfold execOp; simp only [ho]; rw [he.ev hx, he.ev hy]
    have hi : i.toNat < l.length := by omega
    have h2 : (ByteArray.mk l.toArray)[i.toNat]? = some (l.getD i.toNat 0) := by
      have : (ByteArray.mk l.toArray)[i.toNat]? = l[i.toNat]? := by
        rw [getElem?_pos (ByteArray.mk l.toArray) i.toNat (by simpa [ByteArray.size] using hi), List.getElem?_eq_getElem hi]
        rfl
      rw [this]; simp [List.getD_eq_getElem?_getD, List.getElem?_eq_getElem hi]
    simp [Instr.index, asIntOf, underlying, program, Sem.run, hu, h0, str, h2]
def lim (E : Env) : Option Operand → Option (Option Value)
  | none => some none
  | some x => match ev E x with
    | some v => some (some v)
    | none => none
theorem ka {n : Nat} {ds : List Deferred} {a : Act} (he : Has n ds E a) {lo : Option Operand} {vl : Option Value} (hl : lim E lo = some vl) : lo.map a.eval = vl := by
  cases lo with
  | none => simp [lim] at hl; simp [hl]
  | some z =>
    simp only [lim] at hl
    split at hl
    · rename_i v e
      cases hl
      simp [he.ev e]
    · cases hl
theorem pJ {x : Operand} {t e : TypeId} {lo hi : Option Operand} {a : Option Addr} {n c sz l h : Nat} {vl vh : Option Value} (ho : o.op = .slice t x lo hi none) (hx : ev E x = some (.slice a n c))
    (hl : lim E lo = some vl) (hh : lim E hi = some vh) (hu : K.P.underlying t = some (.slice e)) (hs : ∀ w, (sizeOf e).run K.P w = .ok sz w)
    (h1 : (vh = none ∧ h = n) ∨ ∃ k, vh = some (.int k (h : Int))) (h2 : (vl = none ∧ l = 0) ∨ ∃ k, vl = some (.int k (l : Int))) (hlh : l ≤ h) (hhc : h ≤ c) :
    RQ K o E H (.slice (if c = l then a else a.map (·.add (l * sz))) (h - l) (c - l)) :=
  ck (by rw [ho]; intro c h; cases h) fun a' w he _ => by
    unfold execOp; simp only [ho]; rw [he.ev hx]
    rw [ka he hl, ka he hh]
    have e3 : (Instr.sliceBounds true n c vl vh none).run K.P w = .ok (l, h, c) w := by
      unfold Instr.sliceBounds
      rcases h1 with ⟨rfl, rfl⟩ | ⟨k, rfl⟩ <;> rcases h2 with ⟨rfl, rfl⟩ | ⟨k', rfl⟩ <;> simp [Instr.sliceBound, asIntOf, hlh, hhc, Int.toNat_natCast]
    simp [Instr.sliceAt, underlying, program, Sem.run, hu, Instr.slice, e3, hs]
theorem rR {x : Operand} {t : TypeId} {lo hi : Option Operand} {s : List UInt8} {l h : Nat} {vl vh : Option Value} (ho : o.op = .slice t x lo hi none) (hx : ev E x = some (str s))
    (hl : lim E lo = some vl) (hh : lim E hi = some vh) (hu : K.P.underlying t = some .string)
    (h1 : (vh = none ∧ h = s.length) ∨ ∃ k, vh = some (.int k (h : Int))) (h2 : (vl = none ∧ l = 0) ∨ ∃ k, vl = some (.int k (l : Int))) (hlh : l ≤ h) (hhc : h ≤ s.length) :
    RQ K o E H (str ((s.take h).drop l)) :=
  ck (by rw [ho]; intro c h; cases h) fun a' w he _ => by
    unfold execOp; simp only [ho]; rw [he.ev hx]
    rw [ka he hl, ka he hh]
    have hsz : (ByteArray.mk s.toArray).size = s.length := by show s.toArray.size = _; simp
    have e3 : (Instr.sliceBounds false s.length s.length vl vh none).run K.P w = .ok (l, h, s.length) w := by
      unfold Instr.sliceBounds
      rcases h1 with ⟨rfl, rfl⟩ | ⟨k, rfl⟩ <;> rcases h2 with ⟨rfl, rfl⟩ | ⟨k', rfl⟩ <;> simp [Instr.sliceBound, asIntOf, hlh, hhc, Int.toNat_natCast]
    have e4 : (ByteArray.mk s.toArray).extract l h = ⟨((s.take h).drop l).toArray⟩ := by
      apply ByteArray.ext
      rw [ByteArray.data_extract]
      simp [List.extract_toArray, List.drop_take, List.extract_eq_take_drop]
    simp [Instr.sliceAt, underlying, program, Sem.run, hu, Instr.slice, str, hsz, e3, e4]
end
end Go.Proofs.YtndjkejhacfpdaaGreatDoor

namespace Go.Proofs.YtndjkejhacfpdaaGreatDoor
set_option linter.unusedVariables false
set_option linter.unusedSimpArgs false
open Go.RowKit

theorem oz (b off n : Nat) : (⟨b, off, none⟩ : Addr).add n = ⟨b, off + n, none⟩ := by unfold Addr.add; split <;> simp_all
theorem lN {P : Program} {W w : World} {l : List HA} {t ty e : TypeId} {i : TypeInfo} {z : Value} {sz bytes : Nat} {a a2 : Option Addr} {n c m c2 : Nat} {cs news : List Value}
    (s : Sat W (Row e sz a n c cs :: l) w) (ht : P.underlying t = some (.slice e)) (hi : P.info? e = some i) (hz : i.zero = some z) (hsz : i.size = sz) (hby : i.bytes = bytes) (hzs : z.cells.size = sz)
    (hl : news.length = m * sz) (hr : Rds l a2 news) (h1 : one news) (hb : (n + m) * bytes ≤ 140737488355328) (h0 : Nat.blt 0 bytes = true) (h0' : Nat.blt 0 sz = true) :
    ∃ a' c' w', (Builtin.append_ #[t, t] ty #[.slice a n c, .slice a2 m c2]).run P w = .ok (.slice a' (n + m) c') w' ∧ Sat W (Row e sz a' (n + m) c' (cs.take (n * sz) ++ news) :: l) w' := by
  subst hsz
  subst hby
  have hbp : 0 < i.bytes := by simpa [Nat.blt_eq] using h0
  have hsp : 0 < i.size := by simpa [Nat.blt_eq] using h0'
  have hnm : n + m ≤ 140737488355328 := Nat.le_trans (Nat.le_mul_of_pos_right (n + m) hbp) hb
  have hml : n + m ≤ maxLen := by simp only [maxLen]; omega
  have s' : Sat W l w := s.ent (Ent.drop (Ent.refl _))
  -- where the news are read
  have hnews : ∀ w2, Sat W l w2 → (Builtin.firstCells i.size m (.slice a2 m c2)).run P w2 = .ok news.toArray w2 := by
    intro w2 s2
    rcases hr.cells s2 with hn | ⟨b2, off2, ha2, hc⟩
    · subst hn
      have hm : m = 0 := by
        rcases Nat.eq_zero_or_pos m with h | h
        · exact h
        · have := Nat.mul_pos h hsp; simp at hl; omega
      subst hm
      cases a2 <;> simp [Builtin.firstCells, loadCells, loadCellsFrom]
    · subst ha2
      have := ix (P := P) (w := w2) (b := b2) (off := off2) (vs := news) hc
      rw [hl] at this
      simpa [Builtin.firstCells] using this
  -- the grown row
  have grown : ∀ (old : List Value), old.length = n * i.size → c < n + m → Sat W (Row e i.size (some ⟨w.heap.size, 0, none⟩) (n + m) (grownCap w (n + m) c e) (old ++ news) :: l)
      { w with drawn := w.drawn + 1, heap := w.heap.push (.cells (old.toArray ++ news.toArray ++ Builtin.zeroCells z.cells (grownCap w (n + m) c e - (n + m))) e (0, 0)) } := by
    intro old ho hc
    have hge := grownCap_ge w (n + m) c e
    have hcm := grownCap_le_maxLen w (n + m) c e hml
    have s2 := (s'.drew (w.drawn + 1)).new (.cells (old.toArray ++ news.toArray ++ Builtin.zeroCells z.cells (grownCap w (n + m) c e - (n + m))) e (0, 0))
    refine s2.ent (Ent.sel' 0 rfl ?_ (Ent.refl _))
    intro h x
    have hlen : (old ++ news).length = (n + m) * i.size := by rw [List.length_append, ho, hl, Nat.add_mul]
    have hzl : (Builtin.zeroCells z.cells (grownCap w (n + m) c e - (n + m))).toList.length = (grownCap w (n + m) c e - (n + m)) * i.size := by rw [Array.length_toList, size_zeroCells, hzs]
    refine Row.mk (pre := []) (junk := (Builtin.zeroCells z.cells (grownCap w (n + m) c e - (n + m))).toList) (fz := (0, 0)) ⟨rfl, hge, hcm, ?_, by rw [hlen]; exact Nat.le_refl _, by rw [hlen]; exact Nat.mul_le_mul_right _ hge, Or.inl rfl⟩ h ?_
    · rw [hlen, hzl, ← Nat.add_mul]; exact Nat.mul_le_mul_right _ (by omega)
    · have : (old.toArray ++ news.toArray ++ Builtin.zeroCells z.cells (grownCap w (n + m) c e - (n + m))) = ([] ++ (old ++ news) ++ (Builtin.zeroCells z.cells (grownCap w (n + m) c e - (n + m))).toList).toArray := by
        apply Array.ext'; simp
      rw [this] at x
      exact x
  have hcut : ∀ old, (Question.appendCap (n + m) old e).cut (w.tape w.drawn (.appendCap (n + m) old e)) = grownCap w (n + m) old e := fun _ => rfl
  by_cases hroom : n + m ≤ c
  · -- there is room
    rcases s.row_cases with ⟨rfl, rfl, rfl, rfl⟩ | ⟨b, off, pre, junk, fz, rfl, ok, s2⟩
    · have hm : m = 0 := by omega
      subst hm
      have hn0 : news = [] := List.eq_nil_of_length_eq_zero (by simpa using hl)
      subst hn0
      refine ⟨none, 0, w, ?_, by simpa using s⟩
      simp [Builtin.append_, run_underlying ht, sizeOf, typeInfo, program, Sem.run, hi, Builtin.lenOf, hnews w s']
    · have hbk := s2.pts_at (i := 0) rfl
      have hlen := ok.len
      have hpre := ok.offs
      have hrm := ok.room
      have hfit : n * i.size + news.length ≤ c * i.size := by rw [hl, ← Nat.add_mul]; exact Nat.mul_le_mul_right _ hroom
      have hst := jn (P := P) (off + n * i.size) news 0 (pre ++ cs ++ junk) w hbk (by simp; omega) (fun q h1 h2 h3 => ok.free q (by omega) (by omega)) h1
      rw [Nat.add_zero] at hst
      refine ⟨some ⟨b, off, none⟩, c, _, ?_, (s2.upd (o' := .cells (eO (pre ++ cs ++ junk) (off + n * i.size) news).toArray e fz)).ent (Ent.sel' 0 rfl ?_ (Ent.refl _))⟩
      · simp [Builtin.append_, run_underlying ht, sizeOf, typeInfo, program, Sem.run, hi, Builtin.lenOf, hroom, hnews w s', oz, hst]
      · intro h x
        have e1 : eO (pre ++ cs ++ junk) (off + n * i.size) news = pre ++ (cs.take (n * i.size) ++ news) ++ (cs ++ junk).drop (n * i.size + news.length) := by
          rw [gC _ _ _ (by simp; omega)]
          rw [List.append_assoc pre cs junk, List.take_append, List.drop_append]
          rw [List.take_of_length_le (by omega), List.drop_of_length_le (by omega)]
          rw [show off + n * i.size - pre.length = n * i.size by omega, show off + n * i.size + news.length - pre.length = n * i.size + news.length by omega]
          rw [List.take_append_of_le_length hlen]
          simp
        rw [e1] at x
        have hl2 : (cs.take (n * i.size) ++ news).length = (n + m) * i.size := by rw [List.length_append, List.length_take, Nat.min_eq_left hlen, hl, Nat.add_mul]
        refine Row.mk (junk := (cs ++ junk).drop (n * i.size + news.length)) ⟨hpre, hroom, ok.cap, ?_, by rw [hl2]; exact Nat.le_refl _, by rw [hl2]; exact Nat.mul_le_mul_right _ hroom, ok.fzok⟩ h x
        rw [hl2, List.length_drop, List.length_append, Nat.add_mul, ← hl]
        omega
  · -- it grows
    have hg : c < n + m := by omega
    have h63 : ¬ (9223372036854775807 < ((n : Int) + (m : Int))) := by simp only [maxLen] at hml; omega
    have hfits := growslice_fits (bytes := i.bytes) hg hb
    have h48 : ¬ (281474976710656 < Builtin.nextslicecap (n + m) c * i.bytes) := by omega
    have hd : Sat W l w.drew := s'.drew _
    rcases s.row_cases with ⟨rfl, rfl, rfl, rfl⟩ | ⟨b, off, pre, junk, fz, rfl, ok, s2⟩
    · refine ⟨_, _, _, ?_, by simpa using grown [] (by simp) hg⟩
      have hf0 : (Builtin.firstCells i.size 0 (.slice none 0 0)).run P w.drew = .ok #[] w.drew := by simp [Builtin.firstCells]
      have hm : m ≠ 0 := by omega
      have h63' : ¬ (9223372036854775807 < (m : Int)) := by omega
      simp only [Nat.zero_add] at hroom h48 hcut ⊢
      simp [Builtin.append_, run_underlying ht, sizeOf, typeInfo, zeroValue, hi, hz, Builtin.lenOf, hm, h63', h48, Question.forced, hf0, hnews _ hd, newRow, grownCap]
      rfl
    · have hlen := ok.len
      have hold : (Builtin.firstCells i.size n (.slice (some ⟨b, off, none⟩) n c)).run P w.drew = .ok (cs.take (n * i.size)).toArray w.drew := by
        have := ix (P := P) (w := w.drew) (b := b) (off := off) (vs := cs.take (n * i.size)) fun j v hj => by
          have hj' : cs[j]? = some v := by
            rw [List.getElem?_take] at hj
            split at hj
            · exact hj
            · cases hj
          exact (dH.row (H := Row e i.size (some ⟨b, off, none⟩) n c cs :: l) 0 rfl hj').sat (s.drew _)
        rw [List.length_take, Nat.min_eq_left hlen] at this
        simpa [Builtin.firstCells] using this
      refine ⟨_, _, _, ?_, grown (cs.take (n * i.size)) (by rw [List.length_take, Nat.min_eq_left hlen]) hg⟩
      simp [Builtin.append_, run_underlying ht, sizeOf, typeInfo, zeroValue, hi, hz, Builtin.lenOf, hroom, h63, h48, Question.forced, hold, hnews _ hd, newRow, grownCap]
      refine congrArg (fun x => w.drew.alloc (.cells x e)) ?_
      apply Array.ext'
      simp [List.append_assoc]

section
variable {K : Cx} {R S Y : Type} {Q : cT R} {E : Env} {H : List HA} {opt : Option R} {ops : Array Oper} {rest : List Oper} {o : Oper}
structure Elt (P : Program) (e sz bytes : Nat) (zs : List Value) : Prop where
  info : ∃ i z, P.info? e = some i ∧ i.zero = some z ∧ i.size = sz ∧ i.bytes = bytes ∧ z.cells = zs.toArray
  len : zs.length = sz
  pos : Nat.blt 0 bytes = true
  spos : Nat.blt 0 sz = true
theorem Elt.of {P : Program} {e sz bytes : Nat} {zs : List Value} (z : Value) (h : (P.info? e).map (fun i => (i.zero, i.size, i.bytes)) = some (some z, sz, bytes)) (hz : z.cells = zs.toArray) (hl : zs.length = sz) (h1 : Nat.blt 0 bytes = true) (h2 : Nat.blt 0 sz = true) : Elt P e sz bytes zs := by
  refine ⟨?_, hl, h1, h2⟩
  cases hi : P.info? e with
  | none => rw [hi] at h; cases h
  | some i =>
    rw [hi] at h
    simp only [Option.map_some, Option.some.injEq, Prod.mk.injEq] at h
    exact ⟨i, z, rfl, h.1, h.2.1, h.2.2, hz⟩
theorem mV {x y : Operand} {t e sz bytes : Nat} {zs : List Value} {a a2 : Option Addr} {n c m c2 : Nat} {cs news : List Value} (k : Nat) (ho : o.op = .call { callee := .builtin .append, args := #[x, y], argTypes := #[t, t] })
    (hx : ev E x = some (.slice a n c)) (hy : ev E y = some (.slice a2 m c2)) (ht : K.P.underlying t = some (.slice e)) (hE : Elt K.P e sz bytes zs) (hk : H[k]? = some (Row e sz a n c cs))
    (hr : Rds (H.eraseIdx k) a2 news) (hl : news.length = m * sz) (h1 : one news) (hb : (n + m) * bytes ≤ 140737488355328) :
    RE K (Y := Option Addr × Nat) o E H (fun y => .slice y.1 (n + m) y.2) (fun y => H.set k (Row e sz y.1 (n + m) y.2 (cs.take (n * sz) ++ news))) :=
  fu (by rw [ho]; intro c h; cases h) fun a' w he s => by
    obtain ⟨i, z, hi, hz, hsz, hby, hzs⟩ := hE.info
    obtain ⟨a3, c3, w', hrun, s2⟩ := lN (t := t) (ty := o.type) (c2 := c2) (s.focus hk) ht hi hz hsz hby (by rw [hzs]; simpa using hE.len) hl hr h1 hb hE.pos hE.spos
    refine ⟨(a3, c3), w', ?_, Sat.unfocus hk s2⟩
    unfold execOp; simp only [ho]
    simp only [resolve, invoke, builtin, Sem.run_bind, Sem.run_pure, Result.andThen_ok, List.map_toArray, List.map_cons, List.map_nil, he.ev hx, he.ev hy, hrun]
theorem qg {x y : Operand} {t e sz bytes : Nat} {zs : List Value} {a2 : Option Addr} {m c2 : Nat} {news : List Value} (ho : o.op = .call { callee := .builtin .append, args := #[x, y], argTypes := #[t, t] })
    (hx : ev E x = some (.slice none 0 0)) (hy : ev E y = some (.slice a2 m c2)) (ht : K.P.underlying t = some (.slice e)) (hE : Elt K.P e sz bytes zs)
    (hr : Rds H a2 news) (hl : news.length = m * sz) (h1 : one news) (hb : m * bytes ≤ 140737488355328) :
    RE K (Y := Option Addr × Nat) o E H (fun y => .slice y.1 m y.2) (fun y => Row e sz y.1 m y.2 news :: H) :=
  fu (by rw [ho]; intro c h; cases h) fun a' w he s => by
    obtain ⟨i, z, hi, hz, hsz, hby, hzs⟩ := hE.info
    have s0 : Sat K.W (Row e sz none 0 0 [] :: H) w := s.ent (Ent.row_nil (Ent.refl _))
    obtain ⟨a3, c3, w', hrun, s2⟩ := lN (t := t) (ty := o.type) (c2 := c2) s0 ht hi hz hsz hby (by rw [hzs]; simpa using hE.len) hl hr h1 (by rw [Nat.zero_add]; exact hb) hE.pos hE.spos
    simp only [Nat.zero_add, List.take_nil, List.nil_append] at hrun s2
    refine ⟨(a3, c3), w', ?_, s2⟩
    unfold execOp; simp only [ho]
    simp only [resolve, invoke, builtin, Sem.run_bind, Sem.run_pure, Result.andThen_ok, List.map_toArray, List.map_cons, List.map_nil, he.ev hx, he.ev hy, hrun]

/-! ### make -/
theorem sM {x y : Operand} {t e bytes : Nat} {z : Value} {k k' : IntKind} {n c : Int} (ho : o.op = .makeSlice t x y) (hx : ev E x = some (.int k n)) (hy : ev E y = some (.int k' c)) (ht : K.P.underlying t = some (.slice e)) (hE : Elt K.P e 1 bytes [z])
    (h0 : 0 ≤ n) (h1 : n ≤ c) (hb : c * bytes ≤ 140737488355328) :
    RE K (Y := Nat) o E H (fun b => .slice (some ⟨b, 0, none⟩) n.toNat c.toNat) (fun b => Row e 1 (some ⟨b, 0, none⟩) n.toNat c.toNat (List.replicate c.toNat z) :: H) :=
  fu (by rw [ho]; intro c h; cases h) fun a' w he s => by
    obtain ⟨i, zv, hi, hz, hsz, hby, hzs⟩ := hE.info
    subst hby
    have hbp : 0 < i.bytes := by have := hE.pos; simpa [Nat.blt_eq] using this
    obtain ⟨N, rfl⟩ := Int.eq_ofNat_of_zero_le h0
    obtain ⟨C, rfl⟩ := Int.eq_ofNat_of_zero_le (Int.le_trans h0 h1)
    have hC' : ((C * i.bytes : Nat) : Int) ≤ 140737488355328 := by rw [Int.natCast_mul]; exact hb
    have hC : C * i.bytes ≤ 140737488355328 := by omega
    have hC1 : C ≤ 140737488355328 := Nat.le_trans (Nat.le_mul_of_pos_right C hbp) hC
    have hNC : N ≤ C := by omega
    have wr : ∀ q : Nat, q ≤ 140737488355328 → IntKind.i64.wrap (q : Int) = q := by
      intro q hq
      simp only [IntKind.wrap, IntKind.bits, IntKind.signed]
      have e1 : ((q : Int) % 2 ^ 64) = q := Int.emod_eq_of_lt (by omega) (by omega)
      simp only [e1, Bool.true_and]
      rw [if_neg]
      simp
      omega
    have e1 := wr N (by omega)
    have e2 := wr C hC1
    simp only [Int.toNat_natCast]
    have t2 : ¬ (281474976710656 < (i.bytes : Int) * (C : Int)) := by
      rw [Int.mul_comm]
      rw [Int.natCast_mul] at hC'
      omega
    have hcl : ¬ ((C : Int) < 0) := by omega
    have hnl : ¬ ((N : Int) < 0) := by omega
    have hnc : ¬ ((C : Int) < (N : Int)) := by omega
    refine ⟨w.heap.size, { w with heap := w.heap.push (.cells (List.replicate C z).toArray e (0, 0)) }, ?_, (s.new _).ent (Ent.sel' 0 rfl ?_ (Ent.refl _))⟩
    · unfold execOp; simp only [ho]; rw [he.ev hx, he.ev hy]
      simp [Instr.makeSlice, underlying, program, Sem.run, ht, asInt, asIntOf, typeInfo, hi, e1, e2, t2, hcl, hnl, hnc, askRoom, sizeOf, hsz, zeroValue, hz, hzs, newRow, newObj]
      split
      · rename_i hc0; subst hc0; refine congrArg (fun q => Result.ok (Next.value (Value.slice (some { block := w.heap.size, off := 0 }) N 0)) (w.alloc (Obj.cells q e))) ?_; apply Array.ext <;> simp
      · refine congrArg (fun q => Result.ok (Next.value (Value.slice (some { block := w.heap.size, off := 0 }) N C)) (w.alloc (Obj.cells q e))) ?_
        apply Array.ext
        · simp
        · intro j h1 h2
          simp [Nat.mod_one]
    · intro h x
      refine Row.mk (pre := []) (junk := []) (fz := (0, 0)) ⟨rfl, hNC, by simp only [maxLen]; omega, by simp, by simpa using hNC, by simp, Or.inl rfl⟩ h ?_
      simpa [pts] using x
end
end Go.Proofs.YtndjkejhacfpdaaGreatDoor

namespace Go.Proofs.YtndjkejhacfpdaaGreatDoor
set_option linter.unusedVariables false
set_option linter.unusedSimpArgs false
open Go.RowKit

def ax (l : List UInt8) : List Value := l.map fun c => .int .u8 (c.toNat : Int)
theorem cP (l : List UInt8) : (ax l).length = l.length := by simp [ax]
theorem kX (l m : List UInt8) : ax (l ++ m) = ax l ++ ax m := by simp [ax]
theorem jm (l : List UInt8) (n : Nat) : (ax l).take n = ax (l.take n) := by simp [ax]
theorem km (l : List UInt8) (n : Nat) : (ax l).drop n = ax (l.drop n) := by simp [ax]
theorem nJ (l : List UInt8) : one (ax l) := by
  intro v hv
  simp [ax] at hv
  obtain ⟨c, _, rfl⟩ := hv
  rfl
theorem fQ {l : List UInt8} {j : Nat} (h : j < l.length) : (ax l)[j]? = some (.int .u8 ((l.getD j 0).toNat : Int)) := by
  simp [ax, List.getElem?_eq_getElem h, List.getD_eq_getElem?_getD]
theorem gA {l : List UInt8} {j : Nat} (h : j < l.length) : ax l ≠ [] := by
  intro e
  have := cP l
  rw [e] at this
  simp at this
  omega
theorem qE (n : Nat) : List.replicate n (Value.int .u8 0) = ax (List.replicate n 0) := by simp [ax]
def du (n : Int) : UInt8 := UInt8.ofNat n.toNat
theorem gB {n : Int} (h0 : 0 ≤ n) (h1 : n < 256) : ((du n).toNat : Int) = n := by
  unfold du
  rw [UInt8.toNat_ofNat']
  omega

section
variable {K : Cx} {R S Y : Type} {Q : cT R} {E : Env} {H : List HA} {opt : Option R} {ops : Array Oper} {rest : List Oper} {o : Oper}
theorem qF {t e sz bytes len : Nat} {zs : List Value} {l : List (Nat × Operand)} {vs : List (Nat × Value)} {cs : List Value} (ho : o.op = .buildSlice t len l.toArray) (hx : evP l E = some vs) (ht : K.P.underlying t = some (.slice e)) (hE : Elt K.P e sz bytes zs)
    (hb : Nat.ble (len * sz) 16777216 = true) (hf : Instr.fill (fun i => some (i * sz, sz)) ((Array.range (len * sz)).map (zs.toArray[· % zs.toArray.size]!)) vs = some cs.toArray) (h0 : Nat.blt 0 (len * sz) = true) (hl : cs.length = len * sz) :
    RE K (Y := Nat) o E H (fun b => .slice (some ⟨b, 0, none⟩) len len) (fun b => Row e sz (some ⟨b, 0, none⟩) len len cs :: H) :=
  fu (by rw [ho]; intro c h; cases h) fun a' w he s => by
    obtain ⟨i, z, hi, hz, hsz, hby, hzs⟩ := hE.info
    have hb' : len * sz ≤ 16777216 := by simpa [Nat.ble_eq] using hb
    have h0' : 0 < len * sz := by simpa [Nat.blt_eq] using h0
    have hsp : 0 < sz := by have := hE.spos; simpa [Nat.blt_eq] using this
    refine ⟨w.heap.size, { w with heap := w.heap.push (.cells cs.toArray e (0, 0)) }, ?_, (s.new _).ent (Ent.sel' 0 rfl ?_ (Ent.refl _))⟩
    · unfold execOp; simp only [ho]
      have : (l.toArray.map fun (i, x) => (i, a'.eval x)) = vs.toArray := by
        rw [← mm he l vs hx]; simp
      rw [this]
      have hne : ¬ (len * sz = 0) := by omega
      have hgt : ¬ (len * sz > 2 ^ 24) := by omega
      simp only [Instr.buildSlice, underlying, program, Sem.run_bind, Sem.run, ht, sizeOf, typeInfo, hi, hsz, Result.andThen_ok, Sem.run_pure, hgt, hne, if_false, zeroValue, hz, hzs, newRow, newObj]
      simp only [hf, Sem.run_bind, Sem.run, Result.andThen_ok, Sem.run_pure, newRow, newObj]
    · intro h x
      have hlm : len ≤ 16777216 := Nat.le_trans (Nat.le_mul_of_pos_right len hsp) hb'
      refine Row.mk (pre := []) (junk := []) (fz := (0, 0)) ⟨rfl, Nat.le_refl _, by simp only [maxLen]; omega, by simp [hl], by simp [hl], by simp [hl], Or.inl rfl⟩ h ?_
      simpa [pts] using x
theorem sG {x y : Operand} {t t2 e sz bytes : Nat} {zs : List Value} {a a2 : Option Addr} {n c m c2 : Nat} {cs news : List Value} (k : Nat) (ho : o.op = .call { callee := .builtin .copy, args := #[x, y], argTypes := #[t, t2] })
    (hx : ev E x = some (.slice a n c)) (hy : ev E y = some (.slice a2 m c2)) (ht : K.P.underlying t = some (.slice e)) (hE : Elt K.P e sz bytes zs) (hk : H[k]? = some (Row e sz a n c cs))
    (hr : Rds H a2 news) (hl : (min m n) * sz = news.length) (h1 : one news) :
    RE K (Y := Unit) o E H (fun _ => .int .i64 (min m n : Nat)) (fun _ => H.set k (Row e sz a n c (eO cs 0 news))) :=
  fu (by rw [ho]; intro c h; cases h) fun a' w he s => by
    obtain ⟨i, z, hi, hz, hsz, hby, hzs⟩ := hE.info
    have hnews : (Builtin.firstCells sz (min m n) (.slice a2 m c2)).run K.P w = .ok news.toArray w := by
      rcases hr.cells s with hn | ⟨b2, off2, ha2, hc⟩
      · subst hn
        have hm : min m n * sz = 0 := by simpa using hl
        cases a2 <;> simp [Builtin.firstCells, hm, loadCells, loadCellsFrom]
      · subst ha2
        have := ix (P := K.P) (w := w) (b := b2) (off := off2) (vs := news) hc
        rw [← hl] at this
        simpa [Builtin.firstCells] using this
    have go : ∀ w', (execOp a'.eval o).run K.P w = .ok (.value (.int .i64 (min m n : Nat))) w' ↔ (match a with | some ad => (storeCells ad news).run K.P w = .ok () w' | none => w' = w) := by
      intro w'
      unfold execOp; simp only [ho]
      simp only [resolve, invoke, builtin, Sem.run_bind, Sem.run_pure, Result.andThen_ok, List.map_toArray, List.map_cons, List.map_nil, he.ev hx, he.ev hy]
      have hmin : Nat.min m n = min m n := rfl
      cases a with
      | none =>
        simp [Builtin.copy_, underlying, program, Sem.run, ht, Builtin.lenOf, sizeOf, typeInfo, hi, hsz, hmin, hnews, goInt]
        constructor <;> (intro h; exact h.symm)
      | some ad =>
        simp [Builtin.copy_, underlying, program, Sem.run, ht, Builtin.lenOf, sizeOf, typeInfo, hi, hsz, hmin, hnews, goInt]
        cases (storeCells ad news).run K.P w <;> simp
    rcases (s.focus hk).row_cases with ⟨rfl, rfl, rfl, rfl⟩ | ⟨b, off, pre, junk, fz, rfl, ok, s2⟩
    · refine ⟨(), w, (go w).2 rfl, ?_⟩
      have hn0 : news = [] := List.eq_nil_of_length_eq_zero (by rw [← hl]; simp)
      subst hn0
      exact Sat.unfocus hk (s.focus hk)
    · have hbk := s2.pts_at (i := 0) rfl
      have hlen := ok.len
      have hpre := ok.offs
      have hcap := ok.le
      have hfit : news.length ≤ n * sz := by rw [← hl]; exact Nat.mul_le_mul_right _ (Nat.min_le_right m n)
      have hnc : n * sz ≤ c * sz := Nat.mul_le_mul_right _ hcap
      have hst := jn (P := K.P) off news 0 (pre ++ cs ++ junk) w hbk (by simp; omega) (fun q h1 h2 h3 => ok.free q (by omega) (by omega)) h1
      refine ⟨(), _, (go _).2 hst, Sat.unfocus hk ((s2.upd (o' := .cells (eO (pre ++ cs ++ junk) (off + 0) news).toArray e fz)).ent (Ent.sel' 0 rfl ?_ (Ent.refl _)))⟩
      intro h x
      have e1 : eO (pre ++ cs ++ junk) (off + 0) news = pre ++ eO cs 0 news ++ junk := by
        rw [gC _ _ _ (by simp; omega), gC _ _ _ (by omega)]
        rw [List.append_assoc pre cs junk, List.take_append, List.drop_append, List.drop_append]
        rw [List.take_of_length_le (by omega), List.drop_of_length_le (by omega)]
        rw [show off + 0 - pre.length = 0 by omega, show off + 0 + news.length - pre.length = news.length by omega, show news.length - cs.length = 0 by omega]
        simp
      rw [e1] at x
      exact Row.mk (junk := junk) ⟨hpre, ok.le, ok.cap, by rw [iq]; exact ok.room, by rw [iq]; exact ok.len, by rw [iq]; exact ok.top, ok.fzok⟩ h x
/-! ### Bytes and strings -/
theorem pV {x : Operand} {t d e : TypeId} {l : List UInt8} (ho : o.op = .convert t d x) (hx : ev E x = some (str l)) (ht : K.P.underlying t = some .string) (hd : K.P.underlying d = some (.slice e)) (he8 : K.P.underlying e = some (.int .u8)) (hl : l.length ≤ 140737488355328) :
    RE K (Y := Nat × Nat) o E H (fun y => .slice (some ⟨y.1, 0, none⟩) l.length y.2) (fun y => Row e 1 (some ⟨y.1, 0, none⟩) l.length y.2 (ax l) :: H) :=
  fu (by rw [ho]; intro c h; cases h) fun a' w he s => by
    have hsz : (ByteArray.mk l.toArray).size = l.length := by show l.toArray.size = _; simp
    have hml : l.length ≤ maxLen := by simp only [maxLen]; omega
    have hge := grownCap_ge w l.length 0 e
    have hcm := grownCap_le_maxLen w l.length 0 e hml
    let cap := grownCap w l.length 0 e
    let arr : List Value := ax l ++ List.replicate (cap - l.length) (.int .u8 0)
    have hal : arr.length = cap := by simp [arr, cP]; omega
    refine ⟨(w.heap.size, cap), { w with drawn := w.drawn + 1, heap := w.heap.push (.cells arr.toArray e (cap, cap + 1)) }, ?_, ((s.drew (w.drawn + 1)).new _).ent (Ent.sel' 0 rfl ?_ (Ent.refl _))⟩
    · unfold execOp; simp only [ho]; rw [he.ev hx]
      have harr : ((ByteArray.mk l.toArray).data.map fun b => Value.int .u8 b.toNat) ++ Array.replicate (cap - l.length) (Value.int .u8 0) = arr.toArray := by
        simp [arr, ax]
      have hpush : (w.heap.push (.cells arr.toArray e (0, 0)))[w.heap.size]? = some (.cells arr.toArray e (0, 0)) := by simp
      have hchoose : (choose (.appendCap l.length 0 e)).run K.P w = .ok cap w.drew := by
        simp [choose, Sem.run, Question.forced, cap, grownCap]
      have hfz : ({ w with drawn := w.drawn + 1, heap := w.heap.push (.cells arr.toArray e (0, 0)) } : World).freeze ⟨w.heap.size, cap, none⟩ 1 = { w with drawn := w.drawn + 1, heap := w.heap.push (.cells arr.toArray e (cap, cap + 1)) } := by
        unfold World.freeze
        rw [if_neg (by omega)]
        simp only
        rw [ie _ _ _ _ hpush]
        congr 1
        apply Array.ext_getElem?
        intro j
        rw [Array.getElem?_setIfInBounds]
        by_cases hj : w.heap.size = j
        · subst hj; simp
        · rw [if_neg hj]; simp [Array.getElem?_push, Ne.symm hj]
      have key : (convert t d (str l)).run K.P w = .ok (.slice (some ⟨w.heap.size, 0, none⟩) l.length cap) { w with drawn := w.drawn + 1, heap := w.heap.push (.cells arr.toArray e (cap, cap + 1)) } := by
        simp only [str, convert, underlying, program, Sem.run_bind, Sem.run, ht, hd, Result.andThen_ok, Sem.run_pure, he8]
        unfold Conv.stringToBytes
        simp only [hsz]
        rw [Sem.run_bind, hchoose]
        simp only [Result.andThen_ok, newRow, newObj, Sem.run_bind, Sem.run, Sem.run_pure]
        rw [show (Array.map (fun b => Value.int IntKind.u8 (b.toNat : Int)) (ByteArray.mk l.toArray).data ++ Array.replicate (cap - l.length) (Value.int IntKind.u8 0)) = arr.toArray from harr]
        have hm : (markStringish ⟨w.heap.size, 0, none⟩).run K.P { w with drawn := w.drawn + 1, heap := w.heap.push (.cells arr.toArray e (0, 0)) } = .ok () { w with drawn := w.drawn + 1, heap := w.heap.push (.cells arr.toArray e (cap, cap + 1)) } := by
          unfold markStringish
          simp only [shape, Sem.run_bind, Sem.run, Result.andThen_ok, World.shape?, hpush, List.size_toArray, hal, freeze]
          rw [hfz]
        exact congrArg (fun r => Result.andThen r fun _ w' => Result.ok (Value.slice (some ⟨w.heap.size, 0, none⟩) l.length cap) w') hm
      simp [key]
    · intro h x
      refine Row.mk (pre := []) (junk := List.replicate (cap - l.length) (.int .u8 0)) (fz := (cap, cap + 1)) ⟨rfl, hge, hcm, by simp [cP]; omega, by simp [cP], by simp [cP]; omega, Or.inr (by simp; exact Nat.le_refl cap)⟩ h ?_
      simpa [pts, arr] using x
theorem sq {xt yt : TypeId} {x y : Operand} {l m : List UInt8} (ho : o.op = .binOp .add xt x y yt) (hx : ev E x = some (str l)) (hy : ev E y = some (str m)) (hl : l.length + m.length ≤ 9223372036854775807) : RQ K o E H (str (l ++ m)) :=
  fj ho hx hy jx fun P w => by
    have h1 : (ByteArray.mk l.toArray).size = l.length := by show l.toArray.size = _; simp
    have h2 : (ByteArray.mk m.toArray).size = m.length := by show m.toArray.size = _; simp
    have h3 : (ByteArray.mk l.toArray) ++ (ByteArray.mk m.toArray) = ⟨(l ++ m).toArray⟩ := by
      apply ByteArray.ext; simp
    have h4 : ¬ ((((ByteArray.mk l.toArray).size + (ByteArray.mk m.toArray).size : Nat) : Int) > IntKind.i64.max) := by
      rw [h1, h2]
      simp only [IntKind.max, IntKind.signed, IntKind.bits, if_true]
      omega
    simp only [str, binOp, Op.stringOp, h4, if_false, h3, Sem.run_pure]
end
end Go.Proofs.YtndjkejhacfpdaaGreatDoor

namespace Go.Proofs.YtndjkejhacfpdaaGreatDoor
set_option linter.unusedVariables false
set_option linter.unusedSimpArgs false
open Go.RowKit
section
variable {K : Cx} {R S Y : Type} {Q : cT R} {E : Env} {H : List HA} {o : Option R} {ops : Array Oper} {rest : List Oper} {op : Oper}
def Exi (K : Cx) (Q : cT R) (id : Nat) (E : Env) (H : List HA) (o : Option R) : Prop := ∀ r, o = some r → ∀ a w, Has K.n K.ds E a → Sat K.W H w → Q r (.exit id) a w
theorem cN {id : Nat} (h : Exi K Q id E H o) : Sim K Q (.exit id) E H o := fun r hr a w he hs => wpIn_exit (h r hr a w he hs)
theorem ct {id : Nat} {c : Code} (h : Exi K Q id E H o) : Exi K (iT K c Q) id E H o := h
theorem cD {id : Nat} {L : S → Option R} {Es : S → Y → Env} {Hs : S → Y → List HA} (h : Exi K Q id E H o) : Exi K (nF K L Es Hs Q) id E H o := h
theorem cu {id : Nat} (h : Nrm K Q E H o) : Exi K (jE id Q) id E H o := fun r hr a w he hs => by
  show Exit.inBlock id (Q r) (.exit id) a w
  simp only [Exit.inBlock, if_true]
  exact h r hr a w he hs
def Rtn (K : Cx) (Q : cT R) (E : Env) (H : List HA) (o : Option R) : Prop := ∀ r, o = some r → ∀ a w, Has K.n K.ds E a → Sat K.W H w → Q r .ret a w
theorem aA (h : Rtn K Q E H o) : Sim K Q .ret E H o := fun r hr a w he hs => wpIn_ret (h r hr a w he hs)
theorem aK {c : Code} (h : Rtn K Q E H o) : Rtn K (iT K c Q) E H o := h
theorem bi {id : Nat} (h : Rtn K Q E H o) : Rtn K (jE id Q) E H o := h
theorem fb {L : S → Option R} {Es : S → Y → Env} {Hs : S → Y → List HA} (h : Rtn K Q E H o) : Rtn K (nF K L Es Hs Q) E H o := h
theorem fa {E2 : S → Y → Env} {H2 : S → Y → List HA} {r : R} (h : Rtn K Q E H (some r)) : Rtn K (rH K Q E2 H2) E H (some (.inr r)) := fun _ hr a w he hs => by
  cases hr
  exact h r rfl a w he hs
theorem aD {fn : Func} {val : R → Y → Value} {B : R → Y → List HA} {r : R} {vs : List Value} (y : Y) (hd : K.ds = []) (hres : iL fn.results.toList E = some vs) (hv : tup vs = val r y) (hH : Ent H (B r y)) :
    Rtn K (oi K fn val B) E H (some r) := fun r' hr a w he hs => pG (K := K) y hd hres hv hH r' hr a w he hs
theorem df {c : Code} {o' : Option R} (e : o = o') (h : Sim K Q c E H o') : Sim K Q c E H o := e ▸ h
theorem tF {o' : Option R} (e : o = o') (h : Nrm K Q E H o') : Nrm K Q E H o := e ▸ h
def cut {α : Type} (l : List α) (lo hi : Int) : List α := (l.take hi.toNat).drop lo.toNat
theorem fR {α : Type} {l : List α} {lo hi : Int} (h2 : hi ≤ l.length) : (cut l lo hi).length = hi.toNat - lo.toNat := by
  unfold cut; simp; omega
theorem Rd.sub {F : HA} {a : Option Addr} {l : List UInt8} (h : Rd F a (ax l)) (lo hi : Int) {c : Nat} (hc : hi.toNat ≤ c) : Rd F (if c = lo.toNat then a else a.map (·.add (lo.toNat * 1))) (ax (cut l lo hi)) := by
  by_cases e : c = lo.toNat
  · left
    unfold cut
    rw [List.drop_of_length_le (by simp; omega)]
    rfl
  · rw [if_neg e, Nat.mul_one]
    have := (h.take hi.toNat).drop lo.toNat
    rwa [jm, km] at this
theorem RE.quiet {v : Y → Value} {H' : Y → List HA} {u : Value} (h : RE K op E H v H') (hv : ∀ y, v y = u) (hH : ∀ y, Ent (H' y) H) : RQ K op E H u := h.rq hv hH
end
end Go.Proofs.YtndjkejhacfpdaaGreatDoor

namespace Go.Proofs.YtndjkejhacfpdaaGreatDoor
set_option linter.unusedVariables false
set_option linter.unusedSimpArgs false
open Go.RowKit
theorem aM {vs : List Value} (h : (vs.all fun v => v.oneCell') = true) : one vs := by
  intro v hv
  exact List.all_eq_true.1 h v hv
theorem Rd.pos {F : HA} {a : Option Addr} {cs : List Value} (h : Rd F a cs) (hn : cs ≠ []) : ∃ b off, a = some ⟨b, off, none⟩ := by
  rcases h with h | ⟨b, off, ha, _⟩
  · exact absurd h hn
  · exact ⟨b, off, ha⟩
theorem Rd.cell {F : HA} {a : Option Addr} {cs : List Value} (h : Rd F a cs) {H : List HA} {b off j : Nat} {v : Value} (k : Nat) (hk : H[k]? = some F) (ha : a = some ⟨b, off, none⟩) (hv : cs[j]? = some v) : dH H b (off + j) v := by
  rcases h with h | ⟨b', off', ha', hc⟩
  · subst h; simp at hv
  · rw [ha] at ha'; cases ha'
    refine .of k hk fun x hx => ?_
    obtain ⟨l, T, fz, h1, h2⟩ := hc x hx
    exact ⟨l, T, fz, h1, h2 j v hv⟩
theorem dH.row' {H : List HA} {T : TypeId} {sz n c b off j : Nat} {a : Option Addr} {cs : List Value} {v : Value} (k : Nat) (hk : H[k]? = some (Row T sz a n c cs)) (ha : a = some ⟨b, off, none⟩) (hv : cs[j]? = some v) : dH H b (off + j) v := by
  subst ha; exact .row k hk hv
theorem aE {E : Env} {t : Nat} {g : Bool} {v : Value} (h : lk E t = some (cv g v)) (hg : g = true) : lk E t = some v := by rw [h, hg]; rfl
def iw (l m : List UInt8) : List UInt8 := m.take l.length ++ l.drop m.length
theorem ib (l m : List UInt8) : (iw l m).length = l.length := by unfold iw; simp; omega
section
variable {K : Cx} {R S Y : Type} {Q : cT R} {E : Env} {H : List HA} {o : Option R} {ops : Array Oper} {rest : List Oper} {op : Oper}
theorem dG (n : Nat) (Y : Type) {l : List Oper} {o1 : Option S} {o2 : S → Option R} (E2 : S → Y → Env) (H2 : S → Y → List HA)
    (h1 : bP K (gX K E2 H2) ops (l.take n) E H o1) (h2 : ∀ s y, bP K Q ops (l.drop n) (E2 s y) (H2 s y) (o2 s)) : bP K Q ops l E H (o1.bind o2) := by
  have := rJ (ops := ops) (l1 := l.take n) (l2 := l.drop n) Y E2 H2 h1 h2
  rwa [List.take_append_drop] at this
theorem iV {p : Prop} [Decidable p] {o1 o2 : Option R} (h1 : decide p = true → bP K Q ops rest E H o1) (h2 : decide p = false → bP K Q ops rest E H o2) : bP K Q ops rest E H (if p then o1 else o2) :=
  gT (fun h => h1 (by simpa using h)) (fun h => h2 (by simpa using h))
theorem lS {p : Prop} [Decidable p] {o1 o2 : Option R} (h2 : (!decide p) = true → bP K Q ops rest E H o2) (h1 : (!decide p) = false → bP K Q ops rest E H o1) : bP K Q ops rest E H (if p then o1 else o2) :=
  gT (fun h => h1 (by simpa using h)) (fun h => h2 (by simpa using h))
theorem eS {b : Bool} {o1 o2 : Option R} (h1 : b = true → bP K Q ops rest E H o1) (h2 : b = false → bP K Q ops rest E H o2) : bP K Q ops rest E H (if b = true then o1 else o2) :=
  gT h1 (fun h => h2 (by simpa using h))
theorem hD {f : FuncId} {xs ys : List Operand} {us vs : List Value} (ho : op.op = .makeFunc (.func f) xs.toArray ys.toArray) (hx : evs xs E = some us) (hy : evs ys E = some vs) : RQ K op E H (.func (.func f) us.toArray vs.toArray) :=
  ck (by rw [ho]; intro c h; cases h) fun a w he _ => by
    unfold execOp; simp only [ho]
    have e1 : xs.toArray.map a.eval = us.toArray := by rw [← gR he xs us hx]; simp
    have e2 : ys.toArray.map a.eval = vs.toArray := by rw [← gR he ys vs hy]; simp
    simp [e1, e2, Instr.makeFunc]
theorem iv {b : BinOp} {xt : TypeId} {x y : Operand} {m n : Option Addr} (P : Program) (w : World) : (eqGuard b xt x y (.pointer m) (.pointer n)).run P w = .ok () w := by
  unfold eqGuard; cases b <;> rfl
theorem jw {t e : TypeId} {ad : Addr} (P : Program) (hu : P.underlying t = some (.pointer e)) (w : World) : (Op.equal t (.pointer (some ad)) (.pointer none)).run P w = .ok false w := by
  rw [show Op.equal t (.pointer (some ad)) (.pointer none) = Op.equalIn (9999 + 1) t (.pointer (some ad)) (.pointer none) from rfl, Op.equalIn]
  simp [underlying, program, Sem.run, hu]
theorem jr {xt yt e : TypeId} {x y : Operand} {ad : Addr} (ho : op.op = .binOp .eql xt x y yt) (hx : ev E x = some (.pointer (some ad))) (hy : ev E y = some (.pointer none)) (hu : K.P.underlying xt = some (.pointer e)) : RQ K op E H (.bool false) :=
  ck (by rw [ho]; intro c h; cases h) fun a w he _ => by
    unfold execOp; simp only [ho]; rw [he.ev hx, he.ev hy]
    simp [iv, binOp, jw K.P hu]
theorem ur {xt yt e : TypeId} {x y : Operand} {ad : Addr} (ho : op.op = .binOp .neq xt x y yt) (hx : ev E x = some (.pointer (some ad))) (hy : ev E y = some (.pointer none)) (hu : K.P.underlying xt = some (.pointer e)) : RQ K op E H (.bool true) :=
  ck (by rw [ho]; intro c h; cases h) fun a w he _ => by
    unfold execOp; simp only [ho]; rw [he.ev hx, he.ev hy]
    simp [iv, binOp, jw K.P hu]
/-! Rows of bytes. -/
theorem kc {v v2 : Y → Value} {H1 H2 : Y → List HA} (h : RE K op E H v H1) (hv : ∀ y, v y = v2 y) (hH : ∀ y, Ent (H1 y) (H2 y)) : RE K op E H v2 H2 :=
  fun a w he hs next Q hn => h a w he hs next Q fun y w' s => by rw [hv]; exact hn y w' (s.ent (hH y))
theorem Ent.set {l : List HA} {A B : HA} (k : Nat) (h : ∀ x, A x → B x) : Ent (l.set k A) (l.set k B) := by
  induction l generalizing k with
  | nil => exact Ent.refl _
  | cons C l ih =>
    cases k with
    | zero => exact fun x s => bQ x h (fun _ y => y) s
    | succ k => exact fun x s => bQ x (fun _ y => y) (ih k) s
theorem pd {T sz n n' c : Nat} {a : Option Addr} {cs cs' : List Value} (h1 : n = n') (h2 : cs = cs') : ∀ x, Row T sz a n c cs x → Row T sz a n' c cs' x := by
  subst h1; subst h2; exact fun _ x => x
theorem eG {x y : Operand} {t e : Nat} {zs : List Value} {a a2 : Option Addr} {c c2 : Nat} {l m : List UInt8} (k : Nat) (ho : op.op = .call { callee := .builtin .append, args := #[x, y], argTypes := #[t, t] })
    (hx : ev E x = some (.slice a l.length c)) (hy : ev E y = some (.slice a2 m.length c2)) (ht : K.P.underlying t = some (.slice e)) (hE : Elt K.P e 1 1 zs) (hk : H[k]? = some (Row e 1 a l.length c (ax l)))
    (hr : Rds (H.eraseIdx k) a2 (ax m)) (hb : (l.length + m.length) * 1 ≤ 140737488355328) :
    RE K (Y := Option Addr × Nat) op E H (fun y => .slice y.1 (l ++ m).length y.2) (fun y => H.set k (Row e 1 y.1 (l ++ m).length y.2 (ax (l ++ m)))) :=
  kc (mV k ho hx hy ht hE hk hr (by rw [cP, Nat.mul_one]) (nJ m) hb) (fun y => by simp) fun y => Ent.set k (pd (by simp) (by
    rw [kX, Nat.mul_one, List.take_of_length_le (by rw [cP]; exact Nat.le_refl _)]))
theorem jY {x y : Operand} {t e : Nat} {k k' : IntKind} {n c : Int} (ho : op.op = .makeSlice t x y) (hx : ev E x = some (.int k n)) (hy : ev E y = some (.int k' c)) (ht : K.P.underlying t = some (.slice e)) (hE : Elt K.P e 1 1 [.int .u8 0])
    (h0 : 0 ≤ n) (h1 : n ≤ c) (hb : c * 1 ≤ 140737488355328) :
    RE K (Y := Nat) op E H (fun b => .slice (some ⟨b, 0, none⟩) (List.replicate n.toNat (0 : UInt8)).length c.toNat) (fun b => Row e 1 (some ⟨b, 0, none⟩) (List.replicate n.toNat (0 : UInt8)).length c.toNat (ax (List.replicate n.toNat (0 : UInt8))) :: H) :=
  kc (sM ho hx hy ht hE h0 h1 hb) (fun y => by simp) fun y => Ent.sel' 0 rfl (fun h x => by
    rcases x with ⟨x, _⟩ | ⟨b, off, pre, junk, fz, e1, ok, hbk⟩
    · cases x
    · cases e1
      have hnc : n.toNat ≤ c.toNat := by omega
      have hl := ok.room
      have e2 : List.replicate c.toNat (Value.int .u8 0) = ax (List.replicate n.toNat (0 : UInt8)) ++ List.replicate (c.toNat - n.toNat) (Value.int .u8 0) := by
        rw [← qE, List.replicate_append_replicate]; congr 1; omega
      rw [e2] at hbk
      refine .inr ⟨_, _, pre, List.replicate (c.toNat - n.toNat) (Value.int .u8 0) ++ junk, fz, rfl, ⟨ok.offs, by simp; omega, ok.cap, by simp [cP]; omega, by simp [cP], by simp [cP]; omega, ok.fzok⟩, ?_⟩
      rw [hbk]
      simp) (Ent.refl _)
theorem mB {t e len : Nat} {l : List (Nat × Operand)} {vs : List (Nat × Value)} {cs : List Value} (bs : List UInt8) (ho : op.op = .buildSlice t len l.toArray) (hx : evP l E = some vs) (ht : K.P.underlying t = some (.slice e)) (hE : Elt K.P e 1 1 [.int .u8 0])
    (hb : Nat.ble (len * 1) 16777216 = true) (hf : Instr.fill (fun i => some (i * 1, 1)) ((Array.range (len * 1)).map ([Value.int .u8 0].toArray[· % [Value.int .u8 0].toArray.size]!)) vs = some cs.toArray) (h0 : Nat.blt 0 (len * 1) = true) (hl : bs.length = len) (heq : cs = ax bs) :
    RE K (Y := Nat) op E H (fun b => .slice (some ⟨b, 0, none⟩) bs.length len) (fun b => Row e 1 (some ⟨b, 0, none⟩) bs.length len (ax bs) :: H) :=
  kc (qF ho hx ht hE hb hf h0 (by rw [heq, cP, hl, Nat.mul_one])) (fun y => by rw [hl]) fun y => Ent.sel' 0 rfl (pd hl.symm heq) (Ent.refl _)
theorem sK {t e : Nat} (ho : op.op = .buildSlice t 0 [].toArray) (ht : K.P.underlying t = some (.slice e)) (hE : Elt K.P e 1 1 [.int .u8 0]) :
    RE K (Y := Nat) op E H (fun b => .slice (some ⟨b, 0, none⟩) ([] : List UInt8).length 0) (fun b => Row e 1 (some ⟨b, 0, none⟩) ([] : List UInt8).length 0 (ax ([] : List UInt8)) :: H) :=
  fu (by rw [ho]; intro c h; cases h) fun a' w he s => by
    obtain ⟨i, z, hi, hz, hsz, hby, hzs⟩ := hE.info
    refine ⟨w.heap.size, { w with heap := w.heap.push (.cells #[] e (0, 0)) }, ?_, (s.new _).ent (Ent.sel' 0 rfl ?_ (Ent.refl _))⟩
    · unfold execOp; simp only [ho]
      simp [Instr.buildSlice, underlying, program, Sem.run, ht, sizeOf, typeInfo, hi, newRow, newObj, Instr.fill]
      refine congrArg (fun x => w.alloc (.cells x e)) ?_
      apply Array.ext <;> simp
    · intro h x
      exact Row.mk (pre := []) (junk := []) (fz := (0, 0)) ⟨rfl, Nat.le_refl _, by simp [maxLen], by simp [ax], by simp, by simp [ax], Or.inl rfl⟩ h (by simpa [pts, ax] using x)
theorem sj {x y : Operand} {t t2 e : Nat} {zs : List Value} {a a2 : Option Addr} {c c2 : Nat} {l m : List UInt8} (k : Nat) (ho : op.op = .call { callee := .builtin .copy, args := #[x, y], argTypes := #[t, t2] })
    (hx : ev E x = some (.slice a l.length c)) (hy : ev E y = some (.slice a2 m.length c2)) (ht : K.P.underlying t = some (.slice e)) (hE : Elt K.P e 1 1 zs) (hk : H[k]? = some (Row e 1 a l.length c (ax l))) (hr : Rds H a2 (ax m)) :
    RE K (Y := Unit) op E H (fun _ => .int .i64 (min m.length l.length : Nat)) (fun _ => H.set k (Row e 1 a (iw l m).length c (ax (iw l m)))) :=
  kc (sG (news := ax (m.take l.length)) k ho hx hy ht hE hk (fun h s => by
    rcases hr h s with e | ⟨b, off, ha, l', T, fz, h1, h2⟩
    · left; rw [← jm, e]; simp
    · refine .inr ⟨b, off, ha, l', T, fz, h1, fun j v hj => h2 j v ?_⟩
      rw [← jm, List.getElem?_take] at hj
      split at hj
      · exact hj
      · cases hj) (by rw [cP, List.length_take, Nat.mul_one, Nat.min_comm]) (nJ _)) (fun _ => rfl) fun _ => Ent.set k (pd (ib l m).symm (by
    rw [gC _ _ _ (by simp [cP]; omega)]
    unfold iw
    rw [kX]
    simp only [List.take_zero, List.nil_append, Nat.zero_add, cP, List.length_take]
    rw [← km]
    congr 1
    by_cases h : l.length ≤ m.length
    · rw [Nat.min_eq_left h, List.drop_of_length_le (by rw [cP]; exact Nat.le_refl _), List.drop_of_length_le (by rw [cP]; exact h)]
    · rw [Nat.min_eq_right (by omega)]))
end
section
variable {K : Cx} {R S Y : Type} {Q : cT R} {E : Env} {H : List HA} {o : Option R} {ops : Array Oper} {rest : List Oper} {op : Oper} {cd : Code}
theorem il {T : TypeId} {sz n c : Nat} {a : Option Addr} {cs : List Value} (k : Nat) (hk : H[k]? = some (Row T sz a n c cs)) (h : Rd (Row T sz a n c cs) a cs → n ≤ c → c ≤ maxLen → n * sz ≤ cs.length → Sim K Q cd E H o) : Sim K Q cd E H o := by
  intro r hr a' w he hs
  exact bd (rest := []) (ops := #[]) (Q := fun r e a w => cd.wpIn (fen K.ro) 0 K.P (Q r) a w) k hk (fun h1 h2 h3 h4 r hr a w he hs => h h1 h2 h3 h4 r hr a w he hs) r hr a' w he hs
theorem lE {d : Nat} {v : Value} (v' : Value) (hx : lk E d = some v) (hv : v = v') (h : bP K Q ops rest ((d, v') :: E) H o) : bP K Q ops rest E H o := by
  intro r hr a w he hs
  refine h r hr a w ⟨he.size, he.defers, fun i u hu => ?_⟩ hs
  simp only [lk] at hu
  cases hb : Nat.beq d i with
  | true =>
    obtain rfl := Nat.eq_of_beq_eq_true hb
    rw [hb] at hu
    simp only [cond_true, Option.some.injEq] at hu
    rw [← hu, ← hv]
    exact he.get _ _ hx
  | false =>
    rw [hb] at hu
    exact he.get i u hu
theorem mF {a : Option Addr} {n n' c : Nat} (h : n = n') : Value.slice a n c = .slice a n' c := by rw [h]
theorem aO {j dj d : Nat} {want b : Bool} (hg : op.guard = some (j, want)) (hj : ((ops[j]?).bind (·.dst)) = some dj) (hb : lk E dj = some (.bool b)) (hw : (b == want) = false)
    (hd : op.dst = some d) (hn : Nat.blt d K.n = true) (h : bP K Q ops rest ((d, undef) :: E) H o) : bP K Q ops (op :: rest) E H o := by
  intro r hr' a w he hs
  refine wpListIn_step fun K' hK' => ?_
  rw [iD he hg hj hb, hw]
  simp only [Bool.false_eq_true, if_false]
  refine ⟨fun f _ => fv _ _, hK' _ _ ?_⟩
  rw [hd]
  exact h r hr' _ w (he.put undef hn) hs
theorem cO {j dj d : Nat} {want : Bool} (hg : op.guard = some (j, want)) (hj : ((ops[j]?).bind (·.dst)) = some dj) (hb : lk E dj = some undef)
    (hd : op.dst = some d) (hn : Nat.blt d K.n = true) (h : bP K Q ops rest ((d, undef) :: E) H o) : bP K Q ops (op :: rest) E H o := by
  intro r hr' a w he hs
  refine wpListIn_step fun K' hK' => ?_
  have : Region.wanted op (yielded ops a.tmps) = false := by
    simp only [Region.wanted, hg, yielded, hj, Option.bind_some, he.get _ _ hb]
    rfl
  rw [this]
  simp only [Bool.false_eq_true, if_false]
  refine ⟨fun f _ => fv _ _, hK' _ _ ?_⟩
  rw [hd]
  exact h r hr' _ w (he.put undef hn) hs
end
structure sh (a : Option Addr) (c : Nat) (lo : Int) (a' : Option Addr) (c' : Nat) : Prop where
  addr : a' = (if c = lo.toNat then a else a.map (·.add (lo.toNat * 1)))
  cap : c' = c - lo.toNat
theorem gu {F : HA} {a : Option Addr} {l : List UInt8} {c : Nat} {lo hi : Int} (hF : Rd F a (ax l)) (hcap : l.length ≤ c) (hb : 0 ≤ lo ∧ lo ≤ hi ∧ hi ≤ l.length) :
    ∃ a' c', sh a c lo a' c' ∧ Rd F a' (ax (cut l lo hi)) ∧ (cut l lo hi).length ≤ c' ∧ c' ≤ c :=
  ⟨_, _, ⟨rfl, rfl⟩, hF.sub lo hi (c := c) (by omega), by rw [fR hb.2.2]; omega, by omega⟩
section
variable {K : Cx} {R S Y : Type} {Q : cT R} {E : Env} {H : List HA} {o : Option R} {ops : Array Oper} {rest : List Oper} {op : Oper}
theorem ga {x : Operand} {t e : Nat} {lo hi : Option Operand} {a a' : Option Addr} {c c' : Nat} {l : List UInt8} {vl vh : Option Value} {lo' hi' : Int}
    (ho : op.op = .slice t x lo hi none) {n : Nat} (hx : ev E x = some (.slice a n c))
    (hl : lim E lo = some vl) (hh : lim E hi = some vh) (hu : K.P.underlying t = some (.slice e)) (hs : ∀ w, (sizeOf e).run K.P w = .ok 1 w)
    (h1 : (vh = none ∧ hi' = n) ∨ ∃ k, vh = some (.int k hi')) (h2 : (vl = none ∧ lo' = 0) ∨ ∃ k, vl = some (.int k lo')) (hb : 0 ≤ lo' ∧ lo' ≤ hi' ∧ hi' ≤ l.length) (hcap : l.length ≤ c) (hS : sh a c lo' a' c') :
    RQ K op E H (.slice a' (cut l lo' hi').length c') := by
  obtain ⟨b1, b2, b3⟩ := hb
  obtain ⟨rfl, rfl⟩ := hS
  obtain ⟨L, rfl⟩ := Int.eq_ofNat_of_zero_le b1
  obtain ⟨M, rfl⟩ := Int.eq_ofNat_of_zero_le (Int.le_trans b1 b2)
  have hlen := fR (l := l) (lo := (L : Int)) (hi := (M : Int)) b3
  simp only [Int.toNat_natCast] at hlen
  have q := pJ (K := K) (H := H) (o := op) (l := L) (h := M) ho hx hl hh hu hs (by rcases h1 with ⟨x, y⟩ | y; exact .inl ⟨x, by omega⟩; exact .inr y) (by rcases h2 with ⟨x, y⟩ | y; exact .inl ⟨x, by omega⟩; exact .inr y) (by omega) (by omega)
  rw [← hlen] at q
  simpa using q
end
theorem rz {t : Int} (h : 0 ≤ t ∧ t < 256) : [Value.int .u8 t] = ax [du t] := by simp [ax, gB h.1 h.2]
end Go.Proofs.YtndjkejhacfpdaaGreatDoor

namespace Go.Proofs.YtndjkejhacfpdaaGreatDoor
set_option linter.unusedVariables false
set_option linter.unusedSimpArgs false
open Go.RowKit

theorem pw {F : Fence} {n : Nat} {P : Program} {o : Oper} {a : Act} {Q : Exit → Act → World → Prop} {N1 N2 : Act → World → Prop} (h : ∀ a w, N1 a w → N2 a w) : ∀ r, o.uponIn F n P a N1 Q r → o.uponIn F n P a N2 Q r := by
  intro r hr
  cases r with
  | ok nxt w' =>
    cases nxt with
    | value v => exact h _ _ hr
    | skip => exact h _ _ hr
    | defer d => exact h _ _ hr
    | enter f args =>
      refine ⟨hr.1, hr.2.mono ?_⟩
      intro e w'' x
      cases e with
      | returned v => exact h _ _ x
      | panicked c => exact x
      | outgrown => exact x
    | row row args => exact ⟨hr.1, hr.2.mono fun v w'' x => h _ _ x⟩
    | round l f tmps assign body =>
      refine ⟨hr.1, hr.2.mono ?_⟩
      intro e w'' x
      cases e with
      | returned v => exact h _ _ x
      | panicked c => exact x
      | outgrown => exact x
    | _ => exact hr.elim
  | halt h w' => cases h <;> first | exact hr | exact hr.elim

def gn (ops : Array Oper) (i : Nat) : List Nat := ((ops[i]?).map fun o => (o.after.toList.filter (Region.binds .any)).map (·.on)).getD []
def dD (ops : Array Oper) (i : Nat) : Option Nat := (ops[i]?).bind (·.dst)
def fm (anc : List (List Nat)) (i : Nat) : List Nat := anc.getD i []
def qD (ops : Array Oper) : Bool := (List.range ops.size).all fun i => (gn ops i).all fun p => Nat.blt p i
def sE (ops : Array Oper) (anc : List (List Nat)) : Bool := (List.range ops.size).all fun i => (fm anc i).all fun p => (gn ops i).any fun q => Nat.beq q p || (fm anc q).contains p
theorem mH {ops : Array Oper} (h : qD ops = true) {i p : Nat} (hp : p ∈ gn ops i) : p < i := by
  by_cases hi : i < ops.size
  · have := List.all_eq_true.1 h i (by simpa using hi)
    have := List.all_eq_true.1 this p hp
    simpa [Nat.blt_eq] using this
  · have : ops[i]? = none := Array.getElem?_eq_none (by omega)
    simp [gn, this] at hp
theorem pf {ops : Array Oper} {anc : List (List Nat)} (ho : qD ops = true) (ha : sE ops anc = true) (hz : anc.length ≤ ops.size) {L : List Nat} (hc : ∀ i, i ∈ L → ∀ p, p ∈ gn ops i → p ∈ L) :
    ∀ i, (∀ p, p ∈ gn ops i → p ∈ L) → ∀ p, p ∈ fm anc i → p ∈ L := by
  intro i
  induction i using Nat.strongRecOn with
  | _ i ih =>
    intro hd p hp
    by_cases hi : i < ops.size
    · have := List.all_eq_true.1 ha i (by simpa using hi)
      have := List.all_eq_true.1 this p hp
      obtain ⟨q, hq, hqp⟩ := List.any_eq_true.1 this
      rw [Bool.or_eq_true] at hqp
      rcases hqp with e | e
      · obtain rfl := Nat.eq_of_beq_eq_true e
        exact hd _ hq
      · exact ih q (mH ho hq) (hc q (hd q hq)) p (by simpa using e)
    · have : fm anc i = [] := by
        unfold fm
        rw [List.getD_eq_getElem?_getD, List.getElem?_eq_none (by omega)]; rfl
      rw [this] at hp
      cases hp

/-! ### The orders that the edges allow -/
def go' (ops : Array Oper) : Nat → Nat → Array Bool → List Nat
  | 0, _, _ => []
  | fuel + 1, t, listed =>
    let rs := (List.range ops.size).filter fun i =>
      !listed.getD i true && ((ops[i]?).map (·.after.all fun e => !Region.binds .any e || listed.getD e.on false)).getD false
    match rs[t % rs.length]? with
    | some i => i :: go' ops fuel (t / rs.length) (listed.setIfInBounds i true)
    | none => []
theorem ut (ops : Array Oper) : ∀ fuel t listed acc, Region.linearise.go .any ops fuel t listed acc = acc.reverse ++ go' ops fuel t listed := by
  intro fuel
  induction fuel with
  | zero => intro t listed acc; simp [Region.linearise.go, go']
  | succ fuel ih =>
    intro t listed acc
    simp only [Region.linearise.go, go']
    split
    · rename_i i h
      simp only [h]
      rw [ih]
      simp
    · rename_i h
      simp only [h]
      simp
theorem sl (ops : Array Oper) (t : Nat) : Region.schedule true ops t = go' ops ops.size t (Array.replicate ops.size false) := by
  simp only [Region.schedule, Bool.true_or, if_true, Region.linearise]
  rw [ut]; simp

theorem sm {F : Fence} {n : Nat} {P : Program} {ops : Array Oper} {Q : Exit → Act → World → Prop} (Inv : List Nat → Act → World → Prop) (ho : qD ops = true)
    (hs : ∀ i o L a w, ops[i]? = some o → i ∉ L → (∀ p, p ∈ gn ops i → p ∈ L) → (∀ i, i ∈ L → ∀ p, p ∈ gn ops i → p ∈ L) → Inv L a w →
      if Region.wanted o (yielded ops a.tmps) then o.wpIn F n P a w (fun a' w' => Inv (i :: L) a' w') Q else (∀ f, o.about P w a.eval = some f → F.fn f) ∧ Inv (i :: L) (a.put o.dst undef) w)
    (he : ∀ L a w, (∀ i, i < ops.size → i ∈ L) → Inv L a w → Q .normal a w) :
    ∀ fuel t listed (L : List Nat) a w, listed.size = ops.size → (∀ i, i < ops.size → (listed.getD i false = true ↔ i ∈ L)) → (∀ i, i ∈ L → ∀ p, p ∈ gn ops i → p ∈ L) → (∀ i, i ∈ L → i < ops.size) →
      ((List.range ops.size).filter fun i => !listed.getD i false).length ≤ fuel → Inv L a w → wpOpsIn F n P ops Q (go' ops fuel t listed) a w := by
  intro fuel
  induction fuel with
  | zero =>
    intro t listed L a w hsz hl hc hb hf hi
    simp only [go', wpOpsIn]
    refine he L a w (fun i hi => ?_) hi
    have h0 : (List.range ops.size).filter (fun i => !listed.getD i false) = [] := List.eq_nil_of_length_eq_zero (by omega)
    rw [List.filter_eq_nil_iff] at h0
    have := h0 i (by simpa using hi)
    exact (hl i hi).1 (by simpa using this)
  | succ fuel ih =>
    intro t listed L a w hsz hl hc hb hf hi
    simp only [go']
    split
    · rename_i i h
      have hmem := List.mem_of_getElem? h
      rw [List.mem_filter] at hmem
      obtain ⟨hr, hcond⟩ := hmem
      have hilt : i < ops.size := by simpa using hr
      rw [Bool.and_eq_true] at hcond
      have hgd : listed.getD i true = listed.getD i false := by
        simp [Array.getD, hsz, hilt]
      have hnot : i ∉ L := by
        intro hx
        have := (hl i hilt).2 hx
        rw [hgd, this] at hcond
        simp at hcond
      have hoi : ops[i]? = some ops[i] := Array.getElem?_eq_getElem hilt
      have hpre : ∀ p, p ∈ gn ops i → p ∈ L := by
        intro p hp
        have h2 := hcond.2
        rw [hoi] at h2
        simp only [Option.map_some, Option.getD_some] at h2
        simp only [gn, hoi, Option.map_some, Option.getD_some, List.mem_map, List.mem_filter] at hp
        obtain ⟨e, ⟨he1, he2⟩, rfl⟩ := hp
        have h3 := Array.all_eq_true_iff_forall_mem.1 h2 e (by simpa using he1)
        rw [he2] at h3
        have hlt : e.on < ops.size := Nat.lt_trans (mH ho (i := i) (by simp only [gn, hoi, Option.map_some, Option.getD_some, List.mem_map, List.mem_filter]; exact ⟨e, ⟨he1, he2⟩, rfl⟩)) hilt
        exact (hl _ hlt).1 (by simpa using h3)
      have step := hs i ops[i] L a w hoi hnot hpre hc hi
      have nx : ∀ a' w', Inv (i :: L) a' w' → wpOpsIn F n P ops Q (go' ops fuel (t / ((List.range ops.size).filter fun i =>
          !listed.getD i true && ((ops[i]?).map (·.after.all fun e => !Region.binds .any e || listed.getD e.on false)).getD false).length) (listed.setIfInBounds i true)) a' w' := by
        intro a' w' hi'
        refine ih _ _ (i :: L) a' w' (by simp [hsz]) ?_ ?_ ?_ ?_ hi'
        · intro j hj
          simp only [Array.getD_eq_getD_getElem?, Array.getElem?_setIfInBounds]
          by_cases e : i = j
          · subst e; simp [hsz, hilt]
          · have hj2 := hl j hj
            simp only [Array.getD_eq_getD_getElem?] at hj2
            simp [e, hj2, Ne.symm e]
        · intro j hj p hp
          rcases List.mem_cons.1 hj with rfl | hj
          · exact List.mem_cons_of_mem _ (hpre p hp)
          · exact List.mem_cons_of_mem _ (hc j hj p hp)
        · intro j hj
          rcases List.mem_cons.1 hj with rfl | hj
          · exact hilt
          · exact hb j hj
        · have hlt : ((List.range ops.size).filter fun j => !(listed.setIfInBounds i true).getD j false).length < ((List.range ops.size).filter fun j => !listed.getD j false).length := by
            have e1 : ((List.range ops.size).filter fun j => !(listed.setIfInBounds i true).getD j false) = ((List.range ops.size).filter fun j => !listed.getD j false).filter fun j => !Nat.beq j i := by
              rw [List.filter_filter]
              apply List.filter_congr
              intro j hj
              simp only [Array.getD_eq_getD_getElem?, Array.getElem?_setIfInBounds]
              by_cases e : i = j
              · subst e; simp [hsz, hilt]
              · have : Nat.beq j i = false := by rw [Bool.eq_false_iff]; intro x; exact e (Nat.eq_of_beq_eq_true x).symm
                simp [e, this]
            rw [e1]
            have hin : i ∈ (List.range ops.size).filter fun j => !listed.getD j false := by
              rw [List.mem_filter]
              refine ⟨hr, ?_⟩
              rw [← hgd]; exact hcond.1
            exact List.length_filter_lt_length_iff_exists.2 ⟨i, hin, by simp⟩
          omega
      simp only [wpOpsIn, hoi]
      split
      · rename_i hw
        rw [if_pos hw] at step
        exact ⟨step.1, pw nx _ step.2⟩
      · rename_i hw
        rw [if_neg hw] at step
        exact ⟨step.1, nx _ _ step.2⟩
    · rename_i h
      -- nothing is ready: all is done
      refine he L a w (fun i hi => ?_) hi
      have hnil : ((List.range ops.size).filter fun i => !listed.getD i true && ((ops[i]?).map (·.after.all fun e => !Region.binds .any e || listed.getD e.on false)).getD false) = [] := by
        cases hrs : ((List.range ops.size).filter fun i => !listed.getD i true && ((ops[i]?).map (·.after.all fun e => !Region.binds .any e || listed.getD e.on false)).getD false) with
        | nil => rfl
        | cons x xs =>
          rw [hrs] at h
          rw [List.getElem?_eq_none_iff] at h
          have := Nat.mod_lt t (show 0 < (x :: xs).length by simp)
          omega
      rw [List.filter_eq_nil_iff] at hnil
      -- by induction every operation is listed
      have key : ∀ i, i < ops.size → i ∈ L := by
        intro i
        induction i using Nat.strongRecOn with
        | _ i ih2 =>
          intro hi
          have h1 := hnil i (by simpa using hi)
          refine Classical.byContradiction fun hno => h1 ?_
          have hgd : listed.getD i true = listed.getD i false := by simp [Array.getD, hsz, hi]
          have hf : listed.getD i false = false := by
            rw [Bool.eq_false_iff]; intro x; exact hno ((hl i hi).1 x)
          have hoi : ops[i]? = some ops[i] := Array.getElem?_eq_getElem hi
          rw [hgd, hf, hoi]
          simp only [Bool.not_false, Bool.true_and, Option.map_some, Option.getD_some]
          rw [Array.all_eq_true_iff_forall_mem]
          intro e he
          cases hb2 : Region.binds .any e with
          | false => rfl
          | true =>
            have hp : e.on ∈ gn ops i := by
              simp only [gn, hoi, Option.map_some, Option.getD_some, List.mem_map, List.mem_filter]
              exact ⟨e, ⟨by simpa using he, hb2⟩, rfl⟩
            have hlt := mH ho hp
            have := (hl _ (by omega)).2 (ih2 _ hlt (by omega))
            simp [this]
      exact key i hi

/-! ### The region as a step of a simulation -/
def All (l : List Nat) (p : Nat → Prop) : Prop :=
  match l with
  | [] => True
  | i :: l => p i ∧ All l p
theorem All.nil {p : Nat → Prop} : All [] p := trivial
theorem All.cons {l : List Nat} {p : Nat → Prop} {i : Nat} (h : p i) (r : All l p) : All (i :: l) p := ⟨h, r⟩
theorem All.mem {l : List Nat} {p : Nat → Prop} (h : All l p) {i : Nat} (hi : i ∈ l) : p i := by
  induction l with
  | nil => cases hi
  | cons j l ih =>
    rcases List.mem_cons.1 hi with rfl | hi
    · exact h.1
    · exact ih h.2 hi
def fE (l : List Nat) (f g : Nat → Value) : Prop :=
  match l with
  | [] => True
  | i :: l => f i = g i ∧ fE l f g
theorem fE.mem {l : List Nat} {f g : Nat → Value} (h : fE l f g) {i : Nat} (hi : i ∈ l) : f i = g i := by
  induction l with
  | nil => cases hi
  | cons j l ih =>
    rcases List.mem_cons.1 hi with rfl | hi
    · exact h.1
    · exact ih h.2 hi
def gz (ops : Array Oper) (val : Nat → Value) (E : Env) : List Nat → Env
  | [] => E
  | i :: L => match dD ops i with
    | some d => (d, val i) :: gz ops val E L
    | none => gz ops val E L
theorem mg {ops : Array Oper} {f g : Nat → Value} {E : Env} : ∀ L, (∀ i, i ∈ L → f i = g i) → gz ops f E L = gz ops g E L
  | [], _ => rfl
  | i :: L, h => by
    simp only [gz]
    rw [mg L (fun j hj => h j (List.mem_cons_of_mem _ hj)), h i List.mem_cons_self]
def mh (ops : Array Oper) : Bool := (List.range ops.size).all fun i => (List.range ops.size).all fun j => Nat.beq i j || (match dD ops i, dD ops j with | some a, some b => !Nat.beq a b | _, _ => true)
theorem tm {ops : Array Oper} (h : mh ops = true) {i j d : Nat} (hi : dD ops i = some d) (hj : dD ops j = some d) : i = j := by
  have li : i < ops.size := by
    refine Classical.byContradiction fun x => ?_
    have : ops[i]? = none := Array.getElem?_eq_none (by omega)
    simp [dD, this] at hi
  have lj : j < ops.size := by
    refine Classical.byContradiction fun x => ?_
    have : ops[j]? = none := Array.getElem?_eq_none (by omega)
    simp [dD, this] at hj
  have h1 := List.all_eq_true.1 h i (by simpa using li)
  have h2 := List.all_eq_true.1 h1 j (by simpa using lj)
  rw [hi, hj, Bool.or_eq_true] at h2
  rcases h2 with e | e
  · exact Nat.eq_of_beq_eq_true e
  · have : Nat.beq d d = true := by simp
    simp [this] at e
theorem kH {ops : Array Oper} (hd : mh ops = true) {val : Nat → Value} {E : Env} {p s : Nat} (hp : dD ops p = some s) : ∀ L, p ∈ L → lk (gz ops val E L) s = some (val p)
  | i :: L, h => by
    simp only [gz]
    cases hi : dD ops i with
    | none =>
      rcases List.mem_cons.1 h with rfl | h
      · rw [hi] at hp; cases hp
      · exact kH hd hp L h
    | some d =>
      simp only [lk]
      cases hb : Nat.beq d s with
      | true =>
        obtain rfl := Nat.eq_of_beq_eq_true hb
        rw [tm hd hi hp]; rfl
      | false =>
        rcases List.mem_cons.1 h with rfl | h
        · rw [hi] at hp; cases hp; simp at hb
        · simpa using kH hd hp L h
theorem mi {ops : Array Oper} {val : Nat → Value} {E : Env} {s : Nat} : ∀ L, (∀ i, i ∈ L → dD ops i ≠ some s) → lk (gz ops val E L) s = lk E s
  | [], _ => rfl
  | i :: L, h => by
    simp only [gz]
    have ih := mi (val := val) (E := E) L fun j hj => h j (List.mem_cons_of_mem _ hj)
    cases hi : dD ops i with
    | none => exact ih
    | some d =>
      simp only [lk]
      have : Nat.beq d s = false := by
        rw [Bool.eq_false_iff]; intro x
        obtain rfl := Nat.eq_of_beq_eq_true x
        exact h i List.mem_cons_self hi
      rw [this]; exact ih
inductive dq (ops : Array Oper) (anc : List (List Nat)) (val : Nat → Value) (E : Env) (i : Nat) : Env → Prop
  | nil : dq ops anc val E i []
  | w {l : Env} {s : Nat} {v : Value} (p : Nat) (hp : (fm anc i).contains p = true) (hd : dD ops p = some s) (hv : val p = v) (r : dq ops anc val E i l) : dq ops anc val E i ((s, v) :: l)
  | o {l : Env} {s : Nat} {v : Value} (h : lk E s = some v) (hw : ((List.range ops.size).all fun q => (match dD ops q with | some d => !Nat.beq d s | none => true) || Nat.beq q i || (fm anc q).contains i) = true) (r : dq ops anc val E i l) : dq ops anc val E i ((s, v) :: l)
theorem dq.sub {ops : Array Oper} {anc : List (List Nat)} {val : Nat → Value} {E : Env} {i : Nat} {Ei : Env} (h : dq ops anc val E i Ei) (hd : mh ops = true) {L : List Nat} (hi : i ∉ L) (hb : ∀ j, j ∈ L → j < ops.size)
    (h1 : ∀ p, p ∈ fm anc i → p ∈ L) (h2 : ∀ q, q ∈ L → ∀ p, p ∈ fm anc q → p ∈ L) : Sub Ei (gz ops val E L) := by
  induction h with
  | nil => trivial
  | w p hp hdst hv r ih => exact ⟨by rw [kH hd hdst L (h1 p (by simpa using hp)), hv], ih⟩
  | @o l s v h hw r ih =>
    refine ⟨?_, ih⟩
    rw [mi L fun q hq => ?_]
    · exact h
    · intro hds
      have := List.all_eq_true.1 hw q (by simpa using hb q hq)
      rw [hds] at this
      simp only [Bool.or_eq_true, Bool.not_eq_true', Nat.beq_eq] at this
      rcases this with (e | e) | e
      · simp at e
      · have e := Nat.eq_of_beq_eq_true (by simpa using e); subst e; exact hi hq
      · exact hi (h2 q hq i (by simpa using e))
section
variable {K : Cx} {R S Y : Type} {Q : cT R} {E : Env} {H : List HA} {o : Option R}
def QOb (K : Cx) (ops : Array Oper) (anc : List (List Nat)) (val : Nat → Value) (E : Env) (H : List HA) (i : Nat) : Prop :=
  ∃ op, ops[i]? = some op ∧ ∃ Ei, dq ops anc val E i Ei ∧
    ((op.guard = none ∧ RQ K op Ei H (val i)) ∨
     (∃ j want dj, op.guard = some (j, want) ∧ dD ops j = some dj ∧ ((∃ b v, lk Ei dj = some (.bool b) ∧ val i = cv (b == want) v ∧ ((b == want) = true → RQ K op Ei H v)) ∨ (lk Ei dj = some undef ∧ val i = undef))))
theorem QOb.plain {ops : Array Oper} {anc : List (List Nat)} {val : Nat → Value} {i : Nat} {op : Oper} {v : Value} (Ei : Env) (ho : ops[i]? = some op) (hg : op.guard = none) (he : dq ops anc val E i Ei) (h : RQ K op Ei H v) (hv : val i = v) : QOb K ops anc val E H i :=
  ⟨op, ho, Ei, he, .inl ⟨hg, by rw [hv]; exact h⟩⟩
theorem QOb.grd {ops : Array Oper} {anc : List (List Nat)} {val : Nat → Value} {i j dj : Nat} {want b : Bool} {v : Value} {op : Oper} (Ei : Env) (ho : ops[i]? = some op) (hg : op.guard = some (j, want)) (hj : dD ops j = some dj) (hb : lk Ei dj = some (.bool b))
    (he : dq ops anc val E i Ei) (h : (b == want) = true → RQ K op Ei H v) (hv : val i = cv (b == want) v) : QOb K ops anc val E H i :=
  ⟨op, ho, Ei, he, .inr ⟨j, want, dj, hg, hj, .inl ⟨b, v, hb, hv, h⟩⟩⟩
def GOk (ops : Array Oper) (op : Oper) (Ei : Env) : Prop :=
  op.guard = none ∨ ∃ j want dj b, op.guard = some (j, want) ∧ dD ops j = some dj ∧ lk Ei dj = some (.bool b) ∧ (b == want) = true
def EOb (K : Cx) (ops : Array Oper) (anc : List (List Nat)) {Γ : Type} (val : Γ → Nat → Value) (E : Env) (heap : Nat → Γ → List HA) (m i : Nat) (pre : List Nat) (γ : Γ) : Prop :=
  ∃ op, ops[i]? = some op ∧ ∃ Ei, dq ops anc (val γ) E i Ei ∧ GOk ops op Ei ∧
    RE K (Y := { γ' : Γ // fE pre (val γ') (val γ) }) op Ei (heap m γ) (fun γ' => val γ'.1 i) (fun γ' => heap (m + 1) γ'.1)
theorem EOb.gen {ops : Array Oper} {anc : List (List Nat)} {Γ Z : Type} {val : Γ → Nat → Value} {heap : Nat → Γ → List HA} {m i : Nat} {pre : List Nat} {γ : Γ} {op : Oper} {v : Z → Value} {H' : Z → List HA} (Ei : Env) (f : Z → Γ) (ho : ops[i]? = some op) (hg : GOk ops op Ei) (he : dq ops anc (val γ) E i Ei)
    (h : RE K (Y := Z) op Ei (heap m γ) v H') (ha : ∀ z, fE pre (val (f z)) (val γ)) (hv : ∀ z, op.dst = none ∨ v z = val (f z) i) (hH : ∀ z, Ent (H' z) (heap (m + 1) (f z))) : EOb K ops anc val E heap m i pre γ :=
  ⟨op, ho, Ei, he, hg, fun a w hh hs next Q hn => h a w hh hs next Q fun z w' s => by
    have := hn ⟨f z, ha z⟩ w' (s.ent (hH z))
    rcases hv z with e | e
    · rw [e] at this ⊢; exact this
    · rw [e]; exact this⟩
theorem EOb.mk {ops : Array Oper} {anc : List (List Nat)} {Γ Z : Type} {val : Γ → Nat → Value} {heap : Nat → Γ → List HA} {m i : Nat} {pre : List Nat} {γ : Γ} {op : Oper} {v : Z → Value} {H' : Z → List HA} (Ei : Env) (f : Z → Γ) (ho : ops[i]? = some op) (hg : op.guard = none) (he : dq ops anc (val γ) E i Ei)
    (h : RE K (Y := Z) op Ei (heap m γ) v H') (ha : ∀ z, fE pre (val (f z)) (val γ)) (hv : ∀ z, op.dst = none ∨ v z = val (f z) i) (hH : ∀ z, Ent (H' z) (heap (m + 1) (f z))) : EOb K ops anc val E heap m i pre γ :=
  EOb.gen Ei f ho (.inl hg) he h ha hv hH
theorem EOb.yes {ops : Array Oper} {anc : List (List Nat)} {Γ Z : Type} {val : Γ → Nat → Value} {heap : Nat → Γ → List HA} {m i : Nat} {pre : List Nat} {γ : Γ} {j dj : Nat} {want b : Bool} {op : Oper} {v : Z → Value} {H' : Z → List HA} (Ei : Env) (f : Z → Γ) (ho : ops[i]? = some op) (hg : op.guard = some (j, want)) (hj : dD ops j = some dj) (hb : lk Ei dj = some (.bool b)) (hw : (b == want) = true) (he : dq ops anc (val γ) E i Ei)
    (h : RE K (Y := Z) op Ei (heap m γ) v H') (ha : ∀ z, fE pre (val (f z)) (val γ)) (hv : ∀ z, op.dst = none ∨ v z = val (f z) i) (hH : ∀ z, Ent (H' z) (heap (m + 1) (f z))) : EOb K ops anc val E heap m i pre γ :=
  EOb.gen Ei f ho (.inr ⟨j, want, dj, b, hg, hj, hb, hw⟩) he h ha hv hH
def rB (ops : Array Oper) (anc : List (List Nat)) (i : Nat) (pre : List Nat) : Bool := (List.range ops.size).all fun q => pre.contains q || Nat.beq q i || (fm anc q).contains i
def tn (ops : Array Oper) (anc : List (List Nat)) (effs : List Nat) (i : Nat) (rng : List Nat) : Bool :=
  (List.range (effs.length + 1)).all fun j => rng.contains j || (effs.zipIdx.any fun em => ((fm anc i).contains em.1 && Nat.ble j em.2) || ((fm anc em.1).contains i && Nat.blt em.2 j))
def tq (anc : List (List Nat)) (effs : List Nat) : Bool := (effs.zipIdx.all fun a => effs.zipIdx.all fun b => Nat.ble b.2 a.2 || (fm anc b.1).contains a.1)
theorem sn {ops : Array Oper} (hd : mh ops = true) {val : Nat → Value} {E : Env} {L L' : List Nat} (h : ∀ i, i < ops.size → i ∈ L) (h' : ∀ i, i < ops.size → i ∈ L') (s : Nat) : lk (gz ops val E L) s = lk (gz ops val E L') s := by
  by_cases hw : ∃ p, dD ops p = some s
  · obtain ⟨p, hp⟩ := hw
    have lp : p < ops.size := by
      refine Classical.byContradiction fun x => ?_
      have : ops[p]? = none := Array.getElem?_eq_none (by omega)
      simp [dD, this] at hp
    rw [kH hd hp L (h p lp), kH hd hp L' (h' p lp)]
  · rw [mi L fun i _ e => hw ⟨i, e⟩, mi L' fun i _ e => hw ⟨i, e⟩]
theorem Sub.congr {E E' : Env} (h : ∀ s, lk E s = lk E' s) : ∀ {D : Env}, Sub D E → Sub D E'
  | [], _ => trivial
  | (i, v) :: D, ⟨x, y⟩ => ⟨by rw [← h]; exact x, Sub.congr h y⟩
theorem mj {ops : Array Oper} {i : Nat} {o : Oper} (h : ops[i]? = some o) : i < ops.size := (Array.getElem?_eq_some_iff.1 h).1
theorem tr {n : Nat} {ds : List Deferred} {ops : Array Oper} {op : Oper} {Ei : Env} {a : Act} (h : Has n ds Ei a) (hg : GOk ops op Ei) : Region.wanted op (yielded ops a.tmps) = true := by
  rcases hg with hg | ⟨j, want, dj, b, hg, hj, hb, hw⟩
  · simp [Region.wanted, hg]
  · rw [iD h hg hj hb]; exact hw
theorem bb {Γ : Type} {id : Nat} {l : List Oper} (γ0 : Γ) (anc : List (List Nat)) (effs quiets : List Nat) (rng : Nat → List Nat) (pre : Nat → List Nat) (val : Γ → Nat → Value) (heap : Nat → Γ → List HA) (E2 : Γ → Env)
    (hmix : K.P.follows .mixedOrders = true)
    (hon : qD l.toArray = true) (hanc : sE l.toArray anc = true) (hal : Nat.ble anc.length l.length = true) (hdst : mh l.toArray = true) (hchain : tq anc effs = true)
    (hall : ((List.range l.length).all fun i => effs.contains i || quiets.contains i) = true) (hnd : (effs.zipIdx.all fun a => effs.zipIdx.all fun b => Nat.beq a.2 b.2 || !Nat.beq a.1 b.1) = true)
    (nn : Nat) (hnn : K.n = nn) (hdn : ((List.range l.length).all fun i => match dD l.toArray i with | some d => Nat.blt d nn | none => true) = true)
    (hrng : (quiets.all fun i => tn l.toArray anc effs i (rng i)) = true)
    (hpre' : (effs.all fun i => rB l.toArray anc i (pre i)) = true)
    (h0 : Ent H (heap 0 γ0))
    (hq : All quiets fun i => ∀ γ, All (rng i) fun j => QOb K l.toArray anc (val γ) E (heap j γ) i)
    (he : All (List.range effs.length) fun m => ∀ γ, EOb K l.toArray anc val E heap m (effs.getD m 0) (pre (effs.getD m 0)) γ)
    (hE : ∀ γ, Sub (E2 γ) (gz l.toArray (val γ) E (List.range l.length).reverse))
    (h : ∀ γ, Nrm K Q (E2 γ) (heap effs.length γ) o) : Sim K Q (.region id l.toArray true) E H o := by
  intro r hr a w hh hs
  refine wpIn_region_draw (fun t => ?_)
  rw [hmix, sl]
  have hsz : l.toArray.size = l.length := by simp
  have hal' : anc.length ≤ l.toArray.size := by rw [hsz]; simpa [Nat.ble_eq] using hal
  refine sm (F := fen K.ro) (n := 0) (P := K.P) (Q := Q r)
    (fun L a w => ∃ γ j, j ≤ effs.length ∧ (∀ i, i ∈ L → i < l.toArray.size) ∧ (∀ m e, effs[m]? = some e → (e ∈ L ↔ m < j)) ∧ Has K.n K.ds (gz l.toArray (val γ) E L) a ∧ Sat K.W (heap j γ) w)
    hon ?_ ?_ l.toArray.size t (Array.replicate l.toArray.size false) [] a { w with drawn := w.drawn + 1 } (by simp) (by intro i hi; simp only [Array.getD_eq_getD_getElem?, Array.getElem?_replicate]; split <;> simp) (by intro i hi; cases hi) (by intro i hi; cases hi)
    (by refine Nat.le_trans (List.length_filter_le _ _) (by simp)) ⟨γ0, 0, Nat.zero_le _, (by intro i hi; cases hi), (by intro m e _; simp), hh, (hs.drew _).ent h0⟩
  · -- a step
    rintro i op L a w hoi hno hpre hcl ⟨γ, j, hj, hb, hst, hhas, hsat⟩
    have hi : i < l.toArray.size := mj hoi
    have hil : i < l.length := by rwa [hsz] at hi
    have h1 : ∀ p, p ∈ fm anc i → p ∈ L := pf hon hanc hal' hcl i hpre
    have h2 : ∀ q, q ∈ L → ∀ p, p ∈ fm anc q → p ∈ L := fun q hq => pf hon hanc hal' hcl q (hcl q hq)
    have hbl : ∀ q, q ∈ i :: L → q < l.toArray.size := by
      intro q hq
      rcases List.mem_cons.1 hq with rfl | hq
      · exact hi
      · exact hb q hq
    have hput : ∀ (γ' : Γ) (a' : Act) (v : Value), Has K.n K.ds (gz l.toArray (val γ') E L) a' → v = val γ' i ∨ op.dst = none → Has K.n K.ds (gz l.toArray (val γ') E (i :: L)) (a'.put op.dst v) := by
      intro γ' a' v hx hv
      simp only [gz, dD, hoi, Option.bind_some]
      cases hd : op.dst with
      | none => exact hx
      | some d =>
        rcases hv with rfl | hv
        · refine hx.put _ ?_
          have := List.all_eq_true.1 hdn i (by simpa using hil)
          rw [hnn]
          simpa [dD, hoi, hd] using this
        · rw [hd] at hv; cases hv
    by_cases hef : i ∈ effs
    · obtain ⟨m, hm⟩ := List.mem_iff_getElem?.1 hef
      have hml : m < effs.length := (List.getElem?_eq_some_iff.1 hm).1
      have hjm : j = m := by
        have c1 : ¬ m < j := fun x => hno ((hst m i hm).2 x)
        refine Classical.byContradiction fun hne => ?_
        have c2 : j < m := by omega
        have hj2 : effs[j]? = some (effs[j]'(by omega)) := List.getElem?_eq_getElem (by omega)
        have hch := List.all_eq_true.1 hchain (effs[j]'(by omega), j) (by rw [List.mem_zipIdx_iff_getElem?]; exact hj2)
        have hch := List.all_eq_true.1 hch (i, m) (by rw [List.mem_zipIdx_iff_getElem?]; exact hm)
        rw [Bool.or_eq_true] at hch
        rcases hch with e | e
        · have := Nat.le_of_ble_eq_true e; simp at this; omega
        · have := h1 _ (by simpa using e)
          have := (hst j _ hj2).1 this
          omega
      subst hjm
      have hgd : effs.getD j 0 = i := by rw [List.getD_eq_getElem?_getD, hm]; rfl
      obtain ⟨op', ho', Ei, hEi, hg, hre⟩ := he.mem (i := j) (by simpa using hml) γ
      rw [hgd] at ho' hEi hre
      rw [hoi] at ho'
      cases ho'
      have hEnv : Has K.n K.ds Ei a := hhas.sub (hEi.sub hdst hno hb h1 h2)
      rw [if_pos (tr hEnv hg)]
      refine hre a w hEnv hsat _ _ ?_
      rintro ⟨γ', hag⟩ w' s'
      refine ⟨γ', j + 1, hml, hbl, ?_, ?_, s'⟩
      · intro m' e' he'
        rw [List.mem_cons]
        by_cases hmm : m' = j
        · subst hmm
          rw [hm] at he'; cases he'
          simp
        · have hne : e' ≠ i := by
            intro x
            rw [x] at he'
            have x1 := List.all_eq_true.1 hnd (i, j) (by rw [List.mem_zipIdx_iff_getElem?]; exact hm)
            have x1 := List.all_eq_true.1 x1 (i, m') (by rw [List.mem_zipIdx_iff_getElem?]; exact he')
            rw [Bool.or_eq_true] at x1
            rcases x1 with y | y
            · exact hmm (Nat.eq_of_beq_eq_true y).symm
            · simp at y
          rw [hst m' e' he']
          constructor
          · rintro (x | x)
            · exact absurd x hne
            · omega
          · intro x; right; omega
      · refine hput γ' a _ ?_ (.inl rfl)
        rw [mg (f := val γ') (g := val γ) L fun q hq => ?_]
        · exact hhas
        · refine hag.mem ?_
          have hnb := List.all_eq_true.1 hpre' i (by simpa using hef)
          have := List.all_eq_true.1 hnb q (by simpa using hb q hq)
          rw [Bool.or_eq_true, Bool.or_eq_true] at this
          rcases this with (e | e) | e
          · simpa using e
          · obtain rfl := Nat.eq_of_beq_eq_true e
            exact absurd hq hno
          · exact absurd (h2 q hq i (by simpa using e)) hno
    · have hqi : i ∈ quiets := by
        have := List.all_eq_true.1 hall i (by simpa using hil)
        rw [Bool.or_eq_true] at this
        rcases this with e | e
        · exact absurd (by simpa using e) hef
        · simpa using e
      have hjr : j ∈ rng i := by
        have := List.all_eq_true.1 hrng i hqi
        have := List.all_eq_true.1 this j (by simp; omega)
        rw [Bool.or_eq_true] at this
        rcases this with e | e
        · simpa using e
        · obtain ⟨⟨e, m⟩, hmem, hc⟩ := List.any_eq_true.1 e
          rw [List.mem_zipIdx_iff_getElem?] at hmem
          rw [Bool.or_eq_true, Bool.and_eq_true, Bool.and_eq_true] at hc
          rcases hc with ⟨x, y⟩ | ⟨x, y⟩
          · have hx := h1 e (by simpa using x)
            have := (hst m e hmem).1 hx
            have := Nat.le_of_ble_eq_true y
            simp at this; omega
          · have hy : m < j := by simpa [Nat.blt_eq] using y
            have he2 := (hst m e hmem).2 hy
            exact absurd (h2 e he2 i (by simpa using x)) hno
      obtain ⟨op', ho', Ei, hEi, hcase⟩ := (hq.mem hqi γ).mem hjr
      rw [hoi] at ho'
      cases ho'
      have hEnv : Has K.n K.ds Ei a := hhas.sub (hEi.sub hdst hno hb h1 h2)
      have hst' : ∀ m e, effs[m]? = some e → (e ∈ i :: L ↔ m < j) := by
        intro m e hme
        rw [List.mem_cons, hst m e hme]
        constructor
        · rintro (x | x)
          · subst x
            exact absurd (List.mem_of_getElem? hme) hef
          · exact x
        · exact fun x => .inr x
      rcases hcase with ⟨hg, hrq⟩ | ⟨jg, want, dj, hg, hdj, hc2⟩
      · rw [if_pos (by simp [Region.wanted, hg])]
        refine hrq a w hEnv hsat _ _ fun w' s' => ⟨γ, j, hj, hbl, hst', hput γ a _ hhas (.inl rfl), s'⟩
      · rcases hc2 with ⟨b, v, hbv, hvi, hrq⟩ | ⟨hu, hvi⟩
        · rw [iD hEnv hg hdj hbv]
          cases hbw : (b == want) with
          | true =>
            rw [hbw] at hvi
            simp only [if_true]
            refine hrq hbw a w hEnv hsat _ _ fun w' s' => ⟨γ, j, hj, hbl, hst', hput γ a _ hhas (.inl hvi.symm), s'⟩
          | false =>
            rw [hbw] at hvi
            simp only [Bool.false_eq_true, if_false]
            exact ⟨fun f _ => fv _ _, γ, j, hj, hbl, hst', hput γ a _ hhas (.inl hvi.symm), hsat⟩
        · have hnw : Region.wanted op (yielded l.toArray a.tmps) = false := by
            simp only [Region.wanted, hg, yielded]
            rw [show ((l.toArray)[jg]?.bind (·.dst)) = some dj from hdj]
            simp [hEnv.get _ _ hu, undef]
          rw [hnw]
          simp only [Bool.false_eq_true, if_false]
          exact ⟨fun f _ => fv _ _, γ, j, hj, hbl, hst', hput γ a _ hhas (.inl hvi.symm), hsat⟩
  · -- the end
    rintro L a w hL ⟨γ, j, hj, hb, hst, hhas, hsat⟩
    have hjl : j = effs.length := by
      refine Classical.byContradiction fun hne => ?_
      have hlt : j < effs.length := by omega
      have hj2 : effs[j]? = some (effs[j]'hlt) := List.getElem?_eq_getElem hlt
      obtain ⟨op', ho', _⟩ := he.mem (i := j) (by simpa using hlt) γ
      rw [List.getD_eq_getElem?_getD, hj2] at ho'
      have := (hst j _ hj2).1 (hL _ (mj ho'))
      omega
    subst hjl
    refine h γ r hr a w (hhas.sub ((hE γ).congr fun s => ?_)) hsat
    exact sn hdst (fun i hi => by simpa using hi) hL s
end
end Go.Proofs.YtndjkejhacfpdaaGreatDoor

namespace Go.Proofs.YtndjkejhacfpdaaGreatDoor
set_option linter.unusedVariables false
set_option linter.unusedSimpArgs false
open Go.RowKit

/-! ### 1. Marks -/
def mkD (D : Nat) : Deferred := { target := .collected D, args := #[] }
def gD (D : Nat) : HA := pts D (.deferred (some []))
theorem pI {P : Program} {fn : Func} {tmps : Array Value} {R : Ending → World → Prop} {W : World} {B : List HA}
    (hR : ∀ w, Sat W B w → ∃ v, (results fn tmps).run P w = .ok v w ∧ R (.returned v) w) : ∀ (Ds : List Nat) (w : World), Sat W (Ds.map gD ++ B) w → LeavesInM Fence.wide 0 P fn tmps R (Ds.map mkD) .returning w
  | [], w, s => hR w s
  | D :: Ds, w, s => ⟨by simp, .inl ⟨D, _, rfl, run_takeDeferred (s.pts_at (i := 0) rfl), pI hR Ds _ ((s.upd (b := D) (o' := .deferred none)).ent (Ent.drop (Ent.refl _)))⟩⟩
def ql (K : Cx) {R Y : Type} (fn : Func) (val : R → Y → Value) (B : R → Y → List HA) : cT R := fun r e a w =>
  bodyPostM Fence.wide 0 K.P fn (fun e w' => ∃ y, e = .returned (val r y) ∧ Sat K.W (B r y) w') e a w
section
variable {K : Cx} {R S Y : Type} {Q : cT R} {E : Env} {H : List HA} {o : Option R}
theorem tE {fn : Func} {val : R → Y → Value} {B : R → Y → List HA} {r : R} {vs : List Value} (Ds : List Nat) (y : Y) (hd : K.ds = Ds.map mkD) (hres : iL fn.results.toList E = some vs) (hv : tup vs = val r y) (hH : Ent H (Ds.map gD ++ B r y)) :
    ∀ r', some r = some r' → ∀ a w, Has K.n K.ds E a → Sat K.W H w → LeavesInM Fence.wide 0 K.P fn a.tmps (fun e w' => ∃ y, e = .returned (val r' y) ∧ Sat K.W (B r' y) w') a.defers .returning w := by
  intro r' hr a w he hs
  cases hr
  rw [he.defers, hd]
  exact pI (B := B r y) (fun w s => ⟨_, lO he hres, y, by rw [hv], s⟩) Ds w (hs.ent hH)
theorem sQ {fn : Func} {val : R → Y → Value} {B : R → Y → List HA} {r : R} {vs : List Value} (Ds : List Nat) (y : Y) (hd : K.ds = Ds.map mkD) (hres : iL fn.results.toList E = some vs) (hv : tup vs = val r y) (hH : Ent H (Ds.map gD ++ B r y)) :
    Nrm K (ql K fn val B) E H (some r) := fun r' hr a w he hs => tE Ds y hd hres hv hH r' hr a w he hs
theorem kS {fn : Func} {val : R → Y → Value} {B : R → Y → List HA} {r : R} {vs : List Value} (Ds : List Nat) (y : Y) (hd : K.ds = Ds.map mkD) (hres : iL fn.results.toList E = some vs) (hv : tup vs = val r y) (hH : Ent H (Ds.map gD ++ B r y)) :
    Rtn K (ql K fn val B) E H (some r) := fun r' hr a w he hs => tE Ds y hd hres hv hH r' hr a w he hs
theorem na {P : Program} {W : World} {f : FuncId} {args : List Value} {A : List HA} {F : HA} {o : Option R} {val : R → Y → Value} {B : R → Y → List HA}
    {fn : Func} {c : Code} (n : Nat) (hf : P.funcs[f]? = some fn) (hb : fn.body = some c) (hn : fn.ntmps = n) (hl : Nat.ble args.length n = true)
    (h : Sim ⟨P, W, none, n, []⟩ (ql ⟨P, W, none, n, []⟩ fn val fun r y => B r y ++ [F]) c (jO 0 args) (A ++ [F]) o) : Fn P W f args A F o val B := by
  intro r hr w hs
  refine (callsIn_wide (n := 0)).1 (callsIn_of_wp_marks hf hb trivial ?_ rfl)
  have := h r hr _ w (jP args n (by simpa [Nat.ble_eq] using hl)) hs
  rw [hn]
  exact this
end

/-! ### 2. Rounds and iterators -/
def js {α S : Type} (step : S → α → Option S) : S → List α → Option S
  | s, [] => some s
  | s, x :: xs => (step s x).bind fun s' => js step s' xs
def jc (ps : List Nat) (vs : List Value) (t : Array Value) : Array Value := (ps.zip vs).foldl (fun tmps (t, a) => tmps.setIfInBounds t a) t
theorem mJ (ps : Array Nat) (vs : List Value) (t : Array Value) : (ps.zip vs.toArray).foldl (fun tmps (t, a) => tmps.setIfInBounds t a) t = jc ps.toList vs t := by
  unfold jc
  rw [← Array.foldl_toList]
  simp
def mz (P : Program) (W : World) (l : Nat) (rec : Loop) {α S Y : Type} (enc : α → List Value) (step : S → α → Option S) (Inv : S → Y → List HA) : Prop :=
  ∀ s x s' y (Fr : HA) w, step s x = some s' → Sat W (pts l (.loop rec) :: (Inv s y ++ [Fr])) w →
    RoundIn Fence.wide 0 P l rec.fn (jc rec.params.toList (enc x) rec.tmps) rec.assign rec.body w fun e w' => e = .returned (.bool true) ∧ ∃ y', Sat W (pts l (.loop rec) :: (Inv s' y' ++ [Fr])) w'
def kT (P : Program) (W : World) (l : Nat) {α S Y : Type} (enc : α → List Value) (step : S → α → Option S) (A : S → Y → HA) : Prop :=
  ∀ s x s' y (Fr : HA) w, step s x = some s' → Sat W [A s y, Fr] w → ∃ f tmps assign body, (Instr.yield l (enc x).toArray).run P w = .ok (.round l f tmps assign body) w ∧
    RoundIn Fence.wide 0 P l f tmps assign body w fun e w' => e = .returned (.bool true) ∧ ∃ y', Sat W [A s' y', Fr] w'
def itA (l : Nat) (rec : Loop) {S Y : Type} (Inv : S → Y → List HA) (s : S) (y : Y) : HA := aP (pts l (.loop rec) :: Inv s y)
theorem qH (L : List HA) (Fr : HA) : Ent (L ++ [Fr]) [aP L, Fr] := fun h s =>
  (ca [aP L] [Fr] h).2 (bQ h (fun _ x => gQ x) (fun _ x => x) ((ca _ _ h).1 s))
theorem jK (L m : List HA) : Ent (aP L :: m) (L ++ m) := fun h s => (ca _ _ h).2 s
theorem qo {P : Program} {W : World} {l : Nat} {rec : Loop} {α S Y : Type} {enc : α → List Value} {step : S → α → Option S} {Inv : S → Y → List HA} (hR : mz P W l rec enc step Inv) (hp : ∀ x, (enc x).length = rec.params.size) :
    kT P W l enc step (itA l rec Inv) := by
  intro s x s' y Fr w hs hsat
  have s2 : Sat W (pts l (.loop rec) :: (Inv s y ++ [Fr])) w := hsat.ent (jK _ _)
  refine ⟨_, _, _, _, by rw [run_yield (s2.pts_at (i := 0) rfl) (by simpa using hp x), mJ], ?_⟩
  refine RoundIn.mono (hR s x s' y Fr w hs s2) ?_
  rintro e w' ⟨h1, y', s3⟩
  exact ⟨h1, y', s3.ent (qH (pts l (.loop rec) :: Inv s' y') Fr)⟩
theorem jL (A : HA) (I : List HA) (Fr : HA) : Ent (A :: (I ++ [Fr])) (I ++ [aP [A, Fr]]) := fun h s => by
  refine (ca _ _ h).2 ?_
  have s : aS A (aP (I ++ [Fr])) h := s
  have s2 : aS A (aS (aP I) (aP [Fr])) h := bQ h (fun _ x => x) (fun h x => (ca _ _ h).1 x) s
  rw [← aW, dv A, aW] at s2
  exact bQ h (fun _ x => x) (fun h x => gQ x) s2
theorem iR (A : HA) (I : List HA) (Fr : HA) : Ent (I ++ [aP [A, Fr]]) (A :: (I ++ [Fr])) := fun h s => by
  have s := (ca _ _ h).1 s
  have s2 : aS (aP I) (aS A (aP [Fr])) h := bQ h (fun _ x => x) (fun h (x : aS (aP [A, Fr]) tt h) => by
    rw [dv] at x
    exact dE [A, Fr] tt h x) s
  rw [← aW, dv _ A, aW] at s2
  exact bQ h (fun _ x => x) (fun h x => (ca _ _ h).2 x) s2
def kn : List Nat → List Value → Env → Env
  | p :: ps, v :: vs, E => kn ps vs ((p, v) :: E)
  | _, _, E => E
theorem nN : ∀ (ps : List Nat) (vs : List Value) {n : Nat} {E : Env} {t : Array Value}, (∀ p ∈ ps, p < n) → ps.length = vs.length → Has n [] E { tmps := t, defers := [] } → Has n [] (kn ps vs E) { tmps := jc ps vs t, defers := [] }
  | [], [], n, E, t, _, _, h => by simpa [kn, jc] using h
  | p :: ps, v :: vs, n, E, t, hp, hl, h => by
    have h2 : Has n [] ((p, v) :: E) { tmps := t.setIfInBounds p v, defers := [] } := h.put v (by simpa [Nat.blt_eq] using hp p (by simp))
    have := nN ps vs (fun q hq => hp q (by simp [hq])) (by simpa using hl) h2
    simpa [kn, jc] using this
  | [], _ :: _, _, _, _, _, hl, _ => by simp at hl
  | _ :: _, [], _, _, _, _, hl, _ => by simp at hl
section
variable {K : Cx} {R S Y α : Type} {Q : cT R} {E : Env} {H : List HA} {o : Option R}
theorem qq {W : World} {P : Program} {n : Nat} {l : Nat} {rec : Loop} {ps : List Nat} {enc : α → List Value} {step : S → α → Option S} {Inv : S → Y → List HA} (Eb : S → α → Y → Env) {a : Act} {ds : List Deferred}
    (he : Has n ds E a) (h1 : rec.tmps = a.tmps) (h2 : rec.params = ps.toArray) (h3 : rec.state = .ready) (h4 : rec.pending = none) (hps : ∀ p ∈ ps, p < n) (hen : ∀ x, ps.length = (enc x).length)
    (hA : ∀ s x y Fr, Sim ⟨P, W, some l, n, []⟩ (gX ⟨P, W, some l, n, []⟩ (fun (_ : Unit) (_ : Unit) => Eb s x y) (fun _ _ => Inv s y ++ [Fr])) rec.assign (kn ps (enc x) E) (Inv s y ++ [Fr]) (some ()))
    (hB : ∀ s x y Fr, Sim ⟨P, W, some l, n, []⟩ (gX ⟨P, W, some l, n, []⟩ (fun (_ : S) (_ : Y) => []) (fun s y => Inv s y ++ [Fr])) rec.body (Eb s x y) (Inv s y ++ [Fr]) (step s x)) :
    mz P W l rec enc step Inv := by
  intro s x s' y Fr w hst hs
  refine roundIn_of_wpIn trivial ?_
  have h0 : Has n [] E { tmps := rec.tmps, defers := [] } := ⟨by rw [h1]; exact he.size, rfl, fun i v h => by rw [h1]; exact he.get i v h⟩
  have hin := nN ps (enc x) hps (hen x) h0
  have e2 : rec.params.toList = ps := by rw [h2]
  rw [e2]
  refine wpIn_mono (hA s x y (aP [pts l (.loop rec), Fr]) () rfl _ w hin (hs.ent (jL _ _ _))) ?_
  intro e a1 w1 hq
  cases e with
  | normal =>
    obtain ⟨_, x1, x2⟩ := hq
    have x3 := x2.ent (iR _ _ _)
    have hl := x3.pts_at (i := 0) rfl
    refine ⟨_, run_beginRound hl h3, ?_⟩
    have x4 : Sat W (pts l (.loop { rec with state := .busy }) :: (Inv s y ++ [Fr])) (w1.putObj l (.loop { rec with state := .busy })) := x3.upd
    refine wpIn_mono (hB s x y _ s' hst a1 _ x1 (x4.ent (jL _ _ _))) ?_
    intro e a2 w2 hq
    cases e with
    | normal =>
      obtain ⟨y', _, z2⟩ := hq
      have z3 := z2.ent (iR _ _ _)
      have hl2 := z3.pts_at (i := 0) rfl
      refine ⟨_, _, run_endRound none hl2, rfl, y', ?_⟩
      have z4 : Sat W (pts l (.loop rec) :: (Inv s' y' ++ [Fr])) (w2.putObj l (.loop rec)) := z3.upd
      have er : ({ ({ rec with state := .busy } : Loop) with state := if (none : Option Code).isNone then .ready else .done, pending := none } : Loop) = rec := by
        cases rec
        simp at h3 h4 ⊢
        exact ⟨h3.symm, h4.symm⟩
      have er2 : w2.putObj l (.loop rec) = w2.putObj l (.loop ({ ({ rec with state := .busy } : Loop) with state := if (none : Option Code).isNone then .ready else .done, pending := none } : Loop)) := by rw [er]
      rw [er2] at z4
      exact z4
    | _ => exact hq.elim
  | _ => exact hq.elim
theorem qY {R' Y' : Type} {g : Operand} {ps : List Nat} {assign body : Code} {f : FuncId} {cap : List Value} {Cap rst : List HA} {CapB : R' → Y' → List HA} {enc : α → List Value} {o2 : R' → Option R} {oN : Option R'} {val : R' → Y' → Value}
    {step : S → α → Option S} (Inv : S → Y → List HA) (s0 : S) (y0 : Y) (Eb : S → α → Y → Env) (gs : R' → S) (gy : R' → Y' → Y) (hro : K.ro = none) (hg : ev E g = some (.func (.func f) #[] cap.toArray))
    (hf : ∀ args w, (callFunc f args).run K.P w = .ok (.enter f args) w)
    (it : ∀ l (A : S → Y → HA), kT K.P K.W l enc step A → ∀ X, Fn K.P K.W f (.func (.yield l) #[] #[] :: cap) (A s0 y0 :: Cap) (aP (X :: rst)) oN val (fun r y => A (gs r) (gy r y) :: CapB r y))
    (hps0 : ps.all (fun p => Nat.blt p K.n) = true) (hen : ∀ x, ps.length = (enc x).length)
    (hH : Ent H (Inv s0 y0 ++ (Cap ++ rst)))
    (hA : ∀ l s x y Fr, Sim ⟨K.P, K.W, some l, K.n, []⟩ (gX ⟨K.P, K.W, some l, K.n, []⟩ (fun (_ : Unit) (_ : Unit) => Eb s x y) (fun _ _ => Inv s y ++ [Fr])) assign (kn ps (enc x) E) (Inv s y ++ [Fr]) (some ()))
    (hB : ∀ l s x y Fr, Sim ⟨K.P, K.W, some l, K.n, []⟩ (gX ⟨K.P, K.W, some l, K.n, []⟩ (fun (_ : S) (_ : Y) => []) (fun s y => Inv s y ++ [Fr])) body (Eb s x y) (Inv s y ++ [Fr]) (step s x))
    (h : ∀ D r y, Nrm { K with ds := mkD D :: K.ds } Q E (gD D :: (Inv (gs r) (gy r y) ++ (CapB r y ++ rst))) (o2 r)) :
    Sim K Q (.rangeFunc g ps.toArray assign body) E H (oN.bind o2) := by
  intro r hr a w he hs
  have hps : ∀ p ∈ ps, p < K.n := fun p hp => by simpa [Nat.blt_eq] using List.all_eq_true.1 hps0 p hp
  cases hfo : oN with
  | none => rw [hfo] at hr; cases hr
  | some rN =>
  rw [hfo] at hr
  rw [hro]
  refine wpIn_rangeFunc fun fn _ => ?_
  have hs1 := hs.new (.deferred (some []))
  have hs2 := hs1.new (.loop { state := .ready, pending := none, fn := fn, tmps := a.tmps, params := ps.toArray, assign := assign, body := body, defers := w.heap.size })
  have hz : ({ w with heap := w.heap.push (.deferred (some [])) } : World).heap.size = w.heap.size + 1 := by simp
  rw [hz] at hs2
  let rec0 : Loop := { state := .ready, pending := none, fn, tmps := a.tmps, params := ps.toArray, assign, body, defers := w.heap.size }
  let w2 : World := (w.alloc (.deferred (some []))).alloc (.loop rec0)
  refine ⟨w.heap.size + 1, [mkD w.heap.size], w2, { target := .fn (.func f) cap.toArray, args := #[.func (.yield (w.heap.size + 1)) #[] #[]] }, w2, f, (Value.func (.yield (w.heap.size + 1)) #[] #[] :: cap).toArray, w2, run_enterLoop_outer fn a.tmps ps.toArray assign body, ?_, ?_⟩
  · have e1 : a.eval (.const (.func (.yield (w.heap.size + 1)) #[] #[])) = .func (.yield (w.heap.size + 1)) #[] #[] := rfl
    simp [resolve, he.ev hg, Deferred.ofValue, e1]
  · refine ⟨fun f' _ => trivial, ?_, (by intro h; cases h), ?_⟩
    · simp [invoke, hf]
    refine callsIn_wide.2 ?_
    have hR : mz K.P K.W (w.heap.size + 1) rec0 enc step Inv :=
      qq (ps := ps) Eb he rfl rfl rfl rfl hps hen (hA _) (hB _)
    have hY := qo hR (fun x => by simpa [rec0] using (hen x).symm)
    have hs3 : Sat K.W ((itA (w.heap.size + 1) rec0 Inv s0 y0 :: Cap) ++ [aP (pts w.heap.size (.deferred (some [])) :: rst)]) w2 := by
      refine hs2.ent ?_
      intro h x
      have x1 : aS (pts (w.heap.size + 1) (.loop rec0)) (aS (pts w.heap.size (.deferred (some []))) (aS (aP (Inv s0 y0)) (aP (Cap ++ rst)))) h :=
        bQ h (fun _ x => x) (fun h x => bQ h (fun _ x => x) (fun h x => (ca _ _ h).1 (hH h x)) x) x
      have x2 : aS (aS (pts (w.heap.size + 1) (.loop rec0)) (aP (Inv s0 y0))) (aS (pts w.heap.size (.deferred (some []))) (aP (Cap ++ rst))) h := by
        rw [← aW (pts w.heap.size _), dv (pts w.heap.size _), aW, ← aW] at x1
        exact x1
      refine bQ h (fun _ x => x) (fun h x => ?_) x2
      have x3 : aS (pts w.heap.size (.deferred (some []))) (aS (aP Cap) (aP rst)) h := bQ h (fun _ x => x) (fun h x => (ca _ _ h).1 x) x
      rw [← aW, dv (pts _ _), aW] at x3
      exact (ca _ _ h).2 (bQ h (fun _ x => x) (fun h x => gQ x) x3)
    have hc := it _ _ hY (pts w.heap.size (.deferred (some []))) rN hfo _ hs3
    refine hc.mono ?_
    rintro e w' ⟨y, rfl, s4⟩
    have s5 : Sat K.W (pts (w.heap.size + 1) (.loop rec0) :: (Inv (gs rN) (gy rN y) ++ (CapB rN y ++ [aP (pts w.heap.size (.deferred (some [])) :: rst)]))) w' := s4.ent (jK _ _)
    have hl := s5.pts_at (i := 0) rfl
    refine ⟨none, _, run_endLoop hl (by simp [rec0]), ?_⟩
    have s6 := s5.upd (o' := .loop { rec0 with state := .exhausted })
    have s7 : Sat K.W (gD w.heap.size :: (Inv (gs rN) (gy rN y) ++ (CapB rN y ++ rst))) _ := s6.ent (Ent.drop (by
      intro h x
      rw [← List.append_assoc] at x
      have x2 := (ca _ _ h).1 x
      have x3 : aS (aP (Inv (gs rN) (gy rN y) ++ CapB rN y)) (aS (pts w.heap.size (.deferred (some []))) (aP rst)) h := bQ h (fun _ x => x) (fun h (x : aS (aP _) tt h) => by
        rw [dv] at x
        exact dE _ tt h x) x2
      rw [← aW, dv _ (pts _ _), aW] at x3
      refine bQ h (fun _ x => x) (fun h x => ?_) x3
      rw [← List.append_assoc]
      exact (ca _ _ h).2 x))
    exact h w.heap.size rN y r hr _ _ ⟨he.size, by simp [he.defers, mkD], he.get⟩ s7
theorem oK {op : Oper} {c : Call} {x : Operand} {xs : List Operand} {l : Nat} {enc : α → List Value} {step : S → α → Option S} {A : S → Y → HA} {s s' : S} {y : Y} (v : α) (k : Nat)
    (ho : op.op = .call c) (hcal : c.callee = .value x) (hca : c.args = xs.toArray) (hx : ev E x = some (.func (.yield l) #[] #[])) (hxs : evs xs E = some (enc v)) (hro : K.ro = none)
    (hY : kT K.P K.W l enc step A) (hH : H[k]? = some (A s y)) (hs : step s v = some s') :
    RE K (Y := Y) op E H (fun _ => .bool true) (fun y => H.set k (A s' y)) := by
  intro a w he hsat next Q hnx
  refine ⟨fun f _ => fv _ _, ?_⟩
  rw [Oper.semAt_eq _ _ _ (by rw [ho]; intro c h; cases h)]
  have hkl : k < H.length := (List.getElem?_eq_some_iff.1 hH).1
  have hs2 : Sat K.W ([A s y] ++ [aP (H.eraseIdx k)]) w := hsat.ent (fun h x => by rw [eu H k _ hH] at x; exact Ent.fold [A s y] (H.eraseIdx k) h x)
  obtain ⟨f, tmps, assign, body, hrun, hround⟩ := hY s v s' y _ w hs hs2
  have hr : (execOp a.eval op).run K.P w = .ok (.round l f tmps assign body) w := by
    unfold execOp; simp only [ho]
    have hargs : c.args.map a.eval = (enc v).toArray := by rw [hca, ← gR he xs _ hxs]; simp
    simp [resolve, hcal, hargs, he.ev hx, Deferred.ofValue, invoke, callFunc, hrun]
  rw [hr]
  refine ⟨jp _, ?_⟩
  rw [hro]
  refine RoundIn.mono hround ?_
  rintro e w' ⟨rfl, y', s3⟩
  refine hnx y' w' (s3.ent fun h x => ?_)
  rw [← fD H k _ hkl]
  exact Ent.unfold [A s' y'] (H.eraseIdx k) h x
end
end Go.Proofs.YtndjkejhacfpdaaGreatDoor

namespace Go.Proofs.YtndjkejhacfpdaaGreatDoor
set_option linter.unusedVariables false
set_option linter.unusedSimpArgs false
open Go.RowKit

/-! ### 1. Lists of rows -/
def okI (k : IntKind) (x : Int) : Prop := k.min ≤ x ∧ x ≤ k.max
def bx {α : Type} (n : Nat) (V : α → List Value → Prop) : List α → List (List Value) → Prop
  | [], [] => True
  | x :: xs, r :: rs => (r.length = n ∧ one r ∧ V x r) ∧ bx n V xs rs
  | _, _ => False
section
variable {α : Type} {n : Nat} {V V' : α → List Value → Prop}
theorem bx.mono (h : ∀ x r, V x r → V' x r) : ∀ {xs : List α} {rs : List (List Value)}, bx n V xs rs → bx n V' xs rs
  | [], [], _ => trivial
  | x :: xs, r :: rs, ⟨⟨a, b, c⟩, t⟩ => ⟨⟨a, b, h x r c⟩, bx.mono h t⟩
theorem bx.append : ∀ {xs ys : List α} {rs ss : List (List Value)}, bx n V xs rs → bx n V ys ss → bx n V (xs ++ ys) (rs ++ ss)
  | [], ys, [], ss, _, h => h
  | x :: xs, ys, r :: rs, ss, ⟨a, t⟩, h => ⟨a, bx.append t h⟩
theorem bx.len : ∀ {xs : List α} {rs : List (List Value)}, bx n V xs rs → rs.length = xs.length
  | [], [], _ => rfl
  | x :: xs, r :: rs, ⟨_, t⟩ => by simp [bx.len t]
theorem bx.flat : ∀ {xs : List α} {rs : List (List Value)}, bx n V xs rs → rs.flatten.length = xs.length * n
  | [], [], _ => by simp
  | x :: xs, r :: rs, ⟨⟨a, _, _⟩, t⟩ => by simp [bx.flat t, a, Nat.add_mul]; omega
theorem bx.ones : ∀ {xs : List α} {rs : List (List Value)}, bx n V xs rs → one rs.flatten
  | [], [], _ => by intro v h; simp at h
  | x :: xs, r :: rs, ⟨⟨_, b, _⟩, t⟩ => by
    intro v h
    simp only [List.flatten_cons, List.mem_append] at h
    rcases h with h | h
    · exact b v h
    · exact bx.ones t v h
theorem bx.at (d : α) : ∀ {xs : List α} {rs : List (List Value)} {i : Nat}, bx n V xs rs → i < xs.length → ∃ r, V (xs.getD i d) r ∧ r.length = n ∧ one r ∧ ∀ (j : Nat) v, r[j]? = some v → rs.flatten[i * n + j]? = some v
  | x :: xs, r :: rs, 0, ⟨⟨a, b, c⟩, t⟩, _ => ⟨r, c, a, b, fun j v h => by
      have : j < r.length := (List.getElem?_eq_some_iff.1 h).1
      simp only [List.flatten_cons, Nat.zero_mul, Nat.zero_add]
      rw [List.getElem?_append_left this]; exact h⟩
  | x :: xs, r :: rs, i + 1, ⟨⟨a, b, c⟩, t⟩, h => by
    obtain ⟨q, h1, h2, h3, h4⟩ := bx.at d t (i := i) (by simpa using h)
    refine ⟨q, by simpa using h1, h2, h3, fun j v hj => ?_⟩
    simp only [List.flatten_cons]
    rw [List.getElem?_append_right (by rw [a, Nat.add_mul]; omega), ← h4 j v hj, a]
    congr 1
    rw [Nat.add_mul]; omega
theorem bx.take : ∀ {xs : List α} {rs : List (List Value)} (m : Nat), bx n V xs rs → bx n V (xs.take m) (rs.take m)
  | [], [], m, _ => by simp [bx]
  | x :: xs, r :: rs, 0, _ => by simp [bx]
  | x :: xs, r :: rs, m + 1, ⟨a, t⟩ => ⟨a, bx.take m t⟩
theorem bx.drop : ∀ {xs : List α} {rs : List (List Value)} (m : Nat), bx n V xs rs → bx n V (xs.drop m) (rs.drop m)
  | [], [], m, _ => by simp [bx]
  | x :: xs, r :: rs, 0, h => h
  | x :: xs, r :: rs, m + 1, ⟨a, t⟩ => bx.drop m t
theorem bx.flat_drop : ∀ {xs : List α} {rs : List (List Value)} (m : Nat), bx n V xs rs → (rs.drop m).flatten = rs.flatten.drop (m * n)
  | [], [], m, _ => by simp
  | x :: xs, r :: rs, 0, _ => by simp
  | x :: xs, r :: rs, m + 1, ⟨⟨a, _, _⟩, t⟩ => by
    simp only [List.drop_succ_cons, List.flatten_cons]
    rw [bx.flat_drop m t, Nat.add_mul, Nat.one_mul, Nat.add_comm, ← List.drop_drop, ← a, List.drop_left']
    rfl
theorem bx.flat_take : ∀ {xs : List α} {rs : List (List Value)} (m : Nat), bx n V xs rs → (rs.take m).flatten = rs.flatten.take (m * n)
  | [], [], m, _ => by simp
  | x :: xs, r :: rs, 0, _ => by simp
  | x :: xs, r :: rs, m + 1, ⟨⟨a, _, _⟩, t⟩ => by
    simp only [List.take_succ_cons, List.flatten_cons]
    have e : (m + 1) * n = r.length + m * n := by rw [a, Nat.add_mul]; omega
    rw [bx.flat_take m t, e, List.take_length_add_append]
end
def Up (G F : HA) : Prop := ∀ a cs, Rd G a cs → Rd F a cs
theorem Up.refl (F : HA) : Up F F := fun _ _ h => h
theorem Up.trans {A B C : HA} (h : Up A B) (h' : Up B C) : Up A C := fun a cs x => h' a cs (h a cs x)
theorem Up.lend {F : HA} {l : List HA} (k : Nat) (hk : l[k]? = some F) : Up F (aP l) := fun _ _ h => h.lend k hk
theorem Rd.up {G F : HA} {a : Option Addr} {cs : List Value} (h : Rd G a cs) (u : Up G F) : Rd F a cs := u a cs h
def RdV {α : Type} (F : HA) (n : Nat) (V : α → List Value → Prop) (a : Option Addr) (xs : List α) : Prop := ∃ rs, bx n V xs rs ∧ Rd F a rs.flatten
def fI {α : Type} (H : List HA) (n : Nat) (V : α → List Value → Prop) (a : Option Addr) (xs : List α) : Prop := ∃ rs, bx n V xs rs ∧ Rds H a rs.flatten
def ap {α : Type} (T : TypeId) (n : Nat) (V : α → List Value → Prop) (a : Option Addr) (xs : List α) (c : Nat) : HA := fun h => ∃ rs, bx n V xs rs ∧ Row T n a xs.length c rs.flatten h
section
variable {α : Type} {n : Nat} {V V' : α → List Value → Prop} {F : HA} {a : Option Addr} {xs : List α}
theorem RdV.nil : RdV F n V a ([] : List α) := ⟨[], trivial, .inl rfl⟩
theorem RdV.mono (h : RdV F n V a xs) (hV : ∀ x r, V x r → V' x r) : RdV F n V' a xs := let ⟨rs, h1, h2⟩ := h; ⟨rs, h1.mono hV, h2⟩
theorem RdV.up {G : HA} (h : RdV G n V a xs) (u : Up G F) (hV : ∀ x r, V x r → V' x r) : RdV F n V' a xs := let ⟨rs, h1, h2⟩ := h; ⟨rs, h1.mono hV, h2.up u⟩
theorem RdV.rds (h : RdV F n V a xs) {H : List HA} (k : Nat) (hk : H[k]? = some F) : fI H n V a xs := let ⟨rs, h1, h2⟩ := h; ⟨rs, h1, h2.rds k hk⟩
theorem RdV.pos {G : HA} (h : RdV G n V a xs) (u : Up G F) (hn : Nat.blt 0 n = true) {i : Nat} (hi : i < xs.length) (d : α) :
    ∃ b off r, a = some ⟨b, off, none⟩ ∧ V (xs.getD i d) r ∧ r.length = n ∧ ∀ {H : List HA} (k : Nat), H[k]? = some F → ∀ j v, r[j]? = some v → dH H b (off + i * n + j) v := by
  obtain ⟨rs, h1, h2⟩ := h
  have hn : 0 < n := by simpa [Nat.blt_eq] using hn
  obtain ⟨r, hV, hl, _, hc⟩ := h1.at d hi
  rcases u _ _ h2 with h0 | ⟨b, off, ha, hz⟩
  · have := h1.flat
    rw [h0] at this
    have h1 : 1 ≤ xs.length * n := Nat.mul_pos (by omega) hn
    simp at this
    omega
  · refine ⟨b, off, r, ha, hV, hl, fun {H} k hk j v hj => .of k hk fun x hx => ?_⟩
    obtain ⟨l, T, fz, e1, e2⟩ := hz x hx
    exact ⟨l, T, fz, e1, by rw [Nat.add_assoc]; exact e2 _ _ (hc j v hj)⟩
theorem RdV.cut (h : RdV F n V a xs) (lo hi : Nat) {c : Nat} (hc : hi ≤ c) : RdV F n V (if c = lo then a else a.map (·.add (lo * n))) ((xs.take hi).drop lo) := by
  obtain ⟨rs, h1, h2⟩ := h
  by_cases e : c = lo
  · rw [if_pos e]
    have : (xs.take hi).drop lo = [] := by rw [List.drop_of_length_le (by rw [List.length_take]; omega)]
    rw [this]; exact .nil
  · rw [if_neg e]
    refine ⟨(rs.take hi).drop lo, (h1.take hi).drop lo, ?_⟩
    rw [(h1.take hi).flat_drop, h1.flat_take]
    exact (h2.take _).drop _
theorem ap.mk {T : TypeId} {c : Nat} {rs : List (List Value)} (h : bx n V xs rs) : ∀ p, Row T n a xs.length c rs.flatten p → ap T n V a xs c p := fun _ x => ⟨rs, h, x⟩
theorem Ent.rowV_nil {l m : List HA} {T : TypeId} (r : Ent l m) : Ent l (ap T n V none ([] : List α) 0 :: m) := fun h s =>
  ⟨fun _ => none, h, fun _ => .inl rfl, (by funext i; simp [un]), ⟨[], trivial, Row.nil T n _⟩, r h s⟩
end
section
variable {K : Cx} {R S Y α : Type} {Q : cT R} {E : Env} {H : List HA} {opt : Option R} {ops : Array Oper} {rest : List Oper} {o : Oper} {n : Nat} {V : α → List Value → Prop} {a : Option Addr} {xs : List α} {T : TypeId} {c : Nat}
theorem kE {W w : World} {H : List HA} (k : Nat) (hk : H[k]? = some (ap T n V a xs c)) (s : Sat W H w) : ∃ rs, bx n V xs rs ∧ Sat W (H.set k (Row T n a xs.length c rs.flatten)) w := by
  obtain ⟨x, y, d, e, ⟨rs, h1, h2⟩, r⟩ := (s.focus hk).hp
  exact ⟨rs, h1, Sat.unfocus (B := Row T n a xs.length c rs.flatten) hk ⟨s.os, s.tape, s.output, s.size, x, y, d, e, h2, r⟩⟩
theorem bg (k : Nat) (hk : H[k]? = some (ap T n V a xs c)) (h : ∀ rs, bx n V xs rs → bP K Q ops rest E (H.set k (Row T n a xs.length c rs.flatten)) opt) : bP K Q ops rest E H opt := by
  intro r hr a' w he hs
  obtain ⟨rs, h1, s⟩ := kE k hk hs
  exact h rs h1 r hr a' w he s
theorem bn {c' : Code} (k : Nat) (hk : H[k]? = some (ap T n V a xs c)) (h : ∀ rs, bx n V xs rs → Sim K Q c' E (H.set k (Row T n a xs.length c rs.flatten)) opt) : Sim K Q c' E H opt := by
  intro r hr a' w he hs
  obtain ⟨rs, h1, s⟩ := kE k hk hs
  exact h rs h1 r hr a' w he s
theorem fI.row {rs : List (List Value)} (h : bx n V xs rs) {m : Nat} (k : Nat) (hk : H[k]? = some (Row T n a m c rs.flatten)) : fI H n V a xs := ⟨rs, h, .row k hk⟩
theorem fI.nil : fI H n V a ([] : List α) := ⟨[], trivial, .nil _ _⟩
theorem Rd.asV {F : HA} {rs : List (List Value)} (h : bx n V xs rs) (hr : Rd F a rs.flatten) : RdV F n V a xs := ⟨rs, h, hr⟩
theorem fw {rs : List (List Value)} {i : Nat} (k : Nat) (hk : H[k]? = some (Row T n a xs.length c rs.flatten)) (hl : bx n V xs rs) (hn : Nat.blt 0 n = true) (hi : i < xs.length) (d : α)
    (h : ∀ b off r, a = some ⟨b, off, none⟩ → V (xs.getD i d) r → r.length = n → (∀ {H' : List HA} (k : Nat), H'[k]? = some (Row T n a xs.length c rs.flatten) → ∀ j v, r[j]? = some v → dH H' b (off + i * n + j) v) → bP K Q ops rest E H opt) : bP K Q ops rest E H opt := by
  have hn : 0 < n := by simpa [Nat.blt_eq] using hn
  obtain ⟨r, hV, hlr, _, hc⟩ := hl.at d hi
  refine oL k hk ?_ fun b off ha => h b off r ha hV hlr ?_
  · intro h0
    have := hl.flat
    rw [h0] at this
    have h1 : 1 ≤ xs.length * n := Nat.mul_pos (by omega) hn
    simp at this
    omega
  · intro H' k' hk' j v hj
    rw [Nat.add_assoc]
    subst ha
    exact dH.row k' hk' (hc j v hj)
theorem qi {l m : List Value} (h : one l) (h' : one m) : one (l ++ m) := fun v hv => by
  rcases List.mem_append.1 hv with x | x
  · exact h v x
  · exact h' v x
theorem ej {x y : Operand} {t e bytes : Nat} {zs : List Value} {a2 : Option Addr} {c2 : Nat} {ys : List α} {rs : List (List Value)} (k : Nat) (ho : o.op = .call { callee := .builtin .append, args := #[x, y], argTypes := #[t, t] })
    (hx : ev E x = some (.slice a xs.length c)) (hy : ev E y = some (.slice a2 ys.length c2)) (ht : K.P.underlying t = some (.slice e)) (hE : Elt K.P e n bytes zs) (hk : H[k]? = some (Row e n a xs.length c rs.flatten)) (hl : bx n V xs rs)
    (hr : fI (H.eraseIdx k) n V a2 ys) (hb : (xs.length + ys.length) * bytes ≤ 140737488355328) :
    RE K (Y := Option Addr × Nat) o E H (fun y => .slice y.1 (xs ++ ys).length y.2) (fun y => H.set k (ap e n V y.1 (xs ++ ys) y.2)) := by
  obtain ⟨ss, h1, h2⟩ := hr
  have := mV (K := K) (E := E) (H := H) k ho hx hy ht hE hk h2 (by rw [h1.flat]) h1.ones hb
  intro a' w he hs next Q hn
  refine this a' w he hs next Q fun y w' s => ?_
  have hlen : (xs ++ ys).length = xs.length + ys.length := List.length_append
  have e1 : Value.slice y.1 (xs ++ ys).length y.2 = .slice y.1 (xs.length + ys.length) y.2 := by rw [hlen]
  have := hn y w'
  simp only [e1] at this
  refine this ?_
  have hkl : k < H.length := (List.getElem?_eq_some_iff.1 hk).1
  have s2 : Sat K.W (Row e n y.1 (xs.length + ys.length) y.2 (rs.flatten.take (xs.length * n) ++ ss.flatten) :: H.eraseIdx k) w' := s.ent fun h x => by rw [fD H k _ hkl]; exact x
  have hfl := hl.flat
  refine (s2.ent (Ent.sel' 0 rfl (fun p hp => ?_) (Ent.refl _))).ent fun h x => by rw [← fD H k _ hkl]; exact x
  refine ⟨rs ++ ss, hl.append h1, ?_⟩
  rw [hlen, List.flatten_append]
  rwa [List.take_of_length_le (by rw [hfl]; exact Nat.le_refl _)] at hp
theorem pk {x y : Operand} {t e bytes : Nat} {zs : List Value} {a2 : Option Addr} {c2 : Nat} {ys : List α} (ho : o.op = .call { callee := .builtin .append, args := #[x, y], argTypes := #[t, t] })
    (hx : ev E x = some (.slice none 0 0)) (hy : ev E y = some (.slice a2 ys.length c2)) (ht : K.P.underlying t = some (.slice e)) (hE : Elt K.P e n bytes zs)
    (hr : fI H n V a2 ys) (hb : ys.length * bytes ≤ 140737488355328) :
    RE K (Y := Option Addr × Nat) o E H (fun y => .slice y.1 ys.length y.2) (fun y => ap e n V y.1 ys y.2 :: H) := by
  obtain ⟨ss, h1, h2⟩ := hr
  have := qg (K := K) (E := E) (H := H) ho hx hy ht hE h2 (by rw [h1.flat]) h1.ones hb
  intro a' w he hs next Q hn
  refine this a' w he hs next Q fun y w' s => hn y w' (s.ent (Ent.sel' 0 rfl (fun p hp => ⟨ss, h1, hp⟩) (Ent.refl _)))
theorem eB {t e bytes len : Nat} {zs : List Value} {l : List (Nat × Operand)} {vs : List (Nat × Value)} {cs : List Value} (rs : List (List Value)) (ho : o.op = .buildSlice t len l.toArray) (hx : evP l E = some vs) (ht : K.P.underlying t = some (.slice e)) (hE : Elt K.P e n bytes zs)
    (hb : Nat.ble (len * n) 16777216 = true) (hf : Instr.fill (fun i => some (i * n, n)) ((Array.range (len * n)).map (zs.toArray[· % zs.toArray.size]!)) vs = some cs.toArray) (h0 : Nat.blt 0 (len * n) = true) (hr : bx n V xs rs) (hcs : rs.flatten = cs) (hlen : xs.length = len) :
    RE K (Y := Nat) o E H (fun b => .slice (some ⟨b, 0, none⟩) xs.length len) (fun b => Row e n (some ⟨b, 0, none⟩) xs.length len rs.flatten :: H) := by
  subst hcs
  subst hlen
  exact qF ho hx ht hE hb hf h0 hr.flat

/-! ### 2. A slice's front, with what lies behind it -/
end
end Go.Proofs.YtndjkejhacfpdaaGreatDoor

namespace Go.Proofs.YtndjkejhacfpdaaGreatDoor
set_option linter.unusedVariables false
set_option linter.unusedSimpArgs false
open Go.RowKit
/-! ### 1. '==' of structs -/
section
variable {P : Program} {d : Nat} {xs ys : Array Value} {f : Field} {fs : List Field} {a b : Value} {r s : Bool} {w : World}
theorem oG (hn : (f.name == "_") = false) (ha : (part f.type xs f.offset).run P w = .ok a w) (hb : (part f.type ys f.offset).run P w = .ok b w) (he : (Op.equalIn d f.type a b).run P w = .ok r w) : (Op.eqFields d xs ys [f]).run P w = .ok r w := by
  have hn' : f.name ≠ "_" := by simpa using hn
  simp only [Op.eqFields, if_pos hn', Sem.run_bind, ha, hb, he, Result.andThen_ok]
  cases r <;> simp
theorem jW (hn : (f.name == "_") = false) (ha : (part f.type xs f.offset).run P w = .ok a w) (hb : (part f.type ys f.offset).run P w = .ok b w) (he : (Op.equalIn d f.type a b).run P w = .ok r w) (hr : (Op.eqFields d xs ys fs).run P w = .ok s w) : (Op.eqFields d xs ys (f :: fs)).run P w = .ok (r && s) w := by
  have hn' : f.name ≠ "_" := by simpa using hn
  rw [Op.eqFields]
  simp only [if_pos hn', Sem.run_bind, ha, hb, he, Result.andThen_ok]
  cases r
  · simp
  · simpa using hr
theorem fq {t : TypeId} {cs : Array Value} {off : Nat} {v : Value} (ha : ∀ w, (isAgg t).run P w = .ok false w) (hv : cs[off]? = some v) : (part t cs off).run P w = .ok v w := by
  simp [part, ha, hv]
theorem iZ {t : TypeId} {k : IntKind} {m n : Int} (hu : P.underlying t = some (.int k)) : (Op.equalIn (d + 1) t (.int k m) (.int k n)).run P w = .ok (decide (m = n)) w := by
  simp [Op.equalIn, underlying, program, Sem.run, hu]
  rw [Bool.eq_iff_iff]; simp
theorem lP {t : TypeId} {fs : Array Field} (hu : P.underlying t = some (.struct fs)) (hp : P.stoodInHeld t = false) (h : (Op.eqFields d xs ys fs.toList).run P w = .ok r w) : (Op.equalIn (d + 1) t (.agg xs) (.agg ys)).run P w = .ok r w := by
  have hf : P.fieldsOf t = fs := by simp [Program.fieldsOf, hu]
  rw [run_equalIn_struct (P := P) w d t xs ys (by rw [hf]; exact hu) hp, hf]
  exact h
end
section
variable {K : Cx} {R S Y : Type} {Q : cT R} {E : Env} {H : List HA} {opt : Option R} {ops : Array Oper} {rest : List Oper} {o : Oper}
theorem pn {P : Program} {b : BinOp} {t : TypeId} {x y : Operand} {u v : Array Value} (hg : P.eqGuardType P.depth t = false) (w : World) : (eqGuard b t x y (.agg u) (.agg v)).run P w = .ok () w := by
  unfold eqGuard
  cases b <;> simp [program, Sem.run, hg]
theorem pH {xt yt : TypeId} {x y : Operand} {u v : Array Value} {r : Bool} (ho : o.op = .binOp .eql xt x y yt) (hx : ev E x = some (.agg u)) (hy : ev E y = some (.agg v)) (hg : K.P.eqGuardType K.P.depth xt = false)
    (hr : ∀ d w, (Op.equalIn (d + 2) xt (.agg u) (.agg v)).run K.P w = .ok r w) : RQ K o E H (.bool r) :=
  ck (by rw [ho]; intro c h; cases h) fun a w he _ => by
    unfold execOp; simp only [ho]; rw [he.ev hx, he.ev hy]
    have := hr 9998 w
    simp [pn hg, binOp, Op.equal, Op.maxDepth, this]
/-! ### 2. Interfaces -/
theorem tG {x : Operand} {t : TypeId} {u : TypeDesc} {v : Value} (ho : o.op = .makeInterface t x) (hx : ev E x = some v) (hu : K.P.underlying t = some u) (hn : (match u with | .interface _ => true | _ => false) = false) : RQ K o E H (.iface t v) :=
  ck (by rw [ho]; intro c h; cases h) fun a w he _ => by
    unfold execOp; simp only [ho]; rw [he.ev hx]
    cases u <;> first | (simp at hn; done) | simp [Instr.makeInterface, underlying, program, Sem.run, hu]
theorem nb {c : Call} {x : Operand} {name : String} {xs : List Operand} {vs : List Value} {t : TypeId} {v u : Value} {f : FuncId} {A : List HA} {rst : List HA} {S Y : Type} {o1 : Option S} {val : S → Y → Value} {B : S → Y → List HA} {s : S}
    (ho : o.op = .call c) (hcal : c.callee = .invoke x name) (hca : c.args = xs.toArray) (hx : ev E x = some (.iface t v)) (hxs : evs xs E = some vs)
    (hm : ∀ w, (method (K.P.types.size + Made.depth) t v name).run K.P w = .ok (f, u) w)
    (hf : ∀ args w, (callFunc f args).run K.P w = .ok (.enter f args) w) (hH : Ent H (A ++ rst))
    (h : Fn K.P K.W f (u :: vs) A (aP rst) o1 val B) (hs : o1 = some s) : RE K o E H (val s) (fun y => B s y ++ rst) := by
  intro a w he hsat next Q hnx
  refine ⟨fun f _ => fv _ _, ?_⟩
  rw [Oper.semAt_eq _ _ _ (by rw [ho]; intro c h; cases h)]
  have hr : (execOp a.eval o).run K.P w = .ok (.enter f (u :: vs).toArray) w := by
    unfold execOp; simp only [ho]
    have hargs : c.args.map a.eval = vs.toArray := by rw [hca, ← gR he xs vs hxs]; simp
    have e1 : (#[Value.iface t v] ++ vs.toArray).extract 1 (1 + vs.length) = vs.toArray := by
      apply Array.ext'
      simp
    simp [resolve, hcal, hargs, he.ev hx, invoke, callMethod, program, Sem.run, hm, hf, e1]
  rw [hr]
  refine ⟨jp _, ?_⟩
  have := h s hs w (hsat.ent (hH.trans (Ent.fold A rst)))
  have hw : CallsIn (fen K.ro) (0 - 1) K.P f (u :: vs).toArray w (fun e w' => ∃ y, e = Ending.returned (val s y) ∧ Sat K.W (B s y ++ [aP rst]) w') := by
    cases hro : K.ro with
    | none => exact callsIn_wide.2 this
    | some l => exact CallsIn.inRound l (callsIn_wide.2 this)
  refine hw.mono ?_
  rintro e w' ⟨y, rfl, s2⟩
  exact hnx y w' (s2.ent (Ent.unfold _ _))
/-! ### 3. Results that lie in variables -/
def ir (P : Program) (E : Env) (H : List HA) : List ResultVar → List Value → Prop
  | [], [] => True
  | .tmp t :: l, v :: vs => lk E t = some v ∧ ir P E H l vs
  | .cell t T :: l, v :: vs => (∃ b, lk E t = some (.pointer (some ⟨b, 0, none⟩)) ∧ ∀ W w, Sat W H w → (loadVar T ⟨b, 0, none⟩).run P w = .ok v w) ∧ ir P E H l vs
  | _, _ => False
theorem eZ {P : Program} {H : List HA} {T : TypeId} {b : Nat} {v : Value} (ha : ∀ w, (isAgg T).run P w = .ok false w) (hc : dH H b 0 v) : ∀ W w, Sat W H w → (loadVar T ⟨b, 0, none⟩).run P w = .ok v w := fun W w s => by
  simp [loadVar, ha, hc.sat s]
theorem fX {P : Program} {H : List HA} {T T' : TypeId} {b n : Nat} {vs : List Value} (k : Nat) (ha : ∀ w, (isAgg T).run P w = .ok true w) (hs : ∀ w, (sizeOf T).run P w = .ok n w) (hk : H[k]? = some (obj b T' vs)) (hn : vs.length = n) : ∀ W w, Sat W H w → (loadVar T ⟨b, 0, none⟩).run P w = .ok (.agg vs.toArray) w := fun W w s => by
  have := ix (P := P) (w := w) (b := b) (off := 0) (vs := vs) (fun j v hj => by rw [Nat.zero_add]; exact (dH.obj (off := j) k hk hj).sat s)
  simp [loadVar, ha, hs, ← hn, this]
theorem kv {n : Nat} {ds : List Deferred} {a : Act} {P : Program} {W w : World} {H : List HA} (he : Has n ds E a) (hs : Sat W H w) (g : ResultVar → Sem Value) (hg : ∀ t, g (.tmp t) = Sem.pure (a.tmps.getD t undef)) (hc : ∀ t T, g (.cell t T) = (do loadVar T (← asAddr (a.tmps.getD t undef)))) : ∀ (l : List ResultVar) (vs : List Value), ir P E H l vs → (l.mapM g).run P w = .ok vs w
  | [], [], _ => rfl
  | .tmp t :: l, v :: vs, ⟨h1, h2⟩ => by
    have ih := kv he hs g hg hc l vs h2
    have := he.get _ _ h1
    simp only [List.mapM_cons, Sem.run_bind, hg, Sem.run_pure', Result.andThen_ok]
    rw [ih]
    simp [Array.getD_eq_getD_getElem?, this]
  | .cell t T :: l, v :: vs, ⟨⟨b, h1, h3⟩, h2⟩ => by
    have ih := kv he hs g hg hc l vs h2
    have := he.get _ _ h1
    have hl := h3 W w hs
    simp only [List.mapM_cons, Sem.run_bind, hc]
    have e1 : a.tmps.getD t undef = .pointer (some ⟨b, 0, none⟩) := by simp [Array.getD_eq_getD_getElem?, this]
    rw [e1]
    simp [asAddr, hl, ih]
theorem jz {n : Nat} {ds : List Deferred} {a : Act} {P : Program} {W w : World} {H : List HA} {fn : Func} (he : Has n ds E a) (hs : Sat W H w) {vs : List Value} (h : ir P E H fn.results.toList vs) :
    (results fn a.tmps).run P w = .ok (tup vs) w := by
  unfold results
  simp only [Sem.run_bind]
  rw [← Array.toArray_toList (xs := fn.results), List.mapM_toArray]
  simp only [Sem.run_map]
  rw [kv (P := P) (w := w) he hs _ (fun _ => rfl) (fun _ _ => rfl) fn.results.toList vs h]
  simp only [Result.andThen_ok]
  match vs with
  | [] => simp [tup]
  | [v] => simp [tup]
  | v :: u :: t => simp [tup]
theorem ux {fn : Func} {val : R → Y → Value} {B : R → Y → List HA} {r : R} {vs : List Value} (y : Y) (hd : K.ds = []) (hres : ir K.P E H fn.results.toList vs) (hv : tup vs = val r y) (hH : Ent H (B r y)) :
    ∀ r', some r = some r' → ∀ a w, Has K.n K.ds E a → Sat K.W H w → a.defers = [] ∧ ∃ v, (results fn a.tmps).run K.P w = .ok v w ∧ ∃ y, Ending.returned v = .returned (val r' y) ∧ Sat K.W (B r' y) w := by
  intro r' hr a w he hs
  cases hr
  exact ⟨he.defers.trans hd, _, jz he hs hres, y, by rw [hv], hs.ent hH⟩
theorem gG {fn : Func} {val : R → Y → Value} {B : R → Y → List HA} {r : R} {vs : List Value} (y : Y) (hd : K.ds = []) (hres : ir K.P E H fn.results.toList vs) (hv : tup vs = val r y) (hH : Ent H (B r y)) :
    Rtn K (oi K fn val B) E H (some r) := fun r' hr a w he hs => ux (K := K) y hd hres hv hH r' hr a w he hs
theorem sR {W w : World} {H : List HA} {p : Prop} (k : Nat) (hk : H[k]? = some (pr p)) (s : Sat W H w) : p := by
  obtain ⟨a, ha, _⟩ := s.at hk
  exact ha
theorem iY {p : Prop} (k : Nat) (hk : H[k]? = some (pr p)) (h : p → Nrm K Q E H opt) : Nrm K Q E H opt := fun r hr a w he hs => h (sR k hk hs) r hr a w he hs
theorem gq (l m : List HA) : Ent (l ++ m) (aP l :: m) := fun h s => (ca _ _ h).1 s
theorem Ent.tt_in {l m : List HA} (r : Ent l m) : Ent l (tt :: m) := fun h s => ⟨fun _ => none, h, fun _ => .inl rfl, (by funext i; simp [un]), trivial, r h s⟩
theorem cz {l vs : List Value} {off : Nat} (h : (l.drop off).take vs.length = vs) : ∀ (j : Nat) v, vs[j]? = some v → l[off + j]? = some v := fun j v hj => by
  rw [← h, List.getElem?_take] at hj
  split at hj
  · rw [List.getElem?_drop] at hj; exact hj
  · cases hj
theorem sS {x : Operand} {t e : TypeId} {a : Option Addr} {n c : Nat} {cs : List Value} (k : Nat) (ho : o.op = .convert t t x) (hx : ev E x = some (.slice a n c)) (hu : K.P.underlying t = some (.slice e)) (he8 : K.P.underlying e = some (.int .u8)) (hk : H[k]? = some (Row e 1 a n c cs)) (hn : Nat.blt 0 n = true) :
    RE K (Y := Unit) o E H (fun _ => .slice a n c) (fun _ => H.set k (Row e 1 a n c cs)) :=
  fu (by rw [ho]; intro c h; cases h) fun a' w he s => by
    have hn' : 0 < n := by simpa [Nat.blt_eq] using hn
    rcases (s.focus hk).row_cases with ⟨_, h0, _, _⟩ | ⟨b, off, pre, junk, fz, rfl, ok, s2⟩
    · omega
    · have hb := s2.pts_at (i := 0) rfl
      obtain ⟨lo, hi⟩ := fz
      refine ⟨(), { w with heap := w.heap.setIfInBounds b (.cells (pre ++ cs ++ junk).toArray e (if lo == hi then ((pre ++ cs ++ junk).length, (pre ++ cs ++ junk).length + 1) else (min lo (pre ++ cs ++ junk).length, max hi ((pre ++ cs ++ junk).length + 1)))) }, ?_, Sat.unfocus hk ((s2.upd).ent (Ent.sel' 0 rfl (Row.mk ⟨ok.offs, ok.le, ok.cap, ok.room, ok.len, ok.top, ?_⟩) (Ent.refl _)))⟩
      · unfold execOp; simp only [ho]; rw [he.ev hx]
        have hsh : w.shape? b = some (e, (pre ++ cs ++ junk).length) := by simp [World.shape?, hb]
        have hfz : w.freeze ⟨b, (pre ++ cs ++ junk).length, none⟩ 1 = { w with heap := w.heap.setIfInBounds b (.cells (pre ++ cs ++ junk).toArray e (if lo == hi then ((pre ++ cs ++ junk).length, (pre ++ cs ++ junk).length + 1) else (min lo (pre ++ cs ++ junk).length, max hi ((pre ++ cs ++ junk).length + 1)))) } := by
          unfold World.freeze
          rw [if_neg (by omega)]
          simp only
          rw [ie _ _ _ _ hb]
        have hm : (markStringish ⟨b, off, none⟩).run K.P w = .ok () (w.freeze ⟨b, (pre ++ cs ++ junk).length, none⟩ 1) := by
          unfold markStringish
          simp only [shape, Sem.run_bind, Sem.run, Result.andThen_ok, hsh, freeze]
        rw [hfz] at hm
        simp [convert, underlying, program, Sem.run, hu, he8, hm]
      · have h1 := ok.fzok
        have h2 := ok.room
        have h3 := ok.offs
        simp only at h1
        by_cases hlh : lo = hi
        · right; simp [hlh]; omega
        · right; simp [hlh]; rcases h1 with h1 | h1 <;> omega
end
end Go.Proofs.YtndjkejhacfpdaaGreatDoor

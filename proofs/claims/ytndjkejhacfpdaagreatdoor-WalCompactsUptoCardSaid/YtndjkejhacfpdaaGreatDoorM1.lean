/- Texts that lead to the law WalCompacts: Sl1, Sl2, Sl3, Sl4, Sl5, Sl6, Sl7, Sl8, Sl9, Sl10, Sl11, Sl12, Sl13, Sl14. Conditions: as each says. -/
import Derived.WalkKit
import Derived.TacticsIn
import Derived.TacticsInMore
import Derived.LoopNIn
import Derived.LoopIn
import Derived.RangeFuncCalls
import Derived.Below
import Derived.KernelRfl
import Derived.Laws.Cells
import Derived.Laws.Append
import Derived.Laws.BytesString
import Derived.Laws.AppendOwn
import Derived.RangeFuncRecord
import Derived.Laws.StructEq
set_option linter.unusedVariables false
set_option linter.unusedSimpArgs false
set_option linter.unusedSectionVars false
namespace Go.Proofs.YtndjkejhacfpdaaGreatDoor
theorem O {α : Sort _} {a : α} : a = a := rfl
open Go.RowKit

/-! ### 1. Parts of the heap -/
abbrev Hp := Nat → Option Obj
abbrev HA := Hp → Prop
def dj (a b : Hp) : Prop := ∀ i, a i = none ∨ b i = none
def un (a b : Hp) : Hp := fun i => (a i).or (b i)
def tt : HA := fun _ => True
def aV (A B : HA) : HA := fun h => ∃ a b, dj a b ∧ h = un a b ∧ A a ∧ B b
def aN : List HA → HA
 | [] => tt
 | A :: l => aV A (aN l)
def pr (p : Prop) : HA := fun _ => p
def exs {α : Type} (A : α → HA) : HA := fun h => ∃ x, A x h
def pts (b : Nat) (o : Obj) : HA := fun h => h b = some o

theorem ut {a b : Hp} (d : dj a b) : un a b = un b a := by
 funext i; simp only [un]; rcases d i with h | h <;> simp [h]
theorem pI (a b c : Hp) : un (un a b) c = un a (un b c) := by
 funext i; simp [un, Option.or_assoc]
theorem iQ {a b : Hp} (d : dj a b) : dj b a := fun i => (d i).symm
theorem jv {a b c : Hp} : dj (un a b) c ↔ dj a c ∧ dj b c := by
 constructor
 ·intro h
  refine ⟨fun i => ?_, fun i => ?_⟩
  ·rcases h i with e | e
   ·simp [un] at e; exact .inl e.1
   ·exact .inr e
  ·rcases h i with e | e
   ·simp [un] at e; exact .inl e.2
   ·exact .inr e
 ·rintro ⟨h1, q⟩ i
  rcases h1 i with e1 | e1 <;> rcases q i with e2 | e2 <;> simp [un, e1, e2]
theorem lW {a b c : Hp} : dj a (un b c) ↔ dj a b ∧ dj a c := by
 constructor
 ·intro h; have := jv.1 (iQ h); exact ⟨iQ this.1, iQ this.2⟩
 ·rintro ⟨h1, q⟩; exact iQ (jv.2 ⟨iQ h1, iQ q⟩)

theorem dG (A B : HA) : aV A B = aV B A := by
 funext h
 apply propext
 constructor <;> (rintro ⟨a, b, d, rfl, q, r⟩; exact ⟨b, a, iQ d, ut d, r, q⟩)
theorem bg (A B C : HA) : aV (aV A B) C = aV A (aV B C) := by
 funext h
 apply propext
 constructor
 ·rintro ⟨G, c, d, rfl, ⟨a, b, q, rfl, r, u⟩, D⟩
  have := jv.1 d
  exact ⟨a, un b c, lW.2 ⟨q, this.1⟩, pI _ _ _, r, b, c, this.2, rfl, u, D⟩
 ·rintro ⟨a, I, d, rfl, r, b, c, q, rfl, u, D⟩
  have := lW.1 d
  exact ⟨un a b, c, jv.2 ⟨this.2, q⟩, (pI _ _ _).symm, ⟨a, b, this.1, rfl, r, u⟩, D⟩
theorem bZ {A q B r : HA} (h : Hp) (u : ∀ h, A h → q h) (D : ∀ h, B h → r h) (s : aV A B h) : aV q r h := by
 obtain ⟨a, b, d, rfl, x, y⟩ := s
 exact ⟨a, b, d, rfl, u _ x, D _ y⟩
theorem gR {A : HA} {h : Hp} (s : A h) : aV tt A h := ⟨fun _ => none, h, fun _ => .inl rfl, (by funext i; simp [un]), trivial, s⟩
theorem iq {A : HA} {h : Hp} (s : A h) : aV A tt h := by rw [dG]; exact gR s

theorem dT (l : List HA) (X : HA) : ∀ h, aV X (aN l) h → aN l h := by
 induction l with
 | nil => intro h _; trivial
 | cons A l ih =>
  intro h s
  have q : aV A (aV X (aN l)) h := by
   rw [← bg, dG A X, bg]; exact s
  exact bZ h (fun _ x => x) ih q
theorem cu (l m : List HA) : ∀ h, aN (l ++ m) h ↔ aV (aN l) (aN m) h := by
 induction l with
 | nil => intro h; exact ⟨gR, fun s => dT m tt h s⟩
 | cons A l ih =>
  intro h
  simp only [List.cons_append, aN]
  rw [bg]
  constructor
  ·exact bZ h (fun _ x => x) (fun h s => (ih h).1 s)
  ·exact bZ h (fun _ x => x) (fun h s => (ih h).2 s)
theorem mR (A B : HA) (l : List HA) : aN (A :: B :: l) = aN (B :: A :: l) := by
 simp only [aN]; rw [← bg, dG A B, bg]
theorem eR : ∀ (l : List HA) (i : Nat) (A : HA), l[i]? = some A → aN l = aN (A :: l.eraseIdx i)
 | [], i, A, h => by simp at h
 | B :: l, 0, A, h => by simp at h; simp [h]
 | B :: l, i + 1, A, h => by
  have := eR l i A (by simpa using h)
  simp only [List.eraseIdx_cons_succ]
  rw [mR]
  show aV B (aN l) = aV B (aN (A :: l.eraseIdx i))
  rw [this]
theorem fX : ∀ (l : List HA) (i : Nat) (A : HA), i < l.length → aN (A :: l.eraseIdx i) = aN (l.set i A)
 | [], i, A, h => by simp at h
 | B :: l, 0, A, h => by simp
 | B :: l, i + 1, A, h => by
  have := fX l i A (by simpa using h)
  simp only [List.eraseIdx_cons_succ, List.set_cons_succ]
  rw [mR]
  show aV B (aN (A :: l.eraseIdx i)) = aV B (aN (l.set i A))
  rw [this]

def Ent (l m : List HA) : Prop := ∀ h, aN l h → aN m h
theorem Ent.refl (l : List HA) : Ent l l := fun _ s => s
theorem Ent.trans {l m k : List HA} (a : Ent l m) (b : Ent m k) : Ent l k := fun h s => b h (a h s)
theorem Ent.nil (l : List HA) : Ent l [] := fun _ _ => trivial
theorem Ent.sel {l m : List HA} {A : HA} (i : Nat) (h : l[i]? = some A) (r : Ent (l.eraseIdx i) m) : Ent l (A :: m) := by
 intro hp s
 rw [eR l i A h] at s
 exact bZ hp (fun _ x => x) r s
theorem Ent.sel' {l m : List HA} {A B : HA} (i : Nat) (h : l[i]? = some A) (e : ∀ hp, A hp → B hp) (r : Ent (l.eraseIdx i) m) : Ent l (B :: m) := by
 intro hp s
 rw [eR l i A h] at s
 exact bZ hp e r s
theorem Ent.cons {l m : List HA} {A : HA} (r : Ent l m) : Ent (A :: l) (A :: m) := fun hp s => bZ hp (fun _ x => x) r s
theorem Ent.s {l m : List HA} {A : HA} (h : l[0]? = some A) (r : Ent (l.eraseIdx 0) m) : Ent l (A :: m) := .sel 0 h r
theorem Ent.n {l : List HA} : Ent l [] := .nil _
abbrev Iv (x : Int) : Value := .int .i64 x
abbrev Pt (b : Nat) : Value := .pointer (some ⟨b, 0, none⟩)
abbrev Lb := List UInt8
abbrev _root_.Prod.q4 {A B C D E : Type} (x : A × B × C × D × E) : E := x.2.2.2.2
abbrev _root_.Prod.q8 {A B C D E F G H I : Type} (x : A × B × C × D × E × F × G × H × I) : I := x.2.2.2.2.2.2.2.2
theorem Ent.app {l q m r : List HA} (a : Ent l q) (b : Ent m r) : Ent (l ++ m) (q ++ r) := fun h s =>
 (cu _ _ h).2 (bZ h a b ((cu _ _ h).1 s))
theorem Ent.drop {l m : List HA} {A : HA} (r : Ent l m) : Ent (A :: l) m := fun h s => r h (dT l A h s)
theorem Ent.pr_in {l m : List HA} {p : Prop} (hp : p) (r : Ent l m) : Ent l (pr p :: m) := fun h s =>
 ⟨fun _ => none, h, fun _ => .inl rfl, (by funext i; simp [un]), hp, r h s⟩
theorem Ent.pr_out {l m : List HA} {p : Prop} (r : p → Ent l m) : Ent (pr p :: l) m := by
 rintro h ⟨a, b, d, rfl, hp, s⟩
 exact dT m tt _ ⟨a, b, d, rfl, trivial, r hp b s⟩
theorem Ent.ex_out {α : Type} {l m : List HA} {A : α → HA} (r : ∀ x, Ent (A x :: l) m) : Ent (exs A :: l) m := by
 rintro h ⟨a, b, d, rfl, ⟨x, q⟩, s⟩
 exact r x _ ⟨a, b, d, rfl, q, s⟩
theorem Ent.fold (l m : List HA) : Ent (l ++ m) (l ++ [aN m]) := fun h s =>
 (cu _ _ h).2 (bZ h (fun _ x => x) (fun _ x => iq x) ((cu _ _ h).1 s))
theorem Ent.unfold (l m : List HA) : Ent (l ++ [aN m]) (l ++ m) := fun h s =>
 (cu _ _ h).2 (bZ h (fun _ x => x) (fun h x => by
  have x : aV (aN m) tt h := x
  rw [dG] at x
  exact dT m tt h x) ((cu _ _ h).1 s))

def hpw (w : World) : Hp := fun b => w.heap[b]?
structure Sat (W : World) (H : List HA) (w : World) : Prop where
 os : w.os = W.os
 tape : w.tape = W.tape
 output : w.output = W.output
 size : W.heap.size ≤ w.heap.size
 hp : aN H (hpw w)
theorem Sat.ent {W w : World} {l m : List HA} (s : Sat W l w) (e : Ent l m) : Sat W m w := ⟨s.os, s.tape, s.output, s.size, e _ s.hp⟩
theorem Sat.drew {W w : World} {l : List HA} (s : Sat W l w) (n : Nat) : Sat W l { w with drawn := n } := ⟨s.os, s.tape, s.output, s.size, s.hp⟩
theorem Sat.pr_out {W w : World} {l : List HA} {p : Prop} (s : Sat W (pr p :: l) w) : p ∧ Sat W l w := by
 obtain ⟨a, b, _, _, hp, _⟩ := s.hp
 exact ⟨hp, s.ent (Ent.drop (Ent.refl _))⟩
theorem Sat.ex_out {α : Type} {W w : World} {l : List HA} {A : α → HA} (s : Sat W (exs A :: l) w) : ∃ x, Sat W (A x :: l) w := by
 obtain ⟨a, b, d, e, ⟨x, q⟩, r⟩ := s.hp
 exact ⟨x, s.os, s.tape, s.output, s.size, a, b, d, e, q, r⟩
theorem ke {a b : Hp} {i : Nat} {o : Obj} (h : a i = some o) : un a b i = some o := by simp [un, h]
theorem mv {a b : Hp} (d : dj a b) {i : Nat} {o : Obj} (h : b i = some o) : un a b i = some o := by
 rcases d i with e | e
 ·simp [un, e, h]
 ·rw [h] at e; cases e
theorem iL : ∀ (l : List HA) (i : Nat) (A : HA), l[i]? = some A → ∀ h, aN l h → ∃ a, A a ∧ ∀ j o, a j = some o → h j = some o := by
 intro l i A hi h s
 rw [eR l i A hi] at s
 obtain ⟨a, b, d, rfl, q, _⟩ := s
 exact ⟨a, q, fun j o e => ke e⟩
theorem Sat.at {W w : World} {l : List HA} (s : Sat W l w) {i : Nat} {A : HA} (h : l[i]? = some A) : ∃ a, A a ∧ ∀ j o, a j = some o → w.heap[j]? = some o :=
 iL l i A h _ s.hp
theorem Sat.pts_at {W w : World} {l : List HA} (s : Sat W l w) {i b : Nat} {o : Obj} (h : l[i]? = some (pts b o)) : w.heap[b]? = some o := by
 obtain ⟨a, q, k⟩ := s.at h
 exact k _ _ q

/-! ### 2. What is done to the heap -/
theorem Sat.new {W w : World} {l : List HA} (s : Sat W l w) (o : Obj) : Sat W (pts w.heap.size o :: l) { w with heap := w.heap.push o } := by
 refine ⟨s.os, s.tape, s.output, ?_, ?_⟩
 ·have := s.size; simp; omega
 ·refine ⟨fun i => if i = w.heap.size then some o else none, hpw w, ?_, ?_, ?_, s.hp⟩
  ·intro i
   by_cases h : i = w.heap.size
   ·right; subst h; simp [hpw]
   ·left; simp [h]
  ·funext i
   simp only [hpw, un, Array.getElem?_push]
   by_cases h : i = w.heap.size
   ·subst h; simp
   ·simp [h]
  ·simp [pts]
theorem Sat.upd {W w : World} {l : List HA} {b : Nat} {o o' : Obj} (s : Sat W (pts b o :: l) w) : Sat W (pts b o' :: l) { w with heap := w.heap.setIfInBounds b o' } := by
 have D : w.heap[b]? = some o := s.pts_at (i := 0) rfl
 have q : b < w.heap.size := (Array.getElem?_eq_some_iff.1 D).1
 refine ⟨s.os, s.tape, s.output, by simpa using s.size, ?_⟩
 obtain ⟨a, r, d, e, u, G⟩ := s.hp
 refine ⟨fun i => if i = b then some o' else a i, r, ?_, ?_, ?_, G⟩
 ·intro i
  by_cases h : i = b
  ·subst h
   rcases d i with x | x
   ·have u : a i = some o := u
    rw [u] at x; cases x
   ·exact .inr x
  ·simpa [h] using d i
 ·funext i
  have := congrFun e i
  simp only [hpw] at this ⊢
  simp only [un] at this ⊢
  rw [Array.getElem?_setIfInBounds]
  by_cases h : i = b
  ·subst h; simp [q]
  ·have I : ¬ b = i := fun x => h x.symm
   simp [h, I, this]
 ·simp [pts]
theorem iN (h : Array Obj) (b : Nat) (f : Obj → Obj) (o : Obj) (e : h[b]? = some o) : h.modify b f = h.setIfInBounds b (f o) := by
 apply Array.ext_getElem?
 intro i
 rw [Array.getElem?_modify, Array.getElem?_setIfInBounds]
 have q : b < h.size := (Array.getElem?_eq_some_iff.1 e).1
 by_cases hi : b = i
 ·subst hi
  have r : h[b] = o := by rw [Array.getElem?_eq_getElem q] at e; simpa using e
  simp [q, r]
 ·simp [hi]

/-! ### 3. Temporaries -/
abbrev Env := List (Nat × Value)
def lk : Env → Nat → Option Value
 | [], _ => none
 | (i, v) :: t, j => bif Nat.beq i j then some v else lk t j
def ev (E : Env) : Operand → Option Value
 | .tmp t => lk E t
 | .const v => some v
 | .global g => some (.pointer (some ⟨g, 0, none⟩))
 | .func f => some (.func (.func f) #[] #[])
structure Has (n : Nat) (ds : List Deferred) (E : Env) (a : Act) : Prop where
 size : a.tmps.size = n
 defers : a.defers = ds
 get : ∀ i v, lk E i = some v → a.tmps[i]? = some v
theorem Has.ev {n : Nat} {ds : List Deferred} {E : Env} {a : Act} (h : Has n ds E a) {x : Operand} {v : Value} (e : ev E x = some v) : a.eval x = v := by
 cases x with
 | tmp t =>
  have := h.get t v e
  simp [Act.eval, Array.getD_eq_getD_getElem?, this]
 | const v' => simpa [Go.Proofs.YtndjkejhacfpdaaGreatDoor.ev, Act.eval] using e
 | global g => simpa [Go.Proofs.YtndjkejhacfpdaaGreatDoor.ev, Act.eval] using e
 | func f => simpa [Go.Proofs.YtndjkejhacfpdaaGreatDoor.ev, Act.eval] using e
theorem Has.put {n : Nat} {ds : List Deferred} {E : Env} {a : Act} (h : Has n ds E a) {d : Nat} (v : Value) (hd : Nat.blt d n = true) : Has n ds ((d, v) :: E) (a.put (some d) v) := by
 have q : d < n := by simpa [Nat.blt_eq] using hd
 refine ⟨by simpa [Act.put] using h.size, h.defers, fun i u hi => ?_⟩
 simp only [Act.put]
 rw [Array.getElem?_setIfInBounds]
 simp only [lk] at hi
 by_cases e : d = i
 ·subst e
  simp [h.size, q] at hi ⊢
  exact hi
 ·have : Nat.beq d i = false := by
   rw [Bool.eq_false_iff]; intro x; exact e (Nat.eq_of_beq_eq_true x)
  rw [this] at hi
  simp only [cond_false] at hi
  rw [if_neg e]
  exact h.get i u hi
def Sub : Env → Env → Prop
 | [], _ => True
 | (i, v) :: t, E => lk E i = some v ∧ Sub t E
theorem Has.sub {n : Nat} {ds : List Deferred} {E E' : Env} {a : Act} (h : Has n ds E a) (s : Sub E' E) : Has n ds E' a := by
 refine ⟨h.size, h.defers, ?_⟩
 induction E' with
 | nil => intro i v e; simp [lk] at e
 | cons p t ih =>
  obtain ⟨j, u⟩ := p
  obtain ⟨h1, q⟩ := s
  intro i v e
  simp only [lk] at e
  cases hb : Nat.beq j i with
  | true =>
   rw [hb] at e
   obtain rfl := Nat.eq_of_beq_eq_true hb
   simp only [cond_true, Option.some.injEq] at e
   subst e
   exact h.get _ _ h1
  | false =>
   rw [hb] at e
   exact ih q i v e

end Go.Proofs.YtndjkejhacfpdaaGreatDoor

namespace Go.Proofs.YtndjkejhacfpdaaGreatDoor
open Go.RowKit

structure Cx where
 P : Program
 W : World
 ro : Option Nat
 n : Nat
 ds : List Deferred
def fen : Option Nat → Fence
 | none => Fence.wide
 | some l => Fence.wide.inRound l
theorem fV (ro : Option Nat) (f : FuncId) : (fen ro).fn f := by cases ro <;> trivial
theorem jO (ro : Option Nat) : (fen ro).depth.isSome = true → 1 ≤ 0 := by cases ro <;> (intro h; cases h)
theorem sm (ro : Option Nat) : (fen ro).round = ro := by cases ro <;> rfl

abbrev de (R : Type) := R → Exit → Act → World → Prop
section defs
variable (K : Cx) {R S Y : Type}
def Sim (Q : de R) (c : Code) (E : Env) (H : List HA) (o : Option R) : Prop :=
 ∀ r, o = some r → ∀ a w, Has K.n K.ds E a → Sat K.W H w → c.wpIn (fen K.ro) 0 K.P (Q r) a w
def bX (Q : de R) (ops : Array Oper) (l : List Oper) (E : Env) (H : List HA) (o : Option R) : Prop :=
 ∀ r, o = some r → ∀ a w, Has K.n K.ds E a → Sat K.W H w → wpListIn (fen K.ro) 0 K.P ops (Q r) l a w
def Nrm (Q : de R) (E : Env) (H : List HA) (o : Option R) : Prop :=
 ∀ r, o = some r → ∀ a w, Has K.n K.ds E a → Sat K.W H w → Q r .normal a w
def jr (c : Code) (Q : de R) : de R := fun r => Exit.then (c.wpIn (fen K.ro) 0 K.P (Q r)) (Q r)
def ki (id : Nat) (Q : de R) : de R := fun r => Exit.inBlock id (Q r)
def iA (E : S → Y → Env) (H : S → Y → List HA) : de S := fun s e a w =>
 match e with
 | .normal => ∃ y, Has K.n K.ds (E s y) a ∧ Sat K.W (H s y) w
 | _ => False
def sW (Q : de R) (E : S → Y → Env) (H : S → Y → List HA) : de (S ⊕ R) := fun sr e a w =>
 match sr with
 | .inl s => match e with
  | .normal => ∃ y, Has K.n K.ds (E s y) a ∧ Sat K.W (H s y) w
  | _ => False
 | .inr r => match e with
  | .normal => False
  | e => Q r e a w
def ow (L : S → Option R) (E : S → Y → Env) (H : S → Y → List HA) (Q : de R) : de R := fun r e a w =>
 match e with
 | .normal => ∃ s y, L s = some r ∧ Has K.n K.ds (E s y) a ∧ Sat K.W (H s y) w
 | e => Q r e a w
def oY (fn : Func) (val : R → Y → Value) (B : R → Y → List HA) : de R := fun r e a w =>
 bodyPost K.P fn (fun e q => ∃ y, e = .returned (val r y) ∧ Sat K.W (B r y) q) e a w
end defs

def orR {S R : Type} (q : Option (S ⊕ R)) (o2 : S → Option R) : Option R :=
 match q with
 | none => none
 | some (.inl s) => o2 s
 | some (.inr r) => some r

section rules
variable {K : Cx} {R S Y : Type} {Q : de R} {E : Env} {H : List HA} {o : Option R}
theorem ay {q c2 : Code} (h : Sim K (jr K c2 Q) q E H o) : Sim K Q (.seq q c2) E H o :=
 fun r u a w D G => wpIn_seq (h r u a w D G)
theorem aQ {id : Nat} {c : Code} (h : Sim K (ki id Q) c E H o) : Sim K Q (.block id c) E H o :=
 fun r q a w u D => wpIn_block (h r q a w u D)
theorem aC (h : Nrm K Q E H o) : Sim K Q .skip E H o := fun r q a w u D => wpIn_skip (h r q a w u D)
theorem aI {id : Nat} {l : List Oper} (h : bX K Q l.toArray l E H o) : Sim K Q (.region id l.toArray false) E H o :=
 fun r q a w u D => wpIn_region_lit (h r q a w u D)
theorem ae {ops : Array Oper} (h : Nrm K Q E H o) : bX K Q ops [] E H o := h
theorem aa {c : Code} (h : Sim K Q c E H o) : Nrm K (jr K c Q) E H o := h
theorem bu {id : Nat} (h : Nrm K Q E H o) : Nrm K (ki id Q) E H o := h
theorem ik {c : Code} : Sim K Q c E H none := fun _ h => nomatch h
theorem nP {ops : Array Oper} {l : List Oper} : bX K Q ops l E H none := fun _ h => nomatch h
theorem th : Nrm K Q E H none := fun _ h => nomatch h
theorem bk {x : Operand} {D c2 : Code} {p : Prop} [Decidable p] {G o2 : Option R} (I : ev E x = some (.bool (decide p)))
  (h1 : p → Sim K Q D E H G) (L : ¬ p → Sim K Q c2 E H o2) : Sim K Q (.cond x D c2) E H (if p then G else o2) := by
 intro r q a w u J
 by_cases hp : p
 ·rw [if_pos hp] at q
  exact wpIn_cond_true (by rw [u.ev I]; simp [hp]) (h1 hp r q a w u J)
 ·rw [if_neg hp] at q
  exact wpIn_cond_false (by rw [u.ev I]; simp [hp]) (L hp r q a w u J)
theorem aW {x : Operand} {u c2 : Code} {b : Bool} {D o2 : Option R} (G : ev E x = some (.bool b))
  (h1 : b = true → Sim K Q u E H D) (L : b = false → Sim K Q c2 E H o2) : Sim K Q (.cond x u c2) E H (if b = true then D else o2) := by
 intro r I a w q J
 cases b with
 | true => exact wpIn_cond_true (q.ev G) (h1 rfl r (by simpa using I) a w q J)
 | false => exact wpIn_cond_false (q.ev G) (L rfl r (by simpa using I) a w q J)
theorem cT {x : Operand} {D c2 : Code} {p : Prop} [Decidable p] {G o2 : Option R} (I : ev E x = some (.bool (!decide p)))
  (h1 : p → Sim K Q c2 E H G) (L : ¬ p → Sim K Q D E H o2) : Sim K Q (.cond x D c2) E H (if p then G else o2) := by
 intro r q a w u J
 by_cases hp : p
 ·rw [if_pos hp] at q
  exact wpIn_cond_false (by rw [u.ev I]; simp [hp]) (h1 hp r q a w u J)
 ·rw [if_neg hp] at q
  exact wpIn_cond_true (by rw [u.ev I]; simp [hp]) (L hp r q a w u J)
theorem fH {x : Operand} {q c2 : Code} (D : ev E x = some (.bool true)) (h1 : Sim K Q q E H o) : Sim K Q (.cond x q c2) E H o :=
 fun r G a w u I => wpIn_cond_true (u.ev D) (h1 r G a w u I)
theorem fy {x : Operand} {u c2 : Code} (D : ev E x = some (.bool false)) (h1 : Sim K Q c2 E H o) : Sim K Q (.cond x u c2) E H o :=
 fun r G a w q I => wpIn_cond_false (q.ev D) (h1 r G a w q I)
theorem fo {c : Code} {p : Prop} [Decidable p] {q o2 : Option R} (h1 : p → Sim K Q c E H q) (r : ¬ p → Sim K Q c E H o2) : Sim K Q c E H (if p then q else o2) := by
 by_cases hp : p
 ·rw [if_pos hp]; exact h1 hp
 ·rw [if_neg hp]; exact r hp
theorem jz {ops : Array Oper} {l : List Oper} {p : Prop} [Decidable p] {q o2 : Option R} (h1 : p → bX K Q ops l E H q) (r : ¬ p → bX K Q ops l E H o2) : bX K Q ops l E H (if p then q else o2) := by
 by_cases hp : p
 ·rw [if_pos hp]; exact h1 hp
 ·rw [if_neg hp]; exact r hp
theorem bb {ops : Array Oper} {l : List Oper} {p : Prop} [Decidable p] {q : Option R} (h1 : p → bX K Q ops l E H q) : bX K Q ops l E H (if p then q else none) :=
 jz h1 fun _ => nP
theorem cB {c : Code} {p : Prop} [Decidable p] {q : Option R} (h1 : p → Sim K Q c E H q) : Sim K Q c E H (if p then q else none) :=
 fo h1 fun _ => ik
theorem ax {ops : Array Oper} {l : List Oper} {q : Option S} {o2 : S → Option R} (h : ∀ s, q = some s → bX K Q ops l E H (o2 s)) : bX K Q ops l E H (q.bind o2) := by
 cases q with
 | none => exact nP
 | some s => exact h s rfl
theorem bo {c : Code} {q : Option S} {o2 : S → Option R} (h : ∀ s, q = some s → Sim K Q c E H (o2 s)) : Sim K Q c E H (q.bind o2) := by
 cases q with
 | none => exact ik
 | some s => exact h s rfl
theorem bR {ops : Array Oper} {l : List Oper} {H' : List HA} (e : Ent H H') (h : bX K Q ops l E H' o) : bX K Q ops l E H o :=
 fun r q a w u D => h r q a w u (D.ent e)
theorem eP {c : Code} {H' : List HA} (e : Ent H H') (h : Sim K Q c E H' o) : Sim K Q c E H o :=
 fun r q a w u D => h r q a w u (D.ent e)
theorem nt {H' : List HA} (e : Ent H H') (h : Nrm K Q E H' o) : Nrm K Q E H o :=
 fun r q a w u D => h r q a w u (D.ent e)
theorem mJ {c : Code} {p : Prop} (h : p → Sim K Q c E H o) : Sim K Q c E (pr p :: H) o :=
 fun r u a w D q => h q.pr_out.1 r u a w D q.pr_out.2
theorem uf {c : Code} {A : Y → HA} (h : ∀ y, Sim K Q c E (A y :: H) o) : Sim K Q c E (exs A :: H) o :=
 fun r q a w u D => let ⟨y, s⟩ := D.ex_out; h y r q a w u s
theorem bF (Y : Type) {D c2 : Code} {u : Option S} {o2 : S → Option R} (G : S → Y → Env) (I : S → Y → List HA)
  (h1 : Sim K (iA K G I) D E H u) (L : ∀ s y, Sim K Q c2 (G s y) (I s y) (o2 s)) : Sim K Q (.seq D c2) E H (u.bind o2) := by
 intro r q a w U X
 cases ho : u with
 | none => rw [ho] at q; cases q
 | some s =>
  rw [ho] at q
  refine wpIn_seq (wpIn_mono (h1 s ho a w U X) ?_)
  intro e a' w' J
  cases e with
  | normal => obtain ⟨y, x1, x2⟩ := J; exact L s y r q a' w' x1 x2
  | _ => exact J.elim
theorem fm (Y : Type) {G c2 : Code} {D : Option (S ⊕ R)} {o2 : S → Option R} (I : S → Y → Env) (J : S → Y → List HA)
  (h1 : Sim K (sW K Q I J) G E H D) (h2 : ∀ s y, Sim K Q c2 (I s y) (J s y) (o2 s)) : Sim K Q (.seq G c2) E H (orR D o2) := by
 intro r q a w L U
 cases ho : D with
 | none => rw [ho] at q; cases q
 | some sr =>
  rw [ho] at q
  cases sr with
  | inl s =>
   refine wpIn_seq (wpIn_mono (h1 _ ho a w L U) ?_)
   intro e X w' u
   cases e with
   | normal => obtain ⟨y, x1, x2⟩ := u; exact h2 s y r q X w' x1 x2
   | _ => exact u.elim
  | inr r' =>
   obtain rfl : r' = r := by simpa [orR] using q
   refine wpIn_seq (wpIn_mono (h1 _ ho a w L U) ?_)
   intro e X w' u
   cases e with
   | normal => exact u.elim
   | _ => exact u
theorem aH {q : S → Y → Env} {u : S → Y → List HA} {s : S} (y : Y) (D : Sub (q s y) E) (G : Ent H (u s y)) : Nrm K (iA K q u) E H (some s) := by
 intro r I a w J L
 cases I
 exact ⟨y, J.sub D, L.ent G⟩
theorem eV {q : S → Y → Env} {u : S → Y → List HA} {s : S} (y : Y) (D : Sub (q s y) E) (G : Ent H (u s y)) : Nrm K (sW K Q q u) E H (some (.inl s)) := by
 intro r I a w J L
 cases I
 exact ⟨y, J.sub D, L.ent G⟩
theorem kM {F : Fence} {n : Nat} {P : Program} {ops : Array Oper} {u D : Exit → Act → World → Prop} : ∀ (l1 l2 : List Oper) (a : Act) (w : World),
  wpListIn F n P ops u l1 a w → (∀ a w, u .normal a w → wpListIn F n P ops D l2 a w) → (∀ c a w, u (.panic c) a w → D (.panic c) a w) → (∀ a w, u .outgrown a w → D .outgrown a w) → wpListIn F n P ops D (l1 ++ l2) a w
 | [], l2, a, w, h, h2, _, _ => h2 a w h
 | o :: l1, l2, a, w, h, h2, h3, h4 => by
  simp only [List.cons_append, wpListIn] at h ⊢
  split
  ·rename_i I
   rw [if_pos I] at h
   refine ⟨h.1, ?_⟩
   have mono : ∀ (r : Result Next), o.uponIn F n P a (wpListIn F n P ops u l1) u r → o.uponIn F n P a (wpListIn F n P ops D (l1 ++ l2)) D r := by
    intro r q
    have nx : ∀ a w, wpListIn F n P ops u l1 a w → wpListIn F n P ops D (l1 ++ l2) a w := fun a w x => kM l1 l2 a w x h2 h3 h4
    have J : LetsOut u → LetsOut D := fun ⟨a, w, x⟩ => ⟨a, w, h4 a w x⟩
    cases r with
    | ok nxt w' =>
     cases nxt with
     | value v => exact nx _ _ q
     | skip => exact nx _ _ q
     | defer d => exact nx _ _ q
     | enter f args =>
      refine ⟨q.1, q.2.mono ?_⟩
      intro e G x
      cases e with
      | returned v => exact nx _ _ x
      | panicked c => exact h3 _ _ _ x
      | outgrown => exact J x
     | row row args => exact ⟨q.1, q.2.mono fun v G x => nx _ _ x⟩
     | round l f tmps assign body =>
      refine ⟨q.1, q.2.mono ?_⟩
      intro e G x
      cases e with
      | returned v => exact nx _ _ x
      | panicked c => exact h3 _ _ _ x
      | outgrown => exact J x
     | _ => exact q.elim
    | halt h w' => cases h <;> first | exact h3 _ _ _ q | exact q.elim
   exact mono _ h.2
  ·rename_i I
   rw [if_neg I] at h
   exact ⟨h.1, kM l1 l2 _ w h.2 h2 h3 h4⟩
theorem ti (Y : Type) {ops : Array Oper} {l1 l2 : List Oper} {u : Option S} {o2 : S → Option R} (D : S → Y → Env) (G : S → Y → List HA)
  (h1 : bX K (iA K D G) ops l1 E H u) (I : ∀ s y, bX K Q ops l2 (D s y) (G s y) (o2 s)) : bX K Q ops (l1 ++ l2) E H (u.bind o2) := by
 intro r q a w J L
 cases ho : u with
 | none => rw [ho] at q; cases q
 | some s =>
  rw [ho] at q
  exact kM l1 l2 a w (h1 s ho a w J L) (fun U X ⟨y, x1, x2⟩ => I s y r q U X x1 x2) (fun _ _ _ x => x.elim) (fun _ _ x => x.elim)

theorem cr {c : Code} (Y : Type) (L : Nat → S → Option R) (Es : S → Y → Env) (Hs : S → Y → List HA) (h0 : ∀ s, L 0 s = none)
  (hb : ∀ k s y, Sim K (ow K (L k) Es Hs Q) c (Es s y) (Hs s y) (L (k + 1) s)) (k : Nat) (s : S) (y : Y) (hE : Sub (Es s y) E) (hH : Ent H (Hs s y)) :
  Sim K Q (.loop c) E H (L k s) := by
 intro r D a w he hs
 refine wpIn_wpghost (fun j a w => ∃ s y, L j s = some r ∧ Has K.n K.ds (Es s y) a ∧ Sat K.W (Hs s y) w) k ⟨s, y, D, he.sub hE, hs.ent hH⟩ ?_
 rintro j a w ⟨s, y, D, he, hs⟩
 cases j with
 | zero => rw [h0] at D; cases D
 | succ j =>
  refine wpIn_mono (hb j s y r D a w he hs) ?_
  intro e G J u
  cases e with
  | normal => exact ⟨j, Nat.lt_succ_self j, u⟩
  | _ => exact u
where
 wpIn_wpghost {F : Fence} {n : Nat} {P : Program} {Q : Exit → Act → World → Prop} {a : Act} {w : World} {c : Code} (I : Nat → Act → World → Prop) (n₀ : Nat) (h₀ : I n₀ a w)
   (U : ∀ m a w, I m a w → c.wpIn F n P (Exit.then (fun G J => ∃ k, k < m ∧ I k G J) Q) a w) : (Code.loop c).wpIn F n P Q a w := by
  intro b k cs a7 hb D
  have key : ∀ j a w, I j a w →
    ∃ e G J, Q e G J ∧ ArrivesIn (Machine.fenced P F) P (lone (b.atR a (.code c :: .inLoop c :: k)) cs w) b k cs e G J := by
   intro j
   induction j using Nat.strongRecOn with
   | _ j ih =>
    intro a w hI
    obtain ⟨e, a₁, w₁, u, q⟩ := U j a w hI b (.inLoop c :: k) cs a7 hb D
    cases e with
    | normal =>
     obtain ⟨j', a8, bc⟩ := u
     obtain ⟨e₂, a₂, w₂, be, X⟩ := ih j' a8 a₁ w₁ bc
     exact ⟨e₂, a₂, w₂, be, .of_steps (StepsIn.trans q (.one (fenced_calm hb D rfl) stepR_inLoop)) X⟩
    | exit id => exact ⟨_, a₁, w₁, u, .pass (x := .inLoop c) rfl (fun _ _ => .inl (by simp)) q⟩
    | goto l => exact ⟨_, a₁, w₁, u, .pass (x := .inLoop c) rfl (fun _ _ => .inl (by simp)) q⟩
    | ret => exact ⟨_, a₁, w₁, u, .pass (x := .inLoop c) rfl (fun _ _ => .inl (by simp)) q⟩
    | panic ch => exact ⟨_, a₁, w₁, u, .pass (x := .inLoop c) rfl (fun _ _ => .inl (by simp)) q⟩
    | outgrown => exact ⟨_, a₁, w₁, u, .pass (x := .inLoop c) rfl (fun _ _ => .inl (by simp)) q⟩
  obtain ⟨e, G, J, u, q⟩ := key _ a w h₀
  exact ⟨e, G, J, u, .of_steps (.one (fenced_calm hb D rfl) stepR_loop) q⟩
theorem bP {L : S → Option R} {q : S → Y → Env} {r : S → Y → List HA} {s : S} (y : Y) (u : Sub (q s y) E) (D : Ent H (r s y)) : Nrm K (ow K L q r Q) E H (L s) :=
 fun _ G _ _ I J => ⟨s, y, G, I.sub u, J.ent D⟩
/-! ### Results -/
def jm : List ResultVar → Env → Option (List Value)
 | [], _ => some []
 | .tmp t :: l, E => match lk E t, jm l E with
  | some v, some vs => some (v :: vs)
  | _, _ => none
 | .cell .. :: _, _ => none
def tup : List Value → Value
 | [v] => v
 | vs => .tuple vs.toArray
theorem pE {n : Nat} {ds : List Deferred} {a : Act} {P : Program} {w : World} (r : Has n ds E a) (g : ResultVar → Sem Value) (u : ∀ t, g (.tmp t) = Sem.pure (a.tmps.getD t undef)) : ∀ (l : List ResultVar) (vs : List Value), jm l E = some vs →
  (l.mapM g).run P w = .ok vs w
 | [], vs, h => by simp [jm] at h; subst h; rfl
 | .tmp t :: l, vs, h => by
  simp only [jm] at h
  split at h
  ·rename_i v q h1 D
   cases h
   have G := pE (P := P) (w := w) r g u l q D
   have := r.get _ _ h1
   simp only [List.mapM_cons, Sem.run_bind, u, Sem.run_pure', Result.andThen_ok]
   rw [G]
   simp [Array.getD_eq_getD_getElem?, this]
  ·cases h
 | .cell .. :: l, vs, h => by simp [jm] at h
theorem mF {n : Nat} {ds : List Deferred} {a : Act} {P : Program} {w : World} {fn : Func} (q : Has n ds E a) {vs : List Value} (h : jm fn.results.toList E = some vs) :
  (results fn a.tmps).run P w = .ok (tup vs) w := by
 unfold results
 simp only [Sem.run_bind]
 rw [← Array.toArray_toList (xs := fn.results), List.mapM_toArray]
 simp only [Sem.run_map]
 rw [pE (P := P) (w := w) q _ (fun _ => rfl) fn.results.toList vs h]
 simp only [Result.andThen_ok]
 match vs with
 | [] => simp [tup]
 | [v] => simp [tup]
 | v :: u :: t => simp [tup]
theorem qt {fn : Func} {val : R → Y → Value} {B : R → Y → List HA} {r : R} {vs : List Value} (y : Y) (hd : K.ds = []) (q : jm fn.results.toList E = some vs) (G : tup vs = val r y) (I : Ent H (B r y)) :
  ∀ u, some r = some u → ∀ a w, Has K.n K.ds E a → Sat K.W H w → a.defers = [] ∧ ∃ v, (results fn a.tmps).run K.P w = .ok v w ∧ ∃ y, Ending.returned v = .returned (val u y) ∧ Sat K.W (B u y) w := by
 intro u J a w D L
 cases J
 exact ⟨D.defers.trans hd, _, mF D q, y, by rw [G], L.ent I⟩
theorem fc {fn : Func} {val : R → Y → Value} {B : R → Y → List HA} {r : R} {vs : List Value} (y : Y) (hd : K.ds = []) (q : jm fn.results.toList E = some vs) (u : tup vs = val r y) (D : Ent H (B r y)) :
  Nrm K (oY K fn val B) E H (some r) := fun G I a w J L => qt (K := K) y hd q u D G I a w J L

/-! ### Functions -/
end rules
def Fn (P : Program) (W : World) (f : FuncId) (args : List Value) (A : List HA) (F : HA) {R Y : Type} (o : Option R) (val : R → Y → Value) (B : R → Y → List HA) : Prop :=
 ∀ r, o = some r → ∀ w, Sat W (A ++ [F]) w → Calls P f args.toArray w fun e q => ∃ y, e = .returned (val r y) ∧ Sat W (B r y ++ [F]) q
def ku : Nat → List Value → Env
 | _, [] => []
 | i, v :: l => (i, v) :: ku (i + 1) l
theorem pF : ∀ (l : List Value) (i j : Nat) (v : Value), lk (ku i l) j = some v → ∃ k, j = i + k ∧ l[k]? = some v
 | [], i, j, v, h => by simp [ku, lk] at h
 | u :: l, i, j, v, h => by
  simp only [ku, lk] at h
  cases hb : Nat.beq i j with
  | true =>
   rw [hb] at h
   exact ⟨0, (Nat.eq_of_beq_eq_true hb).symm, by simpa using h⟩
  | false =>
   rw [hb] at h
   obtain ⟨k, h1, q⟩ := pF l (i + 1) j v h
   exact ⟨k + 1, by omega, by simpa using q⟩
theorem kv (args : List Value) (n : Nat) (u : args.length ≤ n) : Has n [] (ku 0 args) { tmps := args.toArray ++ Array.replicate (n - args.toArray.size) undef, defers := [] } := by
 refine ⟨by simp; omega, rfl, fun i v h => ?_⟩
 obtain ⟨k, rfl, q⟩ := pF args 0 i v h
 have r : k < args.length := (List.getElem?_eq_some_iff.1 q).1
 simp only [Nat.zero_add]
 rw [Array.getElem?_append_left (by simpa using r)]
 simpa using q
theorem aL {P : Program} {W : World} {f : FuncId} {args : List Value} {A : List HA} {F : HA} {R Y : Type} {o : Option R} {val : R → Y → Value} {B : R → Y → List HA}
  {fn : Func} {c : Code} (n : Nat) (q : P.funcs[f]? = some fn) (u : fn.body = some c) (D : fn.ntmps = n) (G : Nat.ble args.length n = true)
  (h : Sim ⟨P, W, none, n, []⟩ (oY ⟨P, W, none, n, []⟩ fn val fun r y => B r y ++ [F]) c (ku 0 args) (A ++ [F]) o) : Fn P W f args A F o val B := by
 intro r I w J
 refine (callsIn_wide (n := 0)).1 (callsIn_of_wp q u trivial ?_ rfl)
 have := h r I _ w (kv args n (by simpa [Nat.ble_eq] using G)) J
 rw [D]
 exact this

/-! ### Operations -/
section ops
variable (K : Cx) {R Y : Type}
def RQ (o : Oper) (E : Env) (H : List HA) (v : Value) : Prop :=
 ∀ a w, Has K.n K.ds E a → Sat K.W H w → ∀ next Q, (∀ q, Sat K.W H q → next (a.put o.dst v) q) → o.wpIn (fen K.ro) 0 K.P a w next Q
def RE (o : Oper) (E : Env) (H : List HA) (v : Y → Value) (H' : Y → List HA) : Prop :=
 ∀ a w, Has K.n K.ds E a → Sat K.W H w → ∀ next Q, (∀ y q, Sat K.W (H' y) q → next (a.put o.dst (v y)) q) → o.wpIn (fen K.ro) 0 K.P a w next Q
end ops
section
variable {K : Cx} {R S Y : Type} {Q : de R} {E : Env} {H : List HA} {opt : Option R} {ops : Array Oper} {rest : List Oper} {o : Oper}
theorem RE.rq {v : Y → Value} {H' : Y → List HA} {u : Value} (h : RE K o E H v H') (q : ∀ y, v y = u) (r : ∀ y, Ent (H' y) H) : RQ K o E H u :=
 fun a w D G next Q I => h a w D G next Q fun y J s => by rw [q]; exact I J (s.ent (r y))
theorem RQ.sub {v : Value} {E' : Env} (s : Sub E' E) (h : RQ K o E' H v) : RQ K o E H v := fun a w q r => h a w (q.sub s) r
theorem iM {d : Nat} {v : Value} (G : RQ K o E H v) (I : o.guard = none) (hd : o.dst = some d) (J : Nat.blt d K.n = true)
  (h : bX K Q ops rest ((d, v) :: E) H opt) : bX K Q ops (o :: rest) E H opt := by
 intro r q a w D L
 refine wpListIn_plain I fun X u => G a w D L _ _ fun U s => u _ _ ?_
 rw [hd]
 exact h r q _ U (D.put v J) s
theorem aU {v : Y → Value} {H' : Y → List HA} (G : RE K o E H v H') (I : o.guard = none) (hd : o.dst = none)
  (h : ∀ y, bX K Q ops rest E (H' y) opt) : bX K Q ops (o :: rest) E H opt := by
 intro r q a w D J
 refine wpListIn_plain I fun U u => G a w D J _ _ fun y L s => u _ _ ?_
 rw [hd]
 exact h y r q _ L D s
theorem ah {d : Nat} {v : Y → Value} {H' : Y → List HA} (G : RE K o E H v H') (I : o.guard = none) (hd : o.dst = some d) (J : Nat.blt d K.n = true)
  (h : ∀ y, bX K Q ops rest ((d, v y) :: E) (H' y) opt) : bX K Q ops (o :: rest) E H opt := by
 intro r q a w D L
 refine wpListIn_plain I fun X u => G a w D L _ _ fun y U s => u _ _ ?_
 rw [hd]
 exact h y r q _ U (D.put _ J) s
/-! A guard: the operation is carried out, or not. -/
theorem jb {E : Env} {n : Nat} {ds : List Deferred} {a : Act} (r : Has n ds E a) {j dj : Nat} {q b : Bool} (u : o.guard = some (j, q)) (D : ((ops[j]?).bind (·.dst)) = some dj) (G : lk E dj = some (.bool b)) :
  Region.wanted o (yielded ops a.tmps) = (b == q) := by
 simp only [Region.wanted, u, yielded, D, Option.bind_some, r.get _ _ G]
 cases b <;> cases q <;> rfl
theorem pG {j dj : Nat} {q b : Bool} (I : o.guard = some (j, q)) (J : ((ops[j]?).bind (·.dst)) = some dj) (L : lk E dj = some (.bool b)) (U : (b == q) = true)
  (h : ∀ r, opt = some r → ∀ a w, Has K.n K.ds E a → Sat K.W H w → ∀ next, (∀ a w, wpListIn (fen K.ro) 0 K.P ops (Q r) rest a w → next a w) → o.wpIn (fen K.ro) 0 K.P a w next (Q r)) : bX K Q ops (o :: rest) E H opt := by
 intro r u a w G X
 refine wpListIn_step fun K' D => ?_
 rw [jb G I J L, U]
 simp only [if_true]
 exact h r u a w G X K' D
theorem aT {d j dj : Nat} {q b : Bool} {v : Value} (I : RQ K o E H v) (J : o.guard = some (j, q)) (L : ((ops[j]?).bind (·.dst)) = some dj) (U : lk E dj = some (.bool b)) (X : (b == q) = true) (hd : o.dst = some d) (hn : Nat.blt d K.n = true)
  (h : bX K Q ops rest ((d, v) :: E) H opt) : bX K Q ops (o :: rest) E H opt :=
 pG J L U X fun r u a w G hs next D => I a w G hs _ _ fun w' s => D _ _ (by rw [hd]; exact h r u _ w' (G.put v hn) s)
theorem gc {d j dj : Nat} {q b : Bool} {v : Y → Value} {H' : Y → List HA} (I : RE K o E H v H') (J : o.guard = some (j, q)) (L : ((ops[j]?).bind (·.dst)) = some dj) (U : lk E dj = some (.bool b)) (X : (b == q) = true) (hd : o.dst = some d) (hn : Nat.blt d K.n = true)
  (h : ∀ y, bX K Q ops rest ((d, v y) :: E) (H' y) opt) : bX K Q ops (o :: rest) E H opt :=
 pG J L U X fun r u a w G hs next D => I a w G hs _ _ fun y w' s => D _ _ (by rw [hd]; exact h y r u _ w' (G.put _ hn) s)
def cv (g : Bool) (v : Value) : Value := bif g then v else undef
theorem ak {d j dj : Nat} {q b : Bool} {v : Value} (X : (b == q) = true → RQ K o E H v) (G : o.guard = some (j, q)) (I : ((ops[j]?).bind (·.dst)) = some dj) (J : lk E dj = some (.bool b)) (hd : o.dst = some d) (L : Nat.blt d K.n = true)
  (h : bX K Q ops rest ((d, cv (b == q) v) :: E) H opt) : bX K Q ops (o :: rest) E H opt := by
 cases hw : (b == q) with
 | true =>
  rw [hw] at h
  exact aT (X hw) G I J hw hd L h
 | false =>
  rw [hw] at h
  intro r u a w U hs
  refine wpListIn_step fun K' D => ?_
  rw [jb U G I J, hw]
  simp only [Bool.false_eq_true, if_false]
  refine ⟨fun f _ => fV _ _, D _ _ ?_⟩
  rw [hd]
  exact h r u _ w (U.put undef L) hs
end

end Go.Proofs.YtndjkejhacfpdaaGreatDoor

namespace Go.Proofs.YtndjkejhacfpdaaGreatDoor
open Go.RowKit

section
variable {K : Cx} {R S Y : Type} {Q : de R} {E : Env} {H : List HA} {opt : Option R} {ops : Array Oper} {rest : List Oper} {o : Oper}

theorem fW {v : Y → Value} {H' : Y → List HA} (u : ∀ c, o.op ≠ .defer c)
  (h : ∀ a w, Has K.n K.ds E a → Sat K.W H w → ∃ y q, (execOp a.eval o).run K.P w = .ok (.value (v y)) q ∧ Sat K.W (H' y) q) : RE K o E H v H' := by
 intro a w D G next Q r
 obtain ⟨y, q, I, s⟩ := h a w D G
 refine ⟨fun f _ => fV _ _, ?_⟩
 rw [Oper.semAt_eq _ _ _ u, I]
 exact r y q s
theorem nq {H' : Y → List HA} (u : ∀ c, o.op ≠ .defer c)
  (h : ∀ a w, Has K.n K.ds E a → Sat K.W H w → ∃ y q, (execOp a.eval o).run K.P w = .ok .skip q ∧ Sat K.W (H' y) q) : RE K o E H (fun _ => undef) H' := by
 intro a w D G next Q r
 obtain ⟨y, q, I, s⟩ := h a w D G
 refine ⟨fun f _ => fV _ _, ?_⟩
 rw [Oper.semAt_eq _ _ _ u, I]
 exact r y q s
theorem vo {v : Value} (u : ∀ c, o.op ≠ .defer c)
  (h : ∀ a w, Has K.n K.ds E a → Sat K.W H w → ∃ q, (execOp a.eval o).run K.P w = .ok (.value v) q ∧ Sat K.W H q) : RQ K o E H v := by
 intro a w D G next Q r
 obtain ⟨q, I, s⟩ := h a w D G
 refine ⟨fun f _ => fV _ _, ?_⟩
 rw [Oper.semAt_eq _ _ _ u, I]
 exact r q s
theorem cA {v : Value} (r : ∀ c, o.op ≠ .defer c) (h : ∀ a w, Has K.n K.ds E a → Sat K.W H w → (execOp a.eval o).run K.P w = .ok (.value v) w) : RQ K o E H v :=
 vo r fun a w u q => ⟨w, h a w u q, q⟩

/-! ### 1. Moves -/
theorem aZ {x : Operand} {v : Value} (q : o.op = .move x) (r : ev E x = some v) : RQ K o E H v :=
 cA (by rw [q]; intro c h; cases h) fun a w u _ => by unfold execOp; simp only [q]; rw [u.ev r]; rfl
theorem cz {x : Operand} {v : Value} (q : o.op = .assign x) (r : ev E x = some v) : RQ K o E H v :=
 cA (by rw [q]; intro c h; cases h) fun a w u _ => by unfold execOp; simp only [q]; rw [u.ev r]; rfl
theorem cf {x y z : Operand} {b : Bool} {u v t : Value} (r : o.op = .pick x y z) (D : ev E x = some (.bool b)) (G : ev E y = some u) (I : ev E z = some v) (J : (bif b then u else v) = t) : RQ K o E H t :=
 cA (by rw [r]; intro c h; cases h) fun a w q _ => by
  unfold execOp; simp only [r]; rw [q.ev D, q.ev G, q.ev I, ← J]; cases b <;> rfl
theorem dr {x y : Operand} {b c : Bool} (q : o.op = .pick x y (.const (.bool false))) (r : ev E x = some (.bool b)) (u : ev E y = some (cv (b == true) (.bool c))) : RQ K o E H (.bool (b && c)) :=
 cf q r u rfl (by cases b <;> rfl)
theorem dU {x y : Operand} {b c : Bool} (q : o.op = .pick x (.const (.bool true)) y) (r : ev E x = some (.bool b)) (u : ev E y = some (cv (b == false) (.bool c))) : RQ K o E H (.bool (b || c)) :=
 cf q r rfl u (by cases b <;> rfl)
theorem bG {x : Operand} {i : Nat} {vs : Array Value} {v : Value} (q : o.op = .extract x i) (r : ev E x = some (.tuple vs)) (u : vs[i]? = some v) : RQ K o E H v :=
 cA (by rw [q]; intro c h; cases h) fun a w D _ => by
  unfold execOp; simp only [q]; rw [D.ev r]
  simp [Instr.extract, u]

/-! ### 2. Numbers -/
theorem fP {b : BinOp} {xt yt : TypeId} {x y : Operand} {u v t : Value} (q : o.op = .binOp b xt x y yt) (D : ev E x = some u) (G : ev E y = some v)
  (I : ∀ P w, (eqGuard b xt x y u v).run P w = .ok () w) (J : ∀ P w, (binOp b xt u v).run P w = .ok t w) : RQ K o E H t :=
 cA (by rw [q]; intro c h; cases h) fun a w r _ => by
  unfold execOp; simp only [q]; rw [r.ev D, r.ev G]
  simp [I, J]
theorem dz {b : BinOp} {xt : TypeId} {x y : Operand} {k q : IntKind} {m n : Int} (P : Program) (w : World) : (eqGuard b xt x y (.int k m) (.int q n)).run P w = .ok () w := by
 unfold eqGuard; cases b <;> rfl
theorem pK {b : BinOp} {xt : TypeId} {x y : Operand} {m n : Bool} (P : Program) (w : World) : (eqGuard b xt x y (.bool m) (.bool n)).run P w = .ok () w := by
 unfold eqGuard; cases b <;> rfl
theorem jW {b : BinOp} {xt : TypeId} {x y : Operand} {m n : ByteArray} (P : Program) (w : World) : (eqGuard b xt x y (.string m) (.string n)).run P w = .ok () w := by
 unfold eqGuard; cases b <;> rfl
section ints
variable {xt yt : TypeId} {x y : Operand} {k : IntKind} {m n : Int}
theorem bU (q : o.op = .binOp .add xt x y yt) (r : ev E x = some (.int k m)) (u : ev E y = some (.int k n)) : RQ K o E H (.int k (k.wrap (m + n))) :=
 fP q r u dz fun P w => by simp [binOp, Op.intArith]
theorem cW (q : o.op = .binOp .sub xt x y yt) (r : ev E x = some (.int k m)) (u : ev E y = some (.int k n)) : RQ K o E H (.int k (k.wrap (m - n))) :=
 fP q r u dz fun P w => by simp [binOp, Op.intArith]
theorem tM (q : o.op = .binOp .mul xt x y yt) (r : ev E x = some (.int k m)) (u : ev E y = some (.int k n)) : RQ K o E H (.int k (k.wrap (m * n))) :=
 fP q r u dz fun P w => by simp [binOp, Op.intArith]
theorem vA (q : o.op = .binOp .quo xt x y yt) (r : ev E x = some (.int k m)) (u : ev E y = some (.int k n)) (D : n ≠ 0) : RQ K o E H (.int k (k.wrap (m.tdiv n))) :=
 fP q r u dz fun P w => by simp [binOp, Op.intDiv, D]
theorem cx (q : o.op = .binOp .lss xt x y yt) (r : ev E x = some (.int k m)) (u : ev E y = some (.int k n)) : RQ K o E H (.bool (decide (m < n))) :=
 fP q r u dz fun P w => by simp [binOp, Op.intCmp]
theorem iC (q : o.op = .binOp .leq xt x y yt) (r : ev E x = some (.int k m)) (u : ev E y = some (.int k n)) : RQ K o E H (.bool (decide (m ≤ n))) :=
 fP q r u dz fun P w => by simp [binOp, Op.intCmp]
theorem cF (q : o.op = .binOp .gtr xt x y yt) (r : ev E x = some (.int k m)) (u : ev E y = some (.int k n)) : RQ K o E H (.bool (decide (n < m))) :=
 fP q r u dz fun P w => by simp [binOp, Op.intCmp]
theorem ju (q : o.op = .binOp .geq xt x y yt) (r : ev E x = some (.int k m)) (u : ev E y = some (.int k n)) : RQ K o E H (.bool (decide (n ≤ m))) :=
 fP q r u dz fun P w => by simp [binOp, Op.intCmp]
theorem bO (q : o.op = .binOp .eql xt x y yt) (r : ev E x = some (.int k m)) (u : ev E y = some (.int k n)) : RQ K o E H (.bool (decide (m = n))) :=
 fP q r u dz fun P w => by simp [binOp, Op.intCmp]; rfl
theorem cZ (q : o.op = .binOp .neq xt x y yt) (r : ev E x = some (.int k m)) (u : ev E y = some (.int k n)) : RQ K o E H (.bool (!decide (m = n))) :=
 fP q r u dz fun P w => by simp [binOp, Op.intCmp]; rfl
def ca (b : BinOp) (k : IntKind) (m n : Int) : Int :=
 k.wrap (match b with
  | .and => (BitVec.ofInt k.bits m &&& BitVec.ofInt k.bits n).toNat
  | .or => (BitVec.ofInt k.bits m ||| BitVec.ofInt k.bits n).toNat
  | .xor => (BitVec.ofInt k.bits m ^^^ BitVec.ofInt k.bits n).toNat
  | _ => (BitVec.ofInt k.bits m &&& ~~~(BitVec.ofInt k.bits n)).toNat)
theorem pJ (q : o.op = .binOp .and xt x y yt) (r : ev E x = some (.int k m)) (u : ev E y = some (.int k n)) : RQ K o E H (.int k (ca .and k m n)) :=
 fP q r u dz fun P w => by simp [binOp, Op.intBits, ca]
theorem mT (q : o.op = .binOp .or xt x y yt) (r : ev E x = some (.int k m)) (u : ev E y = some (.int k n)) : RQ K o E H (.int k (ca .or k m n)) :=
 fP q r u dz fun P w => by simp [binOp, Op.intBits, ca]
theorem so (q : o.op = .binOp .xor xt x y yt) (r : ev E x = some (.int k m)) (u : ev E y = some (.int k n)) : RQ K o E H (.int k (ca .xor k m n)) :=
 fP q r u dz fun P w => by simp [binOp, Op.intBits, ca]
theorem oz {q : IntKind} (r : o.op = .binOp .shl xt x y yt) (u : ev E x = some (.int k m)) (D : ev E y = some (.int q n)) (G : 0 ≤ n) : RQ K o E H (.int k (k.wrap (m * 2 ^ (min n.toNat k.bits)))) :=
 fP r u D dz fun P w => by simp [binOp, Op.shift, Int.not_lt.2 G]
theorem lK {q : IntKind} (r : o.op = .binOp .shr xt x y yt) (u : ev E x = some (.int k m)) (D : ev E y = some (.int q n)) (G : 0 ≤ n) : RQ K o E H (.int k (m.fdiv (2 ^ (min n.toNat k.bits)))) :=
 fP r u D dz fun P w => by simp [binOp, Op.shift, Int.not_lt.2 G]
theorem rv {xt : TypeId} (q : o.op = .unOp .xor xt x) (r : ev E x = some (.int k m)) : RQ K o E H (.int k (ca .xor k (if k.signed then -1 else k.max) m)) :=
 cA (by rw [q]; intro c h; cases h) fun a w u _ => by
  unfold execOp; simp only [q]; rw [u.ev r]
  simp [Op.unary, Op.intBits, ca]
theorem eT {xt : TypeId} {b : Bool} (q : o.op = .unOp .not xt x) (r : ev E x = some (.bool b)) : RQ K o E H (.bool (!b)) :=
 cA (by rw [q]; intro c h; cases h) fun a w u _ => by
  unfold execOp; simp only [q]; rw [u.ev r]
  simp [Op.unary]
theorem fL {s d : TypeId} {q : IntKind} {u : TypeDesc} (r : o.op = .convert s d x) (D : ev E x = some (.int k m)) (G : K.P.underlying s = some u) (hd : K.P.underlying d = some (.int q)) : RQ K o E H (.int q (q.wrap m)) :=
 cA (by rw [r]; intro c h; cases h) fun a w I _ => by
  unfold execOp; simp only [r]; rw [I.ev D]
  simp [convert, underlying, program, Sem.run, G, hd, Conv.intToInt]
theorem pL {t : TypeId} {b c : Bool} (P : Program) (q : P.underlying t = some .bool) (w : World) : (Op.equal t (.bool b) (.bool c)).run P w = .ok (b == c) w := by
 rw [show Op.equal t (.bool b) (.bool c) = Op.equalIn (9999 + 1) t (.bool b) (.bool c) from rfl, Op.equalIn]
 simp [underlying, program, Sem.run, q]
theorem tF {b c : Bool} (q : o.op = .binOp .neq xt x y yt) (u : ev E x = some (.bool b)) (D : ev E y = some (.bool c)) (G : K.P.underlying xt = some .bool) : RQ K o E H (.bool (!(b == c))) :=
 cA (by rw [q]; intro c h; cases h) fun a w r _ => by
  unfold execOp; simp only [q]; rw [r.ev u, r.ev D]
  simp [pK, binOp, pL K.P G]
end ints
/-! ### 3. Strings: as lists of bytes -/
def str (l : List UInt8) : Value := .string ⟨l.toArray⟩
section strs
variable {xt yt : TypeId} {x y : Operand} {l m : List UInt8}
theorem tG (q : o.op = .binOp .eql xt x y yt) (r : ev E x = some (str l)) (u : ev E y = some (str m)) : RQ K o E H (.bool (decide (l = m))) :=
 fP q r u jW fun P w => by simp [binOp, Op.stringOp, str]; rw [Bool.eq_iff_iff]; simp
theorem tJ (q : o.op = .binOp .neq xt x y yt) (r : ev E x = some (str l)) (u : ev E y = some (str m)) : RQ K o E H (.bool (!decide (l = m))) :=
 fP q r u jW fun P w => by simp [binOp, Op.stringOp, str]; rw [Bool.eq_iff_iff]; simp
end strs
end
end Go.Proofs.YtndjkejhacfpdaaGreatDoor

namespace Go.Proofs.YtndjkejhacfpdaaGreatDoor
open Go.RowKit

/-! ### 1. Cells -/
def fu : List Value → Nat → List Value → List Value
 | l, _, [] => l
 | l, k, v :: vs => fu (l.set k v) (k + 1) vs
theorem iU (vs : List Value) : ∀ (l : List Value) (k : Nat), (fu l k vs).length = l.length := by
 induction vs with
 | nil => intro l k; rfl
 | cons v vs ih => intro l k; simp only [fu]; rw [ih]; simp
theorem gX (vs : List Value) : ∀ (l : List Value) (k : Nat), k + vs.length ≤ l.length → fu l k vs = l.take k ++ vs ++ l.drop (k + vs.length) := by
 induction vs with
 | nil => intro l k h; simp [fu]
 | cons v vs ih =>
  intro l k h
  simp only [List.length_cons] at h
  simp only [fu]
  rw [ih _ _ (by simp; omega)]
  have q : (l.set k v).take (k + 1) = l.take k ++ [v] := by
   rw [List.take_succ_eq_append_getElem (by simp; omega), List.take_set_of_le (Nat.le_refl k)]
   simp
  have r : (l.set k v).drop (k + 1 + vs.length) = l.drop (k + (v :: vs).length) := by
   rw [List.drop_set_of_lt (by omega)]
   simp [Nat.add_comm, Nat.add_left_comm]
  rw [q, r]
  simp
def obj (b : Nat) (T : TypeId) (l : List Value) : HA := pts b (.cells l.toArray T (0, 0))
def one (vs : List Value) : Prop := ∀ v ∈ vs, v.oneCell' = true
theorem uj {w : World} {b : Nat} {l : List Value} {T : TypeId} {fz : Nat × Nat} (h : w.heap[b]? = some (.cells l.toArray T fz)) (off : Nat) : w.cell? ⟨b, off, none⟩ = l[off]? := by
 simp [World.cell?, h]
theorem rn {w : World} {b : Nat} {l : List Value} {T : TypeId} {fz : Nat × Nat} (h : w.heap[b]? = some (.cells l.toArray T fz)) (off : Nat) (v : Value) :
  w.setCell ⟨b, off, none⟩ v = { w with heap := w.heap.setIfInBounds b (.cells (l.set off v).toArray T fz) } := by
 unfold World.setCell
 rw [iN _ _ _ _ h]
 simp
theorem jN {P : Program} {b : Nat} {T : TypeId} {fz : Nat × Nat} (off : Nat) : ∀ (vs : List Value) (i : Nat) (l : List Value) (w : World), w.heap[b]? = some (.cells l.toArray T fz) →
  off + i + vs.length ≤ l.length → (∀ j, off ≤ j → j < l.length → j < off + i + vs.length → ¬ (fz.1 ≤ j ∧ j < fz.2)) → one vs →
  (storeCells ⟨b, off, none⟩ vs i).run P w = .ok () { w with heap := w.heap.setIfInBounds b (.cells (fu l (off + i) vs).toArray T fz) }
 | [], i, l, w, h, _, _, _ => by
  have : w.heap.setIfInBounds b (.cells l.toArray T fz) = w.heap := by
   apply Array.ext_getElem?
   intro j
   rw [Array.getElem?_setIfInBounds]
   by_cases e : b = j
   ·subst e; rw [if_pos rfl, h]; have := (Array.getElem?_eq_some_iff.1 h).1; simp [this]
   ·rw [if_neg e]
  simp [storeCells, fu, this]
 | v :: vs, i, l, w, h, hl, hf, h1 => by
  simp only [List.length_cons] at hl hf
  have D : w.cell? ⟨b, off + i, none⟩ = some (l[off + i]'(by omega)) := by rw [uj h]; simp
  have r : w.frozen? ⟨b, off + i, none⟩ = false := by
   have := hf (off + i) (by omega) (by omega) (by omega)
   simp only [World.frozen?, h]
   rw [Bool.eq_false_iff]
   intro x
   simp at x
   omega
  have G : v.oneCell' = true := h1 v (by simp)
  have q : (⟨b, off, none⟩ : Addr).add i = ⟨b, off + i, none⟩ := by unfold Addr.add; split <;> simp_all
  have I : (store ((⟨b, off, none⟩ : Addr).add i) v).run P w = .ok () { w with heap := w.heap.setIfInBounds b (.cells (l.set (off + i) v).toArray T fz) } := by
   rw [q, ← rn h]
   unfold store
   cases v <;> first | (simp only [Sem.run, D, r]; rfl) | (simp [Value.oneCell'] at G)
  simp only [storeCells, Sem.run_bind, I, Result.andThen_ok]
  have J : b < w.heap.size := (Array.getElem?_eq_some_iff.1 h).1
  have L := jN (P := P) (T := T) (fz := fz) (b := b) off vs (i + 1) (l.set (off + i) v) { w with heap := w.heap.setIfInBounds b (.cells (l.set (off + i) v).toArray T fz) }
   (by rw [Array.getElem?_setIfInBounds]; simp [J]) (by simp; omega) (fun j a b c => hf j a (by simpa using b) (by omega)) (fun u U => h1 u (by simp [U]))
  rw [L]
  simp [fu, Nat.add_assoc]
theorem jc {P : Program} {w : World} {b off : Nat} {vs : List Value} (h : ∀ j v, vs[j]? = some v → w.cell? ⟨b, off + j, none⟩ = some v) : (loadCells ⟨b, off, none⟩ vs.length).run P w = .ok vs.toArray w := by
 refine run_loadCells_list (P := P) w _ vs fun j v r => ?_
 have q : (⟨b, off, none⟩ : Addr).add j = ⟨b, off + j, none⟩ := by unfold Addr.add; split <;> simp_all
 rw [q]; exact h j v r

def dR (H : List HA) (b off : Nat) (v : Value) : Prop := ∀ h, aN H h → ∃ l T fz, h b = some (.cells l T fz) ∧ l[off]? = some v
theorem dR.sat {H : List HA} {b off : Nat} {v : Value} (c : dR H b off v) {W w : World} (s : Sat W H w) : w.cell? ⟨b, off, none⟩ = some v := by
 obtain ⟨l, T, fz, h1, q⟩ := c _ s.hp
 simp only [hpw] at h1
 simp [World.cell?, h1, q]
theorem dR.of {H : List HA} {A : HA} {b off : Nat} {v : Value} (k : Nat) (q : H[k]? = some A) (r : ∀ a, A a → ∃ l T fz, a b = some (.cells l T fz) ∧ l[off]? = some v) : dR H b off v := by
 intro h s
 obtain ⟨a, u, x⟩ := iL H k A q h s
 obtain ⟨l, T, fz, h1, D⟩ := r a u
 exact ⟨l, T, fz, x _ _ h1, D⟩
theorem dR.obj {H : List HA} {b off : Nat} {v : Value} {T : TypeId} {l : List Value} (k : Nat) (q : H[k]? = some (obj b T l)) (r : l[off]? = some v) : dR H b off v :=
 .of k q fun a u => ⟨l.toArray, T, (0, 0), u, by simpa using r⟩

section
variable {K : Cx} {R S Y : Type} {Q : de R} {E : Env} {H : List HA} {opt : Option R} {ops : Array Oper} {rest : List Oper} {o : Oper}
/-! ### 2. Variables -/
theorem cl {x : Operand} {v : Value} {t : TypeId} {cs : List Value} (q : o.op = .box t x) (r : ev E x = some v) (u : v.cells = cs.toArray) :
  RE K (Y := Nat) o E H (fun b => .pointer (some ⟨b, 0, none⟩)) (fun b => obj b t cs :: H) :=
 fW (by rw [q]; intro c h; cases h) fun a w D G => by
  refine ⟨w.heap.size, { w with heap := w.heap.push (.cells cs.toArray t (0, 0)) }, ?_, G.new _⟩
  unfold execOp; simp only [q]; rw [D.ev r]
  simp [Instr.box, newVar, newRow, newObj, Sem.run, u]
theorem bM {t : TypeId} {z : Value} {cs : List Value} (q : o.op = .alloc t) (r : ∀ w, (zeroValue t).run K.P w = .ok z w) (u : z.cells = cs.toArray) :
  RE K (Y := Nat) o E H (fun b => .pointer (some ⟨b, 0, none⟩)) (fun b => obj b t cs :: H) :=
 fW (by rw [q]; intro c h; cases h) fun a w G D => by
  refine ⟨w.heap.size, { w with heap := w.heap.push (.cells cs.toArray t (0, 0)) }, ?_, D.new _⟩
  unfold execOp; simp only [q]
  simp [Instr.alloc, r, newVar, newRow, newObj, Sem.run, u]
theorem ag {x : Operand} {t : TypeId} {b off : Nat} {v : Value} (q : o.op = .load t x) (r : ev E x = some (.pointer (some ⟨b, off, none⟩))) (u : ∀ w, (isAgg t).run K.P w = .ok false w)
  (D : dR H b off v) : RQ K o E H v :=
 cA (by rw [q]; intro c h; cases h) fun a w G I => by
  unfold execOp; simp only [q]; rw [G.ev r]
  simp [Instr.loadAt, Instr.sureAddr, loadVar, u, D.sat I]
theorem cn {x : Operand} {t : TypeId} {b off n : Nat} {vs : List Value} (q : o.op = .load t x) (r : ev E x = some (.pointer (some ⟨b, off, none⟩))) (u : ∀ w, (isAgg t).run K.P w = .ok true w)
  (D : ∀ w, (sizeOf t).run K.P w = .ok n w) (G : vs.length = n) (I : ∀ j v, vs[j]? = some v → dR H b (off + j) v) : RQ K o E H (.agg vs.toArray) :=
 cA (by rw [q]; intro c h; cases h) fun a w J s => by
  unfold execOp; simp only [q]; rw [J.ev r]
  simp [Instr.loadAt, Instr.sureAddr, loadVar, u, D, ← G, jc (P := K.P) fun j v L => (I j v L).sat s]
theorem cY {b off : Nat} {T : TypeId} {l vs : List Value} (k : Nat) (q : H[k]? = some (obj b T l)) (r : ∀ j v, vs[j]? = some v → l[off + j]? = some v) : ∀ j v, vs[j]? = some v → dR H b (off + j) v :=
 fun j v h => .obj k q (r j v h)
theorem cj {x : Operand} {t T : TypeId} {b n : Nat} {vs : List Value} (k : Nat) (q : o.op = .load t x) (r : ev E x = some (.pointer (some ⟨b, 0, none⟩))) (u : ∀ w, (isAgg t).run K.P w = .ok true w)
  (D : ∀ w, (sizeOf t).run K.P w = .ok n w) (G : H[k]? = some (obj b T vs)) (I : vs.length = n) : RQ K o E H (.agg vs.toArray) :=
 cn q r u D I (by intro j v h; rw [Nat.zero_add]; exact .obj k G h)
theorem aG {x y : Operand} {t T : TypeId} {b off n : Nat} {v : Value} {vs l : List Value} (k : Nat) (u : o.op = .store t x y) (J : ev E x = some (.pointer (some ⟨b, off, none⟩))) (L : ev E y = some v)
  (U : ∀ w, (sizeOf t).run K.P w = .ok n w) (X : v.cells = vs.toArray) (hn : vs.length = n) (h1 : one vs) (D : H[k]? = some (obj b T l)) (q : Nat.ble (off + n) l.length = true) :
  RE K (Y := Unit) o E H (fun _ => undef) (fun _ => H.set k (obj b T (fu l off vs))) :=
 nq (by rw [u]; intro c h; cases h) fun a w G s => by
  have q : off + n ≤ l.length := by simpa [Nat.ble_eq] using q
  have r : k < H.length := (List.getElem?_eq_some_iff.1 D).1
  have I : Sat K.W (obj b T l :: H.eraseIdx k) w := s.ent (fun h x => by rw [eR H k _ D] at x; exact x)
  have hb : w.heap[b]? = some (.cells l.toArray T (0, 0)) := I.pts_at (i := 0) rfl
  refine ⟨(), _, ?_, (I.upd (o' := .cells (fu l off vs).toArray T (0, 0))).ent (fun h x => by rw [← fX H k _ r]; exact x)⟩
  unfold execOp; simp only [u]; rw [G.ev J, G.ev L]
  have := jN (P := K.P) off vs 0 l w hb (by omega) (fun j _ _ _ x => absurd x.2 (Nat.not_lt_zero _)) h1
  simp [Instr.storeAt, Instr.sureAddr, storeVar, U, X, hn, this]
theorem aS {x : Operand} {q : Addr} (r : o.op = .nilCheck x) (u : ev E x = some (.pointer (some q))) : RQ K o E H (.pointer (some q)) :=
 cA (by rw [r]; intro c h; cases h) fun a w D G => by
  unfold execOp; simp only [r]; rw [D.ev u]; rfl
theorem ap {x : Operand} {t : TypeId} {i b off d : Nat} {fs : Array Field} {f : Field} {n : Nat} (u : o.op = .fieldAddr t x i) (D : ev E x = some (.pointer (some ⟨b, off, none⟩))) (G : K.P.underlying t = some (.struct fs)) (I : fs[i]? = some f) (hd : f.offset = d)
  (J : ∀ w, (sizeOf f.type).run K.P w = .ok n w) (L : (n == 0) = false) : RQ K o E H (.pointer (some ⟨b, off + d, none⟩)) :=
 cA (by rw [u]; intro c h; cases h) fun a w U _ => by
  unfold execOp; simp only [u]; rw [U.ev D]
  have r : n ≠ 0 := by simpa using L
  have q : (⟨b, off, none⟩ : Addr).add d = ⟨b, off + d, none⟩ := by unfold Addr.add; split <;> simp_all
  simp [Instr.fieldAt, underlying, program, Sem.run, G, I, Instr.sureAddr, fieldPlace, J, r, hd, q]
def evP : List (Nat × Operand) → Env → Option (List (Nat × Value))
 | [], _ => some []
 | (i, x) :: l, E => match ev E x, evP l E with
  | some v, some vs => some ((i, v) :: vs)
  | _, _ => none
theorem nf {n : Nat} {ds : List Deferred} {a : Act} (r : Has n ds E a) : ∀ (l : List (Nat × Operand)) (vs : List (Nat × Value)), evP l E = some vs → l.map (fun p => (p.1, a.eval p.2)) = vs
 | [], vs, h => by simp [evP] at h; subst h; rfl
 | (i, x) :: l, vs, h => by
  simp only [evP] at h
  split at h
  ·rename_i v q h1 u
   cases h
   simp [nf r l q u, r.ev h1]
  ·cases h
theorem cS {t : TypeId} {l : List (Nat × Operand)} {vs : List (Nat × Value)} {v : Value} (q : o.op = .build t l.toArray) (r : evP l E = some vs) (u : ∀ w, (Instr.build t vs.toArray).run K.P w = .ok v w) : RQ K o E H v :=
 cA (by rw [q]; intro c h; cases h) fun a w D _ => by
  unfold execOp; simp only [q]
  have : (l.toArray.map fun (i, x) => (i, a.eval x)) = vs.toArray := by
   rw [← nf D l vs r]; simp
  rw [this]
  simp [u]

/-! ### 3. Calls -/
def evs : List Operand → Env → Option (List Value)
 | [], _ => some []
 | x :: l, E => match ev E x, evs l E with
  | some v, some vs => some (v :: vs)
  | _, _ => none
theorem ir {n : Nat} {ds : List Deferred} {a : Act} (r : Has n ds E a) : ∀ (l : List Operand) (vs : List Value), evs l E = some vs → l.map a.eval = vs
 | [], vs, h => by simp [evs] at h; subst h; rfl
 | x :: l, vs, h => by
  simp only [evs] at h
  split at h
  ·rename_i v q h1 u
   cases h
   simp [ir r l q u, r.ev h1]
  ·cases h
theorem aw {c : Call} {x : Operand} {xs : List Operand} {vs u cap : List Value} {f : FuncId} {A : List HA} {rst : List HA} {S Y : Type} {U : Option S} {val : S → Y → Value} {B : S → Y → List HA} {s : S}
  (X : o.op = .call c) (q : c.callee = .value x) (D : c.args = xs.toArray) (hx : ev E x = some (.func (.func f) #[] cap.toArray)) (G : evs xs E = some vs) (I : vs ++ cap = u)
  (hf : ∀ args w, (callFunc f args).run K.P w = .ok (.enter f args) w) (hH : Ent H (A ++ rst))
  (h : Fn K.P K.W f u A (aN rst) U val B) (hs : U = some s) : RE K o E H (val s) (fun y => B s y ++ rst) := by
 intro a w he r next Q J
 refine ⟨fun f _ => fV _ _, ?_⟩
 rw [Oper.semAt_eq _ _ _ (by rw [X]; intro c h; cases h)]
 have hr : (execOp a.eval o).run K.P w = .ok (.enter f u.toArray) w := by
  unfold execOp; simp only [X]
  have : c.args.map a.eval = vs.toArray := by rw [D, ← ir he xs vs G]; simp
  simp [resolve, q, this, he.ev hx, Deferred.ofValue, invoke, hf, ← I]
 rw [hr]
 refine ⟨jO _, ?_⟩
 have := h s hs w (r.ent (hH.trans (Ent.fold A rst)))
 have hw : CallsIn (fen K.ro) (0 - 1) K.P f u.toArray w (fun e L => ∃ y, e = Ending.returned (val s y) ∧ Sat K.W (B s y ++ [aN rst]) L) := by
  cases hro : K.ro with
  | none => exact callsIn_wide.2 this
  | some l => exact CallsIn.inRound l (callsIn_wide.2 this)
 refine hw.mono ?_
 rintro e L ⟨y, rfl, s2⟩
 exact J y L (s2.ent (Ent.unfold _ _))
end
end Go.Proofs.YtndjkejhacfpdaaGreatDoor

namespace Go.Proofs.YtndjkejhacfpdaaGreatDoor
open Go.RowKit

/-! ### 1. Rows -/
structure mH (sz off n c : Nat) (pre cs junk : List Value) (fz : Nat × Nat) : Prop where
 offs : pre.length = off
 le : n ≤ c
 cap : c ≤ maxLen
 room : c * sz ≤ cs.length + junk.length
 len : n * sz ≤ cs.length
 top : cs.length ≤ c * sz
 fzok : fz.1 = fz.2 ∨ off + c * sz ≤ fz.1
theorem mH.free {sz off n c : Nat} {pre cs junk : List Value} {fz : Nat × Nat} (ok : mH sz off n c pre cs junk fz) : ∀ j, off ≤ j → j < off + c * sz → ¬ (fz.1 ≤ j ∧ j < fz.2) := fun j _ h x => by
 rcases ok.fzok with h' | h' <;> omega
def Row (T : TypeId) (sz : Nat) (a : Option Addr) (n c : Nat) (cs : List Value) : HA := fun h =>
 (a = none ∧ n = 0 ∧ c = 0 ∧ cs = []) ∨
 ∃ b off pre junk fz, a = some ⟨b, off, none⟩ ∧ mH sz off n c pre cs junk fz ∧ h b = some (.cells (pre ++ cs ++ junk).toArray T fz)
theorem Sat.row_cases {W w : World} {l : List HA} {T : TypeId} {sz n c : Nat} {a : Option Addr} {cs : List Value} (s : Sat W (Row T sz a n c cs :: l) w) :
  (a = none ∧ n = 0 ∧ c = 0 ∧ cs = []) ∨ ∃ b off pre junk fz, a = some ⟨b, off, none⟩ ∧ mH sz off n c pre cs junk fz ∧ Sat W (pts b (.cells (pre ++ cs ++ junk).toArray T fz) :: l) w := by
 obtain ⟨x, y, d, e, h, r⟩ := s.hp
 rcases h with h | ⟨b, off, pre, junk, fz, q, ok, u⟩
 ·exact .inl h
 ·exact .inr ⟨b, off, pre, junk, fz, q, ok, s.os, s.tape, s.output, s.size, x, y, d, e, u, r⟩
theorem Row.mk {T : TypeId} {sz n c b off : Nat} {pre cs junk : List Value} {fz : Nat × Nat} (ok : mH sz off n c pre cs junk fz) : ∀ h, pts b (.cells (pre ++ cs ++ junk).toArray T fz) h → Row T sz (some ⟨b, off, none⟩) n c cs h :=
 fun _ x => .inr ⟨b, off, pre, junk, fz, rfl, ok, x⟩
theorem Row.nil (T : TypeId) (sz : Nat) (h : Hp) : Row T sz none 0 0 [] h := .inl ⟨rfl, rfl, rfl, rfl⟩
theorem Ent.row_nil {l m : List HA} {T : TypeId} {sz : Nat} (r : Ent l m) : Ent l (Row T sz none 0 0 [] :: m) := fun h s =>
 ⟨fun _ => none, h, fun _ => .inl rfl, (by funext i; simp [un]), Row.nil T sz _, r h s⟩
theorem Sat.focus {W w : World} {H : List HA} {A : HA} {k : Nat} (q : H[k]? = some A) (s : Sat W H w) : Sat W (A :: H.eraseIdx k) w := s.ent fun h x => by rw [eR H k _ q] at x; exact x
theorem Sat.unfocus {W w : World} {H : List HA} {A B : HA} {k : Nat} (q : H[k]? = some A) (s : Sat W (B :: H.eraseIdx k) w) : Sat W (H.set k B) w :=
 s.ent fun h x => by rw [← fX H k _ (List.getElem?_eq_some_iff.1 q).1]; exact x
theorem iz {pre cs junk : List Value} {j : Nat} {v : Value} (h : cs[j]? = some v) : (pre ++ cs ++ junk)[pre.length + j]? = some v := by
 have q : j < cs.length := (List.getElem?_eq_some_iff.1 h).1
 rw [List.append_assoc, List.getElem?_append_right (by omega), List.getElem?_append_left (by omega)]
 simpa using h
theorem dR.row {H : List HA} {T : TypeId} {sz n c b off j : Nat} {cs : List Value} {v : Value} (k : Nat) (r : H[k]? = some (Row T sz (some ⟨b, off, none⟩) n c cs)) (u : cs[j]? = some v) : dR H b (off + j) v :=
 .of k r fun a D => by
  rcases D with ⟨h, _⟩ | ⟨I, q, pre, junk, fz, e, ok, G⟩
  ·cases h
  ·cases e
   refine ⟨_, T, fz, G, ?_⟩
   have := iz (pre := pre) (junk := junk) u
   rw [ok.offs] at this
   simpa using this
def Rds (H : List HA) (a : Option Addr) (cs : List Value) : Prop := ∀ h, aN H h → cs = [] ∨ ∃ b off, a = some ⟨b, off, none⟩ ∧ ∃ l T fz, h b = some (.cells l T fz) ∧ ∀ j v, cs[j]? = some v → l[off + j]? = some v
def Rd (F : HA) (a : Option Addr) (cs : List Value) : Prop := cs = [] ∨ ∃ b off, a = some ⟨b, off, none⟩ ∧ ∀ h, F h → ∃ l T fz, h b = some (.cells l T fz) ∧ ∀ j v, cs[j]? = some v → l[off + j]? = some v
theorem Rds.of {H : List HA} {A : HA} {a : Option Addr} {cs : List Value} (k : Nat) (q : H[k]? = some A) (r : ∀ x, A x → cs = [] ∨ ∃ b off, a = some ⟨b, off, none⟩ ∧ ∃ l T fz, x b = some (.cells l T fz) ∧ ∀ j v, cs[j]? = some v → l[off + j]? = some v) : Rds H a cs := by
 intro h s
 obtain ⟨x, u, D⟩ := iL H k A q h s
 rcases r x u with e | ⟨b, off, G, l, T, fz, h1, I⟩
 ·exact .inl e
 ·exact .inr ⟨b, off, G, l, T, fz, D _ _ h1, I⟩
theorem Rd.rds {F : HA} {a : Option Addr} {cs : List Value} (h : Rd F a cs) {H : List HA} (k : Nat) (q : H[k]? = some F) : Rds H a cs :=
 .of k q fun x r => by
  rcases h with h | ⟨b, off, u, D⟩
  ·exact .inl h
  ·obtain ⟨l, T, fz, h1, G⟩ := D x r
   exact .inr ⟨b, off, u, l, T, fz, h1, G⟩
theorem Rds.row {H : List HA} {T : TypeId} {sz n c : Nat} {a : Option Addr} {cs : List Value} (k : Nat) (q : H[k]? = some (Row T sz a n c cs)) : Rds H a cs :=
 .of k q fun x r => by
  rcases r with ⟨_, _, _, h⟩ | ⟨b, off, pre, junk, fz, e, ok, u⟩
  ·exact .inl h
  ·refine .inr ⟨b, off, e, _, T, fz, u, fun j v D => ?_⟩
   have := iz (pre := pre) (junk := junk) D
   rw [ok.offs] at this
   simpa using this
theorem Rds.nil (H : List HA) (a : Option Addr) : Rds H a [] := fun _ _ => .inl rfl
theorem Rds.cells {H : List HA} {a : Option Addr} {cs : List Value} (h : Rds H a cs) {W w : World} (s : Sat W H w) : cs = [] ∨ ∃ b off, a = some ⟨b, off, none⟩ ∧ ∀ j v, cs[j]? = some v → w.cell? ⟨b, off + j, none⟩ = some v := by
 rcases h _ s.hp with h | ⟨b, off, q, l, T, fz, h1, r⟩
 ·exact .inl h
 ·refine .inr ⟨b, off, q, fun j v u => ?_⟩
  simp only [hpw] at h1
  simp [World.cell?, h1, r j v u]
theorem Rd.lend {F : HA} {a : Option Addr} {cs : List Value} (h : Rd F a cs) {l : List HA} (k : Nat) (q : l[k]? = some F) : Rd (aN l) a cs := by
 rcases h with h | ⟨b, off, r, u⟩
 ·exact .inl h
 ·refine .inr ⟨b, off, r, fun x D => ?_⟩
  obtain ⟨y, G, I⟩ := iL l k F q x D
  obtain ⟨J, T, fz, h1, L⟩ := u y G
  exact ⟨J, T, fz, I _ _ h1, L⟩
theorem Rd.take {F : HA} {a : Option Addr} {cs : List Value} (h : Rd F a cs) (n : Nat) : Rd F a (cs.take n) := by
 rcases h with h | ⟨b, off, r, u⟩
 ·left; simp [h]
 ·refine .inr ⟨b, off, r, fun x D => ?_⟩
  obtain ⟨l, T, fz, h1, G⟩ := u x D
  refine ⟨l, T, fz, h1, fun j v q => G j v ?_⟩
  rw [List.getElem?_take] at q
  split at q
  ·exact q
  ·cases q
theorem Rd.drop {F : HA} {a : Option Addr} {cs : List Value} (h : Rd F a cs) (n : Nat) : Rd F (a.map (·.add n)) (cs.drop n) := by
 rcases h with h | ⟨b, off, r, u⟩
 ·left; simp [h]
 ·refine .inr ⟨b, off + n, ?_, fun x D => ?_⟩
  ·rw [r]; simp only [Option.map_some, Option.some.injEq]; unfold Addr.add; split <;> simp_all
  ·obtain ⟨l, T, fz, h1, G⟩ := u x D
   refine ⟨l, T, fz, h1, fun j v q => ?_⟩
   rw [List.getElem?_drop] at q
   rw [Nat.add_assoc]
   exact G _ v q
theorem Rd.nil (F : HA) (a : Option Addr) : Rd F a [] := .inl rfl

section
variable {K : Cx} {R S Y : Type} {Q : de R} {E : Env} {H : List HA} {opt : Option R} {ops : Array Oper} {rest : List Oper} {o : Oper}
theorem ph {T : TypeId} {sz n c : Nat} {a : Option Addr} {cs : List Value} (k : Nat) (u : H[k]? = some (Row T sz a n c cs)) (D : cs ≠ []) (h : ∀ b off, a = some ⟨b, off, none⟩ → bX K Q ops rest E H opt) : bX K Q ops rest E H opt := by
 intro r G I w J q
 rcases (q.focus u).row_cases with ⟨_, _, _, L⟩ | ⟨b, off, pre, junk, fz, U, _⟩
 ·exact absurd L D
 ·exact h b off U r G I w J q
theorem bf {T : TypeId} {sz n c : Nat} {a : Option Addr} {cs : List Value} (k : Nat) (hk : H[k]? = some (Row T sz a n c cs)) (h : Rd (Row T sz a n c cs) a cs → n ≤ c → c ≤ maxLen → n * sz ≤ cs.length → bX K Q ops rest E H opt) : bX K Q ops rest E H opt := by
 intro r J L w U D
 rcases (D.focus hk).row_cases with ⟨h1, h2, h3, h0⟩ | ⟨b, off, pre, junk, fz, ha, ok, _⟩
 ·subst h2; subst h3
  exact h (.inl h0) (Nat.le_refl _) (Nat.zero_le _) (by simp) r J L w U D
 ·subst ha
  refine h (.inr ⟨b, off, rfl, fun x hx => ?_⟩) ok.le ok.cap ok.len r J L w U D
  rcases hx with ⟨h, _⟩ | ⟨b', X, u, q, G, e, I, hb⟩
  ·cases h
  ·cases e
   refine ⟨_, T, G, hb, fun j v hj => ?_⟩
   have := iz (pre := u) (junk := q) hj
   rw [I.offs] at this
   simpa using this

/-! ### 2. Lengths, elements, cuts -/
theorem lF {b : Builtin} {xs : List Operand} {vs : List Value} {q : Array TypeId} {v : Value} (r : o.op = .call { callee := .builtin b, args := xs.toArray, argTypes := q }) (u : evs xs E = some vs)
  (D : ∀ cs w, (builtin b q o.type cs vs.toArray).run K.P w = .ok (.value v) w) : RQ K o E H v :=
 cA (by rw [r]; intro c h; cases h) fun a w G _ => by
  unfold execOp; simp only [r]
  have : xs.toArray.map a.eval = vs.toArray := by rw [← ir G xs vs u]; simp
  simp only [resolve, this, Sem.run_bind, Sem.run_pure, Result.andThen_ok, invoke]
  exact D _ w
theorem bp {x : Operand} {t e : TypeId} {q : Array TypeId} {a : Option Addr} {n c : Nat} (r : o.op = .call { callee := .builtin .len, args := #[x], argTypes := q }) (u : ev E x = some (.slice a n c)) (D : q[0]? = some t) (G : K.P.underlying t = some (.slice e)) : RQ K o E H (.int .i64 (n : Int)) :=
 lF (xs := [x]) (vs := [.slice a n c]) r (by simp [evs, u]) fun cs w => by simp [builtin, Builtin.len_, D, underlying, program, Sem.run, G, goInt]
theorem lg {x : Operand} {t : TypeId} {r : Array TypeId} {l : List UInt8} (u : o.op = .call { callee := .builtin .len, args := #[x], argTypes := r }) (D : ev E x = some (str l)) (G : r[0]? = some t) (I : K.P.underlying t = some .string) : RQ K o E H (.int .i64 (l.length : Int)) :=
 lF (xs := [x]) (vs := [str l]) u (by simp [evs, D]) fun cs w => by
  have q : (ByteArray.mk l.toArray).size = l.length := by show l.toArray.size = _; simp
  simp [builtin, Builtin.len_, G, underlying, program, Sem.run, I, goInt, str, q]
theorem rc {x y : Operand} {r : Array TypeId} {k q : IntKind} {m n : Int} (u : o.op = .call { callee := .builtin .max, args := #[x, y], argTypes := r }) (D : ev E x = some (.int k m)) (G : ev E y = some (.int q n)) : RQ K o E H (.int k (max m n)) :=
 lF (xs := [x, y]) (vs := [.int k m, .int q n]) u (by simp [evs, D, G]) fun cs w => by
  have : (if n > m then n else m) = max m n := by split <;> omega
  simp [builtin, Builtin.max_, Builtin.max2]; omega
theorem re {x y : Operand} {r : Array TypeId} {k q : IntKind} {m n : Int} (u : o.op = .call { callee := .builtin .min, args := #[x, y], argTypes := r }) (D : ev E x = some (.int k m)) (G : ev E y = some (.int q n)) : RQ K o E H (.int k (min m n)) :=
 lF (xs := [x, y]) (vs := [.int k m, .int q n]) u (by simp [evs, D, G]) fun cs w => by
  simp [builtin, Builtin.min_, Builtin.min2]; omega
theorem cK {x y : Operand} {t e : TypeId} {a : Option Addr} {n c b off sz : Nat} {k : IntKind} {i : Int} (r : o.op = .indexAddr t x y) (D : ev E x = some (.slice a n c)) (G : ev E y = some (.int k i)) (I : a = some ⟨b, off, none⟩)
  (J : K.P.underlying t = some (.slice e)) (L : ∀ w, (sizeOf e).run K.P w = .ok sz w) (U : 0 ≤ i) (h1 : i < n) : RQ K o E H (.pointer (some ⟨b, off + i.toNat * sz, none⟩)) :=
 cA (by rw [r]; intro c h; cases h) fun X w u _ => by
  unfold execOp; simp only [r]; rw [u.ev D, u.ev G, I]
  have q : (⟨b, off, none⟩ : Addr).add (i.toNat * sz) = ⟨b, off + i.toNat * sz, none⟩ := by unfold Addr.add; split <;> simp_all
  simp [Instr.indexAt, asIntOf, underlying, program, Sem.run, J, L, U, h1, q]
theorem iB {x y : Operand} {t e : TypeId} {a : Option Addr} {n c b off : Nat} {k : IntKind} {i : Int} (q : o.op = .indexAddr t x y) (r : ev E x = some (.slice a n c)) (u : ev E y = some (.int k i)) (D : a = some ⟨b, off, none⟩)
  (G : K.P.underlying t = some (.slice e)) (I : ∀ w, (sizeOf e).run K.P w = .ok 1 w) (J : 0 ≤ i) (h1 : i < n) : RQ K o E H (.pointer (some ⟨b, off + i.toNat, none⟩)) := by
 have := cK (K := K) (H := H) (sz := 1) q r u D G I J h1
 rwa [Nat.mul_one] at this
theorem uT {x y : Operand} {t : TypeId} {l : List UInt8} {k : IntKind} {i : Int} (q : o.op = .index t x y) (u : ev E x = some (str l)) (D : ev E y = some (.int k i))
  (G : K.P.underlying t = some .string) (I : 0 ≤ i) (h1 : i < l.length) : RQ K o E H (.int .u8 ((l.getD i.toNat 0).toNat : Int)) :=
 cA (by rw [q]; intro c h; cases h) fun L w r _ => by
  unfold execOp; simp only [q]; rw [r.ev u, r.ev D]
  have hi : i.toNat < l.length := by omega
  have J : (ByteArray.mk l.toArray)[i.toNat]? = some (l.getD i.toNat 0) := by
   have : (ByteArray.mk l.toArray)[i.toNat]? = l[i.toNat]? := by
    rw [getElem?_pos (ByteArray.mk l.toArray) i.toNat (by simpa [ByteArray.size] using hi), List.getElem?_eq_getElem hi]
    rfl
   rw [this]; simp [List.getD_eq_getElem?_getD, List.getElem?_eq_getElem hi]
  simp [Instr.index, asIntOf, underlying, program, Sem.run, G, I, str, J]
def lim (E : Env) : Option Operand → Option (Option Value)
 | none => some none
 | some x => match ev E x with
  | some v => some (some v)
  | none => none
theorem kD {n : Nat} {ds : List Deferred} {a : Act} (u : Has n ds E a) {lo : Option Operand} {r : Option Value} (q : lim E lo = some r) : lo.map a.eval = r := by
 cases lo with
 | none => simp [lim] at q; simp [q]
 | some z =>
  simp only [lim] at q
  split at q
  ·rename_i v e
   cases q
   simp [u.ev e]
  ·cases q
theorem qz {x : Operand} {t e : TypeId} {lo hi : Option Operand} {a : Option Addr} {n c sz l h : Nat} {q r : Option Value} (I : o.op = .slice t x lo hi none) (J : ev E x = some (.slice a n c))
  (L : lim E lo = some q) (U : lim E hi = some r) (X : K.P.underlying t = some (.slice e)) (hs : ∀ w, (sizeOf e).run K.P w = .ok sz w)
  (h1 : (r = none ∧ h = n) ∨ ∃ k, r = some (.int k (h : Int))) (h2 : (q = none ∧ l = 0) ∨ ∃ k, q = some (.int k (l : Int))) (u : l ≤ h) (D : h ≤ c) :
  RQ K o E H (.slice (if c = l then a else a.map (·.add (l * sz))) (h - l) (c - l)) :=
 cA (by rw [I]; intro c h; cases h) fun a' w G _ => by
  unfold execOp; simp only [I]; rw [G.ev J]
  rw [kD G L, kD G U]
  have e3 : (Instr.sliceBounds true n c q r none).run K.P w = .ok (l, h, c) w := by
   unfold Instr.sliceBounds
   rcases h1 with ⟨rfl, rfl⟩ | ⟨k, rfl⟩ <;> rcases h2 with ⟨rfl, rfl⟩ | ⟨k', rfl⟩ <;> simp [Instr.sliceBound, asIntOf, u, D, Int.toNat_natCast]
  simp [Instr.sliceAt, underlying, program, Sem.run, X, Instr.slice, e3, hs]
theorem sZ {x : Operand} {t : TypeId} {lo hi : Option Operand} {s : List UInt8} {l h : Nat} {q r : Option Value} (J : o.op = .slice t x lo hi none) (L : ev E x = some (str s))
  (U : lim E lo = some q) (X : lim E hi = some r) (hu : K.P.underlying t = some .string)
  (h1 : (r = none ∧ h = s.length) ∨ ∃ k, r = some (.int k (h : Int))) (h2 : (q = none ∧ l = 0) ∨ ∃ k, q = some (.int k (l : Int))) (u : l ≤ h) (D : h ≤ s.length) :
  RQ K o E H (str ((s.take h).drop l)) :=
 cA (by rw [J]; intro c h; cases h) fun a' w G _ => by
  unfold execOp; simp only [J]; rw [G.ev L]
  rw [kD G U, kD G X]
  have I : (ByteArray.mk s.toArray).size = s.length := by show s.toArray.size = _; simp
  have e3 : (Instr.sliceBounds false s.length s.length q r none).run K.P w = .ok (l, h, s.length) w := by
   unfold Instr.sliceBounds
   rcases h1 with ⟨rfl, rfl⟩ | ⟨k, rfl⟩ <;> rcases h2 with ⟨rfl, rfl⟩ | ⟨k', rfl⟩ <;> simp [Instr.sliceBound, asIntOf, u, D, Int.toNat_natCast]
  have e4 : (ByteArray.mk s.toArray).extract l h = ⟨((s.take h).drop l).toArray⟩ := by
   apply ByteArray.ext
   rw [ByteArray.data_extract]
   simp [List.extract_toArray, List.drop_take, List.extract_eq_take_drop]
  simp [Instr.sliceAt, underlying, program, Sem.run, hu, Instr.slice, str, I, e3, e4]
end
end Go.Proofs.YtndjkejhacfpdaaGreatDoor

namespace Go.Proofs.YtndjkejhacfpdaaGreatDoor
open Go.RowKit

theorem po (b off n : Nat) : (⟨b, off, none⟩ : Addr).add n = ⟨b, off + n, none⟩ := by unfold Addr.add; split <;> simp_all
theorem mY {P : Program} {W w : World} {l : List HA} {t ty e : TypeId} {i : TypeInfo} {z : Value} {sz bytes : Nat} {a a2 : Option Addr} {n c m c2 : Nat} {cs news : List Value}
  (s : Sat W (Row e sz a n c cs :: l) w) (ht : P.underlying t = some (.slice e)) (hi : P.info? e = some i) (hz : i.zero = some z) (bs : i.size = sz) (b0 : i.bytes = bytes) (b1 : z.cells.size = sz)
  (I : news.length = m * sz) (hr : Rds l a2 news) (h1 : one news) (hb : (n + m) * bytes ≤ 140737488355328) (h0 : Nat.blt 0 bytes = true) (b3 : Nat.blt 0 sz = true) :
  ∃ a' c' w', (Builtin.append_ #[t, t] ty #[.slice a n c, .slice a2 m c2]).run P w = .ok (.slice a' (n + m) c') w' ∧ Sat W (Row e sz a' (n + m) c' (cs.take (n * sz) ++ news) :: l) w' := by
 subst bs
 subst b0
 have b4 : 0 < i.bytes := by simpa [Nat.blt_eq] using h0
 have b5 : 0 < i.size := by simpa [Nat.blt_eq] using b3
 have d4 : n + m ≤ 140737488355328 := Nat.le_trans (Nat.le_mul_of_pos_right (n + m) b4) hb
 have X : n + m ≤ maxLen := by simp only [maxLen]; omega
 have s' : Sat W l w := s.ent (Ent.drop (Ent.refl _))
 -- where the news are read
 have D : ∀ w2, Sat W l w2 → (Builtin.firstCells i.size m (.slice a2 m c2)).run P w2 = .ok news.toArray w2 := by
  intro w2 J
  rcases hr.cells J with hn | ⟨b2, ad, b6, hc⟩
  ·subst hn
   have hm : m = 0 := by
    rcases Nat.eq_zero_or_pos m with h | h
    ·exact h
    ·have := Nat.mul_pos h b5; simp at I; omega
   subst hm
   cases a2 <;> simp [Builtin.firstCells, loadCells, loadCellsFrom]
  ·subst b6
   have := jc (P := P) (w := w2) (b := b2) (off := ad) (vs := news) hc
   rw [I] at this
   simpa [Builtin.firstCells] using this
 -- the grown row
 have G : ∀ (u : List Value), u.length = n * i.size → c < n + m → Sat W (Row e i.size (some ⟨w.heap.size, 0, none⟩) (n + m) (grownCap w (n + m) c e) (u ++ news) :: l)
   { w with drawn := w.drawn + 1, heap := w.heap.push (.cells (u.toArray ++ news.toArray ++ Builtin.zeroCells z.cells (grownCap w (n + m) c e - (n + m))) e (0, 0)) } := by
  intro u ho hc
  have al := grownCap_ge w (n + m) c e
  have b7 := grownCap_le_maxLen w (n + m) c e X
  have J := (s'.drew (w.drawn + 1)).new (.cells (u.toArray ++ news.toArray ++ Builtin.zeroCells z.cells (grownCap w (n + m) c e - (n + m))) e (0, 0))
  refine J.ent (Ent.sel' 0 rfl ?_ (Ent.refl _))
  intro h x
  have r : (u ++ news).length = (n + m) * i.size := by rw [List.length_append, ho, I, Nat.add_mul]
  have b8 : (Builtin.zeroCells z.cells (grownCap w (n + m) c e - (n + m))).toList.length = (grownCap w (n + m) c e - (n + m)) * i.size := by rw [Array.length_toList, size_zeroCells, b1]
  refine Row.mk (pre := []) (junk := (Builtin.zeroCells z.cells (grownCap w (n + m) c e - (n + m))).toList) (fz := (0, 0)) ⟨rfl, al, b7, ?_, by rw [r]; exact Nat.le_refl _, by rw [r]; exact Nat.mul_le_mul_right _ al, Or.inl rfl⟩ h ?_
  ·rw [r, b8, ← Nat.add_mul]; exact Nat.mul_le_mul_right _ (by omega)
  ·have : (u.toArray ++ news.toArray ++ Builtin.zeroCells z.cells (grownCap w (n + m) c e - (n + m))) = ([] ++ (u ++ news) ++ (Builtin.zeroCells z.cells (grownCap w (n + m) c e - (n + m))).toList).toArray := by
    apply Array.ext'; simp
   rw [this] at x
   exact x
 have an : ∀ u, (Question.appendCap (n + m) u e).cut (w.tape w.drawn (.appendCap (n + m) u e)) = grownCap w (n + m) u e := fun _ => rfl
 by_cases hroom : n + m ≤ c
 ·-- there is room
  rcases s.row_cases with ⟨rfl, rfl, rfl, rfl⟩ | ⟨b, off, pre, junk, fz, rfl, ok, J⟩
  ·have hm : m = 0 := by omega
   subst hm
   have b9 : news = [] := List.eq_nil_of_length_eq_zero (by simpa using I)
   subst b9
   refine ⟨none, 0, w, ?_, by simpa using s⟩
   simp [Builtin.append_, run_underlying ht, sizeOf, typeInfo, program, Sem.run, hi, Builtin.lenOf, D w s']
  ·have cd := J.pts_at (i := 0) rfl
   have r := ok.len
   have a1 := ok.offs
   have d7 := ok.room
   have d1 : n * i.size + news.length ≤ c * i.size := by rw [I, ← Nat.add_mul]; exact Nat.mul_le_mul_right _ hroom
   have a6 := jN (P := P) (off + n * i.size) news 0 (pre ++ cs ++ junk) w cd (by simp; omega) (fun q h1 h2 h3 => ok.free q (by omega) (by omega)) h1
   rw [Nat.add_zero] at a6
   refine ⟨some ⟨b, off, none⟩, c, _, ?_, (J.upd (o' := .cells (fu (pre ++ cs ++ junk) (off + n * i.size) news).toArray e fz)).ent (Ent.sel' 0 rfl ?_ (Ent.refl _))⟩
   ·simp [Builtin.append_, run_underlying ht, sizeOf, typeInfo, program, Sem.run, hi, Builtin.lenOf, hroom, D w s', po, a6]
   ·intro h x
    have e1 : fu (pre ++ cs ++ junk) (off + n * i.size) news = pre ++ (cs.take (n * i.size) ++ news) ++ (cs ++ junk).drop (n * i.size + news.length) := by
     rw [gX _ _ _ (by simp; omega)]
     rw [List.append_assoc pre cs junk, List.take_append, List.drop_append]
     rw [List.take_of_length_le (by omega), List.drop_of_length_le (by omega)]
     rw [show off + n * i.size - pre.length = n * i.size by omega, show off + n * i.size + news.length - pre.length = n * i.size + news.length by omega]
     rw [List.take_append_of_le_length r]
     simp
    rw [e1] at x
    have L : (cs.take (n * i.size) ++ news).length = (n + m) * i.size := by rw [List.length_append, List.length_take, Nat.min_eq_left r, I, Nat.add_mul]
    refine Row.mk (junk := (cs ++ junk).drop (n * i.size + news.length)) ⟨a1, hroom, ok.cap, ?_, by rw [L]; exact Nat.le_refl _, by rw [L]; exact Nat.mul_le_mul_right _ hroom, ok.fzok⟩ h x
    rw [L, List.length_drop, List.length_append, Nat.add_mul, ← I]
    omega
 ·-- it grows
  have hg : c < n + m := by omega
  have c0 : ¬ (9223372036854775807 < ((n : Int) + (m : Int))) := by simp only [maxLen] at X; omega
  have c1 := growslice_fits (bytes := i.bytes) hg hb
  have U : ¬ (281474976710656 < Builtin.nextslicecap (n + m) c * i.bytes) := by omega
  have hd : Sat W l w.drew := s'.drew _
  rcases s.row_cases with ⟨rfl, rfl, rfl, rfl⟩ | ⟨b, off, pre, junk, fz, rfl, ok, J⟩
  ·refine ⟨_, _, _, ?_, by simpa using G [] (by simp) hg⟩
   have c3 : (Builtin.firstCells i.size 0 (.slice none 0 0)).run P w.drew = .ok #[] w.drew := by simp [Builtin.firstCells]
   have hm : m ≠ 0 := by omega
   have a7 : ¬ (9223372036854775807 < (m : Int)) := by omega
   simp only [Nat.zero_add] at hroom U an ⊢
   simp [Builtin.append_, run_underlying ht, sizeOf, typeInfo, zeroValue, hi, hz, Builtin.lenOf, hm, a7, U, Question.forced, c3, D _ hd, newRow, grownCap]
   rfl
  ·have r := ok.len
   have a8 : (Builtin.firstCells i.size n (.slice (some ⟨b, off, none⟩) n c)).run P w.drew = .ok (cs.take (n * i.size)).toArray w.drew := by
    have := jc (P := P) (w := w.drew) (b := b) (off := off) (vs := cs.take (n * i.size)) fun j v hj => by
     have c4 : cs[j]? = some v := by
      rw [List.getElem?_take] at hj
      split at hj
      ·exact hj
      ·cases hj
     exact (dR.row (H := Row e i.size (some ⟨b, off, none⟩) n c cs :: l) 0 rfl c4).sat (s.drew _)
    rw [List.length_take, Nat.min_eq_left r] at this
    simpa [Builtin.firstCells] using this
   refine ⟨_, _, _, ?_, G (cs.take (n * i.size)) (by rw [List.length_take, Nat.min_eq_left r]) hg⟩
   simp [Builtin.append_, run_underlying ht, sizeOf, typeInfo, zeroValue, hi, hz, Builtin.lenOf, hroom, c0, U, Question.forced, a8, D _ hd, newRow, grownCap]
   refine congrArg (fun x => w.drew.alloc (.cells x e)) ?_
   apply Array.ext'
   simp [List.append_assoc]

section
variable {K : Cx} {R S Y : Type} {Q : de R} {E : Env} {H : List HA} {opt : Option R} {ops : Array Oper} {rest : List Oper} {o : Oper}
structure Elt (P : Program) (e sz bytes : Nat) (zs : List Value) : Prop where
 info : ∃ i z, P.info? e = some i ∧ i.zero = some z ∧ i.size = sz ∧ i.bytes = bytes ∧ z.cells = zs.toArray
 len : zs.length = sz
 pos : Nat.blt 0 bytes = true
 spos : Nat.blt 0 sz = true
theorem Elt.of {P : Program} {e sz bytes : Nat} {q : List Value} (z : Value) (h : (P.info? e).map (fun i => (i.zero, i.size, i.bytes)) = some (some z, sz, bytes)) (r : z.cells = q.toArray) (u : q.length = sz) (h1 : Nat.blt 0 bytes = true) (D : Nat.blt 0 sz = true) : Elt P e sz bytes q := by
 refine ⟨?_, u, h1, D⟩
 cases hi : P.info? e with
 | none => rw [hi] at h; cases h
 | some i =>
  rw [hi] at h
  simp only [Option.map_some, Option.some.injEq, Prod.mk.injEq] at h
  exact ⟨i, z, rfl, h.1, h.2.1, h.2.2, r⟩
theorem nQ {x y : Operand} {t e sz bytes : Nat} {U : List Value} {a a2 : Option Addr} {n c m c2 : Nat} {cs news : List Value} (k : Nat) (I : o.op = .call { callee := .builtin .append, args := #[x, y], argTypes := #[t, t] })
  (X : ev E x = some (.slice a n c)) (hy : ev E y = some (.slice a2 m c2)) (ht : K.P.underlying t = some (.slice e)) (r : Elt K.P e sz bytes U) (J : H[k]? = some (Row e sz a n c cs))
  (hr : Rds (H.eraseIdx k) a2 news) (hl : news.length = m * sz) (h1 : one news) (hb : (n + m) * bytes ≤ 140737488355328) :
  RE K (Y := Option Addr × Nat) o E H (fun y => .slice y.1 (n + m) y.2) (fun y => H.set k (Row e sz y.1 (n + m) y.2 (cs.take (n * sz) ++ news))) :=
 fW (by rw [I]; intro c h; cases h) fun a' w L s => by
  obtain ⟨i, z, hi, hz, u, D, G⟩ := r.info
  obtain ⟨a3, c3, w', q, s2⟩ := mY (t := t) (ty := o.type) (c2 := c2) (s.focus J) ht hi hz u D (by rw [G]; simpa using r.len) hl hr h1 hb r.pos r.spos
  refine ⟨(a3, c3), w', ?_, Sat.unfocus J s2⟩
  unfold execOp; simp only [I]
  simp only [resolve, invoke, builtin, Sem.run_bind, Sem.run_pure, Result.andThen_ok, List.map_toArray, List.map_cons, List.map_nil, L.ev X, L.ev hy, q]
theorem ru {x y : Operand} {t e sz bytes : Nat} {U : List Value} {a2 : Option Addr} {m c2 : Nat} {news : List Value} (I : o.op = .call { callee := .builtin .append, args := #[x, y], argTypes := #[t, t] })
  (X : ev E x = some (.slice none 0 0)) (hy : ev E y = some (.slice a2 m c2)) (ht : K.P.underlying t = some (.slice e)) (r : Elt K.P e sz bytes U)
  (hr : Rds H a2 news) (hl : news.length = m * sz) (h1 : one news) (hb : m * bytes ≤ 140737488355328) :
  RE K (Y := Option Addr × Nat) o E H (fun y => .slice y.1 m y.2) (fun y => Row e sz y.1 m y.2 news :: H) :=
 fW (by rw [I]; intro c h; cases h) fun a' w J s => by
  obtain ⟨i, z, hi, hz, u, D, G⟩ := r.info
  have s0 : Sat K.W (Row e sz none 0 0 [] :: H) w := s.ent (Ent.row_nil (Ent.refl _))
  obtain ⟨a3, c3, w', q, L⟩ := mY (t := t) (ty := o.type) (c2 := c2) s0 ht hi hz u D (by rw [G]; simpa using r.len) hl hr h1 (by rw [Nat.zero_add]; exact hb) r.pos r.spos
  simp only [Nat.zero_add, List.take_nil, List.nil_append] at q L
  refine ⟨(a3, c3), w', ?_, L⟩
  unfold execOp; simp only [I]
  simp only [resolve, invoke, builtin, Sem.run_bind, Sem.run_pure, Result.andThen_ok, List.map_toArray, List.map_cons, List.map_nil, J.ev X, J.ev hy, q]

/-! ### make -/
theorem uE {x y : Operand} {t e bytes : Nat} {z : Value} {k k' : IntKind} {n c : Int} (ho : o.op = .makeSlice t x y) (hx : ev E x = some (.int k n)) (hy : ev E y = some (.int k' c)) (ht : K.P.underlying t = some (.slice e)) (hE : Elt K.P e 1 bytes [z])
  (h0 : 0 ≤ n) (h1 : n ≤ c) (hb : c * bytes ≤ 140737488355328) :
  RE K (Y := Nat) o E H (fun b => .slice (some ⟨b, 0, none⟩) n.toNat c.toNat) (fun b => Row e 1 (some ⟨b, 0, none⟩) n.toNat c.toNat (List.replicate c.toNat z) :: H) :=
 fW (by rw [ho]; intro c h; cases h) fun a' w he s => by
  obtain ⟨i, zv, hi, hz, u, D, G⟩ := hE.info
  subst D
  have I : 0 < i.bytes := by have := hE.pos; simpa [Nat.blt_eq] using this
  obtain ⟨N, rfl⟩ := Int.eq_ofNat_of_zero_le h0
  obtain ⟨C, rfl⟩ := Int.eq_ofNat_of_zero_le (Int.le_trans h0 h1)
  have J : ((C * i.bytes : Nat) : Int) ≤ 140737488355328 := by rw [Int.natCast_mul]; exact hb
  have hC : C * i.bytes ≤ 140737488355328 := by omega
  have L : C ≤ 140737488355328 := Nat.le_trans (Nat.le_mul_of_pos_right C I) hC
  have r : N ≤ C := by omega
  have wr : ∀ q : Nat, q ≤ 140737488355328 → IntKind.i64.wrap (q : Int) = q := by
   intro q hq
   simp only [IntKind.wrap, IntKind.bits, IntKind.signed]
   have U : ((q : Int) % 2 ^ 64) = q := Int.emod_eq_of_lt (by omega) (by omega)
   simp only [U, Bool.true_and]
   rw [if_neg]
   simp
   omega
  have U := wr N (by omega)
  have e2 := wr C L
  simp only [Int.toNat_natCast]
  have t2 : ¬ (281474976710656 < (i.bytes : Int) * (C : Int)) := by
   rw [Int.mul_comm]
   rw [Int.natCast_mul] at J
   omega
  have X : ¬ ((C : Int) < 0) := by omega
  have ab : ¬ ((N : Int) < 0) := by omega
  have ad : ¬ ((C : Int) < (N : Int)) := by omega
  refine ⟨w.heap.size, { w with heap := w.heap.push (.cells (List.replicate C z).toArray e (0, 0)) }, ?_, (s.new _).ent (Ent.sel' 0 rfl ?_ (Ent.refl _))⟩
  ·unfold execOp; simp only [ho]; rw [he.ev hx, he.ev hy]
   simp [Instr.makeSlice, underlying, program, Sem.run, ht, asInt, asIntOf, typeInfo, hi, U, e2, t2, X, ab, ad, askRoom, sizeOf, u, zeroValue, hz, G, newRow, newObj]
   split
   ·rename_i af; subst af; refine congrArg (fun q => Result.ok (Next.value (Value.slice (some { block := w.heap.size, off := 0 }) N 0)) (w.alloc (Obj.cells q e))) ?_; apply Array.ext <;> simp
   ·refine congrArg (fun q => Result.ok (Next.value (Value.slice (some { block := w.heap.size, off := 0 }) N C)) (w.alloc (Obj.cells q e))) ?_
    apply Array.ext
    ·simp
    ·intro j h1 h2
     simp [Nat.mod_one]
  ·intro h x
   refine Row.mk (pre := []) (junk := []) (fz := (0, 0)) ⟨rfl, r, by simp only [maxLen]; omega, by simp, by simpa using r, by simp, Or.inl rfl⟩ h ?_
   simpa [pts] using x
end
end Go.Proofs.YtndjkejhacfpdaaGreatDoor

namespace Go.Proofs.YtndjkejhacfpdaaGreatDoor
open Go.RowKit

def aB (l : List UInt8) : List Value := l.map fun c => .int .u8 (c.toNat : Int)
theorem db (l : List UInt8) : (aB l).length = l.length := by simp [aB]
theorem lS (l m : List UInt8) : aB (l ++ m) = aB l ++ aB m := by simp [aB]
theorem jL (l : List UInt8) (n : Nat) : (aB l).take n = aB (l.take n) := by simp [aB]
theorem kX (l : List UInt8) (n : Nat) : (aB l).drop n = aB (l.drop n) := by simp [aB]
theorem oJ (l : List UInt8) : one (aB l) := by
 intro v q
 simp [aB] at q
 obtain ⟨c, _, rfl⟩ := q
 rfl
theorem gw {l : List UInt8} {j : Nat} (h : j < l.length) : (aB l)[j]? = some (.int .u8 ((l.getD j 0).toNat : Int)) := by
 simp [aB, List.getElem?_eq_getElem h, List.getD_eq_getElem?_getD]
theorem gV {l : List UInt8} {j : Nat} (h : j < l.length) : aB l ≠ [] := by
 intro e
 have := db l
 rw [e] at this
 simp at this
 omega
theorem rK (n : Nat) : List.replicate n (Value.int .u8 0) = aB (List.replicate n 0) := by simp [aB]
def dE (n : Int) : UInt8 := UInt8.ofNat n.toNat
theorem gW {n : Int} (q : 0 ≤ n) (h1 : n < 256) : ((dE n).toNat : Int) = n := by
 unfold dE
 rw [UInt8.toNat_ofNat']
 omega

section
variable {K : Cx} {R S Y : Type} {Q : de R} {E : Env} {H : List HA} {opt : Option R} {ops : Array Oper} {rest : List Oper} {o : Oper}
theorem rM {t e sz bytes len : Nat} {q : List Value} {l : List (Nat × Operand)} {vs : List (Nat × Value)} {cs : List Value} (U : o.op = .buildSlice t len l.toArray) (hx : evP l E = some vs) (ht : K.P.underlying t = some (.slice e)) (X : Elt K.P e sz bytes q)
  (hb : Nat.ble (len * sz) 16777216 = true) (hf : Instr.fill (fun i => some (i * sz, sz)) ((Array.range (len * sz)).map (q.toArray[· % q.toArray.size]!)) vs = some cs.toArray) (h0 : Nat.blt 0 (len * sz) = true) (r : cs.length = len * sz) :
  RE K (Y := Nat) o E H (fun b => .slice (some ⟨b, 0, none⟩) len len) (fun b => Row e sz (some ⟨b, 0, none⟩) len len cs :: H) :=
 fW (by rw [U]; intro c h; cases h) fun a' w he s => by
  obtain ⟨i, z, hi, hz, u, a8, D⟩ := X.info
  have G : len * sz ≤ 16777216 := by simpa [Nat.ble_eq] using hb
  have bc : 0 < len * sz := by simpa [Nat.blt_eq] using h0
  have I : 0 < sz := by have := X.spos; simpa [Nat.blt_eq] using this
  refine ⟨w.heap.size, { w with heap := w.heap.push (.cells cs.toArray e (0, 0)) }, ?_, (s.new _).ent (Ent.sel' 0 rfl ?_ (Ent.refl _))⟩
  ·unfold execOp; simp only [U]
   have : (l.toArray.map fun (i, x) => (i, a'.eval x)) = vs.toArray := by
    rw [← nf he l vs hx]; simp
   rw [this]
   have J : ¬ (len * sz = 0) := by omega
   have L : ¬ (len * sz > 2 ^ 24) := by omega
   simp only [Instr.buildSlice, underlying, program, Sem.run_bind, Sem.run, ht, sizeOf, typeInfo, hi, u, Result.andThen_ok, Sem.run_pure, L, J, if_false, zeroValue, hz, D, newRow, newObj]
   simp only [hf, Sem.run_bind, Sem.run, Result.andThen_ok, Sem.run_pure, newRow, newObj]
  ·intro h x
   have be : len ≤ 16777216 := Nat.le_trans (Nat.le_mul_of_pos_right len I) G
   refine Row.mk (pre := []) (junk := []) (fz := (0, 0)) ⟨rfl, Nat.le_refl _, by simp only [maxLen]; omega, by simp [r], by simp [r], by simp [r], Or.inl rfl⟩ h ?_
   simpa [pts] using x
theorem tT {x y : Operand} {t t2 e sz bytes : Nat} {zs : List Value} {a a2 : Option Addr} {n c m c2 : Nat} {cs news : List Value} (k : Nat) (ho : o.op = .call { callee := .builtin .copy, args := #[x, y], argTypes := #[t, t2] })
  (hx : ev E x = some (.slice a n c)) (hy : ev E y = some (.slice a2 m c2)) (ht : K.P.underlying t = some (.slice e)) (hE : Elt K.P e sz bytes zs) (L : H[k]? = some (Row e sz a n c cs))
  (hr : Rds H a2 news) (U : (min m n) * sz = news.length) (h1 : one news) :
  RE K (Y := Unit) o E H (fun _ => .int .i64 (min m n : Nat)) (fun _ => H.set k (Row e sz a n c (fu cs 0 news))) :=
 fW (by rw [ho]; intro c h; cases h) fun a' w he s => by
  obtain ⟨i, z, hi, hz, D, b6, b7⟩ := hE.info
  have r : (Builtin.firstCells sz (min m n) (.slice a2 m c2)).run K.P w = .ok news.toArray w := by
   rcases hr.cells s with hn | ⟨b2, G, ab, hc⟩
   ·subst hn
    have hm : min m n * sz = 0 := by simpa using U
    cases a2 <;> simp [Builtin.firstCells, hm, loadCells, loadCellsFrom]
   ·subst ab
    have := jc (P := K.P) (w := w) (b := b2) (off := G) (vs := news) hc
    rw [← U] at this
    simpa [Builtin.firstCells] using this
  have go : ∀ X, (execOp a'.eval o).run K.P w = .ok (.value (.int .i64 (min m n : Nat))) X ↔ (match a with | some ad => (storeCells ad news).run K.P w = .ok () X | none => X = w) := by
   intro X
   unfold execOp; simp only [ho]
   simp only [resolve, invoke, builtin, Sem.run_bind, Sem.run_pure, Result.andThen_ok, List.map_toArray, List.map_cons, List.map_nil, he.ev hx, he.ev hy]
   have u : Nat.min m n = min m n := rfl
   cases a with
   | none =>
    simp [Builtin.copy_, underlying, program, Sem.run, ht, Builtin.lenOf, sizeOf, typeInfo, hi, D, u, r, goInt]
    constructor <;> (intro h; exact h.symm)
   | some ad =>
    simp [Builtin.copy_, underlying, program, Sem.run, ht, Builtin.lenOf, sizeOf, typeInfo, hi, D, u, r, goInt]
    cases (storeCells ad news).run K.P w <;> simp
  rcases (s.focus L).row_cases with ⟨rfl, rfl, rfl, rfl⟩ | ⟨b, off, pre, junk, fz, rfl, ok, s2⟩
  ·refine ⟨(), w, (go w).2 rfl, ?_⟩
   have af : news = [] := List.eq_nil_of_length_eq_zero (by rw [← U]; simp)
   subst af
   exact Sat.unfocus L (s.focus L)
  ·have al := s2.pts_at (i := 0) rfl
   have be := ok.len
   have I := ok.offs
   have J := ok.le
   have br : news.length ≤ n * sz := by rw [← U]; exact Nat.mul_le_mul_right _ (Nat.min_le_right m n)
   have ch : n * sz ≤ c * sz := Nat.mul_le_mul_right _ J
   have an := jN (P := K.P) off news 0 (pre ++ cs ++ junk) w al (by simp; omega) (fun q h1 h2 h3 => ok.free q (by omega) (by omega)) h1
   refine ⟨(), _, (go _).2 an, Sat.unfocus L ((s2.upd (o' := .cells (fu (pre ++ cs ++ junk) (off + 0) news).toArray e fz)).ent (Ent.sel' 0 rfl ?_ (Ent.refl _)))⟩
   intro h x
   have e1 : fu (pre ++ cs ++ junk) (off + 0) news = pre ++ fu cs 0 news ++ junk := by
    rw [gX _ _ _ (by simp; omega), gX _ _ _ (by omega)]
    rw [List.append_assoc pre cs junk, List.take_append, List.drop_append, List.drop_append]
    rw [List.take_of_length_le (by omega), List.drop_of_length_le (by omega)]
    rw [show off + 0 - pre.length = 0 by omega, show off + 0 + news.length - pre.length = news.length by omega, show news.length - cs.length = 0 by omega]
    simp
   rw [e1] at x
   exact Row.mk (junk := junk) ⟨I, ok.le, ok.cap, by rw [iU]; exact ok.room, by rw [iU]; exact ok.len, by rw [iU]; exact ok.top, ok.fzok⟩ h x
/-! ### Bytes and strings -/
theorem qT {x : Operand} {t d e : TypeId} {l : List UInt8} (ho : o.op = .convert t d x) (hx : ev E x = some (str l)) (ht : K.P.underlying t = some .string) (hd : K.P.underlying d = some (.slice e)) (I : K.P.underlying e = some (.int .u8)) (hl : l.length ≤ 140737488355328) :
  RE K (Y := Nat × Nat) o E H (fun y => .slice (some ⟨y.1, 0, none⟩) l.length y.2) (fun y => Row e 1 (some ⟨y.1, 0, none⟩) l.length y.2 (aB l) :: H) :=
 fW (by rw [ho]; intro c h; cases h) fun a' w he s => by
  have J : (ByteArray.mk l.toArray).size = l.length := by show l.toArray.size = _; simp
  have L : l.length ≤ maxLen := by simp only [maxLen]; omega
  have U := grownCap_ge w l.length 0 e
  have X := grownCap_le_maxLen w l.length 0 e L
  let cap := grownCap w l.length 0 e
  let q : List Value := aB l ++ List.replicate (cap - l.length) (.int .u8 0)
  have ab : q.length = cap := by simp [q, db]; omega
  refine ⟨(w.heap.size, cap), { w with drawn := w.drawn + 1, heap := w.heap.push (.cells q.toArray e (cap, cap + 1)) }, ?_, ((s.drew (w.drawn + 1)).new _).ent (Ent.sel' 0 rfl ?_ (Ent.refl _))⟩
  ·unfold execOp; simp only [ho]; rw [he.ev hx]
   have G : ((ByteArray.mk l.toArray).data.map fun b => Value.int .u8 b.toNat) ++ Array.replicate (cap - l.length) (Value.int .u8 0) = q.toArray := by
    simp [q, aB]
   have u : (w.heap.push (.cells q.toArray e (0, 0)))[w.heap.size]? = some (.cells q.toArray e (0, 0)) := by simp
   have D : (choose (.appendCap l.length 0 e)).run K.P w = .ok cap w.drew := by
    simp [choose, Sem.run, Question.forced, cap, grownCap]
   have ad : ({ w with drawn := w.drawn + 1, heap := w.heap.push (.cells q.toArray e (0, 0)) } : World).freeze ⟨w.heap.size, cap, none⟩ 1 = { w with drawn := w.drawn + 1, heap := w.heap.push (.cells q.toArray e (cap, cap + 1)) } := by
    unfold World.freeze
    rw [if_neg (by omega)]
    simp only
    rw [iN _ _ _ _ u]
    congr 1
    apply Array.ext_getElem?
    intro j
    rw [Array.getElem?_setIfInBounds]
    by_cases hj : w.heap.size = j
    ·subst hj; simp
    ·rw [if_neg hj]; simp [Array.getElem?_push, Ne.symm hj]
   have key : (convert t d (str l)).run K.P w = .ok (.slice (some ⟨w.heap.size, 0, none⟩) l.length cap) { w with drawn := w.drawn + 1, heap := w.heap.push (.cells q.toArray e (cap, cap + 1)) } := by
    simp only [str, convert, underlying, program, Sem.run_bind, Sem.run, ht, hd, Result.andThen_ok, Sem.run_pure, I]
    unfold Conv.stringToBytes
    simp only [J]
    rw [Sem.run_bind, D]
    simp only [Result.andThen_ok, newRow, newObj, Sem.run_bind, Sem.run, Sem.run_pure]
    rw [show (Array.map (fun b => Value.int IntKind.u8 (b.toNat : Int)) (ByteArray.mk l.toArray).data ++ Array.replicate (cap - l.length) (Value.int IntKind.u8 0)) = q.toArray from G]
    have hm : (markStringish ⟨w.heap.size, 0, none⟩).run K.P { w with drawn := w.drawn + 1, heap := w.heap.push (.cells q.toArray e (0, 0)) } = .ok () { w with drawn := w.drawn + 1, heap := w.heap.push (.cells q.toArray e (cap, cap + 1)) } := by
     unfold markStringish
     simp only [shape, Sem.run_bind, Sem.run, Result.andThen_ok, World.shape?, u, List.size_toArray, ab, freeze]
     rw [ad]
    exact congrArg (fun r => Result.andThen r fun _ w' => Result.ok (Value.slice (some ⟨w.heap.size, 0, none⟩) l.length cap) w') hm
   simp [key]
  ·intro h x
   refine Row.mk (pre := []) (junk := List.replicate (cap - l.length) (.int .u8 0)) (fz := (cap, cap + 1)) ⟨rfl, U, X, by simp [db]; omega, by simp [db], by simp [db]; omega, Or.inr (by simp; exact Nat.le_refl cap)⟩ h ?_
   simpa [pts, q] using x
theorem tE {q r : TypeId} {x y : Operand} {l m : List UInt8} (u : o.op = .binOp .add q x y r) (D : ev E x = some (str l)) (G : ev E y = some (str m)) (U : l.length + m.length ≤ 9223372036854775807) : RQ K o E H (str (l ++ m)) :=
 fP u D G jW fun P w => by
  have h1 : (ByteArray.mk l.toArray).size = l.length := by show l.toArray.size = _; simp
  have I : (ByteArray.mk m.toArray).size = m.length := by show m.toArray.size = _; simp
  have J : (ByteArray.mk l.toArray) ++ (ByteArray.mk m.toArray) = ⟨(l ++ m).toArray⟩ := by
   apply ByteArray.ext; simp
  have L : ¬ ((((ByteArray.mk l.toArray).size + (ByteArray.mk m.toArray).size : Nat) : Int) > IntKind.i64.max) := by
   rw [h1, I]
   simp only [IntKind.max, IntKind.signed, IntKind.bits, if_true]
   omega
  simp only [str, binOp, Op.stringOp, L, if_false, J, Sem.run_pure]
end
end Go.Proofs.YtndjkejhacfpdaaGreatDoor

namespace Go.Proofs.YtndjkejhacfpdaaGreatDoor
open Go.RowKit
section
variable {K : Cx} {R S Y : Type} {Q : de R} {E : Env} {H : List HA} {o : Option R} {ops : Array Oper} {rest : List Oper} {op : Oper}
def Exi (K : Cx) (Q : de R) (id : Nat) (E : Env) (H : List HA) (o : Option R) : Prop := ∀ r, o = some r → ∀ a w, Has K.n K.ds E a → Sat K.W H w → Q r (.exit id) a w
theorem cD {id : Nat} (h : Exi K Q id E H o) : Sim K Q (.exit id) E H o := fun r q a w u D => wpIn_exit (h r q a w u D)
theorem cg {id : Nat} {c : Code} (h : Exi K Q id E H o) : Exi K (jr K c Q) id E H o := h
theorem cp {id : Nat} {L : S → Option R} {q : S → Y → Env} {r : S → Y → List HA} (h : Exi K Q id E H o) : Exi K (ow K L q r Q) id E H o := h
theorem ci {id : Nat} (h : Nrm K Q E H o) : Exi K (ki id Q) id E H o := fun r q a w u D => by
 show Exit.inBlock id (Q r) (.exit id) a w
 simp only [Exit.inBlock, if_true]
 exact h r q a w u D
def Rtn (K : Cx) (Q : de R) (E : Env) (H : List HA) (o : Option R) : Prop := ∀ r, o = some r → ∀ a w, Has K.n K.ds E a → Sat K.W H w → Q r .ret a w
theorem aA (h : Rtn K Q E H o) : Sim K Q .ret E H o := fun r q a w u D => wpIn_ret (h r q a w u D)
theorem aK {c : Code} (h : Rtn K Q E H o) : Rtn K (jr K c Q) E H o := h
theorem bl {id : Nat} (h : Rtn K Q E H o) : Rtn K (ki id Q) E H o := h
theorem eM {L : S → Option R} {q : S → Y → Env} {r : S → Y → List HA} (h : Rtn K Q E H o) : Rtn K (ow K L q r Q) E H o := h
theorem eC {q : S → Y → Env} {u : S → Y → List HA} {r : R} (h : Rtn K Q E H (some r)) : Rtn K (sW K Q q u) E H (some (.inr r)) := fun _ D a w G I => by
 cases D
 exact h r rfl a w G I
theorem aE {fn : Func} {val : R → Y → Value} {B : R → Y → List HA} {r : R} {vs : List Value} (y : Y) (hd : K.ds = []) (q : jm fn.results.toList E = some vs) (u : tup vs = val r y) (D : Ent H (B r y)) :
  Rtn K (oY K fn val B) E H (some r) := fun G I a w J L => qt (K := K) y hd q u D G I a w J L
theorem cR {c : Code} {o' : Option R} (e : o = o') (h : Sim K Q c E H o') : Sim K Q c E H o := e ▸ h
theorem uR {o' : Option R} (e : o = o') (h : Nrm K Q E H o') : Nrm K Q E H o := e ▸ h
def cut {α : Type} (l : List α) (lo hi : Int) : List α := (l.take hi.toNat).drop lo.toNat
theorem gu {α : Type} {l : List α} {lo hi : Int} (q : hi ≤ l.length) : (cut l lo hi).length = hi.toNat - lo.toNat := by
 unfold cut; simp; omega
theorem Rd.sub {F : HA} {a : Option Addr} {l : List UInt8} (h : Rd F a (aB l)) (lo hi : Int) {c : Nat} (q : hi.toNat ≤ c) : Rd F (if c = lo.toNat then a else a.map (·.add (lo.toNat * 1))) (aB (cut l lo hi)) := by
 by_cases e : c = lo.toNat
 ·left
  unfold cut
  rw [List.drop_of_length_le (by simp; omega)]
  rfl
 ·rw [if_neg e, Nat.mul_one]
  have := (h.take hi.toNat).drop lo.toNat
  rwa [jL, kX] at this
theorem RE.quiet {v : Y → Value} {H' : Y → List HA} {u : Value} (h : RE K op E H v H') (q : ∀ y, v y = u) (r : ∀ y, Ent (H' y) H) : RQ K op E H u := h.rq q r
end
end Go.Proofs.YtndjkejhacfpdaaGreatDoor

namespace Go.Proofs.YtndjkejhacfpdaaGreatDoor
open Go.RowKit
theorem aM {vs : List Value} (h : (vs.all fun v => v.oneCell') = true) : one vs := by
 intro v q
 exact List.all_eq_true.1 h v q
theorem Rd.pos {F : HA} {a : Option Addr} {cs : List Value} (h : Rd F a cs) (q : cs ≠ []) : ∃ b off, a = some ⟨b, off, none⟩ := by
 rcases h with h | ⟨b, off, r, _⟩
 ·exact absurd h q
 ·exact ⟨b, off, r⟩
theorem Rd.cell {F : HA} {a : Option Addr} {cs : List Value} (h : Rd F a cs) {H : List HA} {b off j : Nat} {v : Value} (k : Nat) (D : H[k]? = some F) (G : a = some ⟨b, off, none⟩) (r : cs[j]? = some v) : dR H b (off + j) v := by
 rcases h with h | ⟨U, u, q, I⟩
 ·subst h; simp at r
 ·rw [G] at q; cases q
  refine .of k D fun x J => ?_
  obtain ⟨l, T, fz, h1, L⟩ := I x J
  exact ⟨l, T, fz, h1, L j v r⟩
theorem dR.row' {H : List HA} {T : TypeId} {sz n c b off j : Nat} {a : Option Addr} {cs : List Value} {v : Value} (k : Nat) (q : H[k]? = some (Row T sz a n c cs)) (r : a = some ⟨b, off, none⟩) (u : cs[j]? = some v) : dR H b (off + j) v := by
 subst r; exact .row k q u
theorem aD {E : Env} {t : Nat} {g : Bool} {v : Value} (h : lk E t = some (cv g v)) (q : g = true) : lk E t = some v := by rw [h, q]; rfl
def iV (l m : List UInt8) : List UInt8 := m.take l.length ++ l.drop m.length
theorem iI (l m : List UInt8) : (iV l m).length = l.length := by unfold iV; simp; omega
section
variable {K : Cx} {R S Y : Type} {Q : de R} {E : Env} {H : List HA} {o : Option R} {ops : Array Oper} {rest : List Oper} {op : Oper}
theorem dH (n : Nat) (Y : Type) {l : List Oper} {u : Option S} {o2 : S → Option R} (q : S → Y → Env) (r : S → Y → List HA)
  (h1 : bX K (iA K q r) ops (l.take n) E H u) (D : ∀ s y, bX K Q ops (l.drop n) (q s y) (r s y) (o2 s)) : bX K Q ops l E H (u.bind o2) := by
 have := ti (ops := ops) (l1 := l.take n) (l2 := l.drop n) Y q r h1 D
 rwa [List.take_append_drop] at this
theorem iD {p : Prop} [Decidable p] {q o2 : Option R} (h1 : decide p = true → bX K Q ops rest E H q) (r : decide p = false → bX K Q ops rest E H o2) : bX K Q ops rest E H (if p then q else o2) :=
 jz (fun h => h1 (by simpa using h)) (fun h => r (by simpa using h))
theorem mS {p : Prop} [Decidable p] {q o2 : Option R} (r : (!decide p) = true → bX K Q ops rest E H o2) (h1 : (!decide p) = false → bX K Q ops rest E H q) : bX K Q ops rest E H (if p then q else o2) :=
 jz (fun h => h1 (by simpa using h)) (fun h => r (by simpa using h))
theorem eZ {b : Bool} {q o2 : Option R} (h1 : b = true → bX K Q ops rest E H q) (r : b = false → bX K Q ops rest E H o2) : bX K Q ops rest E H (if b = true then q else o2) :=
 jz h1 (fun h => r (by simpa using h))
theorem gl {f : FuncId} {xs q : List Operand} {r vs : List Value} (u : op.op = .makeFunc (.func f) xs.toArray q.toArray) (G : evs xs E = some r) (I : evs q E = some vs) : RQ K op E H (.func (.func f) r.toArray vs.toArray) :=
 cA (by rw [u]; intro c h; cases h) fun a w D _ => by
  unfold execOp; simp only [u]
  have J : xs.toArray.map a.eval = r.toArray := by rw [← ir D xs r G]; simp
  have L : q.toArray.map a.eval = vs.toArray := by rw [← ir D q vs I]; simp
  simp [J, L, Instr.makeFunc]
theorem iT {b : BinOp} {q : TypeId} {x y : Operand} {m n : Option Addr} (P : Program) (w : World) : (eqGuard b q x y (.pointer m) (.pointer n)).run P w = .ok () w := by
 unfold eqGuard; cases b <;> rfl
theorem jU {t e : TypeId} {q : Addr} (P : Program) (r : P.underlying t = some (.pointer e)) (w : World) : (Op.equal t (.pointer (some q)) (.pointer none)).run P w = .ok false w := by
 rw [show Op.equal t (.pointer (some q)) (.pointer none) = Op.equalIn (9999 + 1) t (.pointer (some q)) (.pointer none) from rfl, Op.equalIn]
 simp [underlying, program, Sem.run, r]
theorem lH {q D e : TypeId} {x y : Operand} {G : Addr} (r : op.op = .binOp .eql q x y D) (I : ev E x = some (.pointer (some G))) (J : ev E y = some (.pointer none)) (L : K.P.underlying q = some (.pointer e)) : RQ K op E H (.bool false) :=
 cA (by rw [r]; intro c h; cases h) fun a w u _ => by
  unfold execOp; simp only [r]; rw [u.ev I, u.ev J]
  simp [iT, binOp, jU K.P L]
theorem vG {q D e : TypeId} {x y : Operand} {G : Addr} (r : op.op = .binOp .neq q x y D) (I : ev E x = some (.pointer (some G))) (J : ev E y = some (.pointer none)) (L : K.P.underlying q = some (.pointer e)) : RQ K op E H (.bool true) :=
 cA (by rw [r]; intro c h; cases h) fun a w u _ => by
  unfold execOp; simp only [r]; rw [u.ev I, u.ev J]
  simp [iT, binOp, jU K.P L]
/-! Rows of bytes. -/
theorem kK {v v2 : Y → Value} {H1 q : Y → List HA} (h : RE K op E H v H1) (r : ∀ y, v y = v2 y) (u : ∀ y, Ent (H1 y) (q y)) : RE K op E H v2 q :=
 fun a w D G next Q I => h a w D G next Q fun y J s => by rw [r]; exact I y J (s.ent (u y))
theorem Ent.set {l : List HA} {A B : HA} (k : Nat) (h : ∀ x, A x → B x) : Ent (l.set k A) (l.set k B) := by
 induction l generalizing k with
 | nil => exact Ent.refl _
 | cons C l ih =>
  cases k with
  | zero => exact fun x s => bZ x h (fun _ y => y) s
  | succ k => exact fun x s => bZ x (fun _ y => y) (ih k) s
theorem pV {T sz n r c : Nat} {a : Option Addr} {cs q : List Value} (h1 : n = r) (u : cs = q) : ∀ x, Row T sz a n c cs x → Row T sz a r c q x := by
 subst h1; subst u; exact fun _ x => x
theorem fa {x y : Operand} {t e : Nat} {q : List Value} {a a2 : Option Addr} {c c2 : Nat} {l m : List UInt8} (k : Nat) (r : op.op = .call { callee := .builtin .append, args := #[x, y], argTypes := #[t, t] })
  (u : ev E x = some (.slice a l.length c)) (D : ev E y = some (.slice a2 m.length c2)) (G : K.P.underlying t = some (.slice e)) (I : Elt K.P e 1 1 q) (J : H[k]? = some (Row e 1 a l.length c (aB l)))
  (L : Rds (H.eraseIdx k) a2 (aB m)) (U : (l.length + m.length) * 1 ≤ 140737488355328) :
  RE K (Y := Option Addr × Nat) op E H (fun y => .slice y.1 (l ++ m).length y.2) (fun y => H.set k (Row e 1 y.1 (l ++ m).length y.2 (aB (l ++ m)))) :=
 kK (nQ k r u D G I J L (by rw [db, Nat.mul_one]) (oJ m) U) (fun y => by simp) fun y => Ent.set k (pV (by simp) (by
  rw [lS, Nat.mul_one, List.take_of_length_le (by rw [db]; exact Nat.le_refl _)]))
theorem kN {x y : Operand} {t e : Nat} {k r : IntKind} {n c : Int} (u : op.op = .makeSlice t x y) (D : ev E x = some (.int k n)) (G : ev E y = some (.int r c)) (I : K.P.underlying t = some (.slice e)) (J : Elt K.P e 1 1 [.int .u8 0])
  (L : 0 ≤ n) (h1 : n ≤ c) (U : c * 1 ≤ 140737488355328) :
  RE K (Y := Nat) op E H (fun b => .slice (some ⟨b, 0, none⟩) (List.replicate n.toNat (0 : UInt8)).length c.toNat) (fun b => Row e 1 (some ⟨b, 0, none⟩) (List.replicate n.toNat (0 : UInt8)).length c.toNat (aB (List.replicate n.toNat (0 : UInt8))) :: H) :=
 kK (uE u D G I J L h1 U) (fun y => by simp) fun y => Ent.sel' 0 rfl (fun h x => by
  rcases x with ⟨x, _⟩ | ⟨b, off, pre, junk, fz, X, ok, q⟩
  ·cases x
  ·cases X
   have ab : n.toNat ≤ c.toNat := by omega
   have hl := ok.room
   have e2 : List.replicate c.toNat (Value.int .u8 0) = aB (List.replicate n.toNat (0 : UInt8)) ++ List.replicate (c.toNat - n.toNat) (Value.int .u8 0) := by
    rw [← rK, List.replicate_append_replicate]; congr 1; omega
   rw [e2] at q
   refine .inr ⟨_, _, pre, List.replicate (c.toNat - n.toNat) (Value.int .u8 0) ++ junk, fz, rfl, ⟨ok.offs, by simp; omega, ok.cap, by simp [db]; omega, by simp [db], by simp [db]; omega, ok.fzok⟩, ?_⟩
   rw [q]
   simp) (Ent.refl _)
theorem nk {t e len : Nat} {l : List (Nat × Operand)} {vs : List (Nat × Value)} {cs : List Value} (q : List UInt8) (D : op.op = .buildSlice t len l.toArray) (G : evP l E = some vs) (I : K.P.underlying t = some (.slice e)) (J : Elt K.P e 1 1 [.int .u8 0])
  (L : Nat.ble (len * 1) 16777216 = true) (U : Instr.fill (fun i => some (i * 1, 1)) ((Array.range (len * 1)).map ([Value.int .u8 0].toArray[· % [Value.int .u8 0].toArray.size]!)) vs = some cs.toArray) (X : Nat.blt 0 (len * 1) = true) (u : q.length = len) (r : cs = aB q) :
  RE K (Y := Nat) op E H (fun b => .slice (some ⟨b, 0, none⟩) q.length len) (fun b => Row e 1 (some ⟨b, 0, none⟩) q.length len (aB q) :: H) :=
 kK (rM D G I J L U X (by rw [r, db, u, Nat.mul_one])) (fun y => by rw [u]) fun y => Ent.sel' 0 rfl (pV u.symm r) (Ent.refl _)
theorem uu {t e : Nat} (q : op.op = .buildSlice t 0 [].toArray) (r : K.P.underlying t = some (.slice e)) (u : Elt K.P e 1 1 [.int .u8 0]) :
  RE K (Y := Nat) op E H (fun b => .slice (some ⟨b, 0, none⟩) ([] : List UInt8).length 0) (fun b => Row e 1 (some ⟨b, 0, none⟩) ([] : List UInt8).length 0 (aB ([] : List UInt8)) :: H) :=
 fW (by rw [q]; intro c h; cases h) fun J w L s => by
  obtain ⟨i, z, hi, U, D, G, I⟩ := u.info
  refine ⟨w.heap.size, { w with heap := w.heap.push (.cells #[] e (0, 0)) }, ?_, (s.new _).ent (Ent.sel' 0 rfl ?_ (Ent.refl _))⟩
  ·unfold execOp; simp only [q]
   simp [Instr.buildSlice, underlying, program, Sem.run, r, sizeOf, typeInfo, hi, newRow, newObj, Instr.fill]
   refine congrArg (fun x => w.alloc (.cells x e)) ?_
   apply Array.ext <;> simp
  ·intro h x
   exact Row.mk (pre := []) (junk := []) (fz := (0, 0)) ⟨rfl, Nat.le_refl _, by simp [maxLen], by simp [aB], by simp, by simp [aB], Or.inl rfl⟩ h (by simpa [pts, aB] using x)
theorem tz {x y : Operand} {t t2 e : Nat} {r : List Value} {a a2 : Option Addr} {c c2 : Nat} {l m : List UInt8} (k : Nat) (u : op.op = .call { callee := .builtin .copy, args := #[x, y], argTypes := #[t, t2] })
  (D : ev E x = some (.slice a l.length c)) (G : ev E y = some (.slice a2 m.length c2)) (I : K.P.underlying t = some (.slice e)) (J : Elt K.P e 1 1 r) (L : H[k]? = some (Row e 1 a l.length c (aB l))) (U : Rds H a2 (aB m)) :
  RE K (Y := Unit) op E H (fun _ => .int .i64 (min m.length l.length : Nat)) (fun _ => H.set k (Row e 1 a (iV l m).length c (aB (iV l m)))) :=
 kK (tT (news := aB (m.take l.length)) k u D G I J L (fun h s => by
  rcases U h s with e | ⟨b, off, X, l', T, fz, h1, h2⟩
  ·left; rw [← jL, e]; simp
  ·refine .inr ⟨b, off, X, l', T, fz, h1, fun j v q => h2 j v ?_⟩
   rw [← jL, List.getElem?_take] at q
   split at q
   ·exact q
   ·cases q) (by rw [db, List.length_take, Nat.mul_one, Nat.min_comm]) (oJ _)) (fun _ => rfl) fun _ => Ent.set k (pV (iI l m).symm (by
  rw [gX _ _ _ (by simp [db]; omega)]
  unfold iV
  rw [lS]
  simp only [List.take_zero, List.nil_append, Nat.zero_add, db, List.length_take]
  rw [← kX]
  congr 1
  by_cases h : l.length ≤ m.length
  ·rw [Nat.min_eq_left h, List.drop_of_length_le (by rw [db]; exact Nat.le_refl _), List.drop_of_length_le (by rw [db]; exact h)]
  ·rw [Nat.min_eq_right (by omega)]))
end
section
variable {K : Cx} {R S Y : Type} {Q : de R} {E : Env} {H : List HA} {o : Option R} {ops : Array Oper} {rest : List Oper} {op : Oper} {cd : Code}
theorem gP {T : TypeId} {sz n c : Nat} {a : Option Addr} {cs : List Value} (k : Nat) (G : H[k]? = some (Row T sz a n c cs)) (h : Rd (Row T sz a n c cs) a cs → n ≤ c → c ≤ maxLen → n * sz ≤ cs.length → Sim K Q cd E H o) : Sim K Q cd E H o := by
 intro r q I w u D
 exact bf (rest := []) (ops := #[]) (Q := fun r e a w => cd.wpIn (fen K.ro) 0 K.P (Q r) a w) k G (fun h1 J L U r q a w u D => h h1 J L U r q a w u D) r q I w u D
theorem mp {d : Nat} {v : Value} (G : Value) (I : lk E d = some v) (J : v = G) (h : bX K Q ops rest ((d, G) :: E) H o) : bX K Q ops rest E H o := by
 intro r L a w D U
 refine h r L a w ⟨D.size, D.defers, fun i u q => ?_⟩ U
 simp only [lk] at q
 cases hb : Nat.beq d i with
 | true =>
  obtain rfl := Nat.eq_of_beq_eq_true hb
  rw [hb] at q
  simp only [cond_true, Option.some.injEq] at q
  rw [← q, ← J]
  exact D.get _ _ I
 | false =>
  rw [hb] at q
  exact D.get i u q
theorem nw {a : Option Addr} {n q c : Nat} (h : n = q) : Value.slice a n c = .slice a q c := by rw [h]
theorem aJ {j dj d : Nat} {q b : Bool} (I : op.guard = some (j, q)) (J : ((ops[j]?).bind (·.dst)) = some dj) (L : lk E dj = some (.bool b)) (U : (b == q) = false)
  (hd : op.dst = some d) (X : Nat.blt d K.n = true) (h : bX K Q ops rest ((d, undef) :: E) H o) : bX K Q ops (op :: rest) E H o := by
 intro r u a w G hs
 refine wpListIn_step fun K' D => ?_
 rw [jb G I J L, U]
 simp only [Bool.false_eq_true, if_false]
 refine ⟨fun f _ => fV _ _, D _ _ ?_⟩
 rw [hd]
 exact h r u _ w (G.put undef X) hs
theorem da {j dj d : Nat} {q : Bool} (I : op.guard = some (j, q)) (J : ((ops[j]?).bind (·.dst)) = some dj) (L : lk E dj = some undef)
  (hd : op.dst = some d) (U : Nat.blt d K.n = true) (h : bX K Q ops rest ((d, undef) :: E) H o) : bX K Q ops (op :: rest) E H o := by
 intro r u a w G X
 refine wpListIn_step fun K' D => ?_
 have : Region.wanted op (yielded ops a.tmps) = false := by
  simp only [Region.wanted, I, yielded, J, Option.bind_some, G.get _ _ L]
  rfl
 rw [this]
 simp only [Bool.false_eq_true, if_false]
 refine ⟨fun f _ => fV _ _, D _ _ ?_⟩
 rw [hd]
 exact h r u _ w (G.put undef U) X
end
structure sQ (a : Option Addr) (c : Nat) (lo : Int) (a' : Option Addr) (c' : Nat) : Prop where
 addr : a' = (if c = lo.toNat then a else a.map (·.add (lo.toNat * 1)))
 cap : c' = c - lo.toNat
theorem gU {F : HA} {a : Option Addr} {l : List UInt8} {c : Nat} {lo hi : Int} (D : Rd F a (aB l)) (r : l.length ≤ c) (G : 0 ≤ lo ∧ lo ≤ hi ∧ hi ≤ l.length) :
  ∃ u q, sQ a c lo u q ∧ Rd F u (aB (cut l lo hi)) ∧ (cut l lo hi).length ≤ q ∧ q ≤ c :=
 ⟨_, _, ⟨rfl, rfl⟩, D.sub lo hi (c := c) (by omega), by rw [gu G.2.2]; omega, by omega⟩
section
variable {K : Cx} {R S Y : Type} {Q : de R} {E : Env} {H : List HA} {o : Option R} {ops : Array Oper} {rest : List Oper} {op : Oper}
theorem gD {x : Operand} {t e : Nat} {lo hi : Option Operand} {a G : Option Addr} {c I : Nat} {l : List UInt8} {u D : Option Value} {lo' hi' : Int}
  (X : op.op = .slice t x lo hi none) {n : Nat} (hx : ev E x = some (.slice a n c))
  (hl : lim E lo = some u) (hh : lim E hi = some D) (hu : K.P.underlying t = some (.slice e)) (hs : ∀ w, (sizeOf e).run K.P w = .ok 1 w)
  (h1 : (D = none ∧ hi' = n) ∨ ∃ k, D = some (.int k hi')) (h2 : (u = none ∧ lo' = 0) ∨ ∃ k, u = some (.int k lo')) (hb : 0 ≤ lo' ∧ lo' ≤ hi' ∧ hi' ≤ l.length) (J : l.length ≤ c) (hS : sQ a c lo' G I) :
  RQ K op E H (.slice G (cut l lo' hi').length I) := by
 obtain ⟨U, b2, b3⟩ := hb
 obtain ⟨rfl, rfl⟩ := hS
 obtain ⟨L, rfl⟩ := Int.eq_ofNat_of_zero_le U
 obtain ⟨M, rfl⟩ := Int.eq_ofNat_of_zero_le (Int.le_trans U b2)
 have r := gu (l := l) (lo := (L : Int)) (hi := (M : Int)) b3
 simp only [Int.toNat_natCast] at r
 have q := qz (K := K) (H := H) (o := op) (l := L) (h := M) X hx hl hh hu hs (by rcases h1 with ⟨x, y⟩ | y; exact .inl ⟨x, by omega⟩; exact .inr y) (by rcases h2 with ⟨x, y⟩ | y; exact .inl ⟨x, by omega⟩; exact .inr y) (by omega) (by omega)
 rw [← r] at q
 simpa using q
end
theorem sF {t : Int} (h : 0 ≤ t ∧ t < 256) : [Value.int .u8 t] = aB [dE t] := by simp [aB, gW h.1 h.2]
end Go.Proofs.YtndjkejhacfpdaaGreatDoor

namespace Go.Proofs.YtndjkejhacfpdaaGreatDoor
open Go.RowKit

theorem pW {F : Fence} {n : Nat} {P : Program} {o : Oper} {a : Act} {Q : Exit → Act → World → Prop} {D G : Act → World → Prop} (h : ∀ a w, D a w → G a w) : ∀ r, o.uponIn F n P a D Q r → o.uponIn F n P a G Q r := by
 intro r q
 cases r with
 | ok nxt w' =>
  cases nxt with
  | value v => exact h _ _ q
  | skip => exact h _ _ q
  | defer d => exact h _ _ q
  | enter f args =>
   refine ⟨q.1, q.2.mono ?_⟩
   intro e u x
   cases e with
   | returned v => exact h _ _ x
   | panicked c => exact x
   | outgrown => exact x
  | row row args => exact ⟨q.1, q.2.mono fun v u x => h _ _ x⟩
  | round l f tmps assign body =>
   refine ⟨q.1, q.2.mono ?_⟩
   intro e u x
   cases e with
   | returned v => exact h _ _ x
   | panicked c => exact x
   | outgrown => exact x
  | _ => exact q.elim
 | halt h w' => cases h <;> first | exact q | exact q.elim

def gM (ops : Array Oper) (i : Nat) : List Nat := ((ops[i]?).map fun o => (o.after.toList.filter (Region.binds .any)).map (·.on)).getD []
def dP (ops : Array Oper) (i : Nat) : Option Nat := (ops[i]?).bind (·.dst)
def fO (q : List (List Nat)) (i : Nat) : List Nat := q.getD i []
def qP (ops : Array Oper) : Bool := (List.range ops.size).all fun i => (gM ops i).all fun p => Nat.blt p i
def tD (ops : Array Oper) (r : List (List Nat)) : Bool := (List.range ops.size).all fun i => (fO r i).all fun p => (gM ops i).any fun q => Nat.beq q p || (fO r q).contains p
theorem nb {ops : Array Oper} (h : qP ops = true) {i p : Nat} (hp : p ∈ gM ops i) : p < i := by
 by_cases hi : i < ops.size
 ·have := List.all_eq_true.1 h i (by simpa using hi)
  have := List.all_eq_true.1 this p hp
  simpa [Nat.blt_eq] using this
 ·have : ops[i]? = none := Array.getElem?_eq_none (by omega)
  simp [gM, this] at hp
theorem oB {ops : Array Oper} {r : List (List Nat)} (G : qP ops = true) (I : tD ops r = true) (U : r.length ≤ ops.size) {L : List Nat} (J : ∀ i, i ∈ L → ∀ p, p ∈ gM ops i → p ∈ L) :
  ∀ i, (∀ p, p ∈ gM ops i → p ∈ L) → ∀ p, p ∈ fO r i → p ∈ L := by
 intro i
 induction i using Nat.strongRecOn with
 | _ i ih =>
  intro hd p hp
  by_cases hi : i < ops.size
  ·have := List.all_eq_true.1 I i (by simpa using hi)
   have := List.all_eq_true.1 this p hp
   obtain ⟨q, D, u⟩ := List.any_eq_true.1 this
   rw [Bool.or_eq_true] at u
   rcases u with e | e
   ·obtain rfl := Nat.eq_of_beq_eq_true e
    exact hd _ D
   ·exact ih q (nb G D) (J q (hd q D)) p (by simpa using e)
  ·have : fO r i = [] := by
    unfold fO
    rw [List.getD_eq_getElem?_getD, List.getElem?_eq_none (by omega)]; rfl
   rw [this] at hp
   cases hp

/-! ### The orders that the edges allow -/
def go' (ops : Array Oper) : Nat → Nat → Array Bool → List Nat
 | 0, _, _ => []
 | fuel + 1, t, listed =>
  let rs := (List.range ops.size).filter fun i =>
   !listed.getD i true && ((ops[i]?).map (·.after.all fun e => !Region.binds .any e || listed.getD e.on false)).getD false
  match rs[t % rs.length]? with
  | some i => i :: go' ops fuel (t / rs.length) (listed.setIfInBounds i true)
  | none => []
theorem vu (ops : Array Oper) : ∀ r t q acc, Region.linearise.go .any ops r t q acc = acc.reverse ++ go' ops r t q := by
 intro r
 induction r with
 | zero => intro t q acc; simp [Region.linearise.go, go']
 | succ r ih =>
  intro t q acc
  simp only [Region.linearise.go, go']
  split
  ·rename_i i h
   simp only [h]
   rw [ih]
   simp
  ·rename_i h
   simp only [h]
   simp
theorem sK (ops : Array Oper) (t : Nat) : Region.schedule true ops t = go' ops ops.size t (Array.replicate ops.size false) := by
 simp only [Region.schedule, Bool.true_or, if_true, Region.linearise]
 rw [vu]; simp

theorem sL {F : Fence} {n : Nat} {P : Program} {ops : Array Oper} {Q : Exit → Act → World → Prop} (J : List Nat → Act → World → Prop) (ho : qP ops = true)
  (hs : ∀ i o L a w, ops[i]? = some o → i ∉ L → (∀ p, p ∈ gM ops i → p ∈ L) → (∀ i, i ∈ L → ∀ p, p ∈ gM ops i → p ∈ L) → J L a w →
   if Region.wanted o (yielded ops a.tmps) then o.wpIn F n P a w (fun a' w' => J (i :: L) a' w') Q else (∀ f, o.about P w a.eval = some f → F.fn f) ∧ J (i :: L) (a.put o.dst undef) w)
  (he : ∀ L a w, (∀ i, i < ops.size → i ∈ L) → J L a w → Q .normal a w) :
  ∀ D t q (L : List Nat) a w, q.size = ops.size → (∀ i, i < ops.size → (q.getD i false = true ↔ i ∈ L)) → (∀ i, i ∈ L → ∀ p, p ∈ gM ops i → p ∈ L) → (∀ i, i ∈ L → i < ops.size) →
   ((List.range ops.size).filter fun i => !q.getD i false).length ≤ D → J L a w → wpOpsIn F n P ops Q (go' ops D t q) a w := by
 intro D
 induction D with
 | zero =>
  intro t q L a w U hl hc hb hf hi
  simp only [go', wpOpsIn]
  refine he L a w (fun i hi => ?_) hi
  have h0 : (List.range ops.size).filter (fun i => !q.getD i false) = [] := List.eq_nil_of_length_eq_zero (by omega)
  rw [List.filter_eq_nil_iff] at h0
  have := h0 i (by simpa using hi)
  exact (hl i hi).1 (by simpa using this)
 | succ D ih =>
  intro t q L a w U hl hc hb hf hi
  simp only [go']
  split
  ·rename_i i h
   have af := List.mem_of_getElem? h
   rw [List.mem_filter] at af
   obtain ⟨hr, r⟩ := af
   have u : i < ops.size := by simpa using hr
   rw [Bool.and_eq_true] at r
   have ab : q.getD i true = q.getD i false := by
    simp [Array.getD, U, u]
   have a8 : i ∉ L := by
    intro hx
    have := (hl i u).2 hx
    rw [ab, this] at r
    simp at r
   have I : ops[i]? = some ops[i] := Array.getElem?_eq_getElem u
   have al : ∀ p, p ∈ gM ops i → p ∈ L := by
    intro p hp
    have h2 := r.2
    rw [I] at h2
    simp only [Option.map_some, Option.getD_some] at h2
    simp only [gM, I, Option.map_some, Option.getD_some, List.mem_map, List.mem_filter] at hp
    obtain ⟨e, ⟨bc, be⟩, rfl⟩ := hp
    have h3 := Array.all_eq_true_iff_forall_mem.1 h2 e (by simpa using bc)
    rw [be] at h3
    have ad : e.on < ops.size := Nat.lt_trans (nb ho (i := i) (by simp only [gM, I, Option.map_some, Option.getD_some, List.mem_map, List.mem_filter]; exact ⟨e, ⟨bc, be⟩, rfl⟩)) u
    exact (hl _ ad).1 (by simpa using h3)
   have G := hs i ops[i] L a w I a8 al hc hi
   have nx : ∀ a' w', J (i :: L) a' w' → wpOpsIn F n P ops Q (go' ops D (t / ((List.range ops.size).filter fun i =>
     !q.getD i true && ((ops[i]?).map (·.after.all fun e => !Region.binds .any e || q.getD e.on false)).getD false).length) (q.setIfInBounds i true)) a' w' := by
    intro a' w' hi'
    refine ih _ _ (i :: L) a' w' (by simp [U]) ?_ ?_ ?_ ?_ hi'
    ·intro j X
     simp only [Array.getD_eq_getD_getElem?, Array.getElem?_setIfInBounds]
     by_cases e : i = j
     ·subst e; simp [U, u]
     ·have br := hl j X
      simp only [Array.getD_eq_getD_getElem?] at br
      simp [e, br, Ne.symm e]
    ·intro j X p hp
     rcases List.mem_cons.1 X with rfl | X
     ·exact List.mem_cons_of_mem _ (al p hp)
     ·exact List.mem_cons_of_mem _ (hc j X p hp)
    ·intro j X
     rcases List.mem_cons.1 X with rfl | X
     ·exact u
     ·exact hb j X
    ·have ad : ((List.range ops.size).filter fun j => !(q.setIfInBounds i true).getD j false).length < ((List.range ops.size).filter fun j => !q.getD j false).length := by
      have e1 : ((List.range ops.size).filter fun j => !(q.setIfInBounds i true).getD j false) = ((List.range ops.size).filter fun j => !q.getD j false).filter fun j => !Nat.beq j i := by
       rw [List.filter_filter]
       apply List.filter_congr
       intro j X
       simp only [Array.getD_eq_getD_getElem?, Array.getElem?_setIfInBounds]
       by_cases e : i = j
       ·subst e; simp [U, u]
       ·have : Nat.beq j i = false := by rw [Bool.eq_false_iff]; intro x; exact e (Nat.eq_of_beq_eq_true x).symm
        simp [e, this]
      rw [e1]
      have b3 : i ∈ (List.range ops.size).filter fun j => !q.getD j false := by
       rw [List.mem_filter]
       refine ⟨hr, ?_⟩
       rw [← ab]; exact r.1
      exact List.length_filter_lt_length_iff_exists.2 ⟨i, b3, by simp⟩
     omega
   simp only [wpOpsIn, I]
   split
   ·rename_i hw
    rw [if_pos hw] at G
    exact ⟨G.1, pW nx _ G.2⟩
   ·rename_i hw
    rw [if_neg hw] at G
    exact ⟨G.1, nx _ _ G.2⟩
  ·rename_i h
   -- nothing is ready: all is done
   refine he L a w (fun i hi => ?_) hi
   have an : ((List.range ops.size).filter fun i => !q.getD i true && ((ops[i]?).map (·.after.all fun e => !Region.binds .any e || q.getD e.on false)).getD false) = [] := by
    cases hrs : ((List.range ops.size).filter fun i => !q.getD i true && ((ops[i]?).map (·.after.all fun e => !Region.binds .any e || q.getD e.on false)).getD false) with
    | nil => rfl
    | cons x xs =>
     rw [hrs] at h
     rw [List.getElem?_eq_none_iff] at h
     have := Nat.mod_lt t (show 0 < (x :: xs).length by simp)
     omega
   rw [List.filter_eq_nil_iff] at an
   -- by induction every operation is listed
   have key : ∀ i, i < ops.size → i ∈ L := by
    intro i
    induction i using Nat.strongRecOn with
    | _ i ih2 =>
     intro hi
     have h1 := an i (by simpa using hi)
     refine Classical.byContradiction fun b5 => h1 ?_
     have ab : q.getD i true = q.getD i false := by simp [Array.getD, U, hi]
     have hf : q.getD i false = false := by
      rw [Bool.eq_false_iff]; intro x; exact b5 ((hl i hi).1 x)
     have I : ops[i]? = some ops[i] := Array.getElem?_eq_getElem hi
     rw [ab, hf, I]
     simp only [Bool.not_false, Bool.true_and, Option.map_some, Option.getD_some]
     rw [Array.all_eq_true_iff_forall_mem]
     intro e he
     cases hb2 : Region.binds .any e with
     | false => rfl
     | true =>
      have hp : e.on ∈ gM ops i := by
       simp only [gM, I, Option.map_some, Option.getD_some, List.mem_map, List.mem_filter]
       exact ⟨e, ⟨by simpa using he, hb2⟩, rfl⟩
      have ad := nb ho hp
      have := (hl _ (by omega)).2 (ih2 _ ad (by omega))
      simp [this]
   exact key i hi

/-! ### The region as a step of a simulation -/
def All (l : List Nat) (p : Nat → Prop) : Prop :=
 match l with
 | [] => True
 | i :: l => p i ∧ All l p
theorem All.nil {p : Nat → Prop} : All [] p := trivial
theorem All.cons {l : List Nat} {p : Nat → Prop} {i : Nat} (h : p i) (r : All l p) : All (i :: l) p := ⟨h, r⟩
theorem All.mem {l : List Nat} {p : Nat → Prop} (h : All l p) {i : Nat} (hi : i ∈ l) : p i := by
 induction l with
 | nil => cases hi
 | cons j l ih =>
  rcases List.mem_cons.1 hi with rfl | hi
  ·exact h.1
  ·exact ih h.2 hi
def fU (l : List Nat) (f g : Nat → Value) : Prop :=
 match l with
 | [] => True
 | i :: l => f i = g i ∧ fU l f g
theorem fU.mem {l : List Nat} {f g : Nat → Value} (h : fU l f g) {i : Nat} (hi : i ∈ l) : f i = g i := by
 induction l with
 | nil => cases hi
 | cons j l ih =>
  rcases List.mem_cons.1 hi with rfl | hi
  ·exact h.1
  ·exact ih h.2 hi
def gN (ops : Array Oper) (val : Nat → Value) (E : Env) : List Nat → Env
 | [] => E
 | i :: L => match dP ops i with
  | some d => (d, val i) :: gN ops val E L
  | none => gN ops val E L
theorem mw {ops : Array Oper} {f g : Nat → Value} {E : Env} : ∀ L, (∀ i, i ∈ L → f i = g i) → gN ops f E L = gN ops g E L
 | [], _ => rfl
 | i :: L, h => by
  simp only [gN]
  rw [mw L (fun j q => h j (List.mem_cons_of_mem _ q)), h i List.mem_cons_self]
def mx (ops : Array Oper) : Bool := (List.range ops.size).all fun i => (List.range ops.size).all fun j => Nat.beq i j || (match dP ops i, dP ops j with | some a, some b => !Nat.beq a b | _, _ => true)
theorem tP {ops : Array Oper} (h : mx ops = true) {i j d : Nat} (hi : dP ops i = some d) (q : dP ops j = some d) : i = j := by
 have u : i < ops.size := by
  refine Classical.byContradiction fun x => ?_
  have : ops[i]? = none := Array.getElem?_eq_none (by omega)
  simp [dP, this] at hi
 have D : j < ops.size := by
  refine Classical.byContradiction fun x => ?_
  have : ops[j]? = none := Array.getElem?_eq_none (by omega)
  simp [dP, this] at q
 have h1 := List.all_eq_true.1 h i (by simpa using u)
 have r := List.all_eq_true.1 h1 j (by simpa using D)
 rw [hi, q, Bool.or_eq_true] at r
 rcases r with e | e
 ·exact Nat.eq_of_beq_eq_true e
 ·have : Nat.beq d d = true := by simp
  simp [this] at e
theorem kV {ops : Array Oper} (hd : mx ops = true) {val : Nat → Value} {E : Env} {p s : Nat} (hp : dP ops p = some s) : ∀ L, p ∈ L → lk (gN ops val E L) s = some (val p)
 | i :: L, h => by
  simp only [gN]
  cases hi : dP ops i with
  | none =>
   rcases List.mem_cons.1 h with rfl | h
   ·rw [hi] at hp; cases hp
   ·exact kV hd hp L h
  | some d =>
   simp only [lk]
   cases hb : Nat.beq d s with
   | true =>
    obtain rfl := Nat.eq_of_beq_eq_true hb
    rw [tP hd hi hp]; rfl
   | false =>
    rcases List.mem_cons.1 h with rfl | h
    ·rw [hi] at hp; cases hp; simp at hb
    ·simpa using kV hd hp L h
theorem mz {ops : Array Oper} {val : Nat → Value} {E : Env} {s : Nat} : ∀ L, (∀ i, i ∈ L → dP ops i ≠ some s) → lk (gN ops val E L) s = lk E s
 | [], _ => rfl
 | i :: L, h => by
  simp only [gN]
  have q := mz (val := val) (E := E) L fun j r => h j (List.mem_cons_of_mem _ r)
  cases hi : dP ops i with
  | none => exact q
  | some d =>
   simp only [lk]
   have : Nat.beq d s = false := by
    rw [Bool.eq_false_iff]; intro x
    obtain rfl := Nat.eq_of_beq_eq_true x
    exact h i List.mem_cons_self hi
   rw [this]; exact q
inductive dA (ops : Array Oper) (anc : List (List Nat)) (val : Nat → Value) (E : Env) (i : Nat) : Env → Prop
 | nil : dA ops anc val E i []
 | w {l : Env} {s : Nat} {v : Value} (p : Nat) (hp : (fO anc i).contains p = true) (hd : dP ops p = some s) (hv : val p = v) (r : dA ops anc val E i l) : dA ops anc val E i ((s, v) :: l)
 | o {l : Env} {s : Nat} {v : Value} (h : lk E s = some v) (hw : ((List.range ops.size).all fun q => (match dP ops q with | some d => !Nat.beq d s | none => true) || Nat.beq q i || (fO anc q).contains i) = true) (r : dA ops anc val E i l) : dA ops anc val E i ((s, v) :: l)
theorem dA.sub {ops : Array Oper} {u : List (List Nat)} {val : Nat → Value} {E : Env} {i : Nat} {I : Env} (h : dA ops u val E i I) (hd : mx ops = true) {L : List Nat} (hi : i ∉ L) (J : ∀ j, j ∈ L → j < ops.size)
  (h1 : ∀ p, p ∈ fO u i → p ∈ L) (U : ∀ q, q ∈ L → ∀ p, p ∈ fO u q → p ∈ L) : Sub I (gN ops val E L) := by
 induction h with
 | nil => trivial
 | w p hp hdst hv r ih => exact ⟨by rw [kV hd hdst L (h1 p (by simpa using hp)), hv], ih⟩
 | @o l s v h hw r ih =>
  refine ⟨?_, ih⟩
  rw [mz L fun q D => ?_]
  ·exact h
  ·intro G
   have := List.all_eq_true.1 hw q (by simpa using J q D)
   rw [G] at this
   simp only [Bool.or_eq_true, Bool.not_eq_true', Nat.beq_eq] at this
   rcases this with (e | e) | e
   ·simp at e
   ·have e := Nat.eq_of_beq_eq_true (by simpa using e); subst e; exact hi D
   ·exact hi (U q D i (by simpa using e))
section
variable {K : Cx} {R S Y : Type} {Q : de R} {E : Env} {H : List HA} {o : Option R}
def QOb (K : Cx) (ops : Array Oper) (D : List (List Nat)) (val : Nat → Value) (E : Env) (H : List HA) (i : Nat) : Prop :=
 ∃ r, ops[i]? = some r ∧ ∃ u, dA ops D val E i u ∧
  ((r.guard = none ∧ RQ K r u H (val i)) ∨
   (∃ j q dj, r.guard = some (j, q) ∧ dP ops j = some dj ∧ ((∃ b v, lk u dj = some (.bool b) ∧ val i = cv (b == q) v ∧ ((b == q) = true → RQ K r u H v)) ∨ (lk u dj = some undef ∧ val i = undef))))
theorem QOb.plain {ops : Array Oper} {q : List (List Nat)} {val : Nat → Value} {i : Nat} {r : Oper} {v : Value} (u : Env) (D : ops[i]? = some r) (G : r.guard = none) (I : dA ops q val E i u) (h : RQ K r u H v) (J : val i = v) : QOb K ops q val E H i :=
 ⟨r, D, u, I, .inl ⟨G, by rw [J]; exact h⟩⟩
theorem QOb.grd {ops : Array Oper} {r : List (List Nat)} {val : Nat → Value} {i j dj : Nat} {q b : Bool} {v : Value} {u : Oper} (D : Env) (G : ops[i]? = some u) (I : u.guard = some (j, q)) (J : dP ops j = some dj) (L : lk D dj = some (.bool b))
  (U : dA ops r val E i D) (h : (b == q) = true → RQ K u D H v) (X : val i = cv (b == q) v) : QOb K ops r val E H i :=
 ⟨u, G, D, U, .inr ⟨j, q, dj, I, J, .inl ⟨b, v, L, X, h⟩⟩⟩
def GOk (ops : Array Oper) (r : Oper) (u : Env) : Prop :=
 r.guard = none ∨ ∃ j q dj b, r.guard = some (j, q) ∧ dP ops j = some dj ∧ lk u dj = some (.bool b) ∧ (b == q) = true
def EOb (K : Cx) (ops : Array Oper) (q : List (List Nat)) {Γ : Type} (val : Γ → Nat → Value) (E : Env) (heap : Nat → Γ → List HA) (m i : Nat) (pre : List Nat) (γ : Γ) : Prop :=
 ∃ r, ops[i]? = some r ∧ ∃ u, dA ops q (val γ) E i u ∧ GOk ops r u ∧
  RE K (Y := { γ' : Γ // fU pre (val γ') (val γ) }) r u (heap m γ) (fun γ' => val γ'.1 i) (fun γ' => heap (m + 1) γ'.1)
theorem EOb.gen {ops : Array Oper} {q : List (List Nat)} {Γ Z : Type} {val : Γ → Nat → Value} {heap : Nat → Γ → List HA} {m i : Nat} {pre : List Nat} {γ : Γ} {r : Oper} {v : Z → Value} {H' : Z → List HA} (u : Env) (f : Z → Γ) (D : ops[i]? = some r) (G : GOk ops r u) (I : dA ops q (val γ) E i u)
  (h : RE K (Y := Z) r u (heap m γ) v H') (J : ∀ z, fU pre (val (f z)) (val γ)) (L : ∀ z, r.dst = none ∨ v z = val (f z) i) (U : ∀ z, Ent (H' z) (heap (m + 1) (f z))) : EOb K ops q val E heap m i pre γ :=
 ⟨r, D, u, I, G, fun a w X hs next Q hn => h a w X hs next Q fun z w' s => by
  have := hn ⟨f z, J z⟩ w' (s.ent (U z))
  rcases L z with e | e
  ·rw [e] at this ⊢; exact this
  ·rw [e]; exact this⟩
theorem EOb.mk {ops : Array Oper} {q : List (List Nat)} {Γ Z : Type} {val : Γ → Nat → Value} {heap : Nat → Γ → List HA} {m i : Nat} {pre : List Nat} {γ : Γ} {r : Oper} {v : Z → Value} {H' : Z → List HA} (u : Env) (f : Z → Γ) (D : ops[i]? = some r) (G : r.guard = none) (I : dA ops q (val γ) E i u)
  (h : RE K (Y := Z) r u (heap m γ) v H') (J : ∀ z, fU pre (val (f z)) (val γ)) (L : ∀ z, r.dst = none ∨ v z = val (f z) i) (U : ∀ z, Ent (H' z) (heap (m + 1) (f z))) : EOb K ops q val E heap m i pre γ :=
 EOb.gen u f D (.inl G) I h J L U
theorem EOb.yes {ops : Array Oper} {r : List (List Nat)} {Γ Z : Type} {val : Γ → Nat → Value} {heap : Nat → Γ → List HA} {m i : Nat} {pre : List Nat} {γ : Γ} {j dj : Nat} {q b : Bool} {u : Oper} {v : Z → Value} {H' : Z → List HA} (D : Env) (f : Z → Γ) (G : ops[i]? = some u) (I : u.guard = some (j, q)) (J : dP ops j = some dj) (L : lk D dj = some (.bool b)) (U : (b == q) = true) (X : dA ops r (val γ) E i D)
  (h : RE K (Y := Z) u D (heap m γ) v H') (ha : ∀ z, fU pre (val (f z)) (val γ)) (hv : ∀ z, u.dst = none ∨ v z = val (f z) i) (hH : ∀ z, Ent (H' z) (heap (m + 1) (f z))) : EOb K ops r val E heap m i pre γ :=
 EOb.gen D f G (.inr ⟨j, q, dj, b, I, J, L, U⟩) X h ha hv hH
def rH (ops : Array Oper) (r : List (List Nat)) (i : Nat) (pre : List Nat) : Bool := (List.range ops.size).all fun q => pre.contains q || Nat.beq q i || (fO r q).contains i
def tQ (ops : Array Oper) (r : List (List Nat)) (q : List Nat) (i : Nat) (rng : List Nat) : Bool :=
 (List.range (q.length + 1)).all fun j => rng.contains j || (q.zipIdx.any fun u => ((fO r i).contains u.1 && Nat.ble j u.2) || ((fO r u.1).contains i && Nat.blt u.2 j))
def tR (r : List (List Nat)) (q : List Nat) : Bool := (q.zipIdx.all fun a => q.zipIdx.all fun b => Nat.ble b.2 a.2 || (fO r b.1).contains a.1)
theorem sM {ops : Array Oper} (hd : mx ops = true) {val : Nat → Value} {E : Env} {L q : List Nat} (h : ∀ i, i < ops.size → i ∈ L) (u : ∀ i, i < ops.size → i ∈ q) (s : Nat) : lk (gN ops val E L) s = lk (gN ops val E q) s := by
 by_cases hw : ∃ p, dP ops p = some s
 ·obtain ⟨p, hp⟩ := hw
  have r : p < ops.size := by
   refine Classical.byContradiction fun x => ?_
   have : ops[p]? = none := Array.getElem?_eq_none (by omega)
   simp [dP, this] at hp
  rw [kV hd hp L (h p r), kV hd hp q (u p r)]
 ·rw [mz L fun i _ e => hw ⟨i, e⟩, mz q fun i _ e => hw ⟨i, e⟩]
theorem Sub.congr {E E' : Env} (h : ∀ s, lk E s = lk E' s) : ∀ {D : Env}, Sub D E → Sub D E'
 | [], _ => trivial
 | (i, v) :: D, ⟨x, y⟩ => ⟨by rw [← h]; exact x, Sub.congr h y⟩
theorem mA {ops : Array Oper} {i : Nat} {o : Oper} (h : ops[i]? = some o) : i < ops.size := (Array.getElem?_eq_some_iff.1 h).1
theorem tS {n : Nat} {ds : List Deferred} {ops : Array Oper} {r : Oper} {u : Env} {a : Act} (h : Has n ds u a) (q : GOk ops r u) : Region.wanted r (yielded ops a.tmps) = true := by
 rcases q with q | ⟨j, D, dj, b, q, G, I, J⟩
 ·simp [Region.wanted, q]
 ·rw [jb h q G I]; exact J
theorem ba {Γ : Type} {id : Nat} {l : List Oper} (γ0 : Γ) (U : List (List Nat)) (u G : List Nat) (rng : Nat → List Nat) (pre : Nat → List Nat) (val : Γ → Nat → Value) (heap : Nat → Γ → List HA) (E2 : Γ → Env)
  (cd : K.P.follows .mixedOrders = true)
  (b2 : qP l.toArray = true) (b0 : tD l.toArray U = true) (d8 : Nat.ble U.length l.length = true) (an : mx l.toArray = true) (be : tR U u = true)
  (ch : ((List.range l.length).all fun i => u.contains i || G.contains i) = true) (d9 : (u.zipIdx.all fun a => u.zipIdx.all fun b => Nat.beq a.2 b.2 || !Nat.beq a.1 b.1) = true)
  (nn : Nat) (ea : K.n = nn) (eb : ((List.range l.length).all fun i => match dP l.toArray i with | some d => Nat.blt d nn | none => true) = true)
  (c0 : (G.all fun i => tQ l.toArray U u i (rng i)) = true)
  (b3 : (u.all fun i => rH l.toArray U i (pre i)) = true)
  (h0 : Ent H (heap 0 γ0))
  (hq : All G fun i => ∀ γ, All (rng i) fun j => QOb K l.toArray U (val γ) E (heap j γ) i)
  (he : All (List.range u.length) fun m => ∀ γ, EOb K l.toArray U val E heap m (u.getD m 0) (pre (u.getD m 0)) γ)
  (hE : ∀ γ, Sub (E2 γ) (gN l.toArray (val γ) E (List.range l.length).reverse))
  (h : ∀ γ, Nrm K Q (E2 γ) (heap u.length γ) o) : Sim K Q (.region id l.toArray true) E H o := by
 intro r hr a w hh hs
 refine wpIn_region_draw (fun t => ?_)
 rw [cd, sK]
 have c3 : l.toArray.size = l.length := by simp
 have b1 : U.length ≤ l.toArray.size := by rw [c3]; simpa [Nat.ble_eq] using d8
 refine sL (F := fen K.ro) (n := 0) (P := K.P) (Q := Q r)
  (fun L a w => ∃ γ j, j ≤ u.length ∧ (∀ i, i ∈ L → i < l.toArray.size) ∧ (∀ m e, u[m]? = some e → (e ∈ L ↔ m < j)) ∧ Has K.n K.ds (gN l.toArray (val γ) E L) a ∧ Sat K.W (heap j γ) w)
  b2 ?_ ?_ l.toArray.size t (Array.replicate l.toArray.size false) [] a { w with drawn := w.drawn + 1 } (by simp) (by intro i hi; simp only [Array.getD_eq_getD_getElem?, Array.getElem?_replicate]; split <;> simp) (by intro i hi; cases hi) (by intro i hi; cases hi)
  (by refine Nat.le_trans (List.length_filter_le _ _) (by simp)) ⟨γ0, 0, Nat.zero_le _, (by intro i hi; cases hi), (by intro m e _; simp), hh, (hs.drew _).ent h0⟩
 ·-- a step
  rintro i op L a w hoi hno hpre hcl ⟨γ, j, hj, hb, ab, D, I⟩
  have hi : i < l.toArray.size := mA hoi
  have c6 : i < l.length := by rwa [c3] at hi
  have h1 : ∀ p, p ∈ fO U i → p ∈ L := oB b2 b0 b1 hcl i hpre
  have h2 : ∀ q, q ∈ L → ∀ p, p ∈ fO U q → p ∈ L := fun q hq => oB b2 b0 b1 hcl q (hcl q hq)
  have a6 : ∀ q, q ∈ i :: L → q < l.toArray.size := by
   intro q hq
   rcases List.mem_cons.1 hq with rfl | hq
   ·exact hi
   ·exact hb q hq
  have ad : ∀ (γ' : Γ) (a' : Act) (v : Value), Has K.n K.ds (gN l.toArray (val γ') E L) a' → v = val γ' i ∨ op.dst = none → Has K.n K.ds (gN l.toArray (val γ') E (i :: L)) (a'.put op.dst v) := by
   intro γ' a' v hx hv
   simp only [gN, dP, hoi, Option.bind_some]
   cases hd : op.dst with
   | none => exact hx
   | some d =>
    rcases hv with rfl | hv
    ·refine hx.put _ ?_
     have := List.all_eq_true.1 eb i (by simpa using c6)
     rw [ea]
     simpa [dP, hoi, hd] using this
    ·rw [hd] at hv; cases hv
  by_cases hef : i ∈ u
  ·obtain ⟨m, hm⟩ := List.mem_iff_getElem?.1 hef
   have c7 : m < u.length := (List.getElem?_eq_some_iff.1 hm).1
   have ed : j = m := by
    have c1 : ¬ m < j := fun x => hno ((ab m i hm).2 x)
    refine Classical.byContradiction fun b4 => ?_
    have c2 : j < m := by omega
    have a7 : u[j]? = some (u[j]'(by omega)) := List.getElem?_eq_getElem (by omega)
    have br := List.all_eq_true.1 be (u[j]'(by omega), j) (by rw [List.mem_zipIdx_iff_getElem?]; exact a7)
    have br := List.all_eq_true.1 br (i, m) (by rw [List.mem_zipIdx_iff_getElem?]; exact hm)
    rw [Bool.or_eq_true] at br
    rcases br with e | e
    ·have := Nat.le_of_ble_eq_true e; simp at this; omega
    ·have := h1 _ (by simpa using e)
     have := (ab j _ a7).1 this
     omega
   subst ed
   have ef : u.getD j 0 = i := by rw [List.getD_eq_getElem?_getD, hm]; rfl
   obtain ⟨c8, X, Ei, bs, hg, c9⟩ := he.mem (i := j) (by simpa using c7) γ
   rw [ef] at X bs c9
   rw [hoi] at X
   cases X
   have J : Has K.n K.ds Ei a := D.sub (bs.sub an hno hb h1 h2)
   rw [if_pos (tS J hg)]
   refine c9 a w J I _ _ ?_
   rintro ⟨γ', eg⟩ w' s'
   refine ⟨γ', j + 1, c7, a6, ?_, ?_, s'⟩
   ·intro m' e' a8
    rw [List.mem_cons]
    by_cases hmm : m' = j
    ·subst hmm
     rw [hm] at a8; cases a8
     simp
    ·have b4 : e' ≠ i := by
      intro x
      rw [x] at a8
      have x1 := List.all_eq_true.1 d9 (i, j) (by rw [List.mem_zipIdx_iff_getElem?]; exact hm)
      have x1 := List.all_eq_true.1 x1 (i, m') (by rw [List.mem_zipIdx_iff_getElem?]; exact a8)
      rw [Bool.or_eq_true] at x1
      rcases x1 with y | y
      ·exact hmm (Nat.eq_of_beq_eq_true y).symm
      ·simp at y
     rw [ab m' e' a8]
     constructor
     ·rintro (x | x)
      ·exact absurd x b4
      ·omega
     ·intro x; right; omega
   ·refine ad γ' a _ ?_ (.inl rfl)
    rw [mw (f := val γ') (g := val γ) L fun q hq => ?_]
    ·exact D
    ·refine eg.mem ?_
     have el := List.all_eq_true.1 b3 i (by simpa using hef)
     have := List.all_eq_true.1 el q (by simpa using hb q hq)
     rw [Bool.or_eq_true, Bool.or_eq_true] at this
     rcases this with (e | e) | e
     ·simpa using e
     ·obtain rfl := Nat.eq_of_beq_eq_true e
      exact absurd hq hno
     ·exact absurd (h2 q hq i (by simpa using e)) hno
  ·have d1 : i ∈ G := by
    have := List.all_eq_true.1 ch i (by simpa using c6)
    rw [Bool.or_eq_true] at this
    rcases this with e | e
    ·exact absurd (by simpa using e) hef
    ·simpa using e
   have em : j ∈ rng i := by
    have := List.all_eq_true.1 c0 i d1
    have := List.all_eq_true.1 this j (by simp; omega)
    rw [Bool.or_eq_true] at this
    rcases this with e | e
    ·simpa using e
    ·obtain ⟨⟨e, m⟩, bc, hc⟩ := List.any_eq_true.1 e
     rw [List.mem_zipIdx_iff_getElem?] at bc
     rw [Bool.or_eq_true, Bool.and_eq_true, Bool.and_eq_true] at hc
     rcases hc with ⟨x, y⟩ | ⟨x, y⟩
     ·have hx := h1 e (by simpa using x)
      have := (ab m e bc).1 hx
      have := Nat.le_of_ble_eq_true y
      simp at this; omega
     ·have hy : m < j := by simpa [Nat.blt_eq] using y
      have er := (ab m e bc).2 hy
      exact absurd (h2 e er i (by simpa using x)) hno
   obtain ⟨c8, X, Ei, bs, b5⟩ := (hq.mem d1 γ).mem em
   rw [hoi] at X
   cases X
   have J : Has K.n K.ds Ei a := D.sub (bs.sub an hno hb h1 h2)
   have af : ∀ m e, u[m]? = some e → (e ∈ i :: L ↔ m < j) := by
    intro m e d2
    rw [List.mem_cons, ab m e d2]
    constructor
    ·rintro (x | x)
     ·subst x
      exact absurd (List.mem_of_getElem? d2) hef
     ·exact x
    ·exact fun x => .inr x
   rcases b5 with ⟨hg, b6⟩ | ⟨jg, d3, dj, hg, d4, et⟩
   ·rw [if_pos (by simp [Region.wanted, hg])]
    refine b6 a w J I _ _ fun w' s' => ⟨γ, j, hj, a6, af, ad γ a _ D (.inl rfl), s'⟩
   ·rcases et with ⟨b, v, e0, al, b6⟩ | ⟨hu, al⟩
    ·rw [jb J hg d4 e0]
     cases hbw : (b == d3) with
     | true =>
      rw [hbw] at al
      simp only [if_true]
      refine b6 hbw a w J I _ _ fun w' s' => ⟨γ, j, hj, a6, af, ad γ a _ D (.inl al.symm), s'⟩
     | false =>
      rw [hbw] at al
      simp only [Bool.false_eq_true, if_false]
      exact ⟨fun f _ => fV _ _, γ, j, hj, a6, af, ad γ a _ D (.inl al.symm), I⟩
    ·have e1 : Region.wanted op (yielded l.toArray a.tmps) = false := by
      simp only [Region.wanted, hg, yielded]
      rw [show ((l.toArray)[jg]?.bind (·.dst)) = some dj from d4]
      simp [J.get _ _ hu, undef]
     rw [e1]
     simp only [Bool.false_eq_true, if_false]
     exact ⟨fun f _ => fV _ _, γ, j, hj, a6, af, ad γ a _ D (.inl al.symm), I⟩
 ·-- the end
  rintro L a w hL ⟨γ, j, hj, hb, ab, D, I⟩
  have e2 : j = u.length := by
   refine Classical.byContradiction fun b4 => ?_
   have b7 : j < u.length := by omega
   have a7 : u[j]? = some (u[j]'b7) := List.getElem?_eq_getElem b7
   obtain ⟨c8, X, _⟩ := he.mem (i := j) (by simpa using b7) γ
   rw [List.getD_eq_getElem?_getD, a7] at X
   have := (ab j _ a7).1 (hL _ (mA X))
   omega
  subst e2
  refine h γ r hr a w (D.sub ((hE γ).congr fun s => ?_)) I
  exact sM an (fun i hi => by simpa using hi) hL s
end
end Go.Proofs.YtndjkejhacfpdaaGreatDoor

namespace Go.Proofs.YtndjkejhacfpdaaGreatDoor
open Go.RowKit

/-! ### 1. Marks -/
def mkD (D : Nat) : Deferred := { target := .collected D, args := #[] }
def gZ (D : Nat) : HA := pts D (.deferred (some []))
theorem ql {P : Program} {fn : Func} {tmps : Array Value} {R : Ending → World → Prop} {W : World} {B : List HA}
  (r : ∀ w, Sat W B w → ∃ v, (results fn tmps).run P w = .ok v w ∧ R (.returned v) w) : ∀ (q : List Nat) (w : World), Sat W (q.map gZ ++ B) w → LeavesInM Fence.wide 0 P fn tmps R (q.map mkD) .returning w
 | [], w, s => r w s
 | D :: q, w, s => ⟨by simp, .inl ⟨D, _, rfl, run_takeDeferred (s.pts_at (i := 0) rfl), ql r q _ ((s.upd (b := D) (o' := .deferred none)).ent (Ent.drop (Ent.refl _)))⟩⟩
def qV (K : Cx) {R Y : Type} (fn : Func) (val : R → Y → Value) (B : R → Y → List HA) : de R := fun r e a w =>
 bodyPostM Fence.wide 0 K.P fn (fun e q => ∃ y, e = .returned (val r y) ∧ Sat K.W (B r y) q) e a w
section
variable {K : Cx} {R S Y : Type} {Q : de R} {E : Env} {H : List HA} {o : Option R}
theorem uN {fn : Func} {val : R → Y → Value} {B : R → Y → List HA} {r : R} {vs : List Value} (D : List Nat) (y : Y) (hd : K.ds = D.map mkD) (q : jm fn.results.toList E = some vs) (I : tup vs = val r y) (J : Ent H (D.map gZ ++ B r y)) :
  ∀ u, some r = some u → ∀ a w, Has K.n K.ds E a → Sat K.W H w → LeavesInM Fence.wide 0 K.P fn a.tmps (fun e L => ∃ y, e = .returned (val u y) ∧ Sat K.W (B u y) L) a.defers .returning w := by
 intro u U a w G X
 cases U
 rw [G.defers, hd]
 exact ql (B := B r y) (fun w s => ⟨_, mF G q, y, by rw [I], s⟩) D w (X.ent J)
theorem tV {fn : Func} {val : R → Y → Value} {B : R → Y → List HA} {r : R} {vs : List Value} (u : List Nat) (y : Y) (hd : K.ds = u.map mkD) (q : jm fn.results.toList E = some vs) (D : tup vs = val r y) (G : Ent H (u.map gZ ++ B r y)) :
  Nrm K (qV K fn val B) E H (some r) := fun I J a w L U => uN u y hd q D G I J a w L U
theorem lC {fn : Func} {val : R → Y → Value} {B : R → Y → List HA} {r : R} {vs : List Value} (u : List Nat) (y : Y) (hd : K.ds = u.map mkD) (q : jm fn.results.toList E = some vs) (D : tup vs = val r y) (G : Ent H (u.map gZ ++ B r y)) :
  Rtn K (qV K fn val B) E H (some r) := fun I J a w L U => uN u y hd q D G I J a w L U
theorem nC {P : Program} {W : World} {f : FuncId} {args : List Value} {A : List HA} {F : HA} {o : Option R} {val : R → Y → Value} {B : R → Y → List HA}
  {fn : Func} {c : Code} (n : Nat) (q : P.funcs[f]? = some fn) (u : fn.body = some c) (D : fn.ntmps = n) (G : Nat.ble args.length n = true)
  (h : Sim ⟨P, W, none, n, []⟩ (qV ⟨P, W, none, n, []⟩ fn val fun r y => B r y ++ [F]) c (ku 0 args) (A ++ [F]) o) : Fn P W f args A F o val B := by
 intro r I w J
 refine (callsIn_wide (n := 0)).1 (callsIn_of_wp_marks q u trivial ?_ rfl)
 have := h r I _ w (kv args n (by simpa [Nat.ble_eq] using G)) J
 rw [D]
 exact this
end

/-! ### 2. Rounds and iterators -/
def jM {α S : Type} (q : S → α → Option S) : S → List α → Option S
 | s, [] => some s
 | s, x :: xs => (q s x).bind fun r => jM q r xs
def jE (ps : List Nat) (vs : List Value) (t : Array Value) : Array Value := (ps.zip vs).foldl (fun tmps (t, a) => tmps.setIfInBounds t a) t
theorem nD (ps : Array Nat) (vs : List Value) (t : Array Value) : (ps.zip vs.toArray).foldl (fun tmps (t, a) => tmps.setIfInBounds t a) t = jE ps.toList vs t := by
 unfold jE
 rw [← Array.foldl_toList]
 simp
def ng (P : Program) (W : World) (l : Nat) (rec : Loop) {α S Y : Type} (enc : α → List Value) (q : S → α → Option S) (r : S → Y → List HA) : Prop :=
 ∀ s x u y (Fr : HA) w, q s x = some u → Sat W (pts l (.loop rec) :: (r s y ++ [Fr])) w →
  RoundIn Fence.wide 0 P l rec.fn (jE rec.params.toList (enc x) rec.tmps) rec.assign rec.body w fun e D => e = .returned (.bool true) ∧ ∃ G, Sat W (pts l (.loop rec) :: (r u G ++ [Fr])) D
def lD (P : Program) (W : World) (l : Nat) {α S Y : Type} (enc : α → List Value) (q : S → α → Option S) (A : S → Y → HA) : Prop :=
 ∀ s x r y (Fr : HA) w, q s x = some r → Sat W [A s y, Fr] w → ∃ f tmps assign body, (Instr.yield l (enc x).toArray).run P w = .ok (.round l f tmps assign body) w ∧
  RoundIn Fence.wide 0 P l f tmps assign body w fun e u => e = .returned (.bool true) ∧ ∃ D, Sat W [A r D, Fr] u
def itA (l : Nat) (rec : Loop) {S Y : Type} (q : S → Y → List HA) (s : S) (y : Y) : HA := aN (pts l (.loop rec) :: q s y)
theorem rP (L : List HA) (Fr : HA) : Ent (L ++ [Fr]) [aN L, Fr] := fun h s =>
 (cu [aN L] [Fr] h).2 (bZ h (fun _ x => iq x) (fun _ x => x) ((cu _ _ h).1 s))
theorem kw (L m : List HA) : Ent (aN L :: m) (L ++ m) := fun h s => (cu _ _ h).2 s
theorem qW {P : Program} {W : World} {l : Nat} {rec : Loop} {α S Y : Type} {enc : α → List Value} {r : S → α → Option S} {q : S → Y → List HA} (J : ng P W l rec enc r q) (hp : ∀ x, (enc x).length = rec.params.size) :
  lD P W l enc r (itA l rec q) := by
 intro s x D y Fr w L u
 have G : Sat W (pts l (.loop rec) :: (q s y ++ [Fr])) w := u.ent (kw _ _)
 refine ⟨_, _, _, _, by rw [run_yield (G.pts_at (i := 0) rfl) (by simpa using hp x), nD], ?_⟩
 refine RoundIn.mono (J s x D y Fr w L G) ?_
 rintro e w' ⟨h1, I, U⟩
 exact ⟨h1, I, U.ent (rP (pts l (.loop rec) :: q D I) Fr)⟩
theorem kx (A : HA) (I : List HA) (Fr : HA) : Ent (A :: (I ++ [Fr])) (I ++ [aN [A, Fr]]) := fun h s => by
 refine (cu _ _ h).2 ?_
 have s : aV A (aN (I ++ [Fr])) h := s
 have q : aV A (aV (aN I) (aN [Fr])) h := bZ h (fun _ x => x) (fun h x => (cu _ _ h).1 x) s
 rw [← bg, dG A, bg] at q
 exact bZ h (fun _ x => x) (fun h x => iq x) q
theorem js (A : HA) (I : List HA) (Fr : HA) : Ent (I ++ [aN [A, Fr]]) (A :: (I ++ [Fr])) := fun h s => by
 have s := (cu _ _ h).1 s
 have q : aV (aN I) (aV A (aN [Fr])) h := bZ h (fun _ x => x) (fun h (x : aV (aN [A, Fr]) tt h) => by
  rw [dG] at x
  exact dT [A, Fr] tt h x) s
 rw [← bg, dG _ A, bg] at q
 exact bZ h (fun _ x => x) (fun h x => (cu _ _ h).2 x) q
def lc : List Nat → List Value → Env → Env
 | p :: ps, v :: vs, E => lc ps vs ((p, v) :: E)
 | _, _, E => E
theorem oQ : ∀ (ps : List Nat) (vs : List Value) {n : Nat} {E : Env} {t : Array Value}, (∀ p ∈ ps, p < n) → ps.length = vs.length → Has n [] E { tmps := t, defers := [] } → Has n [] (lc ps vs E) { tmps := jE ps vs t, defers := [] }
 | [], [], n, E, t, _, _, h => by simpa [lc, jE] using h
 | p :: ps, v :: vs, n, E, t, hp, hl, h => by
  have r : Has n [] ((p, v) :: E) { tmps := t.setIfInBounds p v, defers := [] } := h.put v (by simpa [Nat.blt_eq] using hp p (by simp))
  have := oQ ps vs (fun q u => hp q (by simp [u])) (by simpa using hl) r
  simpa [lc, jE] using this
 | [], _ :: _, _, _, _, _, hl, _ => by simp at hl
 | _ :: _, [], _, _, _, _, hl, _ => by simp at hl
section
variable {K : Cx} {R S Y α : Type} {Q : de R} {E : Env} {H : List HA} {o : Option R}
theorem qX {W : World} {P : Program} {n : Nat} {l : Nat} {rec : Loop} {ps : List Nat} {enc : α → List Value} {r : S → α → Option S} {q : S → Y → List HA} (Eb : S → α → Y → Env) {a : Act} {ds : List Deferred}
  (he : Has n ds E a) (h1 : rec.tmps = a.tmps) (h2 : rec.params = ps.toArray) (D : rec.state = .ready) (h4 : rec.pending = none) (G : ∀ p ∈ ps, p < n) (I : ∀ x, ps.length = (enc x).length)
  (hA : ∀ s x y Fr, Sim ⟨P, W, some l, n, []⟩ (iA ⟨P, W, some l, n, []⟩ (fun (_ : Unit) (_ : Unit) => Eb s x y) (fun _ _ => q s y ++ [Fr])) rec.assign (lc ps (enc x) E) (q s y ++ [Fr]) (some ()))
  (hB : ∀ s x y Fr, Sim ⟨P, W, some l, n, []⟩ (iA ⟨P, W, some l, n, []⟩ (fun (_ : S) (_ : Y) => []) (fun s y => q s y ++ [Fr])) rec.body (Eb s x y) (q s y ++ [Fr]) (r s x)) :
  ng P W l rec enc r q := by
 intro s x s' y Fr w J hs
 refine roundIn_of_wpIn trivial ?_
 have h0 : Has n [] E { tmps := rec.tmps, defers := [] } := ⟨by rw [h1]; exact he.size, rfl, fun i v h => by rw [h1]; exact he.get i v h⟩
 have L := oQ ps (enc x) G (I x) h0
 have e2 : rec.params.toList = ps := by rw [h2]
 rw [e2]
 refine wpIn_mono (hA s x y (aN [pts l (.loop rec), Fr]) () rfl _ w L (hs.ent (kx _ _ _))) ?_
 intro e a1 w1 u
 cases e with
 | normal =>
  obtain ⟨_, x1, x2⟩ := u
  have x3 := x2.ent (js _ _ _)
  have hl := x3.pts_at (i := 0) rfl
  refine ⟨_, run_beginRound hl D, ?_⟩
  have x4 : Sat W (pts l (.loop { rec with state := .busy }) :: (q s y ++ [Fr])) (w1.putObj l (.loop { rec with state := .busy })) := x3.upd
  refine wpIn_mono (hB s x y _ s' J a1 _ x1 (x4.ent (kx _ _ _))) ?_
  intro e a2 U u
  cases e with
  | normal =>
   obtain ⟨y', _, z2⟩ := u
   have z3 := z2.ent (js _ _ _)
   have X := z3.pts_at (i := 0) rfl
   refine ⟨_, _, run_endRound none X, rfl, y', ?_⟩
   have z4 : Sat W (pts l (.loop rec) :: (q s' y' ++ [Fr])) (U.putObj l (.loop rec)) := z3.upd
   have er : ({ ({ rec with state := .busy } : Loop) with state := if (none : Option Code).isNone then .ready else .done, pending := none } : Loop) = rec := by
    cases rec
    simp at D h4 ⊢
    exact ⟨D.symm, h4.symm⟩
   have ab : U.putObj l (.loop rec) = U.putObj l (.loop ({ ({ rec with state := .busy } : Loop) with state := if (none : Option Code).isNone then .ready else .done, pending := none } : Loop)) := by rw [er]
   rw [ab] at z4
   exact z4
  | _ => exact u.elim
 | _ => exact u.elim
theorem rQ {R' Y' : Type} {g : Operand} {ps : List Nat} {assign body : Code} {f : FuncId} {cap : List Value} {Cap rst : List HA} {CapB : R' → Y' → List HA} {enc : α → List Value} {o2 : R' → Option R} {oN : Option R'} {val : R' → Y' → Value}
  {G : S → α → Option S} (u : S → Y → List HA) (s0 : S) (I : Y) (Eb : S → α → Y → Env) (J : R' → S) (L : R' → Y' → Y) (a7 : K.ro = none) (hg : ev E g = some (.func (.func f) #[] cap.toArray))
  (hf : ∀ args w, (callFunc f args).run K.P w = .ok (.enter f args) w)
  (it : ∀ l (A : S → Y → HA), lD K.P K.W l enc G A → ∀ X, Fn K.P K.W f (.func (.yield l) #[] #[] :: cap) (A s0 I :: Cap) (aN (X :: rst)) oN val (fun r y => A (J r) (L r y) :: CapB r y))
  (U : ps.all (fun p => Nat.blt p K.n) = true) (ab : ∀ x, ps.length = (enc x).length)
  (hH : Ent H (u s0 I ++ (Cap ++ rst)))
  (hA : ∀ l s x y Fr, Sim ⟨K.P, K.W, some l, K.n, []⟩ (iA ⟨K.P, K.W, some l, K.n, []⟩ (fun (_ : Unit) (_ : Unit) => Eb s x y) (fun _ _ => u s y ++ [Fr])) assign (lc ps (enc x) E) (u s y ++ [Fr]) (some ()))
  (hB : ∀ l s x y Fr, Sim ⟨K.P, K.W, some l, K.n, []⟩ (iA ⟨K.P, K.W, some l, K.n, []⟩ (fun (_ : S) (_ : Y) => []) (fun s y => u s y ++ [Fr])) body (Eb s x y) (u s y ++ [Fr]) (G s x))
  (h : ∀ D r y, Nrm { K with ds := mkD D :: K.ds } Q E (gZ D :: (u (J r) (L r y) ++ (CapB r y ++ rst))) (o2 r)) :
  Sim K Q (.rangeFunc g ps.toArray assign body) E H (oN.bind o2) := by
 intro r hr a w he hs
 have a8 : ∀ p ∈ ps, p < K.n := fun p hp => by simpa [Nat.blt_eq] using List.all_eq_true.1 U p hp
 cases hfo : oN with
 | none => rw [hfo] at hr; cases hr
 | some rN =>
 rw [hfo] at hr
 rw [a7]
 refine wpIn_rangeFunc fun fn _ => ?_
 have bc := hs.new (.deferred (some []))
 have af := bc.new (.loop { state := .ready, pending := none, fn := fn, tmps := a.tmps, params := ps.toArray, assign := assign, body := body, defers := w.heap.size })
 have hz : ({ w with heap := w.heap.push (.deferred (some [])) } : World).heap.size = w.heap.size + 1 := by simp
 rw [hz] at af
 let q : Loop := { state := .ready, pending := none, fn, tmps := a.tmps, params := ps.toArray, assign, body, defers := w.heap.size }
 let w2 : World := (w.alloc (.deferred (some []))).alloc (.loop q)
 refine ⟨w.heap.size + 1, [mkD w.heap.size], w2, { target := .fn (.func f) cap.toArray, args := #[.func (.yield (w.heap.size + 1)) #[] #[]] }, w2, f, (Value.func (.yield (w.heap.size + 1)) #[] #[] :: cap).toArray, w2, run_enterLoop_outer fn a.tmps ps.toArray assign body, ?_, ?_⟩
 ·have e1 : a.eval (.const (.func (.yield (w.heap.size + 1)) #[] #[])) = .func (.yield (w.heap.size + 1)) #[] #[] := rfl
  simp [resolve, he.ev hg, Deferred.ofValue, e1]
 ·refine ⟨fun f' _ => trivial, ?_, (by intro h; cases h), ?_⟩
  ·simp [invoke, hf]
  refine callsIn_wide.2 ?_
  have hR : ng K.P K.W (w.heap.size + 1) q enc G u :=
   qX (ps := ps) Eb he rfl rfl rfl rfl a8 ab (hA _) (hB _)
  have hY := qW hR (fun x => by simpa [q] using (ab x).symm)
  have be : Sat K.W ((itA (w.heap.size + 1) q u s0 I :: Cap) ++ [aN (pts w.heap.size (.deferred (some [])) :: rst)]) w2 := by
   refine af.ent ?_
   intro h x
   have x1 : aV (pts (w.heap.size + 1) (.loop q)) (aV (pts w.heap.size (.deferred (some []))) (aV (aN (u s0 I)) (aN (Cap ++ rst)))) h :=
    bZ h (fun _ x => x) (fun h x => bZ h (fun _ x => x) (fun h x => (cu _ _ h).1 (hH h x)) x) x
   have x2 : aV (aV (pts (w.heap.size + 1) (.loop q)) (aN (u s0 I))) (aV (pts w.heap.size (.deferred (some []))) (aN (Cap ++ rst))) h := by
    rw [← bg (pts w.heap.size _), dG (pts w.heap.size _), bg, ← bg] at x1
    exact x1
   refine bZ h (fun _ x => x) (fun h x => ?_) x2
   have x3 : aV (pts w.heap.size (.deferred (some []))) (aV (aN Cap) (aN rst)) h := bZ h (fun _ x => x) (fun h x => (cu _ _ h).1 x) x
   rw [← bg, dG (pts _ _), bg] at x3
   exact (cu _ _ h).2 (bZ h (fun _ x => x) (fun h x => iq x) x3)
  have hc := it _ _ hY (pts w.heap.size (.deferred (some []))) rN hfo _ be
  refine hc.mono ?_
  rintro e w' ⟨y, rfl, s4⟩
  have s5 : Sat K.W (pts (w.heap.size + 1) (.loop q) :: (u (J rN) (L rN y) ++ (CapB rN y ++ [aN (pts w.heap.size (.deferred (some [])) :: rst)]))) w' := s4.ent (kw _ _)
  have hl := s5.pts_at (i := 0) rfl
  refine ⟨none, _, run_endLoop hl (by simp [q]), ?_⟩
  have s6 := s5.upd (o' := .loop { q with state := .exhausted })
  have s7 : Sat K.W (gZ w.heap.size :: (u (J rN) (L rN y) ++ (CapB rN y ++ rst))) _ := s6.ent (Ent.drop (by
   intro h x
   rw [← List.append_assoc] at x
   have x2 := (cu _ _ h).1 x
   have x3 : aV (aN (u (J rN) (L rN y) ++ CapB rN y)) (aV (pts w.heap.size (.deferred (some []))) (aN rst)) h := bZ h (fun _ x => x) (fun h (x : aV (aN _) tt h) => by
    rw [dG] at x
    exact dT _ tt h x) x2
   rw [← bg, dG _ (pts _ _), bg] at x3
   refine bZ h (fun _ x => x) (fun h x => ?_) x3
   rw [← List.append_assoc]
   exact (cu _ _ h).2 x))
  exact h w.heap.size rN y r hr _ _ ⟨he.size, by simp [he.defers, mkD], he.get⟩ s7
theorem oR {L : Oper} {c : Call} {x : Operand} {xs : List Operand} {l : Nat} {enc : α → List Value} {r : S → α → Option S} {A : S → Y → HA} {s J : S} {y : Y} (v : α) (k : Nat)
  (ho : L.op = .call c) (D : c.callee = .value x) (U : c.args = xs.toArray) (hx : ev E x = some (.func (.yield l) #[] #[])) (X : evs xs E = some (enc v)) (ab : K.ro = none)
  (hY : lD K.P K.W l enc r A) (hH : H[k]? = some (A s y)) (hs : r s v = some J) :
  RE K (Y := Y) L E H (fun _ => .bool true) (fun y => H.set k (A J y)) := by
 intro a w he G next Q ad
 refine ⟨fun f _ => fV _ _, ?_⟩
 rw [Oper.semAt_eq _ _ _ (by rw [ho]; intro c h; cases h)]
 have af : k < H.length := (List.getElem?_eq_some_iff.1 hH).1
 have al : Sat K.W ([A s y] ++ [aN (H.eraseIdx k)]) w := G.ent (fun h x => by rw [eR H k _ hH] at x; exact Ent.fold [A s y] (H.eraseIdx k) h x)
 obtain ⟨f, tmps, assign, body, I, q⟩ := hY s v J y _ w hs al
 have hr : (execOp a.eval L).run K.P w = .ok (.round l f tmps assign body) w := by
  unfold execOp; simp only [ho]
  have u : c.args.map a.eval = (enc v).toArray := by rw [U, ← ir he xs _ X]; simp
  simp [resolve, D, u, he.ev hx, Deferred.ofValue, invoke, callFunc, I]
 rw [hr]
 refine ⟨jO _, ?_⟩
 rw [ab]
 refine RoundIn.mono q ?_
 rintro e w' ⟨rfl, y', s3⟩
 refine ad y' w' (s3.ent fun h x => ?_)
 rw [← fX H k _ af]
 exact Ent.unfold [A J y'] (H.eraseIdx k) h x
end
end Go.Proofs.YtndjkejhacfpdaaGreatDoor

namespace Go.Proofs.YtndjkejhacfpdaaGreatDoor
open Go.RowKit

/-! ### 1. Lists of rows -/
def okI (k : IntKind) (x : Int) : Prop := k.min ≤ x ∧ x ≤ k.max
def bI {α : Type} (n : Nat) (V : α → List Value → Prop) : List α → List (List Value) → Prop
 | [], [] => True
 | x :: xs, r :: rs => (r.length = n ∧ one r ∧ V x r) ∧ bI n V xs rs
 | _, _ => False
section
variable {α : Type} {n : Nat} {V V' : α → List Value → Prop}
theorem bI.mono (h : ∀ x r, V x r → V' x r) : ∀ {xs : List α} {rs : List (List Value)}, bI n V xs rs → bI n V' xs rs
 | [], [], _ => trivial
 | x :: xs, r :: rs, ⟨⟨a, b, c⟩, t⟩ => ⟨⟨a, b, h x r c⟩, bI.mono h t⟩
theorem bI.append : ∀ {xs q : List α} {rs u : List (List Value)}, bI n V xs rs → bI n V q u → bI n V (xs ++ q) (rs ++ u)
 | [], q, [], u, _, h => h
 | x :: xs, q, r :: rs, u, ⟨a, t⟩, h => ⟨a, bI.append t h⟩
theorem bI.len : ∀ {xs : List α} {rs : List (List Value)}, bI n V xs rs → rs.length = xs.length
 | [], [], _ => rfl
 | x :: xs, r :: rs, ⟨_, t⟩ => by simp [bI.len t]
theorem bI.flat : ∀ {xs : List α} {rs : List (List Value)}, bI n V xs rs → rs.flatten.length = xs.length * n
 | [], [], _ => by simp
 | x :: xs, r :: rs, ⟨⟨a, _, _⟩, t⟩ => by simp [bI.flat t, a, Nat.add_mul]; omega
theorem bI.ones : ∀ {xs : List α} {rs : List (List Value)}, bI n V xs rs → one rs.flatten
 | [], [], _ => by intro v h; simp at h
 | x :: xs, r :: rs, ⟨⟨_, b, _⟩, t⟩ => by
  intro v h
  simp only [List.flatten_cons, List.mem_append] at h
  rcases h with h | h
  ·exact b v h
  ·exact bI.ones t v h
theorem bI.at (d : α) : ∀ {xs : List α} {rs : List (List Value)} {i : Nat}, bI n V xs rs → i < xs.length → ∃ r, V (xs.getD i d) r ∧ r.length = n ∧ one r ∧ ∀ (j : Nat) v, r[j]? = some v → rs.flatten[i * n + j]? = some v
 | x :: xs, r :: rs, 0, ⟨⟨a, b, c⟩, t⟩, _ => ⟨r, c, a, b, fun j v h => by
   have : j < r.length := (List.getElem?_eq_some_iff.1 h).1
   simp only [List.flatten_cons, Nat.zero_mul, Nat.zero_add]
   rw [List.getElem?_append_left this]; exact h⟩
 | x :: xs, r :: rs, i + 1, ⟨⟨a, b, c⟩, t⟩, h => by
  obtain ⟨q, h1, u, D, G⟩ := bI.at d t (i := i) (by simpa using h)
  refine ⟨q, by simpa using h1, u, D, fun j v I => ?_⟩
  simp only [List.flatten_cons]
  rw [List.getElem?_append_right (by rw [a, Nat.add_mul]; omega), ← G j v I, a]
  congr 1
  rw [Nat.add_mul]; omega
theorem bI.take : ∀ {xs : List α} {rs : List (List Value)} (m : Nat), bI n V xs rs → bI n V (xs.take m) (rs.take m)
 | [], [], m, _ => by simp [bI]
 | x :: xs, r :: rs, 0, _ => by simp [bI]
 | x :: xs, r :: rs, m + 1, ⟨a, t⟩ => ⟨a, bI.take m t⟩
theorem bI.drop : ∀ {xs : List α} {rs : List (List Value)} (m : Nat), bI n V xs rs → bI n V (xs.drop m) (rs.drop m)
 | [], [], m, _ => by simp [bI]
 | x :: xs, r :: rs, 0, h => h
 | x :: xs, r :: rs, m + 1, ⟨a, t⟩ => bI.drop m t
theorem bI.flat_drop : ∀ {xs : List α} {rs : List (List Value)} (m : Nat), bI n V xs rs → (rs.drop m).flatten = rs.flatten.drop (m * n)
 | [], [], m, _ => by simp
 | x :: xs, r :: rs, 0, _ => by simp
 | x :: xs, r :: rs, m + 1, ⟨⟨a, _, _⟩, t⟩ => by
  simp only [List.drop_succ_cons, List.flatten_cons]
  rw [bI.flat_drop m t, Nat.add_mul, Nat.one_mul, Nat.add_comm, ← List.drop_drop, ← a, List.drop_left']
  rfl
theorem bI.flat_take : ∀ {xs : List α} {rs : List (List Value)} (m : Nat), bI n V xs rs → (rs.take m).flatten = rs.flatten.take (m * n)
 | [], [], m, _ => by simp
 | x :: xs, r :: rs, 0, _ => by simp
 | x :: xs, r :: rs, m + 1, ⟨⟨a, _, _⟩, t⟩ => by
  simp only [List.take_succ_cons, List.flatten_cons]
  have e : (m + 1) * n = r.length + m * n := by rw [a, Nat.add_mul]; omega
  rw [bI.flat_take m t, e, List.take_length_add_append]
end
def Up (G F : HA) : Prop := ∀ a cs, Rd G a cs → Rd F a cs
theorem Up.refl (F : HA) : Up F F := fun _ _ h => h
theorem Up.trans {A B C : HA} (h : Up A B) (q : Up B C) : Up A C := fun a cs x => q a cs (h a cs x)
theorem Up.lend {F : HA} {l : List HA} (k : Nat) (q : l[k]? = some F) : Up F (aN l) := fun _ _ h => h.lend k q
theorem Rd.up {G F : HA} {a : Option Addr} {cs : List Value} (h : Rd G a cs) (u : Up G F) : Rd F a cs := u a cs h
def RdV {α : Type} (F : HA) (n : Nat) (V : α → List Value → Prop) (a : Option Addr) (xs : List α) : Prop := ∃ rs, bI n V xs rs ∧ Rd F a rs.flatten
def gj {α : Type} (H : List HA) (n : Nat) (V : α → List Value → Prop) (a : Option Addr) (xs : List α) : Prop := ∃ rs, bI n V xs rs ∧ Rds H a rs.flatten
def ar {α : Type} (T : TypeId) (n : Nat) (V : α → List Value → Prop) (a : Option Addr) (xs : List α) (c : Nat) : HA := fun h => ∃ rs, bI n V xs rs ∧ Row T n a xs.length c rs.flatten h
section
variable {α : Type} {n : Nat} {V V' : α → List Value → Prop} {F : HA} {a : Option Addr} {xs : List α}
theorem RdV.nil : RdV F n V a ([] : List α) := ⟨[], trivial, .inl rfl⟩
theorem RdV.mono (h : RdV F n V a xs) (q : ∀ x r, V x r → V' x r) : RdV F n V' a xs := let ⟨rs, h1, h2⟩ := h; ⟨rs, h1.mono q, h2⟩
theorem RdV.up {G : HA} (h : RdV G n V a xs) (u : Up G F) (q : ∀ x r, V x r → V' x r) : RdV F n V' a xs := let ⟨rs, h1, h2⟩ := h; ⟨rs, h1.mono q, h2.up u⟩
theorem RdV.rds (h : RdV F n V a xs) {H : List HA} (k : Nat) (q : H[k]? = some F) : gj H n V a xs := let ⟨rs, h1, h2⟩ := h; ⟨rs, h1, h2.rds k q⟩
theorem RdV.pos {G : HA} (h : RdV G n V a xs) (u : Up G F) (q : Nat.blt 0 n = true) {i : Nat} (hi : i < xs.length) (d : α) :
  ∃ b off r, a = some ⟨b, off, none⟩ ∧ V (xs.getD i d) r ∧ r.length = n ∧ ∀ {H : List HA} (k : Nat), H[k]? = some F → ∀ j v, r[j]? = some v → dR H b (off + i * n + j) v := by
 obtain ⟨rs, h1, D⟩ := h
 have q : 0 < n := by simpa [Nat.blt_eq] using q
 obtain ⟨r, I, J, _, L⟩ := h1.at d hi
 rcases u _ _ D with h0 | ⟨b, off, U, X⟩
 ·have := h1.flat
  rw [h0] at this
  have h1 : 1 ≤ xs.length * n := Nat.mul_pos (by omega) q
  simp at this
  omega
 ·refine ⟨b, off, r, U, I, J, fun {H} k hk j v hj => .of k hk fun x hx => ?_⟩
  obtain ⟨l, T, fz, e1, e2⟩ := X x hx
  exact ⟨l, T, fz, e1, by rw [Nat.add_assoc]; exact e2 _ _ (L j v hj)⟩
theorem RdV.cut (h : RdV F n V a xs) (lo hi : Nat) {c : Nat} (r : hi ≤ c) : RdV F n V (if c = lo then a else a.map (·.add (lo * n))) ((xs.take hi).drop lo) := by
 obtain ⟨rs, h1, q⟩ := h
 by_cases e : c = lo
 ·rw [if_pos e]
  have : (xs.take hi).drop lo = [] := by rw [List.drop_of_length_le (by rw [List.length_take]; omega)]
  rw [this]; exact .nil
 ·rw [if_neg e]
  refine ⟨(rs.take hi).drop lo, (h1.take hi).drop lo, ?_⟩
  rw [(h1.take hi).flat_drop, h1.flat_take]
  exact (q.take _).drop _
theorem ar.mk {T : TypeId} {c : Nat} {rs : List (List Value)} (h : bI n V xs rs) : ∀ p, Row T n a xs.length c rs.flatten p → ar T n V a xs c p := fun _ x => ⟨rs, h, x⟩
theorem Ent.rowV_nil {l m : List HA} {T : TypeId} (r : Ent l m) : Ent l (ar T n V none ([] : List α) 0 :: m) := fun h s =>
 ⟨fun _ => none, h, fun _ => .inl rfl, (by funext i; simp [un]), ⟨[], trivial, Row.nil T n _⟩, r h s⟩
end
section
variable {K : Cx} {R S Y α : Type} {Q : de R} {E : Env} {H : List HA} {opt : Option R} {ops : Array Oper} {rest : List Oper} {o : Oper} {n : Nat} {V : α → List Value → Prop} {a : Option Addr} {xs : List α} {T : TypeId} {c : Nat}
theorem kY {W w : World} {H : List HA} (k : Nat) (q : H[k]? = some (ar T n V a xs c)) (s : Sat W H w) : ∃ rs, bI n V xs rs ∧ Sat W (H.set k (Row T n a xs.length c rs.flatten)) w := by
 obtain ⟨x, y, d, e, ⟨rs, h1, u⟩, r⟩ := (s.focus q).hp
 exact ⟨rs, h1, Sat.unfocus (B := Row T n a xs.length c rs.flatten) q ⟨s.os, s.tape, s.output, s.size, x, y, d, e, u, r⟩⟩
theorem bi (k : Nat) (q : H[k]? = some (ar T n V a xs c)) (h : ∀ rs, bI n V xs rs → bX K Q ops rest E (H.set k (Row T n a xs.length c rs.flatten)) opt) : bX K Q ops rest E H opt := by
 intro r u D w G I
 obtain ⟨rs, h1, s⟩ := kY k q I
 exact h rs h1 r u D w G s
theorem bm {q : Code} (k : Nat) (u : H[k]? = some (ar T n V a xs c)) (h : ∀ rs, bI n V xs rs → Sim K Q q E (H.set k (Row T n a xs.length c rs.flatten)) opt) : Sim K Q q E H opt := by
 intro r D G w I J
 obtain ⟨rs, h1, s⟩ := kY k u J
 exact h rs h1 r D G w I s
theorem gj.row {rs : List (List Value)} (h : bI n V xs rs) {m : Nat} (k : Nat) (q : H[k]? = some (Row T n a m c rs.flatten)) : gj H n V a xs := ⟨rs, h, .row k q⟩
theorem gj.nil : gj H n V a ([] : List α) := ⟨[], trivial, .nil _ _⟩
theorem Rd.asV {F : HA} {rs : List (List Value)} (h : bI n V xs rs) (q : Rd F a rs.flatten) : RdV F n V a xs := ⟨rs, h, q⟩
theorem ep {rs : List (List Value)} {i : Nat} (k : Nat) (J : H[k]? = some (Row T n a xs.length c rs.flatten)) (G : bI n V xs rs) (q : Nat.blt 0 n = true) (hi : i < xs.length) (d : α)
  (h : ∀ b off r, a = some ⟨b, off, none⟩ → V (xs.getD i d) r → r.length = n → (∀ {H' : List HA} (k : Nat), H'[k]? = some (Row T n a xs.length c rs.flatten) → ∀ j v, r[j]? = some v → dR H' b (off + i * n + j) v) → bX K Q ops rest E H opt) : bX K Q ops rest E H opt := by
 have q : 0 < n := by simpa [Nat.blt_eq] using q
 obtain ⟨r, L, u, _, U⟩ := G.at d hi
 refine ph k J ?_ fun b off I => h b off r I L u ?_
 ·intro X
  have := G.flat
  rw [X] at this
  have h1 : 1 ≤ xs.length * n := Nat.mul_pos (by omega) q
  simp at this
  omega
 ·intro H' k' D j v hj
  rw [Nat.add_assoc]
  subst I
  exact dR.row k' D (U j v hj)
theorem rt {l m : List Value} (h : one l) (q : one m) : one (l ++ m) := fun v r => by
 rcases List.mem_append.1 r with x | x
 ·exact h v x
 ·exact q v x
theorem ez {x y : Operand} {t e bytes : Nat} {U : List Value} {a2 : Option Addr} {c2 : Nat} {q : List α} {rs : List (List Value)} (k : Nat) (X : o.op = .call { callee := .builtin .append, args := #[x, y], argTypes := #[t, t] })
  (hx : ev E x = some (.slice a xs.length c)) (hy : ev E y = some (.slice a2 q.length c2)) (ht : K.P.underlying t = some (.slice e)) (hE : Elt K.P e n bytes U) (G : H[k]? = some (Row e n a xs.length c rs.flatten)) (I : bI n V xs rs)
  (hr : gj (H.eraseIdx k) n V a2 q) (hb : (xs.length + q.length) * bytes ≤ 140737488355328) :
  RE K (Y := Option Addr × Nat) o E H (fun y => .slice y.1 (xs ++ q).length y.2) (fun y => H.set k (ar e n V y.1 (xs ++ q) y.2)) := by
 obtain ⟨J, h1, h2⟩ := hr
 have := nQ (K := K) (E := E) (H := H) k X hx hy ht hE G h2 (by rw [h1.flat]) h1.ones hb
 intro a' w he hs next Q hn
 refine this a' w he hs next Q fun y L s => ?_
 have r : (xs ++ q).length = xs.length + q.length := List.length_append
 have e1 : Value.slice y.1 (xs ++ q).length y.2 = .slice y.1 (xs.length + q.length) y.2 := by rw [r]
 have := hn y L
 simp only [e1] at this
 refine this ?_
 have u : k < H.length := (List.getElem?_eq_some_iff.1 G).1
 have s2 : Sat K.W (Row e n y.1 (xs.length + q.length) y.2 (rs.flatten.take (xs.length * n) ++ J.flatten) :: H.eraseIdx k) L := s.ent fun h x => by rw [fX H k _ u]; exact x
 have D := I.flat
 refine (s2.ent (Ent.sel' 0 rfl (fun p hp => ?_) (Ent.refl _))).ent fun h x => by rw [← fX H k _ u]; exact x
 refine ⟨rs ++ J, I.append h1, ?_⟩
 rw [r, List.flatten_append]
 rwa [List.take_of_length_le (by rw [D]; exact Nat.le_refl _)] at hp
theorem pZ {x y : Operand} {t e bytes : Nat} {r : List Value} {a2 : Option Addr} {c2 : Nat} {q : List α} (u : o.op = .call { callee := .builtin .append, args := #[x, y], argTypes := #[t, t] })
  (D : ev E x = some (.slice none 0 0)) (G : ev E y = some (.slice a2 q.length c2)) (I : K.P.underlying t = some (.slice e)) (J : Elt K.P e n bytes r)
  (L : gj H n V a2 q) (U : q.length * bytes ≤ 140737488355328) :
  RE K (Y := Option Addr × Nat) o E H (fun y => .slice y.1 q.length y.2) (fun y => ar e n V y.1 q y.2 :: H) := by
 obtain ⟨X, h1, h2⟩ := L
 have := ru (K := K) (E := E) (H := H) u D G I J h2 (by rw [h1.flat]) h1.ones U
 intro a' w he hs next Q hn
 refine this a' w he hs next Q fun y w' s => hn y w' (s.ent (Ent.sel' 0 rfl (fun p hp => ⟨X, h1, hp⟩) (Ent.refl _)))
theorem fh {t e bytes len : Nat} {r : List Value} {l : List (Nat × Operand)} {vs : List (Nat × Value)} {cs : List Value} (rs : List (List Value)) (D : o.op = .buildSlice t len l.toArray) (G : evP l E = some vs) (I : K.P.underlying t = some (.slice e)) (J : Elt K.P e n bytes r)
  (L : Nat.ble (len * n) 16777216 = true) (U : Instr.fill (fun i => some (i * n, n)) ((Array.range (len * n)).map (r.toArray[· % r.toArray.size]!)) vs = some cs.toArray) (X : Nat.blt 0 (len * n) = true) (hr : bI n V xs rs) (u : rs.flatten = cs) (q : xs.length = len) :
  RE K (Y := Nat) o E H (fun b => .slice (some ⟨b, 0, none⟩) xs.length len) (fun b => Row e n (some ⟨b, 0, none⟩) xs.length len rs.flatten :: H) := by
 subst u
 subst q
 exact rM D G I J L U X hr.flat

/-! ### 2. A slice's front, with what lies behind it -/
end
end Go.Proofs.YtndjkejhacfpdaaGreatDoor

namespace Go.Proofs.YtndjkejhacfpdaaGreatDoor
open Go.RowKit
/-! ### 1. '==' of structs -/
section
variable {P : Program} {d : Nat} {xs ys : Array Value} {f : Field} {fs : List Field} {a b : Value} {r s : Bool} {w : World}
theorem pk (u : (f.name == "_") = false) (D : (part f.type xs f.offset).run P w = .ok a w) (G : (part f.type ys f.offset).run P w = .ok b w) (I : (Op.equalIn d f.type a b).run P w = .ok r w) : (Op.eqFields d xs ys [f]).run P w = .ok r w := by
 have q : f.name ≠ "_" := by simpa using u
 simp only [Op.eqFields, if_pos q, Sem.run_bind, D, G, I, Result.andThen_ok]
 cases r <;> simp
theorem kG (u : (f.name == "_") = false) (D : (part f.type xs f.offset).run P w = .ok a w) (G : (part f.type ys f.offset).run P w = .ok b w) (I : (Op.equalIn d f.type a b).run P w = .ok r w) (J : (Op.eqFields d xs ys fs).run P w = .ok s w) : (Op.eqFields d xs ys (f :: fs)).run P w = .ok (r && s) w := by
 have q : f.name ≠ "_" := by simpa using u
 rw [Op.eqFields]
 simp only [if_pos q, Sem.run_bind, D, G, I, Result.andThen_ok]
 cases r
 ·simp
 ·simpa using J
theorem fS {t : TypeId} {cs : Array Value} {off : Nat} {v : Value} (q : ∀ w, (isAgg t).run P w = .ok false w) (u : cs[off]? = some v) : (part t cs off).run P w = .ok v w := by
 simp [part, q, u]
theorem jA {t : TypeId} {k : IntKind} {m n : Int} (q : P.underlying t = some (.int k)) : (Op.equalIn (d + 1) t (.int k m) (.int k n)).run P w = .ok (decide (m = n)) w := by
 simp [Op.equalIn, underlying, program, Sem.run, q]
 rw [Bool.eq_iff_iff]; simp
theorem mL {t : TypeId} {fs : Array Field} (q : P.underlying t = some (.struct fs)) (hp : P.stoodInHeld t = false) (h : (Op.eqFields d xs ys fs.toList).run P w = .ok r w) : (Op.equalIn (d + 1) t (.agg xs) (.agg ys)).run P w = .ok r w := by
 have u : P.fieldsOf t = fs := by simp [Program.fieldsOf, q]
 rw [run_equalIn_struct (P := P) w d t xs ys (by rw [u]; exact q) hp, u]
 exact h
end
section
variable {K : Cx} {R S Y : Type} {Q : de R} {E : Env} {H : List HA} {opt : Option R} {ops : Array Oper} {rest : List Oper} {o : Oper}
theorem lZ {P : Program} {b : BinOp} {t : TypeId} {x y : Operand} {u v : Array Value} (q : P.eqGuardType P.depth t = false) (w : World) : (eqGuard b t x y (.agg u) (.agg v)).run P w = .ok () w := by
 unfold eqGuard
 cases b <;> simp [program, Sem.run, q]
theorem uo {q I : TypeId} {x y : Operand} {u v : Array Value} {r : Bool} (D : o.op = .binOp .eql q x y I) (J : ev E x = some (.agg u)) (L : ev E y = some (.agg v)) (U : K.P.eqGuardType K.P.depth q = false)
  (X : ∀ d w, (Op.equalIn (d + 2) q (.agg u) (.agg v)).run K.P w = .ok r w) : RQ K o E H (.bool r) :=
 cA (by rw [D]; intro c h; cases h) fun a w G _ => by
  unfold execOp; simp only [D]; rw [G.ev J, G.ev L]
  have := X 9998 w
  simp [lZ U, binOp, Op.equal, Op.maxDepth, this]
theorem ua {q I : TypeId} {x y : Operand} {u v : Array Value} {r : Bool} (D : o.op = .binOp .neq q x y I) (J : ev E x = some (.agg u)) (L : ev E y = some (.agg v)) (U : K.P.eqGuardType K.P.depth q = false)
  (X : ∀ d w, (Op.equalIn (d + 2) q (.agg u) (.agg v)).run K.P w = .ok r w) : RQ K o E H (.bool (!r)) :=
 cA (by rw [D]; intro c h; cases h) fun a w G _ => by
  unfold execOp; simp only [D]; rw [G.ev J, G.ev L]
  have := X 9998 w
  simp [lZ U, binOp, Op.equal, Op.maxDepth, this]
/-! ### 2. Interfaces -/
theorem vk {x : Operand} {t : TypeId} {u : TypeDesc} {v : Value} (q : o.op = .makeInterface t x) (D : ev E x = some v) (G : K.P.underlying t = some u) (I : (match u with | .interface _ => true | _ => false) = false) : RQ K o E H (.iface t v) :=
 cA (by rw [q]; intro c h; cases h) fun a w J _ => by
  unfold execOp; simp only [q]; rw [J.ev D]
  cases u <;> first | (simp at I; done) | simp [Instr.makeInterface, underlying, program, Sem.run, G]
theorem nR {c : Call} {x : Operand} {q : String} {xs : List Operand} {vs : List Value} {t : TypeId} {v u : Value} {f : FuncId} {A : List HA} {rst : List HA} {S Y : Type} {o1 : Option S} {val : S → Y → Value} {B : S → Y → List HA} {s : S}
  (ho : o.op = .call c) (G : c.callee = .invoke x q) (J : c.args = xs.toArray) (hx : ev E x = some (.iface t v)) (L : evs xs E = some vs)
  (hm : ∀ w, (method (K.P.types.size + Made.depth) t v q).run K.P w = .ok (f, u) w)
  (hf : ∀ args w, (callFunc f args).run K.P w = .ok (.enter f args) w) (hH : Ent H (A ++ rst))
  (h : Fn K.P K.W f (u :: vs) A (aN rst) o1 val B) (hs : o1 = some s) : RE K o E H (val s) (fun y => B s y ++ rst) := by
 intro a w he I next Q U
 refine ⟨fun f _ => fV _ _, ?_⟩
 rw [Oper.semAt_eq _ _ _ (by rw [ho]; intro c h; cases h)]
 have hr : (execOp a.eval o).run K.P w = .ok (.enter f (u :: vs).toArray) w := by
  unfold execOp; simp only [ho]
  have D : c.args.map a.eval = vs.toArray := by rw [J, ← ir he xs vs L]; simp
  have e1 : (#[Value.iface t v] ++ vs.toArray).extract 1 (1 + vs.length) = vs.toArray := by
   apply Array.ext'
   simp
  simp [resolve, G, D, he.ev hx, invoke, callMethod, program, Sem.run, hm, hf, e1]
 rw [hr]
 refine ⟨jO _, ?_⟩
 have := h s hs w (I.ent (hH.trans (Ent.fold A rst)))
 have hw : CallsIn (fen K.ro) (0 - 1) K.P f (u :: vs).toArray w (fun e X => ∃ y, e = Ending.returned (val s y) ∧ Sat K.W (B s y ++ [aN rst]) X) := by
  cases hro : K.ro with
  | none => exact callsIn_wide.2 this
  | some l => exact CallsIn.inRound l (callsIn_wide.2 this)
 refine hw.mono ?_
 rintro e X ⟨y, rfl, s2⟩
 exact U y X (s2.ent (Ent.unfold _ _))
/-! ### 3. Results that lie in variables -/
def iX (P : Program) (E : Env) (H : List HA) : List ResultVar → List Value → Prop
 | [], [] => True
 | .tmp t :: l, v :: vs => lk E t = some v ∧ iX P E H l vs
 | .cell t T :: l, v :: vs => (∃ b, lk E t = some (.pointer (some ⟨b, 0, none⟩)) ∧ ∀ W w, Sat W H w → (loadVar T ⟨b, 0, none⟩).run P w = .ok v w) ∧ iX P E H l vs
 | _, _ => False
theorem fl {P : Program} {H : List HA} {T : TypeId} {b : Nat} {v : Value} (q : ∀ w, (isAgg T).run P w = .ok false w) (u : dR H b 0 v) : ∀ W w, Sat W H w → (loadVar T ⟨b, 0, none⟩).run P w = .ok v w := fun W w s => by
 simp [loadVar, q, u.sat s]
theorem gB {P : Program} {H : List HA} {T q : TypeId} {b n : Nat} {vs : List Value} (k : Nat) (u : ∀ w, (isAgg T).run P w = .ok true w) (D : ∀ w, (sizeOf T).run P w = .ok n w) (G : H[k]? = some (obj b q vs)) (I : vs.length = n) : ∀ W w, Sat W H w → (loadVar T ⟨b, 0, none⟩).run P w = .ok (.agg vs.toArray) w := fun W w s => by
 have := jc (P := P) (w := w) (b := b) (off := 0) (vs := vs) (fun j v J => by rw [Nat.zero_add]; exact (dR.obj (off := j) k G J).sat s)
 simp [loadVar, u, D, ← I, this]
theorem ly {n : Nat} {ds : List Deferred} {a : Act} {P : Program} {W w : World} {H : List HA} (q : Has n ds E a) (u : Sat W H w) (g : ResultVar → Sem Value) (D : ∀ t, g (.tmp t) = Sem.pure (a.tmps.getD t undef)) (G : ∀ t T, g (.cell t T) = (do loadVar T (← asAddr (a.tmps.getD t undef)))) : ∀ (l : List ResultVar) (vs : List Value), iX P E H l vs → (l.mapM g).run P w = .ok vs w
 | [], [], _ => rfl
 | .tmp t :: l, v :: vs, ⟨h1, h2⟩ => by
  have I := ly q u g D G l vs h2
  have := q.get _ _ h1
  simp only [List.mapM_cons, Sem.run_bind, D, Sem.run_pure', Result.andThen_ok]
  rw [I]
  simp [Array.getD_eq_getD_getElem?, this]
 | .cell t T :: l, v :: vs, ⟨⟨b, h1, h3⟩, h2⟩ => by
  have I := ly q u g D G l vs h2
  have := q.get _ _ h1
  have J := h3 W w u
  simp only [List.mapM_cons, Sem.run_bind, G]
  have L : a.tmps.getD t undef = .pointer (some ⟨b, 0, none⟩) := by simp [Array.getD_eq_getD_getElem?, this]
  rw [L]
  simp [asAddr, J, I]
theorem kb {n : Nat} {ds : List Deferred} {a : Act} {P : Program} {W w : World} {H : List HA} {fn : Func} (q : Has n ds E a) (D : Sat W H w) {vs : List Value} (h : iX P E H fn.results.toList vs) :
  (results fn a.tmps).run P w = .ok (tup vs) w := by
 unfold results
 simp only [Sem.run_bind]
 rw [← Array.toArray_toList (xs := fn.results), List.mapM_toArray]
 simp only [Sem.run_map]
 rw [ly (P := P) (w := w) q D _ (fun _ => rfl) (fun _ _ => rfl) fn.results.toList vs h]
 simp only [Result.andThen_ok]
 match vs with
 | [] => simp [tup]
 | [v] => simp [tup]
 | v :: u :: t => simp [tup]
theorem vO {fn : Func} {val : R → Y → Value} {B : R → Y → List HA} {r : R} {vs : List Value} (y : Y) (hd : K.ds = []) (q : iX K.P E H fn.results.toList vs) (I : tup vs = val r y) (J : Ent H (B r y)) :
  ∀ u, some r = some u → ∀ a w, Has K.n K.ds E a → Sat K.W H w → a.defers = [] ∧ ∃ v, (results fn a.tmps).run K.P w = .ok v w ∧ ∃ y, Ending.returned v = .returned (val u y) ∧ Sat K.W (B u y) w := by
 intro u L a w D G
 cases L
 exact ⟨D.defers.trans hd, _, kb D G q, y, by rw [I], G.ent J⟩
theorem hJ {fn : Func} {val : R → Y → Value} {B : R → Y → List HA} {r : R} {vs : List Value} (y : Y) (hd : K.ds = []) (q : iX K.P E H fn.results.toList vs) (u : tup vs = val r y) (D : Ent H (B r y)) :
  Rtn K (oY K fn val B) E H (some r) := fun G I a w J L => vO (K := K) y hd q u D G I a w J L
theorem uF {W w : World} {H : List HA} {p : Prop} (k : Nat) (q : H[k]? = some (pr p)) (s : Sat W H w) : p := by
 obtain ⟨a, u, _⟩ := s.at q
 exact u
theorem jy {p : Prop} (k : Nat) (u : H[k]? = some (pr p)) (h : p → Nrm K Q E H opt) : Nrm K Q E H opt := fun r D a w G q => h (uF k u q) r D a w G q
theorem fG (l m : List HA) : Ent (l ++ m) (aN l :: m) := fun h s => (cu _ _ h).1 s
theorem Ent.tt_in {l m : List HA} (r : Ent l m) : Ent l (tt :: m) := fun h s => ⟨fun _ => none, h, fun _ => .inl rfl, (by funext i; simp [un]), trivial, r h s⟩
theorem cG {l vs : List Value} {off : Nat} (h : (l.drop off).take vs.length = vs) : ∀ (j : Nat) v, vs[j]? = some v → l[off + j]? = some v := fun j v q => by
 rw [← h, List.getElem?_take] at q
 split at q
 ·rw [List.getElem?_drop] at q; exact q
 ·cases q
theorem uc {x : Operand} {t e : TypeId} {a : Option Addr} {n c : Nat} {cs : List Value} (k : Nat) (G : o.op = .convert t t x) (X : ev E x = some (.slice a n c)) (hu : K.P.underlying t = some (.slice e)) (q : K.P.underlying e = some (.int .u8)) (I : H[k]? = some (Row e 1 a n c cs)) (hn : Nat.blt 0 n = true) :
  RE K (Y := Unit) o E H (fun _ => .slice a n c) (fun _ => H.set k (Row e 1 a n c cs)) :=
 fW (by rw [G]; intro c h; cases h) fun a' w he s => by
  have al : 0 < n := by simpa [Nat.blt_eq] using hn
  rcases (s.focus I).row_cases with ⟨_, h0, _, _⟩ | ⟨b, off, pre, junk, fz, rfl, ok, J⟩
  ·omega
  ·have L := J.pts_at (i := 0) rfl
   obtain ⟨lo, hi⟩ := fz
   refine ⟨(), { w with heap := w.heap.setIfInBounds b (.cells (pre ++ cs ++ junk).toArray e (if lo == hi then ((pre ++ cs ++ junk).length, (pre ++ cs ++ junk).length + 1) else (min lo (pre ++ cs ++ junk).length, max hi ((pre ++ cs ++ junk).length + 1)))) }, ?_, Sat.unfocus I ((J.upd).ent (Ent.sel' 0 rfl (Row.mk ⟨ok.offs, ok.le, ok.cap, ok.room, ok.len, ok.top, ?_⟩) (Ent.refl _)))⟩
   ·unfold execOp; simp only [G]; rw [he.ev X]
    have u : w.shape? b = some (e, (pre ++ cs ++ junk).length) := by simp [World.shape?, L]
    have D : w.freeze ⟨b, (pre ++ cs ++ junk).length, none⟩ 1 = { w with heap := w.heap.setIfInBounds b (.cells (pre ++ cs ++ junk).toArray e (if lo == hi then ((pre ++ cs ++ junk).length, (pre ++ cs ++ junk).length + 1) else (min lo (pre ++ cs ++ junk).length, max hi ((pre ++ cs ++ junk).length + 1)))) } := by
     unfold World.freeze
     rw [if_neg (by omega)]
     simp only
     rw [iN _ _ _ _ L]
    have U : (markStringish ⟨b, off, none⟩).run K.P w = .ok () (w.freeze ⟨b, (pre ++ cs ++ junk).length, none⟩ 1) := by
     unfold markStringish
     simp only [shape, Sem.run_bind, Sem.run, Result.andThen_ok, u, freeze]
    rw [D] at U
    simp [convert, underlying, program, Sem.run, hu, q, U]
   ·have h1 := ok.fzok
    have h2 := ok.room
    have h3 := ok.offs
    simp only at h1
    by_cases hlh : lo = hi
    ·right; simp [hlh]; omega
    ·right; simp [hlh]; rcases h1 with h1 | h1 <;> omega
end
end Go.Proofs.YtndjkejhacfpdaaGreatDoor

namespace Go.Proofs.YtndjkejhacfpdaaGreatDoor
open Go.RowKit
section
variable {K : Cx} {R S Y : Type} {Q : de R} {E : Env} {H : List HA} {o : Option R}
def kZ (K : Cx) (ops : Array Oper) (q : List (List Nat)) {Γ : Type} (val : Γ → Nat → Value) (E : Env) (heap : Nat → Γ → List HA) (s t i : Nat) (pre : List Nat) (γ : Γ) : Prop :=
 ∃ r, ops[i]? = some r ∧ ∃ u, dA ops q (val γ) E i u ∧ GOk ops r u ∧
  RE K (Y := { γ' : Γ // fU pre (val γ') (val γ) }) r u (heap s γ) (fun γ' => val γ'.1 i) (fun γ' => heap t γ'.1)
theorem kZ.gen {ops : Array Oper} {q : List (List Nat)} {Γ Z : Type} {val : Γ → Nat → Value} {heap : Nat → Γ → List HA} {s t i : Nat} {pre : List Nat} {γ : Γ} {r : Oper} {v : Z → Value} {H' : Z → List HA} (u : Env) (f : Z → Γ) (D : ops[i]? = some r) (G : GOk ops r u) (I : dA ops q (val γ) E i u)
  (h : RE K (Y := Z) r u (heap s γ) v H') (J : ∀ z, fU pre (val (f z)) (val γ)) (L : ∀ z, r.dst = none ∨ v z = val (f z) i) (U : ∀ z, Ent (H' z) (heap t (f z))) : kZ K ops q val E heap s t i pre γ :=
 ⟨r, D, u, I, G, fun a w X hs next Q hn => h a w X hs next Q fun z w' s => by
  have := hn ⟨f z, J z⟩ w' (s.ent (U z))
  rcases L z with e | e
  ·rw [e] at this ⊢; exact this
  ·rw [e]; exact this⟩
theorem kZ.mk {ops : Array Oper} {q : List (List Nat)} {Γ Z : Type} {val : Γ → Nat → Value} {heap : Nat → Γ → List HA} {s t i : Nat} {pre : List Nat} {γ : Γ} {r : Oper} {v : Z → Value} {H' : Z → List HA} (u : Env) (f : Z → Γ) (D : ops[i]? = some r) (G : r.guard = none) (I : dA ops q (val γ) E i u)
  (h : RE K (Y := Z) r u (heap s γ) v H') (J : ∀ z, fU pre (val (f z)) (val γ)) (L : ∀ z, r.dst = none ∨ v z = val (f z) i) (U : ∀ z, Ent (H' z) (heap t (f z))) : kZ K ops q val E heap s t i pre γ :=
 kZ.gen u f D (.inl G) I h J L U
theorem kZ.yes {ops : Array Oper} {r : List (List Nat)} {Γ Z : Type} {val : Γ → Nat → Value} {heap : Nat → Γ → List HA} {s t i : Nat} {pre : List Nat} {γ : Γ} {j dj : Nat} {q b : Bool} {u : Oper} {v : Z → Value} {H' : Z → List HA} (D : Env) (f : Z → Γ) (G : ops[i]? = some u) (I : u.guard = some (j, q)) (J : dP ops j = some dj) (L : lk D dj = some (.bool b)) (U : (b == q) = true) (X : dA ops r (val γ) E i D)
  (h : RE K (Y := Z) u D (heap s γ) v H') (ha : ∀ z, fU pre (val (f z)) (val γ)) (hv : ∀ z, u.dst = none ∨ v z = val (f z) i) (hH : ∀ z, Ent (H' z) (heap t (f z))) : kZ K ops r val E heap s t i pre γ :=
 kZ.gen D f G (.inr ⟨j, q, dj, b, I, J, L, U⟩) X h ha hv hH
def stg (q : List (List Nat)) (s : Nat) : List Nat := q.getD s []
def qR (q : List (List Nat)) (r : List Nat) (u : List (List Nat)) (i s : Nat) : Bool :=
 r.any fun e => ((fO q i).contains e && !(stg u s).contains e) || ((fO q e).contains i && (stg u s).contains e)
theorem RE.lend {I : Oper} {v : Y → Value} {H' : Y → List HA} {T : TypeId} {sz n c : Nat} {a : Option Addr} {cs : List Value} (k : Nat) (hk : H[k]? = some (Row T sz a n c cs)) (h : Rd (Row T sz a n c cs) a cs → n ≤ c → c ≤ maxLen → n * sz ≤ cs.length → RE K I E H v H') : RE K I E H v H' := by
 intro J w L u next Q U
 rcases (u.focus hk).row_cases with ⟨h1, h2, h3, h0⟩ | ⟨b, off, pre, junk, fz, ha, ok, _⟩
 ·subst h2; subst h3
  exact h (.inl h0) (Nat.le_refl _) (Nat.zero_le _) (by simp) J w L u next Q U
 ·subst ha
  refine h (.inr ⟨b, off, rfl, fun x hx => ?_⟩) ok.le ok.cap ok.len J w L u next Q U
  rcases hx with ⟨h, _⟩ | ⟨b', X, r, q, D, e, G, hb⟩
  ·cases h
  ·cases e
   refine ⟨_, T, D, hb, fun j v hj => ?_⟩
   have := iz (pre := r) (junk := q) hj
   rw [G.offs] at this
   simpa using this
theorem gv {α : Type} {V : α → List Value → Prop} {xs : List α} {q : Code} {T : TypeId} {n c : Nat} {a : Option Addr} {rs : List (List Value)} {i : Nat} (k : Nat) (I : H[k]? = some (Row T n a xs.length c rs.flatten)) (J : bI n V xs rs) (L : Nat.blt 0 n = true) (hi : i < xs.length) (d : α)
  (h : ∀ b off r, a = some ⟨b, off, none⟩ → V (xs.getD i d) r → r.length = n → (∀ {H' : List HA} (k : Nat), H'[k]? = some (Row T n a xs.length c rs.flatten) → ∀ j v, r[j]? = some v → dR H' b (off + i * n + j) v) → Sim K Q q E H o) : Sim K Q q E H o := by
 intro r u U w D G
 exact ep (rest := []) (ops := #[]) (Q := fun r e a w => q.wpIn (fen K.ro) 0 K.P (Q r) a w) k I J L hi d (fun b off r h1 X h3 h4 r u a w D G => h b off _ h1 X h3 h4 r u a w D G) r u U w D G
end
end Go.Proofs.YtndjkejhacfpdaaGreatDoor

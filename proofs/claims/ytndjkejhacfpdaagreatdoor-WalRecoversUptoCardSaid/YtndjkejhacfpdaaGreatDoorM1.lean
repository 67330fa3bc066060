/- Texts that lead to the law WalRecovers: Sl1, Sl2, Sl3, Sl4, Sl5, Sl6, Sl7, Sl8, Sl9, Sl10, Sl11, Sl12, Sl13, Sl14. Conditions: as each says. -/
import Derived.WalkKit
import Derived.TacticsIn
import Derived.TacticsInMore
import Derived.LoopNIn
import Derived.LoopIn
import Derived.RangeFuncCalls
import Derived.Below
import Derived.KernelRfl
import Derived.Laws.Cells
import Derived.Laws.Append
import Derived.Laws.BytesString
import Derived.Laws.AppendOwn
import Derived.RangeFuncRecord
import Derived.Laws.StructEq
set_option linter.unusedVariables false
set_option linter.unusedSimpArgs false
set_option linter.unusedSectionVars false
namespace Go.Proofs.YtndjkejhacfpdaaGreatDoor
theorem O {α : Sort _} {a : α} : a = a := rfl
open Go.RowKit

/-! ### 1. Parts of the heap -/
abbrev Hp := Nat → Option Obj
abbrev HA := Hp → Prop
def dj (a b : Hp) : Prop := ∀ i, a i = none ∨ b i = none
def un (a b : Hp) : Hp := fun i => (a i).or (b i)
def tt : HA := fun _ => True
def bA (A B : HA) : HA := fun h => ∃ a b, dj a b ∧ h = un a b ∧ A a ∧ B b
def bl : List HA → HA
 | [] => tt
 | A :: l => bA A (bl l)
def pr (p : Prop) : HA := fun _ => p
def exs {α : Type} (A : α → HA) : HA := fun h => ∃ x, A x h
def pts (b : Nat) (o : Obj) : HA := fun h => h b = some o

theorem BZ {a b : Hp} (d : dj a b) : un a b = un b a := by
 funext i; simp only [un]; rcases d i with h | h <;> simp [h]
theorem vZ (a b c : Hp) : un (un a b) c = un a (un b c) := by
 funext i; simp [un, Option.or_assoc]
theorem mO {a b : Hp} (d : dj a b) : dj b a := fun i => (d i).symm
theorem nK {a b c : Hp} : dj (un a b) c ↔ dj a c ∧ dj b c := by
 constructor
 ·intro h
  refine ⟨fun i => ?_, fun i => ?_⟩
  ·rcases h i with e | e
   ·simp [un] at e; exact .inl e.1
   ·exact .inr e
  ·rcases h i with e | e
   ·simp [un] at e; exact .inl e.2
   ·exact .inr e
 ·rintro ⟨h1, u⟩ i
  rcases h1 i with e1 | e1 <;> rcases u i with e2 | e2 <;> simp [un, e1, e2]
theorem rc {a b c : Hp} : dj a (un b c) ↔ dj a b ∧ dj a c := by
 constructor
 ·intro h; have := nK.1 (mO h); exact ⟨mO this.1, mO this.2⟩
 ·rintro ⟨h1, u⟩; exact mO (nK.2 ⟨mO h1, mO u⟩)

theorem fW (A B : HA) : bA A B = bA B A := by
 funext h
 apply propext
 constructor <;> (rintro ⟨a, b, d, rfl, u, D⟩; exact ⟨b, a, mO d, BZ d, D, u⟩)
theorem bF (A B C : HA) : bA (bA A B) C = bA A (bA B C) := by
 funext h
 apply propext
 constructor
 ·rintro ⟨U, c, d, rfl, ⟨a, b, u, rfl, D, I⟩, J⟩
  have := nK.1 d
  exact ⟨a, un b c, rc.2 ⟨u, this.1⟩, vZ _ _ _, D, b, c, this.2, rfl, I, J⟩
 ·rintro ⟨a, X, d, rfl, D, b, c, u, rfl, I, J⟩
  have := rc.1 d
  exact ⟨un a b, c, nK.2 ⟨this.2, u⟩, (vZ _ _ _).symm, ⟨a, b, this.1, rfl, D, I⟩, J⟩
theorem dd {A A' B u : HA} (h : Hp) (D : ∀ h, A h → A' h) (I : ∀ h, B h → u h) (s : bA A B h) : bA A' u h := by
 obtain ⟨a, b, d, rfl, x, y⟩ := s
 exact ⟨a, b, d, rfl, D _ x, I _ y⟩
theorem lm {A : HA} {h : Hp} (s : A h) : bA tt A h := ⟨fun _ => none, h, fun _ => .inl rfl, (by funext i; simp [un]), trivial, s⟩
theorem me {A : HA} {h : Hp} (s : A h) : bA A tt h := by rw [fW]; exact lm s

theorem gC (l : List HA) (X : HA) : ∀ h, bA X (bl l) h → bl l h := by
 induction l with
 | nil => intro h _; trivial
 | cons A l ih =>
  intro h s
  have u : bA A (bA X (bl l)) h := by
   rw [← bF, fW A X, bF]; exact s
  exact dd h (fun _ x => x) ih u
theorem dK (l m : List HA) : ∀ h, bl (l ++ m) h ↔ bA (bl l) (bl m) h := by
 induction l with
 | nil => intro h; exact ⟨lm, fun s => gC m tt h s⟩
 | cons A l ih =>
  intro h
  simp only [List.cons_append, bl]
  rw [bF]
  constructor
  ·exact dd h (fun _ x => x) (fun h s => (ih h).1 s)
  ·exact dd h (fun _ x => x) (fun h s => (ih h).2 s)
theorem sF (A B : HA) (l : List HA) : bl (A :: B :: l) = bl (B :: A :: l) := by
 simp only [bl]; rw [← bF, fW A B, bF]
theorem iQ : ∀ (l : List HA) (i : Nat) (A : HA), l[i]? = some A → bl l = bl (A :: l.eraseIdx i)
 | [], i, A, h => by simp at h
 | B :: l, 0, A, h => by simp at h; simp [h]
 | B :: l, i + 1, A, h => by
  have := iQ l i A (by simpa using h)
  simp only [List.eraseIdx_cons_succ]
  rw [sF]
  show bA B (bl l) = bA B (bl (A :: l.eraseIdx i))
  rw [this]
theorem jX : ∀ (l : List HA) (i : Nat) (A : HA), i < l.length → bl (A :: l.eraseIdx i) = bl (l.set i A)
 | [], i, A, h => by simp at h
 | B :: l, 0, A, h => by simp
 | B :: l, i + 1, A, h => by
  have := jX l i A (by simpa using h)
  simp only [List.eraseIdx_cons_succ, List.set_cons_succ]
  rw [sF]
  show bA B (bl (A :: l.eraseIdx i)) = bA B (bl (l.set i A))
  rw [this]

def Ent (l m : List HA) : Prop := ∀ h, bl l h → bl m h
theorem Ent.refl (l : List HA) : Ent l l := fun _ s => s
theorem Ent.trans {l m k : List HA} (a : Ent l m) (b : Ent m k) : Ent l k := fun h s => b h (a h s)
theorem Ent.nil (l : List HA) : Ent l [] := fun _ _ => trivial
theorem Ent.sel {l m : List HA} {A : HA} (i : Nat) (h : l[i]? = some A) (r : Ent (l.eraseIdx i) m) : Ent l (A :: m) := by
 intro hp s
 rw [iQ l i A h] at s
 exact dd hp (fun _ x => x) r s
theorem Ent.sel' {l m : List HA} {A B : HA} (i : Nat) (h : l[i]? = some A) (e : ∀ hp, A hp → B hp) (r : Ent (l.eraseIdx i) m) : Ent l (B :: m) := by
 intro hp s
 rw [iQ l i A h] at s
 exact dd hp e r s
theorem Ent.cons {l m : List HA} {A : HA} (r : Ent l m) : Ent (A :: l) (A :: m) := fun hp s => dd hp (fun _ x => x) r s
theorem Ent.s {l m : List HA} {A : HA} (h : l[0]? = some A) (r : Ent (l.eraseIdx 0) m) : Ent l (A :: m) := .sel 0 h r
theorem Ent.n {l : List HA} : Ent l [] := .nil _
abbrev Iv (x : Int) : Value := .int .i64 x
abbrev Pt (b : Nat) : Value := .pointer (some ⟨b, 0, none⟩)
abbrev Lb := List UInt8
abbrev _root_.Prod.q4 {A B C D E : Type} (x : A × B × C × D × E) : E := x.2.2.2.2
abbrev _root_.Prod.q8 {A B C D E F G H I : Type} (x : A × B × C × D × E × F × G × H × I) : I := x.2.2.2.2.2.2.2.2
theorem Ent.app {l u m D : List HA} (a : Ent l u) (b : Ent m D) : Ent (l ++ m) (u ++ D) := fun h s =>
 (dK _ _ h).2 (dd h a b ((dK _ _ h).1 s))
theorem Ent.drop {l m : List HA} {A : HA} (r : Ent l m) : Ent (A :: l) m := fun h s => r h (gC l A h s)
theorem Ent.pr_in {l m : List HA} {p : Prop} (hp : p) (r : Ent l m) : Ent l (pr p :: m) := fun h s =>
 ⟨fun _ => none, h, fun _ => .inl rfl, (by funext i; simp [un]), hp, r h s⟩
theorem Ent.pr_out {l m : List HA} {p : Prop} (r : p → Ent l m) : Ent (pr p :: l) m := by
 rintro h ⟨a, b, d, rfl, hp, s⟩
 exact gC m tt _ ⟨a, b, d, rfl, trivial, r hp b s⟩
theorem Ent.ex_out {α : Type} {l m : List HA} {A : α → HA} (r : ∀ x, Ent (A x :: l) m) : Ent (exs A :: l) m := by
 rintro h ⟨a, b, d, rfl, ⟨x, u⟩, s⟩
 exact r x _ ⟨a, b, d, rfl, u, s⟩
theorem Ent.fold (l m : List HA) : Ent (l ++ m) (l ++ [bl m]) := fun h s =>
 (dK _ _ h).2 (dd h (fun _ x => x) (fun _ x => me x) ((dK _ _ h).1 s))
theorem Ent.unfold (l m : List HA) : Ent (l ++ [bl m]) (l ++ m) := fun h s =>
 (dK _ _ h).2 (dd h (fun _ x => x) (fun h x => by
  have x : bA (bl m) tt h := x
  rw [fW] at x
  exact gC m tt h x) ((dK _ _ h).1 s))

def hpw (w : World) : Hp := fun b => w.heap[b]?
structure Sat (W : World) (H : List HA) (w : World) : Prop where
 os : w.os = W.os
 tape : w.tape = W.tape
 output : w.output = W.output
 size : W.heap.size ≤ w.heap.size
 hp : bl H (hpw w)
theorem Sat.ent {W w : World} {l m : List HA} (s : Sat W l w) (e : Ent l m) : Sat W m w := ⟨s.os, s.tape, s.output, s.size, e _ s.hp⟩
theorem Sat.drew {W w : World} {l : List HA} (s : Sat W l w) (n : Nat) : Sat W l { w with drawn := n } := ⟨s.os, s.tape, s.output, s.size, s.hp⟩
theorem Sat.pr_out {W w : World} {l : List HA} {p : Prop} (s : Sat W (pr p :: l) w) : p ∧ Sat W l w := by
 obtain ⟨a, b, _, _, hp, _⟩ := s.hp
 exact ⟨hp, s.ent (Ent.drop (Ent.refl _))⟩
theorem Sat.ex_out {α : Type} {W w : World} {l : List HA} {A : α → HA} (s : Sat W (exs A :: l) w) : ∃ x, Sat W (A x :: l) w := by
 obtain ⟨a, b, d, e, ⟨x, u⟩, r⟩ := s.hp
 exact ⟨x, s.os, s.tape, s.output, s.size, a, b, d, e, u, r⟩
theorem oX {a b : Hp} {i : Nat} {o : Obj} (h : a i = some o) : un a b i = some o := by simp [un, h]
theorem rY {a b : Hp} (d : dj a b) {i : Nat} {o : Obj} (h : b i = some o) : un a b i = some o := by
 rcases d i with e | e
 ·simp [un, e, h]
 ·rw [h] at e; cases e
theorem mA : ∀ (l : List HA) (i : Nat) (A : HA), l[i]? = some A → ∀ h, bl l h → ∃ a, A a ∧ ∀ j o, a j = some o → h j = some o := by
 intro l i A hi h s
 rw [iQ l i A hi] at s
 obtain ⟨a, b, d, rfl, u, _⟩ := s
 exact ⟨a, u, fun j o e => oX e⟩
theorem Sat.at {W w : World} {l : List HA} (s : Sat W l w) {i : Nat} {A : HA} (h : l[i]? = some A) : ∃ a, A a ∧ ∀ j o, a j = some o → w.heap[j]? = some o :=
 mA l i A h _ s.hp
theorem Sat.pts_at {W w : World} {l : List HA} (s : Sat W l w) {i b : Nat} {o : Obj} (h : l[i]? = some (pts b o)) : w.heap[b]? = some o := by
 obtain ⟨a, u, k⟩ := s.at h
 exact k _ _ u

/-! ### 2. What is done to the heap -/
theorem Sat.new {W w : World} {l : List HA} (s : Sat W l w) (o : Obj) : Sat W (pts w.heap.size o :: l) { w with heap := w.heap.push o } := by
 refine ⟨s.os, s.tape, s.output, ?_, ?_⟩
 ·have := s.size; simp; omega
 ·refine ⟨fun i => if i = w.heap.size then some o else none, hpw w, ?_, ?_, ?_, s.hp⟩
  ·intro i
   by_cases h : i = w.heap.size
   ·right; subst h; simp [hpw]
   ·left; simp [h]
  ·funext i
   simp only [hpw, un, Array.getElem?_push]
   by_cases h : i = w.heap.size
   ·subst h; simp
   ·simp [h]
  ·simp [pts]
theorem Sat.upd {W w : World} {l : List HA} {b : Nat} {o o' : Obj} (s : Sat W (pts b o :: l) w) : Sat W (pts b o' :: l) { w with heap := w.heap.setIfInBounds b o' } := by
 have I : w.heap[b]? = some o := s.pts_at (i := 0) rfl
 have u : b < w.heap.size := (Array.getElem?_eq_some_iff.1 I).1
 refine ⟨s.os, s.tape, s.output, by simpa using s.size, ?_⟩
 obtain ⟨a, r, d, e, D, J⟩ := s.hp
 refine ⟨fun i => if i = b then some o' else a i, r, ?_, ?_, ?_, J⟩
 ·intro i
  by_cases h : i = b
  ·subst h
   rcases d i with x | x
   ·have D : a i = some o := D
    rw [D] at x; cases x
   ·exact .inr x
  ·simpa [h] using d i
 ·funext i
  have := congrFun e i
  simp only [hpw] at this ⊢
  simp only [un] at this ⊢
  rw [Array.getElem?_setIfInBounds]
  by_cases h : i = b
  ·subst h; simp [u]
  ·have h' : ¬ b = i := fun x => h x.symm
   simp [h, h', this]
 ·simp [pts]
theorem mN (h : Array Obj) (b : Nat) (f : Obj → Obj) (o : Obj) (e : h[b]? = some o) : h.modify b f = h.setIfInBounds b (f o) := by
 apply Array.ext_getElem?
 intro i
 rw [Array.getElem?_modify, Array.getElem?_setIfInBounds]
 have u : b < h.size := (Array.getElem?_eq_some_iff.1 e).1
 by_cases hi : b = i
 ·subst hi
  have D : h[b] = o := by rw [Array.getElem?_eq_getElem u] at e; simpa using e
  simp [u, D]
 ·simp [hi]

/-! ### 3. Temporaries -/
abbrev Env := List (Nat × Value)
def lk : Env → Nat → Option Value
 | [], _ => none
 | (i, v) :: t, j => bif Nat.beq i j then some v else lk t j
def ev (E : Env) : Operand → Option Value
 | .tmp t => lk E t
 | .const v => some v
 | .global g => some (.pointer (some ⟨g, 0, none⟩))
 | .func f => some (.func (.func f) #[] #[])
structure Has (n : Nat) (ds : List Deferred) (E : Env) (a : Act) : Prop where
 size : a.tmps.size = n
 defers : a.defers = ds
 get : ∀ i v, lk E i = some v → a.tmps[i]? = some v
theorem Has.ev {n : Nat} {ds : List Deferred} {E : Env} {a : Act} (h : Has n ds E a) {x : Operand} {v : Value} (e : ev E x = some v) : a.eval x = v := by
 cases x with
 | tmp t =>
  have := h.get t v e
  simp [Act.eval, Array.getD_eq_getD_getElem?, this]
 | const v' => simpa [Go.Proofs.YtndjkejhacfpdaaGreatDoor.ev, Act.eval] using e
 | global g => simpa [Go.Proofs.YtndjkejhacfpdaaGreatDoor.ev, Act.eval] using e
 | func f => simpa [Go.Proofs.YtndjkejhacfpdaaGreatDoor.ev, Act.eval] using e
theorem Has.put {n : Nat} {ds : List Deferred} {E : Env} {a : Act} (h : Has n ds E a) {d : Nat} (v : Value) (hd : Nat.blt d n = true) : Has n ds ((d, v) :: E) (a.put (some d) v) := by
 have D : d < n := by simpa [Nat.blt_eq] using hd
 refine ⟨by simpa [Act.put] using h.size, h.defers, fun i u hi => ?_⟩
 simp only [Act.put]
 rw [Array.getElem?_setIfInBounds]
 simp only [lk] at hi
 by_cases e : d = i
 ·subst e
  simp [h.size, D] at hi ⊢
  exact hi
 ·have : Nat.beq d i = false := by
   rw [Bool.eq_false_iff]; intro x; exact e (Nat.eq_of_beq_eq_true x)
  rw [this] at hi
  simp only [cond_false] at hi
  rw [if_neg e]
  exact h.get i u hi
def Sub : Env → Env → Prop
 | [], _ => True
 | (i, v) :: t, E => lk E i = some v ∧ Sub t E
theorem Has.sub {n : Nat} {ds : List Deferred} {E E' : Env} {a : Act} (h : Has n ds E a) (s : Sub E' E) : Has n ds E' a := by
 refine ⟨h.size, h.defers, ?_⟩
 induction E' with
 | nil => intro i v e; simp [lk] at e
 | cons p t ih =>
  obtain ⟨j, u⟩ := p
  obtain ⟨h1, D⟩ := s
  intro i v e
  simp only [lk] at e
  cases hb : Nat.beq j i with
  | true =>
   rw [hb] at e
   obtain rfl := Nat.eq_of_beq_eq_true hb
   simp only [cond_true, Option.some.injEq] at e
   subst e
   exact h.get _ _ h1
  | false =>
   rw [hb] at e
   exact ih D i v e

end Go.Proofs.YtndjkejhacfpdaaGreatDoor

namespace Go.Proofs.YtndjkejhacfpdaaGreatDoor
open Go.RowKit

structure Cx where
 P : Program
 W : World
 ro : Option Nat
 n : Nat
 ds : List Deferred
def fen : Option Nat → Fence
 | none => Fence.wide
 | some l => Fence.wide.inRound l
theorem iU (ro : Option Nat) (f : FuncId) : (fen ro).fn f := by cases ro <;> trivial
theorem ng (ro : Option Nat) : (fen ro).depth.isSome = true → 1 ≤ 0 := by cases ro <;> (intro h; cases h)
theorem yY (ro : Option Nat) : (fen ro).round = ro := by cases ro <;> rfl

abbrev eM (R : Type) := R → Exit → Act → World → Prop
section defs
variable (K : Cx) {R S Y : Type}
def Sim (Q : eM R) (c : Code) (E : Env) (H : List HA) (o : Option R) : Prop :=
 ∀ r, o = some r → ∀ a w, Has K.n K.ds E a → Sat K.W H w → c.wpIn (fen K.ro) 0 K.P (Q r) a w
def cx (Q : eM R) (ops : Array Oper) (l : List Oper) (E : Env) (H : List HA) (o : Option R) : Prop :=
 ∀ r, o = some r → ∀ a w, Has K.n K.ds E a → Sat K.W H w → wpListIn (fen K.ro) 0 K.P ops (Q r) l a w
def Nrm (Q : eM R) (E : Env) (H : List HA) (o : Option R) : Prop :=
 ∀ r, o = some r → ∀ a w, Has K.n K.ds E a → Sat K.W H w → Q r .normal a w
def lJ (c : Code) (Q : eM R) : eM R := fun r => Exit.then (c.wpIn (fen K.ro) 0 K.P (Q r)) (Q r)
def nh (id : Nat) (Q : eM R) : eM R := fun r => Exit.inBlock id (Q r)
def mm (E : S → Y → Env) (H : S → Y → List HA) : eM S := fun s e a w =>
 match e with
 | .normal => ∃ y, Has K.n K.ds (E s y) a ∧ Sat K.W (H s y) w
 | _ => False
def yd (Q : eM R) (E : S → Y → Env) (H : S → Y → List HA) : eM (S ⊕ R) := fun sr e a w =>
 match sr with
 | .inl s => match e with
  | .normal => ∃ y, Has K.n K.ds (E s y) a ∧ Sat K.W (H s y) w
  | _ => False
 | .inr r => match e with
  | .normal => False
  | e => Q r e a w
def si (L : S → Option R) (E : S → Y → Env) (H : S → Y → List HA) (Q : eM R) : eM R := fun r e a w =>
 match e with
 | .normal => ∃ s y, L s = some r ∧ Has K.n K.ds (E s y) a ∧ Sat K.W (H s y) w
 | e => Q r e a w
def sU (fn : Func) (val : R → Y → Value) (B : R → Y → List HA) : eM R := fun r e a w =>
 bodyPost K.P fn (fun e u => ∃ y, e = .returned (val r y) ∧ Sat K.W (B r y) u) e a w
end defs

def orR {S R : Type} (u : Option (S ⊕ R)) (o2 : S → Option R) : Option R :=
 match u with
 | none => none
 | some (.inl s) => o2 s
 | some (.inr r) => some r

section rules
variable {K : Cx} {R S Y : Type} {Q : eM R} {E : Env} {H : List HA} {o : Option R}
theorem ap {u c2 : Code} (h : Sim K (lJ K c2 Q) u E H o) : Sim K Q (.seq u c2) E H o :=
 fun r D a w I J => wpIn_seq (h r D a w I J)
theorem aZ {id : Nat} {c : Code} (h : Sim K (nh id Q) c E H o) : Sim K Q (.block id c) E H o :=
 fun r u a w D I => wpIn_block (h r u a w D I)
theorem aA (h : Nrm K Q E H o) : Sim K Q .skip E H o := fun r u a w D I => wpIn_skip (h r u a w D I)
theorem aG {id : Nat} {l : List Oper} (h : cx K Q l.toArray l E H o) : Sim K Q (.region id l.toArray false) E H o :=
 fun r u a w D I => wpIn_region_lit (h r u a w D I)
theorem aw {ops : Array Oper} (h : Nrm K Q E H o) : cx K Q ops [] E H o := h
theorem ai {c : Code} (h : Sim K Q c E H o) : Nrm K (lJ K c Q) E H o := h
theorem bz {id : Nat} (h : Nrm K Q E H o) : Nrm K (nh id Q) E H o := h
theorem lQ {c : Code} : Sim K Q c E H none := fun _ h => nomatch h
theorem tA {ops : Array Oper} {l : List Oper} : cx K Q ops l E H none := fun _ h => nomatch h
theorem Af : Nrm K Q E H none := fun _ h => nomatch h
theorem bu {x : Operand} {I c2 : Code} {p : Prop} [Decidable p] {J o2 : Option R} (U : ev E x = some (.bool (decide p)))
  (h1 : p → Sim K Q I E H J) (h2 : ¬ p → Sim K Q c2 E H o2) : Sim K Q (.cond x I c2) E H (if p then J else o2) := by
 intro r u a w D X
 by_cases hp : p
 ·rw [if_pos hp] at u
  exact wpIn_cond_true (by rw [D.ev U]; simp [hp]) (h1 hp r u a w D X)
 ·rw [if_neg hp] at u
  exact wpIn_cond_false (by rw [D.ev U]; simp [hp]) (h2 hp r u a w D X)
theorem bm {x : Operand} {D c2 : Code} {b : Bool} {I o2 : Option R} (J : ev E x = some (.bool b))
  (h1 : b = true → Sim K Q D E H I) (h2 : b = false → Sim K Q c2 E H o2) : Sim K Q (.cond x D c2) E H (if b = true then I else o2) := by
 intro r U a w u X
 cases b with
 | true => exact wpIn_cond_true (u.ev J) (h1 rfl r (by simpa using U) a w u X)
 | false => exact wpIn_cond_false (u.ev J) (h2 rfl r (by simpa using U) a w u X)
theorem eN {x : Operand} {I c2 : Code} {p : Prop} [Decidable p] {J o2 : Option R} (U : ev E x = some (.bool (!decide p)))
  (h1 : p → Sim K Q c2 E H J) (h2 : ¬ p → Sim K Q I E H o2) : Sim K Q (.cond x I c2) E H (if p then J else o2) := by
 intro r u a w D X
 by_cases hp : p
 ·rw [if_pos hp] at u
  exact wpIn_cond_false (by rw [D.ev U]; simp [hp]) (h1 hp r u a w D X)
 ·rw [if_neg hp] at u
  exact wpIn_cond_true (by rw [D.ev U]; simp [hp]) (h2 hp r u a w D X)
theorem ix {x : Operand} {u c2 : Code} (I : ev E x = some (.bool true)) (h1 : Sim K Q u E H o) : Sim K Q (.cond x u c2) E H o :=
 fun r J a w D U => wpIn_cond_true (D.ev I) (h1 r J a w D U)
theorem jE {x : Operand} {D c2 : Code} (I : ev E x = some (.bool false)) (h1 : Sim K Q c2 E H o) : Sim K Q (.cond x D c2) E H o :=
 fun r J a w u U => wpIn_cond_false (u.ev I) (h1 r J a w u U)
theorem ji {c : Code} {p : Prop} [Decidable p] {u o2 : Option R} (h1 : p → Sim K Q c E H u) (D : ¬ p → Sim K Q c E H o2) : Sim K Q c E H (if p then u else o2) := by
 by_cases hp : p
 ·rw [if_pos hp]; exact h1 hp
 ·rw [if_neg hp]; exact D hp
theorem mD {ops : Array Oper} {l : List Oper} {p : Prop} [Decidable p] {u o2 : Option R} (h1 : p → cx K Q ops l E H u) (D : ¬ p → cx K Q ops l E H o2) : cx K Q ops l E H (if p then u else o2) := by
 by_cases hp : p
 ·rw [if_pos hp]; exact h1 hp
 ·rw [if_neg hp]; exact D hp
theorem bo {ops : Array Oper} {l : List Oper} {p : Prop} [Decidable p] {u : Option R} (h1 : p → cx K Q ops l E H u) : cx K Q ops l E H (if p then u else none) :=
 mD h1 fun _ => tA
theorem dh {c : Code} {p : Prop} [Decidable p] {u : Option R} (h1 : p → Sim K Q c E H u) : Sim K Q c E H (if p then u else none) :=
 ji h1 fun _ => lQ
theorem aj {ops : Array Oper} {l : List Oper} {u : Option S} {o2 : S → Option R} (h : ∀ s, u = some s → cx K Q ops l E H (o2 s)) : cx K Q ops l E H (u.bind o2) := by
 cases u with
 | none => exact tA
 | some s => exact h s rfl
theorem bC {c : Code} {u : Option S} {o2 : S → Option R} (h : ∀ s, u = some s → Sim K Q c E H (o2 s)) : Sim K Q c E H (u.bind o2) := by
 cases u with
 | none => exact lQ
 | some s => exact h s rfl
theorem cl {ops : Array Oper} {l : List Oper} {H' : List HA} (e : Ent H H') (h : cx K Q ops l E H' o) : cx K Q ops l E H o :=
 fun r u a w D I => h r u a w D (I.ent e)
theorem gq {c : Code} {H' : List HA} (e : Ent H H') (h : Sim K Q c E H' o) : Sim K Q c E H o :=
 fun r u a w D I => h r u a w D (I.ent e)
theorem qK {H' : List HA} (e : Ent H H') (h : Nrm K Q E H' o) : Nrm K Q E H o :=
 fun r u a w D I => h r u a w D (I.ent e)
theorem qg {c : Code} {p : Prop} (h : p → Sim K Q c E H o) : Sim K Q c E (pr p :: H) o :=
 fun r D a w I u => h u.pr_out.1 r D a w I u.pr_out.2
theorem Br {c : Code} {A : Y → HA} (h : ∀ y, Sim K Q c E (A y :: H) o) : Sim K Q c E (exs A :: H) o :=
 fun r u a w D I => let ⟨y, s⟩ := I.ex_out; h y r u a w D s
theorem bP (Y : Type) {I c2 : Code} {D : Option S} {o2 : S → Option R} (J : S → Y → Env) (U : S → Y → List HA)
  (h1 : Sim K (mm K J U) I E H D) (h2 : ∀ s y, Sim K Q c2 (J s y) (U s y) (o2 s)) : Sim K Q (.seq I c2) E H (D.bind o2) := by
 intro r u a w he hs
 cases ho : D with
 | none => rw [ho] at u; cases u
 | some s =>
  rw [ho] at u
  refine wpIn_seq (wpIn_mono (h1 s ho a w he hs) ?_)
  intro e a' w' X
  cases e with
  | normal => obtain ⟨y, x1, x2⟩ := X; exact h2 s y r u a' w' x1 x2
  | _ => exact X.elim
theorem iA (Y : Type) {J c2 : Code} {I : Option (S ⊕ R)} {o2 : S → Option R} (U : S → Y → Env) (X : S → Y → List HA)
  (h1 : Sim K (yd K Q U X) J E H I) (h2 : ∀ s y, Sim K Q c2 (U s y) (X s y) (o2 s)) : Sim K Q (.seq J c2) E H (orR I o2) := by
 intro r u a w he hs
 cases ho : I with
 | none => rw [ho] at u; cases u
 | some sr =>
  rw [ho] at u
  cases sr with
  | inl s =>
   refine wpIn_seq (wpIn_mono (h1 _ ho a w he hs) ?_)
   intro e a' w' D
   cases e with
   | normal => obtain ⟨y, x1, x2⟩ := D; exact h2 s y r u a' w' x1 x2
   | _ => exact D.elim
  | inr r' =>
   obtain rfl : r' = r := by simpa [orR] using u
   refine wpIn_seq (wpIn_mono (h1 _ ho a w he hs) ?_)
   intro e a' w' D
   cases e with
   | normal => exact D.elim
   | _ => exact D
theorem aF {u : S → Y → Env} {D : S → Y → List HA} {s : S} (y : Y) (I : Sub (u s y) E) (J : Ent H (D s y)) : Nrm K (mm K u D) E H (some s) := by
 intro r U a w X hs
 cases U
 exact ⟨y, X.sub I, hs.ent J⟩
theorem gx {u : S → Y → Env} {D : S → Y → List HA} {s : S} (y : Y) (I : Sub (u s y) E) (J : Ent H (D s y)) : Nrm K (yd K Q u D) E H (some (.inl s)) := by
 intro r U a w X hs
 cases U
 exact ⟨y, X.sub I, hs.ent J⟩
theorem pA {F : Fence} {n : Nat} {P : Program} {ops : Array Oper} {D I : Exit → Act → World → Prop} : ∀ (l1 l2 : List Oper) (a : Act) (w : World),
  wpListIn F n P ops D l1 a w → (∀ a w, D .normal a w → wpListIn F n P ops I l2 a w) → (∀ c a w, D (.panic c) a w → I (.panic c) a w) → (∀ a w, D .outgrown a w → I .outgrown a w) → wpListIn F n P ops I (l1 ++ l2) a w
 | [], l2, a, w, h, h2, _, _ => h2 a w h
 | o :: l1, l2, a, w, h, h2, h3, h4 => by
  simp only [List.cons_append, wpListIn] at h ⊢
  split
  ·rename_i U
   rw [if_pos U] at h
   refine ⟨h.1, ?_⟩
   have mono : ∀ (r : Result Next), o.uponIn F n P a (wpListIn F n P ops D l1) D r → o.uponIn F n P a (wpListIn F n P ops I (l1 ++ l2)) I r := by
    intro r u
    have nx : ∀ a w, wpListIn F n P ops D l1 a w → wpListIn F n P ops I (l1 ++ l2) a w := fun a w x => pA l1 l2 a w x h2 h3 h4
    have X : LetsOut D → LetsOut I := fun ⟨a, w, x⟩ => ⟨a, w, h4 a w x⟩
    cases r with
    | ok nxt w' =>
     cases nxt with
     | value v => exact nx _ _ u
     | skip => exact nx _ _ u
     | defer d => exact nx _ _ u
     | enter f args =>
      refine ⟨u.1, u.2.mono ?_⟩
      intro e J x
      cases e with
      | returned v => exact nx _ _ x
      | panicked c => exact h3 _ _ _ x
      | outgrown => exact X x
     | row row args => exact ⟨u.1, u.2.mono fun v J x => nx _ _ x⟩
     | round l f tmps assign body =>
      refine ⟨u.1, u.2.mono ?_⟩
      intro e J x
      cases e with
      | returned v => exact nx _ _ x
      | panicked c => exact h3 _ _ _ x
      | outgrown => exact X x
     | _ => exact u.elim
    | halt h w' => cases h <;> first | exact h3 _ _ _ u | exact u.elim
   exact mono _ h.2
  ·rename_i U
   rw [if_neg U] at h
   exact ⟨h.1, pA l1 l2 _ w h.2 h2 h3 h4⟩
theorem Ag (Y : Type) {ops : Array Oper} {l1 l2 : List Oper} {D : Option S} {o2 : S → Option R} (I : S → Y → Env) (J : S → Y → List HA)
  (h1 : cx K (mm K I J) ops l1 E H D) (U : ∀ s y, cx K Q ops l2 (I s y) (J s y) (o2 s)) : cx K Q ops (l1 ++ l2) E H (D.bind o2) := by
 intro r u a w X hs
 cases ho : D with
 | none => rw [ho] at u; cases u
 | some s =>
  rw [ho] at u
  exact pA l1 l2 a w (h1 s ho a w X hs) (fun a' w' ⟨y, x1, x2⟩ => U s y r u a' w' x1 x2) (fun _ _ _ x => x.elim) (fun _ _ x => x.elim)

theorem da {c : Code} (Y : Type) (L : Nat → S → Option R) (Es : S → Y → Env) (Hs : S → Y → List HA) (h0 : ∀ s, L 0 s = none)
  (hb : ∀ k s y, Sim K (si K (L k) Es Hs Q) c (Es s y) (Hs s y) (L (k + 1) s)) (k : Nat) (s : S) (y : Y) (hE : Sub (Es s y) E) (hH : Ent H (Hs s y)) :
  Sim K Q (.loop c) E H (L k s) := by
 intro r J a w he hs
 refine wpIn_wpghost (fun j a w => ∃ s y, L j s = some r ∧ Has K.n K.ds (Es s y) a ∧ Sat K.W (Hs s y) w) k ⟨s, y, J, he.sub hE, hs.ent hH⟩ ?_
 rintro j a w ⟨s, y, J, he, hs⟩
 cases j with
 | zero => rw [h0] at J; cases J
 | succ j =>
  refine wpIn_mono (hb j s y r J a w he hs) ?_
  intro e U X D
  cases e with
  | normal => exact ⟨j, Nat.lt_succ_self j, D⟩
  | _ => exact D
where
 wpIn_wpghost {F : Fence} {n : Nat} {P : Program} {Q : Exit → Act → World → Prop} {a : Act} {w : World} {c : Code} (I : Nat → Act → World → Prop) (n₀ : Nat) (h₀ : I n₀ a w)
   (ab : ∀ m a w, I m a w → c.wpIn F n P (Exit.then (fun U X => ∃ k, k < m ∧ I k U X) Q) a w) : (Code.loop c).wpIn F n P Q a w := by
  intro b k cs bc hb J
  have key : ∀ j a w, I j a w →
    ∃ e U X, Q e U X ∧ ArrivesIn (Machine.fenced P F) P (lone (b.atR a (.code c :: .inLoop c :: k)) cs w) b k cs e U X := by
   intro j
   induction j using Nat.strongRecOn with
   | _ j ih =>
    intro a w hI
    obtain ⟨e, a₁, w₁, D, u⟩ := ab j a w hI b (.inLoop c :: k) cs bc hb J
    cases e with
    | normal =>
     obtain ⟨j', be, br⟩ := D
     obtain ⟨e₂, a₂, w₂, b0, ad⟩ := ih j' be a₁ w₁ br
     exact ⟨e₂, a₂, w₂, b0, .of_steps (StepsIn.trans u (.one (fenced_calm hb J rfl) stepR_inLoop)) ad⟩
    | exit id => exact ⟨_, a₁, w₁, D, .pass (x := .inLoop c) rfl (fun _ _ => .inl (by simp)) u⟩
    | goto l => exact ⟨_, a₁, w₁, D, .pass (x := .inLoop c) rfl (fun _ _ => .inl (by simp)) u⟩
    | ret => exact ⟨_, a₁, w₁, D, .pass (x := .inLoop c) rfl (fun _ _ => .inl (by simp)) u⟩
    | panic ch => exact ⟨_, a₁, w₁, D, .pass (x := .inLoop c) rfl (fun _ _ => .inl (by simp)) u⟩
    | outgrown => exact ⟨_, a₁, w₁, D, .pass (x := .inLoop c) rfl (fun _ _ => .inl (by simp)) u⟩
  obtain ⟨e, U, X, D, u⟩ := key _ a w h₀
  exact ⟨e, U, X, D, .of_steps (.one (fenced_calm hb J rfl) stepR_loop) u⟩
theorem bT {L : S → Option R} {u : S → Y → Env} {D : S → Y → List HA} {s : S} (y : Y) (I : Sub (u s y) E) (J : Ent H (D s y)) : Nrm K (si K L u D Q) E H (L s) :=
 fun _ U _ _ X hs => ⟨s, y, U, X.sub I, hs.ent J⟩
/-! ### Results -/
def mE : List ResultVar → Env → Option (List Value)
 | [], _ => some []
 | .tmp t :: l, E => match lk E t, mE l E with
  | some v, some vs => some (v :: vs)
  | _, _ => none
 | .cell .. :: _, _ => none
def tup : List Value → Value
 | [v] => v
 | vs => .tuple vs.toArray
theorem uR {n : Nat} {ds : List Deferred} {a : Act} {P : Program} {w : World} (D : Has n ds E a) (g : ResultVar → Sem Value) (I : ∀ t, g (.tmp t) = Sem.pure (a.tmps.getD t undef)) : ∀ (l : List ResultVar) (vs : List Value), mE l E = some vs →
  (l.mapM g).run P w = .ok vs w
 | [], vs, h => by simp [mE] at h; subst h; rfl
 | .tmp t :: l, vs, h => by
  simp only [mE] at h
  split at h
  ·rename_i v u h1 J
   cases h
   have U := uR (P := P) (w := w) D g I l u J
   have := D.get _ _ h1
   simp only [List.mapM_cons, Sem.run_bind, I, Sem.run_pure', Result.andThen_ok]
   rw [U]
   simp [Array.getD_eq_getD_getElem?, this]
  ·cases h
 | .cell .. :: l, vs, h => by simp [mE] at h
theorem pB {n : Nat} {ds : List Deferred} {a : Act} {P : Program} {w : World} {fn : Func} (D : Has n ds E a) {vs : List Value} (h : mE fn.results.toList E = some vs) :
  (results fn a.tmps).run P w = .ok (tup vs) w := by
 unfold results
 simp only [Sem.run_bind]
 rw [← Array.toArray_toList (xs := fn.results), List.mapM_toArray]
 simp only [Sem.run_map]
 rw [uR (P := P) (w := w) D _ (fun _ => rfl) fn.results.toList vs h]
 simp only [Result.andThen_ok]
 match vs with
 | [] => simp [tup]
 | [v] => simp [tup]
 | v :: u :: t => simp [tup]
theorem xa {fn : Func} {val : R → Y → Value} {B : R → Y → List HA} {r : R} {vs : List Value} (y : Y) (hd : K.ds = []) (u : mE fn.results.toList E = some vs) (J : tup vs = val r y) (U : Ent H (B r y)) :
  ∀ D, some r = some D → ∀ a w, Has K.n K.ds E a → Sat K.W H w → a.defers = [] ∧ ∃ v, (results fn a.tmps).run K.P w = .ok v w ∧ ∃ y, Ending.returned v = .returned (val D y) ∧ Sat K.W (B D y) w := by
 intro D X a w I hs
 cases X
 exact ⟨I.defers.trans hd, _, pB I u, y, by rw [J], hs.ent U⟩
theorem gw {fn : Func} {val : R → Y → Value} {B : R → Y → List HA} {r : R} {vs : List Value} (y : Y) (hd : K.ds = []) (u : mE fn.results.toList E = some vs) (D : tup vs = val r y) (I : Ent H (B r y)) :
  Nrm K (sU K fn val B) E H (some r) := fun J U a w X hs => xa (K := K) y hd u D I J U a w X hs

/-! ### Functions -/
end rules
def Fn (P : Program) (W : World) (f : FuncId) (args : List Value) (A : List HA) (F : HA) {R Y : Type} (o : Option R) (val : R → Y → Value) (B : R → Y → List HA) : Prop :=
 ∀ r, o = some r → ∀ w, Sat W (A ++ [F]) w → Calls P f args.toArray w fun e u => ∃ y, e = .returned (val r y) ∧ Sat W (B r y ++ [F]) u
def nW : Nat → List Value → Env
 | _, [] => []
 | i, v :: l => (i, v) :: nW (i + 1) l
theorem uS : ∀ (l : List Value) (i j : Nat) (v : Value), lk (nW i l) j = some v → ∃ k, j = i + k ∧ l[k]? = some v
 | [], i, j, v, h => by simp [nW, lk] at h
 | u :: l, i, j, v, h => by
  simp only [nW, lk] at h
  cases hb : Nat.beq i j with
  | true =>
   rw [hb] at h
   exact ⟨0, (Nat.eq_of_beq_eq_true hb).symm, by simpa using h⟩
  | false =>
   rw [hb] at h
   obtain ⟨k, h1, D⟩ := uS l (i + 1) j v h
   exact ⟨k + 1, by omega, by simpa using D⟩
theorem mF (args : List Value) (n : Nat) (I : args.length ≤ n) : Has n [] (nW 0 args) { tmps := args.toArray ++ Array.replicate (n - args.toArray.size) undef, defers := [] } := by
 refine ⟨by simp; omega, rfl, fun i v h => ?_⟩
 obtain ⟨k, rfl, u⟩ := uS args 0 i v h
 have D : k < args.length := (List.getElem?_eq_some_iff.1 u).1
 simp only [Nat.zero_add]
 rw [Array.getElem?_append_left (by simpa using D)]
 simpa using u
theorem aX {P : Program} {W : World} {f : FuncId} {args : List Value} {A : List HA} {F : HA} {R Y : Type} {o : Option R} {val : R → Y → Value} {B : R → Y → List HA}
  {fn : Func} {c : Code} (n : Nat) (u : P.funcs[f]? = some fn) (D : fn.body = some c) (I : fn.ntmps = n) (J : Nat.ble args.length n = true)
  (h : Sim ⟨P, W, none, n, []⟩ (sU ⟨P, W, none, n, []⟩ fn val fun r y => B r y ++ [F]) c (nW 0 args) (A ++ [F]) o) : Fn P W f args A F o val B := by
 intro r U w X
 refine (callsIn_wide (n := 0)).1 (callsIn_of_wp u D trivial ?_ rfl)
 have := h r U _ w (mF args n (by simpa [Nat.ble_eq] using J)) X
 rw [I]
 exact this

/-! ### Operations -/
section ops
variable (K : Cx) {R Y : Type}
def RQ (o : Oper) (E : Env) (H : List HA) (v : Value) : Prop :=
 ∀ a w, Has K.n K.ds E a → Sat K.W H w → ∀ next Q, (∀ u, Sat K.W H u → next (a.put o.dst v) u) → o.wpIn (fen K.ro) 0 K.P a w next Q
def RE (o : Oper) (E : Env) (H : List HA) (v : Y → Value) (H' : Y → List HA) : Prop :=
 ∀ a w, Has K.n K.ds E a → Sat K.W H w → ∀ next Q, (∀ y u, Sat K.W (H' y) u → next (a.put o.dst (v y)) u) → o.wpIn (fen K.ro) 0 K.P a w next Q
end ops
section
variable {K : Cx} {R S Y : Type} {Q : eM R} {E : Env} {H : List HA} {opt : Option R} {ops : Array Oper} {rest : List Oper} {o : Oper}
theorem RE.rq {v : Y → Value} {H' : Y → List HA} {u : Value} (h : RE K o E H v H') (D : ∀ y, v y = u) (I : ∀ y, Ent (H' y) H) : RQ K o E H u :=
 fun a w J U next Q X => h a w J U next Q fun y w' s => by rw [D]; exact X w' (s.ent (I y))
theorem RQ.sub {v : Value} {E' : Env} (s : Sub E' E) (h : RQ K o E' H v) : RQ K o E H v := fun a w u D => h a w (u.sub s) D
theorem mB {d : Nat} {v : Value} (J : RQ K o E H v) (U : o.guard = none) (hd : o.dst = some d) (X : Nat.blt d K.n = true)
  (h : cx K Q ops rest ((d, v) :: E) H opt) : cx K Q ops (o :: rest) E H opt := by
 intro r u a w I hs
 refine wpListIn_plain U fun K' D => J a w I hs _ _ fun w' s => D _ _ ?_
 rw [hd]
 exact h r u _ w' (I.put v X) s
theorem bg {v : Y → Value} {H' : Y → List HA} (J : RE K o E H v H') (U : o.guard = none) (hd : o.dst = none)
  (h : ∀ y, cx K Q ops rest E (H' y) opt) : cx K Q ops (o :: rest) E H opt := by
 intro r u a w I X
 refine wpListIn_plain U fun K' D => J a w I X _ _ fun y w' s => D _ _ ?_
 rw [hd]
 exact h y r u _ w' I s
theorem Ah {d : Nat} {v : Y → Value} {H' : Y → List HA} (J : RE K o E H v H') (U : o.guard = none) (hd : o.dst = some d) (X : Nat.blt d K.n = true)
  (h : ∀ y, cx K Q ops rest ((d, v y) :: E) (H' y) opt) : cx K Q ops (o :: rest) E H opt := by
 intro r u a w I hs
 refine wpListIn_plain U fun K' D => J a w I hs _ _ fun y w' s => D _ _ ?_
 rw [hd]
 exact h y r u _ w' (I.put _ X) s
/-! A guard: the operation is carried out, or not. -/
theorem lX {E : Env} {n : Nat} {ds : List Deferred} {a : Act} (D : Has n ds E a) {j dj : Nat} {u b : Bool} (I : o.guard = some (j, u)) (J : ((ops[j]?).bind (·.dst)) = some dj) (U : lk E dj = some (.bool b)) :
  Region.wanted o (yielded ops a.tmps) = (b == u) := by
 simp only [Region.wanted, I, yielded, J, Option.bind_some, D.get _ _ U]
 cases b <;> cases u <;> rfl
theorem uT {j dj : Nat} {u b : Bool} (U : o.guard = some (j, u)) (X : ((ops[j]?).bind (·.dst)) = some dj) (hb : lk E dj = some (.bool b)) (hw : (b == u) = true)
  (h : ∀ r, opt = some r → ∀ a w, Has K.n K.ds E a → Sat K.W H w → ∀ next, (∀ a w, wpListIn (fen K.ro) 0 K.P ops (Q r) rest a w → next a w) → o.wpIn (fen K.ro) 0 K.P a w next (Q r)) : cx K Q ops (o :: rest) E H opt := by
 intro r D a w J hs
 refine wpListIn_step fun K' I => ?_
 rw [lX J U X hb, hw]
 simp only [if_true]
 exact h r D a w J hs K' I
theorem aK {d j dj : Nat} {u b : Bool} {v : Value} (U : RQ K o E H v) (X : o.guard = some (j, u)) (hj : ((ops[j]?).bind (·.dst)) = some dj) (hb : lk E dj = some (.bool b)) (hw : (b == u) = true) (hd : o.dst = some d) (hn : Nat.blt d K.n = true)
  (h : cx K Q ops rest ((d, v) :: E) H opt) : cx K Q ops (o :: rest) E H opt :=
 uT X hj hb hw fun r D a w J hs next I => U a w J hs _ _ fun w' s => I _ _ (by rw [hd]; exact h r D _ w' (J.put v hn) s)
theorem gj {d j dj : Nat} {u b : Bool} {v : Y → Value} {H' : Y → List HA} (U : RE K o E H v H') (X : o.guard = some (j, u)) (hj : ((ops[j]?).bind (·.dst)) = some dj) (hb : lk E dj = some (.bool b)) (hw : (b == u) = true) (hd : o.dst = some d) (hn : Nat.blt d K.n = true)
  (h : ∀ y, cx K Q ops rest ((d, v y) :: E) (H' y) opt) : cx K Q ops (o :: rest) E H opt :=
 uT X hj hb hw fun r D a w J hs next I => U a w J hs _ _ fun y w' s => I _ _ (by rw [hd]; exact h y r D _ w' (J.put _ hn) s)
def cv (g : Bool) (v : Value) : Value := bif g then v else undef
theorem ao {d j dj : Nat} {u b : Bool} {v : Value} (hr : (b == u) = true → RQ K o E H v) (J : o.guard = some (j, u)) (U : ((ops[j]?).bind (·.dst)) = some dj) (X : lk E dj = some (.bool b)) (hd : o.dst = some d) (hn : Nat.blt d K.n = true)
  (h : cx K Q ops rest ((d, cv (b == u) v) :: E) H opt) : cx K Q ops (o :: rest) E H opt := by
 cases hw : (b == u) with
 | true =>
  rw [hw] at h
  exact aK (hr hw) J U X hw hd hn h
 | false =>
  rw [hw] at h
  intro r D a w he hs
  refine wpListIn_step fun K' I => ?_
  rw [lX he J U X, hw]
  simp only [Bool.false_eq_true, if_false]
  refine ⟨fun f _ => iU _ _, I _ _ ?_⟩
  rw [hd]
  exact h r D _ w (he.put undef hn) hs
end

end Go.Proofs.YtndjkejhacfpdaaGreatDoor

namespace Go.Proofs.YtndjkejhacfpdaaGreatDoor
open Go.RowKit

section
variable {K : Cx} {R S Y : Type} {Q : eM R} {E : Env} {H : List HA} {opt : Option R} {ops : Array Oper} {rest : List Oper} {o : Oper}

theorem jK {v : Y → Value} {H' : Y → List HA} (I : ∀ c, o.op ≠ .defer c)
  (h : ∀ a w, Has K.n K.ds E a → Sat K.W H w → ∃ y u, (execOp a.eval o).run K.P w = .ok (.value (v y)) u ∧ Sat K.W (H' y) u) : RE K o E H v H' := by
 intro a w J U next Q D
 obtain ⟨y, u, X, s⟩ := h a w J U
 refine ⟨fun f _ => iU _ _, ?_⟩
 rw [Oper.semAt_eq _ _ _ I, X]
 exact D y u s
theorem sW {H' : Y → List HA} (I : ∀ c, o.op ≠ .defer c)
  (h : ∀ a w, Has K.n K.ds E a → Sat K.W H w → ∃ y u, (execOp a.eval o).run K.P w = .ok .skip u ∧ Sat K.W (H' y) u) : RE K o E H (fun _ => undef) H' := by
 intro a w J U next Q D
 obtain ⟨y, u, X, s⟩ := h a w J U
 refine ⟨fun f _ => iU _ _, ?_⟩
 rw [Oper.semAt_eq _ _ _ I, X]
 exact D y u s
theorem CM {v : Value} (I : ∀ c, o.op ≠ .defer c)
  (h : ∀ a w, Has K.n K.ds E a → Sat K.W H w → ∃ u, (execOp a.eval o).run K.P w = .ok (.value v) u ∧ Sat K.W H u) : RQ K o E H v := by
 intro a w J U next Q D
 obtain ⟨u, X, s⟩ := h a w J U
 refine ⟨fun f _ => iU _ _, ?_⟩
 rw [Oper.semAt_eq _ _ _ I, X]
 exact D u s
theorem dL {v : Value} (D : ∀ c, o.op ≠ .defer c) (h : ∀ a w, Has K.n K.ds E a → Sat K.W H w → (execOp a.eval o).run K.P w = .ok (.value v) w) : RQ K o E H v :=
 CM D fun a w I u => ⟨w, h a w I u, u⟩

/-! ### 1. Moves -/
theorem am {x : Operand} {v : Value} (u : o.op = .move x) (D : ev E x = some v) : RQ K o E H v :=
 dL (by rw [u]; intro c h; cases h) fun a w I _ => by unfold execOp; simp only [u]; rw [I.ev D]; rfl
theorem dx {x : Operand} {v : Value} (u : o.op = .assign x) (D : ev E x = some v) : RQ K o E H v :=
 dL (by rw [u]; intro c h; cases h) fun a w I _ => by unfold execOp; simp only [u]; rw [I.ev D]; rfl
theorem bZ {x y z : Operand} {b : Bool} {u v t : Value} (I : o.op = .pick x y z) (J : ev E x = some (.bool b)) (U : ev E y = some u) (X : ev E z = some v) (ht : (bif b then u else v) = t) : RQ K o E H t :=
 dL (by rw [I]; intro c h; cases h) fun a w D _ => by
  unfold execOp; simp only [I]; rw [D.ev J, D.ev U, D.ev X, ← ht]; cases b <;> rfl
theorem fN {x y : Operand} {b c : Bool} (u : o.op = .pick x y (.const (.bool false))) (D : ev E x = some (.bool b)) (I : ev E y = some (cv (b == true) (.bool c))) : RQ K o E H (.bool (b && c)) :=
 bZ u D I rfl (by cases b <;> rfl)
theorem ik {x y : Operand} {b c : Bool} (u : o.op = .pick x (.const (.bool true)) y) (D : ev E x = some (.bool b)) (I : ev E y = some (cv (b == false) (.bool c))) : RQ K o E H (.bool (b || c)) :=
 bZ u D rfl I (by cases b <;> rfl)
theorem bY {x : Operand} {i : Nat} {vs : Array Value} {v : Value} (u : o.op = .extract x i) (D : ev E x = some (.tuple vs)) (I : vs[i]? = some v) : RQ K o E H v :=
 dL (by rw [u]; intro c h; cases h) fun a w J _ => by
  unfold execOp; simp only [u]; rw [J.ev D]
  simp [Instr.extract, I]

/-! ### 2. Numbers -/
theorem jS {b : BinOp} {xt yt : TypeId} {x y : Operand} {u v t : Value} (D : o.op = .binOp b xt x y yt) (J : ev E x = some u) (U : ev E y = some v)
  (X : ∀ P w, (eqGuard b xt x y u v).run P w = .ok () w) (hr : ∀ P w, (binOp b xt u v).run P w = .ok t w) : RQ K o E H t :=
 dL (by rw [D]; intro c h; cases h) fun a w I _ => by
  unfold execOp; simp only [D]; rw [I.ev J, I.ev U]
  simp [X, hr]
theorem fJ {b : BinOp} {xt : TypeId} {x y : Operand} {k u : IntKind} {m n : Int} (P : Program) (w : World) : (eqGuard b xt x y (.int k m) (.int u n)).run P w = .ok () w := by
 unfold eqGuard; cases b <;> rfl
theorem wc {b : BinOp} {xt : TypeId} {x y : Operand} {m n : Bool} (P : Program) (w : World) : (eqGuard b xt x y (.bool m) (.bool n)).run P w = .ok () w := by
 unfold eqGuard; cases b <;> rfl
theorem oW {b : BinOp} {xt : TypeId} {x y : Operand} {m n : ByteArray} (P : Program) (w : World) : (eqGuard b xt x y (.string m) (.string n)).run P w = .ok () w := by
 unfold eqGuard; cases b <;> rfl
section ints
variable {xt yt : TypeId} {x y : Operand} {k : IntKind} {m n : Int}
theorem cn (u : o.op = .binOp .add xt x y yt) (D : ev E x = some (.int k m)) (I : ev E y = some (.int k n)) : RQ K o E H (.int k (k.wrap (m + n))) :=
 jS u D I fJ fun P w => by simp [binOp, Op.intArith]
theorem eL (u : o.op = .binOp .sub xt x y yt) (D : ev E x = some (.int k m)) (I : ev E y = some (.int k n)) : RQ K o E H (.int k (k.wrap (m - n))) :=
 jS u D I fJ fun P w => by simp [binOp, Op.intArith]
theorem A6 (u : o.op = .binOp .mul xt x y yt) (D : ev E x = some (.int k m)) (I : ev E y = some (.int k n)) : RQ K o E H (.int k (k.wrap (m * n))) :=
 jS u D I fJ fun P w => by simp [binOp, Op.intArith]
theorem C4 (u : o.op = .binOp .quo xt x y yt) (D : ev E x = some (.int k m)) (I : ev E y = some (.int k n)) (J : n ≠ 0) : RQ K o E H (.int k (k.wrap (m.tdiv n))) :=
 jS u D I fJ fun P w => by simp [binOp, Op.intDiv, J]
theorem dG (u : o.op = .binOp .lss xt x y yt) (D : ev E x = some (.int k m)) (I : ev E y = some (.int k n)) : RQ K o E H (.bool (decide (m < n))) :=
 jS u D I fJ fun P w => by simp [binOp, Op.intCmp]
theorem lv (u : o.op = .binOp .leq xt x y yt) (D : ev E x = some (.int k m)) (I : ev E y = some (.int k n)) : RQ K o E H (.bool (decide (m ≤ n))) :=
 jS u D I fJ fun P w => by simp [binOp, Op.intCmp]
theorem dO (u : o.op = .binOp .gtr xt x y yt) (D : ev E x = some (.int k m)) (I : ev E y = some (.int k n)) : RQ K o E H (.bool (decide (n < m))) :=
 jS u D I fJ fun P w => by simp [binOp, Op.intCmp]
theorem lw (u : o.op = .binOp .geq xt x y yt) (D : ev E x = some (.int k m)) (I : ev E y = some (.int k n)) : RQ K o E H (.bool (decide (n ≤ m))) :=
 jS u D I fJ fun P w => by simp [binOp, Op.intCmp]
theorem cr (u : o.op = .binOp .eql xt x y yt) (D : ev E x = some (.int k m)) (I : ev E y = some (.int k n)) : RQ K o E H (.bool (decide (m = n))) :=
 jS u D I fJ fun P w => by simp [binOp, Op.intCmp]; rfl
theorem ej (u : o.op = .binOp .neq xt x y yt) (D : ev E x = some (.int k m)) (I : ev E y = some (.int k n)) : RQ K o E H (.bool (!decide (m = n))) :=
 jS u D I fJ fun P w => by simp [binOp, Op.intCmp]; rfl
def df (b : BinOp) (k : IntKind) (m n : Int) : Int :=
 k.wrap (match b with
  | .and => (BitVec.ofInt k.bits m &&& BitVec.ofInt k.bits n).toNat
  | .or => (BitVec.ofInt k.bits m ||| BitVec.ofInt k.bits n).toNat
  | .xor => (BitVec.ofInt k.bits m ^^^ BitVec.ofInt k.bits n).toNat
  | _ => (BitVec.ofInt k.bits m &&& ~~~(BitVec.ofInt k.bits n)).toNat)
theorem vf (u : o.op = .binOp .and xt x y yt) (D : ev E x = some (.int k m)) (I : ev E y = some (.int k n)) : RQ K o E H (.int k (df .and k m n)) :=
 jS u D I fJ fun P w => by simp [binOp, Op.intBits, df]
theorem sq (u : o.op = .binOp .or xt x y yt) (D : ev E x = some (.int k m)) (I : ev E y = some (.int k n)) : RQ K o E H (.int k (df .or k m n)) :=
 jS u D I fJ fun P w => by simp [binOp, Op.intBits, df]
theorem zg (u : o.op = .binOp .xor xt x y yt) (D : ev E x = some (.int k m)) (I : ev E y = some (.int k n)) : RQ K o E H (.int k (df .xor k m n)) :=
 jS u D I fJ fun P w => by simp [binOp, Op.intBits, df]
theorem uz {u : IntKind} (D : o.op = .binOp .shl xt x y yt) (I : ev E x = some (.int k m)) (J : ev E y = some (.int u n)) (U : 0 ≤ n) : RQ K o E H (.int k (k.wrap (m * 2 ^ (min n.toNat k.bits)))) :=
 jS D I J fJ fun P w => by simp [binOp, Op.shift, Int.not_lt.2 U]
theorem qO {u : IntKind} (D : o.op = .binOp .shr xt x y yt) (I : ev E x = some (.int k m)) (J : ev E y = some (.int u n)) (U : 0 ≤ n) : RQ K o E H (.int k (m.fdiv (2 ^ (min n.toNat k.bits)))) :=
 jS D I J fJ fun P w => by simp [binOp, Op.shift, Int.not_lt.2 U]
theorem A8 {xt : TypeId} (u : o.op = .unOp .xor xt x) (D : ev E x = some (.int k m)) : RQ K o E H (.int k (df .xor k (if k.signed then -1 else k.max) m)) :=
 dL (by rw [u]; intro c h; cases h) fun a w I _ => by
  unfold execOp; simp only [u]; rw [I.ev D]
  simp [Op.unary, Op.intBits, df]
theorem iB {xt : TypeId} {b : Bool} (u : o.op = .unOp .not xt x) (D : ev E x = some (.bool b)) : RQ K o E H (.bool (!b)) :=
 dL (by rw [u]; intro c h; cases h) fun a w I _ => by
  unfold execOp; simp only [u]; rw [I.ev D]
  simp [Op.unary]
theorem jN {s d : TypeId} {D : IntKind} {u : TypeDesc} (I : o.op = .convert s d x) (J : ev E x = some (.int k m)) (U : K.P.underlying s = some u) (hd : K.P.underlying d = some (.int D)) : RQ K o E H (.int D (D.wrap m)) :=
 dL (by rw [I]; intro c h; cases h) fun a w X _ => by
  unfold execOp; simp only [I]; rw [X.ev J]
  simp [convert, underlying, program, Sem.run, U, hd, Conv.intToInt]
theorem wd {t : TypeId} {b c : Bool} (P : Program) (u : P.underlying t = some .bool) (w : World) : (Op.equal t (.bool b) (.bool c)).run P w = .ok (b == c) w := by
 rw [show Op.equal t (.bool b) (.bool c) = Op.equalIn (9999 + 1) t (.bool b) (.bool c) from rfl, Op.equalIn]
 simp [underlying, program, Sem.run, u]
theorem Bc {b c : Bool} (u : o.op = .binOp .neq xt x y yt) (I : ev E x = some (.bool b)) (J : ev E y = some (.bool c)) (U : K.P.underlying xt = some .bool) : RQ K o E H (.bool (!(b == c))) :=
 dL (by rw [u]; intro c h; cases h) fun a w D _ => by
  unfold execOp; simp only [u]; rw [D.ev I, D.ev J]
  simp [wc, binOp, wd K.P U]
end ints
/-! ### 3. Strings: as lists of bytes -/
def str (l : List UInt8) : Value := .string ⟨l.toArray⟩
section strs
variable {xt yt : TypeId} {x y : Operand} {l m : List UInt8}
theorem yb (u : o.op = .binOp .eql xt x y yt) (D : ev E x = some (str l)) (I : ev E y = some (str m)) : RQ K o E H (.bool (decide (l = m))) :=
 jS u D I oW fun P w => by simp [binOp, Op.stringOp, str]; rw [Bool.eq_iff_iff]; simp
theorem C2 (u : o.op = .binOp .neq xt x y yt) (D : ev E x = some (str l)) (I : ev E y = some (str m)) : RQ K o E H (.bool (!decide (l = m))) :=
 jS u D I oW fun P w => by simp [binOp, Op.stringOp, str]; rw [Bool.eq_iff_iff]; simp
end strs
end
end Go.Proofs.YtndjkejhacfpdaaGreatDoor

namespace Go.Proofs.YtndjkejhacfpdaaGreatDoor
open Go.RowKit

/-! ### 1. Cells -/
def jA : List Value → Nat → List Value → List Value
 | l, _, [] => l
 | l, k, v :: vs => jA (l.set k v) (k + 1) vs
theorem mU (vs : List Value) : ∀ (l : List Value) (k : Nat), (jA l k vs).length = l.length := by
 induction vs with
 | nil => intro l k; rfl
 | cons v vs ih => intro l k; simp only [jA]; rw [ih]; simp
theorem ly (vs : List Value) : ∀ (l : List Value) (k : Nat), k + vs.length ≤ l.length → jA l k vs = l.take k ++ vs ++ l.drop (k + vs.length) := by
 induction vs with
 | nil => intro l k h; simp [jA]
 | cons v vs ih =>
  intro l k h
  simp only [List.length_cons] at h
  simp only [jA]
  rw [ih _ _ (by simp; omega)]
  have u : (l.set k v).take (k + 1) = l.take k ++ [v] := by
   rw [List.take_succ_eq_append_getElem (by simp; omega), List.take_set_of_le (Nat.le_refl k)]
   simp
  have D : (l.set k v).drop (k + 1 + vs.length) = l.drop (k + (v :: vs).length) := by
   rw [List.drop_set_of_lt (by omega)]
   simp [Nat.add_comm, Nat.add_left_comm]
  rw [u, D]
  simp
def obj (b : Nat) (T : TypeId) (l : List Value) : HA := pts b (.cells l.toArray T (0, 0))
def one (vs : List Value) : Prop := ∀ v ∈ vs, v.oneCell' = true
theorem BN {w : World} {b : Nat} {l : List Value} {T : TypeId} {fz : Nat × Nat} (h : w.heap[b]? = some (.cells l.toArray T fz)) (off : Nat) : w.cell? ⟨b, off, none⟩ = l[off]? := by
 simp [World.cell?, h]
theorem yy {w : World} {b : Nat} {l : List Value} {T : TypeId} {fz : Nat × Nat} (h : w.heap[b]? = some (.cells l.toArray T fz)) (off : Nat) (v : Value) :
  w.setCell ⟨b, off, none⟩ v = { w with heap := w.heap.setIfInBounds b (.cells (l.set off v).toArray T fz) } := by
 unfold World.setCell
 rw [mN _ _ _ _ h]
 simp
theorem ox {P : Program} {b : Nat} {T : TypeId} {fz : Nat × Nat} (off : Nat) : ∀ (vs : List Value) (i : Nat) (l : List Value) (w : World), w.heap[b]? = some (.cells l.toArray T fz) →
  off + i + vs.length ≤ l.length → (∀ j, off ≤ j → j < l.length → j < off + i + vs.length → ¬ (fz.1 ≤ j ∧ j < fz.2)) → one vs →
  (storeCells ⟨b, off, none⟩ vs i).run P w = .ok () { w with heap := w.heap.setIfInBounds b (.cells (jA l (off + i) vs).toArray T fz) }
 | [], i, l, w, h, _, _, _ => by
  have : w.heap.setIfInBounds b (.cells l.toArray T fz) = w.heap := by
   apply Array.ext_getElem?
   intro j
   rw [Array.getElem?_setIfInBounds]
   by_cases e : b = j
   ·subst e; rw [if_pos rfl, h]; have := (Array.getElem?_eq_some_iff.1 h).1; simp [this]
   ·rw [if_neg e]
  simp [storeCells, jA, this]
 | v :: vs, i, l, w, h, hl, hf, h1 => by
  simp only [List.length_cons] at hl hf
  have J : w.cell? ⟨b, off + i, none⟩ = some (l[off + i]'(by omega)) := by rw [BN h]; simp
  have I : w.frozen? ⟨b, off + i, none⟩ = false := by
   have := hf (off + i) (by omega) (by omega) (by omega)
   simp only [World.frozen?, h]
   rw [Bool.eq_false_iff]
   intro x
   simp at x
   omega
  have U : v.oneCell' = true := h1 v (by simp)
  have D : (⟨b, off, none⟩ : Addr).add i = ⟨b, off + i, none⟩ := by unfold Addr.add; split <;> simp_all
  have X : (store ((⟨b, off, none⟩ : Addr).add i) v).run P w = .ok () { w with heap := w.heap.setIfInBounds b (.cells (l.set (off + i) v).toArray T fz) } := by
   rw [D, ← yy h]
   unfold store
   cases v <;> first | (simp only [Sem.run, J, I]; rfl) | (simp [Value.oneCell'] at U)
  simp only [storeCells, Sem.run_bind, X, Result.andThen_ok]
  have hb : b < w.heap.size := (Array.getElem?_eq_some_iff.1 h).1
  have ih := ox (P := P) (T := T) (fz := fz) (b := b) off vs (i + 1) (l.set (off + i) v) { w with heap := w.heap.setIfInBounds b (.cells (l.set (off + i) v).toArray T fz) }
   (by rw [Array.getElem?_setIfInBounds]; simp [hb]) (by simp; omega) (fun j a b c => hf j a (by simpa using b) (by omega)) (fun u hu => h1 u (by simp [hu]))
  rw [ih]
  simp [jA, Nat.add_assoc]
theorem ni {P : Program} {w : World} {b off : Nat} {vs : List Value} (h : ∀ j v, vs[j]? = some v → w.cell? ⟨b, off + j, none⟩ = some v) : (loadCells ⟨b, off, none⟩ vs.length).run P w = .ok vs.toArray w := by
 refine run_loadCells_list (P := P) w _ vs fun j v D => ?_
 have u : (⟨b, off, none⟩ : Addr).add j = ⟨b, off + j, none⟩ := by unfold Addr.add; split <;> simp_all
 rw [u]; exact h j v D

def gu (H : List HA) (b off : Nat) (v : Value) : Prop := ∀ h, bl H h → ∃ l T fz, h b = some (.cells l T fz) ∧ l[off]? = some v
theorem gu.sat {H : List HA} {b off : Nat} {v : Value} (c : gu H b off v) {W w : World} (s : Sat W H w) : w.cell? ⟨b, off, none⟩ = some v := by
 obtain ⟨l, T, fz, h1, u⟩ := c _ s.hp
 simp only [hpw] at h1
 simp [World.cell?, h1, u]
theorem gu.of {H : List HA} {A : HA} {b off : Nat} {v : Value} (k : Nat) (u : H[k]? = some A) (D : ∀ a, A a → ∃ l T fz, a b = some (.cells l T fz) ∧ l[off]? = some v) : gu H b off v := by
 intro h s
 obtain ⟨a, I, x⟩ := mA H k A u h s
 obtain ⟨l, T, fz, h1, J⟩ := D a I
 exact ⟨l, T, fz, x _ _ h1, J⟩
theorem gu.obj {H : List HA} {b off : Nat} {v : Value} {T : TypeId} {l : List Value} (k : Nat) (u : H[k]? = some (obj b T l)) (D : l[off]? = some v) : gu H b off v :=
 .of k u fun a I => ⟨l.toArray, T, (0, 0), I, by simpa using D⟩

section
variable {K : Cx} {R S Y : Type} {Q : eM R} {E : Env} {H : List HA} {opt : Option R} {ops : Array Oper} {rest : List Oper} {o : Oper}
/-! ### 2. Variables -/
theorem cH {x : Operand} {v : Value} {t : TypeId} {cs : List Value} (u : o.op = .box t x) (D : ev E x = some v) (I : v.cells = cs.toArray) :
  RE K (Y := Nat) o E H (fun b => .pointer (some ⟨b, 0, none⟩)) (fun b => obj b t cs :: H) :=
 jK (by rw [u]; intro c h; cases h) fun a w J U => by
  refine ⟨w.heap.size, { w with heap := w.heap.push (.cells cs.toArray t (0, 0)) }, ?_, U.new _⟩
  unfold execOp; simp only [u]; rw [J.ev D]
  simp [Instr.box, newVar, newRow, newObj, Sem.run, I]
theorem bX {t : TypeId} {z : Value} {cs : List Value} (u : o.op = .alloc t) (D : ∀ w, (zeroValue t).run K.P w = .ok z w) (I : z.cells = cs.toArray) :
  RE K (Y := Nat) o E H (fun b => .pointer (some ⟨b, 0, none⟩)) (fun b => obj b t cs :: H) :=
 jK (by rw [u]; intro c h; cases h) fun a w U J => by
  refine ⟨w.heap.size, { w with heap := w.heap.push (.cells cs.toArray t (0, 0)) }, ?_, J.new _⟩
  unfold execOp; simp only [u]
  simp [Instr.alloc, D, newVar, newRow, newObj, Sem.run, I]
theorem dR {x : Operand} {t : TypeId} {b off : Nat} {v : Value} (u : o.op = .load t x) (D : ev E x = some (.pointer (some ⟨b, off, none⟩))) (I : ∀ w, (isAgg t).run K.P w = .ok false w)
  (J : gu H b off v) : RQ K o E H v :=
 dL (by rw [u]; intro c h; cases h) fun a w U X => by
  unfold execOp; simp only [u]; rw [U.ev D]
  simp [Instr.loadAt, Instr.sureAddr, loadVar, I, J.sat X]
theorem cw {x : Operand} {t : TypeId} {b off n : Nat} {vs : List Value} (u : o.op = .load t x) (D : ev E x = some (.pointer (some ⟨b, off, none⟩))) (I : ∀ w, (isAgg t).run K.P w = .ok true w)
  (J : ∀ w, (sizeOf t).run K.P w = .ok n w) (U : vs.length = n) (X : ∀ j v, vs[j]? = some v → gu H b (off + j) v) : RQ K o E H (.agg vs.toArray) :=
 dL (by rw [u]; intro c h; cases h) fun a w he s => by
  unfold execOp; simp only [u]; rw [he.ev D]
  simp [Instr.loadAt, Instr.sureAddr, loadVar, I, J, ← U, ni (P := K.P) fun j v hj => (X j v hj).sat s]
theorem dc {b off : Nat} {T : TypeId} {l vs : List Value} (k : Nat) (u : H[k]? = some (obj b T l)) (D : ∀ j v, vs[j]? = some v → l[off + j]? = some v) : ∀ j v, vs[j]? = some v → gu H b (off + j) v :=
 fun j v h => .obj k u (D j v h)
theorem cF {x : Operand} {t T : TypeId} {b n : Nat} {vs : List Value} (k : Nat) (u : o.op = .load t x) (D : ev E x = some (.pointer (some ⟨b, 0, none⟩))) (I : ∀ w, (isAgg t).run K.P w = .ok true w)
  (J : ∀ w, (sizeOf t).run K.P w = .ok n w) (U : H[k]? = some (obj b T vs)) (X : vs.length = n) : RQ K o E H (.agg vs.toArray) :=
 cw u D I J X (by intro j v h; rw [Nat.zero_add]; exact .obj k U h)
theorem aI {x y : Operand} {t T : TypeId} {b off n : Nat} {v : Value} {vs l : List Value} (k : Nat) (I : o.op = .store t x y) (hx : ev E x = some (.pointer (some ⟨b, off, none⟩))) (hy : ev E y = some v)
  (hs : ∀ w, (sizeOf t).run K.P w = .ok n w) (hv : v.cells = vs.toArray) (hn : vs.length = n) (h1 : one vs) (J : H[k]? = some (obj b T l)) (u : Nat.ble (off + n) l.length = true) :
  RE K (Y := Unit) o E H (fun _ => undef) (fun _ => H.set k (obj b T (jA l off vs))) :=
 sW (by rw [I]; intro c h; cases h) fun a w U s => by
  have u : off + n ≤ l.length := by simpa [Nat.ble_eq] using u
  have D : k < H.length := (List.getElem?_eq_some_iff.1 J).1
  have X : Sat K.W (obj b T l :: H.eraseIdx k) w := s.ent (fun h x => by rw [iQ H k _ J] at x; exact x)
  have hb : w.heap[b]? = some (.cells l.toArray T (0, 0)) := X.pts_at (i := 0) rfl
  refine ⟨(), _, ?_, (X.upd (o' := .cells (jA l off vs).toArray T (0, 0))).ent (fun h x => by rw [← jX H k _ D]; exact x)⟩
  unfold execOp; simp only [I]; rw [U.ev hx, U.ev hy]
  have := ox (P := K.P) off vs 0 l w hb (by omega) (fun j _ _ _ x => absurd x.2 (Nat.not_lt_zero _)) h1
  simp [Instr.storeAt, Instr.sureAddr, storeVar, hs, hv, hn, this]
theorem bi {x : Operand} {u : Addr} (D : o.op = .nilCheck x) (I : ev E x = some (.pointer (some u))) : RQ K o E H (.pointer (some u)) :=
 dL (by rw [D]; intro c h; cases h) fun a w J U => by
  unfold execOp; simp only [D]; rw [J.ev I]; rfl
theorem Dm {x : Operand} {t : TypeId} {i b off d : Nat} {fs : Array Field} {f : Field} {n : Nat} (I : o.op = .fieldAddr t x i) (J : ev E x = some (.pointer (some ⟨b, off, none⟩))) (U : K.P.underlying t = some (.struct fs)) (X : fs[i]? = some f) (hd : f.offset = d)
  (hs : ∀ w, (sizeOf f.type).run K.P w = .ok n w) (hn : (n == 0) = false) : RQ K o E H (.pointer (some ⟨b, off + d, none⟩)) :=
 dL (by rw [I]; intro c h; cases h) fun a w he _ => by
  unfold execOp; simp only [I]; rw [he.ev J]
  have D : n ≠ 0 := by simpa using hn
  have u : (⟨b, off, none⟩ : Addr).add d = ⟨b, off + d, none⟩ := by unfold Addr.add; split <;> simp_all
  simp [Instr.fieldAt, underlying, program, Sem.run, U, X, Instr.sureAddr, fieldPlace, hs, D, hd, u]
def evP : List (Nat × Operand) → Env → Option (List (Nat × Value))
 | [], _ => some []
 | (i, x) :: l, E => match ev E x, evP l E with
  | some v, some vs => some ((i, v) :: vs)
  | _, _ => none
theorem te {n : Nat} {ds : List Deferred} {a : Act} (D : Has n ds E a) : ∀ (l : List (Nat × Operand)) (vs : List (Nat × Value)), evP l E = some vs → l.map (fun p => (p.1, a.eval p.2)) = vs
 | [], vs, h => by simp [evP] at h; subst h; rfl
 | (i, x) :: l, vs, h => by
  simp only [evP] at h
  split at h
  ·rename_i v u h1 I
   cases h
   simp [te D l u I, D.ev h1]
  ·cases h
theorem cW {t : TypeId} {l : List (Nat × Operand)} {vs : List (Nat × Value)} {v : Value} (u : o.op = .build t l.toArray) (D : evP l E = some vs) (I : ∀ w, (Instr.build t vs.toArray).run K.P w = .ok v w) : RQ K o E H v :=
 dL (by rw [u]; intro c h; cases h) fun a w J _ => by
  unfold execOp; simp only [u]
  have : (l.toArray.map fun (i, x) => (i, a.eval x)) = vs.toArray := by
   rw [← te J l vs D]; simp
  rw [this]
  simp [I]

/-! ### 3. Calls -/
def evs : List Operand → Env → Option (List Value)
 | [], _ => some []
 | x :: l, E => match ev E x, evs l E with
  | some v, some vs => some (v :: vs)
  | _, _ => none
theorem ls {n : Nat} {ds : List Deferred} {a : Act} (D : Has n ds E a) : ∀ (l : List Operand) (vs : List Value), evs l E = some vs → l.map a.eval = vs
 | [], vs, h => by simp [evs] at h; subst h; rfl
 | x :: l, vs, h => by
  simp only [evs] at h
  split at h
  ·rename_i v u h1 I
   cases h
   simp [ls D l u I, D.ev h1]
  ·cases h
theorem kQ {c : Call} {x : Operand} {xs : List Operand} {vs I cap : List Value} {f : FuncId} {A : List HA} {rst : List HA} {S Y : Type} {o1 : Option S} {val : S → Y → Value} {B : S → Y → List HA} {s : S}
  (ho : o.op = .call c) (u : c.callee = .value x) (J : c.args = xs.toArray) (hx : ev E x = some (.func (.func f) #[] cap.toArray)) (U : evs xs E = some vs) (X : vs ++ cap = I)
  (hf : ∀ args w, (callFunc f args).run K.P w = .ok (.enter f args) w) (hH : Ent H (A ++ rst))
  (h : Fn K.P K.W f I A (bl rst) o1 val B) (hs : o1 = some s) : RE K o E H (val s) (fun y => B s y ++ rst) := by
 intro a w he D next Q ab
 refine ⟨fun f _ => iU _ _, ?_⟩
 rw [Oper.semAt_eq _ _ _ (by rw [ho]; intro c h; cases h)]
 have hr : (execOp a.eval o).run K.P w = .ok (.enter f I.toArray) w := by
  unfold execOp; simp only [ho]
  have : c.args.map a.eval = vs.toArray := by rw [J, ← ls he xs vs U]; simp
  simp [resolve, u, this, he.ev hx, Deferred.ofValue, invoke, hf, ← X]
 rw [hr]
 refine ⟨ng _, ?_⟩
 have := h s hs w (D.ent (hH.trans (Ent.fold A rst)))
 have hw : CallsIn (fen K.ro) (0 - 1) K.P f I.toArray w (fun e w' => ∃ y, e = Ending.returned (val s y) ∧ Sat K.W (B s y ++ [bl rst]) w') := by
  cases hro : K.ro with
  | none => exact callsIn_wide.2 this
  | some l => exact CallsIn.inRound l (callsIn_wide.2 this)
 refine hw.mono ?_
 rintro e w' ⟨y, rfl, s2⟩
 exact ab y w' (s2.ent (Ent.unfold _ _))
end
end Go.Proofs.YtndjkejhacfpdaaGreatDoor

namespace Go.Proofs.YtndjkejhacfpdaaGreatDoor
open Go.RowKit

/-! ### 1. Rows -/
structure sc (sz off n c : Nat) (pre cs junk : List Value) (fz : Nat × Nat) : Prop where
 offs : pre.length = off
 le : n ≤ c
 cap : c ≤ maxLen
 room : c * sz ≤ cs.length + junk.length
 len : n * sz ≤ cs.length
 top : cs.length ≤ c * sz
 fzok : fz.1 = fz.2 ∨ off + c * sz ≤ fz.1
theorem sc.free {sz off n c : Nat} {pre cs junk : List Value} {fz : Nat × Nat} (ok : sc sz off n c pre cs junk fz) : ∀ j, off ≤ j → j < off + c * sz → ¬ (fz.1 ≤ j ∧ j < fz.2) := fun j _ h x => by
 rcases ok.fzok with h' | h' <;> omega
def Row (T : TypeId) (sz : Nat) (a : Option Addr) (n c : Nat) (cs : List Value) : HA := fun h =>
 (a = none ∧ n = 0 ∧ c = 0 ∧ cs = []) ∨
 ∃ b off pre junk fz, a = some ⟨b, off, none⟩ ∧ sc sz off n c pre cs junk fz ∧ h b = some (.cells (pre ++ cs ++ junk).toArray T fz)
theorem Sat.row_cases {W w : World} {l : List HA} {T : TypeId} {sz n c : Nat} {a : Option Addr} {cs : List Value} (s : Sat W (Row T sz a n c cs :: l) w) :
  (a = none ∧ n = 0 ∧ c = 0 ∧ cs = []) ∨ ∃ b off pre junk fz, a = some ⟨b, off, none⟩ ∧ sc sz off n c pre cs junk fz ∧ Sat W (pts b (.cells (pre ++ cs ++ junk).toArray T fz) :: l) w := by
 obtain ⟨x, y, d, e, h, r⟩ := s.hp
 rcases h with h | ⟨b, off, pre, junk, fz, u, ok, D⟩
 ·exact .inl h
 ·exact .inr ⟨b, off, pre, junk, fz, u, ok, s.os, s.tape, s.output, s.size, x, y, d, e, D, r⟩
theorem Row.mk {T : TypeId} {sz n c b off : Nat} {pre cs junk : List Value} {fz : Nat × Nat} (ok : sc sz off n c pre cs junk fz) : ∀ h, pts b (.cells (pre ++ cs ++ junk).toArray T fz) h → Row T sz (some ⟨b, off, none⟩) n c cs h :=
 fun _ x => .inr ⟨b, off, pre, junk, fz, rfl, ok, x⟩
theorem Row.nil (T : TypeId) (sz : Nat) (h : Hp) : Row T sz none 0 0 [] h := .inl ⟨rfl, rfl, rfl, rfl⟩
theorem Ent.row_nil {l m : List HA} {T : TypeId} {sz : Nat} (r : Ent l m) : Ent l (Row T sz none 0 0 [] :: m) := fun h s =>
 ⟨fun _ => none, h, fun _ => .inl rfl, (by funext i; simp [un]), Row.nil T sz _, r h s⟩
theorem Sat.focus {W w : World} {H : List HA} {A : HA} {k : Nat} (u : H[k]? = some A) (s : Sat W H w) : Sat W (A :: H.eraseIdx k) w := s.ent fun h x => by rw [iQ H k _ u] at x; exact x
theorem Sat.unfocus {W w : World} {H : List HA} {A B : HA} {k : Nat} (u : H[k]? = some A) (s : Sat W (B :: H.eraseIdx k) w) : Sat W (H.set k B) w :=
 s.ent fun h x => by rw [← jX H k _ (List.getElem?_eq_some_iff.1 u).1]; exact x
theorem mi {pre cs junk : List Value} {j : Nat} {v : Value} (h : cs[j]? = some v) : (pre ++ cs ++ junk)[pre.length + j]? = some v := by
 have u : j < cs.length := (List.getElem?_eq_some_iff.1 h).1
 rw [List.append_assoc, List.getElem?_append_right (by omega), List.getElem?_append_left (by omega)]
 simpa using h
theorem gu.row {H : List HA} {T : TypeId} {sz n c b off j : Nat} {cs : List Value} {v : Value} (k : Nat) (D : H[k]? = some (Row T sz (some ⟨b, off, none⟩) n c cs)) (I : cs[j]? = some v) : gu H b (off + j) v :=
 .of k D fun a J => by
  rcases J with ⟨h, _⟩ | ⟨X, u, pre, junk, fz, e, ok, U⟩
  ·cases h
  ·cases e
   refine ⟨_, T, fz, U, ?_⟩
   have := mi (pre := pre) (junk := junk) I
   rw [ok.offs] at this
   simpa using this
def Rds (H : List HA) (a : Option Addr) (cs : List Value) : Prop := ∀ h, bl H h → cs = [] ∨ ∃ b off, a = some ⟨b, off, none⟩ ∧ ∃ l T fz, h b = some (.cells l T fz) ∧ ∀ j v, cs[j]? = some v → l[off + j]? = some v
def Rd (F : HA) (a : Option Addr) (cs : List Value) : Prop := cs = [] ∨ ∃ b off, a = some ⟨b, off, none⟩ ∧ ∀ h, F h → ∃ l T fz, h b = some (.cells l T fz) ∧ ∀ j v, cs[j]? = some v → l[off + j]? = some v
theorem Rds.of {H : List HA} {A : HA} {a : Option Addr} {cs : List Value} (k : Nat) (u : H[k]? = some A) (D : ∀ x, A x → cs = [] ∨ ∃ b off, a = some ⟨b, off, none⟩ ∧ ∃ l T fz, x b = some (.cells l T fz) ∧ ∀ j v, cs[j]? = some v → l[off + j]? = some v) : Rds H a cs := by
 intro h s
 obtain ⟨x, I, J⟩ := mA H k A u h s
 rcases D x I with e | ⟨b, off, U, l, T, fz, h1, X⟩
 ·exact .inl e
 ·exact .inr ⟨b, off, U, l, T, fz, J _ _ h1, X⟩
theorem Rd.rds {F : HA} {a : Option Addr} {cs : List Value} (h : Rd F a cs) {H : List HA} (k : Nat) (u : H[k]? = some F) : Rds H a cs :=
 .of k u fun x D => by
  rcases h with h | ⟨b, off, I, J⟩
  ·exact .inl h
  ·obtain ⟨l, T, fz, h1, U⟩ := J x D
   exact .inr ⟨b, off, I, l, T, fz, h1, U⟩
theorem Rds.row {H : List HA} {T : TypeId} {sz n c : Nat} {a : Option Addr} {cs : List Value} (k : Nat) (u : H[k]? = some (Row T sz a n c cs)) : Rds H a cs :=
 .of k u fun x D => by
  rcases D with ⟨_, _, _, h⟩ | ⟨b, off, pre, junk, fz, e, ok, I⟩
  ·exact .inl h
  ·refine .inr ⟨b, off, e, _, T, fz, I, fun j v J => ?_⟩
   have := mi (pre := pre) (junk := junk) J
   rw [ok.offs] at this
   simpa using this
theorem Rds.nil (H : List HA) (a : Option Addr) : Rds H a [] := fun _ _ => .inl rfl
theorem Rds.cells {H : List HA} {a : Option Addr} {cs : List Value} (h : Rds H a cs) {W w : World} (s : Sat W H w) : cs = [] ∨ ∃ b off, a = some ⟨b, off, none⟩ ∧ ∀ j v, cs[j]? = some v → w.cell? ⟨b, off + j, none⟩ = some v := by
 rcases h _ s.hp with h | ⟨b, off, u, l, T, fz, h1, D⟩
 ·exact .inl h
 ·refine .inr ⟨b, off, u, fun j v I => ?_⟩
  simp only [hpw] at h1
  simp [World.cell?, h1, D j v I]
theorem Rd.lend {F : HA} {a : Option Addr} {cs : List Value} (h : Rd F a cs) {l : List HA} (k : Nat) (u : l[k]? = some F) : Rd (bl l) a cs := by
 rcases h with h | ⟨b, off, D, I⟩
 ·exact .inl h
 ·refine .inr ⟨b, off, D, fun x J => ?_⟩
  obtain ⟨y, U, X⟩ := mA l k F u x J
  obtain ⟨l', T, fz, h1, h2⟩ := I y U
  exact ⟨l', T, fz, X _ _ h1, h2⟩
theorem Rd.take {F : HA} {a : Option Addr} {cs : List Value} (h : Rd F a cs) (n : Nat) : Rd F a (cs.take n) := by
 rcases h with h | ⟨b, off, D, I⟩
 ·left; simp [h]
 ·refine .inr ⟨b, off, D, fun x J => ?_⟩
  obtain ⟨l, T, fz, h1, U⟩ := I x J
  refine ⟨l, T, fz, h1, fun j v u => U j v ?_⟩
  rw [List.getElem?_take] at u
  split at u
  ·exact u
  ·cases u
theorem Rd.drop {F : HA} {a : Option Addr} {cs : List Value} (h : Rd F a cs) (n : Nat) : Rd F (a.map (·.add n)) (cs.drop n) := by
 rcases h with h | ⟨b, off, D, I⟩
 ·left; simp [h]
 ·refine .inr ⟨b, off + n, ?_, fun x J => ?_⟩
  ·rw [D]; simp only [Option.map_some, Option.some.injEq]; unfold Addr.add; split <;> simp_all
  ·obtain ⟨l, T, fz, h1, U⟩ := I x J
   refine ⟨l, T, fz, h1, fun j v u => ?_⟩
   rw [List.getElem?_drop] at u
   rw [Nat.add_assoc]
   exact U _ v u
theorem Rd.nil (F : HA) (a : Option Addr) : Rd F a [] := .inl rfl

section
variable {K : Cx} {R S Y : Type} {Q : eM R} {E : Env} {H : List HA} {opt : Option R} {ops : Array Oper} {rest : List Oper} {o : Oper}
theorem uL {T : TypeId} {sz n c : Nat} {a : Option Addr} {cs : List Value} (k : Nat) (D : H[k]? = some (Row T sz a n c cs)) (I : cs ≠ []) (h : ∀ b off, a = some ⟨b, off, none⟩ → cx K Q ops rest E H opt) : cx K Q ops rest E H opt := by
 intro r J U w X u
 rcases (u.focus D).row_cases with ⟨_, _, _, h0⟩ | ⟨b, off, pre, junk, fz, ha, _⟩
 ·exact absurd h0 I
 ·exact h b off ha r J U w X u
theorem bw {T : TypeId} {sz n c : Nat} {a : Option Addr} {cs : List Value} (k : Nat) (hk : H[k]? = some (Row T sz a n c cs)) (h : Rd (Row T sz a n c cs) a cs → n ≤ c → c ≤ maxLen → n * sz ≤ cs.length → cx K Q ops rest E H opt) : cx K Q ops rest E H opt := by
 intro r X a' w he I
 rcases (I.focus hk).row_cases with ⟨h1, h2, h3, h0⟩ | ⟨b, off, pre, junk, fz, ha, ok, _⟩
 ·subst h2; subst h3
  exact h (.inl h0) (Nat.le_refl _) (Nat.zero_le _) (by simp) r X a' w he I
 ·subst ha
  refine h (.inr ⟨b, off, rfl, fun x hx => ?_⟩) ok.le ok.cap ok.len r X a' w he I
  rcases hx with ⟨h, _⟩ | ⟨b', af, D, u, J, e, U, hb⟩
  ·cases h
  ·cases e
   refine ⟨_, T, J, hb, fun j v hj => ?_⟩
   have := mi (pre := D) (junk := u) hj
   rw [U.offs] at this
   simpa using this

/-! ### 2. Lengths, elements, cuts -/
theorem qI {b : Builtin} {xs : List Operand} {vs : List Value} {ts : Array TypeId} {v : Value} (u : o.op = .call { callee := .builtin b, args := xs.toArray, argTypes := ts }) (D : evs xs E = some vs)
  (I : ∀ cs w, (builtin b ts o.type cs vs.toArray).run K.P w = .ok (.value v) w) : RQ K o E H v :=
 dL (by rw [u]; intro c h; cases h) fun a w J _ => by
  unfold execOp; simp only [u]
  have : xs.toArray.map a.eval = vs.toArray := by rw [← ls J xs vs D]; simp
  simp only [resolve, this, Sem.run_bind, Sem.run_pure, Result.andThen_ok, invoke]
  exact I _ w
theorem bL {x : Operand} {t e : TypeId} {ts : Array TypeId} {a : Option Addr} {n c : Nat} (u : o.op = .call { callee := .builtin .len, args := #[x], argTypes := ts }) (D : ev E x = some (.slice a n c)) (I : ts[0]? = some t) (J : K.P.underlying t = some (.slice e)) : RQ K o E H (.int .i64 (n : Int)) :=
 qI (xs := [x]) (vs := [.slice a n c]) u (by simp [evs, D]) fun cs w => by simp [builtin, Builtin.len_, I, underlying, program, Sem.run, J, goInt]
theorem qe {x : Operand} {t : TypeId} {ts : Array TypeId} {l : List UInt8} (D : o.op = .call { callee := .builtin .len, args := #[x], argTypes := ts }) (I : ev E x = some (str l)) (J : ts[0]? = some t) (U : K.P.underlying t = some .string) : RQ K o E H (.int .i64 (l.length : Int)) :=
 qI (xs := [x]) (vs := [str l]) D (by simp [evs, I]) fun cs w => by
  have u : (ByteArray.mk l.toArray).size = l.length := by show l.toArray.size = _; simp
  simp [builtin, Builtin.len_, J, underlying, program, Sem.run, U, goInt, str, u]
theorem qJ {x y : Operand} {ts : Array TypeId} {k u : IntKind} {m n : Int} (D : o.op = .call { callee := .builtin .max, args := #[x, y], argTypes := ts }) (I : ev E x = some (.int k m)) (J : ev E y = some (.int u n)) : RQ K o E H (.int k (max m n)) :=
 qI (xs := [x, y]) (vs := [.int k m, .int u n]) D (by simp [evs, I, J]) fun cs w => by
  have : (if n > m then n else m) = max m n := by split <;> omega
  simp [builtin, Builtin.max_, Builtin.max2]; omega
theorem lK {x y : Operand} {ts : Array TypeId} {k u : IntKind} {m n : Int} (D : o.op = .call { callee := .builtin .min, args := #[x, y], argTypes := ts }) (I : ev E x = some (.int k m)) (J : ev E y = some (.int u n)) : RQ K o E H (.int k (min m n)) :=
 qI (xs := [x, y]) (vs := [.int k m, .int u n]) D (by simp [evs, I, J]) fun cs w => by
  simp [builtin, Builtin.min_, Builtin.min2]; omega
theorem dM {x y : Operand} {t e : TypeId} {a : Option Addr} {n c b off sz : Nat} {k : IntKind} {i : Int} (D : o.op = .indexAddr t x y) (J : ev E x = some (.slice a n c)) (U : ev E y = some (.int k i)) (X : a = some ⟨b, off, none⟩)
  (hu : K.P.underlying t = some (.slice e)) (hs : ∀ w, (sizeOf e).run K.P w = .ok sz w) (h0 : 0 ≤ i) (h1 : i < n) : RQ K o E H (.pointer (some ⟨b, off + i.toNat * sz, none⟩)) :=
 dL (by rw [D]; intro c h; cases h) fun a' w I _ => by
  unfold execOp; simp only [D]; rw [I.ev J, I.ev U, X]
  have u : (⟨b, off, none⟩ : Addr).add (i.toNat * sz) = ⟨b, off + i.toNat * sz, none⟩ := by unfold Addr.add; split <;> simp_all
  simp [Instr.indexAt, asIntOf, underlying, program, Sem.run, hu, hs, h0, h1, u]
theorem mj {x y : Operand} {t e : TypeId} {a : Option Addr} {n c b off : Nat} {k : IntKind} {i : Int} (u : o.op = .indexAddr t x y) (D : ev E x = some (.slice a n c)) (I : ev E y = some (.int k i)) (J : a = some ⟨b, off, none⟩)
  (U : K.P.underlying t = some (.slice e)) (X : ∀ w, (sizeOf e).run K.P w = .ok 1 w) (h0 : 0 ≤ i) (h1 : i < n) : RQ K o E H (.pointer (some ⟨b, off + i.toNat, none⟩)) := by
 have := dM (K := K) (H := H) (sz := 1) u D I J U X h0 h1
 rwa [Nat.mul_one] at this
theorem Cn {x y : Operand} {t : TypeId} {l : List UInt8} {k : IntKind} {i : Int} (u : o.op = .index t x y) (I : ev E x = some (str l)) (J : ev E y = some (.int k i))
  (U : K.P.underlying t = some .string) (X : 0 ≤ i) (h1 : i < l.length) : RQ K o E H (.int .u8 ((l.getD i.toNat 0).toNat : Int)) :=
 dL (by rw [u]; intro c h; cases h) fun a' w D _ => by
  unfold execOp; simp only [u]; rw [D.ev I, D.ev J]
  have hi : i.toNat < l.length := by omega
  have h2 : (ByteArray.mk l.toArray)[i.toNat]? = some (l.getD i.toNat 0) := by
   have : (ByteArray.mk l.toArray)[i.toNat]? = l[i.toNat]? := by
    rw [getElem?_pos (ByteArray.mk l.toArray) i.toNat (by simpa [ByteArray.size] using hi), List.getElem?_eq_getElem hi]
    rfl
   rw [this]; simp [List.getD_eq_getElem?_getD, List.getElem?_eq_getElem hi]
  simp [Instr.index, asIntOf, underlying, program, Sem.run, U, X, str, h2]
def lim (E : Env) : Option Operand → Option (Option Value)
 | none => some none
 | some x => match ev E x with
  | some v => some (some v)
  | none => none
theorem pv {n : Nat} {ds : List Deferred} {a : Act} (I : Has n ds E a) {lo : Option Operand} {D : Option Value} (u : lim E lo = some D) : lo.map a.eval = D := by
 cases lo with
 | none => simp [lim] at u; simp [u]
 | some z =>
  simp only [lim] at u
  split at u
  ·rename_i v e
   cases u
   simp [I.ev e]
  ·cases u
theorem wX {x : Operand} {t e : TypeId} {lo hi : Option Operand} {a : Option Addr} {n c sz l h : Nat} {u D : Option Value} (X : o.op = .slice t x lo hi none) (hx : ev E x = some (.slice a n c))
  (hl : lim E lo = some u) (hh : lim E hi = some D) (hu : K.P.underlying t = some (.slice e)) (hs : ∀ w, (sizeOf e).run K.P w = .ok sz w)
  (h1 : (D = none ∧ h = n) ∨ ∃ k, D = some (.int k (h : Int))) (h2 : (u = none ∧ l = 0) ∨ ∃ k, u = some (.int k (l : Int))) (I : l ≤ h) (J : h ≤ c) :
  RQ K o E H (.slice (if c = l then a else a.map (·.add (l * sz))) (h - l) (c - l)) :=
 dL (by rw [X]; intro c h; cases h) fun a' w U _ => by
  unfold execOp; simp only [X]; rw [U.ev hx]
  rw [pv U hl, pv U hh]
  have e3 : (Instr.sliceBounds true n c u D none).run K.P w = .ok (l, h, c) w := by
   unfold Instr.sliceBounds
   rcases h1 with ⟨rfl, rfl⟩ | ⟨k, rfl⟩ <;> rcases h2 with ⟨rfl, rfl⟩ | ⟨k', rfl⟩ <;> simp [Instr.sliceBound, asIntOf, I, J, Int.toNat_natCast]
  simp [Instr.sliceAt, underlying, program, Sem.run, hu, Instr.slice, e3, hs]
theorem Ad {x : Operand} {t : TypeId} {lo hi : Option Operand} {s : List UInt8} {l h : Nat} {u D : Option Value} (ho : o.op = .slice t x lo hi none) (hx : ev E x = some (str s))
  (hl : lim E lo = some u) (hh : lim E hi = some D) (hu : K.P.underlying t = some .string)
  (h1 : (D = none ∧ h = s.length) ∨ ∃ k, D = some (.int k (h : Int))) (h2 : (u = none ∧ l = 0) ∨ ∃ k, u = some (.int k (l : Int))) (I : l ≤ h) (J : h ≤ s.length) :
  RQ K o E H (str ((s.take h).drop l)) :=
 dL (by rw [ho]; intro c h; cases h) fun a' w U _ => by
  unfold execOp; simp only [ho]; rw [U.ev hx]
  rw [pv U hl, pv U hh]
  have X : (ByteArray.mk s.toArray).size = s.length := by show s.toArray.size = _; simp
  have e3 : (Instr.sliceBounds false s.length s.length u D none).run K.P w = .ok (l, h, s.length) w := by
   unfold Instr.sliceBounds
   rcases h1 with ⟨rfl, rfl⟩ | ⟨k, rfl⟩ <;> rcases h2 with ⟨rfl, rfl⟩ | ⟨k', rfl⟩ <;> simp [Instr.sliceBound, asIntOf, I, J, Int.toNat_natCast]
  have e4 : (ByteArray.mk s.toArray).extract l h = ⟨((s.take h).drop l).toArray⟩ := by
   apply ByteArray.ext
   rw [ByteArray.data_extract]
   simp [List.extract_toArray, List.drop_take, List.extract_eq_take_drop]
  simp [Instr.sliceAt, underlying, program, Sem.run, hu, Instr.slice, str, X, e3, e4]
end
end Go.Proofs.YtndjkejhacfpdaaGreatDoor

namespace Go.Proofs.YtndjkejhacfpdaaGreatDoor
open Go.RowKit

theorem uQ (b off n : Nat) : (⟨b, off, none⟩ : Addr).add n = ⟨b, off + n, none⟩ := by unfold Addr.add; split <;> simp_all
theorem sk {P : Program} {W w : World} {l : List HA} {t ty e : TypeId} {i : TypeInfo} {z : Value} {sz bytes : Nat} {a a2 : Option Addr} {n c m c2 : Nat} {cs news : List Value}
  (s : Sat W (Row e sz a n c cs :: l) w) (ht : P.underlying t = some (.slice e)) (hi : P.info? e = some i) (hz : i.zero = some z) (b4 : i.size = sz) (b5 : i.bytes = bytes) (b6 : z.cells.size = sz)
  (U : news.length = m * sz) (hr : Rds l a2 news) (h1 : one news) (hb : (n + m) * bytes ≤ 140737488355328) (h0 : Nat.blt 0 bytes = true) (b7 : Nat.blt 0 sz = true) :
  ∃ a' c' w', (Builtin.append_ #[t, t] ty #[.slice a n c, .slice a2 m c2]).run P w = .ok (.slice a' (n + m) c') w' ∧ Sat W (Row e sz a' (n + m) c' (cs.take (n * sz) ++ news) :: l) w' := by
 subst b4
 subst b5
 have b8 : 0 < i.bytes := by simpa [Nat.blt_eq] using h0
 have b9 : 0 < i.size := by simpa [Nat.blt_eq] using b7
 have d8 : n + m ≤ 140737488355328 := Nat.le_trans (Nat.le_mul_of_pos_right (n + m) b8) hb
 have af : n + m ≤ maxLen := by simp only [maxLen]; omega
 have s' : Sat W l w := s.ent (Ent.drop (Ent.refl _))
 -- where the news are read
 have I : ∀ w2, Sat W l w2 → (Builtin.firstCells i.size m (.slice a2 m c2)).run P w2 = .ok news.toArray w2 := by
  intro w2 X
  rcases hr.cells X with hn | ⟨b2, an, cd, hc⟩
  ·subst hn
   have hm : m = 0 := by
    rcases Nat.eq_zero_or_pos m with h | h
    ·exact h
    ·have := Nat.mul_pos h b9; simp at U; omega
   subst hm
   cases a2 <;> simp [Builtin.firstCells, loadCells, loadCellsFrom]
  ·subst cd
   have := ni (P := P) (w := w2) (b := b2) (off := an) (vs := news) hc
   rw [U] at this
   simpa [Builtin.firstCells] using this
 -- the grown row
 have J : ∀ (D : List Value), D.length = n * i.size → c < n + m → Sat W (Row e i.size (some ⟨w.heap.size, 0, none⟩) (n + m) (grownCap w (n + m) c e) (D ++ news) :: l)
   { w with drawn := w.drawn + 1, heap := w.heap.push (.cells (D.toArray ++ news.toArray ++ Builtin.zeroCells z.cells (grownCap w (n + m) c e - (n + m))) e (0, 0)) } := by
  intro D ho hc
  have a6 := grownCap_ge w (n + m) c e
  have ch := grownCap_le_maxLen w (n + m) c e af
  have X := (s'.drew (w.drawn + 1)).new (.cells (D.toArray ++ news.toArray ++ Builtin.zeroCells z.cells (grownCap w (n + m) c e - (n + m))) e (0, 0))
  refine X.ent (Ent.sel' 0 rfl ?_ (Ent.refl _))
  intro h x
  have u : (D ++ news).length = (n + m) * i.size := by rw [List.length_append, ho, U, Nat.add_mul]
  have c0 : (Builtin.zeroCells z.cells (grownCap w (n + m) c e - (n + m))).toList.length = (grownCap w (n + m) c e - (n + m)) * i.size := by rw [Array.length_toList, size_zeroCells, b6]
  refine Row.mk (pre := []) (junk := (Builtin.zeroCells z.cells (grownCap w (n + m) c e - (n + m))).toList) (fz := (0, 0)) ⟨rfl, a6, ch, ?_, by rw [u]; exact Nat.le_refl _, by rw [u]; exact Nat.mul_le_mul_right _ a6, Or.inl rfl⟩ h ?_
  ·rw [u, c0, ← Nat.add_mul]; exact Nat.mul_le_mul_right _ (by omega)
  ·have : (D.toArray ++ news.toArray ++ Builtin.zeroCells z.cells (grownCap w (n + m) c e - (n + m))) = ([] ++ (D ++ news) ++ (Builtin.zeroCells z.cells (grownCap w (n + m) c e - (n + m))).toList).toArray := by
    apply Array.ext'; simp
   rw [this] at x
   exact x
 have a7 : ∀ D, (Question.appendCap (n + m) D e).cut (w.tape w.drawn (.appendCap (n + m) D e)) = grownCap w (n + m) D e := fun _ => rfl
 by_cases hroom : n + m ≤ c
 ·-- there is room
  rcases s.row_cases with ⟨rfl, rfl, rfl, rfl⟩ | ⟨b, off, pre, junk, fz, rfl, ok, X⟩
  ·have hm : m = 0 := by omega
   subst hm
   have c1 : news = [] := List.eq_nil_of_length_eq_zero (by simpa using U)
   subst c1
   refine ⟨none, 0, w, ?_, by simpa using s⟩
   simp [Builtin.append_, run_underlying ht, sizeOf, typeInfo, program, Sem.run, hi, Builtin.lenOf, I w s']
  ·have c3 := X.pts_at (i := 0) rfl
   have u := ok.len
   have a8 := ok.offs
   have eb := ok.room
   have d5 : n * i.size + news.length ≤ c * i.size := by rw [U, ← Nat.add_mul]; exact Nat.mul_le_mul_right _ hroom
   have bc := ox (P := P) (off + n * i.size) news 0 (pre ++ cs ++ junk) w c3 (by simp; omega) (fun q h1 h2 h3 => ok.free q (by omega) (by omega)) h1
   rw [Nat.add_zero] at bc
   refine ⟨some ⟨b, off, none⟩, c, _, ?_, (X.upd (o' := .cells (jA (pre ++ cs ++ junk) (off + n * i.size) news).toArray e fz)).ent (Ent.sel' 0 rfl ?_ (Ent.refl _))⟩
   ·simp [Builtin.append_, run_underlying ht, sizeOf, typeInfo, program, Sem.run, hi, Builtin.lenOf, hroom, I w s', uQ, bc]
   ·intro h x
    have e1 : jA (pre ++ cs ++ junk) (off + n * i.size) news = pre ++ (cs.take (n * i.size) ++ news) ++ (cs ++ junk).drop (n * i.size + news.length) := by
     rw [ly _ _ _ (by simp; omega)]
     rw [List.append_assoc pre cs junk, List.take_append, List.drop_append]
     rw [List.take_of_length_le (by omega), List.drop_of_length_le (by omega)]
     rw [show off + n * i.size - pre.length = n * i.size by omega, show off + n * i.size + news.length - pre.length = n * i.size + news.length by omega]
     rw [List.take_append_of_le_length u]
     simp
    rw [e1] at x
    have ab : (cs.take (n * i.size) ++ news).length = (n + m) * i.size := by rw [List.length_append, List.length_take, Nat.min_eq_left u, U, Nat.add_mul]
    refine Row.mk (junk := (cs ++ junk).drop (n * i.size + news.length)) ⟨a8, hroom, ok.cap, ?_, by rw [ab]; exact Nat.le_refl _, by rw [ab]; exact Nat.mul_le_mul_right _ hroom, ok.fzok⟩ h x
    rw [ab, List.length_drop, List.length_append, Nat.add_mul, ← U]
    omega
 ·-- it grows
  have hg : c < n + m := by omega
  have c5 : ¬ (9223372036854775807 < ((n : Int) + (m : Int))) := by simp only [maxLen] at af; omega
  have c6 := growslice_fits (bytes := i.bytes) hg hb
  have ad : ¬ (281474976710656 < Builtin.nextslicecap (n + m) c * i.bytes) := by omega
  have hd : Sat W l w.drew := s'.drew _
  rcases s.row_cases with ⟨rfl, rfl, rfl, rfl⟩ | ⟨b, off, pre, junk, fz, rfl, ok, X⟩
  ·refine ⟨_, _, _, ?_, by simpa using J [] (by simp) hg⟩
   have c7 : (Builtin.firstCells i.size 0 (.slice none 0 0)).run P w.drew = .ok #[] w.drew := by simp [Builtin.firstCells]
   have hm : m ≠ 0 := by omega
   have be : ¬ (9223372036854775807 < (m : Int)) := by omega
   simp only [Nat.zero_add] at hroom ad a7 ⊢
   simp [Builtin.append_, run_underlying ht, sizeOf, typeInfo, zeroValue, hi, hz, Builtin.lenOf, hm, be, ad, Question.forced, c7, I _ hd, newRow, grownCap]
   rfl
  ·have u := ok.len
   have br : (Builtin.firstCells i.size n (.slice (some ⟨b, off, none⟩) n c)).run P w.drew = .ok (cs.take (n * i.size)).toArray w.drew := by
    have := ni (P := P) (w := w.drew) (b := b) (off := off) (vs := cs.take (n * i.size)) fun j v hj => by
     have c8 : cs[j]? = some v := by
      rw [List.getElem?_take] at hj
      split at hj
      ·exact hj
      ·cases hj
     exact (gu.row (H := Row e i.size (some ⟨b, off, none⟩) n c cs :: l) 0 rfl c8).sat (s.drew _)
    rw [List.length_take, Nat.min_eq_left u] at this
    simpa [Builtin.firstCells] using this
   refine ⟨_, _, _, ?_, J (cs.take (n * i.size)) (by rw [List.length_take, Nat.min_eq_left u]) hg⟩
   simp [Builtin.append_, run_underlying ht, sizeOf, typeInfo, zeroValue, hi, hz, Builtin.lenOf, hroom, c5, ad, Question.forced, br, I _ hd, newRow, grownCap]
   refine congrArg (fun x => w.drew.alloc (.cells x e)) ?_
   apply Array.ext'
   simp [List.append_assoc]

section
variable {K : Cx} {R S Y : Type} {Q : eM R} {E : Env} {H : List HA} {opt : Option R} {ops : Array Oper} {rest : List Oper} {o : Oper}
structure Elt (P : Program) (e sz bytes : Nat) (zs : List Value) : Prop where
 info : ∃ i z, P.info? e = some i ∧ i.zero = some z ∧ i.size = sz ∧ i.bytes = bytes ∧ z.cells = zs.toArray
 len : zs.length = sz
 pos : Nat.blt 0 bytes = true
 spos : Nat.blt 0 sz = true
theorem Elt.of {P : Program} {e sz bytes : Nat} {u : List Value} (z : Value) (h : (P.info? e).map (fun i => (i.zero, i.size, i.bytes)) = some (some z, sz, bytes)) (D : z.cells = u.toArray) (I : u.length = sz) (h1 : Nat.blt 0 bytes = true) (J : Nat.blt 0 sz = true) : Elt P e sz bytes u := by
 refine ⟨?_, I, h1, J⟩
 cases hi : P.info? e with
 | none => rw [hi] at h; cases h
 | some i =>
  rw [hi] at h
  simp only [Option.map_some, Option.some.injEq, Prod.mk.injEq] at h
  exact ⟨i, z, rfl, h.1, h.2.1, h.2.2, D⟩
theorem tD {x y : Operand} {t e sz bytes : Nat} {zs : List Value} {a a2 : Option Addr} {n c m c2 : Nat} {cs news : List Value} (k : Nat) (X : o.op = .call { callee := .builtin .append, args := #[x, y], argTypes := #[t, t] })
  (hx : ev E x = some (.slice a n c)) (hy : ev E y = some (.slice a2 m c2)) (ht : K.P.underlying t = some (.slice e)) (D : Elt K.P e sz bytes zs) (hk : H[k]? = some (Row e sz a n c cs))
  (hr : Rds (H.eraseIdx k) a2 news) (hl : news.length = m * sz) (h1 : one news) (hb : (n + m) * bytes ≤ 140737488355328) :
  RE K (Y := Option Addr × Nat) o E H (fun y => .slice y.1 (n + m) y.2) (fun y => H.set k (Row e sz y.1 (n + m) y.2 (cs.take (n * sz) ++ news))) :=
 jK (by rw [X]; intro c h; cases h) fun a' w he s => by
  obtain ⟨i, z, hi, hz, I, J, U⟩ := D.info
  obtain ⟨a3, c3, w', u, s2⟩ := sk (t := t) (ty := o.type) (c2 := c2) (s.focus hk) ht hi hz I J (by rw [U]; simpa using D.len) hl hr h1 hb D.pos D.spos
  refine ⟨(a3, c3), w', ?_, Sat.unfocus hk s2⟩
  unfold execOp; simp only [X]
  simp only [resolve, invoke, builtin, Sem.run_bind, Sem.run_pure, Result.andThen_ok, List.map_toArray, List.map_cons, List.map_nil, he.ev hx, he.ev hy, u]
theorem yj {x y : Operand} {t e sz bytes : Nat} {zs : List Value} {a2 : Option Addr} {m c2 : Nat} {news : List Value} (X : o.op = .call { callee := .builtin .append, args := #[x, y], argTypes := #[t, t] })
  (hx : ev E x = some (.slice none 0 0)) (hy : ev E y = some (.slice a2 m c2)) (ht : K.P.underlying t = some (.slice e)) (D : Elt K.P e sz bytes zs)
  (hr : Rds H a2 news) (hl : news.length = m * sz) (h1 : one news) (hb : m * bytes ≤ 140737488355328) :
  RE K (Y := Option Addr × Nat) o E H (fun y => .slice y.1 m y.2) (fun y => Row e sz y.1 m y.2 news :: H) :=
 jK (by rw [X]; intro c h; cases h) fun a' w he s => by
  obtain ⟨i, z, hi, hz, I, J, U⟩ := D.info
  have s0 : Sat K.W (Row e sz none 0 0 [] :: H) w := s.ent (Ent.row_nil (Ent.refl _))
  obtain ⟨a3, c3, w', u, s2⟩ := sk (t := t) (ty := o.type) (c2 := c2) s0 ht hi hz I J (by rw [U]; simpa using D.len) hl hr h1 (by rw [Nat.zero_add]; exact hb) D.pos D.spos
  simp only [Nat.zero_add, List.take_nil, List.nil_append] at u s2
  refine ⟨(a3, c3), w', ?_, s2⟩
  unfold execOp; simp only [X]
  simp only [resolve, invoke, builtin, Sem.run_bind, Sem.run_pure, Result.andThen_ok, List.map_toArray, List.map_cons, List.map_nil, he.ev hx, he.ev hy, u]

/-! ### make -/
theorem Bx {x y : Operand} {t e bytes : Nat} {z : Value} {k k' : IntKind} {n c : Int} (ho : o.op = .makeSlice t x y) (hx : ev E x = some (.int k n)) (hy : ev E y = some (.int k' c)) (ht : K.P.underlying t = some (.slice e)) (hE : Elt K.P e 1 bytes [z])
  (h0 : 0 ≤ n) (h1 : n ≤ c) (hb : c * bytes ≤ 140737488355328) :
  RE K (Y := Nat) o E H (fun b => .slice (some ⟨b, 0, none⟩) n.toNat c.toNat) (fun b => Row e 1 (some ⟨b, 0, none⟩) n.toNat c.toNat (List.replicate c.toNat z) :: H) :=
 jK (by rw [ho]; intro c h; cases h) fun a' w he s => by
  obtain ⟨i, zv, hi, hz, D, I, J⟩ := hE.info
  subst I
  have U : 0 < i.bytes := by have := hE.pos; simpa [Nat.blt_eq] using this
  obtain ⟨N, rfl⟩ := Int.eq_ofNat_of_zero_le h0
  obtain ⟨C, rfl⟩ := Int.eq_ofNat_of_zero_le (Int.le_trans h0 h1)
  have X : ((C * i.bytes : Nat) : Int) ≤ 140737488355328 := by rw [Int.natCast_mul]; exact hb
  have hC : C * i.bytes ≤ 140737488355328 := by omega
  have ab : C ≤ 140737488355328 := Nat.le_trans (Nat.le_mul_of_pos_right C U) hC
  have u : N ≤ C := by omega
  have wr : ∀ q : Nat, q ≤ 140737488355328 → IntKind.i64.wrap (q : Int) = q := by
   intro q hq
   simp only [IntKind.wrap, IntKind.bits, IntKind.signed]
   have e1 : ((q : Int) % 2 ^ 64) = q := Int.emod_eq_of_lt (by omega) (by omega)
   simp only [e1, Bool.true_and]
   rw [if_neg]
   simp
   omega
  have e1 := wr N (by omega)
  have e2 := wr C ab
  simp only [Int.toNat_natCast]
  have t2 : ¬ (281474976710656 < (i.bytes : Int) * (C : Int)) := by
   rw [Int.mul_comm]
   rw [Int.natCast_mul] at X
   omega
  have af : ¬ ((C : Int) < 0) := by omega
  have al : ¬ ((N : Int) < 0) := by omega
  have an : ¬ ((C : Int) < (N : Int)) := by omega
  refine ⟨w.heap.size, { w with heap := w.heap.push (.cells (List.replicate C z).toArray e (0, 0)) }, ?_, (s.new _).ent (Ent.sel' 0 rfl ?_ (Ent.refl _))⟩
  ·unfold execOp; simp only [ho]; rw [he.ev hx, he.ev hy]
   simp [Instr.makeSlice, underlying, program, Sem.run, ht, asInt, asIntOf, typeInfo, hi, e1, e2, t2, af, al, an, askRoom, sizeOf, D, zeroValue, hz, J, newRow, newObj]
   split
   ·rename_i a1; subst a1; refine congrArg (fun q => Result.ok (Next.value (Value.slice (some { block := w.heap.size, off := 0 }) N 0)) (w.alloc (Obj.cells q e))) ?_; apply Array.ext <;> simp
   ·refine congrArg (fun q => Result.ok (Next.value (Value.slice (some { block := w.heap.size, off := 0 }) N C)) (w.alloc (Obj.cells q e))) ?_
    apply Array.ext
    ·simp
    ·intro j h1 h2
     simp [Nat.mod_one]
  ·intro h x
   refine Row.mk (pre := []) (junk := []) (fz := (0, 0)) ⟨rfl, u, by simp only [maxLen]; omega, by simp, by simpa using u, by simp, Or.inl rfl⟩ h ?_
   simpa [pts] using x
end
end Go.Proofs.YtndjkejhacfpdaaGreatDoor

namespace Go.Proofs.YtndjkejhacfpdaaGreatDoor
open Go.RowKit

def aL (l : List UInt8) : List Value := l.map fun c => .int .u8 (c.toNat : Int)
theorem eJ (l : List UInt8) : (aL l).length = l.length := by simp [aL]
theorem rb (l m : List UInt8) : aL (l ++ m) = aL l ++ aL m := by simp [aL]
theorem nf (l : List UInt8) (n : Nat) : (aL l).take n = aL (l.take n) := by simp [aL]
theorem ov (l : List UInt8) (n : Nat) : (aL l).drop n = aL (l.drop n) := by simp [aL]
theorem vR (l : List UInt8) : one (aL l) := by
 intro v u
 simp [aL] at u
 obtain ⟨c, _, rfl⟩ := u
 rfl
theorem kD {l : List UInt8} {j : Nat} (h : j < l.length) : (aL l)[j]? = some (.int .u8 ((l.getD j 0).toNat : Int)) := by
 simp [aL, List.getElem?_eq_getElem h, List.getD_eq_getElem?_getD]
theorem lu {l : List UInt8} {j : Nat} (h : j < l.length) : aL l ≠ [] := by
 intro e
 have := eJ l
 rw [e] at this
 simp at this
 omega
theorem zz (n : Nat) : List.replicate n (Value.int .u8 0) = aL (List.replicate n 0) := by simp [aL]
def hJ (n : Int) : UInt8 := UInt8.ofNat n.toNat
theorem kG {n : Int} (u : 0 ≤ n) (h1 : n < 256) : ((hJ n).toNat : Int) = n := by
 unfold hJ
 rw [UInt8.toNat_ofNat']
 omega

section
variable {K : Cx} {R S Y : Type} {Q : eM R} {E : Env} {H : List HA} {opt : Option R} {ops : Array Oper} {rest : List Oper} {o : Oper}
theorem zw {t e sz bytes len : Nat} {u : List Value} {l : List (Nat × Operand)} {vs : List (Nat × Value)} {cs : List Value} (ho : o.op = .buildSlice t len l.toArray) (hx : evP l E = some vs) (ht : K.P.underlying t = some (.slice e)) (hE : Elt K.P e sz bytes u)
  (hb : Nat.ble (len * sz) 16777216 = true) (hf : Instr.fill (fun i => some (i * sz, sz)) ((Array.range (len * sz)).map (u.toArray[· % u.toArray.size]!)) vs = some cs.toArray) (h0 : Nat.blt 0 (len * sz) = true) (D : cs.length = len * sz) :
  RE K (Y := Nat) o E H (fun b => .slice (some ⟨b, 0, none⟩) len len) (fun b => Row e sz (some ⟨b, 0, none⟩) len len cs :: H) :=
 jK (by rw [ho]; intro c h; cases h) fun a' w he s => by
  obtain ⟨i, z, hi, hz, I, b0, J⟩ := hE.info
  have U : len * sz ≤ 16777216 := by simpa [Nat.ble_eq] using hb
  have b1 : 0 < len * sz := by simpa [Nat.blt_eq] using h0
  have X : 0 < sz := by have := hE.spos; simpa [Nat.blt_eq] using this
  refine ⟨w.heap.size, { w with heap := w.heap.push (.cells cs.toArray e (0, 0)) }, ?_, (s.new _).ent (Ent.sel' 0 rfl ?_ (Ent.refl _))⟩
  ·unfold execOp; simp only [ho]
   have : (l.toArray.map fun (i, x) => (i, a'.eval x)) = vs.toArray := by
    rw [← te he l vs hx]; simp
   rw [this]
   have ab : ¬ (len * sz = 0) := by omega
   have ad : ¬ (len * sz > 2 ^ 24) := by omega
   simp only [Instr.buildSlice, underlying, program, Sem.run_bind, Sem.run, ht, sizeOf, typeInfo, hi, I, Result.andThen_ok, Sem.run_pure, ad, ab, if_false, zeroValue, hz, J, newRow, newObj]
   simp only [hf, Sem.run_bind, Sem.run, Result.andThen_ok, Sem.run_pure, newRow, newObj]
  ·intro h x
   have b2 : len ≤ 16777216 := Nat.le_trans (Nat.le_mul_of_pos_right len X) U
   refine Row.mk (pre := []) (junk := []) (fz := (0, 0)) ⟨rfl, Nat.le_refl _, by simp only [maxLen]; omega, by simp [D], by simp [D], by simp [D], Or.inl rfl⟩ h ?_
   simpa [pts] using x
theorem BU {x y : Operand} {t t2 e sz bytes : Nat} {zs : List Value} {a a2 : Option Addr} {n c m c2 : Nat} {cs news : List Value} (k : Nat) (ho : o.op = .call { callee := .builtin .copy, args := #[x, y], argTypes := #[t, t2] })
  (hx : ev E x = some (.slice a n c)) (hy : ev E y = some (.slice a2 m c2)) (ht : K.P.underlying t = some (.slice e)) (hE : Elt K.P e sz bytes zs) (hk : H[k]? = some (Row e sz a n c cs))
  (hr : Rds H a2 news) (hl : (min m n) * sz = news.length) (h1 : one news) :
  RE K (Y := Unit) o E H (fun _ => .int .i64 (min m n : Nat)) (fun _ => H.set k (Row e sz a n c (jA cs 0 news))) :=
 jK (by rw [ho]; intro c h; cases h) fun a' w he s => by
  obtain ⟨i, z, hi, hz, I, cd, ch⟩ := hE.info
  have u : (Builtin.firstCells sz (min m n) (.slice a2 m c2)).run K.P w = .ok news.toArray w := by
   rcases hr.cells s with hn | ⟨b2, J, an, hc⟩
   ·subst hn
    have hm : min m n * sz = 0 := by simpa using hl
    cases a2 <;> simp [Builtin.firstCells, hm, loadCells, loadCellsFrom]
   ·subst an
    have := ni (P := K.P) (w := w) (b := b2) (off := J) (vs := news) hc
    rw [← hl] at this
    simpa [Builtin.firstCells] using this
  have go : ∀ w', (execOp a'.eval o).run K.P w = .ok (.value (.int .i64 (min m n : Nat))) w' ↔ (match a with | some ad => (storeCells ad news).run K.P w = .ok () w' | none => w' = w) := by
   intro w'
   unfold execOp; simp only [ho]
   simp only [resolve, invoke, builtin, Sem.run_bind, Sem.run_pure, Result.andThen_ok, List.map_toArray, List.map_cons, List.map_nil, he.ev hx, he.ev hy]
   have D : Nat.min m n = min m n := rfl
   cases a with
   | none =>
    simp [Builtin.copy_, underlying, program, Sem.run, ht, Builtin.lenOf, sizeOf, typeInfo, hi, I, D, u, goInt]
    constructor <;> (intro h; exact h.symm)
   | some ad =>
    simp [Builtin.copy_, underlying, program, Sem.run, ht, Builtin.lenOf, sizeOf, typeInfo, hi, I, D, u, goInt]
    cases (storeCells ad news).run K.P w <;> simp
  rcases (s.focus hk).row_cases with ⟨rfl, rfl, rfl, rfl⟩ | ⟨b, off, pre, junk, fz, rfl, ok, s2⟩
  ·refine ⟨(), w, (go w).2 rfl, ?_⟩
   have a1 : news = [] := List.eq_nil_of_length_eq_zero (by rw [← hl]; simp)
   subst a1
   exact Sat.unfocus hk (s.focus hk)
  ·have a6 := s2.pts_at (i := 0) rfl
   have b1 := ok.len
   have U := ok.offs
   have X := ok.le
   have b3 : news.length ≤ n * sz := by rw [← hl]; exact Nat.mul_le_mul_right _ (Nat.min_le_right m n)
   have c4 : n * sz ≤ c * sz := Nat.mul_le_mul_right _ X
   have a7 := ox (P := K.P) off news 0 (pre ++ cs ++ junk) w a6 (by simp; omega) (fun q h1 h2 h3 => ok.free q (by omega) (by omega)) h1
   refine ⟨(), _, (go _).2 a7, Sat.unfocus hk ((s2.upd (o' := .cells (jA (pre ++ cs ++ junk) (off + 0) news).toArray e fz)).ent (Ent.sel' 0 rfl ?_ (Ent.refl _)))⟩
   intro h x
   have e1 : jA (pre ++ cs ++ junk) (off + 0) news = pre ++ jA cs 0 news ++ junk := by
    rw [ly _ _ _ (by simp; omega), ly _ _ _ (by omega)]
    rw [List.append_assoc pre cs junk, List.take_append, List.drop_append, List.drop_append]
    rw [List.take_of_length_le (by omega), List.drop_of_length_le (by omega)]
    rw [show off + 0 - pre.length = 0 by omega, show off + 0 + news.length - pre.length = news.length by omega, show news.length - cs.length = 0 by omega]
    simp
   rw [e1] at x
   exact Row.mk (junk := junk) ⟨U, ok.le, ok.cap, by rw [mU]; exact ok.room, by rw [mU]; exact ok.len, by rw [mU]; exact ok.top, ok.fzok⟩ h x
/-! ### Bytes and strings -/
theorem yl {x : Operand} {t d e : TypeId} {l : List UInt8} (ho : o.op = .convert t d x) (hx : ev E x = some (str l)) (ht : K.P.underlying t = some .string) (hd : K.P.underlying d = some (.slice e)) (U : K.P.underlying e = some (.int .u8)) (hl : l.length ≤ 140737488355328) :
  RE K (Y := Nat × Nat) o E H (fun y => .slice (some ⟨y.1, 0, none⟩) l.length y.2) (fun y => Row e 1 (some ⟨y.1, 0, none⟩) l.length y.2 (aL l) :: H) :=
 jK (by rw [ho]; intro c h; cases h) fun a' w he s => by
  have X : (ByteArray.mk l.toArray).size = l.length := by show l.toArray.size = _; simp
  have ab : l.length ≤ maxLen := by simp only [maxLen]; omega
  have ad := grownCap_ge w l.length 0 e
  have af := grownCap_le_maxLen w l.length 0 e ab
  let cap := grownCap w l.length 0 e
  let u : List Value := aL l ++ List.replicate (cap - l.length) (.int .u8 0)
  have al : u.length = cap := by simp [u, eJ]; omega
  refine ⟨(w.heap.size, cap), { w with drawn := w.drawn + 1, heap := w.heap.push (.cells u.toArray e (cap, cap + 1)) }, ?_, ((s.drew (w.drawn + 1)).new _).ent (Ent.sel' 0 rfl ?_ (Ent.refl _))⟩
  ·unfold execOp; simp only [ho]; rw [he.ev hx]
   have J : ((ByteArray.mk l.toArray).data.map fun b => Value.int .u8 b.toNat) ++ Array.replicate (cap - l.length) (Value.int .u8 0) = u.toArray := by
    simp [u, aL]
   have D : (w.heap.push (.cells u.toArray e (0, 0)))[w.heap.size]? = some (.cells u.toArray e (0, 0)) := by simp
   have I : (choose (.appendCap l.length 0 e)).run K.P w = .ok cap w.drew := by
    simp [choose, Sem.run, Question.forced, cap, grownCap]
   have an : ({ w with drawn := w.drawn + 1, heap := w.heap.push (.cells u.toArray e (0, 0)) } : World).freeze ⟨w.heap.size, cap, none⟩ 1 = { w with drawn := w.drawn + 1, heap := w.heap.push (.cells u.toArray e (cap, cap + 1)) } := by
    unfold World.freeze
    rw [if_neg (by omega)]
    simp only
    rw [mN _ _ _ _ D]
    congr 1
    apply Array.ext_getElem?
    intro j
    rw [Array.getElem?_setIfInBounds]
    by_cases hj : w.heap.size = j
    ·subst hj; simp
    ·rw [if_neg hj]; simp [Array.getElem?_push, Ne.symm hj]
   have key : (convert t d (str l)).run K.P w = .ok (.slice (some ⟨w.heap.size, 0, none⟩) l.length cap) { w with drawn := w.drawn + 1, heap := w.heap.push (.cells u.toArray e (cap, cap + 1)) } := by
    simp only [str, convert, underlying, program, Sem.run_bind, Sem.run, ht, hd, Result.andThen_ok, Sem.run_pure, U]
    unfold Conv.stringToBytes
    simp only [X]
    rw [Sem.run_bind, I]
    simp only [Result.andThen_ok, newRow, newObj, Sem.run_bind, Sem.run, Sem.run_pure]
    rw [show (Array.map (fun b => Value.int IntKind.u8 (b.toNat : Int)) (ByteArray.mk l.toArray).data ++ Array.replicate (cap - l.length) (Value.int IntKind.u8 0)) = u.toArray from J]
    have hm : (markStringish ⟨w.heap.size, 0, none⟩).run K.P { w with drawn := w.drawn + 1, heap := w.heap.push (.cells u.toArray e (0, 0)) } = .ok () { w with drawn := w.drawn + 1, heap := w.heap.push (.cells u.toArray e (cap, cap + 1)) } := by
     unfold markStringish
     simp only [shape, Sem.run_bind, Sem.run, Result.andThen_ok, World.shape?, D, List.size_toArray, al, freeze]
     rw [an]
    exact congrArg (fun r => Result.andThen r fun _ w' => Result.ok (Value.slice (some ⟨w.heap.size, 0, none⟩) l.length cap) w') hm
   simp [key]
  ·intro h x
   refine Row.mk (pre := []) (junk := List.replicate (cap - l.length) (.int .u8 0)) (fz := (cap, cap + 1)) ⟨rfl, ad, af, by simp [eJ]; omega, by simp [eJ], by simp [eJ]; omega, Or.inr (by simp; exact Nat.le_refl cap)⟩ h ?_
   simpa [pts, u] using x
theorem A7 {u D : TypeId} {x y : Operand} {l m : List UInt8} (I : o.op = .binOp .add u x y D) (J : ev E x = some (str l)) (U : ev E y = some (str m)) (hl : l.length + m.length ≤ 9223372036854775807) : RQ K o E H (str (l ++ m)) :=
 jS I J U oW fun P w => by
  have h1 : (ByteArray.mk l.toArray).size = l.length := by show l.toArray.size = _; simp
  have X : (ByteArray.mk m.toArray).size = m.length := by show m.toArray.size = _; simp
  have h3 : (ByteArray.mk l.toArray) ++ (ByteArray.mk m.toArray) = ⟨(l ++ m).toArray⟩ := by
   apply ByteArray.ext; simp
  have h4 : ¬ ((((ByteArray.mk l.toArray).size + (ByteArray.mk m.toArray).size : Nat) : Int) > IntKind.i64.max) := by
   rw [h1, X]
   simp only [IntKind.max, IntKind.signed, IntKind.bits, if_true]
   omega
  simp only [str, binOp, Op.stringOp, h4, if_false, h3, Sem.run_pure]
end
end Go.Proofs.YtndjkejhacfpdaaGreatDoor

namespace Go.Proofs.YtndjkejhacfpdaaGreatDoor
open Go.RowKit
section
variable {K : Cx} {R S Y : Type} {Q : eM R} {E : Env} {H : List HA} {o : Option R} {ops : Array Oper} {rest : List Oper} {op : Oper}
def Exi (K : Cx) (Q : eM R) (id : Nat) (E : Env) (H : List HA) (o : Option R) : Prop := ∀ r, o = some r → ∀ a w, Has K.n K.ds E a → Sat K.W H w → Q r (.exit id) a w
theorem dt {id : Nat} (h : Exi K Q id E H o) : Sim K Q (.exit id) E H o := fun r u a w D I => wpIn_exit (h r u a w D I)
theorem cK {id : Nat} {c : Code} (h : Exi K Q id E H o) : Exi K (lJ K c Q) id E H o := h
theorem cU {id : Nat} {L : S → Option R} {u : S → Y → Env} {D : S → Y → List HA} (h : Exi K Q id E H o) : Exi K (si K L u D Q) id E H o := h
theorem cN {id : Nat} (h : Nrm K Q E H o) : Exi K (nh id Q) id E H o := fun r u a w D I => by
 show Exit.inBlock id (Q r) (.exit id) a w
 simp only [Exit.inBlock, if_true]
 exact h r u a w D I
theorem zm {id u : Nat} (D : Nat.beq id u = false) (h : Exi K Q id E H o) : Exi K (nh u Q) id E H o := fun r I a w J U => by
 show Exit.inBlock u (Q r) (.exit id) a w
 have : ¬ id = u := by intro e; subst e; simp at D
 simp only [Exit.inBlock, this, if_false]
 exact h r I a w J U
def Rtn (K : Cx) (Q : eM R) (E : Env) (H : List HA) (o : Option R) : Prop := ∀ r, o = some r → ∀ a w, Has K.n K.ds E a → Sat K.W H w → Q r .ret a w
theorem ay (h : Rtn K Q E H o) : Sim K Q .ret E H o := fun r u a w D I => wpIn_ret (h r u a w D I)
theorem aY {c : Code} (h : Rtn K Q E H o) : Rtn K (lJ K c Q) E H o := h
theorem bI {id : Nat} (h : Rtn K Q E H o) : Rtn K (nh id Q) E H o := h
theorem ij {L : S → Option R} {u : S → Y → Env} {D : S → Y → List HA} (h : Rtn K Q E H o) : Rtn K (si K L u D Q) E H o := h
theorem gP {u : S → Y → Env} {D : S → Y → List HA} {r : R} (h : Rtn K Q E H (some r)) : Rtn K (yd K Q u D) E H (some (.inr r)) := fun _ I a w J U => by
 cases I
 exact h r rfl a w J U
theorem aJ {fn : Func} {val : R → Y → Value} {B : R → Y → List HA} {r : R} {vs : List Value} (y : Y) (hd : K.ds = []) (u : mE fn.results.toList E = some vs) (D : tup vs = val r y) (I : Ent H (B r y)) :
  Rtn K (sU K fn val B) E H (some r) := fun J U a w X hs => xa (K := K) y hd u D I J U a w X hs
theorem dW {c : Code} {o' : Option R} (e : o = o') (h : Sim K Q c E H o') : Sim K Q c E H o := e ▸ h
theorem yW {o' : Option R} (e : o = o') (h : Nrm K Q E H o') : Nrm K Q E H o := e ▸ h
def cut {α : Type} (l : List α) (lo hi : Int) : List α := (l.take hi.toNat).drop lo.toNat
theorem kC {α : Type} {l : List α} {lo hi : Int} (u : hi ≤ l.length) : (cut l lo hi).length = hi.toNat - lo.toNat := by
 unfold cut; simp; omega
theorem za {α : Type} (l : List α) (lo : Int) : cut l lo l.length = l.drop lo.toNat := by unfold cut; simp
theorem Rd.sub {F : HA} {a : Option Addr} {l : List UInt8} (h : Rd F a (aL l)) (lo hi : Int) {c : Nat} (u : hi.toNat ≤ c) : Rd F (if c = lo.toNat then a else a.map (·.add (lo.toNat * 1))) (aL (cut l lo hi)) := by
 by_cases e : c = lo.toNat
 ·left
  unfold cut
  rw [List.drop_of_length_le (by simp; omega)]
  rfl
 ·rw [if_neg e, Nat.mul_one]
  have := (h.take hi.toNat).drop lo.toNat
  rwa [nf, ov] at this
theorem RE.quiet {v : Y → Value} {H' : Y → List HA} {u : Value} (h : RE K op E H v H') (D : ∀ y, v y = u) (I : ∀ y, Ent (H' y) H) : RQ K op E H u := h.rq D I
end
end Go.Proofs.YtndjkejhacfpdaaGreatDoor

namespace Go.Proofs.YtndjkejhacfpdaaGreatDoor
open Go.RowKit
theorem aM {vs : List Value} (h : (vs.all fun v => v.oneCell') = true) : one vs := by
 intro v u
 exact List.all_eq_true.1 h v u
theorem Rd.pos {F : HA} {a : Option Addr} {cs : List Value} (h : Rd F a cs) (u : cs ≠ []) : ∃ b off, a = some ⟨b, off, none⟩ := by
 rcases h with h | ⟨b, off, D, _⟩
 ·exact absurd h u
 ·exact ⟨b, off, D⟩
theorem Rd.cell {F : HA} {a : Option Addr} {cs : List Value} (h : Rd F a cs) {H : List HA} {b off j : Nat} {v : Value} (k : Nat) (J : H[k]? = some F) (U : a = some ⟨b, off, none⟩) (D : cs[j]? = some v) : gu H b (off + j) v := by
 rcases h with h | ⟨b', I, u, X⟩
 ·subst h; simp at D
 ·rw [U] at u; cases u
  refine .of k J fun x hx => ?_
  obtain ⟨l, T, fz, h1, h2⟩ := X x hx
  exact ⟨l, T, fz, h1, h2 j v D⟩
theorem gu.row' {H : List HA} {T : TypeId} {sz n c b off j : Nat} {a : Option Addr} {cs : List Value} {v : Value} (k : Nat) (u : H[k]? = some (Row T sz a n c cs)) (D : a = some ⟨b, off, none⟩) (I : cs[j]? = some v) : gu H b (off + j) v := by
 subst D; exact .row k u I
theorem aN {E : Env} {t : Nat} {g : Bool} {v : Value} (h : lk E t = some (cv g v)) (u : g = true) : lk E t = some v := by rw [h, u]; rfl
def mX (l m : List UInt8) : List UInt8 := m.take l.length ++ l.drop m.length
theorem mq (l m : List UInt8) : (mX l m).length = l.length := by unfold mX; simp; omega
section
variable {K : Cx} {R S Y : Type} {Q : eM R} {E : Env} {H : List HA} {o : Option R} {ops : Array Oper} {rest : List Oper} {op : Oper}
theorem eG (n : Nat) (Y : Type) {l : List Oper} {I : Option S} {o2 : S → Option R} (u : S → Y → Env) (D : S → Y → List HA)
  (h1 : cx K (mm K u D) ops (l.take n) E H I) (J : ∀ s y, cx K Q ops (l.drop n) (u s y) (D s y) (o2 s)) : cx K Q ops l E H (I.bind o2) := by
 have := Ag (ops := ops) (l1 := l.take n) (l2 := l.drop n) Y u D h1 J
 rwa [List.take_append_drop] at this
theorem iD {p : Prop} [Decidable p] {u o2 : Option R} (h1 : decide p = true → cx K Q ops rest E H u) (D : decide p = false → cx K Q ops rest E H o2) : cx K Q ops rest E H (if p then u else o2) :=
 mD (fun h => h1 (by simpa using h)) (fun h => D (by simpa using h))
theorem so {p : Prop} [Decidable p] {u o2 : Option R} (D : (!decide p) = true → cx K Q ops rest E H o2) (h1 : (!decide p) = false → cx K Q ops rest E H u) : cx K Q ops rest E H (if p then u else o2) :=
 mD (fun h => h1 (by simpa using h)) (fun h => D (by simpa using h))
theorem ii {b : Bool} {u o2 : Option R} (h1 : b = true → cx K Q ops rest E H u) (D : b = false → cx K Q ops rest E H o2) : cx K Q ops rest E H (if b = true then u else o2) :=
 mD h1 (fun h => D (by simpa using h))
theorem jj {f : FuncId} {xs u : List Operand} {D vs : List Value} (I : op.op = .makeFunc (.func f) xs.toArray u.toArray) (U : evs xs E = some D) (X : evs u E = some vs) : RQ K op E H (.func (.func f) D.toArray vs.toArray) :=
 dL (by rw [I]; intro c h; cases h) fun a w J _ => by
  unfold execOp; simp only [I]
  have e1 : xs.toArray.map a.eval = D.toArray := by rw [← ls J xs D U]; simp
  have e2 : u.toArray.map a.eval = vs.toArray := by rw [← ls J u vs X]; simp
  simp [e1, e2, Instr.makeFunc]
theorem mS {b : BinOp} {u : TypeId} {x y : Operand} {m n : Option Addr} (P : Program) (w : World) : (eqGuard b u x y (.pointer m) (.pointer n)).run P w = .ok () w := by
 unfold eqGuard; cases b <;> rfl
theorem oI {t e : TypeId} {u : Addr} (P : Program) (D : P.underlying t = some (.pointer e)) (w : World) : (Op.equal t (.pointer (some u)) (.pointer none)).run P w = .ok false w := by
 rw [show Op.equal t (.pointer (some u)) (.pointer none) = Op.equalIn (9999 + 1) t (.pointer (some u)) (.pointer none) from rfl, Op.equalIn]
 simp [underlying, program, Sem.run, D]
theorem pC {u J e : TypeId} {x y : Operand} {U : Addr} (D : op.op = .binOp .eql u x y J) (X : ev E x = some (.pointer (some U))) (hy : ev E y = some (.pointer none)) (hu : K.P.underlying u = some (.pointer e)) : RQ K op E H (.bool false) :=
 dL (by rw [D]; intro c h; cases h) fun a w I _ => by
  unfold execOp; simp only [D]; rw [I.ev X, I.ev hy]
  simp [mS, binOp, oI K.P hu]
theorem C3 {u J e : TypeId} {x y : Operand} {U : Addr} (D : op.op = .binOp .neq u x y J) (X : ev E x = some (.pointer (some U))) (hy : ev E y = some (.pointer none)) (hu : K.P.underlying u = some (.pointer e)) : RQ K op E H (.bool true) :=
 dL (by rw [D]; intro c h; cases h) fun a w I _ => by
  unfold execOp; simp only [D]; rw [I.ev X, I.ev hy]
  simp [mS, binOp, oI K.P hu]
/-! Rows of bytes. -/
theorem pR {v v2 : Y → Value} {H1 u : Y → List HA} (h : RE K op E H v H1) (D : ∀ y, v y = v2 y) (I : ∀ y, Ent (H1 y) (u y)) : RE K op E H v2 u :=
 fun a w J U next Q X => h a w J U next Q fun y w' s => by rw [D]; exact X y w' (s.ent (I y))
theorem Ent.set {l : List HA} {A B : HA} (k : Nat) (h : ∀ x, A x → B x) : Ent (l.set k A) (l.set k B) := by
 induction l generalizing k with
 | nil => exact Ent.refl _
 | cons C l ih =>
  cases k with
  | zero => exact fun x s => dd x h (fun _ y => y) s
  | succ k => exact fun x s => dd x (fun _ y => y) (ih k) s
theorem vQ {T sz n D c : Nat} {a : Option Addr} {cs u : List Value} (h1 : n = D) (I : cs = u) : ∀ x, Row T sz a n c cs x → Row T sz a D c u x := by
 subst h1; subst I; exact fun _ x => x
theorem iG {x y : Operand} {t e : Nat} {u : List Value} {a a2 : Option Addr} {c c2 : Nat} {l m : List UInt8} (k : Nat) (D : op.op = .call { callee := .builtin .append, args := #[x, y], argTypes := #[t, t] })
  (I : ev E x = some (.slice a l.length c)) (J : ev E y = some (.slice a2 m.length c2)) (U : K.P.underlying t = some (.slice e)) (X : Elt K.P e 1 1 u) (hk : H[k]? = some (Row e 1 a l.length c (aL l)))
  (hr : Rds (H.eraseIdx k) a2 (aL m)) (hb : (l.length + m.length) * 1 ≤ 140737488355328) :
  RE K (Y := Option Addr × Nat) op E H (fun y => .slice y.1 (l ++ m).length y.2) (fun y => H.set k (Row e 1 y.1 (l ++ m).length y.2 (aL (l ++ m)))) :=
 pR (tD k D I J U X hk hr (by rw [eJ, Nat.mul_one]) (vR m) hb) (fun y => by simp) fun y => Ent.set k (vQ (by simp) (by
  rw [rb, Nat.mul_one, List.take_of_length_le (by rw [eJ]; exact Nat.le_refl _)]))
theorem pG {x y : Operand} {t e : Nat} {k D : IntKind} {n c : Int} (I : op.op = .makeSlice t x y) (J : ev E x = some (.int k n)) (U : ev E y = some (.int D c)) (X : K.P.underlying t = some (.slice e)) (hE : Elt K.P e 1 1 [.int .u8 0])
  (h0 : 0 ≤ n) (h1 : n ≤ c) (hb : c * 1 ≤ 140737488355328) :
  RE K (Y := Nat) op E H (fun b => .slice (some ⟨b, 0, none⟩) (List.replicate n.toNat (0 : UInt8)).length c.toNat) (fun b => Row e 1 (some ⟨b, 0, none⟩) (List.replicate n.toNat (0 : UInt8)).length c.toNat (aL (List.replicate n.toNat (0 : UInt8))) :: H) :=
 pR (Bx I J U X hE h0 h1 hb) (fun y => by simp) fun y => Ent.sel' 0 rfl (fun h x => by
  rcases x with ⟨x, _⟩ | ⟨b, off, pre, junk, fz, e1, ok, u⟩
  ·cases x
  ·cases e1
   have an : n.toNat ≤ c.toNat := by omega
   have hl := ok.room
   have e2 : List.replicate c.toNat (Value.int .u8 0) = aL (List.replicate n.toNat (0 : UInt8)) ++ List.replicate (c.toNat - n.toNat) (Value.int .u8 0) := by
    rw [← zz, List.replicate_append_replicate]; congr 1; omega
   rw [e2] at u
   refine .inr ⟨_, _, pre, List.replicate (c.toNat - n.toNat) (Value.int .u8 0) ++ junk, fz, rfl, ⟨ok.offs, by simp; omega, ok.cap, by simp [eJ]; omega, by simp [eJ], by simp [eJ]; omega, ok.fzok⟩, ?_⟩
   rw [u]
   simp) (Ent.refl _)
theorem sV {t e len : Nat} {l : List (Nat × Operand)} {vs : List (Nat × Value)} {cs : List Value} (bs : List UInt8) (I : op.op = .buildSlice t len l.toArray) (J : evP l E = some vs) (U : K.P.underlying t = some (.slice e)) (X : Elt K.P e 1 1 [.int .u8 0])
  (hb : Nat.ble (len * 1) 16777216 = true) (hf : Instr.fill (fun i => some (i * 1, 1)) ((Array.range (len * 1)).map ([Value.int .u8 0].toArray[· % [Value.int .u8 0].toArray.size]!)) vs = some cs.toArray) (h0 : Nat.blt 0 (len * 1) = true) (D : bs.length = len) (u : cs = aL bs) :
  RE K (Y := Nat) op E H (fun b => .slice (some ⟨b, 0, none⟩) bs.length len) (fun b => Row e 1 (some ⟨b, 0, none⟩) bs.length len (aL bs) :: H) :=
 pR (zw I J U X hb hf h0 (by rw [u, eJ, D, Nat.mul_one])) (fun y => by rw [D]) fun y => Ent.sel' 0 rfl (vQ D.symm u) (Ent.refl _)
theorem BI {t e : Nat} (u : op.op = .buildSlice t 0 [].toArray) (D : K.P.underlying t = some (.slice e)) (I : Elt K.P e 1 1 [.int .u8 0]) :
  RE K (Y := Nat) op E H (fun b => .slice (some ⟨b, 0, none⟩) ([] : List UInt8).length 0) (fun b => Row e 1 (some ⟨b, 0, none⟩) ([] : List UInt8).length 0 (aL ([] : List UInt8)) :: H) :=
 jK (by rw [u]; intro c h; cases h) fun a' w he s => by
  obtain ⟨i, z, hi, hz, J, U, X⟩ := I.info
  refine ⟨w.heap.size, { w with heap := w.heap.push (.cells #[] e (0, 0)) }, ?_, (s.new _).ent (Ent.sel' 0 rfl ?_ (Ent.refl _))⟩
  ·unfold execOp; simp only [u]
   simp [Instr.buildSlice, underlying, program, Sem.run, D, sizeOf, typeInfo, hi, newRow, newObj, Instr.fill]
   refine congrArg (fun x => w.alloc (.cells x e)) ?_
   apply Array.ext <;> simp
  ·intro h x
   exact Row.mk (pre := []) (junk := []) (fz := (0, 0)) ⟨rfl, Nat.le_refl _, by simp [maxLen], by simp [aL], by simp, by simp [aL], Or.inl rfl⟩ h (by simpa [pts, aL] using x)
theorem Aq {x y : Operand} {t t2 e : Nat} {D : List Value} {a a2 : Option Addr} {c c2 : Nat} {l m : List UInt8} (k : Nat) (I : op.op = .call { callee := .builtin .copy, args := #[x, y], argTypes := #[t, t2] })
  (J : ev E x = some (.slice a l.length c)) (U : ev E y = some (.slice a2 m.length c2)) (X : K.P.underlying t = some (.slice e)) (hE : Elt K.P e 1 1 D) (hk : H[k]? = some (Row e 1 a l.length c (aL l))) (hr : Rds H a2 (aL m)) :
  RE K (Y := Unit) op E H (fun _ => .int .i64 (min m.length l.length : Nat)) (fun _ => H.set k (Row e 1 a (mX l m).length c (aL (mX l m)))) :=
 pR (BU (news := aL (m.take l.length)) k I J U X hE hk (fun h s => by
  rcases hr h s with e | ⟨b, off, ha, l', T, fz, h1, h2⟩
  ·left; rw [← nf, e]; simp
  ·refine .inr ⟨b, off, ha, l', T, fz, h1, fun j v u => h2 j v ?_⟩
   rw [← nf, List.getElem?_take] at u
   split at u
   ·exact u
   ·cases u) (by rw [eJ, List.length_take, Nat.mul_one, Nat.min_comm]) (vR _)) (fun _ => rfl) fun _ => Ent.set k (vQ (mq l m).symm (by
  rw [ly _ _ _ (by simp [eJ]; omega)]
  unfold mX
  rw [rb]
  simp only [List.take_zero, List.nil_append, Nat.zero_add, eJ, List.length_take]
  rw [← ov]
  congr 1
  by_cases h : l.length ≤ m.length
  ·rw [Nat.min_eq_left h, List.drop_of_length_le (by rw [eJ]; exact Nat.le_refl _), List.drop_of_length_le (by rw [eJ]; exact h)]
  ·rw [Nat.min_eq_right (by omega)]))
end
section
variable {K : Cx} {R S Y : Type} {Q : eM R} {E : Env} {H : List HA} {o : Option R} {ops : Array Oper} {rest : List Oper} {op : Oper} {cd : Code}
theorem kj {T : TypeId} {sz n c : Nat} {a : Option Addr} {cs : List Value} (k : Nat) (J : H[k]? = some (Row T sz a n c cs)) (h : Rd (Row T sz a n c cs) a cs → n ≤ c → c ≤ maxLen → n * sz ≤ cs.length → Sim K Q cd E H o) : Sim K Q cd E H o := by
 intro r u U w D I
 exact bw (rest := []) (ops := #[]) (Q := fun r e a w => cd.wpIn (fen K.ro) 0 K.P (Q r) a w) k J (fun h1 X h3 h4 r u a w D I => h h1 X h3 h4 r u a w D I) r u U w D I
theorem rz {d : Nat} {v : Value} (J : Value) (U : lk E d = some v) (X : v = J) (h : cx K Q ops rest ((d, J) :: E) H o) : cx K Q ops rest E H o := by
 intro r hr a w I hs
 refine h r hr a w ⟨I.size, I.defers, fun i u D => ?_⟩ hs
 simp only [lk] at D
 cases hb : Nat.beq d i with
 | true =>
  obtain rfl := Nat.eq_of_beq_eq_true hb
  rw [hb] at D
  simp only [cond_true, Option.some.injEq] at D
  rw [← D, ← X]
  exact I.get _ _ U
 | false =>
  rw [hb] at D
  exact I.get i u D
theorem sY {a : Option Addr} {n u c : Nat} (h : n = u) : Value.slice a n c = .slice a u c := by rw [h]
theorem yA {j dj d : Nat} {u b : Bool} (U : op.guard = some (j, u)) (X : ((ops[j]?).bind (·.dst)) = some dj) (hb : lk E dj = some (.bool b)) (hw : (b == u) = false)
  (hd : op.dst = some d) (hn : Nat.blt d K.n = true) (h : cx K Q ops rest ((d, undef) :: E) H o) : cx K Q ops (op :: rest) E H o := by
 intro r D a w J hs
 refine wpListIn_step fun K' I => ?_
 rw [lX J U X hb, hw]
 simp only [Bool.false_eq_true, if_false]
 refine ⟨fun f _ => iU _ _, I _ _ ?_⟩
 rw [hd]
 exact h r D _ w (J.put undef hn) hs
theorem cQ {j dj d : Nat} {u : Bool} (U : op.guard = some (j, u)) (X : ((ops[j]?).bind (·.dst)) = some dj) (hb : lk E dj = some undef)
  (hd : op.dst = some d) (hn : Nat.blt d K.n = true) (h : cx K Q ops rest ((d, undef) :: E) H o) : cx K Q ops (op :: rest) E H o := by
 intro r D a w J hs
 refine wpListIn_step fun K' I => ?_
 have : Region.wanted op (yielded ops a.tmps) = false := by
  simp only [Region.wanted, U, yielded, X, Option.bind_some, J.get _ _ hb]
  rfl
 rw [this]
 simp only [Bool.false_eq_true, if_false]
 refine ⟨fun f _ => iU _ _, I _ _ ?_⟩
 rw [hd]
 exact h r D _ w (J.put undef hn) hs
end
structure Ab (a : Option Addr) (c : Nat) (lo : Int) (a' : Option Addr) (c' : Nat) : Prop where
 addr : a' = (if c = lo.toNat then a else a.map (·.add (lo.toNat * 1)))
 cap : c' = c - lo.toNat
theorem lf {F : HA} {a : Option Addr} {l : List UInt8} {c : Nat} {lo hi : Int} (J : Rd F a (aL l)) (D : l.length ≤ c) (U : 0 ≤ lo ∧ lo ≤ hi ∧ hi ≤ l.length) :
  ∃ I u, Ab a c lo I u ∧ Rd F I (aL (cut l lo hi)) ∧ (cut l lo hi).length ≤ u ∧ u ≤ c :=
 ⟨_, _, ⟨rfl, rfl⟩, J.sub lo hi (c := c) (by omega), by rw [kC U.2.2]; omega, by omega⟩
section
variable {K : Cx} {R S Y : Type} {Q : eM R} {E : Env} {H : List HA} {o : Option R} {ops : Array Oper} {rest : List Oper} {op : Oper}
theorem lS {x : Operand} {t e : Nat} {lo hi : Option Operand} {a J : Option Addr} {c U : Nat} {l : List UInt8} {D I : Option Value} {lo' hi' : Int}
  (ho : op.op = .slice t x lo hi none) {n : Nat} (hx : ev E x = some (.slice a n c))
  (hl : lim E lo = some D) (hh : lim E hi = some I) (hu : K.P.underlying t = some (.slice e)) (hs : ∀ w, (sizeOf e).run K.P w = .ok 1 w)
  (h1 : (I = none ∧ hi' = n) ∨ ∃ k, I = some (.int k hi')) (h2 : (D = none ∧ lo' = 0) ∨ ∃ k, D = some (.int k lo')) (hb : 0 ≤ lo' ∧ lo' ≤ hi' ∧ hi' ≤ l.length) (X : l.length ≤ c) (hS : Ab a c lo' J U) :
  RQ K op E H (.slice J (cut l lo' hi').length U) := by
 obtain ⟨b1, b2, b3⟩ := hb
 obtain ⟨rfl, rfl⟩ := hS
 obtain ⟨L, rfl⟩ := Int.eq_ofNat_of_zero_le b1
 obtain ⟨M, rfl⟩ := Int.eq_ofNat_of_zero_le (Int.le_trans b1 b2)
 have u := kC (l := l) (lo := (L : Int)) (hi := (M : Int)) b3
 simp only [Int.toNat_natCast] at u
 have q := wX (K := K) (H := H) (o := op) (l := L) (h := M) ho hx hl hh hu hs (by rcases h1 with ⟨x, y⟩ | y; exact .inl ⟨x, by omega⟩; exact .inr y) (by rcases h2 with ⟨x, y⟩ | y; exact .inl ⟨x, by omega⟩; exact .inr y) (by omega) (by omega)
 rw [← u] at q
 simpa using q
end
theorem zf {t : Int} (h : 0 ≤ t ∧ t < 256) : [Value.int .u8 t] = aL [hJ t] := by simp [aL, kG h.1 h.2]
end Go.Proofs.YtndjkejhacfpdaaGreatDoor

namespace Go.Proofs.YtndjkejhacfpdaaGreatDoor
open Go.RowKit

theorem wH {F : Fence} {n : Nat} {P : Program} {o : Oper} {a : Act} {Q : Exit → Act → World → Prop} {I J : Act → World → Prop} (h : ∀ a w, I a w → J a w) : ∀ r, o.uponIn F n P a I Q r → o.uponIn F n P a J Q r := by
 intro r u
 cases r with
 | ok nxt w' =>
  cases nxt with
  | value v => exact h _ _ u
  | skip => exact h _ _ u
  | defer d => exact h _ _ u
  | enter f args =>
   refine ⟨u.1, u.2.mono ?_⟩
   intro e D x
   cases e with
   | returned v => exact h _ _ x
   | panicked c => exact x
   | outgrown => exact x
  | row row args => exact ⟨u.1, u.2.mono fun v D x => h _ _ x⟩
  | round l f tmps assign body =>
   refine ⟨u.1, u.2.mono ?_⟩
   intro e D x
   cases e with
   | returned v => exact h _ _ x
   | panicked c => exact x
   | outgrown => exact x
  | _ => exact u.elim
 | halt h w' => cases h <;> first | exact u | exact u.elim

def kU (ops : Array Oper) (i : Nat) : List Nat := ((ops[i]?).map fun o => (o.after.toList.filter (Region.binds .any)).map (·.on)).getD []
def fk (ops : Array Oper) (i : Nat) : Option Nat := (ops[i]?).bind (·.dst)
def ie (u : List (List Nat)) (i : Nat) : List Nat := u.getD i []
def uI (ops : Array Oper) : Bool := (List.range ops.size).all fun i => (kU ops i).all fun p => Nat.blt p i
def xY (ops : Array Oper) (u : List (List Nat)) : Bool := (List.range ops.size).all fun i => (ie u i).all fun p => (kU ops i).any fun q => Nat.beq q p || (ie u q).contains p
theorem tb {ops : Array Oper} (h : uI ops = true) {i p : Nat} (hp : p ∈ kU ops i) : p < i := by
 by_cases hi : i < ops.size
 ·have := List.all_eq_true.1 h i (by simpa using hi)
  have := List.all_eq_true.1 this p hp
  simpa [Nat.blt_eq] using this
 ·have : ops[i]? = none := Array.getElem?_eq_none (by omega)
  simp [kU, this] at hp
theorem pu {ops : Array Oper} {u : List (List Nat)} (J : uI ops = true) (U : xY ops u = true) (hz : u.length ≤ ops.size) {L : List Nat} (X : ∀ i, i ∈ L → ∀ p, p ∈ kU ops i → p ∈ L) :
  ∀ i, (∀ p, p ∈ kU ops i → p ∈ L) → ∀ p, p ∈ ie u i → p ∈ L := by
 intro i
 induction i using Nat.strongRecOn with
 | _ i ih =>
  intro hd p hp
  by_cases hi : i < ops.size
  ·have := List.all_eq_true.1 U i (by simpa using hi)
   have := List.all_eq_true.1 this p hp
   obtain ⟨q, I, D⟩ := List.any_eq_true.1 this
   rw [Bool.or_eq_true] at D
   rcases D with e | e
   ·obtain rfl := Nat.eq_of_beq_eq_true e
    exact hd _ I
   ·exact ih q (tb J I) (X q (hd q I)) p (by simpa using e)
  ·have : ie u i = [] := by
    unfold ie
    rw [List.getD_eq_getElem?_getD, List.getElem?_eq_none (by omega)]; rfl
   rw [this] at hp
   cases hp

/-! ### The orders that the edges allow -/
def go' (ops : Array Oper) : Nat → Nat → Array Bool → List Nat
 | 0, _, _ => []
 | fuel + 1, t, listed =>
  let rs := (List.range ops.size).filter fun i =>
   !listed.getD i true && ((ops[i]?).map (·.after.all fun e => !Region.binds .any e || listed.getD e.on false)).getD false
  match rs[t % rs.length]? with
  | some i => i :: go' ops fuel (t / rs.length) (listed.setIfInBounds i true)
  | none => []
theorem C6 (ops : Array Oper) : ∀ D t u acc, Region.linearise.go .any ops D t u acc = acc.reverse ++ go' ops D t u := by
 intro D
 induction D with
 | zero => intro t u acc; simp [Region.linearise.go, go']
 | succ D ih =>
  intro t u acc
  simp only [Region.linearise.go, go']
  split
  ·rename_i i h
   simp only [h]
   rw [ih]
   simp
  ·rename_i h
   simp only [h]
   simp
theorem uJ (ops : Array Oper) (t : Nat) : Region.schedule true ops t = go' ops ops.size t (Array.replicate ops.size false) := by
 simp only [Region.schedule, Bool.true_or, if_true, Region.linearise]
 rw [C6]; simp

theorem uK {F : Fence} {n : Nat} {P : Program} {ops : Array Oper} {Q : Exit → Act → World → Prop} (ab : List Nat → Act → World → Prop) (ho : uI ops = true)
  (hs : ∀ i o L a w, ops[i]? = some o → i ∉ L → (∀ p, p ∈ kU ops i → p ∈ L) → (∀ i, i ∈ L → ∀ p, p ∈ kU ops i → p ∈ L) → ab L a w →
   if Region.wanted o (yielded ops a.tmps) then o.wpIn F n P a w (fun a' w' => ab (i :: L) a' w') Q else (∀ f, o.about P w a.eval = some f → F.fn f) ∧ ab (i :: L) (a.put o.dst undef) w)
  (he : ∀ L a w, (∀ i, i < ops.size → i ∈ L) → ab L a w → Q .normal a w) :
  ∀ J t u (L : List Nat) a w, u.size = ops.size → (∀ i, i < ops.size → (u.getD i false = true ↔ i ∈ L)) → (∀ i, i ∈ L → ∀ p, p ∈ kU ops i → p ∈ L) → (∀ i, i ∈ L → i < ops.size) →
   ((List.range ops.size).filter fun i => !u.getD i false).length ≤ J → ab L a w → wpOpsIn F n P ops Q (go' ops J t u) a w := by
 intro J
 induction J with
 | zero =>
  intro t u L a w ad hl hc hb hf hi
  simp only [go', wpOpsIn]
  refine he L a w (fun i hi => ?_) hi
  have h0 : (List.range ops.size).filter (fun i => !u.getD i false) = [] := List.eq_nil_of_length_eq_zero (by omega)
  rw [List.filter_eq_nil_iff] at h0
  have := h0 i (by simpa using hi)
  exact (hl i hi).1 (by simpa using this)
 | succ J ih =>
  intro t u L a w ad hl hc hb hf hi
  simp only [go']
  split
  ·rename_i i h
   have a1 := List.mem_of_getElem? h
   rw [List.mem_filter] at a1
   obtain ⟨hr, D⟩ := a1
   have I : i < ops.size := by simpa using hr
   rw [Bool.and_eq_true] at D
   have al : u.getD i true = u.getD i false := by
    simp [Array.getD, ad, I]
   have br : i ∉ L := by
    intro hx
    have := (hl i I).2 hx
    rw [al, this] at D
    simp at D
   have X : ops[i]? = some ops[i] := Array.getElem?_eq_getElem I
   have a6 : ∀ p, p ∈ kU ops i → p ∈ L := by
    intro p hp
    have h2 := D.2
    rw [X] at h2
    simp only [Option.map_some, Option.getD_some] at h2
    simp only [kU, X, Option.map_some, Option.getD_some, List.mem_map, List.mem_filter] at hp
    obtain ⟨e, ⟨b0, b1⟩, rfl⟩ := hp
    have h3 := Array.all_eq_true_iff_forall_mem.1 h2 e (by simpa using b0)
    rw [b1] at h3
    have an : e.on < ops.size := Nat.lt_trans (tb ho (i := i) (by simp only [kU, X, Option.map_some, Option.getD_some, List.mem_map, List.mem_filter]; exact ⟨e, ⟨b0, b1⟩, rfl⟩)) I
    exact (hl _ an).1 (by simpa using h3)
   have U := hs i ops[i] L a w X br a6 hc hi
   have nx : ∀ a' w', ab (i :: L) a' w' → wpOpsIn F n P ops Q (go' ops J (t / ((List.range ops.size).filter fun i =>
     !u.getD i true && ((ops[i]?).map (·.after.all fun e => !Region.binds .any e || u.getD e.on false)).getD false).length) (u.setIfInBounds i true)) a' w' := by
    intro a' w' hi'
    refine ih _ _ (i :: L) a' w' (by simp [ad]) ?_ ?_ ?_ ?_ hi'
    ·intro j hj
     simp only [Array.getD_eq_getD_getElem?, Array.getElem?_setIfInBounds]
     by_cases e : i = j
     ·subst e; simp [ad, I]
     ·have b2 := hl j hj
      simp only [Array.getD_eq_getD_getElem?] at b2
      simp [e, b2, Ne.symm e]
    ·intro j hj p hp
     rcases List.mem_cons.1 hj with rfl | hj
     ·exact List.mem_cons_of_mem _ (a6 p hp)
     ·exact List.mem_cons_of_mem _ (hc j hj p hp)
    ·intro j hj
     rcases List.mem_cons.1 hj with rfl | hj
     ·exact I
     ·exact hb j hj
    ·have an : ((List.range ops.size).filter fun j => !(u.setIfInBounds i true).getD j false).length < ((List.range ops.size).filter fun j => !u.getD j false).length := by
      have e1 : ((List.range ops.size).filter fun j => !(u.setIfInBounds i true).getD j false) = ((List.range ops.size).filter fun j => !u.getD j false).filter fun j => !Nat.beq j i := by
       rw [List.filter_filter]
       apply List.filter_congr
       intro j hj
       simp only [Array.getD_eq_getD_getElem?, Array.getElem?_setIfInBounds]
       by_cases e : i = j
       ·subst e; simp [ad, I]
       ·have : Nat.beq j i = false := by rw [Bool.eq_false_iff]; intro x; exact e (Nat.eq_of_beq_eq_true x).symm
        simp [e, this]
      rw [e1]
      have b7 : i ∈ (List.range ops.size).filter fun j => !u.getD j false := by
       rw [List.mem_filter]
       refine ⟨hr, ?_⟩
       rw [← al]; exact D.1
      exact List.length_filter_lt_length_iff_exists.2 ⟨i, b7, by simp⟩
     omega
   simp only [wpOpsIn, X]
   split
   ·rename_i hw
    rw [if_pos hw] at U
    exact ⟨U.1, wH nx _ U.2⟩
   ·rename_i hw
    rw [if_neg hw] at U
    exact ⟨U.1, nx _ _ U.2⟩
  ·rename_i h
   -- nothing is ready: all is done
   refine he L a w (fun i hi => ?_) hi
   have a7 : ((List.range ops.size).filter fun i => !u.getD i true && ((ops[i]?).map (·.after.all fun e => !Region.binds .any e || u.getD e.on false)).getD false) = [] := by
    cases hrs : ((List.range ops.size).filter fun i => !u.getD i true && ((ops[i]?).map (·.after.all fun e => !Region.binds .any e || u.getD e.on false)).getD false) with
    | nil => rfl
    | cons x xs =>
     rw [hrs] at h
     rw [List.getElem?_eq_none_iff] at h
     have := Nat.mod_lt t (show 0 < (x :: xs).length by simp)
     omega
   rw [List.filter_eq_nil_iff] at a7
   -- by induction every operation is listed
   have key : ∀ i, i < ops.size → i ∈ L := by
    intro i
    induction i using Nat.strongRecOn with
    | _ i ih2 =>
     intro hi
     have h1 := a7 i (by simpa using hi)
     refine Classical.byContradiction fun b9 => h1 ?_
     have al : u.getD i true = u.getD i false := by simp [Array.getD, ad, hi]
     have hf : u.getD i false = false := by
      rw [Bool.eq_false_iff]; intro x; exact b9 ((hl i hi).1 x)
     have X : ops[i]? = some ops[i] := Array.getElem?_eq_getElem hi
     rw [al, hf, X]
     simp only [Bool.not_false, Bool.true_and, Option.map_some, Option.getD_some]
     rw [Array.all_eq_true_iff_forall_mem]
     intro e he
     cases hb2 : Region.binds .any e with
     | false => rfl
     | true =>
      have hp : e.on ∈ kU ops i := by
       simp only [kU, X, Option.map_some, Option.getD_some, List.mem_map, List.mem_filter]
       exact ⟨e, ⟨by simpa using he, hb2⟩, rfl⟩
      have an := tb ho hp
      have := (hl _ (by omega)).2 (ih2 _ an (by omega))
      simp [this]
   exact key i hi

/-! ### The region as a step of a simulation -/
def All (l : List Nat) (p : Nat → Prop) : Prop :=
 match l with
 | [] => True
 | i :: l => p i ∧ All l p
theorem All.nil {p : Nat → Prop} : All [] p := trivial
theorem All.cons {l : List Nat} {p : Nat → Prop} {i : Nat} (h : p i) (r : All l p) : All (i :: l) p := ⟨h, r⟩
theorem All.mem {l : List Nat} {p : Nat → Prop} (h : All l p) {i : Nat} (hi : i ∈ l) : p i := by
 induction l with
 | nil => cases hi
 | cons j l ih =>
  rcases List.mem_cons.1 hi with rfl | hi
  ·exact h.1
  ·exact ih h.2 hi
def kp (l : List Nat) (f g : Nat → Value) : Prop :=
 match l with
 | [] => True
 | i :: l => f i = g i ∧ kp l f g
theorem kp.mem {l : List Nat} {f g : Nat → Value} (h : kp l f g) {i : Nat} (hi : i ∈ l) : f i = g i := by
 induction l with
 | nil => cases hi
 | cons j l ih =>
  rcases List.mem_cons.1 hi with rfl | hi
  ·exact h.1
  ·exact ih h.2 hi
def iu (ops : Array Oper) (val : Nat → Value) (E : Env) : List Nat → Env
 | [] => E
 | i :: L => match fk ops i with
  | some d => (d, val i) :: iu ops val E L
  | none => iu ops val E L
theorem nF {ops : Array Oper} {f g : Nat → Value} {E : Env} : ∀ L, (∀ i, i ∈ L → f i = g i) → iu ops f E L = iu ops g E L
 | [], _ => rfl
 | i :: L, h => by
  simp only [iu]
  rw [nF L (fun j u => h j (List.mem_cons_of_mem _ u)), h i List.mem_cons_self]
def pq (ops : Array Oper) : Bool := (List.range ops.size).all fun i => (List.range ops.size).all fun j => Nat.beq i j || (match fk ops i, fk ops j with | some a, some b => !Nat.beq a b | _, _ => true)
theorem BD {ops : Array Oper} (h : pq ops = true) {i j d : Nat} (hi : fk ops i = some d) (u : fk ops j = some d) : i = j := by
 have I : i < ops.size := by
  refine Classical.byContradiction fun x => ?_
  have : ops[i]? = none := Array.getElem?_eq_none (by omega)
  simp [fk, this] at hi
 have J : j < ops.size := by
  refine Classical.byContradiction fun x => ?_
  have : ops[j]? = none := Array.getElem?_eq_none (by omega)
  simp [fk, this] at u
 have h1 := List.all_eq_true.1 h i (by simpa using I)
 have D := List.all_eq_true.1 h1 j (by simpa using J)
 rw [hi, u, Bool.or_eq_true] at D
 rcases D with e | e
 ·exact Nat.eq_of_beq_eq_true e
 ·have : Nat.beq d d = true := by simp
  simp [this] at e
theorem nZ {ops : Array Oper} (hd : pq ops = true) {val : Nat → Value} {E : Env} {p s : Nat} (hp : fk ops p = some s) : ∀ L, p ∈ L → lk (iu ops val E L) s = some (val p)
 | i :: L, h => by
  simp only [iu]
  cases hi : fk ops i with
  | none =>
   rcases List.mem_cons.1 h with rfl | h
   ·rw [hi] at hp; cases hp
   ·exact nZ hd hp L h
  | some d =>
   simp only [lk]
   cases hb : Nat.beq d s with
   | true =>
    obtain rfl := Nat.eq_of_beq_eq_true hb
    rw [BD hd hi hp]; rfl
   | false =>
    rcases List.mem_cons.1 h with rfl | h
    ·rw [hi] at hp; cases hp; simp at hb
    ·simpa using nZ hd hp L h
theorem ph {ops : Array Oper} {val : Nat → Value} {E : Env} {s : Nat} : ∀ L, (∀ i, i ∈ L → fk ops i ≠ some s) → lk (iu ops val E L) s = lk E s
 | [], _ => rfl
 | i :: L, h => by
  simp only [iu]
  have u := ph (val := val) (E := E) L fun j D => h j (List.mem_cons_of_mem _ D)
  cases hi : fk ops i with
  | none => exact u
  | some d =>
   simp only [lk]
   have : Nat.beq d s = false := by
    rw [Bool.eq_false_iff]; intro x
    obtain rfl := Nat.eq_of_beq_eq_true x
    exact h i List.mem_cons_self hi
   rw [this]; exact u
inductive gm (ops : Array Oper) (anc : List (List Nat)) (val : Nat → Value) (E : Env) (i : Nat) : Env → Prop
 | nil : gm ops anc val E i []
 | w {l : Env} {s : Nat} {v : Value} (p : Nat) (hp : (ie anc i).contains p = true) (hd : fk ops p = some s) (hv : val p = v) (r : gm ops anc val E i l) : gm ops anc val E i ((s, v) :: l)
 | o {l : Env} {s : Nat} {v : Value} (h : lk E s = some v) (hw : ((List.range ops.size).all fun q => (match fk ops q with | some d => !Nat.beq d s | none => true) || Nat.beq q i || (ie anc q).contains i) = true) (r : gm ops anc val E i l) : gm ops anc val E i ((s, v) :: l)
theorem gm.sub {ops : Array Oper} {u : List (List Nat)} {val : Nat → Value} {E : Env} {i : Nat} {J : Env} (h : gm ops u val E i J) (hd : pq ops = true) {L : List Nat} (hi : i ∉ L) (U : ∀ j, j ∈ L → j < ops.size)
  (h1 : ∀ p, p ∈ ie u i → p ∈ L) (X : ∀ q, q ∈ L → ∀ p, p ∈ ie u q → p ∈ L) : Sub J (iu ops val E L) := by
 induction h with
 | nil => trivial
 | w p hp hdst hv r ih => exact ⟨by rw [nZ hd hdst L (h1 p (by simpa using hp)), hv], ih⟩
 | @o l s v h hw r ih =>
  refine ⟨?_, ih⟩
  rw [ph L fun q D => ?_]
  ·exact h
  ·intro I
   have := List.all_eq_true.1 hw q (by simpa using U q D)
   rw [I] at this
   simp only [Bool.or_eq_true, Bool.not_eq_true', Nat.beq_eq] at this
   rcases this with (e | e) | e
   ·simp at e
   ·have e := Nat.eq_of_beq_eq_true (by simpa using e); subst e; exact hi D
   ·exact hi (X q D i (by simpa using e))
section
variable {K : Cx} {R S Y : Type} {Q : eM R} {E : Env} {H : List HA} {o : Option R}
def QOb (K : Cx) (ops : Array Oper) (J : List (List Nat)) (val : Nat → Value) (E : Env) (H : List HA) (i : Nat) : Prop :=
 ∃ D, ops[i]? = some D ∧ ∃ I, gm ops J val E i I ∧
  ((D.guard = none ∧ RQ K D I H (val i)) ∨
   (∃ j u dj, D.guard = some (j, u) ∧ fk ops j = some dj ∧ ((∃ b v, lk I dj = some (.bool b) ∧ val i = cv (b == u) v ∧ ((b == u) = true → RQ K D I H v)) ∨ (lk I dj = some undef ∧ val i = undef))))
theorem QOb.plain {ops : Array Oper} {u : List (List Nat)} {val : Nat → Value} {i : Nat} {D : Oper} {v : Value} (I : Env) (J : ops[i]? = some D) (U : D.guard = none) (X : gm ops u val E i I) (h : RQ K D I H v) (hv : val i = v) : QOb K ops u val E H i :=
 ⟨D, J, I, X, .inl ⟨U, by rw [hv]; exact h⟩⟩
theorem QOb.grd {ops : Array Oper} {D : List (List Nat)} {val : Nat → Value} {i j dj : Nat} {u b : Bool} {v : Value} {I : Oper} (J : Env) (U : ops[i]? = some I) (X : I.guard = some (j, u)) (hj : fk ops j = some dj) (hb : lk J dj = some (.bool b))
  (he : gm ops D val E i J) (h : (b == u) = true → RQ K I J H v) (hv : val i = cv (b == u) v) : QOb K ops D val E H i :=
 ⟨I, U, J, he, .inr ⟨j, u, dj, X, hj, .inl ⟨b, v, hb, hv, h⟩⟩⟩
def GOk (ops : Array Oper) (D : Oper) (I : Env) : Prop :=
 D.guard = none ∨ ∃ j u dj b, D.guard = some (j, u) ∧ fk ops j = some dj ∧ lk I dj = some (.bool b) ∧ (b == u) = true
def EOb (K : Cx) (ops : Array Oper) (u : List (List Nat)) {Γ : Type} (val : Γ → Nat → Value) (E : Env) (heap : Nat → Γ → List HA) (m i : Nat) (pre : List Nat) (γ : Γ) : Prop :=
 ∃ D, ops[i]? = some D ∧ ∃ I, gm ops u (val γ) E i I ∧ GOk ops D I ∧
  RE K (Y := { γ' : Γ // kp pre (val γ') (val γ) }) D I (heap m γ) (fun γ' => val γ'.1 i) (fun γ' => heap (m + 1) γ'.1)
theorem EOb.gen {ops : Array Oper} {u : List (List Nat)} {Γ Z : Type} {val : Γ → Nat → Value} {heap : Nat → Γ → List HA} {m i : Nat} {pre : List Nat} {γ : Γ} {D : Oper} {v : Z → Value} {H' : Z → List HA} (I : Env) (f : Z → Γ) (J : ops[i]? = some D) (U : GOk ops D I) (X : gm ops u (val γ) E i I)
  (h : RE K (Y := Z) D I (heap m γ) v H') (ha : ∀ z, kp pre (val (f z)) (val γ)) (hv : ∀ z, D.dst = none ∨ v z = val (f z) i) (hH : ∀ z, Ent (H' z) (heap (m + 1) (f z))) : EOb K ops u val E heap m i pre γ :=
 ⟨D, J, I, X, U, fun a w hh hs next Q hn => h a w hh hs next Q fun z w' s => by
  have := hn ⟨f z, ha z⟩ w' (s.ent (hH z))
  rcases hv z with e | e
  ·rw [e] at this ⊢; exact this
  ·rw [e]; exact this⟩
theorem EOb.mk {ops : Array Oper} {u : List (List Nat)} {Γ Z : Type} {val : Γ → Nat → Value} {heap : Nat → Γ → List HA} {m i : Nat} {pre : List Nat} {γ : Γ} {D : Oper} {v : Z → Value} {H' : Z → List HA} (I : Env) (f : Z → Γ) (J : ops[i]? = some D) (U : D.guard = none) (X : gm ops u (val γ) E i I)
  (h : RE K (Y := Z) D I (heap m γ) v H') (ha : ∀ z, kp pre (val (f z)) (val γ)) (hv : ∀ z, D.dst = none ∨ v z = val (f z) i) (hH : ∀ z, Ent (H' z) (heap (m + 1) (f z))) : EOb K ops u val E heap m i pre γ :=
 EOb.gen I f J (.inl U) X h ha hv hH
def yS (ops : Array Oper) (u : List (List Nat)) (i : Nat) (pre : List Nat) : Bool := (List.range ops.size).all fun q => pre.contains q || Nat.beq q i || (ie u q).contains i
theorem Ac {ops : Array Oper} (hd : pq ops = true) {val : Nat → Value} {E : Env} {L u : List Nat} (h : ∀ i, i < ops.size → i ∈ L) (h' : ∀ i, i < ops.size → i ∈ u) (s : Nat) : lk (iu ops val E L) s = lk (iu ops val E u) s := by
 by_cases hw : ∃ p, fk ops p = some s
 ·obtain ⟨p, hp⟩ := hw
  have D : p < ops.size := by
   refine Classical.byContradiction fun x => ?_
   have : ops[p]? = none := Array.getElem?_eq_none (by omega)
   simp [fk, this] at hp
  rw [nZ hd hp L (h p D), nZ hd hp u (h' p D)]
 ·rw [ph L fun i _ e => hw ⟨i, e⟩, ph u fun i _ e => hw ⟨i, e⟩]
theorem Sub.congr {E E' : Env} (h : ∀ s, lk E s = lk E' s) : ∀ {D : Env}, Sub D E → Sub D E'
 | [], _ => trivial
 | (i, v) :: D, ⟨x, y⟩ => ⟨by rw [← h]; exact x, Sub.congr h y⟩
theorem pt {ops : Array Oper} {i : Nat} {o : Oper} (h : ops[i]? = some o) : i < ops.size := (Array.getElem?_eq_some_iff.1 h).1
theorem wW {n : Nat} {ds : List Deferred} {ops : Array Oper} {D : Oper} {I : Env} {a : Act} (h : Has n ds I a) (u : GOk ops D I) : Region.wanted D (yielded ops a.tmps) = true := by
 rcases u with u | ⟨j, J, dj, b, u, U, X, hw⟩
 ·simp [Region.wanted, u]
 ·rw [lX h u U X]; exact hw
end
end Go.Proofs.YtndjkejhacfpdaaGreatDoor

namespace Go.Proofs.YtndjkejhacfpdaaGreatDoor
open Go.RowKit

/-! ### 1. Marks -/
def mkD (D : Nat) : Deferred := { target := .collected D, args := #[] }
def mW (D : Nat) : HA := pts D (.deferred (some []))
theorem xf {P : Program} {fn : Func} {tmps : Array Value} {R : Ending → World → Prop} {W : World} {B : List HA}
  (I : ∀ w, Sat W B w → ∃ v, (results fn tmps).run P w = .ok v w ∧ R (.returned v) w) : ∀ (u : List Nat) (w : World), Sat W (u.map mW ++ B) w → LeavesInM Fence.wide 0 P fn tmps R (u.map mkD) .returning w
 | [], w, s => I w s
 | D :: u, w, s => ⟨by simp, .inl ⟨D, _, rfl, run_takeDeferred (s.pts_at (i := 0) rfl), xf I u _ ((s.upd (b := D) (o' := .deferred none)).ent (Ent.drop (Ent.refl _)))⟩⟩
def yn (K : Cx) {R Y : Type} (fn : Func) (val : R → Y → Value) (B : R → Y → List HA) : eM R := fun r e a w =>
 bodyPostM Fence.wide 0 K.P fn (fun e u => ∃ y, e = .returned (val r y) ∧ Sat K.W (B r y) u) e a w
section
variable {K : Cx} {R S Y : Type} {Q : eM R} {E : Env} {H : List HA} {o : Option R}
theorem Cz {fn : Func} {val : R → Y → Value} {B : R → Y → List HA} {r : R} {vs : List Value} (I : List Nat) (y : Y) (hd : K.ds = I.map mkD) (u : mE fn.results.toList E = some vs) (U : tup vs = val r y) (X : Ent H (I.map mW ++ B r y)) :
  ∀ D, some r = some D → ∀ a w, Has K.n K.ds E a → Sat K.W H w → LeavesInM Fence.wide 0 K.P fn a.tmps (fun e w' => ∃ y, e = .returned (val D y) ∧ Sat K.W (B D y) w') a.defers .returning w := by
 intro D hr a w J hs
 cases hr
 rw [J.defers, hd]
 exact xf (B := B r y) (fun w s => ⟨_, pB J u, y, by rw [U], s⟩) I w (hs.ent X)
theorem BA {fn : Func} {val : R → Y → Value} {B : R → Y → List HA} {r : R} {vs : List Value} (D : List Nat) (y : Y) (hd : K.ds = D.map mkD) (u : mE fn.results.toList E = some vs) (I : tup vs = val r y) (J : Ent H (D.map mW ++ B r y)) :
  Nrm K (yn K fn val B) E H (some r) := fun U X a w he hs => Cz D y hd u I J U X a w he hs
theorem qQ {fn : Func} {val : R → Y → Value} {B : R → Y → List HA} {r : R} {vs : List Value} (D : List Nat) (y : Y) (hd : K.ds = D.map mkD) (u : mE fn.results.toList E = some vs) (I : tup vs = val r y) (J : Ent H (D.map mW ++ B r y)) :
  Rtn K (yn K fn val B) E H (some r) := fun U X a w he hs => Cz D y hd u I J U X a w he hs
theorem tF {P : Program} {W : World} {f : FuncId} {args : List Value} {A : List HA} {F : HA} {o : Option R} {val : R → Y → Value} {B : R → Y → List HA}
  {fn : Func} {c : Code} (n : Nat) (u : P.funcs[f]? = some fn) (D : fn.body = some c) (I : fn.ntmps = n) (J : Nat.ble args.length n = true)
  (h : Sim ⟨P, W, none, n, []⟩ (yn ⟨P, W, none, n, []⟩ fn val fun r y => B r y ++ [F]) c (nW 0 args) (A ++ [F]) o) : Fn P W f args A F o val B := by
 intro r U w X
 refine (callsIn_wide (n := 0)).1 (callsIn_of_wp_marks u D trivial ?_ rfl)
 have := h r U _ w (mF args n (by simpa [Nat.ble_eq] using J)) X
 rw [I]
 exact this
end

/-! ### 2. Rounds and iterators -/
def ou {α S : Type} (u : S → α → Option S) : S → List α → Option S
 | s, [] => some s
 | s, x :: xs => (u s x).bind fun D => ou u D xs
def od (ps : List Nat) (vs : List Value) (t : Array Value) : Array Value := (ps.zip vs).foldl (fun tmps (t, a) => tmps.setIfInBounds t a) t
theorem tH (ps : Array Nat) (vs : List Value) (t : Array Value) : (ps.zip vs.toArray).foldl (fun tmps (t, a) => tmps.setIfInBounds t a) t = od ps.toList vs t := by
 unfold od
 rw [← Array.foldl_toList]
 simp
def td (P : Program) (W : World) (l : Nat) (rec : Loop) {α S Y : Type} (enc : α → List Value) (u : S → α → Option S) (D : S → Y → List HA) : Prop :=
 ∀ s x I y (Fr : HA) w, u s x = some I → Sat W (pts l (.loop rec) :: (D s y ++ [Fr])) w →
  RoundIn Fence.wide 0 P l rec.fn (od rec.params.toList (enc x) rec.tmps) rec.assign rec.body w fun e J => e = .returned (.bool true) ∧ ∃ U, Sat W (pts l (.loop rec) :: (D I U ++ [Fr])) J
def qP (P : Program) (W : World) (l : Nat) {α S Y : Type} (enc : α → List Value) (u : S → α → Option S) (A : S → Y → HA) : Prop :=
 ∀ s x D y (Fr : HA) w, u s x = some D → Sat W [A s y, Fr] w → ∃ f tmps assign body, (Instr.yield l (enc x).toArray).run P w = .ok (.round l f tmps assign body) w ∧
  RoundIn Fence.wide 0 P l f tmps assign body w fun e I => e = .returned (.bool true) ∧ ∃ J, Sat W [A D J, Fr] I
def itA (l : Nat) (rec : Loop) {S Y : Type} (u : S → Y → List HA) (s : S) (y : Y) : HA := bl (pts l (.loop rec) :: u s y)
theorem zj (L : List HA) (Fr : HA) : Ent (L ++ [Fr]) [bl L, Fr] := fun h s =>
 (dK [bl L] [Fr] h).2 (dd h (fun _ x => me x) (fun _ x => x) ((dK _ _ h).1 s))
theorem pM (L m : List HA) : Ent (bl L :: m) (L ++ m) := fun h s => (dK _ _ h).2 s
theorem yo {P : Program} {W : World} {l : Nat} {rec : Loop} {α S Y : Type} {enc : α → List Value} {D : S → α → Option S} {u : S → Y → List HA} (hR : td P W l rec enc D u) (hp : ∀ x, (enc x).length = rec.params.size) :
  qP P W l enc D (itA l rec u) := by
 intro s x J y Fr w hs I
 have U : Sat W (pts l (.loop rec) :: (u s y ++ [Fr])) w := I.ent (pM _ _)
 refine ⟨_, _, _, _, by rw [run_yield (U.pts_at (i := 0) rfl) (by simpa using hp x), tH], ?_⟩
 refine RoundIn.mono (hR s x J y Fr w hs U) ?_
 rintro e w' ⟨h1, X, s3⟩
 exact ⟨h1, X, s3.ent (zj (pts l (.loop rec) :: u J X) Fr)⟩
theorem pN (A : HA) (I : List HA) (Fr : HA) : Ent (A :: (I ++ [Fr])) (I ++ [bl [A, Fr]]) := fun h s => by
 refine (dK _ _ h).2 ?_
 have s : bA A (bl (I ++ [Fr])) h := s
 have u : bA A (bA (bl I) (bl [Fr])) h := dd h (fun _ x => x) (fun h x => (dK _ _ h).1 x) s
 rw [← bF, fW A, bF] at u
 exact dd h (fun _ x => x) (fun h x => me x) u
theorem nH (A : HA) (I : List HA) (Fr : HA) : Ent (I ++ [bl [A, Fr]]) (A :: (I ++ [Fr])) := fun h s => by
 have s := (dK _ _ h).1 s
 have u : bA (bl I) (bA A (bl [Fr])) h := dd h (fun _ x => x) (fun h (x : bA (bl [A, Fr]) tt h) => by
  rw [fW] at x
  exact gC [A, Fr] tt h x) s
 rw [← bF, fW _ A, bF] at u
 exact dd h (fun _ x => x) (fun h x => (dK _ _ h).2 x) u
def qr : List Nat → List Value → Env → Env
 | p :: ps, v :: vs, E => qr ps vs ((p, v) :: E)
 | _, _, E => E
theorem vt : ∀ (ps : List Nat) (vs : List Value) {n : Nat} {E : Env} {t : Array Value}, (∀ p ∈ ps, p < n) → ps.length = vs.length → Has n [] E { tmps := t, defers := [] } → Has n [] (qr ps vs E) { tmps := od ps vs t, defers := [] }
 | [], [], n, E, t, _, _, h => by simpa [qr, od] using h
 | p :: ps, v :: vs, n, E, t, hp, hl, h => by
  have u : Has n [] ((p, v) :: E) { tmps := t.setIfInBounds p v, defers := [] } := h.put v (by simpa [Nat.blt_eq] using hp p (by simp))
  have := vt ps vs (fun q D => hp q (by simp [D])) (by simpa using hl) u
  simpa [qr, od] using this
 | [], _ :: _, _, _, _, _, hl, _ => by simp at hl
 | _ :: _, [], _, _, _, _, hl, _ => by simp at hl
section
variable {K : Cx} {R S Y α : Type} {Q : eM R} {E : Env} {H : List HA} {o : Option R}
theorem yp {W : World} {P : Program} {n : Nat} {l : Nat} {rec : Loop} {ps : List Nat} {enc : α → List Value} {D : S → α → Option S} {u : S → Y → List HA} (Eb : S → α → Y → Env) {a : Act} {ds : List Deferred}
  (he : Has n ds E a) (h1 : rec.tmps = a.tmps) (h2 : rec.params = ps.toArray) (J : rec.state = .ready) (h4 : rec.pending = none) (U : ∀ p ∈ ps, p < n) (X : ∀ x, ps.length = (enc x).length)
  (hA : ∀ s x y Fr, Sim ⟨P, W, some l, n, []⟩ (mm ⟨P, W, some l, n, []⟩ (fun (_ : Unit) (_ : Unit) => Eb s x y) (fun _ _ => u s y ++ [Fr])) rec.assign (qr ps (enc x) E) (u s y ++ [Fr]) (some ()))
  (hB : ∀ s x y Fr, Sim ⟨P, W, some l, n, []⟩ (mm ⟨P, W, some l, n, []⟩ (fun (_ : S) (_ : Y) => []) (fun s y => u s y ++ [Fr])) rec.body (Eb s x y) (u s y ++ [Fr]) (D s x)) :
  td P W l rec enc D u := by
 intro s x s' y Fr w ab hs
 refine roundIn_of_wpIn trivial ?_
 have h0 : Has n [] E { tmps := rec.tmps, defers := [] } := ⟨by rw [h1]; exact he.size, rfl, fun i v h => by rw [h1]; exact he.get i v h⟩
 have ad := vt ps (enc x) U (X x) h0
 have e2 : rec.params.toList = ps := by rw [h2]
 rw [e2]
 refine wpIn_mono (hA s x y (bl [pts l (.loop rec), Fr]) () rfl _ w ad (hs.ent (pN _ _ _))) ?_
 intro e a1 w1 I
 cases e with
 | normal =>
  obtain ⟨_, x1, x2⟩ := I
  have x3 := x2.ent (nH _ _ _)
  have hl := x3.pts_at (i := 0) rfl
  refine ⟨_, run_beginRound hl J, ?_⟩
  have x4 : Sat W (pts l (.loop { rec with state := .busy }) :: (u s y ++ [Fr])) (w1.putObj l (.loop { rec with state := .busy })) := x3.upd
  refine wpIn_mono (hB s x y _ s' ab a1 _ x1 (x4.ent (pN _ _ _))) ?_
  intro e a2 w2 I
  cases e with
  | normal =>
   obtain ⟨y', _, z2⟩ := I
   have z3 := z2.ent (nH _ _ _)
   have al := z3.pts_at (i := 0) rfl
   refine ⟨_, _, run_endRound none al, rfl, y', ?_⟩
   have z4 : Sat W (pts l (.loop rec) :: (u s' y' ++ [Fr])) (w2.putObj l (.loop rec)) := z3.upd
   have er : ({ ({ rec with state := .busy } : Loop) with state := if (none : Option Code).isNone then .ready else .done, pending := none } : Loop) = rec := by
    cases rec
    simp at J h4 ⊢
    exact ⟨J.symm, h4.symm⟩
   have an : w2.putObj l (.loop rec) = w2.putObj l (.loop ({ ({ rec with state := .busy } : Loop) with state := if (none : Option Code).isNone then .ready else .done, pending := none } : Loop)) := by rw [er]
   rw [an] at z4
   exact z4
  | _ => exact I.elim
 | _ => exact I.elim
theorem ze {R' Y' : Type} {g : Operand} {ps : List Nat} {assign body : Code} {f : FuncId} {cap : List Value} {Cap rst : List HA} {CapB : R' → Y' → List HA} {enc : α → List Value} {o2 : R' → Option R} {oN : Option R'} {val : R' → Y' → Value}
  {J : S → α → Option S} (I : S → Y → List HA) (s0 : S) (U : Y) (Eb : S → α → Y → Env) (gs : R' → S) (gy : R' → Y' → Y) (be : K.ro = none) (hg : ev E g = some (.func (.func f) #[] cap.toArray))
  (hf : ∀ args w, (callFunc f args).run K.P w = .ok (.enter f args) w)
  (it : ∀ l (A : S → Y → HA), qP K.P K.W l enc J A → ∀ X, Fn K.P K.W f (.func (.yield l) #[] #[] :: cap) (A s0 U :: Cap) (bl (X :: rst)) oN val (fun r y => A (gs r) (gy r y) :: CapB r y))
  (af : ps.all (fun p => Nat.blt p K.n) = true) (al : ∀ x, ps.length = (enc x).length)
  (hH : Ent H (I s0 U ++ (Cap ++ rst)))
  (hA : ∀ l s x y Fr, Sim ⟨K.P, K.W, some l, K.n, []⟩ (mm ⟨K.P, K.W, some l, K.n, []⟩ (fun (_ : Unit) (_ : Unit) => Eb s x y) (fun _ _ => I s y ++ [Fr])) assign (qr ps (enc x) E) (I s y ++ [Fr]) (some ()))
  (hB : ∀ l s x y Fr, Sim ⟨K.P, K.W, some l, K.n, []⟩ (mm ⟨K.P, K.W, some l, K.n, []⟩ (fun (_ : S) (_ : Y) => []) (fun s y => I s y ++ [Fr])) body (Eb s x y) (I s y ++ [Fr]) (J s x))
  (h : ∀ D r y, Nrm { K with ds := mkD D :: K.ds } Q E (mW D :: (I (gs r) (gy r y) ++ (CapB r y ++ rst))) (o2 r)) :
  Sim K Q (.rangeFunc g ps.toArray assign body) E H (oN.bind o2) := by
 intro r hr a w he hs
 have br : ∀ p ∈ ps, p < K.n := fun p hp => by simpa [Nat.blt_eq] using List.all_eq_true.1 af p hp
 cases hfo : oN with
 | none => rw [hfo] at hr; cases hr
 | some rN =>
 rw [hfo] at hr
 rw [be]
 refine wpIn_rangeFunc fun fn _ => ?_
 have b0 := hs.new (.deferred (some []))
 have a1 := b0.new (.loop { state := .ready, pending := none, fn := fn, tmps := a.tmps, params := ps.toArray, assign := assign, body := body, defers := w.heap.size })
 have hz : ({ w with heap := w.heap.push (.deferred (some [])) } : World).heap.size = w.heap.size + 1 := by simp
 rw [hz] at a1
 let u : Loop := { state := .ready, pending := none, fn, tmps := a.tmps, params := ps.toArray, assign, body, defers := w.heap.size }
 let w2 : World := (w.alloc (.deferred (some []))).alloc (.loop u)
 refine ⟨w.heap.size + 1, [mkD w.heap.size], w2, { target := .fn (.func f) cap.toArray, args := #[.func (.yield (w.heap.size + 1)) #[] #[]] }, w2, f, (Value.func (.yield (w.heap.size + 1)) #[] #[] :: cap).toArray, w2, run_enterLoop_outer fn a.tmps ps.toArray assign body, ?_, ?_⟩
 ·have e1 : a.eval (.const (.func (.yield (w.heap.size + 1)) #[] #[])) = .func (.yield (w.heap.size + 1)) #[] #[] := rfl
  simp [resolve, he.ev hg, Deferred.ofValue, e1]
 ·refine ⟨fun f' _ => trivial, ?_, (by intro h; cases h), ?_⟩
  ·simp [invoke, hf]
  refine callsIn_wide.2 ?_
  have hR : td K.P K.W (w.heap.size + 1) u enc J I :=
   yp (ps := ps) Eb he rfl rfl rfl rfl br al (hA _) (hB _)
  have hY := yo hR (fun x => by simpa [u] using (al x).symm)
  have b1 : Sat K.W ((itA (w.heap.size + 1) u I s0 U :: Cap) ++ [bl (pts w.heap.size (.deferred (some [])) :: rst)]) w2 := by
   refine a1.ent ?_
   intro h x
   have x1 : bA (pts (w.heap.size + 1) (.loop u)) (bA (pts w.heap.size (.deferred (some []))) (bA (bl (I s0 U)) (bl (Cap ++ rst)))) h :=
    dd h (fun _ x => x) (fun h x => dd h (fun _ x => x) (fun h x => (dK _ _ h).1 (hH h x)) x) x
   have x2 : bA (bA (pts (w.heap.size + 1) (.loop u)) (bl (I s0 U))) (bA (pts w.heap.size (.deferred (some []))) (bl (Cap ++ rst))) h := by
    rw [← bF (pts w.heap.size _), fW (pts w.heap.size _), bF, ← bF] at x1
    exact x1
   refine dd h (fun _ x => x) (fun h x => ?_) x2
   have x3 : bA (pts w.heap.size (.deferred (some []))) (bA (bl Cap) (bl rst)) h := dd h (fun _ x => x) (fun h x => (dK _ _ h).1 x) x
   rw [← bF, fW (pts _ _), bF] at x3
   exact (dK _ _ h).2 (dd h (fun _ x => x) (fun h x => me x) x3)
  have hc := it _ _ hY (pts w.heap.size (.deferred (some []))) rN hfo _ b1
  refine hc.mono ?_
  rintro e w' ⟨y, rfl, s4⟩
  have s5 : Sat K.W (pts (w.heap.size + 1) (.loop u) :: (I (gs rN) (gy rN y) ++ (CapB rN y ++ [bl (pts w.heap.size (.deferred (some [])) :: rst)]))) w' := s4.ent (pM _ _)
  have hl := s5.pts_at (i := 0) rfl
  refine ⟨none, _, run_endLoop hl (by simp [u]), ?_⟩
  have s6 := s5.upd (o' := .loop { u with state := .exhausted })
  have s7 : Sat K.W (mW w.heap.size :: (I (gs rN) (gy rN y) ++ (CapB rN y ++ rst))) _ := s6.ent (Ent.drop (by
   intro h x
   rw [← List.append_assoc] at x
   have x2 := (dK _ _ h).1 x
   have x3 : bA (bl (I (gs rN) (gy rN y) ++ CapB rN y)) (bA (pts w.heap.size (.deferred (some []))) (bl rst)) h := dd h (fun _ x => x) (fun h (x : bA (bl _) tt h) => by
    rw [fW] at x
    exact gC _ tt h x) x2
   rw [← bF, fW _ (pts _ _), bF] at x3
   refine dd h (fun _ x => x) (fun h x => ?_) x3
   rw [← List.append_assoc]
   exact (dK _ _ h).2 x))
  exact h w.heap.size rN y r hr _ _ ⟨he.size, by simp [he.defers, mkD], he.get⟩ s7
theorem vg {op : Oper} {c : Call} {x : Operand} {xs : List Operand} {l : Nat} {enc : α → List Value} {D : S → α → Option S} {A : S → Y → HA} {s s' : S} {y : Y} (v : α) (k : Nat)
  (ho : op.op = .call c) (J : c.callee = .value x) (af : c.args = xs.toArray) (hx : ev E x = some (.func (.yield l) #[] #[])) (al : evs xs E = some (enc v)) (an : K.ro = none)
  (hY : qP K.P K.W l enc D A) (hH : H[k]? = some (A s y)) (hs : D s v = some s') :
  RE K (Y := Y) op E H (fun _ => .bool true) (fun y => H.set k (A s' y)) := by
 intro a w he U next Q a1
 refine ⟨fun f _ => iU _ _, ?_⟩
 rw [Oper.semAt_eq _ _ _ (by rw [ho]; intro c h; cases h)]
 have a6 : k < H.length := (List.getElem?_eq_some_iff.1 hH).1
 have a7 : Sat K.W ([A s y] ++ [bl (H.eraseIdx k)]) w := U.ent (fun h x => by rw [iQ H k _ hH] at x; exact Ent.fold [A s y] (H.eraseIdx k) h x)
 obtain ⟨f, tmps, assign, body, X, u⟩ := hY s v s' y _ w hs a7
 have hr : (execOp a.eval op).run K.P w = .ok (.round l f tmps assign body) w := by
  unfold execOp; simp only [ho]
  have I : c.args.map a.eval = (enc v).toArray := by rw [af, ← ls he xs _ al]; simp
  simp [resolve, J, I, he.ev hx, Deferred.ofValue, invoke, callFunc, X]
 rw [hr]
 refine ⟨ng _, ?_⟩
 rw [an]
 refine RoundIn.mono u ?_
 rintro e w' ⟨rfl, y', s3⟩
 refine a1 y' w' (s3.ent fun h x => ?_)
 rw [← jX H k _ a6]
 exact Ent.unfold [A s' y'] (H.eraseIdx k) h x
end
end Go.Proofs.YtndjkejhacfpdaaGreatDoor

namespace Go.Proofs.YtndjkejhacfpdaaGreatDoor
open Go.RowKit

/-! ### 1. Lists of rows -/
def okI (k : IntKind) (x : Int) : Prop := k.min ≤ x ∧ x ≤ k.max
def bW {α : Type} (n : Nat) (V : α → List Value → Prop) : List α → List (List Value) → Prop
 | [], [] => True
 | x :: xs, r :: rs => (r.length = n ∧ one r ∧ V x r) ∧ bW n V xs rs
 | _, _ => False
section
variable {α : Type} {n : Nat} {V V' : α → List Value → Prop}
theorem bW.mono (h : ∀ x r, V x r → V' x r) : ∀ {xs : List α} {rs : List (List Value)}, bW n V xs rs → bW n V' xs rs
 | [], [], _ => trivial
 | x :: xs, r :: rs, ⟨⟨a, b, c⟩, t⟩ => ⟨⟨a, b, h x r c⟩, bW.mono h t⟩
theorem bW.append : ∀ {xs u : List α} {rs D : List (List Value)}, bW n V xs rs → bW n V u D → bW n V (xs ++ u) (rs ++ D)
 | [], u, [], D, _, h => h
 | x :: xs, u, r :: rs, D, ⟨a, t⟩, h => ⟨a, bW.append t h⟩
theorem bW.len : ∀ {xs : List α} {rs : List (List Value)}, bW n V xs rs → rs.length = xs.length
 | [], [], _ => rfl
 | x :: xs, r :: rs, ⟨_, t⟩ => by simp [bW.len t]
theorem bW.flat : ∀ {xs : List α} {rs : List (List Value)}, bW n V xs rs → rs.flatten.length = xs.length * n
 | [], [], _ => by simp
 | x :: xs, r :: rs, ⟨⟨a, _, _⟩, t⟩ => by simp [bW.flat t, a, Nat.add_mul]; omega
theorem bW.ones : ∀ {xs : List α} {rs : List (List Value)}, bW n V xs rs → one rs.flatten
 | [], [], _ => by intro v h; simp at h
 | x :: xs, r :: rs, ⟨⟨_, b, _⟩, t⟩ => by
  intro v h
  simp only [List.flatten_cons, List.mem_append] at h
  rcases h with h | h
  ·exact b v h
  ·exact bW.ones t v h
theorem bW.at (d : α) : ∀ {xs : List α} {rs : List (List Value)} {i : Nat}, bW n V xs rs → i < xs.length → ∃ r, V (xs.getD i d) r ∧ r.length = n ∧ one r ∧ ∀ (j : Nat) v, r[j]? = some v → rs.flatten[i * n + j]? = some v
 | x :: xs, r :: rs, 0, ⟨⟨a, b, c⟩, t⟩, _ => ⟨r, c, a, b, fun j v h => by
   have : j < r.length := (List.getElem?_eq_some_iff.1 h).1
   simp only [List.flatten_cons, Nat.zero_mul, Nat.zero_add]
   rw [List.getElem?_append_left this]; exact h⟩
 | x :: xs, r :: rs, i + 1, ⟨⟨a, b, c⟩, t⟩, h => by
  obtain ⟨q, h1, u, D, I⟩ := bW.at d t (i := i) (by simpa using h)
  refine ⟨q, by simpa using h1, u, D, fun j v J => ?_⟩
  simp only [List.flatten_cons]
  rw [List.getElem?_append_right (by rw [a, Nat.add_mul]; omega), ← I j v J, a]
  congr 1
  rw [Nat.add_mul]; omega
theorem bW.take : ∀ {xs : List α} {rs : List (List Value)} (m : Nat), bW n V xs rs → bW n V (xs.take m) (rs.take m)
 | [], [], m, _ => by simp [bW]
 | x :: xs, r :: rs, 0, _ => by simp [bW]
 | x :: xs, r :: rs, m + 1, ⟨a, t⟩ => ⟨a, bW.take m t⟩
theorem bW.drop : ∀ {xs : List α} {rs : List (List Value)} (m : Nat), bW n V xs rs → bW n V (xs.drop m) (rs.drop m)
 | [], [], m, _ => by simp [bW]
 | x :: xs, r :: rs, 0, h => h
 | x :: xs, r :: rs, m + 1, ⟨a, t⟩ => bW.drop m t
theorem bW.flat_drop : ∀ {xs : List α} {rs : List (List Value)} (m : Nat), bW n V xs rs → (rs.drop m).flatten = rs.flatten.drop (m * n)
 | [], [], m, _ => by simp
 | x :: xs, r :: rs, 0, _ => by simp
 | x :: xs, r :: rs, m + 1, ⟨⟨a, _, _⟩, t⟩ => by
  simp only [List.drop_succ_cons, List.flatten_cons]
  rw [bW.flat_drop m t, Nat.add_mul, Nat.one_mul, Nat.add_comm, ← List.drop_drop, ← a, List.drop_left']
  rfl
theorem bW.flat_take : ∀ {xs : List α} {rs : List (List Value)} (m : Nat), bW n V xs rs → (rs.take m).flatten = rs.flatten.take (m * n)
 | [], [], m, _ => by simp
 | x :: xs, r :: rs, 0, _ => by simp
 | x :: xs, r :: rs, m + 1, ⟨⟨a, _, _⟩, t⟩ => by
  simp only [List.take_succ_cons, List.flatten_cons]
  have e : (m + 1) * n = r.length + m * n := by rw [a, Nat.add_mul]; omega
  rw [bW.flat_take m t, e, List.take_length_add_append]
end
def Up (G F : HA) : Prop := ∀ a cs, Rd G a cs → Rd F a cs
theorem Up.refl (F : HA) : Up F F := fun _ _ h => h
theorem Up.trans {A B C : HA} (h : Up A B) (h' : Up B C) : Up A C := fun a cs x => h' a cs (h a cs x)
theorem Up.lend {F : HA} {l : List HA} (k : Nat) (u : l[k]? = some F) : Up F (bl l) := fun _ _ h => h.lend k u
theorem Rd.up {G F : HA} {a : Option Addr} {cs : List Value} (h : Rd G a cs) (u : Up G F) : Rd F a cs := u a cs h
def RdV {α : Type} (F : HA) (n : Nat) (V : α → List Value → Prop) (a : Option Addr) (xs : List α) : Prop := ∃ rs, bW n V xs rs ∧ Rd F a rs.flatten
def hQ {α : Type} (H : List HA) (n : Nat) (V : α → List Value → Prop) (a : Option Addr) (xs : List α) : Prop := ∃ rs, bW n V xs rs ∧ Rds H a rs.flatten
def ah {α : Type} (T : TypeId) (n : Nat) (V : α → List Value → Prop) (a : Option Addr) (xs : List α) (c : Nat) : HA := fun h => ∃ rs, bW n V xs rs ∧ Row T n a xs.length c rs.flatten h
section
variable {α : Type} {n : Nat} {V V' : α → List Value → Prop} {F : HA} {a : Option Addr} {xs : List α}
theorem RdV.nil : RdV F n V a ([] : List α) := ⟨[], trivial, .inl rfl⟩
theorem RdV.mono (h : RdV F n V a xs) (u : ∀ x r, V x r → V' x r) : RdV F n V' a xs := let ⟨rs, h1, h2⟩ := h; ⟨rs, h1.mono u, h2⟩
theorem RdV.up {G : HA} (h : RdV G n V a xs) (u : Up G F) (D : ∀ x r, V x r → V' x r) : RdV F n V' a xs := let ⟨rs, h1, h2⟩ := h; ⟨rs, h1.mono D, h2.up u⟩
theorem RdV.rds (h : RdV F n V a xs) {H : List HA} (k : Nat) (u : H[k]? = some F) : hQ H n V a xs := let ⟨rs, h1, h2⟩ := h; ⟨rs, h1, h2.rds k u⟩
theorem RdV.pos {G : HA} (h : RdV G n V a xs) (u : Up G F) (D : Nat.blt 0 n = true) {i : Nat} (hi : i < xs.length) (d : α) :
  ∃ b off r, a = some ⟨b, off, none⟩ ∧ V (xs.getD i d) r ∧ r.length = n ∧ ∀ {H : List HA} (k : Nat), H[k]? = some F → ∀ j v, r[j]? = some v → gu H b (off + i * n + j) v := by
 obtain ⟨rs, h1, I⟩ := h
 have D : 0 < n := by simpa [Nat.blt_eq] using D
 obtain ⟨r, J, U, _, X⟩ := h1.at d hi
 rcases u _ _ I with h0 | ⟨b, off, ha, hz⟩
 ·have := h1.flat
  rw [h0] at this
  have h1 : 1 ≤ xs.length * n := Nat.mul_pos (by omega) D
  simp at this
  omega
 ·refine ⟨b, off, r, ha, J, U, fun {H} k hk j v hj => .of k hk fun x hx => ?_⟩
  obtain ⟨l, T, fz, e1, e2⟩ := hz x hx
  exact ⟨l, T, fz, e1, by rw [Nat.add_assoc]; exact e2 _ _ (X j v hj)⟩
theorem RdV.cut (h : RdV F n V a xs) (lo hi : Nat) {c : Nat} (D : hi ≤ c) : RdV F n V (if c = lo then a else a.map (·.add (lo * n))) ((xs.take hi).drop lo) := by
 obtain ⟨rs, h1, u⟩ := h
 by_cases e : c = lo
 ·rw [if_pos e]
  have : (xs.take hi).drop lo = [] := by rw [List.drop_of_length_le (by rw [List.length_take]; omega)]
  rw [this]; exact .nil
 ·rw [if_neg e]
  refine ⟨(rs.take hi).drop lo, (h1.take hi).drop lo, ?_⟩
  rw [(h1.take hi).flat_drop, h1.flat_take]
  exact (u.take _).drop _
theorem ah.mk {T : TypeId} {c : Nat} {rs : List (List Value)} (h : bW n V xs rs) : ∀ p, Row T n a xs.length c rs.flatten p → ah T n V a xs c p := fun _ x => ⟨rs, h, x⟩
theorem Ent.rowV_nil {l m : List HA} {T : TypeId} (r : Ent l m) : Ent l (ah T n V none ([] : List α) 0 :: m) := fun h s =>
 ⟨fun _ => none, h, fun _ => .inl rfl, (by funext i; simp [un]), ⟨[], trivial, Row.nil T n _⟩, r h s⟩
end
section
variable {K : Cx} {R S Y α : Type} {Q : eM R} {E : Env} {H : List HA} {opt : Option R} {ops : Array Oper} {rest : List Oper} {o : Oper} {n : Nat} {V : α → List Value → Prop} {a : Option Addr} {xs : List α} {T : TypeId} {c : Nat}
theorem qd {W w : World} {H : List HA} (k : Nat) (u : H[k]? = some (ah T n V a xs c)) (s : Sat W H w) : ∃ rs, bW n V xs rs ∧ Sat W (H.set k (Row T n a xs.length c rs.flatten)) w := by
 obtain ⟨x, y, d, e, ⟨rs, h1, D⟩, r⟩ := (s.focus u).hp
 exact ⟨rs, h1, Sat.unfocus (B := Row T n a xs.length c rs.flatten) u ⟨s.os, s.tape, s.output, s.size, x, y, d, e, D, r⟩⟩
theorem bk (k : Nat) (u : H[k]? = some (ah T n V a xs c)) (h : ∀ rs, bW n V xs rs → cx K Q ops rest E (H.set k (Row T n a xs.length c rs.flatten)) opt) : cx K Q ops rest E H opt := by
 intro r D I w J U
 obtain ⟨rs, h1, s⟩ := qd k u U
 exact h rs h1 r D I w J s
theorem bq {u : Code} (k : Nat) (D : H[k]? = some (ah T n V a xs c)) (h : ∀ rs, bW n V xs rs → Sim K Q u E (H.set k (Row T n a xs.length c rs.flatten)) opt) : Sim K Q u E H opt := by
 intro r I J w U X
 obtain ⟨rs, h1, s⟩ := qd k D X
 exact h rs h1 r I J w U s
theorem hQ.row {rs : List (List Value)} (h : bW n V xs rs) {m : Nat} (k : Nat) (u : H[k]? = some (Row T n a m c rs.flatten)) : hQ H n V a xs := ⟨rs, h, .row k u⟩
theorem hQ.nil : hQ H n V a ([] : List α) := ⟨[], trivial, .nil _ _⟩
theorem Rd.asV {F : HA} {rs : List (List Value)} (h : bW n V xs rs) (u : Rd F a rs.flatten) : RdV F n V a xs := ⟨rs, h, u⟩
theorem gv {rs : List (List Value)} {i : Nat} (k : Nat) (X : H[k]? = some (Row T n a xs.length c rs.flatten)) (J : bW n V xs rs) (u : Nat.blt 0 n = true) (hi : i < xs.length) (d : α)
  (h : ∀ b off r, a = some ⟨b, off, none⟩ → V (xs.getD i d) r → r.length = n → (∀ {H' : List HA} (k : Nat), H'[k]? = some (Row T n a xs.length c rs.flatten) → ∀ j v, r[j]? = some v → gu H' b (off + i * n + j) v) → cx K Q ops rest E H opt) : cx K Q ops rest E H opt := by
 have u : 0 < n := by simpa [Nat.blt_eq] using u
 obtain ⟨r, hV, D, _, hc⟩ := J.at d hi
 refine uL k X ?_ fun b off U => h b off r U hV D ?_
 ·intro h0
  have := J.flat
  rw [h0] at this
  have h1 : 1 ≤ xs.length * n := Nat.mul_pos (by omega) u
  simp at this
  omega
 ·intro H' k' I j v hj
  rw [Nat.add_assoc]
  subst U
  exact gu.row k' I (hc j v hj)
theorem yh {l m : List Value} (h : one l) (h' : one m) : one (l ++ m) := fun v u => by
 rcases List.mem_append.1 u with x | x
 ·exact h v x
 ·exact h' v x
theorem eV {x y : Operand} {t e bytes : Nat} {zs : List Value} {a2 : Option Addr} {c2 : Nat} {u : List α} {rs : List (List Value)} (k : Nat) (ho : o.op = .call { callee := .builtin .append, args := #[x, y], argTypes := #[t, t] })
  (hx : ev E x = some (.slice a xs.length c)) (hy : ev E y = some (.slice a2 u.length c2)) (ht : K.P.underlying t = some (.slice e)) (hE : Elt K.P e n bytes zs) (U : H[k]? = some (Row e n a xs.length c rs.flatten)) (X : bW n V xs rs)
  (hr : hQ (H.eraseIdx k) n V a2 u) (hb : (xs.length + u.length) * bytes ≤ 140737488355328) :
  RE K (Y := Option Addr × Nat) o E H (fun y => .slice y.1 (xs ++ u).length y.2) (fun y => H.set k (ah e n V y.1 (xs ++ u) y.2)) := by
 obtain ⟨ss, h1, h2⟩ := hr
 have := tD (K := K) (E := E) (H := H) k ho hx hy ht hE U h2 (by rw [h1.flat]) h1.ones hb
 intro a' w he hs next Q hn
 refine this a' w he hs next Q fun y w' s => ?_
 have D : (xs ++ u).length = xs.length + u.length := List.length_append
 have e1 : Value.slice y.1 (xs ++ u).length y.2 = .slice y.1 (xs.length + u.length) y.2 := by rw [D]
 have := hn y w'
 simp only [e1] at this
 refine this ?_
 have I : k < H.length := (List.getElem?_eq_some_iff.1 U).1
 have s2 : Sat K.W (Row e n y.1 (xs.length + u.length) y.2 (rs.flatten.take (xs.length * n) ++ ss.flatten) :: H.eraseIdx k) w' := s.ent fun h x => by rw [jX H k _ I]; exact x
 have J := X.flat
 refine (s2.ent (Ent.sel' 0 rfl (fun p hp => ?_) (Ent.refl _))).ent fun h x => by rw [← jX H k _ I]; exact x
 refine ⟨rs ++ ss, X.append h1, ?_⟩
 rw [D, List.flatten_append]
 rwa [List.take_of_length_le (by rw [J]; exact Nat.le_refl _)] at hp
theorem oQ {x y : Operand} {t e bytes : Nat} {D : List Value} {a2 : Option Addr} {c2 : Nat} {u : List α} (I : o.op = .call { callee := .builtin .append, args := #[x, y], argTypes := #[t, t] })
  (J : ev E x = some (.slice none 0 0)) (U : ev E y = some (.slice a2 u.length c2)) (X : K.P.underlying t = some (.slice e)) (hE : Elt K.P e n bytes D)
  (hr : hQ H n V a2 u) (hb : u.length * bytes ≤ 140737488355328) :
  RE K (Y := Option Addr × Nat) o E H (fun y => .slice y.1 u.length y.2) (fun y => ah e n V y.1 u y.2 :: H) := by
 obtain ⟨ss, h1, h2⟩ := hr
 have := yj (K := K) (E := E) (H := H) I J U X hE h2 (by rw [h1.flat]) h1.ones hb
 intro a' w he hs next Q hn
 refine this a' w he hs next Q fun y w' s => hn y w' (s.ent (Ent.sel' 0 rfl (fun p hp => ⟨ss, h1, hp⟩) (Ent.refl _)))
theorem eW {t e bytes len : Nat} {D : List Value} {l : List (Nat × Operand)} {vs : List (Nat × Value)} {cs : List Value} (rs : List (List Value)) (J : o.op = .buildSlice t len l.toArray) (U : evP l E = some vs) (X : K.P.underlying t = some (.slice e)) (hE : Elt K.P e n bytes D)
  (hb : Nat.ble (len * n) 16777216 = true) (hf : Instr.fill (fun i => some (i * n, n)) ((Array.range (len * n)).map (D.toArray[· % D.toArray.size]!)) vs = some cs.toArray) (h0 : Nat.blt 0 (len * n) = true) (hr : bW n V xs rs) (I : rs.flatten = cs) (u : xs.length = len) :
  RE K (Y := Nat) o E H (fun b => .slice (some ⟨b, 0, none⟩) xs.length len) (fun b => Row e n (some ⟨b, 0, none⟩) xs.length len rs.flatten :: H) := by
 subst I
 subst u
 exact zw J U X hE hb hf h0 hr.flat

/-! ### 2. A slice's front, with what lies behind it -/
end
end Go.Proofs.YtndjkejhacfpdaaGreatDoor

namespace Go.Proofs.YtndjkejhacfpdaaGreatDoor
open Go.RowKit
/-! ### 1. '==' of structs -/
section
variable {P : Program} {d : Nat} {xs ys : Array Value} {f : Field} {fs : List Field} {a b : Value} {r s : Bool} {w : World}
theorem uP (D : (f.name == "_") = false) (I : (part f.type xs f.offset).run P w = .ok a w) (J : (part f.type ys f.offset).run P w = .ok b w) (U : (Op.equalIn d f.type a b).run P w = .ok r w) : (Op.eqFields d xs ys [f]).run P w = .ok r w := by
 have u : f.name ≠ "_" := by simpa using D
 simp only [Op.eqFields, if_pos u, Sem.run_bind, I, J, U, Result.andThen_ok]
 cases r <;> simp
theorem pz (D : (f.name == "_") = false) (I : (part f.type xs f.offset).run P w = .ok a w) (J : (part f.type ys f.offset).run P w = .ok b w) (U : (Op.equalIn d f.type a b).run P w = .ok r w) (X : (Op.eqFields d xs ys fs).run P w = .ok s w) : (Op.eqFields d xs ys (f :: fs)).run P w = .ok (r && s) w := by
 have u : f.name ≠ "_" := by simpa using D
 rw [Op.eqFields]
 simp only [if_pos u, Sem.run_bind, I, J, U, Result.andThen_ok]
 cases r
 ·simp
 ·simpa using X
theorem jU {t : TypeId} {cs : Array Value} {off : Nat} {v : Value} (u : ∀ w, (isAgg t).run P w = .ok false w) (D : cs[off]? = some v) : (part t cs off).run P w = .ok v w := by
 simp [part, u, D]
theorem nN {t : TypeId} {k : IntKind} {m n : Int} (u : P.underlying t = some (.int k)) : (Op.equalIn (d + 1) t (.int k m) (.int k n)).run P w = .ok (decide (m = n)) w := by
 simp [Op.equalIn, underlying, program, Sem.run, u]
 rw [Bool.eq_iff_iff]; simp
theorem sh {t : TypeId} {fs : Array Field} (u : P.underlying t = some (.struct fs)) (hp : P.stoodInHeld t = false) (h : (Op.eqFields d xs ys fs.toList).run P w = .ok r w) : (Op.equalIn (d + 1) t (.agg xs) (.agg ys)).run P w = .ok r w := by
 have D : P.fieldsOf t = fs := by simp [Program.fieldsOf, u]
 rw [run_equalIn_struct (P := P) w d t xs ys (by rw [D]; exact u) hp, D]
 exact h
end
section
variable {K : Cx} {R S Y : Type} {Q : eM R} {E : Env} {H : List HA} {opt : Option R} {ops : Array Oper} {rest : List Oper} {o : Oper}
theorem rl {P : Program} {b : BinOp} {t : TypeId} {x y : Operand} {u v : Array Value} (D : P.eqGuardType P.depth t = false) (w : World) : (eqGuard b t x y (.agg u) (.agg v)).run P w = .ok () w := by
 unfold eqGuard
 cases b <;> simp [program, Sem.run, D]
theorem BX {D U : TypeId} {x y : Operand} {u v : Array Value} {r : Bool} (I : o.op = .binOp .eql D x y U) (X : ev E x = some (.agg u)) (hy : ev E y = some (.agg v)) (hg : K.P.eqGuardType K.P.depth D = false)
  (hr : ∀ d w, (Op.equalIn (d + 2) D (.agg u) (.agg v)).run K.P w = .ok r w) : RQ K o E H (.bool r) :=
 dL (by rw [I]; intro c h; cases h) fun a w J _ => by
  unfold execOp; simp only [I]; rw [J.ev X, J.ev hy]
  have := hr 9998 w
  simp [rl hg, binOp, Op.equal, Op.maxDepth, this]
theorem Bq {D U : TypeId} {x y : Operand} {u v : Array Value} {r : Bool} (I : o.op = .binOp .neq D x y U) (X : ev E x = some (.agg u)) (hy : ev E y = some (.agg v)) (hg : K.P.eqGuardType K.P.depth D = false)
  (hr : ∀ d w, (Op.equalIn (d + 2) D (.agg u) (.agg v)).run K.P w = .ok r w) : RQ K o E H (.bool (!r)) :=
 dL (by rw [I]; intro c h; cases h) fun a w J _ => by
  unfold execOp; simp only [I]; rw [J.ev X, J.ev hy]
  have := hr 9998 w
  simp [rl hg, binOp, Op.equal, Op.maxDepth, this]
/-! ### 2. Interfaces -/
theorem yX {x : Operand} {t : TypeId} {u : TypeDesc} {v : Value} (D : o.op = .makeInterface t x) (I : ev E x = some v) (J : K.P.underlying t = some u) (U : (match u with | .interface _ => true | _ => false) = false) : RQ K o E H (.iface t v) :=
 dL (by rw [D]; intro c h; cases h) fun a w X _ => by
  unfold execOp; simp only [D]; rw [X.ev I]
  cases u <;> first | (simp at U; done) | simp [Instr.makeInterface, underlying, program, Sem.run, J]
theorem ul {c : Call} {x : Operand} {D : String} {xs : List Operand} {vs : List Value} {t : TypeId} {v u : Value} {f : FuncId} {A : List HA} {rst : List HA} {S Y : Type} {o1 : Option S} {val : S → Y → Value} {B : S → Y → List HA} {s : S}
  (ho : o.op = .call c) (J : c.callee = .invoke x D) (X : c.args = xs.toArray) (hx : ev E x = some (.iface t v)) (ab : evs xs E = some vs)
  (hm : ∀ w, (method (K.P.types.size + Made.depth) t v D).run K.P w = .ok (f, u) w)
  (hf : ∀ args w, (callFunc f args).run K.P w = .ok (.enter f args) w) (hH : Ent H (A ++ rst))
  (h : Fn K.P K.W f (u :: vs) A (bl rst) o1 val B) (hs : o1 = some s) : RE K o E H (val s) (fun y => B s y ++ rst) := by
 intro a w he U next Q ad
 refine ⟨fun f _ => iU _ _, ?_⟩
 rw [Oper.semAt_eq _ _ _ (by rw [ho]; intro c h; cases h)]
 have hr : (execOp a.eval o).run K.P w = .ok (.enter f (u :: vs).toArray) w := by
  unfold execOp; simp only [ho]
  have I : c.args.map a.eval = vs.toArray := by rw [X, ← ls he xs vs ab]; simp
  have e1 : (#[Value.iface t v] ++ vs.toArray).extract 1 (1 + vs.length) = vs.toArray := by
   apply Array.ext'
   simp
  simp [resolve, J, I, he.ev hx, invoke, callMethod, program, Sem.run, hm, hf, e1]
 rw [hr]
 refine ⟨ng _, ?_⟩
 have := h s hs w (U.ent (hH.trans (Ent.fold A rst)))
 have hw : CallsIn (fen K.ro) (0 - 1) K.P f (u :: vs).toArray w (fun e w' => ∃ y, e = Ending.returned (val s y) ∧ Sat K.W (B s y ++ [bl rst]) w') := by
  cases hro : K.ro with
  | none => exact callsIn_wide.2 this
  | some l => exact CallsIn.inRound l (callsIn_wide.2 this)
 refine hw.mono ?_
 rintro e w' ⟨y, rfl, s2⟩
 exact ad y w' (s2.ent (Ent.unfold _ _))
/-! ### 3. Results that lie in variables -/
def mw (P : Program) (E : Env) (H : List HA) : List ResultVar → List Value → Prop
 | [], [] => True
 | .tmp t :: l, v :: vs => lk E t = some v ∧ mw P E H l vs
 | .cell t T :: l, v :: vs => (∃ b, lk E t = some (.pointer (some ⟨b, 0, none⟩)) ∧ ∀ W w, Sat W H w → (loadVar T ⟨b, 0, none⟩).run P w = .ok v w) ∧ mw P E H l vs
 | _, _ => False
theorem gz {P : Program} {H : List HA} {T : TypeId} {b : Nat} {v : Value} (u : ∀ w, (isAgg T).run P w = .ok false w) (D : gu H b 0 v) : ∀ W w, Sat W H w → (loadVar T ⟨b, 0, none⟩).run P w = .ok v w := fun W w s => by
 simp [loadVar, u, D.sat s]
theorem kE {P : Program} {H : List HA} {T u : TypeId} {b n : Nat} {vs : List Value} (k : Nat) (D : ∀ w, (isAgg T).run P w = .ok true w) (I : ∀ w, (sizeOf T).run P w = .ok n w) (J : H[k]? = some (obj b u vs)) (U : vs.length = n) : ∀ W w, Sat W H w → (loadVar T ⟨b, 0, none⟩).run P w = .ok (.agg vs.toArray) w := fun W w s => by
 have := ni (P := P) (w := w) (b := b) (off := 0) (vs := vs) (fun j v X => by rw [Nat.zero_add]; exact (gu.obj (off := j) k J X).sat s)
 simp [loadVar, D, I, ← U, this]
theorem qE {n : Nat} {ds : List Deferred} {a : Act} {P : Program} {W w : World} {H : List HA} (u : Has n ds E a) (D : Sat W H w) (g : ResultVar → Sem Value) (I : ∀ t, g (.tmp t) = Sem.pure (a.tmps.getD t undef)) (J : ∀ t T, g (.cell t T) = (do loadVar T (← asAddr (a.tmps.getD t undef)))) : ∀ (l : List ResultVar) (vs : List Value), mw P E H l vs → (l.mapM g).run P w = .ok vs w
 | [], [], _ => rfl
 | .tmp t :: l, v :: vs, ⟨h1, h2⟩ => by
  have U := qE u D g I J l vs h2
  have := u.get _ _ h1
  simp only [List.mapM_cons, Sem.run_bind, I, Sem.run_pure', Result.andThen_ok]
  rw [U]
  simp [Array.getD_eq_getD_getElem?, this]
 | .cell t T :: l, v :: vs, ⟨⟨b, h1, h3⟩, h2⟩ => by
  have U := qE u D g I J l vs h2
  have := u.get _ _ h1
  have X := h3 W w D
  simp only [List.mapM_cons, Sem.run_bind, J]
  have e1 : a.tmps.getD t undef = .pointer (some ⟨b, 0, none⟩) := by simp [Array.getD_eq_getD_getElem?, this]
  rw [e1]
  simp [asAddr, X, U]
theorem na {n : Nat} {ds : List Deferred} {a : Act} {P : Program} {W w : World} {H : List HA} {fn : Func} (D : Has n ds E a) (I : Sat W H w) {vs : List Value} (h : mw P E H fn.results.toList vs) :
  (results fn a.tmps).run P w = .ok (tup vs) w := by
 unfold results
 simp only [Sem.run_bind]
 rw [← Array.toArray_toList (xs := fn.results), List.mapM_toArray]
 simp only [Sem.run_map]
 rw [qE (P := P) (w := w) D I _ (fun _ => rfl) (fun _ _ => rfl) fn.results.toList vs h]
 simp only [Result.andThen_ok]
 match vs with
 | [] => simp [tup]
 | [v] => simp [tup]
 | v :: u :: t => simp [tup]
theorem Dt {fn : Func} {val : R → Y → Value} {B : R → Y → List HA} {r : R} {vs : List Value} (y : Y) (hd : K.ds = []) (u : mw K.P E H fn.results.toList vs) (U : tup vs = val r y) (X : Ent H (B r y)) :
  ∀ D, some r = some D → ∀ a w, Has K.n K.ds E a → Sat K.W H w → a.defers = [] ∧ ∃ v, (results fn a.tmps).run K.P w = .ok v w ∧ ∃ y, Ending.returned v = .returned (val D y) ∧ Sat K.W (B D y) w := by
 intro D hr a w I J
 cases hr
 exact ⟨I.defers.trans hd, _, na I J u, y, by rw [U], J.ent X⟩
theorem lx {fn : Func} {val : R → Y → Value} {B : R → Y → List HA} {r : R} {vs : List Value} (y : Y) (hd : K.ds = []) (u : mw K.P E H fn.results.toList vs) (D : tup vs = val r y) (I : Ent H (B r y)) :
  Rtn K (sU K fn val B) E H (some r) := fun J U a w X hs => Dt (K := K) y hd u D I J U a w X hs
theorem sZ {W w : World} {H : List HA} {p : Prop} (k : Nat) (u : H[k]? = some (pr p)) (s : Sat W H w) : p := by
 obtain ⟨a, D, _⟩ := s.at u
 exact D
theorem RE.prk {p : Prop} {v : Y → Value} {H' : Y → List HA} (k : Nat) (D : H[k]? = some (pr p)) (h : p → RE K o E H v H') : RE K o E H v H' := fun a w I u next Q J => h (sZ k D u) a w I u next Q J
theorem RQ.prk {p : Prop} {v : Value} (k : Nat) (D : H[k]? = some (pr p)) (h : p → RQ K o E H v) : RQ K o E H v := fun a w I u next Q J => h (sZ k D u) a w I u next Q J
theorem jv (l m : List HA) : Ent (l ++ m) (bl l :: m) := fun h s => (dK _ _ h).1 s
theorem Ent.tt_in {l m : List HA} (r : Ent l m) : Ent l (tt :: m) := fun h s => ⟨fun _ => none, h, fun _ => .inl rfl, (by funext i; simp [un]), trivial, r h s⟩
theorem cL {l vs : List Value} {off : Nat} (h : (l.drop off).take vs.length = vs) : ∀ (j : Nat) v, vs[j]? = some v → l[off + j]? = some v := fun j v u => by
 rw [← h, List.getElem?_take] at u
 split at u
 ·rw [List.getElem?_drop] at u; exact u
 ·cases u
theorem Bs {x : Operand} {t e : TypeId} {a : Option Addr} {n c : Nat} {cs : List Value} (k : Nat) (J : o.op = .convert t t x) (hx : ev E x = some (.slice a n c)) (hu : K.P.underlying t = some (.slice e)) (u : K.P.underlying e = some (.int .u8)) (U : H[k]? = some (Row e 1 a n c cs)) (hn : Nat.blt 0 n = true) :
  RE K (Y := Unit) o E H (fun _ => .slice a n c) (fun _ => H.set k (Row e 1 a n c cs)) :=
 jK (by rw [J]; intro c h; cases h) fun a' w he s => by
  have a6 : 0 < n := by simpa [Nat.blt_eq] using hn
  rcases (s.focus U).row_cases with ⟨_, h0, _, _⟩ | ⟨b, off, pre, junk, fz, rfl, ok, X⟩
  ·omega
  ·have hb := X.pts_at (i := 0) rfl
   obtain ⟨lo, hi⟩ := fz
   refine ⟨(), { w with heap := w.heap.setIfInBounds b (.cells (pre ++ cs ++ junk).toArray e (if lo == hi then ((pre ++ cs ++ junk).length, (pre ++ cs ++ junk).length + 1) else (min lo (pre ++ cs ++ junk).length, max hi ((pre ++ cs ++ junk).length + 1)))) }, ?_, Sat.unfocus U ((X.upd).ent (Ent.sel' 0 rfl (Row.mk ⟨ok.offs, ok.le, ok.cap, ok.room, ok.len, ok.top, ?_⟩) (Ent.refl _)))⟩
   ·unfold execOp; simp only [J]; rw [he.ev hx]
    have D : w.shape? b = some (e, (pre ++ cs ++ junk).length) := by simp [World.shape?, hb]
    have I : w.freeze ⟨b, (pre ++ cs ++ junk).length, none⟩ 1 = { w with heap := w.heap.setIfInBounds b (.cells (pre ++ cs ++ junk).toArray e (if lo == hi then ((pre ++ cs ++ junk).length, (pre ++ cs ++ junk).length + 1) else (min lo (pre ++ cs ++ junk).length, max hi ((pre ++ cs ++ junk).length + 1)))) } := by
     unfold World.freeze
     rw [if_neg (by omega)]
     simp only
     rw [mN _ _ _ _ hb]
    have hm : (markStringish ⟨b, off, none⟩).run K.P w = .ok () (w.freeze ⟨b, (pre ++ cs ++ junk).length, none⟩ 1) := by
     unfold markStringish
     simp only [shape, Sem.run_bind, Sem.run, Result.andThen_ok, D, freeze]
    rw [I] at hm
    simp [convert, underlying, program, Sem.run, hu, u, hm]
   ·have h1 := ok.fzok
    have h2 := ok.room
    have h3 := ok.offs
    simp only at h1
    by_cases hlh : lo = hi
    ·right; simp [hlh]; omega
    ·right; simp [hlh]; rcases h1 with h1 | h1 <;> omega
end
end Go.Proofs.YtndjkejhacfpdaaGreatDoor

namespace Go.Proofs.YtndjkejhacfpdaaGreatDoor
open Go.RowKit
section
variable {K : Cx} {R S Y : Type} {Q : eM R} {E : Env} {H : List HA} {o : Option R}
def rm (K : Cx) (ops : Array Oper) (u : List (List Nat)) {Γ : Type} (val : Γ → Nat → Value) (E : Env) (heap : Nat → Γ → List HA) (s t i : Nat) (pre : List Nat) (γ : Γ) : Prop :=
 ∃ D, ops[i]? = some D ∧ ∃ I, gm ops u (val γ) E i I ∧ GOk ops D I ∧
  RE K (Y := { γ' : Γ // kp pre (val γ') (val γ) }) D I (heap s γ) (fun γ' => val γ'.1 i) (fun γ' => heap t γ'.1)
theorem rm.gen {ops : Array Oper} {u : List (List Nat)} {Γ Z : Type} {val : Γ → Nat → Value} {heap : Nat → Γ → List HA} {s t i : Nat} {pre : List Nat} {γ : Γ} {D : Oper} {v : Z → Value} {H' : Z → List HA} (I : Env) (f : Z → Γ) (J : ops[i]? = some D) (U : GOk ops D I) (X : gm ops u (val γ) E i I)
  (h : RE K (Y := Z) D I (heap s γ) v H') (ha : ∀ z, kp pre (val (f z)) (val γ)) (hv : ∀ z, D.dst = none ∨ v z = val (f z) i) (hH : ∀ z, Ent (H' z) (heap t (f z))) : rm K ops u val E heap s t i pre γ :=
 ⟨D, J, I, X, U, fun a w hh hs next Q hn => h a w hh hs next Q fun z w' s => by
  have := hn ⟨f z, ha z⟩ w' (s.ent (hH z))
  rcases hv z with e | e
  ·rw [e] at this ⊢; exact this
  ·rw [e]; exact this⟩
theorem rm.mk {ops : Array Oper} {u : List (List Nat)} {Γ Z : Type} {val : Γ → Nat → Value} {heap : Nat → Γ → List HA} {s t i : Nat} {pre : List Nat} {γ : Γ} {D : Oper} {v : Z → Value} {H' : Z → List HA} (I : Env) (f : Z → Γ) (J : ops[i]? = some D) (U : D.guard = none) (X : gm ops u (val γ) E i I)
  (h : RE K (Y := Z) D I (heap s γ) v H') (ha : ∀ z, kp pre (val (f z)) (val γ)) (hv : ∀ z, D.dst = none ∨ v z = val (f z) i) (hH : ∀ z, Ent (H' z) (heap t (f z))) : rm K ops u val E heap s t i pre γ :=
 rm.gen I f J (.inl U) X h ha hv hH
def stg (u : List (List Nat)) (s : Nat) : List Nat := u.getD s []
def qH (u : List (List Nat)) (D : List Nat) (I : List (List Nat)) (i s : Nat) : Bool :=
 D.any fun e => ((ie u i).contains e && !(stg I s).contains e) || ((ie u e).contains i && (stg I s).contains e)
def uH (D : List Nat) (u : List (List Nat)) (i s t : Nat) : Bool := Nat.blt t u.length && D.all fun e => (stg u t).contains e == ((stg u s).contains e || Nat.beq e i)
theorem tx {Γ : Type} {id : Nat} {l : List Oper} (γ0 : Γ) (X : List (List Nat)) (u U : List Nat) (D : List (List Nat)) (fin : Nat) (rng : Nat → List Nat) (nx : Nat → Nat → Nat) (pre : Nat → List Nat) (val : Γ → Nat → Value) (heap : Nat → Γ → List HA) (E2 : Γ → Env)
  (c1 : K.P.follows .mixedOrders = true)
  (b5 : uI l.toArray = true) (b2 : xY l.toArray X = true) (d7 : Nat.ble X.length l.length = true) (a8 : pq l.toArray = true)
  (c3 : ((List.range l.length).all fun i => u.contains i || U.contains i) = true)
  (d8 : (u.all fun e => Nat.blt e l.length) = true)
  (nn : Nat) (d9 : K.n = nn) (ea : ((List.range l.length).all fun i => match fk l.toArray i with | some d => Nat.blt d nn | none => true) = true)
  (bc : (Nat.blt 0 D.length && u.all fun e => !(stg D 0).contains e) = true)
  (c4 : ((List.range D.length).all fun s => Nat.beq s fin || u.any fun e => !(stg D s).contains e) = true)
  (c5 : (U.all fun i => (List.range D.length).all fun s => (rng i).contains s || qH X u D i s) = true)
  (b6 : (u.all fun i => (List.range D.length).all fun s => ((rng i).contains s && uH u D i s (nx i s)) || (stg D s).contains i || qH X u D i s) = true)
  (b7 : (u.all fun i => yS l.toArray X i (pre i)) = true)
  (h0 : Ent H (heap 0 γ0))
  (hq : All U fun i => ∀ γ, All (rng i) fun s => QOb K l.toArray X (val γ) E (heap s γ) i)
  (he : All u fun i => ∀ γ, All (rng i) fun s => rm K l.toArray X val E heap s (nx i s) i (pre i) γ)
  (hE : ∀ γ, Sub (E2 γ) (iu l.toArray (val γ) E (List.range l.length).reverse))
  (h : ∀ γ, Nrm K Q (E2 γ) (heap fin γ) o) : Sim K Q (.region id l.toArray true) E H o := by
 intro r hr a w hh hs
 refine wpIn_region_draw (fun t => ?_)
 rw [c1, uJ]
 have b8 : l.toArray.size = l.length := by simp
 have b3 : X.length ≤ l.toArray.size := by rw [b8]; simpa [Nat.ble_eq] using d7
 rw [Bool.and_eq_true] at bc
 refine uK (F := fen K.ro) (n := 0) (P := K.P) (Q := Q r)
  (fun L a w => ∃ γ s, s < D.length ∧ (∀ i, i ∈ L → i < l.toArray.size) ∧ (∀ e, e ∈ u → (e ∈ L ↔ e ∈ stg D s)) ∧ Has K.n K.ds (iu l.toArray (val γ) E L) a ∧ Sat K.W (heap s γ) w)
  b5 ?_ ?_ l.toArray.size t (Array.replicate l.toArray.size false) [] a { w with drawn := w.drawn + 1 } (by simp) (by intro i hi; simp only [Array.getD_eq_getD_getElem?, Array.getElem?_replicate]; split <;> simp) (by intro i hi; cases hi) (by intro i hi; cases hi)
  (by refine Nat.le_trans (List.length_filter_le _ _) (by simp)) ⟨γ0, 0, by simpa [Nat.blt_eq] using bc.1, (by intro i hi; cases hi), (by
   intro e I
   have := List.all_eq_true.1 bc.2 e I
   constructor
   ·intro x; cases x
   ·intro x; simp [x] at this), hh, (hs.drew _).ent h0⟩
 ·rintro i op L a w hoi hno hpre hcl ⟨γ, s, af, hb, an, J, ab⟩
  have hi : i < l.toArray.size := pt hoi
  have c7 : i < l.length := by rwa [b8] at hi
  have h1 : ∀ p, p ∈ ie X i → p ∈ L := pu b5 b2 b3 hcl i hpre
  have h2 : ∀ q, q ∈ L → ∀ p, p ∈ ie X q → p ∈ L := fun q hq => pu b5 b2 b3 hcl q (hcl q hq)
  have br : ∀ q, q ∈ i :: L → q < l.toArray.size := by
   intro q hq
   rcases List.mem_cons.1 hq with rfl | hq
   ·exact hi
   ·exact hb q hq
  have al : ∀ (γ' : Γ) (a' : Act) (v : Value), Has K.n K.ds (iu l.toArray (val γ') E L) a' → v = val γ' i ∨ op.dst = none → Has K.n K.ds (iu l.toArray (val γ') E (i :: L)) (a'.put op.dst v) := by
   intro γ' a' v hx hv
   simp only [iu, fk, hoi, Option.bind_some]
   cases hd : op.dst with
   | none => exact hx
   | some d =>
    rcases hv with rfl | hv
    ·refine hx.put _ ?_
     have := List.all_eq_true.1 ea i (by simpa using c7)
     rw [d9]
     simpa [fk, hoi, hd] using this
    ·rw [hd] at hv; cases hv
  have b4 : qH X u D i s = false := by
   rw [Bool.eq_false_iff]
   intro x
   obtain ⟨e, I, hc⟩ := List.any_eq_true.1 x
   rw [Bool.or_eq_true, Bool.and_eq_true, Bool.and_eq_true] at hc
   rcases hc with ⟨x, y⟩ | ⟨x, y⟩
   ·have hx := h1 e (by simpa using x)
    have := (an e I).1 hx
    simp [this] at y
   ·have hy := (an e I).2 (by simpa using y)
    exact absurd (h2 e hy i (by simpa using x)) hno
  by_cases I : i ∈ u
  ·have b0 := List.all_eq_true.1 (List.all_eq_true.1 b6 i I) s (by simpa using af)
   rw [Bool.or_eq_true, Bool.or_eq_true, b4] at b0
   have b0 : (rng i).contains s = true ∧ uH u D i s (nx i s) = true := by
    rcases b0 with (x | x) | x
    ·rwa [Bool.and_eq_true] at x
    ·exact absurd ((an i I).2 (by simpa using x)) hno
    ·cases x
   have a1 := b0.2
   unfold uH at a1
   rw [Bool.and_eq_true] at a1
   obtain ⟨ec, b1, Ei, b9, hg, ed⟩ := (he.mem I γ).mem (i := s) (by simpa using b0.1)
   rw [hoi] at b1
   cases b1
   have ad : Has K.n K.ds Ei a := J.sub (b9.sub a8 hno hb h1 h2)
   rw [if_pos (wW ad hg)]
   refine ed a w ad ab _ _ ?_
   rintro ⟨γ', ee⟩ w' s'
   refine ⟨γ', nx i s, by simpa [Nat.blt_eq] using a1.1, br, ?_, ?_, s'⟩
   ·intro e c9
    have h3 := List.all_eq_true.1 a1.2 e c9
    have h4 : (stg D (nx i s)).contains e = ((stg D s).contains e || Nat.beq e i) := by simpa using h3
    rw [List.mem_cons, an e c9]
    constructor
    ·rintro (x | x)
     ·have : (stg D (nx i s)).contains e = true := by rw [h4, x]; simp
      simpa using this
     ·have : (stg D (nx i s)).contains e = true := by rw [h4]; simp [x]
      simpa using this
    ·intro x
     have : (stg D (nx i s)).contains e = true := by simpa using x
     rw [h4, Bool.or_eq_true] at this
     rcases this with y | y
     ·right; simpa using y
     ·left; exact Nat.eq_of_beq_eq_true y
   ·refine al γ' a _ ?_ (.inl rfl)
    rw [nF (f := val γ') (g := val γ) L fun q hq => ?_]
    ·exact J
    ·refine ee.mem ?_
     have eg := List.all_eq_true.1 b7 i I
     have := List.all_eq_true.1 eg q (by simpa using hb q hq)
     rw [Bool.or_eq_true, Bool.or_eq_true] at this
     rcases this with (e | e) | e
     ·simpa using e
     ·obtain rfl := Nat.eq_of_beq_eq_true e
      exact absurd hq hno
     ·exact absurd (h2 q hq i (by simpa using e)) hno
  ·have dz : i ∈ U := by
    have := List.all_eq_true.1 c3 i (by simpa using c7)
    rw [Bool.or_eq_true] at this
    rcases this with e | e
    ·exact absurd (by simpa using e) I
    ·simpa using e
   have ei : s ∈ rng i := by
    have := List.all_eq_true.1 (List.all_eq_true.1 c5 i dz) s (by simpa using af)
    rw [Bool.or_eq_true, b4] at this
    rcases this with e | e
    ·simpa using e
    ·cases e
   obtain ⟨ec, b1, Ei, b9, cd⟩ := (hq.mem dz γ).mem ei
   rw [hoi] at b1
   cases b1
   have ad : Has K.n K.ds Ei a := J.sub (b9.sub a8 hno hb h1 h2)
   have a6 : ∀ e, e ∈ u → (e ∈ i :: L ↔ e ∈ stg D s) := by
    intro e d1
    rw [List.mem_cons, an e d1]
    constructor
    ·rintro (x | x)
     ·subst x; exact absurd d1 I
     ·exact x
    ·exact fun x => .inr x
   rcases cd with ⟨hg, ch⟩ | ⟨jg, d2, dj, hg, d3, el⟩
   ·rw [if_pos (by simp [Region.wanted, hg])]
    refine ch a w ad ab _ _ fun w' s' => ⟨γ, s, af, br, a6, al γ a _ J (.inl rfl), s'⟩
   ·rcases el with ⟨b, v, em, a7, ch⟩ | ⟨hu, a7⟩
    ·rw [lX ad hg d3 em]
     cases hbw : (b == d2) with
     | true =>
      rw [hbw] at a7
      simp only [if_true]
      refine ch hbw a w ad ab _ _ fun w' s' => ⟨γ, s, af, br, a6, al γ a _ J (.inl a7.symm), s'⟩
     | false =>
      rw [hbw] at a7
      simp only [Bool.false_eq_true, if_false]
      exact ⟨fun f _ => iU _ _, γ, s, af, br, a6, al γ a _ J (.inl a7.symm), ab⟩
    ·have er : Region.wanted op (yielded l.toArray a.tmps) = false := by
      simp only [Region.wanted, hg, yielded]
      rw [show ((l.toArray)[jg]?.bind (·.dst)) = some dj from d3]
      simp [ad.get _ _ hu, undef]
     rw [er]
     simp only [Bool.false_eq_true, if_false]
     exact ⟨fun f _ => iU _ _, γ, s, af, br, a6, al γ a _ J (.inl a7.symm), ab⟩
 ·rintro L a w hL ⟨γ, s, af, hb, an, J, ab⟩
  have et : s = fin := by
   have := List.all_eq_true.1 c4 s (by simpa using af)
   rw [Bool.or_eq_true] at this
   rcases this with e | e
   ·exact Nat.eq_of_beq_eq_true e
   ·obtain ⟨e, I, hc⟩ := List.any_eq_true.1 e
    have ex : e < l.toArray.size := by
     rw [b8]
     have := List.all_eq_true.1 d8 e I
     simpa [Nat.blt_eq] using this
    have := (an e I).1 (hL e ex)
    simp [this] at hc
  subst et
  refine h γ r hr a w (J.sub ((hE γ).congr fun s => ?_)) ab
  exact Ac a8 (fun i hi => by simpa using hi) hL s
theorem RE.lend {X : Oper} {v : Y → Value} {H' : Y → List HA} {T : TypeId} {sz n c : Nat} {a : Option Addr} {cs : List Value} (k : Nat) (hk : H[k]? = some (Row T sz a n c cs)) (h : Rd (Row T sz a n c cs) a cs → n ≤ c → c ≤ maxLen → n * sz ≤ cs.length → RE K X E H v H') : RE K X E H v H' := by
 intro a' w he I next Q hn
 rcases (I.focus hk).row_cases with ⟨h1, h2, h3, h0⟩ | ⟨b, off, pre, junk, fz, ha, ok, _⟩
 ·subst h2; subst h3
  exact h (.inl h0) (Nat.le_refl _) (Nat.zero_le _) (by simp) a' w he I next Q hn
 ·subst ha
  refine h (.inr ⟨b, off, rfl, fun x hx => ?_⟩) ok.le ok.cap ok.len a' w he I next Q hn
  rcases hx with ⟨h, _⟩ | ⟨b', al, D, u, J, e, U, hb⟩
  ·cases h
  ·cases e
   refine ⟨_, T, J, hb, fun j v hj => ?_⟩
   have := mi (pre := D) (junk := u) hj
   rw [U.offs] at this
   simpa using this
theorem jJ {α : Type} {V : α → List Value → Prop} {xs : List α} {u : Code} {T : TypeId} {n c : Nat} {a : Option Addr} {rs : List (List Value)} {i : Nat} (k : Nat) (U : H[k]? = some (Row T n a xs.length c rs.flatten)) (X : bW n V xs rs) (hn : Nat.blt 0 n = true) (hi : i < xs.length) (d : α)
  (h : ∀ b off r, a = some ⟨b, off, none⟩ → V (xs.getD i d) r → r.length = n → (∀ {H' : List HA} (k : Nat), H'[k]? = some (Row T n a xs.length c rs.flatten) → ∀ j v, r[j]? = some v → gu H' b (off + i * n + j) v) → Sim K Q u E H o) : Sim K Q u E H o := by
 intro r D a' w I J
 exact gv (rest := []) (ops := #[]) (Q := fun r e a w => u.wpIn (fen K.ro) 0 K.P (Q r) a w) k U X hn hi d (fun b off r h1 h2 h3 h4 r D a w I J => h b off _ h1 h2 h3 h4 r D a w I J) r D a' w I J
end
end Go.Proofs.YtndjkejhacfpdaaGreatDoor

/- Texts that lead to the law WalAgain: Sl1, Sl2, Sl3, Sl4, Sl5, Sl6, Sl7, Sl8, Sl9, Sl10, Sl11, Sl12, Sl13, Sl14. Conditions: as each says. -/
import Derived.WalkKit
import Derived.TacticsIn
import Derived.TacticsInMore
import Derived.LoopNIn
import Derived.LoopIn
import Derived.RangeFuncCalls
import Derived.Below
import Derived.KernelRfl
import Derived.Laws.Cells
import Derived.Laws.Append
import Derived.Laws.BytesString
import Derived.Laws.AppendOwn
import Derived.RangeFuncRecord
import Derived.Laws.StructEq
set_option linter.unusedVariables false
set_option linter.unusedSimpArgs false
set_option linter.unusedSectionVars false
namespace Go.Proofs.YtndjkejhacfpdaaGreatDoor
theorem O {α : Sort _} {a : α} : a = a := rfl
open Go.RowKit

/-! ### 1. Parts of the heap -/
abbrev Hp := Nat → Option Obj
abbrev HA := Hp → Prop
def dj (a b : Hp) : Prop := ∀ i, a i = none ∨ b i = none
def un (a b : Hp) : Hp := fun i => (a i).or (b i)
def tt : HA := fun _ => True
def bb (A B : HA) : HA := fun h => ∃ a b, dj a b ∧ h = un a b ∧ A a ∧ B b
def aS : List HA → HA
 | [] => tt
 | A :: l => bb A (aS l)
def pr (p : Prop) : HA := fun _ => p
def exs {α : Type} (A : α → HA) : HA := fun h => ∃ x, A x h
def pts (b : Nat) (o : Obj) : HA := fun h => h b = some o

theorem xR {a b : Hp} (d : dj a b) : un a b = un b a := by
 funext i; simp only [un]; rcases d i with h | h <;> simp [h]
theorem rD (a b c : Hp) : un (un a b) c = un a (un b c) := by
 funext i; simp [un, Option.or_assoc]
theorem jQ {a b : Hp} (d : dj a b) : dj b a := fun i => (d i).symm
theorem ku {a b c : Hp} : dj (un a b) c ↔ dj a c ∧ dj b c := by
 constructor
 ·intro h
  refine ⟨fun i => ?_, fun i => ?_⟩
  ·rcases h i with e | e
   ·simp [un] at e; exact .inl e.1
   ·exact .inr e
  ·rcases h i with e | e
   ·simp [un] at e; exact .inl e.2
   ·exact .inr e
 ·rintro ⟨h1, u⟩ i
  rcases h1 i with e1 | e1 <;> rcases u i with e2 | e2 <;> simp [un, e1, e2]
theorem nC {a b c : Hp} : dj a (un b c) ↔ dj a b ∧ dj a c := by
 constructor
 ·intro h; have := ku.1 (jQ h); exact ⟨jQ this.1, jQ this.2⟩
 ·rintro ⟨h1, u⟩; exact jQ (ku.2 ⟨jQ h1, jQ u⟩)

theorem ej (A B : HA) : bb A B = bb B A := by
 funext h
 apply propext
 constructor <;> (rintro ⟨a, b, d, rfl, u, D⟩; exact ⟨b, a, jQ d, xR d, D, u⟩)
theorem bj (A B C : HA) : bb (bb A B) C = bb A (bb B C) := by
 funext h
 apply propext
 constructor
 ·rintro ⟨J, c, d, rfl, ⟨a, b, u, rfl, D, G⟩, I⟩
  have := ku.1 d
  exact ⟨a, un b c, nC.2 ⟨u, this.1⟩, rD _ _ _, D, b, c, this.2, rfl, G, I⟩
 ·rintro ⟨a, L, d, rfl, D, b, c, u, rfl, G, I⟩
  have := nC.1 d
  exact ⟨un a b, c, ku.2 ⟨this.2, u⟩, (rD _ _ _).symm, ⟨a, b, this.1, rfl, D, G⟩, I⟩
theorem cj {A u B D : HA} (h : Hp) (G : ∀ h, A h → u h) (I : ∀ h, B h → D h) (s : bb A B h) : bb u D h := by
 obtain ⟨a, b, d, rfl, x, y⟩ := s
 exact ⟨a, b, d, rfl, G _ x, I _ y⟩
theorem iM {A : HA} {h : Hp} (s : A h) : bb tt A h := ⟨fun _ => none, h, fun _ => .inl rfl, (by funext i; simp [un]), trivial, s⟩
theorem jp {A : HA} {h : Hp} (s : A h) : bb A tt h := by rw [ej]; exact iM s

theorem eP (l : List HA) (X : HA) : ∀ h, bb X (aS l) h → aS l h := by
 induction l with
 | nil => intro h _; trivial
 | cons A l ih =>
  intro h s
  have u : bb A (bb X (aS l)) h := by
   rw [← bj, ej A X, bj]; exact s
  exact cj h (fun _ x => x) ih u
theorem cz (l m : List HA) : ∀ h, aS (l ++ m) h ↔ bb (aS l) (aS m) h := by
 induction l with
 | nil => intro h; exact ⟨iM, fun s => eP m tt h s⟩
 | cons A l ih =>
  intro h
  simp only [List.cons_append, aS]
  rw [bj]
  constructor
  ·exact cj h (fun _ x => x) (fun h s => (ih h).1 s)
  ·exact cj h (fun _ x => x) (fun h s => (ih h).2 s)
theorem oJ (A B : HA) (l : List HA) : aS (A :: B :: l) = aS (B :: A :: l) := by
 simp only [aS]; rw [← bj, ej A B, bj]
theorem fF : ∀ (l : List HA) (i : Nat) (A : HA), l[i]? = some A → aS l = aS (A :: l.eraseIdx i)
 | [], i, A, h => by simp at h
 | B :: l, 0, A, h => by simp at h; simp [h]
 | B :: l, i + 1, A, h => by
  have := fF l i A (by simpa using h)
  simp only [List.eraseIdx_cons_succ]
  rw [oJ]
  show bb B (aS l) = bb B (aS (A :: l.eraseIdx i))
  rw [this]
theorem gL : ∀ (l : List HA) (i : Nat) (A : HA), i < l.length → aS (A :: l.eraseIdx i) = aS (l.set i A)
 | [], i, A, h => by simp at h
 | B :: l, 0, A, h => by simp
 | B :: l, i + 1, A, h => by
  have := gL l i A (by simpa using h)
  simp only [List.eraseIdx_cons_succ, List.set_cons_succ]
  rw [oJ]
  show bb B (aS (A :: l.eraseIdx i)) = bb B (aS (l.set i A))
  rw [this]

def Ent (l m : List HA) : Prop := ∀ h, aS l h → aS m h
theorem Ent.refl (l : List HA) : Ent l l := fun _ s => s
theorem Ent.trans {l m k : List HA} (a : Ent l m) (b : Ent m k) : Ent l k := fun h s => b h (a h s)
theorem Ent.nil (l : List HA) : Ent l [] := fun _ _ => trivial
theorem Ent.sel {l m : List HA} {A : HA} (i : Nat) (h : l[i]? = some A) (r : Ent (l.eraseIdx i) m) : Ent l (A :: m) := by
 intro hp s
 rw [fF l i A h] at s
 exact cj hp (fun _ x => x) r s
theorem Ent.sel' {l m : List HA} {A B : HA} (i : Nat) (h : l[i]? = some A) (e : ∀ hp, A hp → B hp) (r : Ent (l.eraseIdx i) m) : Ent l (B :: m) := by
 intro hp s
 rw [fF l i A h] at s
 exact cj hp e r s
theorem Ent.cons {l m : List HA} {A : HA} (r : Ent l m) : Ent (A :: l) (A :: m) := fun hp s => cj hp (fun _ x => x) r s
theorem Ent.s {l m : List HA} {A : HA} (h : l[0]? = some A) (r : Ent (l.eraseIdx 0) m) : Ent l (A :: m) := .sel 0 h r
theorem Ent.n {l : List HA} : Ent l [] := .nil _
abbrev Iv (x : Int) : Value := .int .i64 x
abbrev Pt (b : Nat) : Value := .pointer (some ⟨b, 0, none⟩)
abbrev Lb := List UInt8
abbrev _root_.Prod.q4 {A B C D E : Type} (x : A × B × C × D × E) : E := x.2.2.2.2
abbrev _root_.Prod.q8 {A B C D E F G H I : Type} (x : A × B × C × D × E × F × G × H × I) : I := x.2.2.2.2.2.2.2.2
theorem Ent.app {l u m D : List HA} (a : Ent l u) (b : Ent m D) : Ent (l ++ m) (u ++ D) := fun h s =>
 (cz _ _ h).2 (cj h a b ((cz _ _ h).1 s))
theorem Ent.drop {l m : List HA} {A : HA} (r : Ent l m) : Ent (A :: l) m := fun h s => r h (eP l A h s)
theorem Ent.pr_in {l m : List HA} {p : Prop} (hp : p) (r : Ent l m) : Ent l (pr p :: m) := fun h s =>
 ⟨fun _ => none, h, fun _ => .inl rfl, (by funext i; simp [un]), hp, r h s⟩
theorem Ent.pr_out {l m : List HA} {p : Prop} (r : p → Ent l m) : Ent (pr p :: l) m := by
 rintro h ⟨a, b, d, rfl, hp, s⟩
 exact eP m tt _ ⟨a, b, d, rfl, trivial, r hp b s⟩
theorem Ent.ex_out {α : Type} {l m : List HA} {A : α → HA} (r : ∀ x, Ent (A x :: l) m) : Ent (exs A :: l) m := by
 rintro h ⟨a, b, d, rfl, ⟨x, u⟩, s⟩
 exact r x _ ⟨a, b, d, rfl, u, s⟩
theorem Ent.fold (l m : List HA) : Ent (l ++ m) (l ++ [aS m]) := fun h s =>
 (cz _ _ h).2 (cj h (fun _ x => x) (fun _ x => jp x) ((cz _ _ h).1 s))
theorem Ent.unfold (l m : List HA) : Ent (l ++ [aS m]) (l ++ m) := fun h s =>
 (cz _ _ h).2 (cj h (fun _ x => x) (fun h x => by
  have x : bb (aS m) tt h := x
  rw [ej] at x
  exact eP m tt h x) ((cz _ _ h).1 s))

def hpw (w : World) : Hp := fun b => w.heap[b]?
structure Sat (W : World) (H : List HA) (w : World) : Prop where
 os : w.os = W.os
 tape : w.tape = W.tape
 output : w.output = W.output
 size : W.heap.size ≤ w.heap.size
 hp : aS H (hpw w)
theorem Sat.ent {W w : World} {l m : List HA} (s : Sat W l w) (e : Ent l m) : Sat W m w := ⟨s.os, s.tape, s.output, s.size, e _ s.hp⟩
theorem Sat.drew {W w : World} {l : List HA} (s : Sat W l w) (n : Nat) : Sat W l { w with drawn := n } := ⟨s.os, s.tape, s.output, s.size, s.hp⟩
theorem Sat.pr_out {W w : World} {l : List HA} {p : Prop} (s : Sat W (pr p :: l) w) : p ∧ Sat W l w := by
 obtain ⟨a, b, _, _, hp, _⟩ := s.hp
 exact ⟨hp, s.ent (Ent.drop (Ent.refl _))⟩
theorem Sat.ex_out {α : Type} {W w : World} {l : List HA} {A : α → HA} (s : Sat W (exs A :: l) w) : ∃ x, Sat W (A x :: l) w := by
 obtain ⟨a, b, d, e, ⟨x, u⟩, r⟩ := s.hp
 exact ⟨x, s.os, s.tape, s.output, s.size, a, b, d, e, u, r⟩
theorem lz {a b : Hp} {i : Nat} {o : Obj} (h : a i = some o) : un a b i = some o := by simp [un, h]
theorem oe {a b : Hp} (d : dj a b) {i : Nat} {o : Obj} (h : b i = some o) : un a b i = some o := by
 rcases d i with e | e
 ·simp [un, e, h]
 ·rw [h] at e; cases e
theorem jH : ∀ (l : List HA) (i : Nat) (A : HA), l[i]? = some A → ∀ h, aS l h → ∃ a, A a ∧ ∀ j o, a j = some o → h j = some o := by
 intro l i A hi h s
 rw [fF l i A hi] at s
 obtain ⟨a, b, d, rfl, u, _⟩ := s
 exact ⟨a, u, fun j o e => lz e⟩
theorem Sat.at {W w : World} {l : List HA} (s : Sat W l w) {i : Nat} {A : HA} (h : l[i]? = some A) : ∃ a, A a ∧ ∀ j o, a j = some o → w.heap[j]? = some o :=
 jH l i A h _ s.hp
theorem Sat.pts_at {W w : World} {l : List HA} (s : Sat W l w) {i b : Nat} {o : Obj} (h : l[i]? = some (pts b o)) : w.heap[b]? = some o := by
 obtain ⟨a, u, k⟩ := s.at h
 exact k _ _ u

/-! ### 2. What is done to the heap -/
theorem Sat.new {W w : World} {l : List HA} (s : Sat W l w) (o : Obj) : Sat W (pts w.heap.size o :: l) { w with heap := w.heap.push o } := by
 refine ⟨s.os, s.tape, s.output, ?_, ?_⟩
 ·have := s.size; simp; omega
 ·refine ⟨fun i => if i = w.heap.size then some o else none, hpw w, ?_, ?_, ?_, s.hp⟩
  ·intro i
   by_cases h : i = w.heap.size
   ·right; subst h; simp [hpw]
   ·left; simp [h]
  ·funext i
   simp only [hpw, un, Array.getElem?_push]
   by_cases h : i = w.heap.size
   ·subst h; simp
   ·simp [h]
  ·simp [pts]
theorem Sat.upd {W w : World} {l : List HA} {b : Nat} {o o' : Obj} (s : Sat W (pts b o :: l) w) : Sat W (pts b o' :: l) { w with heap := w.heap.setIfInBounds b o' } := by
 have G : w.heap[b]? = some o := s.pts_at (i := 0) rfl
 have u : b < w.heap.size := (Array.getElem?_eq_some_iff.1 G).1
 refine ⟨s.os, s.tape, s.output, by simpa using s.size, ?_⟩
 obtain ⟨a, r, d, e, D, I⟩ := s.hp
 refine ⟨fun i => if i = b then some o' else a i, r, ?_, ?_, ?_, I⟩
 ·intro i
  by_cases h : i = b
  ·subst h
   rcases d i with x | x
   ·have D : a i = some o := D
    rw [D] at x; cases x
   ·exact .inr x
  ·simpa [h] using d i
 ·funext i
  have := congrFun e i
  simp only [hpw] at this ⊢
  simp only [un] at this ⊢
  rw [Array.getElem?_setIfInBounds]
  by_cases h : i = b
  ·subst h; simp [u]
  ·have J : ¬ b = i := fun x => h x.symm
   simp [h, J, this]
 ·simp [pts]
theorem jO (h : Array Obj) (b : Nat) (f : Obj → Obj) (o : Obj) (e : h[b]? = some o) : h.modify b f = h.setIfInBounds b (f o) := by
 apply Array.ext_getElem?
 intro i
 rw [Array.getElem?_modify, Array.getElem?_setIfInBounds]
 have u : b < h.size := (Array.getElem?_eq_some_iff.1 e).1
 by_cases hi : b = i
 ·subst hi
  have D : h[b] = o := by rw [Array.getElem?_eq_getElem u] at e; simpa using e
  simp [u, D]
 ·simp [hi]

/-! ### 3. Temporaries -/
abbrev Env := List (Nat × Value)
def lk : Env → Nat → Option Value
 | [], _ => none
 | (i, v) :: t, j => bif Nat.beq i j then some v else lk t j
def ev (E : Env) : Operand → Option Value
 | .tmp t => lk E t
 | .const v => some v
 | .global g => some (.pointer (some ⟨g, 0, none⟩))
 | .func f => some (.func (.func f) #[] #[])
structure Has (n : Nat) (ds : List Deferred) (E : Env) (a : Act) : Prop where
 size : a.tmps.size = n
 defers : a.defers = ds
 get : ∀ i v, lk E i = some v → a.tmps[i]? = some v
theorem Has.ev {n : Nat} {ds : List Deferred} {E : Env} {a : Act} (h : Has n ds E a) {x : Operand} {v : Value} (e : ev E x = some v) : a.eval x = v := by
 cases x with
 | tmp t =>
  have := h.get t v e
  simp [Act.eval, Array.getD_eq_getD_getElem?, this]
 | const v' => simpa [Go.Proofs.YtndjkejhacfpdaaGreatDoor.ev, Act.eval] using e
 | global g => simpa [Go.Proofs.YtndjkejhacfpdaaGreatDoor.ev, Act.eval] using e
 | func f => simpa [Go.Proofs.YtndjkejhacfpdaaGreatDoor.ev, Act.eval] using e
theorem Has.put {n : Nat} {ds : List Deferred} {E : Env} {a : Act} (h : Has n ds E a) {d : Nat} (v : Value) (hd : Nat.blt d n = true) : Has n ds ((d, v) :: E) (a.put (some d) v) := by
 have D : d < n := by simpa [Nat.blt_eq] using hd
 refine ⟨by simpa [Act.put] using h.size, h.defers, fun i u hi => ?_⟩
 simp only [Act.put]
 rw [Array.getElem?_setIfInBounds]
 simp only [lk] at hi
 by_cases e : d = i
 ·subst e
  simp [h.size, D] at hi ⊢
  exact hi
 ·have : Nat.beq d i = false := by
   rw [Bool.eq_false_iff]; intro x; exact e (Nat.eq_of_beq_eq_true x)
  rw [this] at hi
  simp only [cond_false] at hi
  rw [if_neg e]
  exact h.get i u hi
def Sub : Env → Env → Prop
 | [], _ => True
 | (i, v) :: t, E => lk E i = some v ∧ Sub t E
theorem Has.sub {n : Nat} {ds : List Deferred} {E E' : Env} {a : Act} (h : Has n ds E a) (s : Sub E' E) : Has n ds E' a := by
 refine ⟨h.size, h.defers, ?_⟩
 induction E' with
 | nil => intro i v e; simp [lk] at e
 | cons p t ih =>
  obtain ⟨j, u⟩ := p
  obtain ⟨h1, D⟩ := s
  intro i v e
  simp only [lk] at e
  cases hb : Nat.beq j i with
  | true =>
   rw [hb] at e
   obtain rfl := Nat.eq_of_beq_eq_true hb
   simp only [cond_true, Option.some.injEq] at e
   subst e
   exact h.get _ _ h1
  | false =>
   rw [hb] at e
   exact ih D i v e

end Go.Proofs.YtndjkejhacfpdaaGreatDoor

namespace Go.Proofs.YtndjkejhacfpdaaGreatDoor
open Go.RowKit

structure Cx where
 P : Program
 W : World
 ro : Option Nat
 n : Nat
 ds : List Deferred
def fen : Option Nat → Fence
 | none => Fence.wide
 | some l => Fence.wide.inRound l
theorem gO (ro : Option Nat) (f : FuncId) : (fen ro).fn f := by cases ro <;> trivial
theorem kU (ro : Option Nat) : (fen ro).depth.isSome = true → 1 ≤ 0 := by cases ro <;> (intro h; cases h)
theorem uE (ro : Option Nat) : (fen ro).round = ro := by cases ro <;> rfl

abbrev dw (R : Type) := R → Exit → Act → World → Prop
section defs
variable (K : Cx) {R S Y : Type}
def Sim (Q : dw R) (c : Code) (E : Env) (H : List HA) (o : Option R) : Prop :=
 ∀ r, o = some r → ∀ a w, Has K.n K.ds E a → Sat K.W H w → c.wpIn (fen K.ro) 0 K.P (Q r) a w
def cc (Q : dw R) (ops : Array Oper) (l : List Oper) (E : Env) (H : List HA) (o : Option R) : Prop :=
 ∀ r, o = some r → ∀ a w, Has K.n K.ds E a → Sat K.W H w → wpListIn (fen K.ro) 0 K.P ops (Q r) l a w
def Nrm (Q : dw R) (E : Env) (H : List HA) (o : Option R) : Prop :=
 ∀ r, o = some r → ∀ a w, Has K.n K.ds E a → Sat K.W H w → Q r .normal a w
def kp (c : Code) (Q : dw R) : dw R := fun r => Exit.then (c.wpIn (fen K.ro) 0 K.P (Q r)) (Q r)
def lB (id : Nat) (Q : dw R) : dw R := fun r => Exit.inBlock id (Q r)
def jw (E : S → Y → Env) (H : S → Y → List HA) : dw S := fun s e a w =>
 match e with
 | .normal => ∃ y, Has K.n K.ds (E s y) a ∧ Sat K.W (H s y) w
 | _ => False
def vO (Q : dw R) (E : S → Y → Env) (H : S → Y → List HA) : dw (S ⊕ R) := fun sr e a w =>
 match sr with
 | .inl s => match e with
  | .normal => ∃ y, Has K.n K.ds (E s y) a ∧ Sat K.W (H s y) w
  | _ => False
 | .inr r => match e with
  | .normal => False
  | e => Q r e a w
def qj (L : S → Option R) (E : S → Y → Env) (H : S → Y → List HA) (Q : dw R) : dw R := fun r e a w =>
 match e with
 | .normal => ∃ s y, L s = some r ∧ Has K.n K.ds (E s y) a ∧ Sat K.W (H s y) w
 | e => Q r e a w
def qD (fn : Func) (val : R → Y → Value) (B : R → Y → List HA) : dw R := fun r e a w =>
 bodyPost K.P fn (fun e u => ∃ y, e = .returned (val r y) ∧ Sat K.W (B r y) u) e a w
end defs

def orR {S R : Type} (u : Option (S ⊕ R)) (o2 : S → Option R) : Option R :=
 match u with
 | none => none
 | some (.inl s) => o2 s
 | some (.inr r) => some r

section rules
variable {K : Cx} {R S Y : Type} {Q : dw R} {E : Env} {H : List HA} {o : Option R}
theorem ay {u c2 : Code} (h : Sim K (kp K c2 Q) u E H o) : Sim K Q (.seq u c2) E H o :=
 fun r D a w G I => wpIn_seq (h r D a w G I)
theorem aR {id : Nat} {c : Code} (h : Sim K (lB id Q) c E H o) : Sim K Q (.block id c) E H o :=
 fun r u a w D G => wpIn_block (h r u a w D G)
theorem aC (h : Nrm K Q E H o) : Sim K Q .skip E H o := fun r u a w D G => wpIn_skip (h r u a w D G)
theorem aI {id : Nat} {l : List Oper} (h : cc K Q l.toArray l E H o) : Sim K Q (.region id l.toArray false) E H o :=
 fun r u a w D G => wpIn_region_lit (h r u a w D G)
theorem ae {ops : Array Oper} (h : Nrm K Q E H o) : cc K Q ops [] E H o := h
theorem aa {c : Code} (h : Sim K Q c E H o) : Nrm K (kp K c Q) E H o := h
theorem bo {id : Nat} (h : Nrm K Q E H o) : Nrm K (lB id Q) E H o := h
theorem jf {c : Code} : Sim K Q c E H none := fun _ h => nomatch h
theorem po {ops : Array Oper} {l : List Oper} : cc K Q ops l E H none := fun _ h => nomatch h
theorem vP : Nrm K Q E H none := fun _ h => nomatch h
theorem bn {x : Operand} {G c2 : Code} {p : Prop} [Decidable p] {I o2 : Option R} (J : ev E x = some (.bool (decide p)))
  (h1 : p → Sim K Q G E H I) (U : ¬ p → Sim K Q c2 E H o2) : Sim K Q (.cond x G c2) E H (if p then I else o2) := by
 intro r u a w D L
 by_cases hp : p
 ·rw [if_pos hp] at u
  exact wpIn_cond_true (by rw [D.ev J]; simp [hp]) (h1 hp r u a w D L)
 ·rw [if_neg hp] at u
  exact wpIn_cond_false (by rw [D.ev J]; simp [hp]) (U hp r u a w D L)
theorem aZ {x : Operand} {D c2 : Code} {b : Bool} {G o2 : Option R} (I : ev E x = some (.bool b))
  (h1 : b = true → Sim K Q D E H G) (U : b = false → Sim K Q c2 E H o2) : Sim K Q (.cond x D c2) E H (if b = true then G else o2) := by
 intro r J a w u L
 cases b with
 | true => exact wpIn_cond_true (u.ev I) (h1 rfl r (by simpa using J) a w u L)
 | false => exact wpIn_cond_false (u.ev I) (U rfl r (by simpa using J) a w u L)
theorem dd {x : Operand} {G c2 : Code} {p : Prop} [Decidable p] {I o2 : Option R} (J : ev E x = some (.bool (!decide p)))
  (h1 : p → Sim K Q c2 E H I) (U : ¬ p → Sim K Q G E H o2) : Sim K Q (.cond x G c2) E H (if p then I else o2) := by
 intro r u a w D L
 by_cases hp : p
 ·rw [if_pos hp] at u
  exact wpIn_cond_false (by rw [D.ev J]; simp [hp]) (h1 hp r u a w D L)
 ·rw [if_neg hp] at u
  exact wpIn_cond_true (by rw [D.ev J]; simp [hp]) (U hp r u a w D L)
theorem gh {x : Operand} {u c2 : Code} (G : ev E x = some (.bool true)) (h1 : Sim K Q u E H o) : Sim K Q (.cond x u c2) E H o :=
 fun r I a w D J => wpIn_cond_true (D.ev G) (h1 r I a w D J)
theorem gq {x : Operand} {D c2 : Code} (G : ev E x = some (.bool false)) (h1 : Sim K Q c2 E H o) : Sim K Q (.cond x D c2) E H o :=
 fun r I a w u J => wpIn_cond_false (u.ev G) (h1 r I a w u J)
theorem gj {c : Code} {p : Prop} [Decidable p] {u o2 : Option R} (h1 : p → Sim K Q c E H u) (D : ¬ p → Sim K Q c E H o2) : Sim K Q c E H (if p then u else o2) := by
 by_cases hp : p
 ·rw [if_pos hp]; exact h1 hp
 ·rw [if_neg hp]; exact D hp
theorem jJ {ops : Array Oper} {l : List Oper} {p : Prop} [Decidable p] {u o2 : Option R} (h1 : p → cc K Q ops l E H u) (D : ¬ p → cc K Q ops l E H o2) : cc K Q ops l E H (if p then u else o2) := by
 by_cases hp : p
 ·rw [if_pos hp]; exact h1 hp
 ·rw [if_neg hp]; exact D hp
theorem bg {ops : Array Oper} {l : List Oper} {p : Prop} [Decidable p] {u : Option R} (h1 : p → cc K Q ops l E H u) : cc K Q ops l E H (if p then u else none) :=
 jJ h1 fun _ => po
theorem cG {c : Code} {p : Prop} [Decidable p] {u : Option R} (h1 : p → Sim K Q c E H u) : Sim K Q c E H (if p then u else none) :=
 gj h1 fun _ => jf
theorem ax {ops : Array Oper} {l : List Oper} {u : Option S} {o2 : S → Option R} (h : ∀ s, u = some s → cc K Q ops l E H (o2 s)) : cc K Q ops l E H (u.bind o2) := by
 cases u with
 | none => exact po
 | some s => exact h s rfl
theorem bv {c : Code} {u : Option S} {o2 : S → Option R} (h : ∀ s, u = some s → Sim K Q c E H (o2 s)) : Sim K Q c E H (u.bind o2) := by
 cases u with
 | none => exact jf
 | some s => exact h s rfl
theorem bX {ops : Array Oper} {l : List Oper} {H' : List HA} (e : Ent H H') (h : cc K Q ops l E H' o) : cc K Q ops l E H o :=
 fun r u a w D G => h r u a w D (G.ent e)
theorem fm {c : Code} {H' : List HA} (e : Ent H H') (h : Sim K Q c E H' o) : Sim K Q c E H o :=
 fun r u a w D G => h r u a w D (G.ent e)
theorem oX {H' : List HA} (e : Ent H H') (h : Nrm K Q E H' o) : Nrm K Q E H o :=
 fun r u a w D G => h r u a w D (G.ent e)
theorem oo {c : Code} {p : Prop} (h : p → Sim K Q c E H o) : Sim K Q c E (pr p :: H) o :=
 fun r D a w G u => h u.pr_out.1 r D a w G u.pr_out.2
theorem xf {c : Code} {A : Y → HA} (h : ∀ y, Sim K Q c E (A y :: H) o) : Sim K Q c E (exs A :: H) o :=
 fun r u a w D G => let ⟨y, s⟩ := G.ex_out; h y r u a w D s
theorem bJ (Y : Type) {G c2 : Code} {D : Option S} {o2 : S → Option R} (I : S → Y → Env) (J : S → Y → List HA)
  (h1 : Sim K (jw K I J) G E H D) (U : ∀ s y, Sim K Q c2 (I s y) (J s y) (o2 s)) : Sim K Q (.seq G c2) E H (D.bind o2) := by
 intro r u a w X hs
 cases ho : D with
 | none => rw [ho] at u; cases u
 | some s =>
  rw [ho] at u
  refine wpIn_seq (wpIn_mono (h1 s ho a w X hs) ?_)
  intro e a' w' L
  cases e with
  | normal => obtain ⟨y, x1, x2⟩ := L; exact U s y r u a' w' x1 x2
  | _ => exact L.elim
theorem gi (Y : Type) {I c2 : Code} {G : Option (S ⊕ R)} {o2 : S → Option R} (J : S → Y → Env) (L : S → Y → List HA)
  (h1 : Sim K (vO K Q J L) I E H G) (h2 : ∀ s y, Sim K Q c2 (J s y) (L s y) (o2 s)) : Sim K Q (.seq I c2) E H (orR G o2) := by
 intro r u a w U X
 cases ho : G with
 | none => rw [ho] at u; cases u
 | some sr =>
  rw [ho] at u
  cases sr with
  | inl s =>
   refine wpIn_seq (wpIn_mono (h1 _ ho a w U X) ?_)
   intro e a' w' D
   cases e with
   | normal => obtain ⟨y, x1, x2⟩ := D; exact h2 s y r u a' w' x1 x2
   | _ => exact D.elim
  | inr r' =>
   obtain rfl : r' = r := by simpa [orR] using u
   refine wpIn_seq (wpIn_mono (h1 _ ho a w U X) ?_)
   intro e a' w' D
   cases e with
   | normal => exact D.elim
   | _ => exact D
theorem aG {u : S → Y → Env} {D : S → Y → List HA} {s : S} (y : Y) (G : Sub (u s y) E) (I : Ent H (D s y)) : Nrm K (jw K u D) E H (some s) := by
 intro r J a w L U
 cases J
 exact ⟨y, L.sub G, U.ent I⟩
theorem fN {u : S → Y → Env} {D : S → Y → List HA} {s : S} (y : Y) (G : Sub (u s y) E) (I : Ent H (D s y)) : Nrm K (vO K Q u D) E H (some (.inl s)) := by
 intro r J a w L U
 cases J
 exact ⟨y, L.sub G, U.ent I⟩
theorem lS {F : Fence} {n : Nat} {P : Program} {ops : Array Oper} {D G : Exit → Act → World → Prop} : ∀ (l1 l2 : List Oper) (a : Act) (w : World),
  wpListIn F n P ops D l1 a w → (∀ a w, D .normal a w → wpListIn F n P ops G l2 a w) → (∀ c a w, D (.panic c) a w → G (.panic c) a w) → (∀ a w, D .outgrown a w → G .outgrown a w) → wpListIn F n P ops G (l1 ++ l2) a w
 | [], l2, a, w, h, h2, _, _ => h2 a w h
 | o :: l1, l2, a, w, h, h2, h3, h4 => by
  simp only [List.cons_append, wpListIn] at h ⊢
  split
  ·rename_i J
   rw [if_pos J] at h
   refine ⟨h.1, ?_⟩
   have mono : ∀ (r : Result Next), o.uponIn F n P a (wpListIn F n P ops D l1) D r → o.uponIn F n P a (wpListIn F n P ops G (l1 ++ l2)) G r := by
    intro r u
    have nx : ∀ a w, wpListIn F n P ops D l1 a w → wpListIn F n P ops G (l1 ++ l2) a w := fun a w x => lS l1 l2 a w x h2 h3 h4
    have L : LetsOut D → LetsOut G := fun ⟨a, w, x⟩ => ⟨a, w, h4 a w x⟩
    cases r with
    | ok nxt w' =>
     cases nxt with
     | value v => exact nx _ _ u
     | skip => exact nx _ _ u
     | defer d => exact nx _ _ u
     | enter f args =>
      refine ⟨u.1, u.2.mono ?_⟩
      intro e I x
      cases e with
      | returned v => exact nx _ _ x
      | panicked c => exact h3 _ _ _ x
      | outgrown => exact L x
     | row row args => exact ⟨u.1, u.2.mono fun v I x => nx _ _ x⟩
     | round l f tmps assign body =>
      refine ⟨u.1, u.2.mono ?_⟩
      intro e I x
      cases e with
      | returned v => exact nx _ _ x
      | panicked c => exact h3 _ _ _ x
      | outgrown => exact L x
     | _ => exact u.elim
    | halt h w' => cases h <;> first | exact h3 _ _ _ u | exact u.elim
   exact mono _ h.2
  ·rename_i J
   rw [if_neg J] at h
   exact ⟨h.1, lS l1 l2 _ w h.2 h2 h3 h4⟩
theorem vQ (Y : Type) {ops : Array Oper} {l1 l2 : List Oper} {D : Option S} {o2 : S → Option R} (G : S → Y → Env) (I : S → Y → List HA)
  (h1 : cc K (jw K G I) ops l1 E H D) (J : ∀ s y, cc K Q ops l2 (G s y) (I s y) (o2 s)) : cc K Q ops (l1 ++ l2) E H (D.bind o2) := by
 intro r u a w L U
 cases ho : D with
 | none => rw [ho] at u; cases u
 | some s =>
  rw [ho] at u
  exact lS l1 l2 a w (h1 s ho a w L U) (fun X w' ⟨y, x1, x2⟩ => J s y r u X w' x1 x2) (fun _ _ _ x => x.elim) (fun _ _ x => x.elim)

theorem ck {c : Code} (Y : Type) (L : Nat → S → Option R) (Es : S → Y → Env) (Hs : S → Y → List HA) (h0 : ∀ s, L 0 s = none)
  (hb : ∀ k s y, Sim K (qj K (L k) Es Hs Q) c (Es s y) (Hs s y) (L (k + 1) s)) (k : Nat) (s : S) (y : Y) (hE : Sub (Es s y) E) (hH : Ent H (Hs s y)) :
  Sim K Q (.loop c) E H (L k s) := by
 intro r G a w he hs
 refine wpIn_wpghost (fun j a w => ∃ s y, L j s = some r ∧ Has K.n K.ds (Es s y) a ∧ Sat K.W (Hs s y) w) k ⟨s, y, G, he.sub hE, hs.ent hH⟩ ?_
 rintro j a w ⟨s, y, G, he, hs⟩
 cases j with
 | zero => rw [h0] at G; cases G
 | succ j =>
  refine wpIn_mono (hb j s y r G a w he hs) ?_
  intro e J U D
  cases e with
  | normal => exact ⟨j, Nat.lt_succ_self j, D⟩
  | _ => exact D
where
 wpIn_wpghost {F : Fence} {n : Nat} {P : Program} {Q : Exit → Act → World → Prop} {a : Act} {w : World} {c : Code} (I : Nat → Act → World → Prop) (n₀ : Nat) (h₀ : I n₀ a w)
   (X : ∀ m a w, I m a w → c.wpIn F n P (Exit.then (fun J U => ∃ k, k < m ∧ I k J U) Q) a w) : (Code.loop c).wpIn F n P Q a w := by
  intro b k cs a8 hb G
  have key : ∀ j a w, I j a w →
    ∃ e J U, Q e J U ∧ ArrivesIn (Machine.fenced P F) P (lone (b.atR a (.code c :: .inLoop c :: k)) cs w) b k cs e J U := by
   intro j
   induction j using Nat.strongRecOn with
   | _ j ih =>
    intro a w hI
    obtain ⟨e, a₁, w₁, D, u⟩ := X j a w hI b (.inLoop c :: k) cs a8 hb G
    cases e with
    | normal =>
     obtain ⟨j', bc, be⟩ := D
     obtain ⟨e₂, a₂, w₂, br, ab⟩ := ih j' bc a₁ w₁ be
     exact ⟨e₂, a₂, w₂, br, .of_steps (StepsIn.trans u (.one (fenced_calm hb G rfl) stepR_inLoop)) ab⟩
    | exit id => exact ⟨_, a₁, w₁, D, .pass (x := .inLoop c) rfl (fun _ _ => .inl (by simp)) u⟩
    | goto l => exact ⟨_, a₁, w₁, D, .pass (x := .inLoop c) rfl (fun _ _ => .inl (by simp)) u⟩
    | ret => exact ⟨_, a₁, w₁, D, .pass (x := .inLoop c) rfl (fun _ _ => .inl (by simp)) u⟩
    | panic ch => exact ⟨_, a₁, w₁, D, .pass (x := .inLoop c) rfl (fun _ _ => .inl (by simp)) u⟩
    | outgrown => exact ⟨_, a₁, w₁, D, .pass (x := .inLoop c) rfl (fun _ _ => .inl (by simp)) u⟩
  obtain ⟨e, J, U, D, u⟩ := key _ a w h₀
  exact ⟨e, J, U, D, .of_steps (.one (fenced_calm hb G rfl) stepR_loop) u⟩
theorem bM {L : S → Option R} {u : S → Y → Env} {D : S → Y → List HA} {s : S} (y : Y) (G : Sub (u s y) E) (I : Ent H (D s y)) : Nrm K (qj K L u D Q) E H (L s) :=
 fun _ J _ _ U X => ⟨s, y, J, U.sub G, X.ent I⟩
/-! ### Results -/
def kk : List ResultVar → Env → Option (List Value)
 | [], _ => some []
 | .tmp t :: l, E => match lk E t, kk l E with
  | some v, some vs => some (v :: vs)
  | _, _ => none
 | .cell .. :: _, _ => none
def tup : List Value → Value
 | [v] => v
 | vs => .tuple vs.toArray
theorem qE {n : Nat} {ds : List Deferred} {a : Act} {P : Program} {w : World} (D : Has n ds E a) (g : ResultVar → Sem Value) (G : ∀ t, g (.tmp t) = Sem.pure (a.tmps.getD t undef)) : ∀ (l : List ResultVar) (vs : List Value), kk l E = some vs →
  (l.mapM g).run P w = .ok vs w
 | [], vs, h => by simp [kk] at h; subst h; rfl
 | .tmp t :: l, vs, h => by
  simp only [kk] at h
  split at h
  ·rename_i v u h1 I
   cases h
   have J := qE (P := P) (w := w) D g G l u I
   have := D.get _ _ h1
   simp only [List.mapM_cons, Sem.run_bind, G, Sem.run_pure', Result.andThen_ok]
   rw [J]
   simp [Array.getD_eq_getD_getElem?, this]
  ·cases h
 | .cell .. :: l, vs, h => by simp [kk] at h
theorem oq {n : Nat} {ds : List Deferred} {a : Act} {P : Program} {w : World} {fn : Func} (D : Has n ds E a) {vs : List Value} (h : kk fn.results.toList E = some vs) :
  (results fn a.tmps).run P w = .ok (tup vs) w := by
 unfold results
 simp only [Sem.run_bind]
 rw [← Array.toArray_toList (xs := fn.results), List.mapM_toArray]
 simp only [Sem.run_map]
 rw [qE (P := P) (w := w) D _ (fun _ => rfl) fn.results.toList vs h]
 simp only [Result.andThen_ok]
 match vs with
 | [] => simp [tup]
 | [v] => simp [tup]
 | v :: u :: t => simp [tup]
theorem sI {fn : Func} {val : R → Y → Value} {B : R → Y → List HA} {r : R} {vs : List Value} (y : Y) (hd : K.ds = []) (u : kk fn.results.toList E = some vs) (I : tup vs = val r y) (J : Ent H (B r y)) :
  ∀ D, some r = some D → ∀ a w, Has K.n K.ds E a → Sat K.W H w → a.defers = [] ∧ ∃ v, (results fn a.tmps).run K.P w = .ok v w ∧ ∃ y, Ending.returned v = .returned (val D y) ∧ Sat K.W (B D y) w := by
 intro D L a w G U
 cases L
 exact ⟨G.defers.trans hd, _, oq G u, y, by rw [I], U.ent J⟩
theorem fZ {fn : Func} {val : R → Y → Value} {B : R → Y → List HA} {r : R} {vs : List Value} (y : Y) (hd : K.ds = []) (u : kk fn.results.toList E = some vs) (D : tup vs = val r y) (G : Ent H (B r y)) :
  Nrm K (qD K fn val B) E H (some r) := fun I J a w L U => sI (K := K) y hd u D G I J a w L U

/-! ### Functions -/
end rules
def Fn (P : Program) (W : World) (f : FuncId) (args : List Value) (A : List HA) (F : HA) {R Y : Type} (o : Option R) (val : R → Y → Value) (B : R → Y → List HA) : Prop :=
 ∀ r, o = some r → ∀ w, Sat W (A ++ [F]) w → Calls P f args.toArray w fun e u => ∃ y, e = .returned (val r y) ∧ Sat W (B r y ++ [F]) u
def lT : Nat → List Value → Env
 | _, [] => []
 | i, v :: l => (i, v) :: lT (i + 1) l
theorem qF : ∀ (l : List Value) (i j : Nat) (v : Value), lk (lT i l) j = some v → ∃ k, j = i + k ∧ l[k]? = some v
 | [], i, j, v, h => by simp [lT, lk] at h
 | u :: l, i, j, v, h => by
  simp only [lT, lk] at h
  cases hb : Nat.beq i j with
  | true =>
   rw [hb] at h
   exact ⟨0, (Nat.eq_of_beq_eq_true hb).symm, by simpa using h⟩
  | false =>
   rw [hb] at h
   obtain ⟨k, h1, D⟩ := qF l (i + 1) j v h
   exact ⟨k + 1, by omega, by simpa using D⟩
theorem lU (args : List Value) (n : Nat) (G : args.length ≤ n) : Has n [] (lT 0 args) { tmps := args.toArray ++ Array.replicate (n - args.toArray.size) undef, defers := [] } := by
 refine ⟨by simp; omega, rfl, fun i v h => ?_⟩
 obtain ⟨k, rfl, u⟩ := qF args 0 i v h
 have D : k < args.length := (List.getElem?_eq_some_iff.1 u).1
 simp only [Nat.zero_add]
 rw [Array.getElem?_append_left (by simpa using D)]
 simpa using u
theorem aO {P : Program} {W : World} {f : FuncId} {args : List Value} {A : List HA} {F : HA} {R Y : Type} {o : Option R} {val : R → Y → Value} {B : R → Y → List HA}
  {fn : Func} {c : Code} (n : Nat) (u : P.funcs[f]? = some fn) (D : fn.body = some c) (G : fn.ntmps = n) (I : Nat.ble args.length n = true)
  (h : Sim ⟨P, W, none, n, []⟩ (qD ⟨P, W, none, n, []⟩ fn val fun r y => B r y ++ [F]) c (lT 0 args) (A ++ [F]) o) : Fn P W f args A F o val B := by
 intro r J w L
 refine (callsIn_wide (n := 0)).1 (callsIn_of_wp u D trivial ?_ rfl)
 have := h r J _ w (lU args n (by simpa [Nat.ble_eq] using I)) L
 rw [G]
 exact this

/-! ### Operations -/
section ops
variable (K : Cx) {R Y : Type}
def RQ (o : Oper) (E : Env) (H : List HA) (v : Value) : Prop :=
 ∀ a w, Has K.n K.ds E a → Sat K.W H w → ∀ next Q, (∀ u, Sat K.W H u → next (a.put o.dst v) u) → o.wpIn (fen K.ro) 0 K.P a w next Q
def RE (o : Oper) (E : Env) (H : List HA) (v : Y → Value) (H' : Y → List HA) : Prop :=
 ∀ a w, Has K.n K.ds E a → Sat K.W H w → ∀ next Q, (∀ y u, Sat K.W (H' y) u → next (a.put o.dst (v y)) u) → o.wpIn (fen K.ro) 0 K.P a w next Q
end ops
section
variable {K : Cx} {R S Y : Type} {Q : dw R} {E : Env} {H : List HA} {opt : Option R} {ops : Array Oper} {rest : List Oper} {o : Oper}
theorem RE.rq {v : Y → Value} {H' : Y → List HA} {u : Value} (h : RE K o E H v H') (D : ∀ y, v y = u) (G : ∀ y, Ent (H' y) H) : RQ K o E H u :=
 fun a w I J next Q L => h a w I J next Q fun y U s => by rw [D]; exact L U (s.ent (G y))
theorem RQ.sub {v : Value} {E' : Env} (s : Sub E' E) (h : RQ K o E' H v) : RQ K o E H v := fun a w u D => h a w (u.sub s) D
theorem jI {d : Nat} {v : Value} (I : RQ K o E H v) (J : o.guard = none) (hd : o.dst = some d) (L : Nat.blt d K.n = true)
  (h : cc K Q ops rest ((d, v) :: E) H opt) : cc K Q ops (o :: rest) E H opt := by
 intro r u a w G U
 refine wpListIn_plain J fun K' D => I a w G U _ _ fun X s => D _ _ ?_
 rw [hd]
 exact h r u _ X (G.put v L) s
theorem aY {v : Y → Value} {H' : Y → List HA} (I : RE K o E H v H') (J : o.guard = none) (hd : o.dst = none)
  (h : ∀ y, cc K Q ops rest E (H' y) opt) : cc K Q ops (o :: rest) E H opt := by
 intro r u a w G L
 refine wpListIn_plain J fun X D => I a w G L _ _ fun y U s => D _ _ ?_
 rw [hd]
 exact h y r u _ U G s
theorem ah {d : Nat} {v : Y → Value} {H' : Y → List HA} (I : RE K o E H v H') (J : o.guard = none) (hd : o.dst = some d) (L : Nat.blt d K.n = true)
  (h : ∀ y, cc K Q ops rest ((d, v y) :: E) (H' y) opt) : cc K Q ops (o :: rest) E H opt := by
 intro r u a w G U
 refine wpListIn_plain J fun K' D => I a w G U _ _ fun y X s => D _ _ ?_
 rw [hd]
 exact h y r u _ X (G.put _ L) s
/-! A guard: the operation is carried out, or not. -/
theorem jY {E : Env} {n : Nat} {ds : List Deferred} {a : Act} (D : Has n ds E a) {j dj : Nat} {u b : Bool} (G : o.guard = some (j, u)) (I : ((ops[j]?).bind (·.dst)) = some dj) (J : lk E dj = some (.bool b)) :
  Region.wanted o (yielded ops a.tmps) = (b == u) := by
 simp only [Region.wanted, G, yielded, I, Option.bind_some, D.get _ _ J]
 cases b <;> cases u <;> rfl
theorem qG {j dj : Nat} {u b : Bool} (J : o.guard = some (j, u)) (L : ((ops[j]?).bind (·.dst)) = some dj) (U : lk E dj = some (.bool b)) (X : (b == u) = true)
  (h : ∀ r, opt = some r → ∀ a w, Has K.n K.ds E a → Sat K.W H w → ∀ next, (∀ a w, wpListIn (fen K.ro) 0 K.P ops (Q r) rest a w → next a w) → o.wpIn (fen K.ro) 0 K.P a w next (Q r)) : cc K Q ops (o :: rest) E H opt := by
 intro r D a w I hs
 refine wpListIn_step fun K' G => ?_
 rw [jY I J L U, X]
 simp only [if_true]
 exact h r D a w I hs K' G
theorem aL {d j dj : Nat} {u b : Bool} {v : Value} (J : RQ K o E H v) (L : o.guard = some (j, u)) (U : ((ops[j]?).bind (·.dst)) = some dj) (X : lk E dj = some (.bool b)) (hw : (b == u) = true) (hd : o.dst = some d) (hn : Nat.blt d K.n = true)
  (h : cc K Q ops rest ((d, v) :: E) H opt) : cc K Q ops (o :: rest) E H opt :=
 qG L U X hw fun r D a w I hs next G => J a w I hs _ _ fun w' s => G _ _ (by rw [hd]; exact h r D _ w' (I.put v hn) s)
theorem ga {d j dj : Nat} {u b : Bool} {v : Y → Value} {H' : Y → List HA} (J : RE K o E H v H') (L : o.guard = some (j, u)) (U : ((ops[j]?).bind (·.dst)) = some dj) (X : lk E dj = some (.bool b)) (hw : (b == u) = true) (hd : o.dst = some d) (hn : Nat.blt d K.n = true)
  (h : ∀ y, cc K Q ops rest ((d, v y) :: E) (H' y) opt) : cc K Q ops (o :: rest) E H opt :=
 qG L U X hw fun r D a w I hs next G => J a w I hs _ _ fun y w' s => G _ _ (by rw [hd]; exact h y r D _ w' (I.put _ hn) s)
def cv (g : Bool) (v : Value) : Value := bif g then v else undef
theorem aw {d j dj : Nat} {u b : Bool} {v : Value} (hr : (b == u) = true → RQ K o E H v) (I : o.guard = some (j, u)) (J : ((ops[j]?).bind (·.dst)) = some dj) (L : lk E dj = some (.bool b)) (hd : o.dst = some d) (U : Nat.blt d K.n = true)
  (h : cc K Q ops rest ((d, cv (b == u) v) :: E) H opt) : cc K Q ops (o :: rest) E H opt := by
 cases hw : (b == u) with
 | true =>
  rw [hw] at h
  exact aL (hr hw) I J L hw hd U h
 | false =>
  rw [hw] at h
  intro r D a w X hs
  refine wpListIn_step fun K' G => ?_
  rw [jY X I J L, hw]
  simp only [Bool.false_eq_true, if_false]
  refine ⟨fun f _ => gO _ _, G _ _ ?_⟩
  rw [hd]
  exact h r D _ w (X.put undef U) hs
end

end Go.Proofs.YtndjkejhacfpdaaGreatDoor

namespace Go.Proofs.YtndjkejhacfpdaaGreatDoor
open Go.RowKit

section
variable {K : Cx} {R S Y : Type} {Q : dw R} {E : Env} {H : List HA} {opt : Option R} {ops : Array Oper} {rest : List Oper} {o : Oper}

theorem gN {v : Y → Value} {H' : Y → List HA} (G : ∀ c, o.op ≠ .defer c)
  (h : ∀ a w, Has K.n K.ds E a → Sat K.W H w → ∃ y u, (execOp a.eval o).run K.P w = .ok (.value (v y)) u ∧ Sat K.W (H' y) u) : RE K o E H v H' := by
 intro a w I J next Q D
 obtain ⟨y, u, L, s⟩ := h a w I J
 refine ⟨fun f _ => gO _ _, ?_⟩
 rw [Oper.semAt_eq _ _ _ G, L]
 exact D y u s
theorem oZ {H' : Y → List HA} (G : ∀ c, o.op ≠ .defer c)
  (h : ∀ a w, Has K.n K.ds E a → Sat K.W H w → ∃ y u, (execOp a.eval o).run K.P w = .ok .skip u ∧ Sat K.W (H' y) u) : RE K o E H (fun _ => undef) H' := by
 intro a w I J next Q D
 obtain ⟨y, u, L, s⟩ := h a w I J
 refine ⟨fun f _ => gO _ _, ?_⟩
 rw [Oper.semAt_eq _ _ _ G, L]
 exact D y u s
theorem yI {v : Value} (G : ∀ c, o.op ≠ .defer c)
  (h : ∀ a w, Has K.n K.ds E a → Sat K.W H w → ∃ u, (execOp a.eval o).run K.P w = .ok (.value v) u ∧ Sat K.W H u) : RQ K o E H v := by
 intro a w I J next Q D
 obtain ⟨u, L, s⟩ := h a w I J
 refine ⟨fun f _ => gO _ _, ?_⟩
 rw [Oper.semAt_eq _ _ _ G, L]
 exact D u s
theorem cM {v : Value} (D : ∀ c, o.op ≠ .defer c) (h : ∀ a w, Has K.n K.ds E a → Sat K.W H w → (execOp a.eval o).run K.P w = .ok (.value v) w) : RQ K o E H v :=
 yI D fun a w G u => ⟨w, h a w G u, u⟩

/-! ### 1. Moves -/
theorem bh {x : Operand} {v : Value} (u : o.op = .move x) (D : ev E x = some v) : RQ K o E H v :=
 cM (by rw [u]; intro c h; cases h) fun a w G _ => by unfold execOp; simp only [u]; rw [G.ev D]; rfl
theorem cK {x : Operand} {v : Value} (u : o.op = .assign x) (D : ev E x = some v) : RQ K o E H v :=
 cM (by rw [u]; intro c h; cases h) fun a w G _ => by unfold execOp; simp only [u]; rw [G.ev D]; rfl
theorem bS {x y z : Operand} {b : Bool} {u v t : Value} (G : o.op = .pick x y z) (I : ev E x = some (.bool b)) (J : ev E y = some u) (L : ev E z = some v) (U : (bif b then u else v) = t) : RQ K o E H t :=
 cM (by rw [G]; intro c h; cases h) fun a w D _ => by
  unfold execOp; simp only [G]; rw [D.ev I, D.ev J, D.ev L, ← U]; cases b <;> rfl
theorem dK {x y : Operand} {b c : Bool} (u : o.op = .pick x y (.const (.bool false))) (D : ev E x = some (.bool b)) (G : ev E y = some (cv (b == true) (.bool c))) : RQ K o E H (.bool (b && c)) :=
 bS u D G rfl (by cases b <;> rfl)
theorem fI {x y : Operand} {b c : Bool} (u : o.op = .pick x (.const (.bool true)) y) (D : ev E x = some (.bool b)) (G : ev E y = some (cv (b == false) (.bool c))) : RQ K o E H (.bool (b || c)) :=
 bS u D rfl G (by cases b <;> rfl)
theorem bI {x : Operand} {i : Nat} {vs : Array Value} {v : Value} (u : o.op = .extract x i) (D : ev E x = some (.tuple vs)) (G : vs[i]? = some v) : RQ K o E H v :=
 cM (by rw [u]; intro c h; cases h) fun a w I _ => by
  unfold execOp; simp only [u]; rw [I.ev D]
  simp [Instr.extract, G]

/-! ### 2. Numbers -/
theorem gH {b : BinOp} {xt yt : TypeId} {x y : Operand} {u v t : Value} (D : o.op = .binOp b xt x y yt) (I : ev E x = some u) (J : ev E y = some v)
  (L : ∀ P w, (eqGuard b xt x y u v).run P w = .ok () w) (U : ∀ P w, (binOp b xt u v).run P w = .ok t w) : RQ K o E H t :=
 cM (by rw [D]; intro c h; cases h) fun a w G _ => by
  unfold execOp; simp only [D]; rw [G.ev I, G.ev J]
  simp [L, U]
theorem dU {b : BinOp} {xt : TypeId} {x y : Operand} {k u : IntKind} {m n : Int} (P : Program) (w : World) : (eqGuard b xt x y (.int k m) (.int u n)).run P w = .ok () w := by
 unfold eqGuard; cases b <;> rfl
theorem rE {b : BinOp} {xt : TypeId} {x y : Operand} {m n : Bool} (P : Program) (w : World) : (eqGuard b xt x y (.bool m) (.bool n)).run P w = .ok () w := by
 unfold eqGuard; cases b <;> rfl
theorem lw {b : BinOp} {xt : TypeId} {x y : Operand} {m n : ByteArray} (P : Program) (w : World) : (eqGuard b xt x y (.string m) (.string n)).run P w = .ok () w := by
 unfold eqGuard; cases b <;> rfl
section ints
variable {xt yt : TypeId} {x y : Operand} {k : IntKind} {m n : Int}
theorem bY (u : o.op = .binOp .add xt x y yt) (D : ev E x = some (.int k m)) (G : ev E y = some (.int k n)) : RQ K o E H (.int k (k.wrap (m + n))) :=
 gH u D G dU fun P w => by simp [binOp, Op.intArith]
theorem dC (u : o.op = .binOp .sub xt x y yt) (D : ev E x = some (.int k m)) (G : ev E y = some (.int k n)) : RQ K o E H (.int k (k.wrap (m - n))) :=
 gH u D G dU fun P w => by simp [binOp, Op.intArith]
theorem wT (u : o.op = .binOp .mul xt x y yt) (D : ev E x = some (.int k m)) (G : ev E y = some (.int k n)) : RQ K o E H (.int k (k.wrap (m * n))) :=
 gH u D G dU fun P w => by simp [binOp, Op.intArith]
theorem yY (u : o.op = .binOp .quo xt x y yt) (D : ev E x = some (.int k m)) (G : ev E y = some (.int k n)) (I : n ≠ 0) : RQ K o E H (.int k (k.wrap (m.tdiv n))) :=
 gH u D G dU fun P w => by simp [binOp, Op.intDiv, I]
theorem cL (u : o.op = .binOp .lss xt x y yt) (D : ev E x = some (.int k m)) (G : ev E y = some (.int k n)) : RQ K o E H (.bool (decide (m < n))) :=
 gH u D G dU fun P w => by simp [binOp, Op.intCmp]
theorem iQ (u : o.op = .binOp .leq xt x y yt) (D : ev E x = some (.int k m)) (G : ev E y = some (.int k n)) : RQ K o E H (.bool (decide (m ≤ n))) :=
 gH u D G dU fun P w => by simp [binOp, Op.intCmp]
theorem cW (u : o.op = .binOp .gtr xt x y yt) (D : ev E x = some (.int k m)) (G : ev E y = some (.int k n)) : RQ K o E H (.bool (decide (n < m))) :=
 gH u D G dU fun P w => by simp [binOp, Op.intCmp]
theorem kq (u : o.op = .binOp .geq xt x y yt) (D : ev E x = some (.int k m)) (G : ev E y = some (.int k n)) : RQ K o E H (.bool (decide (n ≤ m))) :=
 gH u D G dU fun P w => by simp [binOp, Op.intCmp]
theorem bW (u : o.op = .binOp .eql xt x y yt) (D : ev E x = some (.int k m)) (G : ev E y = some (.int k n)) : RQ K o E H (.bool (decide (m = n))) :=
 gH u D G dU fun P w => by simp [binOp, Op.intCmp]; rfl
theorem dp (u : o.op = .binOp .neq xt x y yt) (D : ev E x = some (.int k m)) (G : ev E y = some (.int k n)) : RQ K o E H (.bool (!decide (m = n))) :=
 gH u D G dU fun P w => by simp [binOp, Op.intCmp]; rfl
def bU (b : BinOp) (k : IntKind) (m n : Int) : Int :=
 k.wrap (match b with
  | .and => (BitVec.ofInt k.bits m &&& BitVec.ofInt k.bits n).toNat
  | .or => (BitVec.ofInt k.bits m ||| BitVec.ofInt k.bits n).toNat
  | .xor => (BitVec.ofInt k.bits m ^^^ BitVec.ofInt k.bits n).toNat
  | _ => (BitVec.ofInt k.bits m &&& ~~~(BitVec.ofInt k.bits n)).toNat)
theorem qO (u : o.op = .binOp .and xt x y yt) (D : ev E x = some (.int k m)) (G : ev E y = some (.int k n)) : RQ K o E H (.int k (bU .and k m n)) :=
 gH u D G dU fun P w => by simp [binOp, Op.intBits, bU]
theorem oy (u : o.op = .binOp .or xt x y yt) (D : ev E x = some (.int k m)) (G : ev E y = some (.int k n)) : RQ K o E H (.int k (bU .or k m n)) :=
 gH u D G dU fun P w => by simp [binOp, Op.intBits, bU]
theorem uL (u : o.op = .binOp .xor xt x y yt) (D : ev E x = some (.int k m)) (G : ev E y = some (.int k n)) : RQ K o E H (.int k (bU .xor k m n)) :=
 gH u D G dU fun P w => by simp [binOp, Op.intBits, bU]
theorem ql {u : IntKind} (D : o.op = .binOp .shl xt x y yt) (G : ev E x = some (.int k m)) (I : ev E y = some (.int u n)) (J : 0 ≤ n) : RQ K o E H (.int k (k.wrap (m * 2 ^ (min n.toNat k.bits)))) :=
 gH D G I dU fun P w => by simp [binOp, Op.shift, Int.not_lt.2 J]
theorem ng {u : IntKind} (D : o.op = .binOp .shr xt x y yt) (G : ev E x = some (.int k m)) (I : ev E y = some (.int u n)) (J : 0 ≤ n) : RQ K o E H (.int k (m.fdiv (2 ^ (min n.toNat k.bits)))) :=
 gH D G I dU fun P w => by simp [binOp, Op.shift, Int.not_lt.2 J]
theorem tU {xt : TypeId} (u : o.op = .unOp .xor xt x) (D : ev E x = some (.int k m)) : RQ K o E H (.int k (bU .xor k (if k.signed then -1 else k.max) m)) :=
 cM (by rw [u]; intro c h; cases h) fun a w G _ => by
  unfold execOp; simp only [u]; rw [G.ev D]
  simp [Op.unary, Op.intBits, bU]
theorem fK {xt : TypeId} {b : Bool} (u : o.op = .unOp .not xt x) (D : ev E x = some (.bool b)) : RQ K o E H (.bool (!b)) :=
 cM (by rw [u]; intro c h; cases h) fun a w G _ => by
  unfold execOp; simp only [u]; rw [G.ev D]
  simp [Op.unary]
theorem gA {s d : TypeId} {D : IntKind} {u : TypeDesc} (G : o.op = .convert s d x) (I : ev E x = some (.int k m)) (J : K.P.underlying s = some u) (hd : K.P.underlying d = some (.int D)) : RQ K o E H (.int D (D.wrap m)) :=
 cM (by rw [G]; intro c h; cases h) fun a w L _ => by
  unfold execOp; simp only [G]; rw [L.ev I]
  simp [convert, underlying, program, Sem.run, J, hd, Conv.intToInt]
theorem rF {t : TypeId} {b c : Bool} (P : Program) (u : P.underlying t = some .bool) (w : World) : (Op.equal t (.bool b) (.bool c)).run P w = .ok (b == c) w := by
 rw [show Op.equal t (.bool b) (.bool c) = Op.equalIn (9999 + 1) t (.bool b) (.bool c) from rfl, Op.equalIn]
 simp [underlying, program, Sem.run, u]
theorem wQ {b c : Bool} (u : o.op = .binOp .neq xt x y yt) (G : ev E x = some (.bool b)) (I : ev E y = some (.bool c)) (J : K.P.underlying xt = some .bool) : RQ K o E H (.bool (!(b == c))) :=
 cM (by rw [u]; intro c h; cases h) fun a w D _ => by
  unfold execOp; simp only [u]; rw [D.ev G, D.ev I]
  simp [rE, binOp, rF K.P J]
end ints
/-! ### 3. Strings: as lists of bytes -/
def str (l : List UInt8) : Value := .string ⟨l.toArray⟩
section strs
variable {xt yt : TypeId} {x y : Operand} {l m : List UInt8}
theorem wP (u : o.op = .binOp .eql xt x y yt) (D : ev E x = some (str l)) (G : ev E y = some (str m)) : RQ K o E H (.bool (decide (l = m))) :=
 gH u D G lw fun P w => by simp [binOp, Op.stringOp, str]; rw [Bool.eq_iff_iff]; simp
theorem wS (u : o.op = .binOp .neq xt x y yt) (D : ev E x = some (str l)) (G : ev E y = some (str m)) : RQ K o E H (.bool (!decide (l = m))) :=
 gH u D G lw fun P w => by simp [binOp, Op.stringOp, str]; rw [Bool.eq_iff_iff]; simp
end strs
end
end Go.Proofs.YtndjkejhacfpdaaGreatDoor

namespace Go.Proofs.YtndjkejhacfpdaaGreatDoor
open Go.RowKit

/-! ### 1. Cells -/
def gl : List Value → Nat → List Value → List Value
 | l, _, [] => l
 | l, k, v :: vs => gl (l.set k v) (k + 1) vs
theorem jT (vs : List Value) : ∀ (l : List Value) (k : Nat), (gl l k vs).length = l.length := by
 induction vs with
 | nil => intro l k; rfl
 | cons v vs ih => intro l k; simp only [gl]; rw [ih]; simp
theorem iR (vs : List Value) : ∀ (l : List Value) (k : Nat), k + vs.length ≤ l.length → gl l k vs = l.take k ++ vs ++ l.drop (k + vs.length) := by
 induction vs with
 | nil => intro l k h; simp [gl]
 | cons v vs ih =>
  intro l k h
  simp only [List.length_cons] at h
  simp only [gl]
  rw [ih _ _ (by simp; omega)]
  have u : (l.set k v).take (k + 1) = l.take k ++ [v] := by
   rw [List.take_succ_eq_append_getElem (by simp; omega), List.take_set_of_le (Nat.le_refl k)]
   simp
  have D : (l.set k v).drop (k + 1 + vs.length) = l.drop (k + (v :: vs).length) := by
   rw [List.drop_set_of_lt (by omega)]
   simp [Nat.add_comm, Nat.add_left_comm]
  rw [u, D]
  simp
def obj (b : Nat) (T : TypeId) (l : List Value) : HA := pts b (.cells l.toArray T (0, 0))
def one (vs : List Value) : Prop := ∀ v ∈ vs, v.oneCell' = true
theorem xH {w : World} {b : Nat} {l : List Value} {T : TypeId} {fz : Nat × Nat} (h : w.heap[b]? = some (.cells l.toArray T fz)) (off : Nat) : w.cell? ⟨b, off, none⟩ = l[off]? := by
 simp [World.cell?, h]
theorem ud {w : World} {b : Nat} {l : List Value} {T : TypeId} {fz : Nat × Nat} (h : w.heap[b]? = some (.cells l.toArray T fz)) (off : Nat) (v : Value) :
  w.setCell ⟨b, off, none⟩ v = { w with heap := w.heap.setIfInBounds b (.cells (l.set off v).toArray T fz) } := by
 unfold World.setCell
 rw [jO _ _ _ _ h]
 simp
theorem kW {P : Program} {b : Nat} {T : TypeId} {fz : Nat × Nat} (off : Nat) : ∀ (vs : List Value) (i : Nat) (l : List Value) (w : World), w.heap[b]? = some (.cells l.toArray T fz) →
  off + i + vs.length ≤ l.length → (∀ j, off ≤ j → j < l.length → j < off + i + vs.length → ¬ (fz.1 ≤ j ∧ j < fz.2)) → one vs →
  (storeCells ⟨b, off, none⟩ vs i).run P w = .ok () { w with heap := w.heap.setIfInBounds b (.cells (gl l (off + i) vs).toArray T fz) }
 | [], i, l, w, h, _, _, _ => by
  have : w.heap.setIfInBounds b (.cells l.toArray T fz) = w.heap := by
   apply Array.ext_getElem?
   intro j
   rw [Array.getElem?_setIfInBounds]
   by_cases e : b = j
   ·subst e; rw [if_pos rfl, h]; have := (Array.getElem?_eq_some_iff.1 h).1; simp [this]
   ·rw [if_neg e]
  simp [storeCells, gl, this]
 | v :: vs, i, l, w, h, hl, hf, h1 => by
  simp only [List.length_cons] at hl hf
  have I : w.cell? ⟨b, off + i, none⟩ = some (l[off + i]'(by omega)) := by rw [xH h]; simp
  have G : w.frozen? ⟨b, off + i, none⟩ = false := by
   have := hf (off + i) (by omega) (by omega) (by omega)
   simp only [World.frozen?, h]
   rw [Bool.eq_false_iff]
   intro x
   simp at x
   omega
  have J : v.oneCell' = true := h1 v (by simp)
  have D : (⟨b, off, none⟩ : Addr).add i = ⟨b, off + i, none⟩ := by unfold Addr.add; split <;> simp_all
  have L : (store ((⟨b, off, none⟩ : Addr).add i) v).run P w = .ok () { w with heap := w.heap.setIfInBounds b (.cells (l.set (off + i) v).toArray T fz) } := by
   rw [D, ← ud h]
   unfold store
   cases v <;> first | (simp only [Sem.run, I, G]; rfl) | (simp [Value.oneCell'] at J)
  simp only [storeCells, Sem.run_bind, L, Result.andThen_ok]
  have U : b < w.heap.size := (Array.getElem?_eq_some_iff.1 h).1
  have X := kW (P := P) (T := T) (fz := fz) (b := b) off vs (i + 1) (l.set (off + i) v) { w with heap := w.heap.setIfInBounds b (.cells (l.set (off + i) v).toArray T fz) }
   (by rw [Array.getElem?_setIfInBounds]; simp [U]) (by simp; omega) (fun j a b c => hf j a (by simpa using b) (by omega)) (fun u hu => h1 u (by simp [hu]))
  rw [X]
  simp [gl, Nat.add_assoc]
theorem ka {P : Program} {w : World} {b off : Nat} {vs : List Value} (h : ∀ j v, vs[j]? = some v → w.cell? ⟨b, off + j, none⟩ = some v) : (loadCells ⟨b, off, none⟩ vs.length).run P w = .ok vs.toArray w := by
 refine run_loadCells_list (P := P) w _ vs fun j v D => ?_
 have u : (⟨b, off, none⟩ : Addr).add j = ⟨b, off + j, none⟩ := by unfold Addr.add; split <;> simp_all
 rw [u]; exact h j v D

def eM (H : List HA) (b off : Nat) (v : Value) : Prop := ∀ h, aS H h → ∃ l T fz, h b = some (.cells l T fz) ∧ l[off]? = some v
theorem eM.sat {H : List HA} {b off : Nat} {v : Value} (c : eM H b off v) {W w : World} (s : Sat W H w) : w.cell? ⟨b, off, none⟩ = some v := by
 obtain ⟨l, T, fz, h1, u⟩ := c _ s.hp
 simp only [hpw] at h1
 simp [World.cell?, h1, u]
theorem eM.of {H : List HA} {A : HA} {b off : Nat} {v : Value} (k : Nat) (u : H[k]? = some A) (D : ∀ a, A a → ∃ l T fz, a b = some (.cells l T fz) ∧ l[off]? = some v) : eM H b off v := by
 intro h s
 obtain ⟨a, G, x⟩ := jH H k A u h s
 obtain ⟨l, T, fz, h1, I⟩ := D a G
 exact ⟨l, T, fz, x _ _ h1, I⟩
theorem eM.obj {H : List HA} {b off : Nat} {v : Value} {T : TypeId} {l : List Value} (k : Nat) (u : H[k]? = some (obj b T l)) (D : l[off]? = some v) : eM H b off v :=
 .of k u fun a G => ⟨l.toArray, T, (0, 0), G, by simpa using D⟩

section
variable {K : Cx} {R S Y : Type} {Q : dw R} {E : Env} {H : List HA} {opt : Option R} {ops : Array Oper} {rest : List Oper} {o : Oper}
/-! ### 2. Variables -/
theorem cq {x : Operand} {v : Value} {t : TypeId} {cs : List Value} (u : o.op = .box t x) (D : ev E x = some v) (G : v.cells = cs.toArray) :
  RE K (Y := Nat) o E H (fun b => .pointer (some ⟨b, 0, none⟩)) (fun b => obj b t cs :: H) :=
 gN (by rw [u]; intro c h; cases h) fun a w I J => by
  refine ⟨w.heap.size, { w with heap := w.heap.push (.cells cs.toArray t (0, 0)) }, ?_, J.new _⟩
  unfold execOp; simp only [u]; rw [I.ev D]
  simp [Instr.box, newVar, newRow, newObj, Sem.run, G]
theorem bT {t : TypeId} {z : Value} {cs : List Value} (u : o.op = .alloc t) (D : ∀ w, (zeroValue t).run K.P w = .ok z w) (G : z.cells = cs.toArray) :
  RE K (Y := Nat) o E H (fun b => .pointer (some ⟨b, 0, none⟩)) (fun b => obj b t cs :: H) :=
 gN (by rw [u]; intro c h; cases h) fun a w J I => by
  refine ⟨w.heap.size, { w with heap := w.heap.push (.cells cs.toArray t (0, 0)) }, ?_, I.new _⟩
  unfold execOp; simp only [u]
  simp [Instr.alloc, D, newVar, newRow, newObj, Sem.run, G]
theorem ag {x : Operand} {t : TypeId} {b off : Nat} {v : Value} (u : o.op = .load t x) (D : ev E x = some (.pointer (some ⟨b, off, none⟩))) (G : ∀ w, (isAgg t).run K.P w = .ok false w)
  (I : eM H b off v) : RQ K o E H v :=
 cM (by rw [u]; intro c h; cases h) fun a w J L => by
  unfold execOp; simp only [u]; rw [J.ev D]
  simp [Instr.loadAt, Instr.sureAddr, loadVar, G, I.sat L]
theorem cu {x : Operand} {t : TypeId} {b off n : Nat} {vs : List Value} (u : o.op = .load t x) (D : ev E x = some (.pointer (some ⟨b, off, none⟩))) (G : ∀ w, (isAgg t).run K.P w = .ok true w)
  (I : ∀ w, (sizeOf t).run K.P w = .ok n w) (J : vs.length = n) (L : ∀ j v, vs[j]? = some v → eM H b (off + j) v) : RQ K o E H (.agg vs.toArray) :=
 cM (by rw [u]; intro c h; cases h) fun a w U s => by
  unfold execOp; simp only [u]; rw [U.ev D]
  simp [Instr.loadAt, Instr.sureAddr, loadVar, G, I, ← J, ka (P := K.P) fun j v X => (L j v X).sat s]
theorem du {b off : Nat} {T : TypeId} {l vs : List Value} (k : Nat) (u : H[k]? = some (obj b T l)) (D : ∀ j v, vs[j]? = some v → l[off + j]? = some v) : ∀ j v, vs[j]? = some v → eM H b (off + j) v :=
 fun j v h => .obj k u (D j v h)
theorem co {x : Operand} {t T : TypeId} {b n : Nat} {vs : List Value} (k : Nat) (u : o.op = .load t x) (D : ev E x = some (.pointer (some ⟨b, 0, none⟩))) (G : ∀ w, (isAgg t).run K.P w = .ok true w)
  (I : ∀ w, (sizeOf t).run K.P w = .ok n w) (J : H[k]? = some (obj b T vs)) (L : vs.length = n) : RQ K o E H (.agg vs.toArray) :=
 cu u D G I L (by intro j v h; rw [Nat.zero_add]; exact .obj k J h)
theorem aJ {x y : Operand} {t T : TypeId} {b off n : Nat} {v : Value} {vs l : List Value} (k : Nat) (G : o.op = .store t x y) (U : ev E x = some (.pointer (some ⟨b, off, none⟩))) (X : ev E y = some v)
  (hs : ∀ w, (sizeOf t).run K.P w = .ok n w) (hv : v.cells = vs.toArray) (hn : vs.length = n) (h1 : one vs) (I : H[k]? = some (obj b T l)) (u : Nat.ble (off + n) l.length = true) :
  RE K (Y := Unit) o E H (fun _ => undef) (fun _ => H.set k (obj b T (gl l off vs))) :=
 oZ (by rw [G]; intro c h; cases h) fun a w J s => by
  have u : off + n ≤ l.length := by simpa [Nat.ble_eq] using u
  have D : k < H.length := (List.getElem?_eq_some_iff.1 I).1
  have L : Sat K.W (obj b T l :: H.eraseIdx k) w := s.ent (fun h x => by rw [fF H k _ I] at x; exact x)
  have hb : w.heap[b]? = some (.cells l.toArray T (0, 0)) := L.pts_at (i := 0) rfl
  refine ⟨(), _, ?_, (L.upd (o' := .cells (gl l off vs).toArray T (0, 0))).ent (fun h x => by rw [← gL H k _ D]; exact x)⟩
  unfold execOp; simp only [G]; rw [J.ev U, J.ev X]
  have := kW (P := K.P) off vs 0 l w hb (by omega) (fun j _ _ _ x => absurd x.2 (Nat.not_lt_zero _)) h1
  simp [Instr.storeAt, Instr.sureAddr, storeVar, hs, hv, hn, this]
theorem aW {x : Operand} {u : Addr} (D : o.op = .nilCheck x) (G : ev E x = some (.pointer (some u))) : RQ K o E H (.pointer (some u)) :=
 cM (by rw [D]; intro c h; cases h) fun a w I J => by
  unfold execOp; simp only [D]; rw [I.ev G]; rfl
theorem ap {x : Operand} {t : TypeId} {i b off d : Nat} {fs : Array Field} {f : Field} {n : Nat} (G : o.op = .fieldAddr t x i) (I : ev E x = some (.pointer (some ⟨b, off, none⟩))) (J : K.P.underlying t = some (.struct fs)) (L : fs[i]? = some f) (hd : f.offset = d)
  (U : ∀ w, (sizeOf f.type).run K.P w = .ok n w) (X : (n == 0) = false) : RQ K o E H (.pointer (some ⟨b, off + d, none⟩)) :=
 cM (by rw [G]; intro c h; cases h) fun a w he _ => by
  unfold execOp; simp only [G]; rw [he.ev I]
  have D : n ≠ 0 := by simpa using X
  have u : (⟨b, off, none⟩ : Addr).add d = ⟨b, off + d, none⟩ := by unfold Addr.add; split <;> simp_all
  simp [Instr.fieldAt, underlying, program, Sem.run, J, L, Instr.sureAddr, fieldPlace, U, D, hd, u]
def evP : List (Nat × Operand) → Env → Option (List (Nat × Value))
 | [], _ => some []
 | (i, x) :: l, E => match ev E x, evP l E with
  | some v, some vs => some ((i, v) :: vs)
  | _, _ => none
theorem pf {n : Nat} {ds : List Deferred} {a : Act} (D : Has n ds E a) : ∀ (l : List (Nat × Operand)) (vs : List (Nat × Value)), evP l E = some vs → l.map (fun p => (p.1, a.eval p.2)) = vs
 | [], vs, h => by simp [evP] at h; subst h; rfl
 | (i, x) :: l, vs, h => by
  simp only [evP] at h
  split at h
  ·rename_i v u h1 G
   cases h
   simp [pf D l u G, D.ev h1]
  ·cases h
theorem di {t : TypeId} {l : List (Nat × Operand)} {vs : List (Nat × Value)} {v : Value} (u : o.op = .build t l.toArray) (D : evP l E = some vs) (G : ∀ w, (Instr.build t vs.toArray).run K.P w = .ok v w) : RQ K o E H v :=
 cM (by rw [u]; intro c h; cases h) fun a w I _ => by
  unfold execOp; simp only [u]
  have : (l.toArray.map fun (i, x) => (i, a.eval x)) = vs.toArray := by
   rw [← pf I l vs D]; simp
  rw [this]
  simp [G]

/-! ### 3. Calls -/
def evs : List Operand → Env → Option (List Value)
 | [], _ => some []
 | x :: l, E => match ev E x, evs l E with
  | some v, some vs => some (v :: vs)
  | _, _ => none
theorem jk {n : Nat} {ds : List Deferred} {a : Act} (D : Has n ds E a) : ∀ (l : List Operand) (vs : List Value), evs l E = some vs → l.map a.eval = vs
 | [], vs, h => by simp [evs] at h; subst h; rfl
 | x :: l, vs, h => by
  simp only [evs] at h
  split at h
  ·rename_i v u h1 G
   cases h
   simp [jk D l u G, D.ev h1]
  ·cases h
theorem av {c : Call} {x : Operand} {xs : List Operand} {vs G cap : List Value} {f : FuncId} {A : List HA} {rst : List HA} {S Y : Type} {o1 : Option S} {val : S → Y → Value} {B : S → Y → List HA} {s : S}
  (ho : o.op = .call c) (u : c.callee = .value x) (I : c.args = xs.toArray) (hx : ev E x = some (.func (.func f) #[] cap.toArray)) (J : evs xs E = some vs) (L : vs ++ cap = G)
  (hf : ∀ args w, (callFunc f args).run K.P w = .ok (.enter f args) w) (hH : Ent H (A ++ rst))
  (h : Fn K.P K.W f G A (aS rst) o1 val B) (hs : o1 = some s) : RE K o E H (val s) (fun y => B s y ++ rst) := by
 intro a w he D next Q U
 refine ⟨fun f _ => gO _ _, ?_⟩
 rw [Oper.semAt_eq _ _ _ (by rw [ho]; intro c h; cases h)]
 have hr : (execOp a.eval o).run K.P w = .ok (.enter f G.toArray) w := by
  unfold execOp; simp only [ho]
  have : c.args.map a.eval = vs.toArray := by rw [I, ← jk he xs vs J]; simp
  simp [resolve, u, this, he.ev hx, Deferred.ofValue, invoke, hf, ← L]
 rw [hr]
 refine ⟨kU _, ?_⟩
 have := h s hs w (D.ent (hH.trans (Ent.fold A rst)))
 have hw : CallsIn (fen K.ro) (0 - 1) K.P f G.toArray w (fun e X => ∃ y, e = Ending.returned (val s y) ∧ Sat K.W (B s y ++ [aS rst]) X) := by
  cases hro : K.ro with
  | none => exact callsIn_wide.2 this
  | some l => exact CallsIn.inRound l (callsIn_wide.2 this)
 refine hw.mono ?_
 rintro e X ⟨y, rfl, s2⟩
 exact U y X (s2.ent (Ent.unfold _ _))
end
end Go.Proofs.YtndjkejhacfpdaaGreatDoor

namespace Go.Proofs.YtndjkejhacfpdaaGreatDoor
open Go.RowKit

/-! ### 1. Rows -/
structure oj (sz off n c : Nat) (pre cs junk : List Value) (fz : Nat × Nat) : Prop where
 offs : pre.length = off
 le : n ≤ c
 cap : c ≤ maxLen
 room : c * sz ≤ cs.length + junk.length
 len : n * sz ≤ cs.length
 top : cs.length ≤ c * sz
 fzok : fz.1 = fz.2 ∨ off + c * sz ≤ fz.1
theorem oj.free {sz off n c : Nat} {pre cs junk : List Value} {fz : Nat × Nat} (ok : oj sz off n c pre cs junk fz) : ∀ j, off ≤ j → j < off + c * sz → ¬ (fz.1 ≤ j ∧ j < fz.2) := fun j _ h x => by
 rcases ok.fzok with h' | h' <;> omega
def Row (T : TypeId) (sz : Nat) (a : Option Addr) (n c : Nat) (cs : List Value) : HA := fun h =>
 (a = none ∧ n = 0 ∧ c = 0 ∧ cs = []) ∨
 ∃ b off pre junk fz, a = some ⟨b, off, none⟩ ∧ oj sz off n c pre cs junk fz ∧ h b = some (.cells (pre ++ cs ++ junk).toArray T fz)
theorem Sat.row_cases {W w : World} {l : List HA} {T : TypeId} {sz n c : Nat} {a : Option Addr} {cs : List Value} (s : Sat W (Row T sz a n c cs :: l) w) :
  (a = none ∧ n = 0 ∧ c = 0 ∧ cs = []) ∨ ∃ b off pre junk fz, a = some ⟨b, off, none⟩ ∧ oj sz off n c pre cs junk fz ∧ Sat W (pts b (.cells (pre ++ cs ++ junk).toArray T fz) :: l) w := by
 obtain ⟨x, y, d, e, h, r⟩ := s.hp
 rcases h with h | ⟨b, off, pre, junk, fz, u, ok, D⟩
 ·exact .inl h
 ·exact .inr ⟨b, off, pre, junk, fz, u, ok, s.os, s.tape, s.output, s.size, x, y, d, e, D, r⟩
theorem Row.mk {T : TypeId} {sz n c b off : Nat} {pre cs junk : List Value} {fz : Nat × Nat} (ok : oj sz off n c pre cs junk fz) : ∀ h, pts b (.cells (pre ++ cs ++ junk).toArray T fz) h → Row T sz (some ⟨b, off, none⟩) n c cs h :=
 fun _ x => .inr ⟨b, off, pre, junk, fz, rfl, ok, x⟩
theorem Row.nil (T : TypeId) (sz : Nat) (h : Hp) : Row T sz none 0 0 [] h := .inl ⟨rfl, rfl, rfl, rfl⟩
theorem Ent.row_nil {l m : List HA} {T : TypeId} {sz : Nat} (r : Ent l m) : Ent l (Row T sz none 0 0 [] :: m) := fun h s =>
 ⟨fun _ => none, h, fun _ => .inl rfl, (by funext i; simp [un]), Row.nil T sz _, r h s⟩
theorem Sat.focus {W w : World} {H : List HA} {A : HA} {k : Nat} (u : H[k]? = some A) (s : Sat W H w) : Sat W (A :: H.eraseIdx k) w := s.ent fun h x => by rw [fF H k _ u] at x; exact x
theorem Sat.unfocus {W w : World} {H : List HA} {A B : HA} {k : Nat} (u : H[k]? = some A) (s : Sat W (B :: H.eraseIdx k) w) : Sat W (H.set k B) w :=
 s.ent fun h x => by rw [← gL H k _ (List.getElem?_eq_some_iff.1 u).1]; exact x
theorem ju {pre cs junk : List Value} {j : Nat} {v : Value} (h : cs[j]? = some v) : (pre ++ cs ++ junk)[pre.length + j]? = some v := by
 have u : j < cs.length := (List.getElem?_eq_some_iff.1 h).1
 rw [List.append_assoc, List.getElem?_append_right (by omega), List.getElem?_append_left (by omega)]
 simpa using h
theorem eM.row {H : List HA} {T : TypeId} {sz n c b off j : Nat} {cs : List Value} {v : Value} (k : Nat) (D : H[k]? = some (Row T sz (some ⟨b, off, none⟩) n c cs)) (G : cs[j]? = some v) : eM H b (off + j) v :=
 .of k D fun a I => by
  rcases I with ⟨h, _⟩ | ⟨L, u, pre, junk, fz, e, ok, J⟩
  ·cases h
  ·cases e
   refine ⟨_, T, fz, J, ?_⟩
   have := ju (pre := pre) (junk := junk) G
   rw [ok.offs] at this
   simpa using this
def Rds (H : List HA) (a : Option Addr) (cs : List Value) : Prop := ∀ h, aS H h → cs = [] ∨ ∃ b off, a = some ⟨b, off, none⟩ ∧ ∃ l T fz, h b = some (.cells l T fz) ∧ ∀ j v, cs[j]? = some v → l[off + j]? = some v
def Rd (F : HA) (a : Option Addr) (cs : List Value) : Prop := cs = [] ∨ ∃ b off, a = some ⟨b, off, none⟩ ∧ ∀ h, F h → ∃ l T fz, h b = some (.cells l T fz) ∧ ∀ j v, cs[j]? = some v → l[off + j]? = some v
theorem Rds.of {H : List HA} {A : HA} {a : Option Addr} {cs : List Value} (k : Nat) (u : H[k]? = some A) (D : ∀ x, A x → cs = [] ∨ ∃ b off, a = some ⟨b, off, none⟩ ∧ ∃ l T fz, x b = some (.cells l T fz) ∧ ∀ j v, cs[j]? = some v → l[off + j]? = some v) : Rds H a cs := by
 intro h s
 obtain ⟨x, G, I⟩ := jH H k A u h s
 rcases D x G with e | ⟨b, off, J, l, T, fz, h1, L⟩
 ·exact .inl e
 ·exact .inr ⟨b, off, J, l, T, fz, I _ _ h1, L⟩
theorem Rd.rds {F : HA} {a : Option Addr} {cs : List Value} (h : Rd F a cs) {H : List HA} (k : Nat) (u : H[k]? = some F) : Rds H a cs :=
 .of k u fun x D => by
  rcases h with h | ⟨b, off, G, I⟩
  ·exact .inl h
  ·obtain ⟨l, T, fz, h1, J⟩ := I x D
   exact .inr ⟨b, off, G, l, T, fz, h1, J⟩
theorem Rds.row {H : List HA} {T : TypeId} {sz n c : Nat} {a : Option Addr} {cs : List Value} (k : Nat) (u : H[k]? = some (Row T sz a n c cs)) : Rds H a cs :=
 .of k u fun x D => by
  rcases D with ⟨_, _, _, h⟩ | ⟨b, off, pre, junk, fz, e, ok, G⟩
  ·exact .inl h
  ·refine .inr ⟨b, off, e, _, T, fz, G, fun j v I => ?_⟩
   have := ju (pre := pre) (junk := junk) I
   rw [ok.offs] at this
   simpa using this
theorem Rds.nil (H : List HA) (a : Option Addr) : Rds H a [] := fun _ _ => .inl rfl
theorem Rds.cells {H : List HA} {a : Option Addr} {cs : List Value} (h : Rds H a cs) {W w : World} (s : Sat W H w) : cs = [] ∨ ∃ b off, a = some ⟨b, off, none⟩ ∧ ∀ j v, cs[j]? = some v → w.cell? ⟨b, off + j, none⟩ = some v := by
 rcases h _ s.hp with h | ⟨b, off, u, l, T, fz, h1, D⟩
 ·exact .inl h
 ·refine .inr ⟨b, off, u, fun j v G => ?_⟩
  simp only [hpw] at h1
  simp [World.cell?, h1, D j v G]
theorem Rd.lend {F : HA} {a : Option Addr} {cs : List Value} (h : Rd F a cs) {l : List HA} (k : Nat) (u : l[k]? = some F) : Rd (aS l) a cs := by
 rcases h with h | ⟨b, off, D, G⟩
 ·exact .inl h
 ·refine .inr ⟨b, off, D, fun x I => ?_⟩
  obtain ⟨y, J, L⟩ := jH l k F u x I
  obtain ⟨U, T, fz, h1, X⟩ := G y J
  exact ⟨U, T, fz, L _ _ h1, X⟩
theorem Rd.take {F : HA} {a : Option Addr} {cs : List Value} (h : Rd F a cs) (n : Nat) : Rd F a (cs.take n) := by
 rcases h with h | ⟨b, off, D, G⟩
 ·left; simp [h]
 ·refine .inr ⟨b, off, D, fun x I => ?_⟩
  obtain ⟨l, T, fz, h1, J⟩ := G x I
  refine ⟨l, T, fz, h1, fun j v u => J j v ?_⟩
  rw [List.getElem?_take] at u
  split at u
  ·exact u
  ·cases u
theorem Rd.drop {F : HA} {a : Option Addr} {cs : List Value} (h : Rd F a cs) (n : Nat) : Rd F (a.map (·.add n)) (cs.drop n) := by
 rcases h with h | ⟨b, off, D, G⟩
 ·left; simp [h]
 ·refine .inr ⟨b, off + n, ?_, fun x I => ?_⟩
  ·rw [D]; simp only [Option.map_some, Option.some.injEq]; unfold Addr.add; split <;> simp_all
  ·obtain ⟨l, T, fz, h1, J⟩ := G x I
   refine ⟨l, T, fz, h1, fun j v u => ?_⟩
   rw [List.getElem?_drop] at u
   rw [Nat.add_assoc]
   exact J _ v u
theorem Rd.nil (F : HA) (a : Option Addr) : Rd F a [] := .inl rfl

section
variable {K : Cx} {R S Y : Type} {Q : dw R} {E : Env} {H : List HA} {opt : Option R} {ops : Array Oper} {rest : List Oper} {o : Oper}
theorem qu {T : TypeId} {sz n c : Nat} {a : Option Addr} {cs : List Value} (k : Nat) (D : H[k]? = some (Row T sz a n c cs)) (G : cs ≠ []) (h : ∀ b off, a = some ⟨b, off, none⟩ → cc K Q ops rest E H opt) : cc K Q ops rest E H opt := by
 intro r I J w L u
 rcases (u.focus D).row_cases with ⟨_, _, _, U⟩ | ⟨b, off, pre, junk, fz, X, _⟩
 ·exact absurd U G
 ·exact h b off X r I J w L u
theorem ba {T : TypeId} {sz n c : Nat} {a : Option Addr} {cs : List Value} (k : Nat) (hk : H[k]? = some (Row T sz a n c cs)) (h : Rd (Row T sz a n c cs) a cs → n ≤ c → c ≤ maxLen → n * sz ≤ cs.length → cc K Q ops rest E H opt) : cc K Q ops rest E H opt := by
 intro r L U w X G
 rcases (G.focus hk).row_cases with ⟨h1, h2, h3, h0⟩ | ⟨b, off, pre, junk, fz, ha, ok, _⟩
 ·subst h2; subst h3
  exact h (.inl h0) (Nat.le_refl _) (Nat.zero_le _) (by simp) r L U w X G
 ·subst ha
  refine h (.inr ⟨b, off, rfl, fun x hx => ?_⟩) ok.le ok.cap ok.len r L U w X G
  rcases hx with ⟨h, _⟩ | ⟨b', ab, D, u, I, e, J, hb⟩
  ·cases h
  ·cases e
   refine ⟨_, T, I, hb, fun j v hj => ?_⟩
   have := ju (pre := D) (junk := u) hj
   rw [J.offs] at this
   simpa using this

/-! ### 2. Lengths, elements, cuts -/
theorem mZ {b : Builtin} {xs : List Operand} {vs : List Value} {ts : Array TypeId} {v : Value} (u : o.op = .call { callee := .builtin b, args := xs.toArray, argTypes := ts }) (D : evs xs E = some vs)
  (G : ∀ cs w, (builtin b ts o.type cs vs.toArray).run K.P w = .ok (.value v) w) : RQ K o E H v :=
 cM (by rw [u]; intro c h; cases h) fun a w I _ => by
  unfold execOp; simp only [u]
  have : xs.toArray.map a.eval = vs.toArray := by rw [← jk I xs vs D]; simp
  simp only [resolve, this, Sem.run_bind, Sem.run_pure, Result.andThen_ok, invoke]
  exact G _ w
theorem bx {x : Operand} {t e : TypeId} {ts : Array TypeId} {a : Option Addr} {n c : Nat} (u : o.op = .call { callee := .builtin .len, args := #[x], argTypes := ts }) (D : ev E x = some (.slice a n c)) (G : ts[0]? = some t) (I : K.P.underlying t = some (.slice e)) : RQ K o E H (.int .i64 (n : Int)) :=
 mZ (xs := [x]) (vs := [.slice a n c]) u (by simp [evs, D]) fun cs w => by simp [builtin, Builtin.len_, G, underlying, program, Sem.run, I, goInt]
theorem mC {x : Operand} {t : TypeId} {ts : Array TypeId} {l : List UInt8} (D : o.op = .call { callee := .builtin .len, args := #[x], argTypes := ts }) (G : ev E x = some (str l)) (I : ts[0]? = some t) (J : K.P.underlying t = some .string) : RQ K o E H (.int .i64 (l.length : Int)) :=
 mZ (xs := [x]) (vs := [str l]) D (by simp [evs, G]) fun cs w => by
  have u : (ByteArray.mk l.toArray).size = l.length := by show l.toArray.size = _; simp
  simp [builtin, Builtin.len_, I, underlying, program, Sem.run, J, goInt, str, u]
theorem tE {x y : Operand} {ts : Array TypeId} {k u : IntKind} {m n : Int} (D : o.op = .call { callee := .builtin .max, args := #[x, y], argTypes := ts }) (G : ev E x = some (.int k m)) (I : ev E y = some (.int u n)) : RQ K o E H (.int k (max m n)) :=
 mZ (xs := [x, y]) (vs := [.int k m, .int u n]) D (by simp [evs, G, I]) fun cs w => by
  have : (if n > m then n else m) = max m n := by split <;> omega
  simp [builtin, Builtin.max_, Builtin.max2]; omega
theorem tF {x y : Operand} {ts : Array TypeId} {k u : IntKind} {m n : Int} (D : o.op = .call { callee := .builtin .min, args := #[x, y], argTypes := ts }) (G : ev E x = some (.int k m)) (I : ev E y = some (.int u n)) : RQ K o E H (.int k (min m n)) :=
 mZ (xs := [x, y]) (vs := [.int k m, .int u n]) D (by simp [evs, G, I]) fun cs w => by
  simp [builtin, Builtin.min_, Builtin.min2]; omega
theorem cO {x y : Operand} {t e : TypeId} {a : Option Addr} {n c b off sz : Nat} {k : IntKind} {i : Int} (D : o.op = .indexAddr t x y) (I : ev E x = some (.slice a n c)) (J : ev E y = some (.int k i)) (L : a = some ⟨b, off, none⟩)
  (U : K.P.underlying t = some (.slice e)) (X : ∀ w, (sizeOf e).run K.P w = .ok sz w) (h0 : 0 ≤ i) (h1 : i < n) : RQ K o E H (.pointer (some ⟨b, off + i.toNat * sz, none⟩)) :=
 cM (by rw [D]; intro c h; cases h) fun a' w G _ => by
  unfold execOp; simp only [D]; rw [G.ev I, G.ev J, L]
  have u : (⟨b, off, none⟩ : Addr).add (i.toNat * sz) = ⟨b, off + i.toNat * sz, none⟩ := by unfold Addr.add; split <;> simp_all
  simp [Instr.indexAt, asIntOf, underlying, program, Sem.run, U, X, h0, h1, u]
theorem jv {x y : Operand} {t e : TypeId} {a : Option Addr} {n c b off : Nat} {k : IntKind} {i : Int} (u : o.op = .indexAddr t x y) (D : ev E x = some (.slice a n c)) (G : ev E y = some (.int k i)) (I : a = some ⟨b, off, none⟩)
  (J : K.P.underlying t = some (.slice e)) (L : ∀ w, (sizeOf e).run K.P w = .ok 1 w) (U : 0 ≤ i) (h1 : i < n) : RQ K o E H (.pointer (some ⟨b, off + i.toNat, none⟩)) := by
 have := cO (K := K) (H := H) (sz := 1) u D G I J L U h1
 rwa [Nat.mul_one] at this
theorem yn {x y : Operand} {t : TypeId} {l : List UInt8} {k : IntKind} {i : Int} (u : o.op = .index t x y) (G : ev E x = some (str l)) (I : ev E y = some (.int k i))
  (J : K.P.underlying t = some .string) (L : 0 ≤ i) (h1 : i < l.length) : RQ K o E H (.int .u8 ((l.getD i.toNat 0).toNat : Int)) :=
 cM (by rw [u]; intro c h; cases h) fun X w D _ => by
  unfold execOp; simp only [u]; rw [D.ev G, D.ev I]
  have hi : i.toNat < l.length := by omega
  have U : (ByteArray.mk l.toArray)[i.toNat]? = some (l.getD i.toNat 0) := by
   have : (ByteArray.mk l.toArray)[i.toNat]? = l[i.toNat]? := by
    rw [getElem?_pos (ByteArray.mk l.toArray) i.toNat (by simpa [ByteArray.size] using hi), List.getElem?_eq_getElem hi]
    rfl
   rw [this]; simp [List.getD_eq_getElem?_getD, List.getElem?_eq_getElem hi]
  simp [Instr.index, asIntOf, underlying, program, Sem.run, J, L, str, U]
def lim (E : Env) : Option Operand → Option (Option Value)
 | none => some none
 | some x => match ev E x with
  | some v => some (some v)
  | none => none
theorem lO {n : Nat} {ds : List Deferred} {a : Act} (G : Has n ds E a) {lo : Option Operand} {D : Option Value} (u : lim E lo = some D) : lo.map a.eval = D := by
 cases lo with
 | none => simp [lim] at u; simp [u]
 | some z =>
  simp only [lim] at u
  split at u
  ·rename_i v e
   cases u
   simp [G.ev e]
  ·cases u
theorem sG {x : Operand} {t e : TypeId} {lo hi : Option Operand} {a : Option Addr} {n c sz l h : Nat} {u D : Option Value} (L : o.op = .slice t x lo hi none) (U : ev E x = some (.slice a n c))
  (X : lim E lo = some u) (hh : lim E hi = some D) (hu : K.P.underlying t = some (.slice e)) (hs : ∀ w, (sizeOf e).run K.P w = .ok sz w)
  (h1 : (D = none ∧ h = n) ∨ ∃ k, D = some (.int k (h : Int))) (h2 : (u = none ∧ l = 0) ∨ ∃ k, u = some (.int k (l : Int))) (G : l ≤ h) (I : h ≤ c) :
  RQ K o E H (.slice (if c = l then a else a.map (·.add (l * sz))) (h - l) (c - l)) :=
 cM (by rw [L]; intro c h; cases h) fun a' w J _ => by
  unfold execOp; simp only [L]; rw [J.ev U]
  rw [lO J X, lO J hh]
  have e3 : (Instr.sliceBounds true n c u D none).run K.P w = .ok (l, h, c) w := by
   unfold Instr.sliceBounds
   rcases h1 with ⟨rfl, rfl⟩ | ⟨k, rfl⟩ <;> rcases h2 with ⟨rfl, rfl⟩ | ⟨k', rfl⟩ <;> simp [Instr.sliceBound, asIntOf, G, I, Int.toNat_natCast]
  simp [Instr.sliceAt, underlying, program, Sem.run, hu, Instr.slice, e3, hs]
theorem vM {x : Operand} {t : TypeId} {lo hi : Option Operand} {s : List UInt8} {l h : Nat} {u D : Option Value} (U : o.op = .slice t x lo hi none) (X : ev E x = some (str s))
  (hl : lim E lo = some u) (hh : lim E hi = some D) (hu : K.P.underlying t = some .string)
  (h1 : (D = none ∧ h = s.length) ∨ ∃ k, D = some (.int k (h : Int))) (h2 : (u = none ∧ l = 0) ∨ ∃ k, u = some (.int k (l : Int))) (G : l ≤ h) (I : h ≤ s.length) :
  RQ K o E H (str ((s.take h).drop l)) :=
 cM (by rw [U]; intro c h; cases h) fun a' w J _ => by
  unfold execOp; simp only [U]; rw [J.ev X]
  rw [lO J hl, lO J hh]
  have L : (ByteArray.mk s.toArray).size = s.length := by show s.toArray.size = _; simp
  have e3 : (Instr.sliceBounds false s.length s.length u D none).run K.P w = .ok (l, h, s.length) w := by
   unfold Instr.sliceBounds
   rcases h1 with ⟨rfl, rfl⟩ | ⟨k, rfl⟩ <;> rcases h2 with ⟨rfl, rfl⟩ | ⟨k', rfl⟩ <;> simp [Instr.sliceBound, asIntOf, G, I, Int.toNat_natCast]
  have e4 : (ByteArray.mk s.toArray).extract l h = ⟨((s.take h).drop l).toArray⟩ := by
   apply ByteArray.ext
   rw [ByteArray.data_extract]
   simp [List.extract_toArray, List.drop_take, List.extract_eq_take_drop]
  simp [Instr.sliceAt, underlying, program, Sem.run, hu, Instr.slice, str, L, e3, e4]
end
end Go.Proofs.YtndjkejhacfpdaaGreatDoor

namespace Go.Proofs.YtndjkejhacfpdaaGreatDoor
open Go.RowKit

theorem qB (b off n : Nat) : (⟨b, off, none⟩ : Addr).add n = ⟨b, off + n, none⟩ := by unfold Addr.add; split <;> simp_all
theorem ov {P : Program} {W w : World} {l : List HA} {t ty e : TypeId} {i : TypeInfo} {z : Value} {sz bytes : Nat} {a a2 : Option Addr} {n c m c2 : Nat} {cs news : List Value}
  (s : Sat W (Row e sz a n c cs :: l) w) (ht : P.underlying t = some (.slice e)) (hi : P.info? e = some i) (hz : i.zero = some z) (b0 : i.size = sz) (b1 : i.bytes = bytes) (b3 : z.cells.size = sz)
  (J : news.length = m * sz) (hr : Rds l a2 news) (h1 : one news) (hb : (n + m) * bytes ≤ 140737488355328) (h0 : Nat.blt 0 bytes = true) (b4 : Nat.blt 0 sz = true) :
  ∃ a' c' w', (Builtin.append_ #[t, t] ty #[.slice a n c, .slice a2 m c2]).run P w = .ok (.slice a' (n + m) c') w' ∧ Sat W (Row e sz a' (n + m) c' (cs.take (n * sz) ++ news) :: l) w' := by
 subst b0
 subst b1
 have b5 : 0 < i.bytes := by simpa [Nat.blt_eq] using h0
 have b6 : 0 < i.size := by simpa [Nat.blt_eq] using b4
 have d4 : n + m ≤ 140737488355328 := Nat.le_trans (Nat.le_mul_of_pos_right (n + m) b5) hb
 have ab : n + m ≤ maxLen := by simp only [maxLen]; omega
 have s' : Sat W l w := s.ent (Ent.drop (Ent.refl _))
 -- where the news are read
 have G : ∀ w2, Sat W l w2 → (Builtin.firstCells i.size m (.slice a2 m c2)).run P w2 = .ok news.toArray w2 := by
  intro w2 L
  rcases hr.cells L with hn | ⟨b2, af, b7, hc⟩
  ·subst hn
   have hm : m = 0 := by
    rcases Nat.eq_zero_or_pos m with h | h
    ·exact h
    ·have := Nat.mul_pos h b6; simp at J; omega
   subst hm
   cases a2 <;> simp [Builtin.firstCells, loadCells, loadCellsFrom]
  ·subst b7
   have := ka (P := P) (w := w2) (b := b2) (off := af) (vs := news) hc
   rw [J] at this
   simpa [Builtin.firstCells] using this
 -- the grown row
 have I : ∀ (D : List Value), D.length = n * i.size → c < n + m → Sat W (Row e i.size (some ⟨w.heap.size, 0, none⟩) (n + m) (grownCap w (n + m) c e) (D ++ news) :: l)
   { w with drawn := w.drawn + 1, heap := w.heap.push (.cells (D.toArray ++ news.toArray ++ Builtin.zeroCells z.cells (grownCap w (n + m) c e - (n + m))) e (0, 0)) } := by
  intro D ho hc
  have an := grownCap_ge w (n + m) c e
  have b8 := grownCap_le_maxLen w (n + m) c e ab
  have L := (s'.drew (w.drawn + 1)).new (.cells (D.toArray ++ news.toArray ++ Builtin.zeroCells z.cells (grownCap w (n + m) c e - (n + m))) e (0, 0))
  refine L.ent (Ent.sel' 0 rfl ?_ (Ent.refl _))
  intro h x
  have u : (D ++ news).length = (n + m) * i.size := by rw [List.length_append, ho, J, Nat.add_mul]
  have b9 : (Builtin.zeroCells z.cells (grownCap w (n + m) c e - (n + m))).toList.length = (grownCap w (n + m) c e - (n + m)) * i.size := by rw [Array.length_toList, size_zeroCells, b3]
  refine Row.mk (pre := []) (junk := (Builtin.zeroCells z.cells (grownCap w (n + m) c e - (n + m))).toList) (fz := (0, 0)) ⟨rfl, an, b8, ?_, by rw [u]; exact Nat.le_refl _, by rw [u]; exact Nat.mul_le_mul_right _ an, Or.inl rfl⟩ h ?_
  ·rw [u, b9, ← Nat.add_mul]; exact Nat.mul_le_mul_right _ (by omega)
  ·have : (D.toArray ++ news.toArray ++ Builtin.zeroCells z.cells (grownCap w (n + m) c e - (n + m))) = ([] ++ (D ++ news) ++ (Builtin.zeroCells z.cells (grownCap w (n + m) c e - (n + m))).toList).toArray := by
    apply Array.ext'; simp
   rw [this] at x
   exact x
 have a1 : ∀ D, (Question.appendCap (n + m) D e).cut (w.tape w.drawn (.appendCap (n + m) D e)) = grownCap w (n + m) D e := fun _ => rfl
 by_cases hroom : n + m ≤ c
 ·-- there is room
  rcases s.row_cases with ⟨rfl, rfl, rfl, rfl⟩ | ⟨b, off, pre, junk, fz, rfl, ok, L⟩
  ·have hm : m = 0 := by omega
   subst hm
   have cd : news = [] := List.eq_nil_of_length_eq_zero (by simpa using J)
   subst cd
   refine ⟨none, 0, w, ?_, by simpa using s⟩
   simp [Builtin.append_, run_underlying ht, sizeOf, typeInfo, program, Sem.run, hi, Builtin.lenOf, G w s']
  ·have ch := L.pts_at (i := 0) rfl
   have u := ok.len
   have a6 := ok.offs
   have d7 := ok.room
   have d1 : n * i.size + news.length ≤ c * i.size := by rw [J, ← Nat.add_mul]; exact Nat.mul_le_mul_right _ hroom
   have a7 := kW (P := P) (off + n * i.size) news 0 (pre ++ cs ++ junk) w ch (by simp; omega) (fun q h1 h2 h3 => ok.free q (by omega) (by omega)) h1
   rw [Nat.add_zero] at a7
   refine ⟨some ⟨b, off, none⟩, c, _, ?_, (L.upd (o' := .cells (gl (pre ++ cs ++ junk) (off + n * i.size) news).toArray e fz)).ent (Ent.sel' 0 rfl ?_ (Ent.refl _))⟩
   ·simp [Builtin.append_, run_underlying ht, sizeOf, typeInfo, program, Sem.run, hi, Builtin.lenOf, hroom, G w s', qB, a7]
   ·intro h x
    have e1 : gl (pre ++ cs ++ junk) (off + n * i.size) news = pre ++ (cs.take (n * i.size) ++ news) ++ (cs ++ junk).drop (n * i.size + news.length) := by
     rw [iR _ _ _ (by simp; omega)]
     rw [List.append_assoc pre cs junk, List.take_append, List.drop_append]
     rw [List.take_of_length_le (by omega), List.drop_of_length_le (by omega)]
     rw [show off + n * i.size - pre.length = n * i.size by omega, show off + n * i.size + news.length - pre.length = n * i.size + news.length by omega]
     rw [List.take_append_of_le_length u]
     simp
    rw [e1] at x
    have U : (cs.take (n * i.size) ++ news).length = (n + m) * i.size := by rw [List.length_append, List.length_take, Nat.min_eq_left u, J, Nat.add_mul]
    refine Row.mk (junk := (cs ++ junk).drop (n * i.size + news.length)) ⟨a6, hroom, ok.cap, ?_, by rw [U]; exact Nat.le_refl _, by rw [U]; exact Nat.mul_le_mul_right _ hroom, ok.fzok⟩ h x
    rw [U, List.length_drop, List.length_append, Nat.add_mul, ← J]
    omega
 ·-- it grows
  have hg : c < n + m := by omega
  have c1 : ¬ (9223372036854775807 < ((n : Int) + (m : Int))) := by simp only [maxLen] at ab; omega
  have c3 := growslice_fits (bytes := i.bytes) hg hb
  have X : ¬ (281474976710656 < Builtin.nextslicecap (n + m) c * i.bytes) := by omega
  have hd : Sat W l w.drew := s'.drew _
  rcases s.row_cases with ⟨rfl, rfl, rfl, rfl⟩ | ⟨b, off, pre, junk, fz, rfl, ok, L⟩
  ·refine ⟨_, _, _, ?_, by simpa using I [] (by simp) hg⟩
   have c4 : (Builtin.firstCells i.size 0 (.slice none 0 0)).run P w.drew = .ok #[] w.drew := by simp [Builtin.firstCells]
   have hm : m ≠ 0 := by omega
   have a8 : ¬ (9223372036854775807 < (m : Int)) := by omega
   simp only [Nat.zero_add] at hroom X a1 ⊢
   simp [Builtin.append_, run_underlying ht, sizeOf, typeInfo, zeroValue, hi, hz, Builtin.lenOf, hm, a8, X, Question.forced, c4, G _ hd, newRow, grownCap]
   rfl
  ·have u := ok.len
   have bc : (Builtin.firstCells i.size n (.slice (some ⟨b, off, none⟩) n c)).run P w.drew = .ok (cs.take (n * i.size)).toArray w.drew := by
    have := ka (P := P) (w := w.drew) (b := b) (off := off) (vs := cs.take (n * i.size)) fun j v hj => by
     have c5 : cs[j]? = some v := by
      rw [List.getElem?_take] at hj
      split at hj
      ·exact hj
      ·cases hj
     exact (eM.row (H := Row e i.size (some ⟨b, off, none⟩) n c cs :: l) 0 rfl c5).sat (s.drew _)
    rw [List.length_take, Nat.min_eq_left u] at this
    simpa [Builtin.firstCells] using this
   refine ⟨_, _, _, ?_, I (cs.take (n * i.size)) (by rw [List.length_take, Nat.min_eq_left u]) hg⟩
   simp [Builtin.append_, run_underlying ht, sizeOf, typeInfo, zeroValue, hi, hz, Builtin.lenOf, hroom, c1, X, Question.forced, bc, G _ hd, newRow, grownCap]
   refine congrArg (fun x => w.drew.alloc (.cells x e)) ?_
   apply Array.ext'
   simp [List.append_assoc]

section
variable {K : Cx} {R S Y : Type} {Q : dw R} {E : Env} {H : List HA} {opt : Option R} {ops : Array Oper} {rest : List Oper} {o : Oper}
structure Elt (P : Program) (e sz bytes : Nat) (zs : List Value) : Prop where
 info : ∃ i z, P.info? e = some i ∧ i.zero = some z ∧ i.size = sz ∧ i.bytes = bytes ∧ z.cells = zs.toArray
 len : zs.length = sz
 pos : Nat.blt 0 bytes = true
 spos : Nat.blt 0 sz = true
theorem Elt.of {P : Program} {e sz bytes : Nat} {u : List Value} (z : Value) (h : (P.info? e).map (fun i => (i.zero, i.size, i.bytes)) = some (some z, sz, bytes)) (D : z.cells = u.toArray) (G : u.length = sz) (h1 : Nat.blt 0 bytes = true) (I : Nat.blt 0 sz = true) : Elt P e sz bytes u := by
 refine ⟨?_, G, h1, I⟩
 cases hi : P.info? e with
 | none => rw [hi] at h; cases h
 | some i =>
  rw [hi] at h
  simp only [Option.map_some, Option.some.injEq, Prod.mk.injEq] at h
  exact ⟨i, z, rfl, h.1, h.2.1, h.2.2, D⟩
theorem pv {x y : Operand} {t e sz bytes : Nat} {zs : List Value} {a a2 : Option Addr} {n c m c2 : Nat} {cs news : List Value} (k : Nat) (L : o.op = .call { callee := .builtin .append, args := #[x, y], argTypes := #[t, t] })
  (hx : ev E x = some (.slice a n c)) (hy : ev E y = some (.slice a2 m c2)) (ht : K.P.underlying t = some (.slice e)) (D : Elt K.P e sz bytes zs) (U : H[k]? = some (Row e sz a n c cs))
  (hr : Rds (H.eraseIdx k) a2 news) (hl : news.length = m * sz) (h1 : one news) (hb : (n + m) * bytes ≤ 140737488355328) :
  RE K (Y := Option Addr × Nat) o E H (fun y => .slice y.1 (n + m) y.2) (fun y => H.set k (Row e sz y.1 (n + m) y.2 (cs.take (n * sz) ++ news))) :=
 gN (by rw [L]; intro c h; cases h) fun a' w X s => by
  obtain ⟨i, z, hi, hz, G, I, J⟩ := D.info
  obtain ⟨a3, c3, w', u, s2⟩ := ov (t := t) (ty := o.type) (c2 := c2) (s.focus U) ht hi hz G I (by rw [J]; simpa using D.len) hl hr h1 hb D.pos D.spos
  refine ⟨(a3, c3), w', ?_, Sat.unfocus U s2⟩
  unfold execOp; simp only [L]
  simp only [resolve, invoke, builtin, Sem.run_bind, Sem.run_pure, Result.andThen_ok, List.map_toArray, List.map_cons, List.map_nil, X.ev hx, X.ev hy, u]
theorem tR {x y : Operand} {t e sz bytes : Nat} {zs : List Value} {a2 : Option Addr} {m c2 : Nat} {news : List Value} (L : o.op = .call { callee := .builtin .append, args := #[x, y], argTypes := #[t, t] })
  (hx : ev E x = some (.slice none 0 0)) (hy : ev E y = some (.slice a2 m c2)) (ht : K.P.underlying t = some (.slice e)) (D : Elt K.P e sz bytes zs)
  (hr : Rds H a2 news) (hl : news.length = m * sz) (h1 : one news) (hb : m * bytes ≤ 140737488355328) :
  RE K (Y := Option Addr × Nat) o E H (fun y => .slice y.1 m y.2) (fun y => Row e sz y.1 m y.2 news :: H) :=
 gN (by rw [L]; intro c h; cases h) fun a' w U s => by
  obtain ⟨i, z, hi, hz, G, I, J⟩ := D.info
  have s0 : Sat K.W (Row e sz none 0 0 [] :: H) w := s.ent (Ent.row_nil (Ent.refl _))
  obtain ⟨a3, c3, w', u, X⟩ := ov (t := t) (ty := o.type) (c2 := c2) s0 ht hi hz G I (by rw [J]; simpa using D.len) hl hr h1 (by rw [Nat.zero_add]; exact hb) D.pos D.spos
  simp only [Nat.zero_add, List.take_nil, List.nil_append] at u X
  refine ⟨(a3, c3), w', ?_, X⟩
  unfold execOp; simp only [L]
  simp only [resolve, invoke, builtin, Sem.run_bind, Sem.run_pure, Result.andThen_ok, List.map_toArray, List.map_cons, List.map_nil, U.ev hx, U.ev hy, u]

/-! ### make -/
theorem xm {x y : Operand} {t e bytes : Nat} {z : Value} {k k' : IntKind} {n c : Int} (ho : o.op = .makeSlice t x y) (hx : ev E x = some (.int k n)) (hy : ev E y = some (.int k' c)) (ht : K.P.underlying t = some (.slice e)) (hE : Elt K.P e 1 bytes [z])
  (h0 : 0 ≤ n) (h1 : n ≤ c) (hb : c * bytes ≤ 140737488355328) :
  RE K (Y := Nat) o E H (fun b => .slice (some ⟨b, 0, none⟩) n.toNat c.toNat) (fun b => Row e 1 (some ⟨b, 0, none⟩) n.toNat c.toNat (List.replicate c.toNat z) :: H) :=
 gN (by rw [ho]; intro c h; cases h) fun a' w he s => by
  obtain ⟨i, zv, hi, hz, D, G, I⟩ := hE.info
  subst G
  have J : 0 < i.bytes := by have := hE.pos; simpa [Nat.blt_eq] using this
  obtain ⟨N, rfl⟩ := Int.eq_ofNat_of_zero_le h0
  obtain ⟨C, rfl⟩ := Int.eq_ofNat_of_zero_le (Int.le_trans h0 h1)
  have L : ((C * i.bytes : Nat) : Int) ≤ 140737488355328 := by rw [Int.natCast_mul]; exact hb
  have hC : C * i.bytes ≤ 140737488355328 := by omega
  have U : C ≤ 140737488355328 := Nat.le_trans (Nat.le_mul_of_pos_right C J) hC
  have u : N ≤ C := by omega
  have wr : ∀ q : Nat, q ≤ 140737488355328 → IntKind.i64.wrap (q : Int) = q := by
   intro q hq
   simp only [IntKind.wrap, IntKind.bits, IntKind.signed]
   have X : ((q : Int) % 2 ^ 64) = q := Int.emod_eq_of_lt (by omega) (by omega)
   simp only [X, Bool.true_and]
   rw [if_neg]
   simp
   omega
  have X := wr N (by omega)
  have e2 := wr C U
  simp only [Int.toNat_natCast]
  have t2 : ¬ (281474976710656 < (i.bytes : Int) * (C : Int)) := by
   rw [Int.mul_comm]
   rw [Int.natCast_mul] at L
   omega
  have ab : ¬ ((C : Int) < 0) := by omega
  have ad : ¬ ((N : Int) < 0) := by omega
  have af : ¬ ((C : Int) < (N : Int)) := by omega
  refine ⟨w.heap.size, { w with heap := w.heap.push (.cells (List.replicate C z).toArray e (0, 0)) }, ?_, (s.new _).ent (Ent.sel' 0 rfl ?_ (Ent.refl _))⟩
  ·unfold execOp; simp only [ho]; rw [he.ev hx, he.ev hy]
   simp [Instr.makeSlice, underlying, program, Sem.run, ht, asInt, asIntOf, typeInfo, hi, X, e2, t2, ab, ad, af, askRoom, sizeOf, D, zeroValue, hz, I, newRow, newObj]
   split
   ·rename_i al; subst al; refine congrArg (fun q => Result.ok (Next.value (Value.slice (some { block := w.heap.size, off := 0 }) N 0)) (w.alloc (Obj.cells q e))) ?_; apply Array.ext <;> simp
   ·refine congrArg (fun q => Result.ok (Next.value (Value.slice (some { block := w.heap.size, off := 0 }) N C)) (w.alloc (Obj.cells q e))) ?_
    apply Array.ext
    ·simp
    ·intro j h1 h2
     simp [Nat.mod_one]
  ·intro h x
   refine Row.mk (pre := []) (junk := []) (fz := (0, 0)) ⟨rfl, u, by simp only [maxLen]; omega, by simp, by simpa using u, by simp, Or.inl rfl⟩ h ?_
   simpa [pts] using x
end
end Go.Proofs.YtndjkejhacfpdaaGreatDoor

namespace Go.Proofs.YtndjkejhacfpdaaGreatDoor
open Go.RowKit

def aB (l : List UInt8) : List Value := l.map fun c => .int .u8 (c.toNat : Int)
theorem dx (l : List UInt8) : (aB l).length = l.length := by simp [aB]
theorem nB (l m : List UInt8) : aB (l ++ m) = aB l ++ aB m := by simp [aB]
theorem kS (l : List UInt8) (n : Nat) : (aB l).take n = aB (l.take n) := by simp [aB]
theorem mz (l : List UInt8) (n : Nat) : (aB l).drop n = aB (l.drop n) := by simp [aB]
theorem rz (l : List UInt8) : one (aB l) := by
 intro v u
 simp [aB] at u
 obtain ⟨c, _, rfl⟩ := u
 rfl
theorem il {l : List UInt8} {j : Nat} (h : j < l.length) : (aB l)[j]? = some (.int .u8 ((l.getD j 0).toNat : Int)) := by
 simp [aB, List.getElem?_eq_getElem h, List.getD_eq_getElem?_getD]
theorem iS {l : List UInt8} {j : Nat} (h : j < l.length) : aB l ≠ [] := by
 intro e
 have := dx l
 rw [e] at this
 simp at this
 omega
theorem vk (n : Nat) : List.replicate n (Value.int .u8 0) = aB (List.replicate n 0) := by simp [aB]
def dL (n : Int) : UInt8 := UInt8.ofNat n.toNat
theorem ik {n : Int} (u : 0 ≤ n) (h1 : n < 256) : ((dL n).toNat : Int) = n := by
 unfold dL
 rw [UInt8.toNat_ofNat']
 omega

section
variable {K : Cx} {R S Y : Type} {Q : dw R} {E : Env} {H : List HA} {opt : Option R} {ops : Array Oper} {rest : List Oper} {o : Oper}
theorem ve {t e sz bytes len : Nat} {u : List Value} {l : List (Nat × Operand)} {vs : List (Nat × Value)} {cs : List Value} (ho : o.op = .buildSlice t len l.toArray) (hx : evP l E = some vs) (ht : K.P.underlying t = some (.slice e)) (hE : Elt K.P e sz bytes u)
  (hb : Nat.ble (len * sz) 16777216 = true) (hf : Instr.fill (fun i => some (i * sz, sz)) ((Array.range (len * sz)).map (u.toArray[· % u.toArray.size]!)) vs = some cs.toArray) (h0 : Nat.blt 0 (len * sz) = true) (D : cs.length = len * sz) :
  RE K (Y := Nat) o E H (fun b => .slice (some ⟨b, 0, none⟩) len len) (fun b => Row e sz (some ⟨b, 0, none⟩) len len cs :: H) :=
 gN (by rw [ho]; intro c h; cases h) fun a' w he s => by
  obtain ⟨i, z, hi, hz, G, be, I⟩ := hE.info
  have J : len * sz ≤ 16777216 := by simpa [Nat.ble_eq] using hb
  have br : 0 < len * sz := by simpa [Nat.blt_eq] using h0
  have L : 0 < sz := by have := hE.spos; simpa [Nat.blt_eq] using this
  refine ⟨w.heap.size, { w with heap := w.heap.push (.cells cs.toArray e (0, 0)) }, ?_, (s.new _).ent (Ent.sel' 0 rfl ?_ (Ent.refl _))⟩
  ·unfold execOp; simp only [ho]
   have : (l.toArray.map fun (i, x) => (i, a'.eval x)) = vs.toArray := by
    rw [← pf he l vs hx]; simp
   rw [this]
   have U : ¬ (len * sz = 0) := by omega
   have X : ¬ (len * sz > 2 ^ 24) := by omega
   simp only [Instr.buildSlice, underlying, program, Sem.run_bind, Sem.run, ht, sizeOf, typeInfo, hi, G, Result.andThen_ok, Sem.run_pure, X, U, if_false, zeroValue, hz, I, newRow, newObj]
   simp only [hf, Sem.run_bind, Sem.run, Result.andThen_ok, Sem.run_pure, newRow, newObj]
  ·intro h x
   have bs : len ≤ 16777216 := Nat.le_trans (Nat.le_mul_of_pos_right len L) J
   refine Row.mk (pre := []) (junk := []) (fz := (0, 0)) ⟨rfl, Nat.le_refl _, by simp only [maxLen]; omega, by simp [D], by simp [D], by simp [D], Or.inl rfl⟩ h ?_
   simpa [pts] using x
theorem xO {x y : Operand} {t t2 e sz bytes : Nat} {zs : List Value} {a a2 : Option Addr} {n c m c2 : Nat} {cs news : List Value} (k : Nat) (ho : o.op = .call { callee := .builtin .copy, args := #[x, y], argTypes := #[t, t2] })
  (hx : ev E x = some (.slice a n c)) (hy : ev E y = some (.slice a2 m c2)) (ht : K.P.underlying t = some (.slice e)) (hE : Elt K.P e sz bytes zs) (U : H[k]? = some (Row e sz a n c cs))
  (hr : Rds H a2 news) (X : (min m n) * sz = news.length) (h1 : one news) :
  RE K (Y := Unit) o E H (fun _ => .int .i64 (min m n : Nat)) (fun _ => H.set k (Row e sz a n c (gl cs 0 news))) :=
 gN (by rw [ho]; intro c h; cases h) fun a' w he s => by
  obtain ⟨i, z, hi, hz, G, b7, b8⟩ := hE.info
  have u : (Builtin.firstCells sz (min m n) (.slice a2 m c2)).run K.P w = .ok news.toArray w := by
   rcases hr.cells s with hn | ⟨b2, I, af, hc⟩
   ·subst hn
    have hm : min m n * sz = 0 := by simpa using X
    cases a2 <;> simp [Builtin.firstCells, hm, loadCells, loadCellsFrom]
   ·subst af
    have := ka (P := K.P) (w := w) (b := b2) (off := I) (vs := news) hc
    rw [← X] at this
    simpa [Builtin.firstCells] using this
  have go : ∀ w', (execOp a'.eval o).run K.P w = .ok (.value (.int .i64 (min m n : Nat))) w' ↔ (match a with | some ad => (storeCells ad news).run K.P w = .ok () w' | none => w' = w) := by
   intro w'
   unfold execOp; simp only [ho]
   simp only [resolve, invoke, builtin, Sem.run_bind, Sem.run_pure, Result.andThen_ok, List.map_toArray, List.map_cons, List.map_nil, he.ev hx, he.ev hy]
   have D : Nat.min m n = min m n := rfl
   cases a with
   | none =>
    simp [Builtin.copy_, underlying, program, Sem.run, ht, Builtin.lenOf, sizeOf, typeInfo, hi, G, D, u, goInt]
    constructor <;> (intro h; exact h.symm)
   | some ad =>
    simp [Builtin.copy_, underlying, program, Sem.run, ht, Builtin.lenOf, sizeOf, typeInfo, hi, G, D, u, goInt]
    cases (storeCells ad news).run K.P w <;> simp
  rcases (s.focus U).row_cases with ⟨rfl, rfl, rfl, rfl⟩ | ⟨b, off, pre, junk, fz, rfl, ok, s2⟩
  ·refine ⟨(), w, (go w).2 rfl, ?_⟩
   have al : news = [] := List.eq_nil_of_length_eq_zero (by rw [← X]; simp)
   subst al
   exact Sat.unfocus U (s.focus U)
  ·have an := s2.pts_at (i := 0) rfl
   have br := ok.len
   have J := ok.offs
   have L := ok.le
   have bs : news.length ≤ n * sz := by rw [← X]; exact Nat.mul_le_mul_right _ (Nat.min_le_right m n)
   have c0 : n * sz ≤ c * sz := Nat.mul_le_mul_right _ L
   have a1 := kW (P := K.P) off news 0 (pre ++ cs ++ junk) w an (by simp; omega) (fun q h1 h2 h3 => ok.free q (by omega) (by omega)) h1
   refine ⟨(), _, (go _).2 a1, Sat.unfocus U ((s2.upd (o' := .cells (gl (pre ++ cs ++ junk) (off + 0) news).toArray e fz)).ent (Ent.sel' 0 rfl ?_ (Ent.refl _)))⟩
   intro h x
   have e1 : gl (pre ++ cs ++ junk) (off + 0) news = pre ++ gl cs 0 news ++ junk := by
    rw [iR _ _ _ (by simp; omega), iR _ _ _ (by omega)]
    rw [List.append_assoc pre cs junk, List.take_append, List.drop_append, List.drop_append]
    rw [List.take_of_length_le (by omega), List.drop_of_length_le (by omega)]
    rw [show off + 0 - pre.length = 0 by omega, show off + 0 + news.length - pre.length = news.length by omega, show news.length - cs.length = 0 by omega]
    simp
   rw [e1] at x
   exact Row.mk (junk := junk) ⟨J, ok.le, ok.cap, by rw [jT]; exact ok.room, by rw [jT]; exact ok.len, by rw [jT]; exact ok.top, ok.fzok⟩ h x
/-! ### Bytes and strings -/
theorem tT {x : Operand} {t d e : TypeId} {l : List UInt8} (ho : o.op = .convert t d x) (hx : ev E x = some (str l)) (ht : K.P.underlying t = some .string) (hd : K.P.underlying d = some (.slice e)) (J : K.P.underlying e = some (.int .u8)) (hl : l.length ≤ 140737488355328) :
  RE K (Y := Nat × Nat) o E H (fun y => .slice (some ⟨y.1, 0, none⟩) l.length y.2) (fun y => Row e 1 (some ⟨y.1, 0, none⟩) l.length y.2 (aB l) :: H) :=
 gN (by rw [ho]; intro c h; cases h) fun a' w he s => by
  have L : (ByteArray.mk l.toArray).size = l.length := by show l.toArray.size = _; simp
  have U : l.length ≤ maxLen := by simp only [maxLen]; omega
  have X := grownCap_ge w l.length 0 e
  have ab := grownCap_le_maxLen w l.length 0 e U
  let cap := grownCap w l.length 0 e
  let u : List Value := aB l ++ List.replicate (cap - l.length) (.int .u8 0)
  have ad : u.length = cap := by simp [u, dx]; omega
  refine ⟨(w.heap.size, cap), { w with drawn := w.drawn + 1, heap := w.heap.push (.cells u.toArray e (cap, cap + 1)) }, ?_, ((s.drew (w.drawn + 1)).new _).ent (Ent.sel' 0 rfl ?_ (Ent.refl _))⟩
  ·unfold execOp; simp only [ho]; rw [he.ev hx]
   have I : ((ByteArray.mk l.toArray).data.map fun b => Value.int .u8 b.toNat) ++ Array.replicate (cap - l.length) (Value.int .u8 0) = u.toArray := by
    simp [u, aB]
   have D : (w.heap.push (.cells u.toArray e (0, 0)))[w.heap.size]? = some (.cells u.toArray e (0, 0)) := by simp
   have G : (choose (.appendCap l.length 0 e)).run K.P w = .ok cap w.drew := by
    simp [choose, Sem.run, Question.forced, cap, grownCap]
   have af : ({ w with drawn := w.drawn + 1, heap := w.heap.push (.cells u.toArray e (0, 0)) } : World).freeze ⟨w.heap.size, cap, none⟩ 1 = { w with drawn := w.drawn + 1, heap := w.heap.push (.cells u.toArray e (cap, cap + 1)) } := by
    unfold World.freeze
    rw [if_neg (by omega)]
    simp only
    rw [jO _ _ _ _ D]
    congr 1
    apply Array.ext_getElem?
    intro j
    rw [Array.getElem?_setIfInBounds]
    by_cases hj : w.heap.size = j
    ·subst hj; simp
    ·rw [if_neg hj]; simp [Array.getElem?_push, Ne.symm hj]
   have key : (convert t d (str l)).run K.P w = .ok (.slice (some ⟨w.heap.size, 0, none⟩) l.length cap) { w with drawn := w.drawn + 1, heap := w.heap.push (.cells u.toArray e (cap, cap + 1)) } := by
    simp only [str, convert, underlying, program, Sem.run_bind, Sem.run, ht, hd, Result.andThen_ok, Sem.run_pure, J]
    unfold Conv.stringToBytes
    simp only [L]
    rw [Sem.run_bind, G]
    simp only [Result.andThen_ok, newRow, newObj, Sem.run_bind, Sem.run, Sem.run_pure]
    rw [show (Array.map (fun b => Value.int IntKind.u8 (b.toNat : Int)) (ByteArray.mk l.toArray).data ++ Array.replicate (cap - l.length) (Value.int IntKind.u8 0)) = u.toArray from I]
    have hm : (markStringish ⟨w.heap.size, 0, none⟩).run K.P { w with drawn := w.drawn + 1, heap := w.heap.push (.cells u.toArray e (0, 0)) } = .ok () { w with drawn := w.drawn + 1, heap := w.heap.push (.cells u.toArray e (cap, cap + 1)) } := by
     unfold markStringish
     simp only [shape, Sem.run_bind, Sem.run, Result.andThen_ok, World.shape?, D, List.size_toArray, ad, freeze]
     rw [af]
    exact congrArg (fun r => Result.andThen r fun _ w' => Result.ok (Value.slice (some ⟨w.heap.size, 0, none⟩) l.length cap) w') hm
   simp [key]
  ·intro h x
   refine Row.mk (pre := []) (junk := List.replicate (cap - l.length) (.int .u8 0)) (fz := (cap, cap + 1)) ⟨rfl, X, ab, by simp [dx]; omega, by simp [dx], by simp [dx]; omega, Or.inr (by simp; exact Nat.le_refl cap)⟩ h ?_
   simpa [pts, u] using x
theorem wU {u D : TypeId} {x y : Operand} {l m : List UInt8} (G : o.op = .binOp .add u x y D) (I : ev E x = some (str l)) (J : ev E y = some (str m)) (hl : l.length + m.length ≤ 9223372036854775807) : RQ K o E H (str (l ++ m)) :=
 gH G I J lw fun P w => by
  have h1 : (ByteArray.mk l.toArray).size = l.length := by show l.toArray.size = _; simp
  have L : (ByteArray.mk m.toArray).size = m.length := by show m.toArray.size = _; simp
  have U : (ByteArray.mk l.toArray) ++ (ByteArray.mk m.toArray) = ⟨(l ++ m).toArray⟩ := by
   apply ByteArray.ext; simp
  have X : ¬ ((((ByteArray.mk l.toArray).size + (ByteArray.mk m.toArray).size : Nat) : Int) > IntKind.i64.max) := by
   rw [h1, L]
   simp only [IntKind.max, IntKind.signed, IntKind.bits, if_true]
   omega
  simp only [str, binOp, Op.stringOp, X, if_false, U, Sem.run_pure]
end
end Go.Proofs.YtndjkejhacfpdaaGreatDoor

namespace Go.Proofs.YtndjkejhacfpdaaGreatDoor
open Go.RowKit
section
variable {K : Cx} {R S Y : Type} {Q : dw R} {E : Env} {H : List HA} {o : Option R} {ops : Array Oper} {rest : List Oper} {op : Oper}
def Exi (K : Cx) (Q : dw R) (id : Nat) (E : Env) (H : List HA) (o : Option R) : Prop := ∀ r, o = some r → ∀ a w, Has K.n K.ds E a → Sat K.W H w → Q r (.exit id) a w
theorem cA {id : Nat} (h : Exi K Q id E H o) : Sim K Q (.exit id) E H o := fun r u a w D G => wpIn_exit (h r u a w D G)
theorem ce {id : Nat} {c : Code} (h : Exi K Q id E H o) : Exi K (kp K c Q) id E H o := h
theorem cl {id : Nat} {L : S → Option R} {u : S → Y → Env} {D : S → Y → List HA} (h : Exi K Q id E H o) : Exi K (qj K L u D Q) id E H o := h
theorem cf {id : Nat} (h : Nrm K Q E H o) : Exi K (lB id Q) id E H o := fun r u a w D G => by
 show Exit.inBlock id (Q r) (.exit id) a w
 simp only [Exit.inBlock, if_true]
 exact h r u a w D G
def Rtn (K : Cx) (Q : dw R) (E : Env) (H : List HA) (o : Option R) : Prop := ∀ r, o = some r → ∀ a w, Has K.n K.ds E a → Sat K.W H w → Q r .ret a w
theorem aA (h : Rtn K Q E H o) : Sim K Q .ret E H o := fun r u a w D G => wpIn_ret (h r u a w D G)
theorem aN {c : Code} (h : Rtn K Q E H o) : Rtn K (kp K c Q) E H o := h
theorem bp {id : Nat} (h : Rtn K Q E H o) : Rtn K (lB id Q) E H o := h
theorem fw {L : S → Option R} {u : S → Y → Env} {D : S → Y → List HA} (h : Rtn K Q E H o) : Rtn K (qj K L u D Q) E H o := h
theorem fi {u : S → Y → Env} {D : S → Y → List HA} {r : R} (h : Rtn K Q E H (some r)) : Rtn K (vO K Q u D) E H (some (.inr r)) := fun _ G a w I J => by
 cases G
 exact h r rfl a w I J
theorem aE {fn : Func} {val : R → Y → Value} {B : R → Y → List HA} {r : R} {vs : List Value} (y : Y) (hd : K.ds = []) (u : kk fn.results.toList E = some vs) (D : tup vs = val r y) (G : Ent H (B r y)) :
  Rtn K (qD K fn val B) E H (some r) := fun I J a w L U => sI (K := K) y hd u D G I J a w L U
theorem cS {c : Code} {o' : Option R} (e : o = o') (h : Sim K Q c E H o') : Sim K Q c E H o := e ▸ h
theorem yy {o' : Option R} (e : o = o') (h : Nrm K Q E H o') : Nrm K Q E H o := e ▸ h
def cut {α : Type} (l : List α) (lo hi : Int) : List α := (l.take hi.toNat).drop lo.toNat
theorem ic {α : Type} {l : List α} {lo hi : Int} (u : hi ≤ l.length) : (cut l lo hi).length = hi.toNat - lo.toNat := by
 unfold cut; simp; omega
theorem uG {α : Type} (l : List α) (lo : Int) : cut l lo l.length = l.drop lo.toNat := by unfold cut; simp
theorem Rd.sub {F : HA} {a : Option Addr} {l : List UInt8} (h : Rd F a (aB l)) (lo hi : Int) {c : Nat} (u : hi.toNat ≤ c) : Rd F (if c = lo.toNat then a else a.map (·.add (lo.toNat * 1))) (aB (cut l lo hi)) := by
 by_cases e : c = lo.toNat
 ·left
  unfold cut
  rw [List.drop_of_length_le (by simp; omega)]
  rfl
 ·rw [if_neg e, Nat.mul_one]
  have := (h.take hi.toNat).drop lo.toNat
  rwa [kS, mz] at this
theorem RE.quiet {v : Y → Value} {H' : Y → List HA} {u : Value} (h : RE K op E H v H') (D : ∀ y, v y = u) (G : ∀ y, Ent (H' y) H) : RQ K op E H u := h.rq D G
end
end Go.Proofs.YtndjkejhacfpdaaGreatDoor

namespace Go.Proofs.YtndjkejhacfpdaaGreatDoor
open Go.RowKit
theorem aP {vs : List Value} (h : (vs.all fun v => v.oneCell') = true) : one vs := by
 intro v u
 exact List.all_eq_true.1 h v u
theorem Rd.pos {F : HA} {a : Option Addr} {cs : List Value} (h : Rd F a cs) (u : cs ≠ []) : ∃ b off, a = some ⟨b, off, none⟩ := by
 rcases h with h | ⟨b, off, D, _⟩
 ·exact absurd h u
 ·exact ⟨b, off, D⟩
theorem Rd.cell {F : HA} {a : Option Addr} {cs : List Value} (h : Rd F a cs) {H : List HA} {b off j : Nat} {v : Value} (k : Nat) (I : H[k]? = some F) (J : a = some ⟨b, off, none⟩) (D : cs[j]? = some v) : eM H b (off + j) v := by
 rcases h with h | ⟨b', G, u, L⟩
 ·subst h; simp at D
 ·rw [J] at u; cases u
  refine .of k I fun x U => ?_
  obtain ⟨l, T, fz, h1, X⟩ := L x U
  exact ⟨l, T, fz, h1, X j v D⟩
theorem eM.row' {H : List HA} {T : TypeId} {sz n c b off j : Nat} {a : Option Addr} {cs : List Value} {v : Value} (k : Nat) (u : H[k]? = some (Row T sz a n c cs)) (D : a = some ⟨b, off, none⟩) (G : cs[j]? = some v) : eM H b (off + j) v := by
 subst D; exact .row k u G
theorem aH {E : Env} {t : Nat} {g : Bool} {v : Value} (h : lk E t = some (cv g v)) (u : g = true) : lk E t = some v := by rw [h, u]; rfl
def jU (l m : List UInt8) : List UInt8 := m.take l.length ++ l.drop m.length
theorem jy (l m : List UInt8) : (jU l m).length = l.length := by unfold jU; simp; omega
section
variable {K : Cx} {R S Y : Type} {Q : dw R} {E : Env} {H : List HA} {o : Option R} {ops : Array Oper} {rest : List Oper} {op : Oper}
theorem dG (n : Nat) (Y : Type) {l : List Oper} {G : Option S} {o2 : S → Option R} (u : S → Y → Env) (D : S → Y → List HA)
  (h1 : cc K (jw K u D) ops (l.take n) E H G) (I : ∀ s y, cc K Q ops (l.drop n) (u s y) (D s y) (o2 s)) : cc K Q ops l E H (G.bind o2) := by
 have := vQ (ops := ops) (l1 := l.take n) (l2 := l.drop n) Y u D h1 I
 rwa [List.take_append_drop] at this
theorem ij {p : Prop} [Decidable p] {u o2 : Option R} (h1 : decide p = true → cc K Q ops rest E H u) (D : decide p = false → cc K Q ops rest E H o2) : cc K Q ops rest E H (if p then u else o2) :=
 jJ (fun h => h1 (by simpa using h)) (fun h => D (by simpa using h))
theorem ox {p : Prop} [Decidable p] {u o2 : Option R} (D : (!decide p) = true → cc K Q ops rest E H o2) (h1 : (!decide p) = false → cc K Q ops rest E H u) : cc K Q ops rest E H (if p then u else o2) :=
 jJ (fun h => h1 (by simpa using h)) (fun h => D (by simpa using h))
theorem fv {b : Bool} {u o2 : Option R} (h1 : b = true → cc K Q ops rest E H u) (D : b = false → cc K Q ops rest E H o2) : cc K Q ops rest E H (if b = true then u else o2) :=
 jJ h1 (fun h => D (by simpa using h))
theorem gY {f : FuncId} {xs u : List Operand} {D vs : List Value} (G : op.op = .makeFunc (.func f) xs.toArray u.toArray) (J : evs xs E = some D) (L : evs u E = some vs) : RQ K op E H (.func (.func f) D.toArray vs.toArray) :=
 cM (by rw [G]; intro c h; cases h) fun a w I _ => by
  unfold execOp; simp only [G]
  have U : xs.toArray.map a.eval = D.toArray := by rw [← jk I xs D J]; simp
  have X : u.toArray.map a.eval = vs.toArray := by rw [← jk I u vs L]; simp
  simp [U, X, Instr.makeFunc]
theorem jR {b : BinOp} {u : TypeId} {x y : Operand} {m n : Option Addr} (P : Program) (w : World) : (eqGuard b u x y (.pointer m) (.pointer n)).run P w = .ok () w := by
 unfold eqGuard; cases b <;> rfl
theorem lf {t e : TypeId} {u : Addr} (P : Program) (D : P.underlying t = some (.pointer e)) (w : World) : (Op.equal t (.pointer (some u)) (.pointer none)).run P w = .ok false w := by
 rw [show Op.equal t (.pointer (some u)) (.pointer none) = Op.equalIn (9999 + 1) t (.pointer (some u)) (.pointer none) from rfl, Op.equalIn]
 simp [underlying, program, Sem.run, D]
theorem lR {u I e : TypeId} {x y : Operand} {J : Addr} (D : op.op = .binOp .eql u x y I) (L : ev E x = some (.pointer (some J))) (U : ev E y = some (.pointer none)) (X : K.P.underlying u = some (.pointer e)) : RQ K op E H (.bool false) :=
 cM (by rw [D]; intro c h; cases h) fun a w G _ => by
  unfold execOp; simp only [D]; rw [G.ev L, G.ev U]
  simp [jR, binOp, lf K.P X]
theorem wV {u I e : TypeId} {x y : Operand} {J : Addr} (D : op.op = .binOp .neq u x y I) (L : ev E x = some (.pointer (some J))) (U : ev E y = some (.pointer none)) (X : K.P.underlying u = some (.pointer e)) : RQ K op E H (.bool true) :=
 cM (by rw [D]; intro c h; cases h) fun a w G _ => by
  unfold execOp; simp only [D]; rw [G.ev L, G.ev U]
  simp [jR, binOp, lf K.P X]
/-! Rows of bytes. -/
theorem mg {v v2 : Y → Value} {H1 u : Y → List HA} (h : RE K op E H v H1) (D : ∀ y, v y = v2 y) (G : ∀ y, Ent (H1 y) (u y)) : RE K op E H v2 u :=
 fun a w I J next Q L => h a w I J next Q fun y U s => by rw [D]; exact L y U (s.ent (G y))
theorem Ent.set {l : List HA} {A B : HA} (k : Nat) (h : ∀ x, A x → B x) : Ent (l.set k A) (l.set k B) := by
 induction l generalizing k with
 | nil => exact Ent.refl _
 | cons C l ih =>
  cases k with
  | zero => exact fun x s => cj x h (fun _ y => y) s
  | succ k => exact fun x s => cj x (fun _ y => y) (ih k) s
theorem ry {T sz n D c : Nat} {a : Option Addr} {cs u : List Value} (h1 : n = D) (G : cs = u) : ∀ x, Row T sz a n c cs x → Row T sz a D c u x := by
 subst h1; subst G; exact fun _ x => x
theorem fV {x y : Operand} {t e : Nat} {u : List Value} {a a2 : Option Addr} {c c2 : Nat} {l m : List UInt8} (k : Nat) (D : op.op = .call { callee := .builtin .append, args := #[x, y], argTypes := #[t, t] })
  (G : ev E x = some (.slice a l.length c)) (I : ev E y = some (.slice a2 m.length c2)) (J : K.P.underlying t = some (.slice e)) (L : Elt K.P e 1 1 u) (U : H[k]? = some (Row e 1 a l.length c (aB l)))
  (X : Rds (H.eraseIdx k) a2 (aB m)) (hb : (l.length + m.length) * 1 ≤ 140737488355328) :
  RE K (Y := Option Addr × Nat) op E H (fun y => .slice y.1 (l ++ m).length y.2) (fun y => H.set k (Row e 1 y.1 (l ++ m).length y.2 (aB (l ++ m)))) :=
 mg (pv k D G I J L U X (by rw [dx, Nat.mul_one]) (rz m) hb) (fun y => by simp) fun y => Ent.set k (ry (by simp) (by
  rw [nB, Nat.mul_one, List.take_of_length_le (by rw [dx]; exact Nat.le_refl _)]))
theorem lX {x y : Operand} {t e : Nat} {k D : IntKind} {n c : Int} (G : op.op = .makeSlice t x y) (I : ev E x = some (.int k n)) (J : ev E y = some (.int D c)) (L : K.P.underlying t = some (.slice e)) (U : Elt K.P e 1 1 [.int .u8 0])
  (X : 0 ≤ n) (h1 : n ≤ c) (hb : c * 1 ≤ 140737488355328) :
  RE K (Y := Nat) op E H (fun b => .slice (some ⟨b, 0, none⟩) (List.replicate n.toNat (0 : UInt8)).length c.toNat) (fun b => Row e 1 (some ⟨b, 0, none⟩) (List.replicate n.toNat (0 : UInt8)).length c.toNat (aB (List.replicate n.toNat (0 : UInt8))) :: H) :=
 mg (xm G I J L U X h1 hb) (fun y => by simp) fun y => Ent.sel' 0 rfl (fun h x => by
  rcases x with ⟨x, _⟩ | ⟨b, off, pre, junk, fz, e1, ok, u⟩
  ·cases x
  ·cases e1
   have af : n.toNat ≤ c.toNat := by omega
   have hl := ok.room
   have e2 : List.replicate c.toNat (Value.int .u8 0) = aB (List.replicate n.toNat (0 : UInt8)) ++ List.replicate (c.toNat - n.toNat) (Value.int .u8 0) := by
    rw [← vk, List.replicate_append_replicate]; congr 1; omega
   rw [e2] at u
   refine .inr ⟨_, _, pre, List.replicate (c.toNat - n.toNat) (Value.int .u8 0) ++ junk, fz, rfl, ⟨ok.offs, by simp; omega, ok.cap, by simp [dx]; omega, by simp [dx], by simp [dx]; omega, ok.fzok⟩, ?_⟩
   rw [u]
   simp) (Ent.refl _)
theorem oV {t e len : Nat} {l : List (Nat × Operand)} {vs : List (Nat × Value)} {cs : List Value} (u : List UInt8) (I : op.op = .buildSlice t len l.toArray) (J : evP l E = some vs) (L : K.P.underlying t = some (.slice e)) (U : Elt K.P e 1 1 [.int .u8 0])
  (X : Nat.ble (len * 1) 16777216 = true) (hf : Instr.fill (fun i => some (i * 1, 1)) ((Array.range (len * 1)).map ([Value.int .u8 0].toArray[· % [Value.int .u8 0].toArray.size]!)) vs = some cs.toArray) (h0 : Nat.blt 0 (len * 1) = true) (G : u.length = len) (D : cs = aB u) :
  RE K (Y := Nat) op E H (fun b => .slice (some ⟨b, 0, none⟩) u.length len) (fun b => Row e 1 (some ⟨b, 0, none⟩) u.length len (aB u) :: H) :=
 mg (ve I J L U X hf h0 (by rw [D, dx, G, Nat.mul_one])) (fun y => by rw [G]) fun y => Ent.sel' 0 rfl (ry G.symm D) (Ent.refl _)
theorem xh {t e : Nat} (u : op.op = .buildSlice t 0 [].toArray) (D : K.P.underlying t = some (.slice e)) (G : Elt K.P e 1 1 [.int .u8 0]) :
  RE K (Y := Nat) op E H (fun b => .slice (some ⟨b, 0, none⟩) ([] : List UInt8).length 0) (fun b => Row e 1 (some ⟨b, 0, none⟩) ([] : List UInt8).length 0 (aB ([] : List UInt8)) :: H) :=
 gN (by rw [u]; intro c h; cases h) fun U w X s => by
  obtain ⟨i, z, hi, hz, I, J, L⟩ := G.info
  refine ⟨w.heap.size, { w with heap := w.heap.push (.cells #[] e (0, 0)) }, ?_, (s.new _).ent (Ent.sel' 0 rfl ?_ (Ent.refl _))⟩
  ·unfold execOp; simp only [u]
   simp [Instr.buildSlice, underlying, program, Sem.run, D, sizeOf, typeInfo, hi, newRow, newObj, Instr.fill]
   refine congrArg (fun x => w.alloc (.cells x e)) ?_
   apply Array.ext <;> simp
  ·intro h x
   exact Row.mk (pre := []) (junk := []) (fz := (0, 0)) ⟨rfl, Nat.le_refl _, by simp [maxLen], by simp [aB], by simp, by simp [aB], Or.inl rfl⟩ h (by simpa [pts, aB] using x)
theorem vW {x y : Operand} {t t2 e : Nat} {D : List Value} {a a2 : Option Addr} {c c2 : Nat} {l m : List UInt8} (k : Nat) (G : op.op = .call { callee := .builtin .copy, args := #[x, y], argTypes := #[t, t2] })
  (I : ev E x = some (.slice a l.length c)) (J : ev E y = some (.slice a2 m.length c2)) (L : K.P.underlying t = some (.slice e)) (U : Elt K.P e 1 1 D) (X : H[k]? = some (Row e 1 a l.length c (aB l))) (hr : Rds H a2 (aB m)) :
  RE K (Y := Unit) op E H (fun _ => .int .i64 (min m.length l.length : Nat)) (fun _ => H.set k (Row e 1 a (jU l m).length c (aB (jU l m)))) :=
 mg (xO (news := aB (m.take l.length)) k G I J L U X (fun h s => by
  rcases hr h s with e | ⟨b, off, ha, l', T, fz, h1, h2⟩
  ·left; rw [← kS, e]; simp
  ·refine .inr ⟨b, off, ha, l', T, fz, h1, fun j v u => h2 j v ?_⟩
   rw [← kS, List.getElem?_take] at u
   split at u
   ·exact u
   ·cases u) (by rw [dx, List.length_take, Nat.mul_one, Nat.min_comm]) (rz _)) (fun _ => rfl) fun _ => Ent.set k (ry (jy l m).symm (by
  rw [iR _ _ _ (by simp [dx]; omega)]
  unfold jU
  rw [nB]
  simp only [List.take_zero, List.nil_append, Nat.zero_add, dx, List.length_take]
  rw [← mz]
  congr 1
  by_cases h : l.length ≤ m.length
  ·rw [Nat.min_eq_left h, List.drop_of_length_le (by rw [dx]; exact Nat.le_refl _), List.drop_of_length_le (by rw [dx]; exact h)]
  ·rw [Nat.min_eq_right (by omega)]))
end
section
variable {K : Cx} {R S Y : Type} {Q : dw R} {E : Env} {H : List HA} {o : Option R} {ops : Array Oper} {rest : List Oper} {op : Oper} {cd : Code}
theorem ii {T : TypeId} {sz n c : Nat} {a : Option Addr} {cs : List Value} (k : Nat) (I : H[k]? = some (Row T sz a n c cs)) (h : Rd (Row T sz a n c cs) a cs → n ≤ c → c ≤ maxLen → n * sz ≤ cs.length → Sim K Q cd E H o) : Sim K Q cd E H o := by
 intro r u J w D G
 exact ba (rest := []) (ops := #[]) (Q := fun r e a w => cd.wpIn (fen K.ro) 0 K.P (Q r) a w) k I (fun h1 L U X r u a w D G => h h1 L U X r u a w D G) r u J w D G
theorem nM {d : Nat} {v : Value} (I : Value) (J : lk E d = some v) (L : v = I) (h : cc K Q ops rest ((d, I) :: E) H o) : cc K Q ops rest E H o := by
 intro r U a w G X
 refine h r U a w ⟨G.size, G.defers, fun i u D => ?_⟩ X
 simp only [lk] at D
 cases hb : Nat.beq d i with
 | true =>
  obtain rfl := Nat.eq_of_beq_eq_true hb
  rw [hb] at D
  simp only [cond_true, Option.some.injEq] at D
  rw [← D, ← L]
  exact G.get _ _ J
 | false =>
  rw [hb] at D
  exact G.get i u D
theorem pa {a : Option Addr} {n u c : Nat} (h : n = u) : Value.slice a n c = .slice a u c := by rw [h]
theorem aD {j dj d : Nat} {u b : Bool} (J : op.guard = some (j, u)) (L : ((ops[j]?).bind (·.dst)) = some dj) (U : lk E dj = some (.bool b)) (X : (b == u) = false)
  (hd : op.dst = some d) (hn : Nat.blt d K.n = true) (h : cc K Q ops rest ((d, undef) :: E) H o) : cc K Q ops (op :: rest) E H o := by
 intro r D a w I hs
 refine wpListIn_step fun K' G => ?_
 rw [jY I J L U, X]
 simp only [Bool.false_eq_true, if_false]
 refine ⟨fun f _ => gO _ _, G _ _ ?_⟩
 rw [hd]
 exact h r D _ w (I.put undef hn) hs
theorem dc {j dj d : Nat} {u : Bool} (J : op.guard = some (j, u)) (L : ((ops[j]?).bind (·.dst)) = some dj) (U : lk E dj = some undef)
  (hd : op.dst = some d) (X : Nat.blt d K.n = true) (h : cc K Q ops rest ((d, undef) :: E) H o) : cc K Q ops (op :: rest) E H o := by
 intro r D a w I hs
 refine wpListIn_step fun K' G => ?_
 have : Region.wanted op (yielded ops a.tmps) = false := by
  simp only [Region.wanted, J, yielded, L, Option.bind_some, I.get _ _ U]
  rfl
 rw [this]
 simp only [Bool.false_eq_true, if_false]
 refine ⟨fun f _ => gO _ _, G _ _ ?_⟩
 rw [hd]
 exact h r D _ w (I.put undef X) hs
end
structure vL (a : Option Addr) (c : Nat) (lo : Int) (a' : Option Addr) (c' : Nat) : Prop where
 addr : a' = (if c = lo.toNat then a else a.map (·.add (lo.toNat * 1)))
 cap : c' = c - lo.toNat
theorem iJ {F : HA} {a : Option Addr} {l : List UInt8} {c : Nat} {lo hi : Int} (I : Rd F a (aB l)) (D : l.length ≤ c) (J : 0 ≤ lo ∧ lo ≤ hi ∧ hi ≤ l.length) :
  ∃ G u, vL a c lo G u ∧ Rd F G (aB (cut l lo hi)) ∧ (cut l lo hi).length ≤ u ∧ u ≤ c :=
 ⟨_, _, ⟨rfl, rfl⟩, I.sub lo hi (c := c) (by omega), by rw [ic J.2.2]; omega, by omega⟩
section
variable {K : Cx} {R S Y : Type} {Q : dw R} {E : Env} {H : List HA} {o : Option R} {ops : Array Oper} {rest : List Oper} {op : Oper}
theorem im {x : Operand} {t e : Nat} {lo hi : Option Operand} {a I : Option Addr} {c J : Nat} {l : List UInt8} {D G : Option Value} {lo' hi' : Int}
  (ho : op.op = .slice t x lo hi none) {n : Nat} (hx : ev E x = some (.slice a n c))
  (hl : lim E lo = some D) (hh : lim E hi = some G) (hu : K.P.underlying t = some (.slice e)) (hs : ∀ w, (sizeOf e).run K.P w = .ok 1 w)
  (h1 : (G = none ∧ hi' = n) ∨ ∃ k, G = some (.int k hi')) (h2 : (D = none ∧ lo' = 0) ∨ ∃ k, D = some (.int k lo')) (hb : 0 ≤ lo' ∧ lo' ≤ hi' ∧ hi' ≤ l.length) (U : l.length ≤ c) (hS : vL a c lo' I J) :
  RQ K op E H (.slice I (cut l lo' hi').length J) := by
 obtain ⟨X, b2, b3⟩ := hb
 obtain ⟨rfl, rfl⟩ := hS
 obtain ⟨L, rfl⟩ := Int.eq_ofNat_of_zero_le X
 obtain ⟨M, rfl⟩ := Int.eq_ofNat_of_zero_le (Int.le_trans X b2)
 have u := ic (l := l) (lo := (L : Int)) (hi := (M : Int)) b3
 simp only [Int.toNat_natCast] at u
 have q := sG (K := K) (H := H) (o := op) (l := L) (h := M) ho hx hl hh hu hs (by rcases h1 with ⟨x, y⟩ | y; exact .inl ⟨x, by omega⟩; exact .inr y) (by rcases h2 with ⟨x, y⟩ | y; exact .inl ⟨x, by omega⟩; exact .inr y) (by omega) (by omega)
 rw [← u] at q
 simpa using q
end
theorem uK {t : Int} (h : 0 ≤ t ∧ t < 256) : [Value.int .u8 t] = aB [dL t] := by simp [aB, ik h.1 h.2]
end Go.Proofs.YtndjkejhacfpdaaGreatDoor

namespace Go.Proofs.YtndjkejhacfpdaaGreatDoor
open Go.RowKit

theorem sm {F : Fence} {n : Nat} {P : Program} {o : Oper} {a : Act} {Q : Exit → Act → World → Prop} {G I : Act → World → Prop} (h : ∀ a w, G a w → I a w) : ∀ r, o.uponIn F n P a G Q r → o.uponIn F n P a I Q r := by
 intro r u
 cases r with
 | ok nxt w' =>
  cases nxt with
  | value v => exact h _ _ u
  | skip => exact h _ _ u
  | defer d => exact h _ _ u
  | enter f args =>
   refine ⟨u.1, u.2.mono ?_⟩
   intro e D x
   cases e with
   | returned v => exact h _ _ x
   | panicked c => exact x
   | outgrown => exact x
  | row row args => exact ⟨u.1, u.2.mono fun v D x => h _ _ x⟩
  | round l f tmps assign body =>
   refine ⟨u.1, u.2.mono ?_⟩
   intro e D x
   cases e with
   | returned v => exact h _ _ x
   | panicked c => exact x
   | outgrown => exact x
  | _ => exact u.elim
 | halt h w' => cases h <;> first | exact u | exact u.elim

def iE (ops : Array Oper) (i : Nat) : List Nat := ((ops[i]?).map fun o => (o.after.toList.filter (Region.binds .any)).map (·.on)).getD []
def eJ (ops : Array Oper) (i : Nat) : Option Nat := (ops[i]?).bind (·.dst)
def gG (u : List (List Nat)) (i : Nat) : List Nat := u.getD i []
def tW (ops : Array Oper) : Bool := (List.range ops.size).all fun i => (iE ops i).all fun p => Nat.blt p i
def wX (ops : Array Oper) (u : List (List Nat)) : Bool := (List.range ops.size).all fun i => (gG u i).all fun p => (iE ops i).any fun q => Nat.beq q p || (gG u q).contains p
theorem pc {ops : Array Oper} (h : tW ops = true) {i p : Nat} (hp : p ∈ iE ops i) : p < i := by
 by_cases hi : i < ops.size
 ·have := List.all_eq_true.1 h i (by simpa using hi)
  have := List.all_eq_true.1 this p hp
  simpa [Nat.blt_eq] using this
 ·have : ops[i]? = none := Array.getElem?_eq_none (by omega)
  simp [iE, this] at hp
theorem qR {ops : Array Oper} {u : List (List Nat)} (I : tW ops = true) (J : wX ops u = true) (X : u.length ≤ ops.size) {L : List Nat} (U : ∀ i, i ∈ L → ∀ p, p ∈ iE ops i → p ∈ L) :
  ∀ i, (∀ p, p ∈ iE ops i → p ∈ L) → ∀ p, p ∈ gG u i → p ∈ L := by
 intro i
 induction i using Nat.strongRecOn with
 | _ i ih =>
  intro hd p hp
  by_cases hi : i < ops.size
  ·have := List.all_eq_true.1 J i (by simpa using hi)
   have := List.all_eq_true.1 this p hp
   obtain ⟨q, G, D⟩ := List.any_eq_true.1 this
   rw [Bool.or_eq_true] at D
   rcases D with e | e
   ·obtain rfl := Nat.eq_of_beq_eq_true e
    exact hd _ G
   ·exact ih q (pc I G) (U q (hd q G)) p (by simpa using e)
  ·have : gG u i = [] := by
    unfold gG
    rw [List.getD_eq_getElem?_getD, List.getElem?_eq_none (by omega)]; rfl
   rw [this] at hp
   cases hp

/-! ### The orders that the edges allow -/
def go' (ops : Array Oper) : Nat → Nat → Array Bool → List Nat
 | 0, _, _ => []
 | fuel + 1, t, listed =>
  let rs := (List.range ops.size).filter fun i =>
   !listed.getD i true && ((ops[i]?).map (·.after.all fun e => !Region.binds .any e || listed.getD e.on false)).getD false
  match rs[t % rs.length]? with
  | some i => i :: go' ops fuel (t / rs.length) (listed.setIfInBounds i true)
  | none => []
theorem za (ops : Array Oper) : ∀ D t u acc, Region.linearise.go .any ops D t u acc = acc.reverse ++ go' ops D t u := by
 intro D
 induction D with
 | zero => intro t u acc; simp [Region.linearise.go, go']
 | succ D ih =>
  intro t u acc
  simp only [Region.linearise.go, go']
  split
  ·rename_i i h
   simp only [h]
   rw [ih]
   simp
  ·rename_i h
   simp only [h]
   simp
theorem vX (ops : Array Oper) (t : Nat) : Region.schedule true ops t = go' ops ops.size t (Array.replicate ops.size false) := by
 simp only [Region.schedule, Bool.true_or, if_true, Region.linearise]
 rw [za]; simp

theorem vY {F : Fence} {n : Nat} {P : Program} {ops : Array Oper} {Q : Exit → Act → World → Prop} (X : List Nat → Act → World → Prop) (ho : tW ops = true)
  (hs : ∀ i o L a w, ops[i]? = some o → i ∉ L → (∀ p, p ∈ iE ops i → p ∈ L) → (∀ i, i ∈ L → ∀ p, p ∈ iE ops i → p ∈ L) → X L a w →
   if Region.wanted o (yielded ops a.tmps) then o.wpIn F n P a w (fun a' w' => X (i :: L) a' w') Q else (∀ f, o.about P w a.eval = some f → F.fn f) ∧ X (i :: L) (a.put o.dst undef) w)
  (he : ∀ L a w, (∀ i, i < ops.size → i ∈ L) → X L a w → Q .normal a w) :
  ∀ I t u (L : List Nat) a w, u.size = ops.size → (∀ i, i < ops.size → (u.getD i false = true ↔ i ∈ L)) → (∀ i, i ∈ L → ∀ p, p ∈ iE ops i → p ∈ L) → (∀ i, i ∈ L → i < ops.size) →
   ((List.range ops.size).filter fun i => !u.getD i false).length ≤ I → X L a w → wpOpsIn F n P ops Q (go' ops I t u) a w := by
 intro I
 induction I with
 | zero =>
  intro t u L a w ab hl hc hb hf hi
  simp only [go', wpOpsIn]
  refine he L a w (fun i hi => ?_) hi
  have h0 : (List.range ops.size).filter (fun i => !u.getD i false) = [] := List.eq_nil_of_length_eq_zero (by omega)
  rw [List.filter_eq_nil_iff] at h0
  have := h0 i (by simpa using hi)
  exact (hl i hi).1 (by simpa using this)
 | succ I ih =>
  intro t u L a w ab hl hc hb hf hi
  simp only [go']
  split
  ·rename_i i h
   have an := List.mem_of_getElem? h
   rw [List.mem_filter] at an
   obtain ⟨hr, D⟩ := an
   have G : i < ops.size := by simpa using hr
   rw [Bool.and_eq_true] at D
   have af : u.getD i true = u.getD i false := by
    simp [Array.getD, ab, G]
   have be : i ∉ L := by
    intro hx
    have := (hl i G).2 hx
    rw [af, this] at D
    simp at D
   have U : ops[i]? = some ops[i] := Array.getElem?_eq_getElem G
   have a1 : ∀ p, p ∈ iE ops i → p ∈ L := by
    intro p hp
    have h2 := D.2
    rw [U] at h2
    simp only [Option.map_some, Option.getD_some] at h2
    simp only [iE, U, Option.map_some, Option.getD_some, List.mem_map, List.mem_filter] at hp
    obtain ⟨e, ⟨br, bs⟩, rfl⟩ := hp
    have h3 := Array.all_eq_true_iff_forall_mem.1 h2 e (by simpa using br)
    rw [bs] at h3
    have al : e.on < ops.size := Nat.lt_trans (pc ho (i := i) (by simp only [iE, U, Option.map_some, Option.getD_some, List.mem_map, List.mem_filter]; exact ⟨e, ⟨br, bs⟩, rfl⟩)) G
    exact (hl _ al).1 (by simpa using h3)
   have J := hs i ops[i] L a w U be a1 hc hi
   have nx : ∀ a' w', X (i :: L) a' w' → wpOpsIn F n P ops Q (go' ops I (t / ((List.range ops.size).filter fun i =>
     !u.getD i true && ((ops[i]?).map (·.after.all fun e => !Region.binds .any e || u.getD e.on false)).getD false).length) (u.setIfInBounds i true)) a' w' := by
    intro a' w' hi'
    refine ih _ _ (i :: L) a' w' (by simp [ab]) ?_ ?_ ?_ ?_ hi'
    ·intro j hj
     simp only [Array.getD_eq_getD_getElem?, Array.getElem?_setIfInBounds]
     by_cases e : i = j
     ·subst e; simp [ab, G]
     ·have b0 := hl j hj
      simp only [Array.getD_eq_getD_getElem?] at b0
      simp [e, b0, Ne.symm e]
    ·intro j hj p hp
     rcases List.mem_cons.1 hj with rfl | hj
     ·exact List.mem_cons_of_mem _ (a1 p hp)
     ·exact List.mem_cons_of_mem _ (hc j hj p hp)
    ·intro j hj
     rcases List.mem_cons.1 hj with rfl | hj
     ·exact G
     ·exact hb j hj
    ·have al : ((List.range ops.size).filter fun j => !(u.setIfInBounds i true).getD j false).length < ((List.range ops.size).filter fun j => !u.getD j false).length := by
      have e1 : ((List.range ops.size).filter fun j => !(u.setIfInBounds i true).getD j false) = ((List.range ops.size).filter fun j => !u.getD j false).filter fun j => !Nat.beq j i := by
       rw [List.filter_filter]
       apply List.filter_congr
       intro j hj
       simp only [Array.getD_eq_getD_getElem?, Array.getElem?_setIfInBounds]
       by_cases e : i = j
       ·subst e; simp [ab, G]
       ·have : Nat.beq j i = false := by rw [Bool.eq_false_iff]; intro x; exact e (Nat.eq_of_beq_eq_true x).symm
        simp [e, this]
      rw [e1]
      have b5 : i ∈ (List.range ops.size).filter fun j => !u.getD j false := by
       rw [List.mem_filter]
       refine ⟨hr, ?_⟩
       rw [← af]; exact D.1
      exact List.length_filter_lt_length_iff_exists.2 ⟨i, b5, by simp⟩
     omega
   simp only [wpOpsIn, U]
   split
   ·rename_i hw
    rw [if_pos hw] at J
    exact ⟨J.1, sm nx _ J.2⟩
   ·rename_i hw
    rw [if_neg hw] at J
    exact ⟨J.1, nx _ _ J.2⟩
  ·rename_i h
   -- nothing is ready: all is done
   refine he L a w (fun i hi => ?_) hi
   have a6 : ((List.range ops.size).filter fun i => !u.getD i true && ((ops[i]?).map (·.after.all fun e => !Region.binds .any e || u.getD e.on false)).getD false) = [] := by
    cases hrs : ((List.range ops.size).filter fun i => !u.getD i true && ((ops[i]?).map (·.after.all fun e => !Region.binds .any e || u.getD e.on false)).getD false) with
    | nil => rfl
    | cons x xs =>
     rw [hrs] at h
     rw [List.getElem?_eq_none_iff] at h
     have := Nat.mod_lt t (show 0 < (x :: xs).length by simp)
     omega
   rw [List.filter_eq_nil_iff] at a6
   -- by induction every operation is listed
   have key : ∀ i, i < ops.size → i ∈ L := by
    intro i
    induction i using Nat.strongRecOn with
    | _ i ih2 =>
     intro hi
     have h1 := a6 i (by simpa using hi)
     refine Classical.byContradiction fun b7 => h1 ?_
     have af : u.getD i true = u.getD i false := by simp [Array.getD, ab, hi]
     have hf : u.getD i false = false := by
      rw [Bool.eq_false_iff]; intro x; exact b7 ((hl i hi).1 x)
     have U : ops[i]? = some ops[i] := Array.getElem?_eq_getElem hi
     rw [af, hf, U]
     simp only [Bool.not_false, Bool.true_and, Option.map_some, Option.getD_some]
     rw [Array.all_eq_true_iff_forall_mem]
     intro e he
     cases hb2 : Region.binds .any e with
     | false => rfl
     | true =>
      have hp : e.on ∈ iE ops i := by
       simp only [iE, U, Option.map_some, Option.getD_some, List.mem_map, List.mem_filter]
       exact ⟨e, ⟨by simpa using he, hb2⟩, rfl⟩
      have al := pc ho hp
      have := (hl _ (by omega)).2 (ih2 _ al (by omega))
      simp [this]
   exact key i hi

/-! ### The region as a step of a simulation -/
def All (l : List Nat) (p : Nat → Prop) : Prop :=
 match l with
 | [] => True
 | i :: l => p i ∧ All l p
theorem All.nil {p : Nat → Prop} : All [] p := trivial
theorem All.cons {l : List Nat} {p : Nat → Prop} {i : Nat} (h : p i) (r : All l p) : All (i :: l) p := ⟨h, r⟩
theorem All.mem {l : List Nat} {p : Nat → Prop} (h : All l p) {i : Nat} (hi : i ∈ l) : p i := by
 induction l with
 | nil => cases hi
 | cons j l ih =>
  rcases List.mem_cons.1 hi with rfl | hi
  ·exact h.1
  ·exact ih h.2 hi
def gK (l : List Nat) (f g : Nat → Value) : Prop :=
 match l with
 | [] => True
 | i :: l => f i = g i ∧ gK l f g
theorem gK.mem {l : List Nat} {f g : Nat → Value} (h : gK l f g) {i : Nat} (hi : i ∈ l) : f i = g i := by
 induction l with
 | nil => cases hi
 | cons j l ih =>
  rcases List.mem_cons.1 hi with rfl | hi
  ·exact h.1
  ·exact ih h.2 hi
def iK (ops : Array Oper) (val : Nat → Value) (E : Env) : List Nat → Env
 | [] => E
 | i :: L => match eJ ops i with
  | some d => (d, val i) :: iK ops val E L
  | none => iK ops val E L
theorem oz {ops : Array Oper} {f g : Nat → Value} {E : Env} : ∀ L, (∀ i, i ∈ L → f i = g i) → iK ops f E L = iK ops g E L
 | [], _ => rfl
 | i :: L, h => by
  simp only [iK]
  rw [oz L (fun j u => h j (List.mem_cons_of_mem _ u)), h i List.mem_cons_self]
def oA (ops : Array Oper) : Bool := (List.range ops.size).all fun i => (List.range ops.size).all fun j => Nat.beq i j || (match eJ ops i, eJ ops j with | some a, some b => !Nat.beq a b | _, _ => true)
theorem xv {ops : Array Oper} (h : oA ops = true) {i j d : Nat} (hi : eJ ops i = some d) (u : eJ ops j = some d) : i = j := by
 have G : i < ops.size := by
  refine Classical.byContradiction fun x => ?_
  have : ops[i]? = none := Array.getElem?_eq_none (by omega)
  simp [eJ, this] at hi
 have I : j < ops.size := by
  refine Classical.byContradiction fun x => ?_
  have : ops[j]? = none := Array.getElem?_eq_none (by omega)
  simp [eJ, this] at u
 have h1 := List.all_eq_true.1 h i (by simpa using G)
 have D := List.all_eq_true.1 h1 j (by simpa using I)
 rw [hi, u, Bool.or_eq_true] at D
 rcases D with e | e
 ·exact Nat.eq_of_beq_eq_true e
 ·have : Nat.beq d d = true := by simp
  simp [this] at e
theorem mI {ops : Array Oper} (hd : oA ops = true) {val : Nat → Value} {E : Env} {p s : Nat} (hp : eJ ops p = some s) : ∀ L, p ∈ L → lk (iK ops val E L) s = some (val p)
 | i :: L, h => by
  simp only [iK]
  cases hi : eJ ops i with
  | none =>
   rcases List.mem_cons.1 h with rfl | h
   ·rw [hi] at hp; cases hp
   ·exact mI hd hp L h
  | some d =>
   simp only [lk]
   cases hb : Nat.beq d s with
   | true =>
    obtain rfl := Nat.eq_of_beq_eq_true hb
    rw [xv hd hi hp]; rfl
   | false =>
    rcases List.mem_cons.1 h with rfl | h
    ·rw [hi] at hp; cases hp; simp at hb
    ·simpa using mI hd hp L h
theorem oB {ops : Array Oper} {val : Nat → Value} {E : Env} {s : Nat} : ∀ L, (∀ i, i ∈ L → eJ ops i ≠ some s) → lk (iK ops val E L) s = lk E s
 | [], _ => rfl
 | i :: L, h => by
  simp only [iK]
  have u := oB (val := val) (E := E) L fun j D => h j (List.mem_cons_of_mem _ D)
  cases hi : eJ ops i with
  | none => exact u
  | some d =>
   simp only [lk]
   have : Nat.beq d s = false := by
    rw [Bool.eq_false_iff]; intro x
    obtain rfl := Nat.eq_of_beq_eq_true x
    exact h i List.mem_cons_self hi
   rw [this]; exact u
inductive dV (ops : Array Oper) (anc : List (List Nat)) (val : Nat → Value) (E : Env) (i : Nat) : Env → Prop
 | nil : dV ops anc val E i []
 | w {l : Env} {s : Nat} {v : Value} (p : Nat) (hp : (gG anc i).contains p = true) (hd : eJ ops p = some s) (hv : val p = v) (r : dV ops anc val E i l) : dV ops anc val E i ((s, v) :: l)
 | o {l : Env} {s : Nat} {v : Value} (h : lk E s = some v) (hw : ((List.range ops.size).all fun q => (match eJ ops q with | some d => !Nat.beq d s | none => true) || Nat.beq q i || (gG anc q).contains i) = true) (r : dV ops anc val E i l) : dV ops anc val E i ((s, v) :: l)
theorem dV.sub {ops : Array Oper} {u : List (List Nat)} {val : Nat → Value} {E : Env} {i : Nat} {I : Env} (h : dV ops u val E i I) (hd : oA ops = true) {L : List Nat} (hi : i ∉ L) (J : ∀ j, j ∈ L → j < ops.size)
  (h1 : ∀ p, p ∈ gG u i → p ∈ L) (U : ∀ q, q ∈ L → ∀ p, p ∈ gG u q → p ∈ L) : Sub I (iK ops val E L) := by
 induction h with
 | nil => trivial
 | w p hp hdst hv r ih => exact ⟨by rw [mI hd hdst L (h1 p (by simpa using hp)), hv], ih⟩
 | @o l s v h hw r ih =>
  refine ⟨?_, ih⟩
  rw [oB L fun q D => ?_]
  ·exact h
  ·intro G
   have := List.all_eq_true.1 hw q (by simpa using J q D)
   rw [G] at this
   simp only [Bool.or_eq_true, Bool.not_eq_true', Nat.beq_eq] at this
   rcases this with (e | e) | e
   ·simp at e
   ·have e := Nat.eq_of_beq_eq_true (by simpa using e); subst e; exact hi D
   ·exact hi (U q D i (by simpa using e))
section
variable {K : Cx} {R S Y : Type} {Q : dw R} {E : Env} {H : List HA} {o : Option R}
def QOb (K : Cx) (ops : Array Oper) (I : List (List Nat)) (val : Nat → Value) (E : Env) (H : List HA) (i : Nat) : Prop :=
 ∃ D, ops[i]? = some D ∧ ∃ G, dV ops I val E i G ∧
  ((D.guard = none ∧ RQ K D G H (val i)) ∨
   (∃ j u dj, D.guard = some (j, u) ∧ eJ ops j = some dj ∧ ((∃ b v, lk G dj = some (.bool b) ∧ val i = cv (b == u) v ∧ ((b == u) = true → RQ K D G H v)) ∨ (lk G dj = some undef ∧ val i = undef))))
theorem QOb.plain {ops : Array Oper} {u : List (List Nat)} {val : Nat → Value} {i : Nat} {D : Oper} {v : Value} (G : Env) (I : ops[i]? = some D) (J : D.guard = none) (L : dV ops u val E i G) (h : RQ K D G H v) (U : val i = v) : QOb K ops u val E H i :=
 ⟨D, I, G, L, .inl ⟨J, by rw [U]; exact h⟩⟩
theorem QOb.grd {ops : Array Oper} {D : List (List Nat)} {val : Nat → Value} {i j dj : Nat} {u b : Bool} {v : Value} {G : Oper} (I : Env) (J : ops[i]? = some G) (L : G.guard = some (j, u)) (U : eJ ops j = some dj) (X : lk I dj = some (.bool b))
  (he : dV ops D val E i I) (h : (b == u) = true → RQ K G I H v) (hv : val i = cv (b == u) v) : QOb K ops D val E H i :=
 ⟨G, J, I, he, .inr ⟨j, u, dj, L, U, .inl ⟨b, v, X, hv, h⟩⟩⟩
def GOk (ops : Array Oper) (D : Oper) (G : Env) : Prop :=
 D.guard = none ∨ ∃ j u dj b, D.guard = some (j, u) ∧ eJ ops j = some dj ∧ lk G dj = some (.bool b) ∧ (b == u) = true
def EOb (K : Cx) (ops : Array Oper) (u : List (List Nat)) {Γ : Type} (val : Γ → Nat → Value) (E : Env) (heap : Nat → Γ → List HA) (m i : Nat) (pre : List Nat) (γ : Γ) : Prop :=
 ∃ D, ops[i]? = some D ∧ ∃ G, dV ops u (val γ) E i G ∧ GOk ops D G ∧
  RE K (Y := { γ' : Γ // gK pre (val γ') (val γ) }) D G (heap m γ) (fun γ' => val γ'.1 i) (fun γ' => heap (m + 1) γ'.1)
theorem EOb.gen {ops : Array Oper} {u : List (List Nat)} {Γ Z : Type} {val : Γ → Nat → Value} {heap : Nat → Γ → List HA} {m i : Nat} {pre : List Nat} {γ : Γ} {D : Oper} {v : Z → Value} {H' : Z → List HA} (G : Env) (f : Z → Γ) (I : ops[i]? = some D) (J : GOk ops D G) (L : dV ops u (val γ) E i G)
  (h : RE K (Y := Z) D G (heap m γ) v H') (U : ∀ z, gK pre (val (f z)) (val γ)) (X : ∀ z, D.dst = none ∨ v z = val (f z) i) (hH : ∀ z, Ent (H' z) (heap (m + 1) (f z))) : EOb K ops u val E heap m i pre γ :=
 ⟨D, I, G, L, J, fun a w hh hs next Q hn => h a w hh hs next Q fun z w' s => by
  have := hn ⟨f z, U z⟩ w' (s.ent (hH z))
  rcases X z with e | e
  ·rw [e] at this ⊢; exact this
  ·rw [e]; exact this⟩
theorem EOb.mk {ops : Array Oper} {u : List (List Nat)} {Γ Z : Type} {val : Γ → Nat → Value} {heap : Nat → Γ → List HA} {m i : Nat} {pre : List Nat} {γ : Γ} {D : Oper} {v : Z → Value} {H' : Z → List HA} (G : Env) (f : Z → Γ) (I : ops[i]? = some D) (J : D.guard = none) (L : dV ops u (val γ) E i G)
  (h : RE K (Y := Z) D G (heap m γ) v H') (U : ∀ z, gK pre (val (f z)) (val γ)) (X : ∀ z, D.dst = none ∨ v z = val (f z) i) (hH : ∀ z, Ent (H' z) (heap (m + 1) (f z))) : EOb K ops u val E heap m i pre γ :=
 EOb.gen G f I (.inl J) L h U X hH
theorem EOb.yes {ops : Array Oper} {D : List (List Nat)} {Γ Z : Type} {val : Γ → Nat → Value} {heap : Nat → Γ → List HA} {m i : Nat} {pre : List Nat} {γ : Γ} {j dj : Nat} {u b : Bool} {G : Oper} {v : Z → Value} {H' : Z → List HA} (I : Env) (f : Z → Γ) (J : ops[i]? = some G) (L : G.guard = some (j, u)) (U : eJ ops j = some dj) (X : lk I dj = some (.bool b)) (hw : (b == u) = true) (he : dV ops D (val γ) E i I)
  (h : RE K (Y := Z) G I (heap m γ) v H') (ha : ∀ z, gK pre (val (f z)) (val γ)) (hv : ∀ z, G.dst = none ∨ v z = val (f z) i) (hH : ∀ z, Ent (H' z) (heap (m + 1) (f z))) : EOb K ops D val E heap m i pre γ :=
 EOb.gen I f J (.inr ⟨j, u, dj, b, L, U, X, hw⟩) he h ha hv hH
def uO (ops : Array Oper) (u : List (List Nat)) (i : Nat) (pre : List Nat) : Bool := (List.range ops.size).all fun q => pre.contains q || Nat.beq q i || (gG u q).contains i
def xw (ops : Array Oper) (D : List (List Nat)) (u : List Nat) (i : Nat) (rng : List Nat) : Bool :=
 (List.range (u.length + 1)).all fun j => rng.contains j || (u.zipIdx.any fun G => ((gG D i).contains G.1 && Nat.ble j G.2) || ((gG D G.1).contains i && Nat.blt G.2 j))
def xx (D : List (List Nat)) (u : List Nat) : Bool := (u.zipIdx.all fun a => u.zipIdx.all fun b => Nat.ble b.2 a.2 || (gG D b.1).contains a.1)
theorem vZ {ops : Array Oper} (hd : oA ops = true) {val : Nat → Value} {E : Env} {L u : List Nat} (h : ∀ i, i < ops.size → i ∈ L) (G : ∀ i, i < ops.size → i ∈ u) (s : Nat) : lk (iK ops val E L) s = lk (iK ops val E u) s := by
 by_cases hw : ∃ p, eJ ops p = some s
 ·obtain ⟨p, hp⟩ := hw
  have D : p < ops.size := by
   refine Classical.byContradiction fun x => ?_
   have : ops[p]? = none := Array.getElem?_eq_none (by omega)
   simp [eJ, this] at hp
  rw [mI hd hp L (h p D), mI hd hp u (G p D)]
 ·rw [oB L fun i _ e => hw ⟨i, e⟩, oB u fun i _ e => hw ⟨i, e⟩]
theorem Sub.congr {E E' : Env} (h : ∀ s, lk E s = lk E' s) : ∀ {D : Env}, Sub D E → Sub D E'
 | [], _ => trivial
 | (i, v) :: D, ⟨x, y⟩ => ⟨by rw [← h]; exact x, Sub.congr h y⟩
theorem oC {ops : Array Oper} {i : Nat} {o : Oper} (h : ops[i]? = some o) : i < ops.size := (Array.getElem?_eq_some_iff.1 h).1
theorem xy {n : Nat} {ds : List Deferred} {ops : Array Oper} {D : Oper} {G : Env} {a : Act} (h : Has n ds G a) (u : GOk ops D G) : Region.wanted D (yielded ops a.tmps) = true := by
 rcases u with u | ⟨j, I, dj, b, u, J, L, U⟩
 ·simp [Region.wanted, u]
 ·rw [jY h u J L]; exact U
theorem bi {Γ : Type} {id : Nat} {l : List Oper} (γ0 : Γ) (U : List (List Nat)) (u G : List Nat) (rng : Nat → List Nat) (pre : Nat → List Nat) (val : Γ → Nat → Value) (heap : Nat → Γ → List HA) (E2 : Γ → Env)
  (cd : K.P.follows .mixedOrders = true)
  (b2 : tW l.toArray = true) (b0 : wX l.toArray U = true) (d7 : Nat.ble U.length l.length = true) (an : oA l.toArray = true) (be : xx U u = true)
  (ch : ((List.range l.length).all fun i => u.contains i || G.contains i) = true) (d8 : (u.zipIdx.all fun a => u.zipIdx.all fun b => Nat.beq a.2 b.2 || !Nat.beq a.1 b.1) = true)
  (nn : Nat) (d9 : K.n = nn) (ea : ((List.range l.length).all fun i => match eJ l.toArray i with | some d => Nat.blt d nn | none => true) = true)
  (c0 : (G.all fun i => xw l.toArray U u i (rng i)) = true)
  (b3 : (u.all fun i => uO l.toArray U i (pre i)) = true)
  (h0 : Ent H (heap 0 γ0))
  (hq : All G fun i => ∀ γ, All (rng i) fun j => QOb K l.toArray U (val γ) E (heap j γ) i)
  (he : All (List.range u.length) fun m => ∀ γ, EOb K l.toArray U val E heap m (u.getD m 0) (pre (u.getD m 0)) γ)
  (hE : ∀ γ, Sub (E2 γ) (iK l.toArray (val γ) E (List.range l.length).reverse))
  (h : ∀ γ, Nrm K Q (E2 γ) (heap u.length γ) o) : Sim K Q (.region id l.toArray true) E H o := by
 intro r hr a w hh hs
 refine wpIn_region_draw (fun t => ?_)
 rw [cd, vX]
 have c3 : l.toArray.size = l.length := by simp
 have b1 : U.length ≤ l.toArray.size := by rw [c3]; simpa [Nat.ble_eq] using d7
 refine vY (F := fen K.ro) (n := 0) (P := K.P) (Q := Q r)
  (fun L a w => ∃ γ j, j ≤ u.length ∧ (∀ i, i ∈ L → i < l.toArray.size) ∧ (∀ m e, u[m]? = some e → (e ∈ L ↔ m < j)) ∧ Has K.n K.ds (iK l.toArray (val γ) E L) a ∧ Sat K.W (heap j γ) w)
  b2 ?_ ?_ l.toArray.size t (Array.replicate l.toArray.size false) [] a { w with drawn := w.drawn + 1 } (by simp) (by intro i hi; simp only [Array.getD_eq_getD_getElem?, Array.getElem?_replicate]; split <;> simp) (by intro i hi; cases hi) (by intro i hi; cases hi)
  (by refine Nat.le_trans (List.length_filter_le _ _) (by simp)) ⟨γ0, 0, Nat.zero_le _, (by intro i hi; cases hi), (by intro m e _; simp), hh, (hs.drew _).ent h0⟩
 ·-- a step
  rintro i op L a w hoi hno hpre hcl ⟨γ, j, hj, hb, ab, D, I⟩
  have hi : i < l.toArray.size := oC hoi
  have c6 : i < l.length := by rwa [c3] at hi
  have h1 : ∀ p, p ∈ gG U i → p ∈ L := qR b2 b0 b1 hcl i hpre
  have h2 : ∀ q, q ∈ L → ∀ p, p ∈ gG U q → p ∈ L := fun q hq => qR b2 b0 b1 hcl q (hcl q hq)
  have a6 : ∀ q, q ∈ i :: L → q < l.toArray.size := by
   intro q hq
   rcases List.mem_cons.1 hq with rfl | hq
   ·exact hi
   ·exact hb q hq
  have ad : ∀ (γ' : Γ) (a' : Act) (v : Value), Has K.n K.ds (iK l.toArray (val γ') E L) a' → v = val γ' i ∨ op.dst = none → Has K.n K.ds (iK l.toArray (val γ') E (i :: L)) (a'.put op.dst v) := by
   intro γ' a' v hx hv
   simp only [iK, eJ, hoi, Option.bind_some]
   cases hd : op.dst with
   | none => exact hx
   | some d =>
    rcases hv with rfl | hv
    ·refine hx.put _ ?_
     have := List.all_eq_true.1 ea i (by simpa using c6)
     rw [d9]
     simpa [eJ, hoi, hd] using this
    ·rw [hd] at hv; cases hv
  by_cases hef : i ∈ u
  ·obtain ⟨m, hm⟩ := List.mem_iff_getElem?.1 hef
   have c7 : m < u.length := (List.getElem?_eq_some_iff.1 hm).1
   have ec : j = m := by
    have c1 : ¬ m < j := fun x => hno ((ab m i hm).2 x)
    refine Classical.byContradiction fun b4 => ?_
    have c2 : j < m := by omega
    have a7 : u[j]? = some (u[j]'(by omega)) := List.getElem?_eq_getElem (by omega)
    have br := List.all_eq_true.1 be (u[j]'(by omega), j) (by rw [List.mem_zipIdx_iff_getElem?]; exact a7)
    have br := List.all_eq_true.1 br (i, m) (by rw [List.mem_zipIdx_iff_getElem?]; exact hm)
    rw [Bool.or_eq_true] at br
    rcases br with e | e
    ·have := Nat.le_of_ble_eq_true e; simp at this; omega
    ·have := h1 _ (by simpa using e)
     have := (ab j _ a7).1 this
     omega
   subst ec
   have ed : u.getD j 0 = i := by rw [List.getD_eq_getElem?_getD, hm]; rfl
   obtain ⟨c8, X, Ei, bs, hg, c9⟩ := he.mem (i := j) (by simpa using c7) γ
   rw [ed] at X bs c9
   rw [hoi] at X
   cases X
   have J : Has K.n K.ds Ei a := D.sub (bs.sub an hno hb h1 h2)
   rw [if_pos (xy J hg)]
   refine c9 a w J I _ _ ?_
   rintro ⟨γ', ee⟩ w' s'
   refine ⟨γ', j + 1, c7, a6, ?_, ?_, s'⟩
   ·intro m' e' a8
    rw [List.mem_cons]
    by_cases hmm : m' = j
    ·subst hmm
     rw [hm] at a8; cases a8
     simp
    ·have b4 : e' ≠ i := by
      intro x
      rw [x] at a8
      have x1 := List.all_eq_true.1 d8 (i, j) (by rw [List.mem_zipIdx_iff_getElem?]; exact hm)
      have x1 := List.all_eq_true.1 x1 (i, m') (by rw [List.mem_zipIdx_iff_getElem?]; exact a8)
      rw [Bool.or_eq_true] at x1
      rcases x1 with y | y
      ·exact hmm (Nat.eq_of_beq_eq_true y).symm
      ·simp at y
     rw [ab m' e' a8]
     constructor
     ·rintro (x | x)
      ·exact absurd x b4
      ·omega
     ·intro x; right; omega
   ·refine ad γ' a _ ?_ (.inl rfl)
    rw [oz (f := val γ') (g := val γ) L fun q hq => ?_]
    ·exact D
    ·refine ee.mem ?_
     have eg := List.all_eq_true.1 b3 i (by simpa using hef)
     have := List.all_eq_true.1 eg q (by simpa using hb q hq)
     rw [Bool.or_eq_true, Bool.or_eq_true] at this
     rcases this with (e | e) | e
     ·simpa using e
     ·obtain rfl := Nat.eq_of_beq_eq_true e
      exact absurd hq hno
     ·exact absurd (h2 q hq i (by simpa using e)) hno
  ·have dz : i ∈ G := by
    have := List.all_eq_true.1 ch i (by simpa using c6)
    rw [Bool.or_eq_true] at this
    rcases this with e | e
    ·exact absurd (by simpa using e) hef
    ·simpa using e
   have ei : j ∈ rng i := by
    have := List.all_eq_true.1 c0 i dz
    have := List.all_eq_true.1 this j (by simp; omega)
    rw [Bool.or_eq_true] at this
    rcases this with e | e
    ·simpa using e
    ·obtain ⟨⟨e, m⟩, bc, hc⟩ := List.any_eq_true.1 e
     rw [List.mem_zipIdx_iff_getElem?] at bc
     rw [Bool.or_eq_true, Bool.and_eq_true, Bool.and_eq_true] at hc
     rcases hc with ⟨x, y⟩ | ⟨x, y⟩
     ·have hx := h1 e (by simpa using x)
      have := (ab m e bc).1 hx
      have := Nat.le_of_ble_eq_true y
      simp at this; omega
     ·have hy : m < j := by simpa [Nat.blt_eq] using y
      have el := (ab m e bc).2 hy
      exact absurd (h2 e el i (by simpa using x)) hno
   obtain ⟨c8, X, Ei, bs, b5⟩ := (hq.mem dz γ).mem ei
   rw [hoi] at X
   cases X
   have J : Has K.n K.ds Ei a := D.sub (bs.sub an hno hb h1 h2)
   have af : ∀ m e, u[m]? = some e → (e ∈ i :: L ↔ m < j) := by
    intro m e d1
    rw [List.mem_cons, ab m e d1]
    constructor
    ·rintro (x | x)
     ·subst x
      exact absurd (List.mem_of_getElem? d1) hef
     ·exact x
    ·exact fun x => .inr x
   rcases b5 with ⟨hg, b6⟩ | ⟨jg, d2, dj, hg, d3, em⟩
   ·rw [if_pos (by simp [Region.wanted, hg])]
    refine b6 a w J I _ _ fun w' s' => ⟨γ, j, hj, a6, af, ad γ a _ D (.inl rfl), s'⟩
   ·rcases em with ⟨b, v, en, al, b6⟩ | ⟨hu, al⟩
    ·rw [jY J hg d3 en]
     cases hbw : (b == d2) with
     | true =>
      rw [hbw] at al
      simp only [if_true]
      refine b6 hbw a w J I _ _ fun w' s' => ⟨γ, j, hj, a6, af, ad γ a _ D (.inl al.symm), s'⟩
     | false =>
      rw [hbw] at al
      simp only [Bool.false_eq_true, if_false]
      exact ⟨fun f _ => gO _ _, γ, j, hj, a6, af, ad γ a _ D (.inl al.symm), I⟩
    ·have er : Region.wanted op (yielded l.toArray a.tmps) = false := by
      simp only [Region.wanted, hg, yielded]
      rw [show ((l.toArray)[jg]?.bind (·.dst)) = some dj from d3]
      simp [J.get _ _ hu, undef]
     rw [er]
     simp only [Bool.false_eq_true, if_false]
     exact ⟨fun f _ => gO _ _, γ, j, hj, a6, af, ad γ a _ D (.inl al.symm), I⟩
 ·-- the end
  rintro L a w hL ⟨γ, j, hj, hb, ab, D, I⟩
  have et : j = u.length := by
   refine Classical.byContradiction fun b4 => ?_
   have b7 : j < u.length := by omega
   have a7 : u[j]? = some (u[j]'b7) := List.getElem?_eq_getElem b7
   obtain ⟨c8, X, _⟩ := he.mem (i := j) (by simpa using b7) γ
   rw [List.getD_eq_getElem?_getD, a7] at X
   have := (ab j _ a7).1 (hL _ (oC X))
   omega
  subst et
  refine h γ r hr a w (D.sub ((hE γ).congr fun s => ?_)) I
  exact vZ an (fun i hi => by simpa using hi) hL s
end
end Go.Proofs.YtndjkejhacfpdaaGreatDoor

namespace Go.Proofs.YtndjkejhacfpdaaGreatDoor
open Go.RowKit

/-! ### 1. Marks -/
def mkD (D : Nat) : Deferred := { target := .collected D, args := #[] }
def iT (D : Nat) : HA := pts D (.deferred (some []))
theorem sM {P : Program} {fn : Func} {tmps : Array Value} {R : Ending → World → Prop} {W : World} {B : List HA}
  (G : ∀ w, Sat W B w → ∃ v, (results fn tmps).run P w = .ok v w ∧ R (.returned v) w) : ∀ (u : List Nat) (w : World), Sat W (u.map iT ++ B) w → LeavesInM Fence.wide 0 P fn tmps R (u.map mkD) .returning w
 | [], w, s => G w s
 | D :: u, w, s => ⟨by simp, .inl ⟨D, _, rfl, run_takeDeferred (s.pts_at (i := 0) rfl), sM G u _ ((s.upd (b := D) (o' := .deferred none)).ent (Ent.drop (Ent.refl _)))⟩⟩
def tX (K : Cx) {R Y : Type} (fn : Func) (val : R → Y → Value) (B : R → Y → List HA) : dw R := fun r e a w =>
 bodyPostM Fence.wide 0 K.P fn (fun e u => ∃ y, e = .returned (val r y) ∧ Sat K.W (B r y) u) e a w
section
variable {K : Cx} {R S Y : Type} {Q : dw R} {E : Env} {H : List HA} {o : Option R}
theorem yC {fn : Func} {val : R → Y → Value} {B : R → Y → List HA} {r : R} {vs : List Value} (G : List Nat) (y : Y) (hd : K.ds = G.map mkD) (u : kk fn.results.toList E = some vs) (J : tup vs = val r y) (L : Ent H (G.map iT ++ B r y)) :
  ∀ D, some r = some D → ∀ a w, Has K.n K.ds E a → Sat K.W H w → LeavesInM Fence.wide 0 K.P fn a.tmps (fun e U => ∃ y, e = .returned (val D y) ∧ Sat K.W (B D y) U) a.defers .returning w := by
 intro D X a w I hs
 cases X
 rw [I.defers, hd]
 exact sM (B := B r y) (fun w s => ⟨_, oq I u, y, by rw [J], s⟩) G w (hs.ent L)
theorem xp {fn : Func} {val : R → Y → Value} {B : R → Y → List HA} {r : R} {vs : List Value} (D : List Nat) (y : Y) (hd : K.ds = D.map mkD) (u : kk fn.results.toList E = some vs) (G : tup vs = val r y) (I : Ent H (D.map iT ++ B r y)) :
  Nrm K (tX K fn val B) E H (some r) := fun J L a w U X => yC D y hd u G I J L a w U X
theorem ni {fn : Func} {val : R → Y → Value} {B : R → Y → List HA} {r : R} {vs : List Value} (D : List Nat) (y : Y) (hd : K.ds = D.map mkD) (u : kk fn.results.toList E = some vs) (G : tup vs = val r y) (I : Ent H (D.map iT ++ B r y)) :
  Rtn K (tX K fn val B) E H (some r) := fun J L a w U X => yC D y hd u G I J L a w U X
theorem pw {P : Program} {W : World} {f : FuncId} {args : List Value} {A : List HA} {F : HA} {o : Option R} {val : R → Y → Value} {B : R → Y → List HA}
  {fn : Func} {c : Code} (n : Nat) (u : P.funcs[f]? = some fn) (D : fn.body = some c) (G : fn.ntmps = n) (I : Nat.ble args.length n = true)
  (h : Sim ⟨P, W, none, n, []⟩ (tX ⟨P, W, none, n, []⟩ fn val fun r y => B r y ++ [F]) c (lT 0 args) (A ++ [F]) o) : Fn P W f args A F o val B := by
 intro r J w L
 refine (callsIn_wide (n := 0)).1 (callsIn_of_wp_marks u D trivial ?_ rfl)
 have := h r J _ w (lU args n (by simpa [Nat.ble_eq] using I)) L
 rw [G]
 exact this
end

/-! ### 2. Rounds and iterators -/
def kR {α S : Type} (u : S → α → Option S) : S → List α → Option S
 | s, [] => some s
 | s, x :: xs => (u s x).bind fun D => kR u D xs
def kJ (ps : List Nat) (vs : List Value) (t : Array Value) : Array Value := (ps.zip vs).foldl (fun tmps (t, a) => tmps.setIfInBounds t a) t
theorem px (ps : Array Nat) (vs : List Value) (t : Array Value) : (ps.zip vs.toArray).foldl (fun tmps (t, a) => tmps.setIfInBounds t a) t = kJ ps.toList vs t := by
 unfold kJ
 rw [← Array.foldl_toList]
 simp
def pe (P : Program) (W : World) (l : Nat) (rec : Loop) {α S Y : Type} (enc : α → List Value) (u : S → α → Option S) (D : S → Y → List HA) : Prop :=
 ∀ s x G y (Fr : HA) w, u s x = some G → Sat W (pts l (.loop rec) :: (D s y ++ [Fr])) w →
  RoundIn Fence.wide 0 P l rec.fn (kJ rec.params.toList (enc x) rec.tmps) rec.assign rec.body w fun e I => e = .returned (.bool true) ∧ ∃ J, Sat W (pts l (.loop rec) :: (D G J ++ [Fr])) I
def nh (P : Program) (W : World) (l : Nat) {α S Y : Type} (enc : α → List Value) (u : S → α → Option S) (A : S → Y → HA) : Prop :=
 ∀ s x D y (Fr : HA) w, u s x = some D → Sat W [A s y, Fr] w → ∃ f tmps assign body, (Instr.yield l (enc x).toArray).run P w = .ok (.round l f tmps assign body) w ∧
  RoundIn Fence.wide 0 P l f tmps assign body w fun e G => e = .returned (.bool true) ∧ ∃ I, Sat W [A D I, Fr] G
def itA (l : Nat) (rec : Loop) {S Y : Type} (u : S → Y → List HA) (s : S) (y : Y) : HA := aS (pts l (.loop rec) :: u s y)
theorem uQ (L : List HA) (Fr : HA) : Ent (L ++ [Fr]) [aS L, Fr] := fun h s =>
 (cz [aS L] [Fr] h).2 (cj h (fun _ x => jp x) (fun _ x => x) ((cz _ _ h).1 s))
theorem ma (L m : List HA) : Ent (aS L :: m) (L ++ m) := fun h s => (cz _ _ h).2 s
theorem tY {P : Program} {W : World} {l : Nat} {rec : Loop} {α S Y : Type} {enc : α → List Value} {D : S → α → Option S} {u : S → Y → List HA} (U : pe P W l rec enc D u) (hp : ∀ x, (enc x).length = rec.params.size) :
  nh P W l enc D (itA l rec u) := by
 intro s x I y Fr w X G
 have J : Sat W (pts l (.loop rec) :: (u s y ++ [Fr])) w := G.ent (ma _ _)
 refine ⟨_, _, _, _, by rw [run_yield (J.pts_at (i := 0) rfl) (by simpa using hp x), px], ?_⟩
 refine RoundIn.mono (U s x I y Fr w X J) ?_
 rintro e w' ⟨h1, L, s3⟩
 exact ⟨h1, L, s3.ent (uQ (pts l (.loop rec) :: u I L) Fr)⟩
theorem mb (A : HA) (I : List HA) (Fr : HA) : Ent (A :: (I ++ [Fr])) (I ++ [aS [A, Fr]]) := fun h s => by
 refine (cz _ _ h).2 ?_
 have s : bb A (aS (I ++ [Fr])) h := s
 have u : bb A (bb (aS I) (aS [Fr])) h := cj h (fun _ x => x) (fun h x => (cz _ _ h).1 x) s
 rw [← bj, ej A, bj] at u
 exact cj h (fun _ x => x) (fun h x => jp x) u
theorem ks (A : HA) (I : List HA) (Fr : HA) : Ent (I ++ [aS [A, Fr]]) (A :: (I ++ [Fr])) := fun h s => by
 have s := (cz _ _ h).1 s
 have u : bb (aS I) (bb A (aS [Fr])) h := cj h (fun _ x => x) (fun h (x : bb (aS [A, Fr]) tt h) => by
  rw [ej] at x
  exact eP [A, Fr] tt h x) s
 rw [← bj, ej _ A, bj] at u
 exact cj h (fun _ x => x) (fun h x => (cz _ _ h).2 x) u
def mK : List Nat → List Value → Env → Env
 | p :: ps, v :: vs, E => mK ps vs ((p, v) :: E)
 | _, _, E => E
theorem qV : ∀ (ps : List Nat) (vs : List Value) {n : Nat} {E : Env} {t : Array Value}, (∀ p ∈ ps, p < n) → ps.length = vs.length → Has n [] E { tmps := t, defers := [] } → Has n [] (mK ps vs E) { tmps := kJ ps vs t, defers := [] }
 | [], [], n, E, t, _, _, h => by simpa [mK, kJ] using h
 | p :: ps, v :: vs, n, E, t, hp, hl, h => by
  have u : Has n [] ((p, v) :: E) { tmps := t.setIfInBounds p v, defers := [] } := h.put v (by simpa [Nat.blt_eq] using hp p (by simp))
  have := qV ps vs (fun q D => hp q (by simp [D])) (by simpa using hl) u
  simpa [mK, kJ] using this
 | [], _ :: _, _, _, _, _, hl, _ => by simp at hl
 | _ :: _, [], _, _, _, _, hl, _ => by simp at hl
section
variable {K : Cx} {R S Y α : Type} {Q : dw R} {E : Env} {H : List HA} {o : Option R}
theorem tZ {W : World} {P : Program} {n : Nat} {l : Nat} {rec : Loop} {ps : List Nat} {enc : α → List Value} {D : S → α → Option S} {u : S → Y → List HA} (Eb : S → α → Y → Env) {a : Act} {ds : List Deferred}
  (he : Has n ds E a) (h1 : rec.tmps = a.tmps) (h2 : rec.params = ps.toArray) (I : rec.state = .ready) (h4 : rec.pending = none) (J : ∀ p ∈ ps, p < n) (L : ∀ x, ps.length = (enc x).length)
  (hA : ∀ s x y Fr, Sim ⟨P, W, some l, n, []⟩ (jw ⟨P, W, some l, n, []⟩ (fun (_ : Unit) (_ : Unit) => Eb s x y) (fun _ _ => u s y ++ [Fr])) rec.assign (mK ps (enc x) E) (u s y ++ [Fr]) (some ()))
  (hB : ∀ s x y Fr, Sim ⟨P, W, some l, n, []⟩ (jw ⟨P, W, some l, n, []⟩ (fun (_ : S) (_ : Y) => []) (fun s y => u s y ++ [Fr])) rec.body (Eb s x y) (u s y ++ [Fr]) (D s x)) :
  pe P W l rec enc D u := by
 intro s x s' y Fr w U hs
 refine roundIn_of_wpIn trivial ?_
 have h0 : Has n [] E { tmps := rec.tmps, defers := [] } := ⟨by rw [h1]; exact he.size, rfl, fun i v h => by rw [h1]; exact he.get i v h⟩
 have X := qV ps (enc x) J (L x) h0
 have e2 : rec.params.toList = ps := by rw [h2]
 rw [e2]
 refine wpIn_mono (hA s x y (aS [pts l (.loop rec), Fr]) () rfl _ w X (hs.ent (mb _ _ _))) ?_
 intro e a1 w1 G
 cases e with
 | normal =>
  obtain ⟨_, x1, x2⟩ := G
  have x3 := x2.ent (ks _ _ _)
  have hl := x3.pts_at (i := 0) rfl
  refine ⟨_, run_beginRound hl I, ?_⟩
  have x4 : Sat W (pts l (.loop { rec with state := .busy }) :: (u s y ++ [Fr])) (w1.putObj l (.loop { rec with state := .busy })) := x3.upd
  refine wpIn_mono (hB s x y _ s' U a1 _ x1 (x4.ent (mb _ _ _))) ?_
  intro e a2 w2 G
  cases e with
  | normal =>
   obtain ⟨y', _, z2⟩ := G
   have z3 := z2.ent (ks _ _ _)
   have ad := z3.pts_at (i := 0) rfl
   refine ⟨_, _, run_endRound none ad, rfl, y', ?_⟩
   have z4 : Sat W (pts l (.loop rec) :: (u s' y' ++ [Fr])) (w2.putObj l (.loop rec)) := z3.upd
   have er : ({ ({ rec with state := .busy } : Loop) with state := if (none : Option Code).isNone then .ready else .done, pending := none } : Loop) = rec := by
    cases rec
    simp at I h4 ⊢
    exact ⟨I.symm, h4.symm⟩
   have af : w2.putObj l (.loop rec) = w2.putObj l (.loop ({ ({ rec with state := .busy } : Loop) with state := if (none : Option Code).isNone then .ready else .done, pending := none } : Loop)) := by rw [er]
   rw [af] at z4
   exact z4
  | _ => exact G.elim
 | _ => exact G.elim
theorem uJ {R' Y' : Type} {g : Operand} {ps : List Nat} {assign body : Code} {f : FuncId} {cap : List Value} {Cap rst : List HA} {CapB : R' → Y' → List HA} {enc : α → List Value} {o2 : R' → Option R} {oN : Option R'} {val : R' → Y' → Value}
  {I : S → α → Option S} (G : S → Y → List HA) (s0 : S) (J : Y) (Eb : S → α → Y → Env) (L : R' → S) (U : R' → Y' → Y) (a8 : K.ro = none) (hg : ev E g = some (.func (.func f) #[] cap.toArray))
  (hf : ∀ args w, (callFunc f args).run K.P w = .ok (.enter f args) w)
  (it : ∀ l (A : S → Y → HA), nh K.P K.W l enc I A → ∀ X, Fn K.P K.W f (.func (.yield l) #[] #[] :: cap) (A s0 J :: Cap) (aS (X :: rst)) oN val (fun r y => A (L r) (U r y) :: CapB r y))
  (ab : ps.all (fun p => Nat.blt p K.n) = true) (ad : ∀ x, ps.length = (enc x).length)
  (hH : Ent H (G s0 J ++ (Cap ++ rst)))
  (hA : ∀ l s x y Fr, Sim ⟨K.P, K.W, some l, K.n, []⟩ (jw ⟨K.P, K.W, some l, K.n, []⟩ (fun (_ : Unit) (_ : Unit) => Eb s x y) (fun _ _ => G s y ++ [Fr])) assign (mK ps (enc x) E) (G s y ++ [Fr]) (some ()))
  (hB : ∀ l s x y Fr, Sim ⟨K.P, K.W, some l, K.n, []⟩ (jw ⟨K.P, K.W, some l, K.n, []⟩ (fun (_ : S) (_ : Y) => []) (fun s y => G s y ++ [Fr])) body (Eb s x y) (G s y ++ [Fr]) (I s x))
  (h : ∀ D r y, Nrm { K with ds := mkD D :: K.ds } Q E (iT D :: (G (L r) (U r y) ++ (CapB r y ++ rst))) (o2 r)) :
  Sim K Q (.rangeFunc g ps.toArray assign body) E H (oN.bind o2) := by
 intro r hr a w he hs
 have bc : ∀ p ∈ ps, p < K.n := fun p hp => by simpa [Nat.blt_eq] using List.all_eq_true.1 ab p hp
 cases hfo : oN with
 | none => rw [hfo] at hr; cases hr
 | some rN =>
 rw [hfo] at hr
 rw [a8]
 refine wpIn_rangeFunc fun fn _ => ?_
 have be := hs.new (.deferred (some []))
 have al := be.new (.loop { state := .ready, pending := none, fn := fn, tmps := a.tmps, params := ps.toArray, assign := assign, body := body, defers := w.heap.size })
 have hz : ({ w with heap := w.heap.push (.deferred (some [])) } : World).heap.size = w.heap.size + 1 := by simp
 rw [hz] at al
 let u : Loop := { state := .ready, pending := none, fn, tmps := a.tmps, params := ps.toArray, assign, body, defers := w.heap.size }
 let w2 : World := (w.alloc (.deferred (some []))).alloc (.loop u)
 refine ⟨w.heap.size + 1, [mkD w.heap.size], w2, { target := .fn (.func f) cap.toArray, args := #[.func (.yield (w.heap.size + 1)) #[] #[]] }, w2, f, (Value.func (.yield (w.heap.size + 1)) #[] #[] :: cap).toArray, w2, run_enterLoop_outer fn a.tmps ps.toArray assign body, ?_, ?_⟩
 ·have e1 : a.eval (.const (.func (.yield (w.heap.size + 1)) #[] #[])) = .func (.yield (w.heap.size + 1)) #[] #[] := rfl
  simp [resolve, he.ev hg, Deferred.ofValue, e1]
 ·refine ⟨fun f' _ => trivial, ?_, (by intro h; cases h), ?_⟩
  ·simp [invoke, hf]
  refine callsIn_wide.2 ?_
  have hR : pe K.P K.W (w.heap.size + 1) u enc I G :=
   tZ (ps := ps) Eb he rfl rfl rfl rfl bc ad (hA _) (hB _)
  have hY := tY hR (fun x => by simpa [u] using (ad x).symm)
  have br : Sat K.W ((itA (w.heap.size + 1) u G s0 J :: Cap) ++ [aS (pts w.heap.size (.deferred (some [])) :: rst)]) w2 := by
   refine al.ent ?_
   intro h x
   have x1 : bb (pts (w.heap.size + 1) (.loop u)) (bb (pts w.heap.size (.deferred (some []))) (bb (aS (G s0 J)) (aS (Cap ++ rst)))) h :=
    cj h (fun _ x => x) (fun h x => cj h (fun _ x => x) (fun h x => (cz _ _ h).1 (hH h x)) x) x
   have x2 : bb (bb (pts (w.heap.size + 1) (.loop u)) (aS (G s0 J))) (bb (pts w.heap.size (.deferred (some []))) (aS (Cap ++ rst))) h := by
    rw [← bj (pts w.heap.size _), ej (pts w.heap.size _), bj, ← bj] at x1
    exact x1
   refine cj h (fun _ x => x) (fun h x => ?_) x2
   have x3 : bb (pts w.heap.size (.deferred (some []))) (bb (aS Cap) (aS rst)) h := cj h (fun _ x => x) (fun h x => (cz _ _ h).1 x) x
   rw [← bj, ej (pts _ _), bj] at x3
   exact (cz _ _ h).2 (cj h (fun _ x => x) (fun h x => jp x) x3)
  have hc := it _ _ hY (pts w.heap.size (.deferred (some []))) rN hfo _ br
  refine hc.mono ?_
  rintro e w' ⟨y, rfl, s4⟩
  have s5 : Sat K.W (pts (w.heap.size + 1) (.loop u) :: (G (L rN) (U rN y) ++ (CapB rN y ++ [aS (pts w.heap.size (.deferred (some [])) :: rst)]))) w' := s4.ent (ma _ _)
  have hl := s5.pts_at (i := 0) rfl
  refine ⟨none, _, run_endLoop hl (by simp [u]), ?_⟩
  have s6 := s5.upd (o' := .loop { u with state := .exhausted })
  have s7 : Sat K.W (iT w.heap.size :: (G (L rN) (U rN y) ++ (CapB rN y ++ rst))) _ := s6.ent (Ent.drop (by
   intro h x
   rw [← List.append_assoc] at x
   have x2 := (cz _ _ h).1 x
   have x3 : bb (aS (G (L rN) (U rN y) ++ CapB rN y)) (bb (pts w.heap.size (.deferred (some []))) (aS rst)) h := cj h (fun _ x => x) (fun h (x : bb (aS _) tt h) => by
    rw [ej] at x
    exact eP _ tt h x) x2
   rw [← bj, ej _ (pts _ _), bj] at x3
   refine cj h (fun _ x => x) (fun h x => ?_) x3
   rw [← List.append_assoc]
   exact (cz _ _ h).2 x))
  exact h w.heap.size rN y r hr _ _ ⟨he.size, by simp [he.defers, mkD], he.get⟩ s7
theorem qP {X : Oper} {c : Call} {x : Operand} {xs : List Operand} {l : Nat} {enc : α → List Value} {D : S → α → Option S} {A : S → Y → HA} {s U : S} {y : Y} (v : α) (k : Nat)
  (ho : X.op = .call c) (I : c.callee = .value x) (ab : c.args = xs.toArray) (hx : ev E x = some (.func (.yield l) #[] #[])) (ad : evs xs E = some (enc v)) (af : K.ro = none)
  (hY : nh K.P K.W l enc D A) (hH : H[k]? = some (A s y)) (hs : D s v = some U) :
  RE K (Y := Y) X E H (fun _ => .bool true) (fun y => H.set k (A U y)) := by
 intro a w he J next Q al
 refine ⟨fun f _ => gO _ _, ?_⟩
 rw [Oper.semAt_eq _ _ _ (by rw [ho]; intro c h; cases h)]
 have an : k < H.length := (List.getElem?_eq_some_iff.1 hH).1
 have a1 : Sat K.W ([A s y] ++ [aS (H.eraseIdx k)]) w := J.ent (fun h x => by rw [fF H k _ hH] at x; exact Ent.fold [A s y] (H.eraseIdx k) h x)
 obtain ⟨f, tmps, assign, body, L, u⟩ := hY s v U y _ w hs a1
 have hr : (execOp a.eval X).run K.P w = .ok (.round l f tmps assign body) w := by
  unfold execOp; simp only [ho]
  have G : c.args.map a.eval = (enc v).toArray := by rw [ab, ← jk he xs _ ad]; simp
  simp [resolve, I, G, he.ev hx, Deferred.ofValue, invoke, callFunc, L]
 rw [hr]
 refine ⟨kU _, ?_⟩
 rw [af]
 refine RoundIn.mono u ?_
 rintro e w' ⟨rfl, y', s3⟩
 refine al y' w' (s3.ent fun h x => ?_)
 rw [← gL H k _ an]
 exact Ent.unfold [A U y'] (H.eraseIdx k) h x
end
end Go.Proofs.YtndjkejhacfpdaaGreatDoor

namespace Go.Proofs.YtndjkejhacfpdaaGreatDoor
open Go.RowKit

/-! ### 1. Lists of rows -/
def okI (k : IntKind) (x : Int) : Prop := k.min ≤ x ∧ x ≤ k.max
def bP {α : Type} (n : Nat) (V : α → List Value → Prop) : List α → List (List Value) → Prop
 | [], [] => True
 | x :: xs, r :: rs => (r.length = n ∧ one r ∧ V x r) ∧ bP n V xs rs
 | _, _ => False
section
variable {α : Type} {n : Nat} {V V' : α → List Value → Prop}
theorem bP.mono (h : ∀ x r, V x r → V' x r) : ∀ {xs : List α} {rs : List (List Value)}, bP n V xs rs → bP n V' xs rs
 | [], [], _ => trivial
 | x :: xs, r :: rs, ⟨⟨a, b, c⟩, t⟩ => ⟨⟨a, b, h x r c⟩, bP.mono h t⟩
theorem bP.append : ∀ {xs u : List α} {rs D : List (List Value)}, bP n V xs rs → bP n V u D → bP n V (xs ++ u) (rs ++ D)
 | [], u, [], D, _, h => h
 | x :: xs, u, r :: rs, D, ⟨a, t⟩, h => ⟨a, bP.append t h⟩
theorem bP.len : ∀ {xs : List α} {rs : List (List Value)}, bP n V xs rs → rs.length = xs.length
 | [], [], _ => rfl
 | x :: xs, r :: rs, ⟨_, t⟩ => by simp [bP.len t]
theorem bP.flat : ∀ {xs : List α} {rs : List (List Value)}, bP n V xs rs → rs.flatten.length = xs.length * n
 | [], [], _ => by simp
 | x :: xs, r :: rs, ⟨⟨a, _, _⟩, t⟩ => by simp [bP.flat t, a, Nat.add_mul]; omega
theorem bP.ones : ∀ {xs : List α} {rs : List (List Value)}, bP n V xs rs → one rs.flatten
 | [], [], _ => by intro v h; simp at h
 | x :: xs, r :: rs, ⟨⟨_, b, _⟩, t⟩ => by
  intro v h
  simp only [List.flatten_cons, List.mem_append] at h
  rcases h with h | h
  ·exact b v h
  ·exact bP.ones t v h
theorem bP.at (d : α) : ∀ {xs : List α} {rs : List (List Value)} {i : Nat}, bP n V xs rs → i < xs.length → ∃ r, V (xs.getD i d) r ∧ r.length = n ∧ one r ∧ ∀ (j : Nat) v, r[j]? = some v → rs.flatten[i * n + j]? = some v
 | x :: xs, r :: rs, 0, ⟨⟨a, b, c⟩, t⟩, _ => ⟨r, c, a, b, fun j v h => by
   have : j < r.length := (List.getElem?_eq_some_iff.1 h).1
   simp only [List.flatten_cons, Nat.zero_mul, Nat.zero_add]
   rw [List.getElem?_append_left this]; exact h⟩
 | x :: xs, r :: rs, i + 1, ⟨⟨a, b, c⟩, t⟩, h => by
  obtain ⟨q, h1, u, D, G⟩ := bP.at d t (i := i) (by simpa using h)
  refine ⟨q, by simpa using h1, u, D, fun j v I => ?_⟩
  simp only [List.flatten_cons]
  rw [List.getElem?_append_right (by rw [a, Nat.add_mul]; omega), ← G j v I, a]
  congr 1
  rw [Nat.add_mul]; omega
theorem bP.take : ∀ {xs : List α} {rs : List (List Value)} (m : Nat), bP n V xs rs → bP n V (xs.take m) (rs.take m)
 | [], [], m, _ => by simp [bP]
 | x :: xs, r :: rs, 0, _ => by simp [bP]
 | x :: xs, r :: rs, m + 1, ⟨a, t⟩ => ⟨a, bP.take m t⟩
theorem bP.drop : ∀ {xs : List α} {rs : List (List Value)} (m : Nat), bP n V xs rs → bP n V (xs.drop m) (rs.drop m)
 | [], [], m, _ => by simp [bP]
 | x :: xs, r :: rs, 0, h => h
 | x :: xs, r :: rs, m + 1, ⟨a, t⟩ => bP.drop m t
theorem bP.flat_drop : ∀ {xs : List α} {rs : List (List Value)} (m : Nat), bP n V xs rs → (rs.drop m).flatten = rs.flatten.drop (m * n)
 | [], [], m, _ => by simp
 | x :: xs, r :: rs, 0, _ => by simp
 | x :: xs, r :: rs, m + 1, ⟨⟨a, _, _⟩, t⟩ => by
  simp only [List.drop_succ_cons, List.flatten_cons]
  rw [bP.flat_drop m t, Nat.add_mul, Nat.one_mul, Nat.add_comm, ← List.drop_drop, ← a, List.drop_left']
  rfl
theorem bP.flat_take : ∀ {xs : List α} {rs : List (List Value)} (m : Nat), bP n V xs rs → (rs.take m).flatten = rs.flatten.take (m * n)
 | [], [], m, _ => by simp
 | x :: xs, r :: rs, 0, _ => by simp
 | x :: xs, r :: rs, m + 1, ⟨⟨a, _, _⟩, t⟩ => by
  simp only [List.take_succ_cons, List.flatten_cons]
  have e : (m + 1) * n = r.length + m * n := by rw [a, Nat.add_mul]; omega
  rw [bP.flat_take m t, e, List.take_length_add_append]
end
def Up (G F : HA) : Prop := ∀ a cs, Rd G a cs → Rd F a cs
theorem Up.refl (F : HA) : Up F F := fun _ _ h => h
theorem Up.trans {A B C : HA} (h : Up A B) (u : Up B C) : Up A C := fun a cs x => u a cs (h a cs x)
theorem Up.lend {F : HA} {l : List HA} (k : Nat) (u : l[k]? = some F) : Up F (aS l) := fun _ _ h => h.lend k u
theorem Rd.up {G F : HA} {a : Option Addr} {cs : List Value} (h : Rd G a cs) (u : Up G F) : Rd F a cs := u a cs h
def RdV {α : Type} (F : HA) (n : Nat) (V : α → List Value → Prop) (a : Option Addr) (xs : List α) : Prop := ∃ rs, bP n V xs rs ∧ Rd F a rs.flatten
def gX {α : Type} (H : List HA) (n : Nat) (V : α → List Value → Prop) (a : Option Addr) (xs : List α) : Prop := ∃ rs, bP n V xs rs ∧ Rds H a rs.flatten
def am {α : Type} (T : TypeId) (n : Nat) (V : α → List Value → Prop) (a : Option Addr) (xs : List α) (c : Nat) : HA := fun h => ∃ rs, bP n V xs rs ∧ Row T n a xs.length c rs.flatten h
section
variable {α : Type} {n : Nat} {V V' : α → List Value → Prop} {F : HA} {a : Option Addr} {xs : List α}
theorem RdV.nil : RdV F n V a ([] : List α) := ⟨[], trivial, .inl rfl⟩
theorem RdV.mono (h : RdV F n V a xs) (u : ∀ x r, V x r → V' x r) : RdV F n V' a xs := let ⟨rs, h1, h2⟩ := h; ⟨rs, h1.mono u, h2⟩
theorem RdV.up {G : HA} (h : RdV G n V a xs) (u : Up G F) (D : ∀ x r, V x r → V' x r) : RdV F n V' a xs := let ⟨rs, h1, h2⟩ := h; ⟨rs, h1.mono D, h2.up u⟩
theorem RdV.rds (h : RdV F n V a xs) {H : List HA} (k : Nat) (u : H[k]? = some F) : gX H n V a xs := let ⟨rs, h1, h2⟩ := h; ⟨rs, h1, h2.rds k u⟩
theorem RdV.pos {G : HA} (h : RdV G n V a xs) (u : Up G F) (D : Nat.blt 0 n = true) {i : Nat} (hi : i < xs.length) (d : α) :
  ∃ b off r, a = some ⟨b, off, none⟩ ∧ V (xs.getD i d) r ∧ r.length = n ∧ ∀ {H : List HA} (k : Nat), H[k]? = some F → ∀ j v, r[j]? = some v → eM H b (off + i * n + j) v := by
 obtain ⟨rs, h1, I⟩ := h
 have D : 0 < n := by simpa [Nat.blt_eq] using D
 obtain ⟨r, J, L, _, U⟩ := h1.at d hi
 rcases u _ _ I with h0 | ⟨b, off, X, hz⟩
 ·have := h1.flat
  rw [h0] at this
  have h1 : 1 ≤ xs.length * n := Nat.mul_pos (by omega) D
  simp at this
  omega
 ·refine ⟨b, off, r, X, J, L, fun {H} k hk j v hj => .of k hk fun x hx => ?_⟩
  obtain ⟨l, T, fz, e1, e2⟩ := hz x hx
  exact ⟨l, T, fz, e1, by rw [Nat.add_assoc]; exact e2 _ _ (U j v hj)⟩
theorem RdV.cut (h : RdV F n V a xs) (lo hi : Nat) {c : Nat} (D : hi ≤ c) : RdV F n V (if c = lo then a else a.map (·.add (lo * n))) ((xs.take hi).drop lo) := by
 obtain ⟨rs, h1, u⟩ := h
 by_cases e : c = lo
 ·rw [if_pos e]
  have : (xs.take hi).drop lo = [] := by rw [List.drop_of_length_le (by rw [List.length_take]; omega)]
  rw [this]; exact .nil
 ·rw [if_neg e]
  refine ⟨(rs.take hi).drop lo, (h1.take hi).drop lo, ?_⟩
  rw [(h1.take hi).flat_drop, h1.flat_take]
  exact (u.take _).drop _
theorem am.mk {T : TypeId} {c : Nat} {rs : List (List Value)} (h : bP n V xs rs) : ∀ p, Row T n a xs.length c rs.flatten p → am T n V a xs c p := fun _ x => ⟨rs, h, x⟩
theorem Ent.rowV_nil {l m : List HA} {T : TypeId} (r : Ent l m) : Ent l (am T n V none ([] : List α) 0 :: m) := fun h s =>
 ⟨fun _ => none, h, fun _ => .inl rfl, (by funext i; simp [un]), ⟨[], trivial, Row.nil T n _⟩, r h s⟩
end
section
variable {K : Cx} {R S Y α : Type} {Q : dw R} {E : Env} {H : List HA} {opt : Option R} {ops : Array Oper} {rest : List Oper} {o : Oper} {n : Nat} {V : α → List Value → Prop} {a : Option Addr} {xs : List α} {T : TypeId} {c : Nat}
theorem mA {W w : World} {H : List HA} (k : Nat) (u : H[k]? = some (am T n V a xs c)) (s : Sat W H w) : ∃ rs, bP n V xs rs ∧ Sat W (H.set k (Row T n a xs.length c rs.flatten)) w := by
 obtain ⟨x, y, d, e, ⟨rs, h1, D⟩, r⟩ := (s.focus u).hp
 exact ⟨rs, h1, Sat.unfocus (B := Row T n a xs.length c rs.flatten) u ⟨s.os, s.tape, s.output, s.size, x, y, d, e, D, r⟩⟩
theorem bf (k : Nat) (u : H[k]? = some (am T n V a xs c)) (h : ∀ rs, bP n V xs rs → cc K Q ops rest E (H.set k (Row T n a xs.length c rs.flatten)) opt) : cc K Q ops rest E H opt := by
 intro r D G w I J
 obtain ⟨rs, h1, s⟩ := mA k u J
 exact h rs h1 r D G w I s
theorem bq {u : Code} (k : Nat) (D : H[k]? = some (am T n V a xs c)) (h : ∀ rs, bP n V xs rs → Sim K Q u E (H.set k (Row T n a xs.length c rs.flatten)) opt) : Sim K Q u E H opt := by
 intro r G I w J L
 obtain ⟨rs, h1, s⟩ := mA k D L
 exact h rs h1 r G I w J s
theorem gX.row {rs : List (List Value)} (h : bP n V xs rs) {m : Nat} (k : Nat) (u : H[k]? = some (Row T n a m c rs.flatten)) : gX H n V a xs := ⟨rs, h, .row k u⟩
theorem gX.nil : gX H n V a ([] : List α) := ⟨[], trivial, .nil _ _⟩
theorem Rd.asV {F : HA} {rs : List (List Value)} (h : bP n V xs rs) (u : Rd F a rs.flatten) : RdV F n V a xs := ⟨rs, h, u⟩
theorem eN {rs : List (List Value)} {i : Nat} (k : Nat) (L : H[k]? = some (Row T n a xs.length c rs.flatten)) (I : bP n V xs rs) (u : Nat.blt 0 n = true) (hi : i < xs.length) (d : α)
  (h : ∀ b off r, a = some ⟨b, off, none⟩ → V (xs.getD i d) r → r.length = n → (∀ {H' : List HA} (k : Nat), H'[k]? = some (Row T n a xs.length c rs.flatten) → ∀ j v, r[j]? = some v → eM H' b (off + i * n + j) v) → cc K Q ops rest E H opt) : cc K Q ops rest E H opt := by
 have u : 0 < n := by simpa [Nat.blt_eq] using u
 obtain ⟨r, U, D, _, X⟩ := I.at d hi
 refine qu k L ?_ fun b off J => h b off r J U D ?_
 ·intro h0
  have := I.flat
  rw [h0] at this
  have h1 : 1 ≤ xs.length * n := Nat.mul_pos (by omega) u
  simp at this
  omega
 ·intro H' k' G j v hj
  rw [Nat.add_assoc]
  subst J
  exact eM.row k' G (X j v hj)
theorem tP {l m : List Value} (h : one l) (u : one m) : one (l ++ m) := fun v D => by
 rcases List.mem_append.1 D with x | x
 ·exact h v x
 ·exact u v x
theorem fg {x y : Operand} {t e bytes : Nat} {zs : List Value} {a2 : Option Addr} {c2 : Nat} {u : List α} {rs : List (List Value)} (k : Nat) (ho : o.op = .call { callee := .builtin .append, args := #[x, y], argTypes := #[t, t] })
  (hx : ev E x = some (.slice a xs.length c)) (hy : ev E y = some (.slice a2 u.length c2)) (ht : K.P.underlying t = some (.slice e)) (hE : Elt K.P e n bytes zs) (J : H[k]? = some (Row e n a xs.length c rs.flatten)) (L : bP n V xs rs)
  (hr : gX (H.eraseIdx k) n V a2 u) (hb : (xs.length + u.length) * bytes ≤ 140737488355328) :
  RE K (Y := Option Addr × Nat) o E H (fun y => .slice y.1 (xs ++ u).length y.2) (fun y => H.set k (am e n V y.1 (xs ++ u) y.2)) := by
 obtain ⟨U, h1, h2⟩ := hr
 have := pv (K := K) (E := E) (H := H) k ho hx hy ht hE J h2 (by rw [h1.flat]) h1.ones hb
 intro a' w he hs next Q hn
 refine this a' w he hs next Q fun y X s => ?_
 have D : (xs ++ u).length = xs.length + u.length := List.length_append
 have e1 : Value.slice y.1 (xs ++ u).length y.2 = .slice y.1 (xs.length + u.length) y.2 := by rw [D]
 have := hn y X
 simp only [e1] at this
 refine this ?_
 have G : k < H.length := (List.getElem?_eq_some_iff.1 J).1
 have s2 : Sat K.W (Row e n y.1 (xs.length + u.length) y.2 (rs.flatten.take (xs.length * n) ++ U.flatten) :: H.eraseIdx k) X := s.ent fun h x => by rw [gL H k _ G]; exact x
 have I := L.flat
 refine (s2.ent (Ent.sel' 0 rfl (fun p hp => ?_) (Ent.refl _))).ent fun h x => by rw [← gL H k _ G]; exact x
 refine ⟨rs ++ U, L.append h1, ?_⟩
 rw [D, List.flatten_append]
 rwa [List.take_of_length_le (by rw [I]; exact Nat.le_refl _)] at hp
theorem sk {x y : Operand} {t e bytes : Nat} {D : List Value} {a2 : Option Addr} {c2 : Nat} {u : List α} (G : o.op = .call { callee := .builtin .append, args := #[x, y], argTypes := #[t, t] })
  (I : ev E x = some (.slice none 0 0)) (J : ev E y = some (.slice a2 u.length c2)) (L : K.P.underlying t = some (.slice e)) (U : Elt K.P e n bytes D)
  (X : gX H n V a2 u) (hb : u.length * bytes ≤ 140737488355328) :
  RE K (Y := Option Addr × Nat) o E H (fun y => .slice y.1 u.length y.2) (fun y => am e n V y.1 u y.2 :: H) := by
 obtain ⟨ss, h1, h2⟩ := X
 have := tR (K := K) (E := E) (H := H) G I J L U h2 (by rw [h1.flat]) h1.ones hb
 intro a' w he hs next Q hn
 refine this a' w he hs next Q fun y w' s => hn y w' (s.ent (Ent.sel' 0 rfl (fun p hp => ⟨ss, h1, hp⟩) (Ent.refl _)))
theorem gb {t e bytes len : Nat} {D : List Value} {l : List (Nat × Operand)} {vs : List (Nat × Value)} {cs : List Value} (rs : List (List Value)) (I : o.op = .buildSlice t len l.toArray) (J : evP l E = some vs) (L : K.P.underlying t = some (.slice e)) (U : Elt K.P e n bytes D)
  (X : Nat.ble (len * n) 16777216 = true) (hf : Instr.fill (fun i => some (i * n, n)) ((Array.range (len * n)).map (D.toArray[· % D.toArray.size]!)) vs = some cs.toArray) (h0 : Nat.blt 0 (len * n) = true) (hr : bP n V xs rs) (G : rs.flatten = cs) (u : xs.length = len) :
  RE K (Y := Nat) o E H (fun b => .slice (some ⟨b, 0, none⟩) xs.length len) (fun b => Row e n (some ⟨b, 0, none⟩) xs.length len rs.flatten :: H) := by
 subst G
 subst u
 exact ve I J L U X hf h0 hr.flat

/-! ### 2. A slice's front, with what lies behind it -/
end
end Go.Proofs.YtndjkejhacfpdaaGreatDoor

namespace Go.Proofs.YtndjkejhacfpdaaGreatDoor
open Go.RowKit
/-! ### 1. '==' of structs -/
section
variable {P : Program} {d : Nat} {xs ys : Array Value} {f : Field} {fs : List Field} {a b : Value} {r s : Bool} {w : World}
theorem ri (D : (f.name == "_") = false) (G : (part f.type xs f.offset).run P w = .ok a w) (I : (part f.type ys f.offset).run P w = .ok b w) (J : (Op.equalIn d f.type a b).run P w = .ok r w) : (Op.eqFields d xs ys [f]).run P w = .ok r w := by
 have u : f.name ≠ "_" := by simpa using D
 simp only [Op.eqFields, if_pos u, Sem.run_bind, G, I, J, Result.andThen_ok]
 cases r <;> simp
theorem mc (D : (f.name == "_") = false) (G : (part f.type xs f.offset).run P w = .ok a w) (I : (part f.type ys f.offset).run P w = .ok b w) (J : (Op.equalIn d f.type a b).run P w = .ok r w) (L : (Op.eqFields d xs ys fs).run P w = .ok s w) : (Op.eqFields d xs ys (f :: fs)).run P w = .ok (r && s) w := by
 have u : f.name ≠ "_" := by simpa using D
 rw [Op.eqFields]
 simp only [if_pos u, Sem.run_bind, G, I, J, Result.andThen_ok]
 cases r
 ·simp
 ·simpa using L
theorem gJ {t : TypeId} {cs : Array Value} {off : Nat} {v : Value} (u : ∀ w, (isAgg t).run P w = .ok false w) (D : cs[off]? = some v) : (part t cs off).run P w = .ok v w := by
 simp [part, u, D]
theorem kA {t : TypeId} {k : IntKind} {m n : Int} (u : P.underlying t = some (.int k)) : (Op.equalIn (d + 1) t (.int k m) (.int k n)).run P w = .ok (decide (m = n)) w := by
 simp [Op.equalIn, underlying, program, Sem.run, u]
 rw [Bool.eq_iff_iff]; simp
theorem oF {t : TypeId} {fs : Array Field} (u : P.underlying t = some (.struct fs)) (hp : P.stoodInHeld t = false) (h : (Op.eqFields d xs ys fs.toList).run P w = .ok r w) : (Op.equalIn (d + 1) t (.agg xs) (.agg ys)).run P w = .ok r w := by
 have D : P.fieldsOf t = fs := by simp [Program.fieldsOf, u]
 rw [run_equalIn_struct (P := P) w d t xs ys (by rw [D]; exact u) hp, D]
 exact h
end
section
variable {K : Cx} {R S Y : Type} {Q : dw R} {E : Env} {H : List HA} {opt : Option R} {ops : Array Oper} {rest : List Oper} {o : Oper}
theorem nH {P : Program} {b : BinOp} {t : TypeId} {x y : Operand} {u v : Array Value} (D : P.eqGuardType P.depth t = false) (w : World) : (eqGuard b t x y (.agg u) (.agg v)).run P w = .ok () w := by
 unfold eqGuard
 cases b <;> simp [program, Sem.run, D]
theorem xQ {D J : TypeId} {x y : Operand} {u v : Array Value} {r : Bool} (G : o.op = .binOp .eql D x y J) (L : ev E x = some (.agg u)) (U : ev E y = some (.agg v)) (X : K.P.eqGuardType K.P.depth D = false)
  (hr : ∀ d w, (Op.equalIn (d + 2) D (.agg u) (.agg v)).run K.P w = .ok r w) : RQ K o E H (.bool r) :=
 cM (by rw [G]; intro c h; cases h) fun a w I _ => by
  unfold execOp; simp only [G]; rw [I.ev L, I.ev U]
  have := hr 9998 w
  simp [nH X, binOp, Op.equal, Op.maxDepth, this]
theorem xC {D J : TypeId} {x y : Operand} {u v : Array Value} {r : Bool} (G : o.op = .binOp .neq D x y J) (L : ev E x = some (.agg u)) (U : ev E y = some (.agg v)) (X : K.P.eqGuardType K.P.depth D = false)
  (hr : ∀ d w, (Op.equalIn (d + 2) D (.agg u) (.agg v)).run K.P w = .ok r w) : RQ K o E H (.bool (!r)) :=
 cM (by rw [G]; intro c h; cases h) fun a w I _ => by
  unfold execOp; simp only [G]; rw [I.ev L, I.ev U]
  have := hr 9998 w
  simp [nH X, binOp, Op.equal, Op.maxDepth, this]
/-! ### 2. Interfaces -/
theorem yP {x : Operand} {t : TypeId} {u : TypeDesc} {v : Value} (D : o.op = .makeInterface t x) (G : ev E x = some v) (I : K.P.underlying t = some u) (J : (match u with | .interface _ => true | _ => false) = false) : RQ K o E H (.iface t v) :=
 cM (by rw [D]; intro c h; cases h) fun a w L _ => by
  unfold execOp; simp only [D]; rw [L.ev G]
  cases u <;> first | (simp at J; done) | simp [Instr.makeInterface, underlying, program, Sem.run, I]
theorem pU {c : Call} {x : Operand} {D : String} {xs : List Operand} {vs : List Value} {t : TypeId} {v u : Value} {f : FuncId} {A : List HA} {rst : List HA} {S Y : Type} {o1 : Option S} {val : S → Y → Value} {B : S → Y → List HA} {s : S}
  (ho : o.op = .call c) (I : c.callee = .invoke x D) (L : c.args = xs.toArray) (hx : ev E x = some (.iface t v)) (U : evs xs E = some vs)
  (hm : ∀ w, (method (K.P.types.size + Made.depth) t v D).run K.P w = .ok (f, u) w)
  (hf : ∀ args w, (callFunc f args).run K.P w = .ok (.enter f args) w) (hH : Ent H (A ++ rst))
  (h : Fn K.P K.W f (u :: vs) A (aS rst) o1 val B) (hs : o1 = some s) : RE K o E H (val s) (fun y => B s y ++ rst) := by
 intro a w he J next Q X
 refine ⟨fun f _ => gO _ _, ?_⟩
 rw [Oper.semAt_eq _ _ _ (by rw [ho]; intro c h; cases h)]
 have hr : (execOp a.eval o).run K.P w = .ok (.enter f (u :: vs).toArray) w := by
  unfold execOp; simp only [ho]
  have G : c.args.map a.eval = vs.toArray := by rw [L, ← jk he xs vs U]; simp
  have e1 : (#[Value.iface t v] ++ vs.toArray).extract 1 (1 + vs.length) = vs.toArray := by
   apply Array.ext'
   simp
  simp [resolve, I, G, he.ev hx, invoke, callMethod, program, Sem.run, hm, hf, e1]
 rw [hr]
 refine ⟨kU _, ?_⟩
 have := h s hs w (J.ent (hH.trans (Ent.fold A rst)))
 have hw : CallsIn (fen K.ro) (0 - 1) K.P f (u :: vs).toArray w (fun e w' => ∃ y, e = Ending.returned (val s y) ∧ Sat K.W (B s y ++ [aS rst]) w') := by
  cases hro : K.ro with
  | none => exact callsIn_wide.2 this
  | some l => exact CallsIn.inRound l (callsIn_wide.2 this)
 refine hw.mono ?_
 rintro e w' ⟨y, rfl, s2⟩
 exact X y w' (s2.ent (Ent.unfold _ _))
/-! ### 3. Results that lie in variables -/
def jW (P : Program) (E : Env) (H : List HA) : List ResultVar → List Value → Prop
 | [], [] => True
 | .tmp t :: l, v :: vs => lk E t = some v ∧ jW P E H l vs
 | .cell t T :: l, v :: vs => (∃ b, lk E t = some (.pointer (some ⟨b, 0, none⟩)) ∧ ∀ W w, Sat W H w → (loadVar T ⟨b, 0, none⟩).run P w = .ok v w) ∧ jW P E H l vs
 | _, _ => False
theorem gg {P : Program} {H : List HA} {T : TypeId} {b : Nat} {v : Value} (u : ∀ w, (isAgg T).run P w = .ok false w) (D : eM H b 0 v) : ∀ W w, Sat W H w → (loadVar T ⟨b, 0, none⟩).run P w = .ok v w := fun W w s => by
 simp [loadVar, u, D.sat s]
theorem ir {P : Program} {H : List HA} {T u : TypeId} {b n : Nat} {vs : List Value} (k : Nat) (D : ∀ w, (isAgg T).run P w = .ok true w) (G : ∀ w, (sizeOf T).run P w = .ok n w) (I : H[k]? = some (obj b u vs)) (J : vs.length = n) : ∀ W w, Sat W H w → (loadVar T ⟨b, 0, none⟩).run P w = .ok (.agg vs.toArray) w := fun W w s => by
 have := ka (P := P) (w := w) (b := b) (off := 0) (vs := vs) (fun j v L => by rw [Nat.zero_add]; exact (eM.obj (off := j) k I L).sat s)
 simp [loadVar, D, G, ← J, this]
theorem mW {n : Nat} {ds : List Deferred} {a : Act} {P : Program} {W w : World} {H : List HA} (u : Has n ds E a) (D : Sat W H w) (g : ResultVar → Sem Value) (G : ∀ t, g (.tmp t) = Sem.pure (a.tmps.getD t undef)) (I : ∀ t T, g (.cell t T) = (do loadVar T (← asAddr (a.tmps.getD t undef)))) : ∀ (l : List ResultVar) (vs : List Value), jW P E H l vs → (l.mapM g).run P w = .ok vs w
 | [], [], _ => rfl
 | .tmp t :: l, v :: vs, ⟨h1, h2⟩ => by
  have J := mW u D g G I l vs h2
  have := u.get _ _ h1
  simp only [List.mapM_cons, Sem.run_bind, G, Sem.run_pure', Result.andThen_ok]
  rw [J]
  simp [Array.getD_eq_getD_getElem?, this]
 | .cell t T :: l, v :: vs, ⟨⟨b, h1, h3⟩, h2⟩ => by
  have J := mW u D g G I l vs h2
  have := u.get _ _ h1
  have L := h3 W w D
  simp only [List.mapM_cons, Sem.run_bind, I]
  have U : a.tmps.getD t undef = .pointer (some ⟨b, 0, none⟩) := by simp [Array.getD_eq_getD_getElem?, this]
  rw [U]
  simp [asAddr, L, J]
theorem lx {n : Nat} {ds : List Deferred} {a : Act} {P : Program} {W w : World} {H : List HA} {fn : Func} (D : Has n ds E a) (G : Sat W H w) {vs : List Value} (h : jW P E H fn.results.toList vs) :
  (results fn a.tmps).run P w = .ok (tup vs) w := by
 unfold results
 simp only [Sem.run_bind]
 rw [← Array.toArray_toList (xs := fn.results), List.mapM_toArray]
 simp only [Sem.run_map]
 rw [mW (P := P) (w := w) D G _ (fun _ => rfl) (fun _ _ => rfl) fn.results.toList vs h]
 simp only [Result.andThen_ok]
 match vs with
 | [] => simp [tup]
 | [v] => simp [tup]
 | v :: u :: t => simp [tup]
theorem zu {fn : Func} {val : R → Y → Value} {B : R → Y → List HA} {r : R} {vs : List Value} (y : Y) (hd : K.ds = []) (u : jW K.P E H fn.results.toList vs) (J : tup vs = val r y) (L : Ent H (B r y)) :
  ∀ D, some r = some D → ∀ a w, Has K.n K.ds E a → Sat K.W H w → a.defers = [] ∧ ∃ v, (results fn a.tmps).run K.P w = .ok v w ∧ ∃ y, Ending.returned v = .returned (val D y) ∧ Sat K.W (B D y) w := by
 intro D U a w G I
 cases U
 exact ⟨G.defers.trans hd, _, lx G I u, y, by rw [J], I.ent L⟩
theorem iU {fn : Func} {val : R → Y → Value} {B : R → Y → List HA} {r : R} {vs : List Value} (y : Y) (hd : K.ds = []) (u : jW K.P E H fn.results.toList vs) (D : tup vs = val r y) (G : Ent H (B r y)) :
  Rtn K (qD K fn val B) E H (some r) := fun I J a w L U => zu (K := K) y hd u D G I J a w L U
theorem yf {W w : World} {H : List HA} {p : Prop} (k : Nat) (u : H[k]? = some (pr p)) (s : Sat W H w) : p := by
 obtain ⟨a, D, _⟩ := s.at u
 exact D
theorem kx {p : Prop} (k : Nat) (D : H[k]? = some (pr p)) (h : p → Nrm K Q E H opt) : Nrm K Q E H opt := fun r G a w I u => h (yf k D u) r G a w I u
theorem gf (l m : List HA) : Ent (l ++ m) (aS l :: m) := fun h s => (cz _ _ h).1 s
theorem Ent.tt_in {l m : List HA} (r : Ent l m) : Ent l (tt :: m) := fun h s => ⟨fun _ => none, h, fun _ => .inl rfl, (by funext i; simp [un]), trivial, r h s⟩
theorem cR {l vs : List Value} {off : Nat} (h : (l.drop off).take vs.length = vs) : ∀ (j : Nat) v, vs[j]? = some v → l[off + j]? = some v := fun j v u => by
 rw [← h, List.getElem?_take] at u
 split at u
 ·rw [List.getElem?_drop] at u; exact u
 ·cases u
theorem xe {x : Operand} {t e : TypeId} {a : Option Addr} {n c : Nat} {cs : List Value} (k : Nat) (I : o.op = .convert t t x) (hx : ev E x = some (.slice a n c)) (hu : K.P.underlying t = some (.slice e)) (u : K.P.underlying e = some (.int .u8)) (J : H[k]? = some (Row e 1 a n c cs)) (hn : Nat.blt 0 n = true) :
  RE K (Y := Unit) o E H (fun _ => .slice a n c) (fun _ => H.set k (Row e 1 a n c cs)) :=
 gN (by rw [I]; intro c h; cases h) fun a' w he s => by
  have an : 0 < n := by simpa [Nat.blt_eq] using hn
  rcases (s.focus J).row_cases with ⟨_, h0, _, _⟩ | ⟨b, off, pre, junk, fz, rfl, ok, L⟩
  ·omega
  ·have U := L.pts_at (i := 0) rfl
   obtain ⟨lo, hi⟩ := fz
   refine ⟨(), { w with heap := w.heap.setIfInBounds b (.cells (pre ++ cs ++ junk).toArray e (if lo == hi then ((pre ++ cs ++ junk).length, (pre ++ cs ++ junk).length + 1) else (min lo (pre ++ cs ++ junk).length, max hi ((pre ++ cs ++ junk).length + 1)))) }, ?_, Sat.unfocus J ((L.upd).ent (Ent.sel' 0 rfl (Row.mk ⟨ok.offs, ok.le, ok.cap, ok.room, ok.len, ok.top, ?_⟩) (Ent.refl _)))⟩
   ·unfold execOp; simp only [I]; rw [he.ev hx]
    have D : w.shape? b = some (e, (pre ++ cs ++ junk).length) := by simp [World.shape?, U]
    have G : w.freeze ⟨b, (pre ++ cs ++ junk).length, none⟩ 1 = { w with heap := w.heap.setIfInBounds b (.cells (pre ++ cs ++ junk).toArray e (if lo == hi then ((pre ++ cs ++ junk).length, (pre ++ cs ++ junk).length + 1) else (min lo (pre ++ cs ++ junk).length, max hi ((pre ++ cs ++ junk).length + 1)))) } := by
     unfold World.freeze
     rw [if_neg (by omega)]
     simp only
     rw [jO _ _ _ _ U]
    have X : (markStringish ⟨b, off, none⟩).run K.P w = .ok () (w.freeze ⟨b, (pre ++ cs ++ junk).length, none⟩ 1) := by
     unfold markStringish
     simp only [shape, Sem.run_bind, Sem.run, Result.andThen_ok, D, freeze]
    rw [G] at X
    simp [convert, underlying, program, Sem.run, hu, u, X]
   ·have h1 := ok.fzok
    have h2 := ok.room
    have h3 := ok.offs
    simp only at h1
    by_cases hlh : lo = hi
    ·right; simp [hlh]; omega
    ·right; simp [hlh]; rcases h1 with h1 | h1 <;> omega
end
end Go.Proofs.YtndjkejhacfpdaaGreatDoor

namespace Go.Proofs.YtndjkejhacfpdaaGreatDoor
open Go.RowKit
section
variable {K : Cx} {R S Y : Type} {Q : dw R} {E : Env} {H : List HA} {o : Option R}
def mB (K : Cx) (ops : Array Oper) (u : List (List Nat)) {Γ : Type} (val : Γ → Nat → Value) (E : Env) (heap : Nat → Γ → List HA) (s t i : Nat) (pre : List Nat) (γ : Γ) : Prop :=
 ∃ D, ops[i]? = some D ∧ ∃ G, dV ops u (val γ) E i G ∧ GOk ops D G ∧
  RE K (Y := { γ' : Γ // gK pre (val γ') (val γ) }) D G (heap s γ) (fun γ' => val γ'.1 i) (fun γ' => heap t γ'.1)
theorem mB.gen {ops : Array Oper} {u : List (List Nat)} {Γ Z : Type} {val : Γ → Nat → Value} {heap : Nat → Γ → List HA} {s t i : Nat} {pre : List Nat} {γ : Γ} {D : Oper} {v : Z → Value} {H' : Z → List HA} (G : Env) (f : Z → Γ) (I : ops[i]? = some D) (J : GOk ops D G) (L : dV ops u (val γ) E i G)
  (h : RE K (Y := Z) D G (heap s γ) v H') (U : ∀ z, gK pre (val (f z)) (val γ)) (X : ∀ z, D.dst = none ∨ v z = val (f z) i) (hH : ∀ z, Ent (H' z) (heap t (f z))) : mB K ops u val E heap s t i pre γ :=
 ⟨D, I, G, L, J, fun a w hh hs next Q hn => h a w hh hs next Q fun z w' s => by
  have := hn ⟨f z, U z⟩ w' (s.ent (hH z))
  rcases X z with e | e
  ·rw [e] at this ⊢; exact this
  ·rw [e]; exact this⟩
theorem mB.mk {ops : Array Oper} {u : List (List Nat)} {Γ Z : Type} {val : Γ → Nat → Value} {heap : Nat → Γ → List HA} {s t i : Nat} {pre : List Nat} {γ : Γ} {D : Oper} {v : Z → Value} {H' : Z → List HA} (G : Env) (f : Z → Γ) (I : ops[i]? = some D) (J : D.guard = none) (L : dV ops u (val γ) E i G)
  (h : RE K (Y := Z) D G (heap s γ) v H') (U : ∀ z, gK pre (val (f z)) (val γ)) (X : ∀ z, D.dst = none ∨ v z = val (f z) i) (hH : ∀ z, Ent (H' z) (heap t (f z))) : mB K ops u val E heap s t i pre γ :=
 mB.gen G f I (.inl J) L h U X hH
theorem mB.yes {ops : Array Oper} {D : List (List Nat)} {Γ Z : Type} {val : Γ → Nat → Value} {heap : Nat → Γ → List HA} {s t i : Nat} {pre : List Nat} {γ : Γ} {j dj : Nat} {u b : Bool} {G : Oper} {v : Z → Value} {H' : Z → List HA} (I : Env) (f : Z → Γ) (J : ops[i]? = some G) (L : G.guard = some (j, u)) (U : eJ ops j = some dj) (X : lk I dj = some (.bool b)) (hw : (b == u) = true) (he : dV ops D (val γ) E i I)
  (h : RE K (Y := Z) G I (heap s γ) v H') (ha : ∀ z, gK pre (val (f z)) (val γ)) (hv : ∀ z, G.dst = none ∨ v z = val (f z) i) (hH : ∀ z, Ent (H' z) (heap t (f z))) : mB K ops D val E heap s t i pre γ :=
 mB.gen I f J (.inr ⟨j, u, dj, b, L, U, X, hw⟩) he h ha hv hH
def stg (u : List (List Nat)) (s : Nat) : List Nat := u.getD s []
def tC (u : List (List Nat)) (D : List Nat) (G : List (List Nat)) (i s : Nat) : Bool :=
 D.any fun e => ((gG u i).contains e && !(stg G s).contains e) || ((gG u e).contains i && (stg G s).contains e)
theorem RE.lend {L : Oper} {v : Y → Value} {H' : Y → List HA} {T : TypeId} {sz n c : Nat} {a : Option Addr} {cs : List Value} (k : Nat) (hk : H[k]? = some (Row T sz a n c cs)) (h : Rd (Row T sz a n c cs) a cs → n ≤ c → c ≤ maxLen → n * sz ≤ cs.length → RE K L E H v H') : RE K L E H v H' := by
 intro U w X G next Q hn
 rcases (G.focus hk).row_cases with ⟨h1, h2, h3, h0⟩ | ⟨b, off, pre, junk, fz, ha, ok, _⟩
 ·subst h2; subst h3
  exact h (.inl h0) (Nat.le_refl _) (Nat.zero_le _) (by simp) U w X G next Q hn
 ·subst ha
  refine h (.inr ⟨b, off, rfl, fun x hx => ?_⟩) ok.le ok.cap ok.len U w X G next Q hn
  rcases hx with ⟨h, _⟩ | ⟨b', ad, D, u, I, e, J, hb⟩
  ·cases h
  ·cases e
   refine ⟨_, T, I, hb, fun j v hj => ?_⟩
   have := ju (pre := D) (junk := u) hj
   rw [J.offs] at this
   simpa using this
theorem ie {α : Type} {V : α → List Value → Prop} {xs : List α} {u : Code} {T : TypeId} {n c : Nat} {a : Option Addr} {rs : List (List Value)} {i : Nat} (k : Nat) (J : H[k]? = some (Row T n a xs.length c rs.flatten)) (L : bP n V xs rs) (U : Nat.blt 0 n = true) (hi : i < xs.length) (d : α)
  (h : ∀ b off r, a = some ⟨b, off, none⟩ → V (xs.getD i d) r → r.length = n → (∀ {H' : List HA} (k : Nat), H'[k]? = some (Row T n a xs.length c rs.flatten) → ∀ j v, r[j]? = some v → eM H' b (off + i * n + j) v) → Sim K Q u E H o) : Sim K Q u E H o := by
 intro r D X w G I
 exact eN (rest := []) (ops := #[]) (Q := fun r e a w => u.wpIn (fen K.ro) 0 K.P (Q r) a w) k J L U hi d (fun b off r h1 h2 h3 h4 r D a w G I => h b off _ h1 h2 h3 h4 r D a w G I) r D X w G I
end
end Go.Proofs.YtndjkejhacfpdaaGreatDoor

/- Assertions over parts of the heap, environments of temporaries, and the judgement that a Go body simulates a pure function: definitions and the rules for control flow. Conditions: none. -/
import Derived.WalkKit
import Derived.TacticsIn
import Derived.TacticsInMore
import Derived.LoopNIn
import Derived.LoopIn
import Derived.RangeFuncCalls
import Derived.Below
import Derived.KernelRfl
namespace Go.Proofs.YtbcnegennmpliaaDoor
set_option linter.unusedVariables false
set_option linter.unusedSimpArgs false
open Go.RowKit

/-! ### 1. Parts of the heap -/
abbrev Hp := Nat → Option Obj
abbrev HA := Hp → Prop
def dj (a b : Hp) : Prop := ∀ i, a i = none ∨ b i = none
def un (a b : Hp) : Hp := fun i => (a i).or (b i)
def tt : HA := fun _ => True
def star (A B : HA) : HA := fun h => ∃ a b, dj a b ∧ h = un a b ∧ A a ∧ B b
def stars : List HA → HA
  | [] => tt
  | A :: l => star A (stars l)
def pr (p : Prop) : HA := fun _ => p
def pts (b : Nat) (o : Obj) : HA := fun h => h b = some o

theorem un_comm {a b : Hp} (d : dj a b) : un a b = un b a := by
  funext i; simp only [un]; rcases d i with h | h <;> simp [h]
theorem un_assoc (a b c : Hp) : un (un a b) c = un a (un b c) := by
  funext i; simp [un, Option.or_assoc]
theorem dj_comm {a b : Hp} (d : dj a b) : dj b a := fun i => (d i).symm
theorem dj_un_left {a b c : Hp} : dj (un a b) c ↔ dj a c ∧ dj b c := by
  constructor
  · intro h
    refine ⟨fun i => ?_, fun i => ?_⟩
    · rcases h i with e | e
      · simp [un] at e; exact .inl e.1
      · exact .inr e
    · rcases h i with e | e
      · simp [un] at e; exact .inl e.2
      · exact .inr e
  · rintro ⟨h1, h2⟩ i
    rcases h1 i with e1 | e1 <;> rcases h2 i with e2 | e2 <;> simp [un, e1, e2]
theorem dj_un_right {a b c : Hp} : dj a (un b c) ↔ dj a b ∧ dj a c := by
  constructor
  · intro h; have := dj_un_left.1 (dj_comm h); exact ⟨dj_comm this.1, dj_comm this.2⟩
  · rintro ⟨h1, h2⟩; exact dj_comm (dj_un_left.2 ⟨dj_comm h1, dj_comm h2⟩)

theorem star_comm (A B : HA) : star A B = star B A := by
  funext h
  apply propext
  constructor <;> (rintro ⟨a, b, d, rfl, ha, hb⟩; exact ⟨b, a, dj_comm d, un_comm d, hb, ha⟩)
theorem star_assoc (A B C : HA) : star (star A B) C = star A (star B C) := by
  funext h
  apply propext
  constructor
  · rintro ⟨ab, c, d, rfl, ⟨a, b, d2, rfl, ha, hb⟩, hc⟩
    have := dj_un_left.1 d
    exact ⟨a, un b c, dj_un_right.2 ⟨d2, this.1⟩, un_assoc _ _ _, ha, b, c, this.2, rfl, hb, hc⟩
  · rintro ⟨a, bc, d, rfl, ha, b, c, d2, rfl, hb, hc⟩
    have := dj_un_right.1 d
    exact ⟨un a b, c, dj_un_left.2 ⟨this.2, d2⟩, (un_assoc _ _ _).symm, ⟨a, b, this.1, rfl, ha, hb⟩, hc⟩
theorem star_mono {A A' B B' : HA} (h : Hp) (ha : ∀ h, A h → A' h) (hb : ∀ h, B h → B' h) (s : star A B h) : star A' B' h := by
  obtain ⟨a, b, d, rfl, x, y⟩ := s
  exact ⟨a, b, d, rfl, ha _ x, hb _ y⟩
theorem tt_star_self {A : HA} {h : Hp} (s : A h) : star tt A h := ⟨fun _ => none, h, fun _ => .inl rfl, (by funext i; simp [un]), trivial, s⟩
theorem star_tt {A : HA} {h : Hp} (s : A h) : star A tt h := by rw [star_comm]; exact tt_star_self s

theorem stars_absorb (l : List HA) (X : HA) : ∀ h, star X (stars l) h → stars l h := by
  induction l with
  | nil => intro h _; trivial
  | cons A l ih =>
    intro h s
    have s2 : star A (star X (stars l)) h := by
      rw [← star_assoc, star_comm A X, star_assoc]; exact s
    exact star_mono h (fun _ x => x) ih s2
theorem stars_app (l m : List HA) : ∀ h, stars (l ++ m) h ↔ star (stars l) (stars m) h := by
  induction l with
  | nil => intro h; exact ⟨tt_star_self, fun s => stars_absorb m tt h s⟩
  | cons A l ih =>
    intro h
    simp only [List.cons_append, stars]
    rw [star_assoc]
    constructor
    · exact star_mono h (fun _ x => x) (fun h s => (ih h).1 s)
    · exact star_mono h (fun _ x => x) (fun h s => (ih h).2 s)
theorem stars_swap (A B : HA) (l : List HA) : stars (A :: B :: l) = stars (B :: A :: l) := by
  simp only [stars]; rw [← star_assoc, star_comm A B, star_assoc]
theorem stars_sel : ∀ (l : List HA) (i : Nat) (A : HA), l[i]? = some A → stars l = stars (A :: l.eraseIdx i)
  | [], i, A, h => by simp at h
  | B :: l, 0, A, h => by simp at h; simp [h]
  | B :: l, i + 1, A, h => by
    have := stars_sel l i A (by simpa using h)
    simp only [List.eraseIdx_cons_succ]
    rw [stars_swap]
    show star B (stars l) = star B (stars (A :: l.eraseIdx i))
    rw [this]
theorem stars_put : ∀ (l : List HA) (i : Nat) (A : HA), i < l.length → stars (A :: l.eraseIdx i) = stars (l.set i A)
  | [], i, A, h => by simp at h
  | B :: l, 0, A, h => by simp
  | B :: l, i + 1, A, h => by
    have := stars_put l i A (by simpa using h)
    simp only [List.eraseIdx_cons_succ, List.set_cons_succ]
    rw [stars_swap]
    show star B (stars (A :: l.eraseIdx i)) = star B (stars (l.set i A))
    rw [this]

def Ent (l m : List HA) : Prop := ∀ h, stars l h → stars m h
theorem Ent.refl (l : List HA) : Ent l l := fun _ s => s
theorem Ent.trans {l m k : List HA} (a : Ent l m) (b : Ent m k) : Ent l k := fun h s => b h (a h s)
theorem Ent.nil (l : List HA) : Ent l [] := fun _ _ => trivial
theorem Ent.sel {l m : List HA} {A : HA} (i : Nat) (h : l[i]? = some A) (r : Ent (l.eraseIdx i) m) : Ent l (A :: m) := by
  intro hp s
  rw [stars_sel l i A h] at s
  exact star_mono hp (fun _ x => x) r s
theorem Ent.sel' {l m : List HA} {A B : HA} (i : Nat) (h : l[i]? = some A) (e : ∀ hp, A hp → B hp) (r : Ent (l.eraseIdx i) m) : Ent l (B :: m) := by
  intro hp s
  rw [stars_sel l i A h] at s
  exact star_mono hp e r s
theorem Ent.cons {l m : List HA} {A : HA} (r : Ent l m) : Ent (A :: l) (A :: m) := fun hp s => star_mono hp (fun _ x => x) r s
theorem Ent.app {l l' m m' : List HA} (a : Ent l l') (b : Ent m m') : Ent (l ++ m) (l' ++ m') := fun h s =>
  (stars_app _ _ h).2 (star_mono h a b ((stars_app _ _ h).1 s))
theorem Ent.drop {l m : List HA} {A : HA} (r : Ent l m) : Ent (A :: l) m := fun h s => r h (stars_absorb l A h s)
theorem Ent.pr_in {l m : List HA} {p : Prop} (hp : p) (r : Ent l m) : Ent l (pr p :: m) := fun h s =>
  ⟨fun _ => none, h, fun _ => .inl rfl, (by funext i; simp [un]), hp, r h s⟩
theorem Ent.pr_out {l m : List HA} {p : Prop} (r : p → Ent l m) : Ent (pr p :: l) m := by
  rintro h ⟨a, b, d, rfl, hp, s⟩
  exact stars_absorb m tt _ ⟨a, b, d, rfl, trivial, r hp b s⟩
theorem Ent.fold (l m : List HA) : Ent (l ++ m) (l ++ [stars m]) := fun h s =>
  (stars_app _ _ h).2 (star_mono h (fun _ x => x) (fun _ x => star_tt x) ((stars_app _ _ h).1 s))
theorem Ent.unfold (l m : List HA) : Ent (l ++ [stars m]) (l ++ m) := fun h s =>
  (stars_app _ _ h).2 (star_mono h (fun _ x => x) (fun h x => by
    have x : star (stars m) tt h := x
    rw [star_comm] at x
    exact stars_absorb m tt h x) ((stars_app _ _ h).1 s))

def hpw (w : World) : Hp := fun b => w.heap[b]?
structure Sat (W : World) (H : List HA) (w : World) : Prop where
  os : w.os = W.os
  tape : w.tape = W.tape
  output : w.output = W.output
  size : W.heap.size ≤ w.heap.size
  hp : stars H (hpw w)
theorem Sat.ent {W w : World} {l m : List HA} (s : Sat W l w) (e : Ent l m) : Sat W m w := ⟨s.os, s.tape, s.output, s.size, e _ s.hp⟩
theorem Sat.drew {W w : World} {l : List HA} (s : Sat W l w) (n : Nat) : Sat W l { w with drawn := n } := ⟨s.os, s.tape, s.output, s.size, s.hp⟩
theorem Sat.pr_out {W w : World} {l : List HA} {p : Prop} (s : Sat W (pr p :: l) w) : p ∧ Sat W l w := by
  obtain ⟨a, b, _, _, hp, _⟩ := s.hp
  exact ⟨hp, s.ent (Ent.drop (Ent.refl _))⟩
theorem star_left_some {a b : Hp} {i : Nat} {o : Obj} (h : a i = some o) : un a b i = some o := by simp [un, h]
theorem star_right_some {a b : Hp} (d : dj a b) {i : Nat} {o : Obj} (h : b i = some o) : un a b i = some o := by
  rcases d i with e | e
  · simp [un, e, h]
  · rw [h] at e; cases e
theorem knows_at : ∀ (l : List HA) (i : Nat) (A : HA), l[i]? = some A → ∀ h, stars l h → ∃ a, A a ∧ ∀ j o, a j = some o → h j = some o := by
  intro l i A hi h s
  rw [stars_sel l i A hi] at s
  obtain ⟨a, b, d, rfl, ha, _⟩ := s
  exact ⟨a, ha, fun j o e => star_left_some e⟩
theorem Sat.at {W w : World} {l : List HA} (s : Sat W l w) {i : Nat} {A : HA} (h : l[i]? = some A) : ∃ a, A a ∧ ∀ j o, a j = some o → w.heap[j]? = some o :=
  knows_at l i A h _ s.hp
theorem Sat.pts_at {W w : World} {l : List HA} (s : Sat W l w) {i b : Nat} {o : Obj} (h : l[i]? = some (pts b o)) : w.heap[b]? = some o := by
  obtain ⟨a, ha, k⟩ := s.at h
  exact k _ _ ha

/-! ### 2. What is done to the heap -/
theorem Sat.new {W w : World} {l : List HA} (s : Sat W l w) (o : Obj) : Sat W (pts w.heap.size o :: l) { w with heap := w.heap.push o } := by
  refine ⟨s.os, s.tape, s.output, ?_, ?_⟩
  · have := s.size; simp; omega
  · refine ⟨fun i => if i = w.heap.size then some o else none, hpw w, ?_, ?_, ?_, s.hp⟩
    · intro i
      by_cases h : i = w.heap.size
      · right; subst h; simp [hpw]
      · left; simp [h]
    · funext i
      simp only [hpw, un, Array.getElem?_push]
      by_cases h : i = w.heap.size
      · subst h; simp
      · simp [h]
    · simp [pts]
theorem Sat.upd {W w : World} {l : List HA} {b : Nat} {o o' : Obj} (s : Sat W (pts b o :: l) w) : Sat W (pts b o' :: l) { w with heap := w.heap.setIfInBounds b o' } := by
  have hb : w.heap[b]? = some o := s.pts_at (i := 0) rfl
  have hlt : b < w.heap.size := (Array.getElem?_eq_some_iff.1 hb).1
  refine ⟨s.os, s.tape, s.output, by simpa using s.size, ?_⟩
  obtain ⟨a, r, d, e, ha, hr⟩ := s.hp
  refine ⟨fun i => if i = b then some o' else a i, r, ?_, ?_, ?_, hr⟩
  · intro i
    by_cases h : i = b
    · subst h
      rcases d i with x | x
      · have ha : a i = some o := ha
        rw [ha] at x; cases x
      · exact .inr x
    · simpa [h] using d i
  · funext i
    have := congrFun e i
    simp only [hpw] at this ⊢
    simp only [un] at this ⊢
    rw [Array.getElem?_setIfInBounds]
    by_cases h : i = b
    · subst h; simp [hlt]
    · have h' : ¬ b = i := fun x => h x.symm
      simp [h, h', this]
  · simp [pts]
theorem heap_modify_eq (h : Array Obj) (b : Nat) (f : Obj → Obj) (o : Obj) (e : h[b]? = some o) : h.modify b f = h.setIfInBounds b (f o) := by
  apply Array.ext_getElem?
  intro i
  rw [Array.getElem?_modify, Array.getElem?_setIfInBounds]
  have hlt : b < h.size := (Array.getElem?_eq_some_iff.1 e).1
  by_cases hi : b = i
  · subst hi
    have e2 : h[b] = o := by rw [Array.getElem?_eq_getElem hlt] at e; simpa using e
    simp [hlt, e2]
  · simp [hi]

/-! ### 3. Temporaries -/
abbrev Env := List (Nat × Value)
def lk : Env → Nat → Option Value
  | [], _ => none
  | (i, v) :: t, j => bif Nat.beq i j then some v else lk t j
def ev (E : Env) : Operand → Option Value
  | .tmp t => lk E t
  | .const v => some v
  | .global g => some (.pointer (some ⟨g, 0, none⟩))
  | .func f => some (.func (.func f) #[] #[])
structure Has (n : Nat) (ds : List Deferred) (E : Env) (a : Act) : Prop where
  size : a.tmps.size = n
  defers : a.defers = ds
  get : ∀ i v, lk E i = some v → a.tmps[i]? = some v
theorem Has.ev {n : Nat} {ds : List Deferred} {E : Env} {a : Act} (h : Has n ds E a) {x : Operand} {v : Value} (e : ev E x = some v) : a.eval x = v := by
  cases x with
  | tmp t =>
    have := h.get t v e
    simp [Act.eval, Array.getD_eq_getD_getElem?, this]
  | const v' => simpa [Go.Proofs.YtbcnegennmpliaaDoor.ev, Act.eval] using e
  | global g => simpa [Go.Proofs.YtbcnegennmpliaaDoor.ev, Act.eval] using e
  | func f => simpa [Go.Proofs.YtbcnegennmpliaaDoor.ev, Act.eval] using e
theorem Has.put {n : Nat} {ds : List Deferred} {E : Env} {a : Act} (h : Has n ds E a) {d : Nat} (v : Value) (hd : Nat.blt d n = true) : Has n ds ((d, v) :: E) (a.put (some d) v) := by
  have hd' : d < n := by simpa [Nat.blt_eq] using hd
  refine ⟨by simpa [Act.put] using h.size, h.defers, fun i u hi => ?_⟩
  simp only [Act.put]
  rw [Array.getElem?_setIfInBounds]
  simp only [lk] at hi
  by_cases e : d = i
  · subst e
    simp [h.size, hd'] at hi ⊢
    exact hi
  · have : Nat.beq d i = false := by
      rw [Bool.eq_false_iff]; intro x; exact e (Nat.eq_of_beq_eq_true x)
    rw [this] at hi
    simp only [cond_false] at hi
    rw [if_neg e]
    exact h.get i u hi
def Sub : Env → Env → Prop
  | [], _ => True
  | (i, v) :: t, E => lk E i = some v ∧ Sub t E
theorem Has.sub {n : Nat} {ds : List Deferred} {E E' : Env} {a : Act} (h : Has n ds E a) (s : Sub E' E) : Has n ds E' a := by
  refine ⟨h.size, h.defers, ?_⟩
  induction E' with
  | nil => intro i v e; simp [lk] at e
  | cons p t ih =>
    obtain ⟨j, u⟩ := p
    obtain ⟨h1, h2⟩ := s
    intro i v e
    simp only [lk] at e
    cases hb : Nat.beq j i with
    | true =>
      rw [hb] at e
      obtain rfl := Nat.eq_of_beq_eq_true hb
      simp only [cond_true, Option.some.injEq] at e
      subst e
      exact h.get _ _ h1
    | false =>
      rw [hb] at e
      exact ih h2 i v e

end Go.Proofs.YtbcnegennmpliaaDoor

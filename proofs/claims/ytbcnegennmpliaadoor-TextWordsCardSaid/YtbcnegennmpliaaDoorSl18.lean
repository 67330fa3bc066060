/- Keys that are structs. Conditions: as each says. -/
import Derived.Test.YtbcnegennmpliaaDoorSl17
namespace Go.Proofs.YtbcnegennmpliaaDoor
set_option linter.unusedVariables false
set_option linter.unusedSimpArgs false
open Go.RowKit
section
variable {P : Program}
def ChkK (P : Program) (t : TypeId) (v : Value) : Prop := ∀ e n w, (Instr.checkKey e (n + 1) t v).run P w = .ok () w
theorem chk_int {t : TypeId} {k j : IntKind} {x : Int} (hu : P.underlying t = some (.int k)) : ChkK P t (.int j x) := fun e n w => by rw [Instr.checkKey]; simp [underlying, program, Sem.run, hu]
theorem chk_bool {t : TypeId} {x : Bool} (hu : P.underlying t = some .bool) : ChkK P t (.bool x) := fun e n w => by rw [Instr.checkKey]; simp [underlying, program, Sem.run, hu]
theorem chk_str {t : TypeId} {x : List UInt8} (hu : P.underlying t = some .string) : ChkK P t (str x) := fun e n w => by rw [Instr.checkKey]; simp [underlying, program, Sem.run, hu, str]
def ChkF (P : Program) (cs : Array Value) : List Field → Prop
  | [] => True
  | f :: fs => (∃ v, (∀ w, (part f.type cs f.offset).run P w = .ok v w) ∧ ChkK P f.type v) ∧ ChkF P cs fs
theorem chk_fields {cs : Array Value} {e : Bool} {n : Nat} : ∀ (fs : List Field) (w : World), ChkF P cs fs →
    (forIn fs PUnit.unit fun f __s =>
            if f.name ≠ "_" then do
              let __do_lift ← part f.type cs f.offset
              Instr.checkKey e (n + 1) f.type __do_lift
              pure (ForInStep.yield PUnit.unit)
            else pure (ForInStep.yield PUnit.unit) : Sem PUnit).run P w = .ok PUnit.unit w
  | [], w, _ => by simp
  | f :: fs, w, ⟨⟨v, h1, h2⟩, h3⟩ => by
    have ih := chk_fields (e := e) (n := n) fs w h3
    rw [List.forIn_cons]
    by_cases hf : f.name = "_"
    · simp only [ne_eq, hf, not_true_eq_false, if_false, pure_bind]
      exact ih
    · simp only [ne_eq, hf, not_false_eq_true, if_true, Sem.run_bind, h1, Result.andThen_ok, h2 e n w, Sem.run_pure]
      exact ih
theorem chk_struct {t : TypeId} {fs : Array Field} {cs : Array Value} (hu : P.underlying t = some (.struct fs)) (h : ChkF P cs fs.toList) (e : Bool) (n : Nat) (w : World) : (Instr.checkKey e (n + 2) t (.agg cs)).run P w = .ok () w := by
  rw [Instr.checkKey]
  simp only [Sem.run_bind, underlying, program, Sem.run, hu, Result.andThen_ok, Sem.run_pure]
  rw [← Array.forIn_toList]
  have := chk_fields (e := e) (n := n) fs.toList w h
  rw [this]; rfl
theorem keyT_struct {t : TypeId} {fs : Array Field} {α : Type} [DecidableEq α] {ek : α → Value} {cs : α → Array Value} (hu : P.underlying t = some (.struct fs)) (he : ∀ x, ek x = .agg (cs x)) (hc : ∀ x, ChkF P (cs x) fs.toList) (hg : P.eqGuardType P.depth t = false)
    (hq : ∀ d x y w, (Op.equalIn (d + 2) t (.agg (cs x)) (.agg (cs y))).run P w = .ok (decide (x = y)) w) (hb : ∀ n x, Instr.sameBits (n + 1) (.agg (cs x)) (.agg (cs x)) = true) : KeyT P t ek := by
  refine ⟨fun e x w => ?_, ⟨_, hu, .inr ⟨fun x y => by rw [he, he]; rfl, fun x y w => ?_⟩⟩, fun x => by rw [he]; exact hb 9999 x⟩
  · rw [he]; exact chk_struct (n := 9998) hu (hc x) e w
  · rw [he, he]
    exact hq 9998 x y w
theorem bits_str (x : List UInt8) (n : Nat) : Instr.sameBits n (str x) (str x) = true := by unfold str; cases n <;> simp [Instr.sameBits, beq_toListBytes]
theorem bits_int (k : IntKind) (x : Int) (n : Nat) : Instr.sameBits n (.int k x) (.int k x) = true := by cases n <;> simp [Instr.sameBits]
theorem bits_bool (x : Bool) (n : Nat) : Instr.sameBits n (.bool x) (.bool x) = true := by cases n <;> simp [Instr.sameBits]
theorem bits_agg (l : List Value) (n : Nat) (h : ∀ x ∈ l, Instr.sameBits n x x = true) : Instr.sameBits (n + 1) (.agg l.toArray) (.agg l.toArray) = true := by
  rw [Instr.sameBits]
  simp only [beq_self_eq_true, Bool.true_and, List.all_eq_true]
  intro p hp
  obtain ⟨x, y⟩ := p
  have : x = y ∧ x ∈ l := by
    clear h
    induction l with
    | nil => simp at hp
    | cons a l ih =>
      simp only [List.zip_cons_cons, List.mem_cons, Prod.mk.injEq] at hp
      rcases hp with ⟨rfl, rfl⟩ | hp
      · simp
      · have := ih hp; exact ⟨this.1, by simp [this.2]⟩
  obtain ⟨rfl, h1⟩ := this
  exact h x h1
end
end Go.Proofs.YtbcnegennmpliaaDoor

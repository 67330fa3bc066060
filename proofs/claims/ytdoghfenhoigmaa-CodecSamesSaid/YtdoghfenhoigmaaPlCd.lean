/- The codec's plain laws: checks, texts, readings of entries, states, snapshots, commands, replies. Conditions: as each says. -/
import Derived.Test.YtdoghfenhoigmaaPlWt
namespace Go.Proofs.Ytdoghfenhoigmaa
set_option linter.unusedVariables false
set_option linter.unusedSimpArgs false
open Go.RowKit
/-- A number from least on. -/
def rg (x l : Int) : Prop := l ≤ x ∧ x ≤ 4611686018427387904
instance (x l : Int) : Decidable (rg x l) := by unfold rg; infer_instance
theorem rg_ok {x l : Int} (h : rg x l) (hl : 0 ≤ l) : okN x := ⟨Int.le_trans hl h.1, h.2⟩
theorem cwithin (x l : Int) : codec_within.f x l = some (decide (rg x l)) := by
  have : (decide (l ≤ x) && decide (x ≤ 4611686018427387904)) = decide (rg x l) := by rw [Bool.eq_iff_iff, Bool.and_eq_true, decide_eq_true_iff, decide_eq_true_iff, decide_eq_true_iff]; rfl
  unfold codec_within.f; rw [this]
theorem rwithin (x l m : Int) : synodref3_within.f x l m = some (decide (l ≤ x ∧ x ≤ m)) := by
  unfold synodref3_within.f; congr 1; rw [Bool.eq_iff_iff]; simp
theorem rwithin_rg (x l : Int) : synodref3_within.f x l 4611686018427387904 = some (decide (rg x l)) := rwithin x l _
/-! ### Checks -/
def chkE (t i kd : Int) (d : List UInt8) : Int := if ¬ (rg t 1 ∧ rg i 1) then 1 else if kd ≠ 0 ∧ kd ≠ 1 then 6 else if 4096 < (d.length : Int) then 3 else if kd = 0 ∧ 0 < (d.length : Int) then 4 else 0
def noneP (i t : Int) (d : List UInt8) : Prop := (i = 0 ∧ t = 0) ∧ (d.length : Int) = 0
instance (i t : Int) (d : List UInt8) : Decidable (noneP i t d) := by unfold noneP; infer_instance
def chkP (i t : Int) (d : List UInt8) : Int := if noneP i t d then 0 else if ¬ (rg i 1 ∧ rg t 1) then 1 else if 524288 < (d.length : Int) then 3 else 0
theorem ite_some {α : Type} {p : Prop} [Decidable p] {a b : α} {x : α} (h1 : p → a = x) (h2 : ¬ p → b = x) : (if p then some a else some b) = some x := by
  split
  · rw [h1 ‹_›]
  · rw [h2 ‹_›]
theorem cE (t i kd : Int) (d : List UInt8) : codec_Entries_Check.f t i kd d = some (chkE t i kd d) := by
  unfold codec_Entries_Check.f chkE
  simp only [cwithin, Option.bind_some]
  by_cases h1 : rg t 1 <;> by_cases h2 : rg i 1 <;> simp [h1, h2]
  by_cases h3 : kd = 0 <;> by_cases h4 : kd = 1 <;> simp [h3, h4] <;> (repeat' split) <;> simp_all <;> omega
theorem rE (t i kd : Int) (d : List UInt8) : synodref3_CheckEntry.f t i kd d = some (chkE t i kd d) := by
  rw [← cE]; unfold codec_Entries_Check.f synodref3_CheckEntry.f; simp only [cwithin, rwithin_rg]
theorem cnone (i t : Int) (d : List UInt8) : codec_none.f i t d = some (decide (noneP i t d)) := by
  unfold codec_none.f noneP; congr 1; rw [Bool.eq_iff_iff]; simp
theorem rnone (i t : Int) (d : List UInt8) : synodref3_None.f i t d = some (decide (noneP i t d)) := by
  unfold synodref3_None.f noneP; congr 1; rw [Bool.eq_iff_iff]; simp
theorem cP (i t : Int) (d : List UInt8) : codec_Snaps_Check.f i t d = some (chkP i t d) := by
  unfold codec_Snaps_Check.f chkP
  simp only [cwithin, cnone, Option.bind_some]
  by_cases h0 : noneP i t d
  · simp [h0]
  · by_cases h1 : rg i 1 <;> by_cases h2 : rg t 1 <;> simp [h0, h1, h2] <;> split <;> rfl
theorem rP (i t : Int) (d : List UInt8) : synodref3_CheckSnap.f i t d = some (chkP i t d) := by
  rw [← cP]; unfold codec_Snaps_Check.f synodref3_CheckSnap.f; simp only [cwithin, rwithin_rg, cnone, rnone]
theorem NumV (x : Int) : synodref_Num.f x = some x := rfl
theorem NumV' (x : Int) : synodref_Num.v x = x := rfl
end Go.Proofs.Ytdoghfenhoigmaa

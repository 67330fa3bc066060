/- Plain laws that the codec needs, too: copies, cuts, what a reading tells. Conditions: as each says. -/
import Derived.Test.YtdoghfenhoigmaaPlWire2
import Derived.SizedLaws
namespace Go.Proofs.Ytdoghfenhoigmaa
set_option linter.unusedVariables false
set_option linter.unusedSimpArgs false
open Go.RowKit
theorem bytesV_len (x : Int) : (bytesV x).length ≤ 9 := by
  unfold bytesV
  split
  · rename_i h; have := h.2; exact sv9 (by omega)
  · simp
theorem errV_zero (x : Int) : errV x = 0 ↔ okN x := by unfold errV; split <;> simp_all
theorem reach_lt : reachBytes < 2 ^ 47 := by decide
theorem Bytes_eq {x : List UInt8} (h : x.length ≤ 140737488355328) : synodref_Bytes.f x = some x := by
  unfold synodref_Bytes.f
  rw [if_pos (by simp; omega)]; rfl
theorem sv_front {n m : Nat} (hn : n ≤ 2 ^ 62) (hm : m ≤ 2 ^ 62) (r : List UInt8) (h : sv m = sv n ++ r) : n = m := by
  have h1 := dec_sv hn r
  have h2 := dec_sv hm []
  rw [← h, ← List.append_nil (sv m), h2] at h1
  have := congrArg (·.1) h1
  simp at this
  omega
theorem cut0 (l : List UInt8) (n : Nat) : cut l (0 : Int) (n : Int) = l.take n := by simp [cut]
theorem dec_ok {l : List UInt8} (h : (dec l).2.2 = 0) : ∃ i, lead l = i ∧ i < 9 ∧ i < l.length ∧ ¬ (0 < i ∧ (l.getD i 0).toNat = 0) ∧ part7 (i + 1) l ≤ 2 ^ 62 ∧ dec l = (((part7 (i + 1) l : Nat) : Int), ((i + 1 : Nat) : Int), (0 : Int)) := by
  by_cases h9 : 9 ≤ lead l
  · rw [dec_nine h9] at h; simp at h
  by_cases hs : l.length ≤ lead l
  · rw [dec_short (by omega) hs] at h; simp at h
  rw [dec_stop rfl (by omega) (by omega)] at h
  by_cases hz : 0 < lead l ∧ (l.getD (lead l) 0).toNat = 0
  · rw [if_pos hz] at h; simp at h
  rw [if_neg hz] at h
  by_cases hb : 2 ^ 62 < part7 (lead l + 1) l
  · rw [if_pos hb] at h; simp at h
  refine ⟨lead l, rfl, by omega, by omega, hz, by omega, ?_⟩
  rw [dec_stop rfl (by omega) (by omega), if_neg hz, if_neg hb]
theorem dec_bad {l : List UInt8} (h : ¬ (dec l).2.2 = 0) : (dec l).1 = 0 ∧ (dec l).2.1 = 0 := by
  by_cases h9 : 9 ≤ lead l
  · rw [dec_nine h9]; exact ⟨rfl, rfl⟩
  by_cases hs : l.length ≤ lead l
  · rw [dec_short (by omega) hs]; exact ⟨rfl, rfl⟩
  rw [dec_stop rfl (by omega) (by omega)] at h ⊢
  by_cases hz : 0 < lead l ∧ (l.getD (lead l) 0).toNat = 0
  · rw [if_pos hz]; exact ⟨rfl, rfl⟩
  rw [if_neg hz] at h ⊢
  by_cases hb : 2 ^ 62 < part7 (lead l + 1) l
  · rw [if_pos hb]; exact ⟨rfl, rfl⟩
  · rw [if_neg hb] at h; exact absurd rfl h
theorem cutN (l : List UInt8) (p n : Nat) : cut l (p : Int) ((p + n : Nat) : Int) = (l.drop p).take n := by
  simp only [cut, Int.toNat_natCast]
  rw [List.drop_take]
  congr 1
  omega
end Go.Proofs.Ytdoghfenhoigmaa

/- The plain law DiskFull. Conditions: none. -/
import Derived.Test.YtkkbgcocpkipjaaPlDkG
namespace Go.Proofs.Ytkkbgcocpkipjaa
set_option linter.unusedVariables false
set_option linter.unusedSimpArgs false
open Go.RowKit
theorem create_arm {fs : FSt} (l : List UInt8) {a : Int} (ha : 0 ≤ a ∧ a < 2 ^ 63) (d : Bool) (x : List UInt8) : 0 ≤ (createM fs l a d x).2.2.2.1 ∧ (createM fs l a d x).2.2.2.1 < 2 ^ 63 := by
  have : 0 ≤ (failsM l a d).2.2.1 ∧ (failsM l a d).2.2.1 < 2 ^ 63 := by
    unfold failsM
    split
    · exact ha
    · rw [w64 (by omega) (by omega)]; simp only; omega
  unfold createM
  repeat' split
  all_goals first | exact ha | exact this
theorem append_arm {fs : FSt} (l : List UInt8) {a : Int} (ha : 0 ≤ a ∧ a < 2 ^ 63) (d : Bool) (x b : List UInt8) : 0 ≤ (appendM fs l a d x b).2.2.2.1 ∧ (appendM fs l a d x b).2.2.2.1 < 2 ^ 63 := by
  have : 0 ≤ (failsM l a d).2.2.1 ∧ (failsM l a d).2.2.1 < 2 ^ 63 := by
    unfold failsM
    split
    · exact ha
    · rw [w64 (by omega) (by omega)]; simp only; omega
  unfold appendM
  repeat' split
  all_goals first | exact ha | exact this
theorem num_v (x : Int) : synodref_Num.v x = x := rfl
theorem full_loop (xs : List (List UInt8)) (hl : xs.length < 2 ^ 60) : ∀ (d i k : Nat) (s : DS), i + d = xs.length → d + 400 ≤ k → InvN 256 s.1 → 0 ≤ s.2.2.1 ∧ s.2.2.1 < 2 ^ 63 →
    ∃ t : DS, synodlaw4_DiskFull.l0 xs k (i : Int) (filesM s.1) s.2.2.1 s.2.2.2 s.2.1 s.1 s.2.1 s.2.2.1 s.2.2.2 = some (.inl (filesM t.1, t.2.2.1, t.2.2.2, t.2.1, t)) ∧ InvN 256 t.1 ∧ 0 ≤ t.2.2.1 ∧ t.2.2.1 < 2 ^ 63
  | d, i, 0, s, _, hk, _, _ => by omega
  | 0, i, k + 1, s, h, _, hs, ha => by
    refine ⟨s, ?_, hs, ha⟩
    simp only [synodlaw4_DiskFull.l0]
    rw [if_neg (by omega)]
  | d + 1, i, k + 1, s, h, hk, hs, ha => by
    have hi : i < xs.length := by omega
    simp only [synodlaw4_DiskFull.l0]
    rw [if_pos (by omega), if_pos (by omega), wi1 (by omega), Int.toNat_natCast]
    obtain ⟨x, hx⟩ : ∃ x, xs.getD i ([] : List UInt8) = x := ⟨_, rfl⟩
    simp only [hx]
    by_cases hlen : (40 : Int) < (x.length : Int)
    · rw [if_pos hlen]
      exact full_loop xs hl d (i + 1) k s (by omega) (by omega) hs ha
    · rw [if_neg hlen, if_pos (by omega), Create_eq _ _ _ _ _ (by omega) (by omega), Option.bind_some, if_pos (by omega), rcreate_eq hs _ ha.1 _ _ (by omega) (by omega), Option.bind_some, num_v]
      simp only [outR, if_true]
      exact full_loop xs hl d (i + 1) k (createM s.1 s.2.1 s.2.2.1 s.2.2.2 x).2 (by omega) (by omega) (inv_create hs _ _ _ _) (create_arm _ ha _ _)
theorem some5 (q : Int) : ∃ r : Int, IntKind.i64.wrap (16777216 + (IntKind.i64.wrap ((Int.tmod (IntKind.i64.wrap ((Int.tmod q 5) + 5)) 5) - 2))) = r ∧ 16777214 ≤ r ∧ r ≤ 16777218 := by
  have h1 := Int.tmod_lt_of_pos q (show (0 : Int) < 5 by decide)
  have h2 : -5 < Int.tmod q 5 := by
    have := Int.tmod_lt_of_pos (-q) (show (0 : Int) < 5 by decide)
    rw [Int.neg_tmod] at this
    omega
  rw [w64 (n := Int.tmod q 5 + 5) (by omega) (by omega)]
  have h3 := Int.tmod_lt_of_pos (Int.tmod q 5 + 5) (show (0 : Int) < 5 by decide)
  have h4 := Int.tmod_nonneg 5 (show (0 : Int) ≤ Int.tmod q 5 + 5 by omega)
  rw [w64 (n := Int.tmod (Int.tmod q 5 + 5) 5 - 2) (by omega) (by omega), w64 (by omega) (by omega)]
  exact ⟨_, rfl, by omega, by omega⟩
theorem pure_DiskFull {Q : List UInt8 → Prop} (xs : List (List UInt8)) (h : xs.length * 16 ≤ reachBytes ∧ ∀ e ∈ xs, Q e) (q : Int) (hq : (Lit.int .i64 q).wf = true) : ∃ k, synodlaw4_DiskFull.f k xs q = some true := by
  obtain ⟨k, hk0⟩ : ∃ k, k = xs.length + 40000000 + 60 := ⟨_, rfl⟩
  have hf : synodlaw4_first.f k = some true := by rw [hk0]; exact first_eq (xs.length + 40000000)
  refine ⟨k, ?_⟩
  have hk : xs.length + 40000000 ≤ k := by omega
  clear hk0
  unfold synodlaw4_DiskFull.f
  rw [hf, Option.bind_some]
  simp only [Bool.not_true, Bool.false_or]
  by_cases hl : (300 : Int) < (xs.length : Int)
  · rw [if_pos (by simp; omega)]
  rw [if_neg (by simp; omega), show disk_New.f = some d0 from rfl, Option.bind_some]
  obtain ⟨t, h1, h2, h3⟩ := full_loop xs (by omega) xs.length 0 k d0 (by omega) (by omega) (inv0 256) (by decide)
  have e0 : filesM d0.1 = [] := by simp [filesM, keysS, d0]
  rw [e0] at h1
  rw [show synodlaw4_DiskFull.l0 xs k 0 ([] : List FileT) 0 false ([] : List UInt8) d0.1 d0.2.1 d0.2.2.1 d0.2.2.2 = _ from h1]
  simp only [orR]
  by_cases h0 : ((filesM t.1).length : Int) = (0 : Int)
  · rw [if_pos h0]
  rw [if_neg h0, if_pos (by omega)]
  obtain ⟨r, hr, r1, r2⟩ := some5 q
  rw [hr, if_pos (by omega)]
  obtain ⟨x, hx⟩ : ∃ x, ((filesM t.1).getD (0 : Int).toNat dz36).1 = x := ⟨_, rfl⟩
  obtain ⟨b, hb⟩ : ∃ b, List.replicate r.toNat (0 : UInt8) = b := ⟨_, rfl⟩
  have hbl : b.length = r.toNat := by rw [← hb, List.length_replicate]
  simp only [hx, hb]
  have i1 := inv_append h2 t.2.1 t.2.2.1 t.2.2.2 x b
  have a1 := append_arm (fs := t.1) t.2.1 h3 t.2.2.2 x b
  rw [Append_eq h2 _ _ _ _ _ (by omega), rappend_eq h2 (by decide) _ h3.1 _ _ _ (by omega) (by omega)]
  simp only [Option.bind_some, outR]
  generalize appendM t.1 t.2.1 t.2.2.1 t.2.2.2 x b = u at i1 a1
  have i2 := inv_append i1 u.2.2.1 u.2.2.2.1 u.2.2.2.2 x [1]
  rw [Append_eq i1 _ _ _ _ _ (by decide), rappend_eq i1 (by decide) _ a1.1 _ _ _ (by decide) (by omega)]
  simp only [Option.bind_some, outR]
  generalize appendM u.2.1 u.2.2.1 u.2.2.2.1 u.2.2.2.2 x [1] = v at i2
  rw [Size_eq i2, rsize_eq i2 (by decide) _ _ _ (by omega), List_eq i2 (by decide)]
  simp only [num_v, decide_true, Bool.and_self, beq_self_eq_true, if_true, Option.bind_some, filesM_len, keysS_len]
end Go.Proofs.Ytkkbgcocpkipjaa

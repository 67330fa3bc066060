/- The plain law LinChecks. Conditions: as it says. -/
import Derived.Test.YtlblpegbgbgliaaPlLwW0
namespace Go.Proofs.Ytlblpegbgbgliaa
set_option linter.unusedVariables false
set_option linter.unusedSimpArgs false
open Go.RowKit
theorem over_loop : ∀ (d i k : Nat) (z : List (List UInt8)), i + d = z.length → z.length ≤ 600 → d + 1 ≤ k → synodlaw16_LinChecks.l0 k z (i : Int) = some ()
  | d, i, 0, z, _, _, hk => by omega
  | 0, i, k + 1, z, hd, _, _ => by
    simp only [synodlaw16_LinChecks.l0]
    rw [if_neg (by omega)]
  | d + 1, i, k + 1, z, hd, hz, hk => by
    simp only [synodlaw16_LinChecks.l0]
    rw [if_pos (by omega), if_pos (by omega), w64 (n := (i : Int) + 1) (by omega) (by omega)]
    exact over_loop d (i + 1) k _ (by simp; omega) (by simpa using hz) (by omega)
theorem checks_l1 {h : List OpT} (hh : h.length ≤ 600) : ∀ (d i k : Nat), i + d = h.length → d + 1 ≤ k → synodlaw16_LinChecks.l1 h k (i : Int) = some (.inl ())
  | d, i, 0, _, hk => by omega
  | 0, i, k + 1, hd, _ => by
    simp only [synodlaw16_LinChecks.l1]
    rw [if_neg (by omega)]
  | d + 1, i, k + 1, hd, hk => by
    have ih := checks_l1 hh d (i + 1) k (by omega) (by omega)
    have e : ((i : Int) + 1) = ((i + 1 : Nat) : Int) := by omega
    simp only [synodlaw16_LinChecks.l1, List.nil_append]
    rw [if_pos (by omega), if_pos (by omega), if_pos (by omega), w64 (n := (i : Int) + 1) (by omega) (by omega), e]
    have hcv : ∀ x : OpT, lin_Counts.v x.1 x.2.1 x.2.2.1 x.2.2.2.1 x.2.2.2.2.1 x.2.2.2.2.2.1 x.2.2.2.2.2.2.1 x.2.2.2.2.2.2.2.1 x.2.2.2.2.2.2.2.2.1 x.2.2.2.2.2.2.2.2.2 = cnt x := fun x => by unfold lin_Counts.v; rw [cnt_eq]; rfl
    have hrv : ∀ x : OpT, synodref16_Counts.v x.1 x.2.1 x.2.2.1 x.2.2.2.1 x.2.2.2.2.1 x.2.2.2.2.2.1 x.2.2.2.2.2.2.1 x.2.2.2.2.2.2.2.1 x.2.2.2.2.2.2.2.2.1 x.2.2.2.2.2.2.2.2.2 = cnt x := fun x => by unfold synodref16_Counts.v; rw [rcnt_eq]; rfl
    obtain ⟨x, hx⟩ : ∃ x, h.getD (i : Int).toNat op0 = x := ⟨_, rfl⟩
    simp only [hx, hcv, hrv]
    simp only [decide_true, Bool.and_self, Bool.not_true, Bool.false_eq_true, if_false]
    rw [if_pos (by omega)]
    simp only [beq_self_eq_true, Bool.not_true, Option.bind_some, Bool.false_eq_true, if_false]
    rw [if_pos (by omega), Option.bind_some, if_neg (by simp)]
    exact ih
theorem pure_LinChecks (h : List OpT) (hh : h.length * 112 ≤ reachBytes ∧ ∀ e ∈ h, Ok35 e) (hu : Mu.mu h ≤ 1048576) : ∃ k, synodlaw16_LinChecks.f k h = some true := by
  refine ⟨9940 + 60, ?_⟩
  have hr : reachBytes < 2 ^ 47 := by decide
  have hl : ∀ x ∈ h, (oKey x).length ≤ 140737488351232 := fun x hx => (hh.2 x hx).2.2.2.1
  unfold synodlaw16_LinChecks.f
  obtain ⟨b, hf, hb⟩ := few_eq (h := h) (by omega) (show 500 ≤ 9940 + 60 by decide)
  rw [first_eq 9940, Option.bind_some, hf, Option.bind_some]
  split
  · rfl
  · rename_i hc
    have hbt : b = true := by cases b <;> simp_all
    have h6 := hb hbt
    have hkl := keysL_len h
    have hover := over_loop (keysL h).length 0 (9940 + 60) (keysL h) (by omega) (by omega) (by omega)
    have hl1 := checks_l1 h6 h.length 0 (9940 + 60) (by omega) (by omega)
    rw [show ((0 : Nat) : Int) = 0 from rfl] at hover hl1
    rw [if_pos (by simp; omega), List.nil_append, valid_eq (by omega) hl (by omega), Option.bind_some, Check_eq h6 hl (by omega), Option.bind_some, keys_eq (by omega) hl (by omega), Option.bind_some,
      rkeys_eq h6 (by omega), Option.bind_some, SameTexts_eq (by omega) (by omega), Option.bind_some, hover, Option.bind_some, hl1]
    simp only [orR]
    rw [rvalid_eq (by omega) (by omega), Option.bind_some]
    by_cases hv : validL h = 0
    · rw [if_pos hv, rcheck_eq h6 (validL_12 hv).2.2 (by omega)]
      simp [num_eq, hv]
    · rw [if_neg hv]
      simp [num_eq, hv]
end Go.Proofs.Ytlblpegbgbgliaa

/- The plain law LinTurned. Conditions: as it says. -/
import Derived.Test.YtlblpegbgbgliaaPlLin6
import Derived.Test.YtlblpegbgbgliaaPlLwW0
namespace Go.Proofs.Ytlblpegbgbgliaa
set_option linter.unusedVariables false
set_option linter.unusedSimpArgs false
open Go.RowKit
theorem turned_l0 {h : List OpT} {s : List Int} (hh : h.length ≤ 600) (hs : s.length < 2 ^ 62) : ∀ (i k : Nat) (acc : List OpT), i ≤ h.length → acc.length + i ≤ 600 → i + 1 ≤ k →
    ∃ r, synodlaw16_LinTurned.l0 h s k acc ((i : Int) - 1) = some r ∧ r.map (·.2.2) = acc.map (·.2.2) ++ ((h.take i).map (·.2.2)).reverse
  | i, 0, _, _, _, hk => by omega
  | 0, k + 1, acc, _, _, _ => by
    simp only [synodlaw16_LinTurned.l0]
    rw [if_neg (by omega)]
    exact ⟨acc, rfl, by simp⟩
  | i + 1, k + 1, acc, hi, ha, hk => by
    have ih := fun acc ha => turned_l0 hh hs i k acc (by omega) ha (by omega)
    have e : (((i + 1 : Nat) : Int) - 1) = (i : Int) := by omega
    simp only [synodlaw16_LinTurned.l0]
    rw [e, if_pos (by omega), if_pos (by omega), w64 (n := (i : Int) - 1) (by omega) (by omega)]
    simp only [Int.toNat_natCast]
    have hp : ∃ p : Int × Int, ((if (0 : Int) < (s.length : Int) then (if (s.length : Int) ≠ 0 then (if 0 ≤ Int.tmod (i : Int) (s.length : Int) ∧ Int.tmod (i : Int) (s.length : Int) < (s.length : Int) then (if (s.length : Int) ≠ 0 then (if 0 ≤ Int.tmod (IntKind.i64.wrap ((i : Int) + 1)) (s.length : Int) ∧ Int.tmod (IntKind.i64.wrap ((i : Int) + 1)) (s.length : Int) < (s.length : Int) then (some ((s.getD (Int.tmod (i : Int) (s.length : Int)).toNat (0 : Int)), (s.getD (Int.tmod (IntKind.i64.wrap ((i : Int) + 1)) (s.length : Int)).toNat (0 : Int)))) else none) else none) else none) else none) else (some ((h.getD i dz35).1, (h.getD i dz35).2.1))) : Option (Int × Int)) = some p := by
      by_cases h0 : (0 : Int) < (s.length : Int)
      · have hne : (s.length : Int) ≠ 0 := by omega
        rw [if_pos h0, if_pos hne, if_pos ⟨Int.tmod_nonneg _ (by omega), Int.tmod_lt_of_pos _ h0⟩, if_pos hne, w64 (n := (i : Int) + 1) (by omega) (by omega), if_pos ⟨Int.tmod_nonneg _ (by omega), Int.tmod_lt_of_pos _ h0⟩]
        exact ⟨_, rfl⟩
      · rw [if_neg h0]; exact ⟨_, rfl⟩
    obtain ⟨p, hp⟩ := hp
    rw [hp, Option.bind_some, if_pos (by simp; omega)]
    obtain ⟨r, h1, h2⟩ := ih (acc ++ [(p.1, p.2, (h.getD i op0).2.2)]) (by simp; omega)
    refine ⟨r, h1, ?_⟩
    have hil : i < h.length := by omega
    rw [h2, List.take_succ_eq_append_getElem hil, getD_at hil, List.map_append, List.map_append, List.reverse_append, List.append_assoc]
    rfl
theorem less_l1 {h : List OpT} (hh : h.length ≤ 600) : ∀ (d i k : Nat) (acc : List OpT), i + d = h.length → acc.length ≤ i → d + 1 ≤ k → synodlaw16_LinTurned.l1 h k acc (i : Int) = some (acc ++ (h.drop i).filter cnt)
  | d, i, 0, _, _, _, hk => by omega
  | 0, i, k + 1, acc, hd, _, _ => by
    simp only [synodlaw16_LinTurned.l1]
    rw [if_neg (by omega), List.drop_of_length_le (by omega)]; simp
  | d + 1, i, k + 1, acc, hd, ha, hk => by
    have ih := fun acc ha => less_l1 hh d (i + 1) k acc (by omega) ha (by omega)
    have e : ((i : Int) + 1) = ((i + 1 : Nat) : Int) := by omega
    simp only [synodlaw16_LinTurned.l1]
    rw [if_pos (by omega), if_pos (by omega), w64 (n := (i : Int) + 1) (by omega) (by omega), e, drop_at (show i < h.length by omega) op0]
    simp only [Int.toNat_natCast]
    obtain ⟨x, hx⟩ : ∃ x, h.getD i op0 = x := ⟨_, rfl⟩
    simp only [hx]
    rw [cnt_eq x, Option.bind_some, List.filter_cons]
    by_cases hc : cnt x = true
    · rw [if_pos hc, if_pos (by omega), if_pos (by simp; omega), ih _ (by simp; omega), if_pos hc]
      simp
    · rw [if_neg hc, ih _ (by omega), if_neg hc]
theorem pure_LinTurned (h : List OpT) (hh : h.length * 112 ≤ reachBytes ∧ ∀ e ∈ h, Ok35 e) (s : List Int) {Q : Int → Prop} (hs : s.length * 8 ≤ reachBytes ∧ ∀ e ∈ s, Q e) (hu : Mu.mu h + Mu.mu s ≤ 1048576) : ∃ k, synodlaw16_LinTurned.f k h s = some true := by
  refine ⟨9940 + 60, ?_⟩
  have hr : reachBytes < 2 ^ 47 := by decide
  have hl : ∀ x ∈ h, (oKey x).length ≤ 140737488351232 := fun x hx => (hh.2 x hx).2.2.2.1
  unfold synodlaw16_LinTurned.f
  obtain ⟨b, hf, hb⟩ := few_eq (h := h) (by omega) (show 500 ≤ 9940 + 60 by decide)
  rw [first_eq 9940, Option.bind_some, hf, Option.bind_some]
  split
  · rfl
  · rename_i hc
    have hbt : b = true := by cases b <;> simp_all
    have h6 := hb hbt
    obtain ⟨yes, c1, c2, c3⟩ := Check_eq' h6 hl (show 7000 ≤ 9940 + 60 by decide)
    rw [c1, Option.bind_some, num_eq, Option.bind_some]
    by_cases hv : validL h = 0
    · rw [if_pos hv, w64 (by omega) (by omega)]
      obtain ⟨t, t1, t2⟩ := turned_l0 (h := h) (s := s) h6 (by omega) h.length (9940 + 60) [] (by omega) (by simp; omega) (by omega)
      rw [List.take_of_length_le (Nat.le_refl _), List.map_nil, List.nil_append] at t2
      have l1 := less_l1 h6 h.length 0 (9940 + 60) [] (by omega) (by simp) (by omega)
      rw [show ((0 : Nat) : Int) = 0 from rfl, List.drop_zero, List.nil_append] at l1
      have hp : (t.map (·.2.2)).Perm (h.map (·.2.2)) := by rw [t2]; exact List.reverse_perm _
      have hp' := hp.symm
      have htl : t.length = h.length := by have := hp.length_eq; simpa using this
      have vt := valid_perm hp hv
      have vl := valid_sub (List.filter_sublist (p := cnt) (l := h)) hv
      obtain ⟨y1, a1, a2, a3⟩ := Check_eq' (h := t) (by omega) (fun x hx => by
        obtain ⟨y, hy, e⟩ := mem_perm hp hx
        have := hl y hy
        simp only [oKey] at this ⊢
        rw [e]; exact this) (show 7000 ≤ 9940 + 60 by decide)
      obtain ⟨y2, b1, b2, b3⟩ := Check_eq' (h := h.filter cnt) (Nat.le_trans (List.length_filter_le _ _) h6) (fun x hx => hl x (List.mem_filter.1 hx).1) (show 7000 ≤ 9940 + 60 by decide)
      rw [t1, Option.bind_some, l1, Option.bind_some, a1, Option.bind_some, b1, Option.bind_some]
      have e1 : y1 = yes := by
        rw [Bool.eq_iff_iff, a2 vt, c2 hv]
        exact ⟨judged_perm hp', judged_perm hp⟩
      have e2 : y2 = yes := by
        rw [Bool.eq_iff_iff, b2 vl, c2 hv]
        exact judged_less h
      rw [e1, e2, vt, vl]
      simp [num_eq]
    · rw [if_neg hv, c3 hv]; rfl
end Go.Proofs.Ytlblpegbgbgliaa

/- The plain law LinKeys. Conditions: as it says. -/
import Derived.Test.YtlblpegbgbgliaaPlLin6
import Derived.Test.YtlblpegbgbgliaaPlLwW0
namespace Go.Proofs.Ytlblpegbgbgliaa
set_option linter.unusedVariables false
set_option linter.unusedSimpArgs false
open Go.RowKit
def oneK (h : List OpT) (key : List UInt8) : List OpT := h.filter fun x => decide (oKey x = key)
def atN (h : List OpT) (key : List UInt8) : List Nat := (List.range' 0 h.length).filter fun j => decide (oKey (h.getD j op0) = key)
theorem keysone_l1 {h : List OpT} {ks : List (List UInt8)} {s : Bool × Int} {key : List UInt8} (hh : h.length ≤ 600) (hs : 0 ≤ s.2 ∧ s.2 < (ks.length : Int)) (hk : ks.getD s.2.toNat [] = key) : ∀ (d i k : Nat) (a1 : List OpT) (a2 : List Int), i + d = h.length → a1.length ≤ i → a2.length ≤ i → d + 1 ≤ k →
    synodlaw16_LinKeys.l1 h ks s k a1 a2 (i : Int) = some (a1 ++ (h.drop i).filter (fun x => decide (oKey x = key)), a2 ++ ((List.range' i d).filter fun j => decide (oKey (h.getD j op0) = key)).map fun (j : Nat) => (j : Int))
  | d, i, 0, _, _, _, _, _, hk => by omega
  | 0, i, k + 1, a1, a2, hd, _, _, _ => by
    simp only [synodlaw16_LinKeys.l1]
    rw [if_neg (by omega), List.drop_of_length_le (by omega)]; simp
  | d + 1, i, k + 1, a1, a2, hd, h1, h2, hkk => by
    have ih := fun a1 a2 h1 h2 => keysone_l1 hh hs hk d (i + 1) k a1 a2 (by omega) h1 h2 (by omega)
    have e : ((i : Int) + 1) = ((i + 1 : Nat) : Int) := by omega
    simp only [synodlaw16_LinKeys.l1]
    rw [if_pos (by omega), if_pos (by omega), if_pos hs, w64 (n := (i : Int) + 1) (by omega) (by omega), e, drop_at (show i < h.length by omega) op0, List.range'_succ, List.filter_cons, List.filter_cons]
    simp only [Int.toNat_natCast, hk]
    obtain ⟨x, hx⟩ : ∃ x, h.getD i op0 = x := ⟨_, rfl⟩
    simp only [hx]
    by_cases hc : oKey x = key
    · rw [if_pos hc, if_pos (by omega), if_pos (by simp; omega), if_pos (by simp; omega), ih _ _ (by simp; omega) (by simp; omega), if_pos (decide_eq_true hc), if_pos (decide_eq_true hc)]
      simp
    · rw [if_neg hc, ih _ _ (by omega) (by omega), if_neg (by rw [decide_eq_false hc]; simp), if_neg (by rw [decide_eq_false hc]; simp)]
theorem oneK_at (h : List OpT) (key : List UInt8) : oneK h key = (atN h key).map fun j => h.getD j op0 := by
  unfold oneK atN
  have e : h.filter (fun x => decide (oKey x = key)) = ((List.range' 0 h.length).map (fun i => h.getD i op0)).filter (fun x => decide (oKey x = key)) := by rw [range'_at]
  rw [e, List.filter_map]
  rfl
theorem map_getD (l : List Nat) : (List.range' 0 l.length).map (fun i => l.getD i 0) = l := by
  rw [← List.range_eq_range']
  apply List.ext_getElem
  · simp
  · intro i h1 h2; simp [h2]
theorem ofL_one (h : List OpT) (key : List UInt8) : ofL h key = (ofL (oneK h key) key).map fun a => ((atN h key).map fun (j : Nat) => (j : Int)).getD a.toNat 0 := by
  have hl : (oneK h key).length = (atN h key).length := by rw [oneK_at]; simp
  unfold ofL ofR
  rw [List.map_map, hl]
  have e1 : (List.range' 0 (atN h key).length).filter (inK (oneK h key) key) = (List.range' 0 (atN h key).length).filter ((inK h key) ∘ fun i => (atN h key).getD i 0) := by
    refine List.filter_congr fun j hj => ?_
    have hj' : j < (atN h key).length := by have := List.mem_range'_1.1 hj; omega
    unfold inK
    have : (oneK h key).getD j op0 = h.getD ((atN h key).getD j 0) op0 := by
      rw [getD_at (l := oneK h key) (by omega), getD_at hj']
      simp [oneK_at]
    rw [this]; rfl
  have e2 : (atN h key).filter (inK h key) = (List.range' 0 h.length).filter (inK h key) := by
    unfold atN
    rw [List.filter_filter]
    refine List.filter_congr fun j _ => ?_
    unfold inK
    cases decide (oKey (h.getD j op0) = key) <;> simp
  rw [e1, ← e2]
  have e3 : (atN h key).filter (inK h key) = ((List.range' 0 (atN h key).length).map (fun i => (atN h key).getD i 0)).filter (inK h key) := by rw [map_getD]
  rw [e3, List.filter_map, List.map_map]
  refine List.map_congr_left fun j hj => ?_
  have hj' : j < (atN h key).length := by have := List.mem_range'_1.1 (List.mem_filter.1 hj).1; omega
  simp [hj']
theorem filter_one (h : List OpT) (key : List UInt8) : (oneK h key).filter (kp key) = h.filter (kp key) := by
  unfold oneK
  rw [List.filter_filter]
  refine List.filter_congr fun x _ => ?_
  unfold kp
  cases decide (oKey x = key) <;> simp
theorem judged_one (h : List OpT) (key : List UInt8) : Judged (oneK h key) ↔ LinP (h.filter (kp key)) := by
  constructor
  · intro hj
    have := hj key
    rwa [filter_one] at this
  · intro hl k2
    by_cases e : k2 = key
    · subst e; rwa [filter_one]
    · rw [List.filter_eq_nil_iff.2]
      · exact LinP.nil
      · intro x hx
        have := (List.mem_filter.1 hx).2
        have := of_decide_eq_true this
        unfold kp
        rw [decide_eq_false (by rw [this]; exact fun h => e h.symm)]; simp
theorem expl_one {h : List OpT} {key : List UInt8} (hv : validL h = 0) : (explL (oneK h key) key).2 = (explL h key).2 ∧ (explL h key).1 = (explL (oneK h key) key).1.map (fun a => ((atN h key).map fun (j : Nat) => (j : Int)).getD a.toNat 0) ∧
    (∀ a ∈ (explL (oneK h key) key).1, 0 ≤ a ∧ a < ((atN h key).length : Int)) ∧ (explL h key).1.length ≤ 5000 := by
  obtain ⟨v1, v2, v3⟩ := validL_12 hv
  have hv1 := valid_sub (List.filter_sublist (p := fun x => decide (oKey x = key)) (l := h)) hv
  obtain ⟨w1, w2, w3⟩ := validL_12 hv1
  have hl : (oneK h key).length = (atN h key).length := by rw [oneK_at]; simp
  have ho : opsL (oneK h key) key = opsL h key := by rw [opsL_eq, opsL_eq, filter_one]
  have hlen : (ofL (oneK h key) key).length = (ofL h key).length := by rw [← opsL_len, ho, opsL_len]
  rcases (explain_eq (h := h) (key := key) (by omega) (v3 key) (Nat.le_refl 6000)).2 with ⟨o, a1, a2⟩ | ⟨a1, a2⟩ <;> rcases (explain_eq (h := oneK h key) (key := key) (by unfold oneK; omega) (w3 key) (Nat.le_refl 6000)).2 with ⟨o', b1, b2⟩ | ⟨b1, b2⟩
  · rw [ho] at b1
    have := a1.one b1
    subst this
    have hlt : ∀ j ∈ o, j < (ofL h key).length := fun j hj => by rw [← opsL_len]; exact comp_lt a1.1 j hj
    have hol := comp_len (Nat.two_pow_pos _) a1.1
    have h12 : 2 ^ (opsL h key).length ≤ 2 ^ 12 := Nat.pow_le_pow_right (by decide) (by rw [opsL_len]; exact v3 key)
    rw [a2, b2]
    refine ⟨rfl, ?_, ?_, by simp; omega⟩
    · simp only [List.map_map]
      refine List.map_congr_left fun j hj => ?_
      have hj' := hlt j hj
      have e := ofL_one h key
      rw [getD_at hj']
      have e4 : (ofL h key)[j] = ((ofL (oneK h key) key).map fun a => ((atN h key).map fun (j : Nat) => (j : Int)).getD a.toNat 0)[j]'(by rw [← e]; exact hj') := by
        congr 1
      rw [e4, List.getElem_map]
      show _ = ((atN h key).map fun (j : Nat) => (j : Int)).getD ((ofL (oneK h key) key).getD j 0).toNat 0
      rw [getD_at (l := ofL (oneK h key) key) (by omega)]
    · intro a ha
      obtain ⟨j, hj, rfl⟩ := List.mem_map.1 ha
      obtain ⟨i, e1, e2, _⟩ := ofL_at (h := oneK h key) (key := key) (j := j) (by rw [hlen]; exact hlt j hj)
      rw [e1]; omega
  · rw [ho] at b1; exact absurd a1.1 (b1 _)
  · rw [ho] at b1; exact absurd b1.1 (a1 _)
  · rw [a2, b2]; exact ⟨rfl, rfl, fun a ha => absurd ha (by simp), by simp⟩
theorem keys_l2 {s30 : List OpT × List Int} {s107 s118 : List Int × Bool × Int} (hl : s107.1.length ≤ 5000) (hm : s118.1 = s107.1.map fun a => s30.2.getD a.toNat 0) (hb : ∀ a ∈ s107.1, 0 ≤ a ∧ a < (s30.2.length : Int)) : ∀ (d i k : Nat), i + d = s107.1.length → d + 1 ≤ k → synodlaw16_LinKeys.l2 s30 s107 s118 k (i : Int) = some (.inl ())
  | d, i, 0, _, hk => by omega
  | 0, i, k + 1, hd, _ => by
    simp only [synodlaw16_LinKeys.l2]
    rw [if_neg (by omega)]
  | d + 1, i, k + 1, hd, hk => by
    have ih := keys_l2 hl hm hb d (i + 1) k (by omega) (by omega)
    have e : ((i : Int) + 1) = ((i + 1 : Nat) : Int) := by omega
    have hil : i < s107.1.length := by omega
    have hl2 : s118.1.length = s107.1.length := by rw [hm]; simp
    obtain ⟨b1, b2⟩ := hb (s107.1.getD i 0) (by rw [getD_at hil]; exact List.getElem_mem _)
    have hg : s30.2.getD (s107.1.getD i 0).toNat 0 = s118.1.getD i 0 := by
      have : s118.1.getD i 0 = (s107.1.map fun a => s30.2.getD a.toNat 0).getD i 0 := by rw [← hm]
      rw [this, getD_at (l := s107.1.map _) (by simpa using hil), List.getElem_map, getD_at hil]
    simp only [synodlaw16_LinKeys.l2]
    simp only [Int.toNat_natCast]
    rw [if_pos (by omega), if_pos (by omega), if_neg (by omega), if_pos (by omega), if_neg (by omega), if_pos (by omega), if_pos (by omega), if_pos (by omega), Option.bind_some, w64 (n := (i : Int) + 1) (by omega) (by omega), e,
      decide_eq_true hg, if_neg (by simp)]
    exact ih
theorem keys_l0 {h : List OpT} {ks : List (List UInt8)} (hh : h.length ≤ 600) (hl : ∀ x ∈ h, (oKey x).length ≤ 140737488351232) (hv : validL h = 0) (hks : ks.length ≤ 600) : ∀ (d i k : Nat) (b : Bool), i + d = ks.length → d + 8000 ≤ k →
    synodlaw16_LinKeys.l0 h ks k b (i : Int) = some (.inl (b && (ks.drop i).all fun key => (explL h key).2))
  | d, i, 0, _, _, hk => by omega
  | 0, i, k + 1, b, hd, _ => by
    simp only [synodlaw16_LinKeys.l0]
    rw [if_neg (by omega), List.drop_of_length_le (by omega)]; simp
  | d + 1, i, k + 1, b, hd, hk => by
    have ih := fun b => keys_l0 hh hl hv hks d (i + 1) k b (by omega) (by omega)
    have e : ((i : Int) + 1) = ((i + 1 : Nat) : Int) := by omega
    obtain ⟨v1, v2, v3⟩ := validL_12 hv
    simp only [synodlaw16_LinKeys.l0]
    rw [if_pos (by omega), w64 (n := (i : Int) + 1) (by omega) (by omega), e, drop_at (show i < ks.length by omega) [], List.all_cons]
    have h1 := keysone_l1 (h := h) (ks := ks) (s := (b, (i : Int))) (key := ks.getD i []) hh (by simp; omega) (by simp) h.length 0 k [] [] (by omega) (by simp) (by simp) (by omega)
    rw [show ((0 : Nat) : Int) = 0 from rfl, List.drop_zero, List.nil_append, List.nil_append] at h1
    simp only [Int.toNat_natCast]
    generalize ks.getD i [] = key at h1 ⊢
    have hv1 : validL (oneK h key) = 0 := valid_sub (List.filter_sublist (p := fun x => decide (oKey x = key)) (l := h)) hv
    have h6 : (oneK h key).length ≤ 600 := Nat.le_trans (List.length_filter_le _ _) hh
    have hl1 : ∀ x ∈ oneK h key, (oKey x).length ≤ 140737488351232 := fun x hx => hl x (List.mem_filter.1 hx).1
    obtain ⟨yes, c1, c2, _⟩ := Check_eq' h6 hl1 (show 7000 ≤ k by omega)
    obtain ⟨x1, x2, x3, x4⟩ := expl_one (key := key) hv
    have hyes : yes = (explL h key).2 := by
      rw [Bool.eq_iff_iff, c2 hv1, judged_one, expl_iff hh (v3 key)]
    have e1 : (h.filter fun x => decide (oKey x = key)) = oneK h key := rfl
    have e2 : ((List.range' 0 h.length).filter fun j => decide (oKey (h.getD j op0) = key)) = atN h key := rfl
    rw [e1, e2] at h1
    rw [h1, Option.bind_some]
    simp only []
    rw [c1, Option.bind_some, if_pos (by omega), Explain_eq h6 hl1 (by omega), Option.bind_some, if_pos hv1, if_pos (by omega), Explain_eq hh hl (by omega), Option.bind_some, if_pos hv, num_eq, Option.bind_some, hv1, hyes, x1]
    have hlen' : (explL (oneK h key) key).1.length = (explL h key).1.length := by rw [x2]; simp
    have hlen : ((explL (oneK h key) key).1.length : Int) = ((explL h key).1.length : Int) := by rw [hlen']
    have hl2 := keys_l2 (s30 := (oneK h key, (atN h key).map fun (j : Nat) => (j : Int))) (s107 := ((explL (oneK h key) key).1, (explL h key).2, (0 : Int))) (s118 := ((explL h key).1, (explL h key).2, (0 : Int)))
      (by simp only []; omega) x2 (by simpa using x3) (explL (oneK h key) key).1.length 0 k (by simp) (by omega)
    rw [show ((0 : Nat) : Int) = 0 from rfl] at hl2
    rw [if_neg (by simp [hlen]), hl2]
    simp only [orR]
    rw [ih, Bool.and_assoc]
theorem pure_LinKeys (h : List OpT) (hh : h.length * 112 ≤ reachBytes ∧ ∀ e ∈ h, Ok35 e) (hu : Mu.mu h ≤ 1048576) : ∃ k, synodlaw16_LinKeys.f k h = some true := by
  refine ⟨9940 + 60, ?_⟩
  have hr : reachBytes < 2 ^ 47 := by decide
  have hl : ∀ x ∈ h, (oKey x).length ≤ 140737488351232 := fun x hx => (hh.2 x hx).2.2.2.1
  unfold synodlaw16_LinKeys.f
  obtain ⟨b, hf, hb⟩ := few_eq (h := h) (by omega) (show 500 ≤ 9940 + 60 by decide)
  rw [first_eq 9940, Option.bind_some, hf, Option.bind_some]
  split
  · rfl
  · rename_i hc
    have hbt : b = true := by cases b <;> simp_all
    have h6 := hb hbt
    rw [Check_eq h6 hl (by omega), Option.bind_some]
    by_cases hv : validL h = 0
    · have hkl := keysL_len h
      have hl0 := keys_l0 (ks := keysL h) h6 hl hv (by omega) (keysL h).length 0 (9940 + 60) true (by omega) (by omega)
      rw [show ((0 : Nat) : Int) = 0 from rfl, List.drop_zero, Bool.true_and] at hl0
      rw [if_pos hv, num_eq, Option.bind_some, if_pos rfl, keys_eq (by omega) hl (by omega), Option.bind_some, hl0]
      simp [orR]
    · rw [if_neg hv, num_eq, Option.bind_some, if_neg hv]; rfl
end Go.Proofs.Ytlblpegbgbgliaa

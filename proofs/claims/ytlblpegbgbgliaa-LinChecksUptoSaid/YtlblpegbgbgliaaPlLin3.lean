/- Histories: the document's own functions answer the same. Conditions: as each says. -/
import Derived.Test.YtlblpegbgbgliaaPlLin2
import Derived.Test.YtlblpegbgbgliaaG
namespace Go.Proofs.Ytlblpegbgbgliaa
set_option linter.unusedVariables false
set_option linter.unusedSimpArgs false
open Go.RowKit
theorem rcnt_eq (x : OpT) : synodref16_Counts.f x.1 x.2.1 x.2.2.1 x.2.2.2.1 x.2.2.2.2.1 x.2.2.2.2.2.1 x.2.2.2.2.2.2.1 x.2.2.2.2.2.2.2.1 x.2.2.2.2.2.2.2.2.1 x.2.2.2.2.2.2.2.2.2 = some (cnt x) := by
  unfold synodref16_Counts.f cnt
  split <;> rfl
theorem rstp_eq (t : Bool) (v : List UInt8) (x : OpT) : synodref16_Step.f t v x.1 x.2.1 x.2.2.1 x.2.2.2.1 x.2.2.2.2.1 x.2.2.2.2.2.1 x.2.2.2.2.2.2.1 x.2.2.2.2.2.2.2.1 x.2.2.2.2.2.2.2.2.1 x.2.2.2.2.2.2.2.2.2 = some (stp t v x) := by
  unfold synodref16_Step.f stp
  cases t <;> simp only [Bool.not_false, Bool.not_true, if_true, Bool.false_eq_true, if_false, Option.bind_some] <;> (repeat' split) <;> simp_all
/-! ### Lists compared -/
theorem ints_loop (x y : List Int) (hl : x.length = y.length) (hm : x.length < 2 ^ 62) : ∀ (d i k : Nat), i + d = x.length → d + 1 ≤ k → x.take i = y.take i →
    (orR (synodref_SameInts.l0 x y k (i : Int)) fun _ => some true) = some (decide (x = y))
  | d, i, 0, _, hk, _ => by omega
  | 0, i, k + 1, hd, hk, ht => by
    simp only [synodref_SameInts.l0]
    rw [if_neg (by omega)]
    have : x = y := by rwa [List.take_of_length_le (by omega), List.take_of_length_le (by omega)] at ht
    simp [orR, this]
  | d + 1, i, k + 1, hd, hk, ht => by
    simp only [synodref_SameInts.l0]
    rw [if_pos (by omega), if_pos (by omega), if_pos (by omega)]
    have hix : i < x.length := by omega
    have hiy : i < y.length := by omega
    simp only [Int.toNat_natCast]
    by_cases he : x[i] = y[i]
    · rw [if_pos (by rw [getD_at hix, getD_at hiy, he]), w64 (by omega) (by omega)]
      exact ints_loop x y hl hm d (i + 1) k (by omega) (by omega) (by rw [List.take_succ_eq_append_getElem hix, List.take_succ_eq_append_getElem hiy, ht, he])
    · rw [if_neg (by rw [getD_at hix, getD_at hiy]; exact he)]
      have : x ≠ y := by rintro rfl; exact he rfl
      simp [orR, this]
theorem SameInts_eq {k : Nat} {x y : List Int} (hm : x.length < 2 ^ 62) (hk : x.length + 1 ≤ k) : synodref_SameInts.f k x y = some (decide (x = y)) := by
  unfold synodref_SameInts.f
  by_cases h : x.length = y.length
  · rw [if_pos (by omega)]
    exact ints_loop x y h hm x.length 0 k (by omega) hk rfl
  · rw [if_neg (by omega)]
    have : x ≠ y := by rintro rfl; exact h rfl
    simp [this]
theorem texts_loop (x y : List (List UInt8)) (hl : x.length = y.length) (hm : x.length < 2 ^ 62) : ∀ (d i k : Nat), i + d = x.length → d + 1 ≤ k → x.take i = y.take i →
    (orR (synodref_SameTexts.l0 x y k (i : Int)) fun _ => some true) = some (decide (x = y))
  | d, i, 0, _, hk, _ => by omega
  | 0, i, k + 1, hd, hk, ht => by
    simp only [synodref_SameTexts.l0]
    rw [if_neg (by omega)]
    have : x = y := by rwa [List.take_of_length_le (by omega), List.take_of_length_le (by omega)] at ht
    simp [orR, this]
  | d + 1, i, k + 1, hd, hk, ht => by
    simp only [synodref_SameTexts.l0]
    rw [if_pos (by omega), if_pos (by omega), if_pos (by omega)]
    have hix : i < x.length := by omega
    have hiy : i < y.length := by omega
    simp only [Int.toNat_natCast]
    by_cases he : x[i] = y[i]
    · rw [if_pos (by rw [getD_at hix, getD_at hiy, he]), w64 (by omega) (by omega)]
      exact texts_loop x y hl hm d (i + 1) k (by omega) (by omega) (by rw [List.take_succ_eq_append_getElem hix, List.take_succ_eq_append_getElem hiy, ht, he])
    · rw [if_neg (by rw [getD_at hix, getD_at hiy]; exact he)]
      have : x ≠ y := by rintro rfl; exact he rfl
      simp [orR, this]
theorem SameTexts_eq {k : Nat} {x y : List (List UInt8)} (hm : x.length < 2 ^ 62) (hk : x.length + 1 ≤ k) : synodref_SameTexts.f k x y = some (decide (x = y)) := by
  unfold synodref_SameTexts.f
  by_cases h : x.length = y.length
  · rw [if_pos (by omega)]
    exact texts_loop x y h hm x.length 0 k (by omega) hk rfl
  · rw [if_neg (by omega)]
    have : x ≠ y := by rintro rfl; exact h rfl
    simp [this]
/-! ### Keys -/
theorem rkeys_l1 {h : List OpT} {out : List (List UInt8)} {i : Nat} (hi : i < h.length) (hih : h.length < 2 ^ 40) (hol : out.length < 2 ^ 40) : ∀ (d j k : Nat), j + d = out.length → d + 1 ≤ k → (∀ q, q < j → out.getD q [] < oKey (h.getD i op0)) →
    ∃ p : Nat, synodref16_Keys.l1 h (out, (i : Int)) k (j : Int) = some (p : Int) ∧ p ≤ out.length ∧ (∀ q, q < p → out.getD q [] < oKey (h.getD i op0)) ∧ (p < out.length → ¬ out.getD p [] < oKey (h.getD i op0))
  | d, j, 0, _, hk, _ => by omega
  | 0, j, k + 1, hd, _, hq => by
    simp only [synodref16_Keys.l1]
    rw [if_neg (by omega), Option.bind_some]
    exact ⟨j, rfl, by omega, hq, fun h => by omega⟩
  | d + 1, j, k + 1, hd, hk, hq => by
    have e : ((j : Int) + 1) = ((j + 1 : Nat) : Int) := by omega
    simp only [synodref16_Keys.l1]
    rw [if_pos (by omega), if_pos (by omega), if_pos (by omega), Option.bind_some, bytesLess_iff]
    simp only [Int.toNat_natCast]
    by_cases hc : out.getD j [] < oKey (h.getD i op0)
    · rw [if_pos (decide_eq_true hc), w64 (by omega) (by omega), e]
      refine rkeys_l1 hi hih hol d (j + 1) k (by omega) (by omega) fun q hq' => ?_
      by_cases h1 : q < j
      · exact hq q h1
      · obtain rfl : q = j := by omega
        exact hc
    · rw [if_neg (by rw [decide_eq_false hc]; simp)]
      exact ⟨j, rfl, by omega, hq, fun _ => hc⟩
theorem ins_sorted {out : List (List UInt8)} {key : List UInt8} {p : Nat} (hs : out.Pairwise (· < ·)) (hp : p ≤ out.length) (h1 : ∀ q, q < p → out.getD q [] < key) (h2 : p < out.length → ¬ out.getD p [] < key) (h3 : p < out.length → out.getD p [] ≠ key) :
    (out.take p ++ [key] ++ out.drop p).Pairwise (· < ·) := by
  rw [← List.take_append_drop p out] at hs
  obtain ⟨a, b, c⟩ := List.pairwise_append.1 hs
  have ht : ∀ x ∈ out.take p, x < key := by
    intro x hx
    obtain ⟨q, hq, rfl⟩ := List.mem_iff_getElem.1 hx
    rw [List.length_take] at hq
    have := h1 q (by omega)
    rw [getD_at (by omega)] at this
    simpa using this
  have hd : ∀ x ∈ out.drop p, key < x := by
    intro x hx
    by_cases hpl : p < out.length
    · have hk : key < out.getD p [] := by
        have h2' := h2 hpl
        have h3' := h3 hpl
        rcases List.le_iff_lt_or_eq.1 (List.not_lt.1 h2') with h | h
        · exact h
        · exact absurd h.symm h3'
      rw [drop_at hpl []] at hx b
      rcases List.mem_cons.1 hx with rfl | hx
      · exact hk
      · exact List.lt_trans hk ((List.pairwise_cons.1 b).1 x hx)
    · rw [List.drop_of_length_le (by omega)] at hx; simp at hx
  rw [List.append_assoc]
  refine List.pairwise_append.2 ⟨a, ?_, ?_⟩
  · rw [List.singleton_append]
    exact List.pairwise_cons.2 ⟨hd, b⟩
  · intro x hx y hy
    rw [List.singleton_append] at hy
    rcases List.mem_cons.1 hy with rfl | hy
    · exact ht x hx
    · exact c x hx y hy
theorem rkeys_l0 {h : List OpT} (hh : h.length ≤ 600) : ∀ (d i k : Nat) (out : List (List UInt8)), i + d = h.length → d + 700 ≤ k → out.length ≤ i → KeysP (h.take i) out → ∃ r, synodref16_Keys.l0 h k out (i : Int) = some r ∧ KeysP h r
  | d, i, 0, _, _, hk, _, _ => by omega
  | 0, i, k + 1, out, hd, _, _, hp => by
    simp only [synodref16_Keys.l0]
    rw [if_neg (by omega)]
    rw [List.take_of_length_le (by omega)] at hp
    exact ⟨out, rfl, hp⟩
  | d + 1, i, k + 1, out, hd, hk, ho, hp => by
    have ih := fun out ho hp => rkeys_l0 hh d (i + 1) k out (by omega) (by omega) ho hp
    have e : ((i : Int) + 1) = ((i + 1 : Nat) : Int) := by omega
    have hmem : ∀ key, (∃ x ∈ h.take (i + 1), cnt x = true ∧ oKey x = key) ↔ (∃ x ∈ h.take i, cnt x = true ∧ oKey x = key) ∨ (cnt (h.getD i op0) = true ∧ oKey (h.getD i op0) = key) := by
      intro key
      have hil : i < h.length := by omega
      rw [List.take_succ_eq_append_getElem hil, getD_at hil]
      constructor
      · rintro ⟨x, hx, hc⟩
        rcases List.mem_append.1 hx with hx | hx
        · exact .inl ⟨x, hx, hc⟩
        · rw [List.mem_singleton] at hx; subst hx; exact .inr hc
      · rintro (⟨x, hx, hc⟩ | hc)
        · exact ⟨x, List.mem_append_left _ hx, hc⟩
        · exact ⟨h[i], List.mem_append_right _ (List.mem_singleton.2 rfl), hc⟩
    simp only [synodref16_Keys.l0]
    rw [if_pos (by omega), if_pos (by omega), w64 (n := (i : Int) + 1) (by omega) (by omega), e]
    simp only [Int.toNat_natCast]
    rw [rcnt_eq (h.getD i op0), Option.bind_some]
    by_cases hc : cnt (h.getD i op0) = true
    · rw [if_neg (by rw [hc]; simp)]
      obtain ⟨p, h1, h2, h3, h4⟩ := rkeys_l1 (h := h) (out := out) (i := i) (by omega) (by omega) (by omega) out.length 0 k (by omega) (by omega) (fun q hq => by omega)
      rw [show ((0 : Nat) : Int) = 0 from rfl] at h1
      rw [h1, Option.bind_some]
      by_cases hpl : p = out.length ∨ out.getD p [] ≠ oKey (h.getD i op0)
      · have hcond : ((if (p : Int) = (out.length : Int) then (some true) else (if 0 ≤ (p : Int) ∧ (p : Int) < (out.length : Int) then (if 0 ≤ (i : Int) ∧ (i : Int) < (h.length : Int) then (some (!decide ((out.getD p ([] : List UInt8)) = (oKey (h.getD i op0))))) else none) else none)) : Option Bool) = some true := by
          rcases hpl with hpl | hpl
          · rw [if_pos (by omega)]
          · by_cases h5 : p = out.length
            · rw [if_pos (by omega)]
            · rw [if_neg (by omega), if_pos (by omega), if_pos (by omega), decide_eq_false hpl]; rfl
        simp only [Int.toNat_natCast] at hcond ⊢
        rw [hcond]
        simp only [Option.bind_some, if_true]
        have c1 : cut out (0 : Int) (p : Int) = out.take p := by simp [cut]
        have c2 : cut out (p : Int) (out.length : Int) = out.drop p := by simp [cut]
        rw [c1, c2, if_pos (by omega), if_pos (by simp; omega), if_pos (by omega), if_pos (by simp; omega), if_pos (by omega), if_pos (by simp; omega), Option.bind_some, List.nil_append]
        refine ih _ (by simp; omega) ⟨ins_sorted hp.1 h2 h3 h4 (fun hlt => by rcases hpl with h | h; exact absurd h (by omega); exact h), fun key => ?_⟩
        rw [hmem, ← hp.2 key]
        have : key ∈ out.take p ++ [oKey (h.getD i op0)] ++ out.drop p ↔ key ∈ out ∨ key = oKey (h.getD i op0) := by
          rw [List.mem_append, List.mem_append, List.mem_singleton]
          have : key ∈ out ↔ key ∈ out.take p ∨ key ∈ out.drop p := by rw [← List.mem_append, List.take_append_drop]
          rw [this]
          constructor
          · rintro ((a | a) | a)
            · exact .inl (.inl a)
            · exact .inr a
            · exact .inl (.inr a)
          · rintro ((a | a) | a)
            · exact .inl (.inl a)
            · exact .inr a
            · exact .inl (.inr a)
        rw [this]
        constructor
        · rintro (a | a)
          · exact .inl a
          · exact .inr ⟨hc, a.symm⟩
        · rintro (a | a)
          · exact .inl a
          · exact .inr a.2.symm
      · rw [not_or, Decidable.not_not] at hpl
        obtain ⟨h5, h6⟩ := hpl
        have hcond : ((if (p : Int) = (out.length : Int) then (some true) else (if 0 ≤ (p : Int) ∧ (p : Int) < (out.length : Int) then (if 0 ≤ (i : Int) ∧ (i : Int) < (h.length : Int) then (some (!decide ((out.getD p ([] : List UInt8)) = (oKey (h.getD i op0))))) else none) else none)) : Option Bool) = some false := by
          rw [if_neg (by omega), if_pos (by omega), if_pos (by omega), decide_eq_true h6]; rfl
        simp only [Int.toNat_natCast] at hcond ⊢
        rw [hcond]
        simp only [Option.bind_some, Bool.false_eq_true, if_false]
        refine ih out (by omega) ⟨hp.1, fun key => ?_⟩
        rw [hmem, ← hp.2 key]
        constructor
        · exact .inl
        · rintro (a | a)
          · exact a
          · rw [← a.2, ← h6, getD_at (by omega)]; exact List.getElem_mem _
    · rw [if_pos (by simpa using hc), Option.bind_some]
      refine ih out (by omega) ⟨hp.1, fun key => ?_⟩
      rw [hmem, ← hp.2 key]
      constructor
      · exact .inl
      · rintro (a | a)
        · exact a
        · exact absurd a.1 hc
theorem rkeys_eq {h : List OpT} (hh : h.length ≤ 600) {k : Nat} (hk : 1400 ≤ k) : synodref16_Keys.f k h = some (keysL h) := by
  unfold synodref16_Keys.f
  obtain ⟨r, h1, h2⟩ := rkeys_l0 hh h.length 0 k [] (by omega) (by omega) (by simp) ⟨by simp, fun key => by simp⟩
  rw [show ((0 : Nat) : Int) = 0 from rfl] at h1
  rw [h1, h2.one (keysL_P h)]; rfl
/-! ### What may be judged -/
theorem rvalid_l0 {h : List OpT} (hh : h.length < 2 ^ 40) : ∀ (d i k : Nat), i + d = h.length → d + 1 ≤ k → synodref16_Valid.l0 h k (i : Int) = some (if badL (h.drop i) = 0 then .inl () else .inr (badL (h.drop i)))
  | d, i, 0, _, hk => by omega
  | 0, i, k + 1, hd, _ => by
    simp only [synodref16_Valid.l0]
    rw [if_neg (by omega), List.drop_of_length_le (by omega)]; rfl
  | d + 1, i, k + 1, hd, hk => by
    have ih := rvalid_l0 hh d (i + 1) k (by omega) (by omega)
    simp only [synodref16_Valid.l0]
    have e : ((i : Int) + 1) = ((i + 1 : Nat) : Int) := by omega
    rw [if_pos (by omega), if_pos (by omega), w64 (n := (i : Int) + 1) (by omega) (by omega), e, drop_at (show i < h.length by omega) op0]
    simp only [Int.toNat_natCast]
    obtain ⟨x, hx⟩ : ∃ x, h.getD i op0 = x := ⟨_, rfl⟩
    simp only [hx]
    rw [badL]
    generalize badL (h.drop (i + 1)) = B at ih ⊢
    rw [ih]
    have b6 : (oKind x < 1 ∨ 4 < oKind x) → bad x = 6 := fun h => by unfold bad; rw [if_pos h]
    have b4 : ¬ (oKind x < 1 ∨ 4 < oKind x) → ((oCall x < 1 ∨ oBack x < 0 ∨ (oBack x ≠ 0 ∧ oBack x < oCall x)) ∨ (oBack x = 0 ∧ ¬ (oCode x = 0 ∧ oRv x = [])) ∨ (oBack x ≠ 0 ∧ (oCode x < 1 ∨ 10 < oCode x))) → bad x = 4 := fun h g => by unfold bad; rw [if_neg h, if_pos g]
    have b0 : ¬ (oKind x < 1 ∨ 4 < oKind x) → ¬ ((oCall x < 1 ∨ oBack x < 0 ∨ (oBack x ≠ 0 ∧ oBack x < oCall x)) ∨ (oBack x = 0 ∧ ¬ (oCode x = 0 ∧ oRv x = [])) ∨ (oBack x ≠ 0 ∧ (oCode x < 1 ∨ 10 < oCode x))) → bad x = 0 := fun h g => by unfold bad; rw [if_neg h, if_neg g]
    by_cases h1 : oKind x < 1 ∨ 4 < oKind x
    · rw [if_pos (by rcases h1 with h1 | h1 <;> simp [h1]), b6 h1]; rfl
    · rw [if_neg (by rw [not_or] at h1; simp [h1.1, h1.2])]
      by_cases h2 : oCall x < 1 ∨ oBack x < 0
      · rw [if_pos (by rcases h2 with h2 | h2 <;> simp [h2]), b4 h1 (by rcases h2 with h2 | h2 <;> simp [h2])]; rfl
      · rw [if_neg (by rw [not_or] at h2; simp [h2.1, h2.2])]
        rw [not_or] at h2
        by_cases h3 : oBack x = 0
        · simp only [h3, decide_true, Bool.not_true, Bool.false_and, Bool.false_eq_true, if_false, Bool.true_and, if_true, Option.bind_some]
          by_cases h4 : oCode x = 0 ∧ oRv x = []
          · rw [b0 h1 (by simp [h2.1, h3, h4.1, h4.2])]; simp [h4.1, h4.2]
          · rw [if_pos (by simp only [Bool.not_eq_true', Bool.and_eq_false_iff, decide_eq_false_iff_not]; by_cases h5 : oCode x = 0 <;> simp_all), b4 h1 (.inr (.inl ⟨h3, h4⟩))]; rfl
        · simp only [decide_eq_false h3, Bool.not_false, Bool.true_and, Bool.false_and, Bool.false_eq_true, if_false, if_neg h3, Option.bind_some]
          by_cases h4 : oBack x < oCall x
          · rw [if_pos (by simpa using h4), b4 h1 (.inl (.inr (.inr ⟨h3, h4⟩)))]; rfl
          · rw [if_neg (by simpa using h4)]
            simp only [Option.bind_some, Bool.false_eq_true, if_false]
            by_cases h5 : oCode x < 1 ∨ 10 < oCode x
            · rw [if_pos (by rcases h5 with h5 | h5 <;> simp [h5]), b4 h1 (.inr (.inr ⟨h3, h5⟩))]; rfl
            · rw [if_neg (by rw [not_or] at h5; simp [h5.1, h5.2]), b0 h1 (by
              rintro ((h | h | h) | h | h)
              · exact h2.1 h
              · exact h2.2 h
              · exact h4 h.2
              · exact h3 h.1
              · exact h5 h.2)]; simp
theorem rvalid_l2 {h : List OpT} {i : Nat} (hi : i < h.length) (hh : h.length < 2 ^ 40) : ∀ (d j k n : Nat), j + d = h.length → d + 1 ≤ k → n ≤ j → synodref16_Valid.l2 h (i : Int) k (n : Int) (j : Int) = some ((n + (ofR h (oKey (h.getD i op0)) j d).length : Nat) : Int)
  | d, j, 0, _, _, hk, _ => by omega
  | 0, j, k + 1, n, hd, _, _ => by
    simp only [synodref16_Valid.l2]
    rw [if_neg (by omega)]; simp [ofR]
  | d + 1, j, k + 1, n, hd, hk, hn => by
    have ih := fun n hn => rvalid_l2 hi hh d (j + 1) k n (by omega) (by omega) hn
    have e : ((j : Int) + 1) = ((j + 1 : Nat) : Int) := by omega
    have e2 : ((n : Int) + 1) = ((n + 1 : Nat) : Int) := by omega
    simp only [synodref16_Valid.l2]
    rw [if_pos (by omega), if_pos (by omega), w64 (n := (j : Int) + 1) (by omega) (by omega), e, w64 (n := (n : Int) + 1) (by omega) (by omega), e2, ofR_succ, if_pos (by omega), if_pos (by omega)]
    simp only [Int.toNat_natCast]
    unfold inK
    obtain ⟨x, hx⟩ : ∃ x, h.getD j op0 = x := ⟨_, rfl⟩
    simp only [hx]
    rw [rcnt_eq x, Option.bind_some]
    by_cases hc : cnt x = true
    · rw [if_pos hc]
      simp only [Option.bind_some]
      by_cases hk2 : oKey x = oKey (h.getD i op0)
      · rw [if_pos (decide_eq_true hk2), ih _ (by omega), if_pos (by simp [hc, hk2])]
        simp; omega
      · rw [if_neg (by rw [decide_eq_false hk2]; simp), ih _ (by omega), if_neg (by rw [decide_eq_false hk2]; simp)]
        simp
    · rw [if_neg hc]
      simp only [Option.bind_some]
      rw [if_neg (by simp), ih _ (by omega), if_neg (by simp [hc])]
      simp
theorem rvalid_l1 {h : List OpT} (hh : h.length < 2 ^ 40) : ∀ (d i k : Nat), i + d = h.length → d + h.length + 2 ≤ k → synodref16_Valid.l1 h k (i : Int) = some (if (h.drop i).any (fun x => decide (12 < (ofL h (oKey x)).length)) = true then .inr 23 else .inl ())
  | d, i, 0, _, hk => by omega
  | 0, i, k + 1, hd, _ => by
    simp only [synodref16_Valid.l1]
    rw [if_neg (by omega), List.drop_of_length_le (by omega)]; rfl
  | d + 1, i, k + 1, hd, hk => by
    have ih := rvalid_l1 hh d (i + 1) k (by omega) (by omega)
    simp only [synodref16_Valid.l1]
    have e : ((i : Int) + 1) = ((i + 1 : Nat) : Int) := by omega
    have h2 := rvalid_l2 (h := h) (i := i) (by omega) hh h.length 0 k 0 (by omega) (by omega) (by omega)
    rw [show ((0 : Nat) : Int) = 0 from rfl, Nat.zero_add] at h2
    rw [if_pos (by omega), h2, Option.bind_some, w64 (n := (i : Int) + 1) (by omega) (by omega), e, ih, drop_at (show i < h.length by omega) op0, List.any_cons]
    have e3 : ofR h (oKey (h.getD i op0)) 0 h.length = ofL h (oKey (h.getD i op0)) := rfl
    rw [e3]
    by_cases hc : 12 < (ofL h (oKey (h.getD i op0))).length
    · rw [if_pos (by omega), decide_eq_true hc, Bool.true_or]; rfl
    · rw [if_neg (by omega), decide_eq_false hc, Bool.false_or]; rfl
theorem rvalid_eq {h : List OpT} (hh : h.length < 2 ^ 40) {k : Nat} (hk : 2 * h.length + 2 ≤ k) : synodref16_Valid.f k h = some (validL h) := by
  unfold synodref16_Valid.f validL
  by_cases h1 : 400 < h.length
  · rw [if_pos (by omega), if_pos h1]
  rw [if_neg (by omega), if_neg h1]
  have := rvalid_l0 hh h.length 0 k (by omega) (by omega)
  rw [show ((0 : Nat) : Int) = 0 from rfl, List.drop_zero] at this
  rw [this]
  by_cases h2 : badL h = 0
  · rw [if_pos h2, if_neg (by simp [h2])]
    simp only [orR]
    have := rvalid_l1 hh h.length 0 k (by omega) (by omega)
    rw [show ((0 : Nat) : Int) = 0 from rfl, List.drop_zero] at this
    rw [this]
    have hiff : h.any (fun x => decide (12 < (ofL h (oKey x)).length)) = (keysL h).any (fun key => decide (12 < (ofL h key).length)) := by
      rw [Bool.eq_iff_iff, List.any_eq_true, List.any_eq_true]
      constructor
      · rintro ⟨x, hx, hc⟩
        refine ⟨oKey x, ?_, hc⟩
        have h0 : 0 < (ofL h (oKey x)).length := by have := of_decide_eq_true hc; omega
        obtain ⟨j, _, hj, hi⟩ := ofL_at h0
        unfold inK at hi
        simp only [Bool.and_eq_true, decide_eq_true_eq] at hi
        exact ((keysL_P h).2 _).2 ⟨h.getD j op0, by rw [getD_at hj]; exact List.getElem_mem _, hi.2, hi.1⟩
      · rintro ⟨key, hkey, hc⟩
        obtain ⟨x, hx, _, rfl⟩ := ((keysL_P h).2 key).1 hkey
        exact ⟨x, hx, hc⟩
    rw [hiff]
    by_cases h3 : (keysL h).any (fun key => decide (12 < (ofL h key).length)) = true
    · rw [if_pos h3, if_pos h3]
    · rw [if_neg h3, if_neg h3]
  · rw [if_neg h2, if_pos h2]; rfl
end Go.Proofs.Ytlblpegbgbgliaa

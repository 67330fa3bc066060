/- Histories: keys, what may be judged, the order of a key, the judgement. Conditions: as each says. -/
import Derived.Test.YtlblpegbgbgliaaPlLin1
namespace Go.Proofs.Ytlblpegbgbgliaa
set_option linter.unusedVariables false
set_option linter.unusedSimpArgs false
open Go.RowKit
theorem getD_at {α : Type} {l : List α} {i : Nat} (h : i < l.length) (d : α) : l.getD i d = l[i] := by simp [List.getD_eq_getElem?_getD, h]
theorem drop_at {α : Type} {l : List α} {i : Nat} (h : i < l.length) (d : α) : l.drop i = l.getD i d :: l.drop (i + 1) := by rw [getD_at h]; exact List.drop_eq_getElem_cons h
/-! ### Keys -/
def kvL : List (List UInt8 × Int) → List OpT → List (List UInt8 × Int)
  | z, [] => z
  | z, x :: l => kvL (if cnt x then mput z (oKey x) (IntKind.i64.wrap ((mget z (oKey x)).getD (0 : Int) + 1)) else z) l
theorem kvL_nodup : ∀ (l : List OpT) (z : List (List UInt8 × Int)), (z.map (·.1)).Nodup → ((kvL z l).map (·.1)).Nodup
  | [], z, h => h
  | x :: l, z, h => by
    unfold kvL
    refine kvL_nodup l _ ?_
    split
    · exact mput_nodup h
    · exact h
theorem kvL_mem : ∀ (l : List OpT) (z : List (List UInt8 × Int)) (key : List UInt8), key ∈ (kvL z l).map (·.1) ↔ key ∈ z.map (·.1) ∨ ∃ x ∈ l, cnt x = true ∧ oKey x = key
  | [], z, key => by unfold kvL; simp
  | x :: l, z, key => by
    unfold kvL
    rw [kvL_mem l]
    by_cases hc : cnt x = true
    · rw [if_pos hc, mem_mput_keys]
      constructor
      · rintro ((rfl | h) | ⟨y, hy, h⟩)
        · exact .inr ⟨x, by simp, hc, rfl⟩
        · exact .inl h
        · exact .inr ⟨y, by simp [hy], h⟩
      · rintro (h | ⟨y, hy, h⟩)
        · exact .inl (.inr h)
        · rcases List.mem_cons.1 hy with rfl | hy
          · exact .inl (.inl h.2.symm)
          · exact .inr ⟨y, hy, h⟩
    · rw [if_neg hc]
      constructor
      · rintro (h | ⟨y, hy, h⟩)
        · exact .inl h
        · exact .inr ⟨y, by simp [hy], h⟩
      · rintro (h | ⟨y, hy, h⟩)
        · exact .inl h
        · rcases List.mem_cons.1 hy with rfl | hy
          · exact absurd h.1 hc
          · exact .inr ⟨y, hy, h⟩
theorem kvL_len : ∀ (l : List OpT) (z : List (List UInt8 × Int)), (kvL z l).length ≤ z.length + l.length
  | [], z => by simp [kvL]
  | x :: l, z => by
    unfold kvL
    refine Nat.le_trans (kvL_len l _) ?_
    split
    · have := mput_length (l := z) (x := oKey x) (y := IntKind.i64.wrap ((mget z (oKey x)).getD (0 : Int) + 1)); rw [List.length_cons]; omega
    · rw [List.length_cons]; omega
def keysL (h : List OpT) : List (List UInt8) := keysS (kvL [] h)
def KeysP (h : List OpT) (l : List (List UInt8)) : Prop := l.Pairwise (· < ·) ∧ ∀ key, key ∈ l ↔ ∃ x ∈ h, cnt x = true ∧ oKey x = key
theorem KeysP.one {h : List OpT} {l m : List (List UInt8)} (a : KeysP h l) (b : KeysP h m) : l = m := strict_eq a.1 b.1 fun x => by rw [a.2, b.2]
theorem keysL_P (h : List OpT) : KeysP h (keysL h) := by
  refine ⟨keysS_strict (kvL_nodup h [] (by simp)), fun key => ?_⟩
  unfold keysL
  rw [(keysS_perm _).mem_iff, kvL_mem]
  simp
theorem keysL_len (h : List OpT) : (keysL h).length ≤ h.length := by
  unfold keysL
  rw [(keysS_perm _).length_eq, List.length_map]
  have := kvL_len h []
  simpa using this
theorem keys_loop {h : List OpT} (hh : h.length < 2 ^ 42) : ∀ (d i k : Nat) (z : List (List UInt8 × Int)), i + d = h.length → d + 1 ≤ k → lin_Keys.l0 h k z (i : Int) = some (kvL z (h.drop i))
  | d, i, 0, z, _, hk => by omega
  | 0, i, k + 1, z, hd, _ => by
    simp only [lin_Keys.l0]
    rw [if_neg (by omega), List.drop_of_length_le (by omega)]; rfl
  | d + 1, i, k + 1, z, hd, hk => by
    have ih := fun z => keys_loop hh d (i + 1) k z (by omega) (by omega)
    simp only [lin_Keys.l0]
    have e : ((i : Int) + 1) = ((i + 1 : Nat) : Int) := by omega
    rw [if_pos (by omega), if_pos (by omega), w64 (n := (i : Int) + 1) (by omega) (by omega), e, drop_at (show i < h.length by omega) op0]
    simp only [Int.toNat_natCast]
    generalize h.getD i op0 = x
    rw [cnt_eq x, Option.bind_some, kvL, ih, ih]
    by_cases hc : cnt x = true
    · rw [if_pos hc, if_pos hc]
    · rw [if_neg hc, if_neg hc]
theorem keys_eq {h : List OpT} (hh : h.length < 2 ^ 42) (hl : ∀ x ∈ h, (oKey x).length ≤ 140737488351232) {k : Nat} (hk : h.length + 1 ≤ k) : lin_Keys.f k h = some (keysL h) := by
  unfold lin_Keys.f maps_Keys_map_string_int_string_int.f slices_Sorted_string_maps_Keys_map_string_int_string_int_1.f
  have := keys_loop hh h.length 0 k [] (by omega) hk
  rw [show ((0 : Nat) : Int) = 0 from rfl, List.drop_zero] at this
  have hlen := kvL_len h []
  simp only [List.length_nil, Nat.zero_add] at hlen
  have hkey : ∀ p ∈ kvL [] h, p.1.length ≤ 140737488351232 := by
    intro p hp
    have := (kvL_mem h [] p.1).1 (List.mem_map_of_mem hp)
    rcases this with h0 | ⟨x, hx, _, e⟩
    · simp at h0
    · rw [← e]; exact hl x hx
  rw [this, Option.bind_some, Option.bind_some, if_pos ⟨kvL_nodup h [] (by simp), by omega, hkey⟩]
  rfl
/-! ### What may be judged -/
def bad (x : OpT) : Int :=
  if oKind x < 1 ∨ 4 < oKind x then 6 else
  if (oCall x < 1 ∨ oBack x < 0 ∨ (oBack x ≠ 0 ∧ oBack x < oCall x)) ∨ (oBack x = 0 ∧ ¬ (oCode x = 0 ∧ oRv x = [])) ∨ (oBack x ≠ 0 ∧ (oCode x < 1 ∨ 10 < oCode x)) then 4 else 0
def badL : List OpT → Int
  | [] => 0
  | x :: l => if bad x = 0 then badL l else bad x
theorem valid_l0 {h : List OpT} (hh : h.length < 2 ^ 42) : ∀ (d i k : Nat), i + d = h.length → d + 1 ≤ k → lin_Valid.l0 h k (i : Int) = some (if badL (h.drop i) = 0 then .inl () else .inr (badL (h.drop i)))
  | d, i, 0, _, hk => by omega
  | 0, i, k + 1, hd, _ => by
    simp only [lin_Valid.l0]
    rw [if_neg (by omega), List.drop_of_length_le (by omega)]; rfl
  | d + 1, i, k + 1, hd, hk => by
    have ih := valid_l0 hh d (i + 1) k (by omega) (by omega)
    simp only [lin_Valid.l0]
    have e : ((i : Int) + 1) = ((i + 1 : Nat) : Int) := by omega
    rw [if_pos (by omega), if_pos (by omega), w64 (n := (i : Int) + 1) (by omega) (by omega), e, drop_at (show i < h.length by omega) op0]
    simp only [Int.toNat_natCast]
    obtain ⟨x, hx⟩ : ∃ x, h.getD i op0 = x := ⟨_, rfl⟩
    simp only [hx]
    rw [open_eq x, badL]
    simp only [Option.bind_some]
    generalize badL (h.drop (i + 1)) = B at ih ⊢
    rw [ih]
    have b6 : (oKind x < 1 ∨ 4 < oKind x) → bad x = 6 := fun h => by unfold bad; rw [if_pos h]
    have b4 : ¬ (oKind x < 1 ∨ 4 < oKind x) → ((oCall x < 1 ∨ oBack x < 0 ∨ (oBack x ≠ 0 ∧ oBack x < oCall x)) ∨ (oBack x = 0 ∧ ¬ (oCode x = 0 ∧ oRv x = [])) ∨ (oBack x ≠ 0 ∧ (oCode x < 1 ∨ 10 < oCode x))) → bad x = 4 := fun h g => by unfold bad; rw [if_neg h, if_pos g]
    have b0 : ¬ (oKind x < 1 ∨ 4 < oKind x) → ¬ ((oCall x < 1 ∨ oBack x < 0 ∨ (oBack x ≠ 0 ∧ oBack x < oCall x)) ∨ (oBack x = 0 ∧ ¬ (oCode x = 0 ∧ oRv x = [])) ∨ (oBack x ≠ 0 ∧ (oCode x < 1 ∨ 10 < oCode x))) → bad x = 0 := fun h g => by unfold bad; rw [if_neg h, if_neg g]
    unfold isO
    by_cases h1 : oKind x < 1 ∨ 4 < oKind x
    · rw [if_pos (by rcases h1 with h1 | h1 <;> simp [h1]), b6 h1]; rfl
    · rw [if_neg (by rw [not_or] at h1; simp [h1.1, h1.2])]
      by_cases h2 : oCall x < 1 ∨ oBack x < 0
      · rw [if_pos (by rcases h2 with h2 | h2 <;> simp [h2]), Option.bind_some, if_pos rfl, b4 h1 (by rcases h2 with h2 | h2 <;> simp [h2])]; rfl
      · rw [if_neg (by rw [not_or] at h2; simp [h2.1, h2.2]), Option.bind_some]
        rw [not_or] at h2
        by_cases h3 : oBack x = 0
        · simp only [h3, decide_true, Bool.not_true, Bool.false_and, Bool.false_eq_true, if_false, Bool.true_and, Option.bind_some]
          by_cases h4 : oCode x = 0 ∧ oRv x = []
          · rw [if_neg (by simp [h4.1, h4.2]), b0 h1 (by simp [h2.1, h3, h4.1, h4.2])]; simp
          · rw [if_pos (by simp only [Bool.not_eq_true', Bool.and_eq_false_iff, decide_eq_false_iff_not]; by_cases h5 : oCode x = 0 <;> simp_all), b4 h1 (.inr (.inl ⟨h3, h4⟩))]; rfl
        · simp only [decide_eq_false h3, Bool.not_false, Bool.true_and, Bool.false_and, Bool.false_eq_true, if_false, if_true, Option.bind_some]
          by_cases h4 : oBack x < oCall x
          · rw [if_pos (by simpa using h4), b4 h1 (.inl (.inr (.inr ⟨h3, h4⟩)))]; rfl
          · rw [if_neg (by simpa using h4)]
            by_cases h5 : oCode x < 1 ∨ 10 < oCode x
            · rw [if_pos (by rcases h5 with h5 | h5 <;> simp [h5]), b4 h1 (.inr (.inr ⟨h3, h5⟩))]; rfl
            · rw [if_neg (by rw [not_or] at h5; simp [h5.1, h5.2]), b0 h1 (by
              rintro ((h | h | h) | h | h)
              · exact h2.1 h
              · exact h2.2 h
              · exact h4 h.2
              · exact h3 h.1
              · exact h5 h.2)]; simp
theorem valid_l1 {h : List OpT} {ks : List (List UInt8)} (hh : h.length < 2 ^ 42) (hks : ks.length < 2 ^ 42) : ∀ (d i k : Nat), i + d = ks.length → d + h.length + 2 ≤ k → lin_Valid.l1 h ks k (i : Int) = some (if (ks.drop i).any (fun key => decide (12 < (ofL h key).length)) = true then .inr 23 else .inl ())
  | d, i, 0, _, hk => by omega
  | 0, i, k + 1, hd, _ => by
    simp only [lin_Valid.l1]
    rw [if_neg (by omega), List.drop_of_length_le (by omega)]; rfl
  | d + 1, i, k + 1, hd, hk => by
    have ih := valid_l1 hh hks d (i + 1) k (by omega) (by omega)
    simp only [lin_Valid.l1]
    have e : ((i : Int) + 1) = ((i + 1 : Nat) : Int) := by omega
    rw [if_pos (by omega), if_pos (by omega), w64 (n := (i : Int) + 1) (by omega) (by omega), e, drop_at (show i < ks.length by omega) []]
    simp only [Int.toNat_natCast]
    rw [of_eq hh (by omega), Option.bind_some, ih, List.any_cons]
    by_cases hc : 12 < (ofL h (ks.getD i [])).length
    · rw [if_pos (by omega), decide_eq_true hc, Bool.true_or, if_pos rfl]
    · rw [if_neg (by omega), decide_eq_false hc, Bool.false_or]
def validL (h : List OpT) : Int := if 400 < h.length then 23 else if badL h ≠ 0 then badL h else if (keysL h).any (fun key => decide (12 < (ofL h key).length)) = true then 23 else 0
theorem valid_eq {h : List OpT} (hh : h.length < 2 ^ 42) (hl : ∀ x ∈ h, (oKey x).length ≤ 140737488351232) {k : Nat} (hk : 2 * h.length + 2 ≤ k) : lin_Valid.f k h = some (validL h) := by
  unfold lin_Valid.f validL
  by_cases h1 : 400 < h.length
  · rw [if_pos (by omega), if_pos h1]
  rw [if_neg (by omega), if_neg h1]
  have := valid_l0 hh h.length 0 k (by omega) (by omega)
  rw [show ((0 : Nat) : Int) = 0 from rfl, List.drop_zero] at this
  rw [this]
  by_cases h2 : badL h = 0
  · rw [if_pos h2, if_neg (by simp [h2])]
    simp only [orR]
    rw [keys_eq hh hl (by omega), Option.bind_some]
    have hkl := keysL_len h
    have := valid_l1 (ks := keysL h) hh (by omega) (keysL h).length 0 k (by omega) (by omega)
    rw [show ((0 : Nat) : Int) = 0 from rfl, List.drop_zero] at this
    rw [this]
    by_cases h3 : (keysL h).any (fun key => decide (12 < (ofL h key).length)) = true
    · rw [if_pos h3, if_pos h3]
    · rw [if_neg h3, if_neg h3]
  · rw [if_neg h2, if_pos h2]; rfl
theorem validL_12 {h : List OpT} (hv : validL h = 0) : h.length ≤ 400 ∧ badL h = 0 ∧ ∀ key, (ofL h key).length ≤ 12 := by
  unfold validL at hv
  by_cases h1 : 400 < h.length
  · rw [if_pos h1] at hv; simp at hv
  rw [if_neg h1] at hv
  by_cases h2 : badL h = 0
  · rw [if_neg (by simp [h2])] at hv
    refine ⟨by omega, h2, fun key => ?_⟩
    by_cases h3 : (keysL h).any (fun key => decide (12 < (ofL h key).length)) = true
    · rw [if_pos h3] at hv; simp at hv
    · rw [List.any_eq_true] at h3
      by_cases hm : key ∈ keysL h
      · refine Classical.byContradiction fun hc => h3 ⟨key, hm, by simpa using hc⟩
      · have : ofL h key = [] := by
          unfold ofL ofR
          rw [List.map_eq_nil_iff, List.filter_eq_nil_iff]
          intro j hj hc
          rw [List.mem_range'_1] at hj
          refine hm (((keysL_P h).2 key).2 ⟨h.getD j op0, ?_, ?_⟩)
          · rw [getD_at (by omega)]; exact List.getElem_mem _
          · unfold inK at hc; simp only [Bool.and_eq_true, decide_eq_true_eq] at hc; exact ⟨hc.2, hc.1⟩
        rw [this]; simp
  · rw [if_pos h2] at hv; exact absurd hv h2
/-! ### The order of a key -/
def opsL (h : List OpT) (key : List UInt8) : List OpT := (ofL h key).map fun i => h.getD i.toNat op0
theorem opsL_len (h : List OpT) (key : List UInt8) : (opsL h key).length = (ofL h key).length := by unfold opsL; simp
theorem ofL_mem {h : List OpT} {key : List UInt8} {i : Int} : i ∈ ofL h key ↔ ∃ j : Nat, i = (j : Int) ∧ j < h.length ∧ inK h key j = true := by
  unfold ofL ofR
  rw [List.mem_map]
  constructor
  · rintro ⟨j, hj, rfl⟩
    rw [List.mem_filter, List.mem_range'_1] at hj
    exact ⟨j, rfl, by omega, hj.2⟩
  · rintro ⟨j, rfl, hj, hi⟩
    exact ⟨j, by rw [List.mem_filter, List.mem_range'_1]; exact ⟨⟨by omega, by omega⟩, hi⟩, rfl⟩
theorem ofL_at {h : List OpT} {key : List UInt8} {j : Nat} (hj : j < (ofL h key).length) : ∃ i : Nat, (ofL h key).getD j 0 = (i : Int) ∧ i < h.length ∧ inK h key i = true := by
  have : (ofL h key).getD j 0 ∈ ofL h key := by rw [getD_at hj]; exact List.getElem_mem _
  obtain ⟨i, h1, h2⟩ := ofL_mem.1 this
  exact ⟨i, h1, h2⟩
theorem ofL_len (h : List OpT) (key : List UInt8) : (ofL h key).length ≤ h.length := by
  unfold ofL ofR
  rw [List.length_map]
  refine Nat.le_trans (List.length_filter_le _ _) ?_
  simp
theorem comp_lt {l : List OpT} : ∀ {o : List Nat} {m : Nat} {t : Bool} {v : List UInt8}, comp l m t v o → ∀ j ∈ o, j < l.length
  | [], _, _, _, _, j, hj => by simp at hj
  | i :: o, _, _, _, h, j, hj => by
    rcases List.mem_cons.1 hj with rfl | hj
    · exact h.1
    · exact comp_lt h.2.2.2 j hj
theorem comp_len {l : List OpT} : ∀ {o : List Nat} {m : Nat} {t : Bool} {v : List UInt8}, m < 2 ^ l.length → comp l m t v o → m + o.length < 2 ^ l.length
  | [], m, _, _, hm, _ => by simpa using hm
  | i :: o, m, _, _, hm, h => by
    have hb : m.testBit i = false := by have := h.2.1; unfold may at this; simp only [Bool.and_eq_true, Bool.not_eq_true'] at this; exact this.1
    have h1 := or_add i m hb
    have h2 := comp_len (or_lt hm h.1) h.2.2.2
    have := Nat.two_pow_pos i
    simp only [List.length_cons]
    omega
def Expl (h : List OpT) (key : List UInt8) (p : List Int × Bool) : Prop :=
  (∃ o, Least (opsL h key) 0 false [] o ∧ p = (o.map (fun j => (ofL h key).getD j 0), true)) ∨ ((∀ o, ¬ comp (opsL h key) 0 false [] o) ∧ p = ([], false))
theorem Expl.one {h : List OpT} {key : List UInt8} {p q : List Int × Bool} (a : Expl h key p) (b : Expl h key q) : p = q := by
  rcases a with ⟨o, a1, rfl⟩ | ⟨a1, rfl⟩ <;> rcases b with ⟨o', b1, rfl⟩ | ⟨b1, rfl⟩
  · rw [a1.one b1]
  · exact absurd a1.1 (b1 _)
  · exact absurd b1.1 (a1 _)
  · rfl
open Classical in
noncomputable def explL (h : List OpT) (key : List UInt8) : List Int × Bool := if hx : ∃ p, Expl h key p then hx.choose else ([], false)
theorem expl_of {h : List OpT} {key : List UInt8} {p : List Int × Bool} (a : Expl h key p) : explL h key = p := by
  unfold explL
  have hx : ∃ p, Expl h key p := ⟨p, a⟩
  rw [dif_pos hx]
  exact hx.choose_spec.one a
theorem explain_l0 {h : List OpT} {ns : List Int} (hn : ns.length ≤ 600) (hin : ∀ i ∈ ns, ∃ j : Nat, i = (j : Int) ∧ j < h.length) : ∀ (d i k : Nat) (acc : List OpT), i + d = ns.length → acc.length ≤ i → d + 1 ≤ k → lin_explain.l0 h ns k (i : Int) acc = some (acc ++ (ns.drop i).map fun i => h.getD i.toNat op0)
  | d, i, 0, _, _, _, hk => by omega
  | 0, i, k + 1, acc, hd, _, _ => by
    simp only [lin_explain.l0]
    rw [if_neg (by omega), List.drop_of_length_le (by omega)]; simp
  | d + 1, i, k + 1, acc, hd, ha, hk => by
    have ih := fun acc ha => explain_l0 hn hin d (i + 1) k acc (by omega) ha (by omega)
    simp only [lin_explain.l0]
    have e : ((i : Int) + 1) = ((i + 1 : Nat) : Int) := by omega
    obtain ⟨j, hj, hjl⟩ := hin (ns.getD i 0) (by rw [getD_at (by omega)]; exact List.getElem_mem _)
    rw [if_pos (by omega), if_pos (by omega), w64 (n := (i : Int) + 1) (by omega) (by omega), e, drop_at (show i < ns.length by omega) 0]
    simp only [Int.toNat_natCast]
    rw [hj, if_pos (by omega), if_pos (by simp; omega), ih _ (by simp; omega)]
    simp
theorem explain_l1 {ns : List Int} {s : Bool × SpotM × List Int} {o : List Nat} (hs : s.2.2 = o.map fun (j : Nat) => (j : Int)) (hn : ns.length ≤ 600) (hol : o.length ≤ 5000) (hlt : ∀ j ∈ o, j < ns.length) : ∀ (d i k : Nat) (acc : List Int), i + d = o.length → acc.length ≤ i → d + 1 ≤ k → lin_explain.l1 ns s k acc (i : Int) = some (acc ++ (o.drop i).map fun j => ns.getD j 0)
  | d, i, 0, _, _, _, hk => by omega
  | 0, i, k + 1, acc, hd, _, _ => by
    simp only [lin_explain.l1]
    rw [if_neg (by rw [hs]; simp; omega), List.drop_of_length_le (by omega)]; simp
  | d + 1, i, k + 1, acc, hd, ha, hk => by
    have ih := fun acc ha => explain_l1 hs hn hol hlt d (i + 1) k acc (by omega) ha (by omega)
    simp only [lin_explain.l1]
    have e : ((i : Int) + 1) = ((i + 1 : Nat) : Int) := by omega
    have hj := hlt (o.getD i 0) (by rw [getD_at (by omega)]; exact List.getElem_mem _)
    have hg : s.2.2.getD i 0 = ((o.getD i 0 : Nat) : Int) := by rw [hs, getD_at (by simp; omega), getD_at (by omega)]; simp
    have hl : s.2.2.length = o.length := by rw [hs]; simp
    rw [hl, if_pos (by omega), if_pos (by omega), w64 (n := (i : Int) + 1) (by omega) (by omega), e, drop_at (show i < o.length by omega) 0]
    simp only [Int.toNat_natCast]
    rw [hg, if_pos (by omega)]
    simp only [Int.toNat_natCast]
    rw [if_pos (by simp; omega), ih _ (by simp; omega)]
    simp
theorem explain_eq {h : List OpT} {key : List UInt8} (hh : h.length ≤ 600) (h12 : (ofL h key).length ≤ 12) {k : Nat} (hk : 6000 ≤ k) : lin_explain.f k h key = some (explL h key) ∧ Expl h key (explL h key) := by
  have main : ∃ p, lin_explain.f k h key = some p ∧ Expl h key p := by
    unfold lin_explain.f
    rw [of_eq (by omega) (by omega), Option.bind_some]
    have h0 := explain_l0 (h := h) (ns := ofL h key) (by omega) (fun i hi => by obtain ⟨j, a, b, _⟩ := ofL_mem.1 hi; exact ⟨j, a, b⟩) (ofL h key).length 0 k [] (by omega) (by simp) (by omega)
    rw [show ((0 : Nat) : Int) = 0 from rfl, List.drop_zero, List.nil_append] at h0
    rw [h0, Option.bind_some]
    have hl12 : (opsL h key).length ≤ 12 := by rw [opsL_len]; exact h12
    have hp : 2 ^ (opsL h key).length ≤ 2 ^ 12 := Nat.pow_le_pow_right (by decide) hl12
    have hp0 := Nat.two_pow_pos (opsL h key).length
    obtain ⟨f', _, hr⟩ := from_eq hl12 (2 ^ (opsL h key).length) 0 false [] [] [] k (by omega) (by omega) (Snd.nil _) (by omega) (by simp; omega)
    rw [show ((0 : Nat) : Int) = 0 from rfl] at hr
    rcases hr with ⟨o, hr, hl⟩ | ⟨hr, hno⟩
    · have hol := comp_len hp0 hl.1
      have e : lin_search_from.f k (List.map (fun i => h.getD i.toNat op0) (ofL h key)) [] [] 0 false [] = _ := hr
      rw [List.nil_append] at e
      rw [e, Option.bind_some]
      simp only [Bool.not_true, Bool.false_eq_true, if_false]
      have h1 := explain_l1 (ns := ofL h key) (s := (true, f', o.map fun (j : Nat) => (j : Int))) (o := o) rfl (by omega) (by omega) (fun j hj => by rw [← opsL_len]; exact comp_lt hl.1 j hj) o.length 0 k [] (by omega) (by simp) (by omega)
      rw [show ((0 : Nat) : Int) = 0 from rfl, List.drop_zero, List.nil_append] at h1
      rw [h1]
      exact ⟨_, rfl, .inl ⟨o, hl, rfl⟩⟩
    · have e : lin_search_from.f k (List.map (fun i => h.getD i.toNat op0) (ofL h key)) [] [] 0 false [] = _ := hr
      rw [e, Option.bind_some]
      exact ⟨_, rfl, .inr ⟨hno, rfl⟩⟩
  obtain ⟨p, h1, h2⟩ := main
  rw [expl_of h2]
  exact ⟨h1, h2⟩
theorem Explain_eq {h : List OpT} {key : List UInt8} (hh : h.length ≤ 600) (hl : ∀ x ∈ h, (oKey x).length ≤ 140737488351232) {k : Nat} (hk : 6000 ≤ k) :
    lin_Explain.f k h key = some (if validL h = 0 then ((explL h key).1, (explL h key).2, 0) else ([], false, validL h)) := by
  unfold lin_Explain.f
  rw [valid_eq (by omega) hl (by omega), Option.bind_some]
  by_cases hv : validL h = 0
  · rw [if_pos hv, if_pos hv, (explain_eq hh ((validL_12 hv).2.2 key) hk).1]; rfl
  · rw [if_neg hv, if_neg hv]
theorem check_l0 {h : List OpT} {ks : List (List UInt8)} (hh : h.length ≤ 600) (h12 : ∀ key, (ofL h key).length ≤ 12) (hks : ks.length < 2 ^ 42) : ∀ (d i k : Nat), i + d = ks.length → d + 6001 ≤ k → lin_Check.l0 h ks k (i : Int) = some (if (ks.drop i).all (fun key => (explL h key).2) = true then .inl () else .inr (false, 0))
  | d, i, 0, _, hk => by omega
  | 0, i, k + 1, hd, _ => by
    simp only [lin_Check.l0]
    rw [if_neg (by omega), List.drop_of_length_le (by omega)]; rfl
  | d + 1, i, k + 1, hd, hk => by
    have ih := check_l0 hh h12 hks d (i + 1) k (by omega) (by omega)
    simp only [lin_Check.l0]
    have e : ((i : Int) + 1) = ((i + 1 : Nat) : Int) := by omega
    rw [if_pos (by omega), if_pos (by omega), w64 (n := (i : Int) + 1) (by omega) (by omega), e, drop_at (show i < ks.length by omega) []]
    simp only [Int.toNat_natCast]
    rw [(explain_eq hh (h12 _) (by omega)).1, Option.bind_some, ih, List.all_cons]
    cases hc : (explL h (ks.getD i [])).2
    · simp
    · simp
theorem Check_eq {h : List OpT} (hh : h.length ≤ 600) (hl : ∀ x ∈ h, (oKey x).length ≤ 140737488351232) {k : Nat} (hk : 7000 ≤ k) :
    lin_Check.f k h = some (if validL h = 0 then ((keysL h).all (fun key => (explL h key).2), 0) else (false, validL h)) := by
  unfold lin_Check.f
  rw [valid_eq (by omega) hl (by omega), Option.bind_some]
  by_cases hv : validL h = 0
  · rw [if_pos hv, if_pos hv, keys_eq (by omega) hl (by omega), Option.bind_some]
    have hkl := keysL_len h
    have := check_l0 (ks := keysL h) hh (validL_12 hv).2.2 (by omega) (keysL h).length 0 k (by omega) (by omega)
    rw [show ((0 : Nat) : Int) = 0 from rfl, List.drop_zero] at this
    rw [this]
    cases hc : (keysL h).all (fun key => (explL h key).2) <;> simp [orR]
  · rw [if_neg hv, if_neg hv]
theorem first_eq (m : Nat) : synodlaw16_first.f (m + 60) = some true := by kernel_rfl
end Go.Proofs.Ytlblpegbgbgliaa

/- Kv: the document's snapshot is the program's; a store as the document's. Conditions: as each says. -/
import Derived.Test.YtdaedoklkmdhcaaPlKv4
namespace Go.Proofs.Ytdaedoklkmdhcaa
set_option linter.unusedVariables false
set_option linter.unusedSimpArgs false
set_option linter.unusedSectionVars false
open Go.RowKit
theorem div128 (n : Nat) (h : n < 2 ^ 63) : IntKind.i64.wrap (Int.tdiv (n : Int) 128) = ((n / 128 : Nat) : Int) := by
  rw [Int.tdiv_eq_ediv_of_nonneg (by omega), w64 (by omega) (by omega)]
  simp
theorem mod128 (n : Nat) : Int.tmod (n : Int) 128 = ((n % 128 : Nat) : Int) := by
  rw [Int.tmod_eq_emod_of_nonneg (by omega)]; simp
theorem rsize_loop : ∀ (j n c k : Nat), n < 128 ^ (j + 1) → j + 1 ≤ k → c + j < 1000 → n < 2 ^ 63 → synodref1_Size.l0 k (n : Int) (c : Int) = some (((c + ((sv n).length - 1) : Nat)) : Int)
  | j, n, c, 0, _, hk, _, _ => by omega
  | j, n, c, k + 1, h, hk, hc, hs => by
    simp only [synodref1_Size.l0]
    by_cases hn : n < 128
    · rw [if_neg (by omega), sv_lt hn]; simp
    · rw [if_pos (by omega), div128 n hs]
      cases j with
      | zero => simp at h; omega
      | succ j =>
        rw [w64 (by omega) (by omega)]
        have := rsize_loop j (n / 128) (c + 1) k (by rw [Nat.pow_succ] at h; exact Nat.div_lt_of_lt_mul (by rw [Nat.mul_comm]; exact h)) (by omega) (by omega) (by omega)
        have e : ((c : Int) + 1) = ((c + 1 : Nat) : Int) := by simp
        rw [e, this, sv_ge (n := n) (by omega)]
        have := sv_pos (n / 128)
        simp only [List.length_cons, Option.some.injEq, Int.ofNat_inj]
        omega
theorem ref_Size_eq {k : Nat} (hk : 10 ≤ k) (x : Int) : synodref1_Size.f k x = some (sizeV x) := by
  unfold synodref1_Size.f sizeV
  by_cases h : okN x
  · rw [if_neg (by rw [guard_okN]; simpa using h), if_pos h]
    obtain ⟨n, rfl⟩ := Int.eq_ofNat_of_zero_le h.1
    have h2 : n ≤ 4611686018427387904 := by have := h.2; omega
    have := rsize_loop 8 n 1 k (by omega) (by omega) (by omega) (by omega)
    have e : ((1 : Nat) : Int) = 1 := rfl
    rw [e] at this
    rw [this]
    have := sv_pos n
    simp; omega
  · rw [if_pos ((guard_okN x).2 h), if_neg h]

/-! The bytes, one by one. -/
theorem rput_loop : ∀ (j n k : Nat) (a : List UInt8), n < 128 ^ (j + 1) → j + 1 ≤ k → n < 2 ^ 63 → a.length + j < 1000 → ∃ q l, synodref1_PutInt.l0 k (n : Int) a = some (((q : Nat) : Int), l) ∧ q < 128 ∧ l ++ [UInt8.ofNat q] = a ++ sv n ∧ l.length ≤ a.length + j
  | j, n, 0, a, _, hk, _, _ => by omega
  | j, n, k + 1, a, h, hk, hs, ha => by
    simp only [synodref1_PutInt.l0]
    by_cases hn : n < 128
    · rw [if_neg (by omega), sv_lt hn]; exact ⟨n, a, rfl, hn, rfl, by omega⟩
    · have e1 : IntKind.u8.wrap (IntKind.i64.wrap ((Int.tmod (n : Int) 128) + 128)) = ((n % 128 + 128 : Nat) : Int) := by
        rw [mod128, w64 (by omega) (by omega), w8 (by omega) (by omega)]; simp
      rw [if_pos (by omega), div128 n hs, e1, if_pos (by omega), if_pos (by simp; omega)]
      cases j with
      | zero => simp at h; omega
      | succ j =>
        rw [byte_of]
        obtain ⟨q, l, h1, h2, h3, h4⟩ := rput_loop j (n / 128) k (a ++ [UInt8.ofNat (n % 128 + 128)]) (by rw [Nat.pow_succ] at h; exact Nat.div_lt_of_lt_mul (by rw [Nat.mul_comm]; exact h)) (by omega) (by omega) (by simp; omega)
        refine ⟨q, l, h1, h2, ?_, by simp at h4; omega⟩
        rw [h3, sv_ge (n := n) (by omega)]; simp
theorem ref_PutInt_eq {k : Nat} (hk : 10 ≤ k) (x : Int) : synodref1_PutInt.f k x = some (bytesV x, errV x) := by
  unfold synodref1_PutInt.f bytesV errV
  rw [ref_Size_eq hk, Option.bind_some]
  by_cases h : okN x
  · obtain ⟨n, rfl⟩ := Int.eq_ofNat_of_zero_le h.1
    have h2 : n ≤ 4611686018427387904 := by have := h.2; omega
    obtain ⟨q, l, h3, h4, h5, h6⟩ := rput_loop 8 n k [] (by omega) (by omega) (by omega) (by simp)
    rw [if_neg (by rw [sizeV_zero]; simpa using h), if_pos h, if_pos h, h3, Option.bind_some]
    simp only []
    simp at h6
    rw [w8 (by omega) (by omega), if_pos (by omega), if_pos (by simp; omega), byte_of, h5]
    rfl
  · rw [if_pos ((sizeV_zero x).2 h), if_neg h, if_neg h]

/-! Two byte lists. -/
theorem refwInt_eq {k : Nat} (hk : 10 ≤ k) {b : List UInt8} (hb : b.length + 9 ≤ 140737488355328) (e x : Int) : synodref1_Writer_Int.f k b e x = some (wNum b e x) := by
  unfold synodref1_Writer_Int.f wNum
  have := bytesV_len x
  by_cases he : e = 0
  · rw [if_pos he, if_pos he, ref_PutInt_eq hk, Option.bind_some, if_pos (by simp only []; omega)]
  · rw [if_neg he, if_neg he]
theorem refwBytes_eq {k : Nat} (hk : 10 ≤ k) {b l : List UInt8} (hb : b.length + 9 + l.length < 140737488355328) (e most : Int) : synodref1_Writer_Bytes.f k b e l most = some (wBytes b e l most) := by
  unfold synodref1_Writer_Bytes.f wBytes
  by_cases he : e = 0
  · by_cases hm : max most 0 < (l.length : Int)
    · rw [if_pos he, if_pos hm, if_pos he, if_pos hm]
    · have hn := okN_len (l := l) (by omega)
      have hl := bytesV_len (l.length : Int)
      rw [if_pos he, if_neg hm, if_pos he, if_neg hm, refwInt_eq hk (by omega), Option.bind_some]
      unfold wNum
      rw [if_pos he, (errV_zero _).2 hn]
      simp only []
      rw [if_pos (by rw [List.length_append]; omega)]
  · rw [if_neg he, if_neg he]
theorem refwText_eq {k : Nat} (hk : 10 ≤ k) {b l : List UInt8} (hb : b.length + 9 + l.length < 140737488355328) (e most : Int) : synodref1_Writer_Text.f k b e l most = some (wBytes b e l most) := by
  unfold synodref1_Writer_Text.f; rw [if_pos (by omega), refwBytes_eq hk hb]; rfl
theorem refwDone_eq (b : List UInt8) (e : Int) : (if e = (0 : Int) then (some (b, (0 : Int))) else (some (([] : List UInt8), e))) = some (wDone b e) := by
  unfold wDone; split <;> simp_all
theorem refsnap_l0 (l : PP) (hl : l.length ≤ 128) (he : ∀ x ∈ l, x.1.length ≤ 64 ∧ x.2.length ≤ 1024) : ∀ (d i k : Nat) (st : List UInt8 × Int), i + d = l.length → d + 11 ≤ k → st.1.length ≤ 1000 + i * 1200 →
    synodref11_Store_Snapshot.l0 l k (i : Int) st.1 st.2 = some ((l.drop i).foldl wP st)
  | d, i, 0, st, _, hk, _ => by omega
  | 0, i, k + 1, st, hi, _, hs => by
    simp only [synodref11_Store_Snapshot.l0]
    rw [if_neg (by omega), List.drop_eq_nil_of_le (by omega)]; simp
  | d + 1, i, k + 1, st, hi, hk, hs => by
    simp only [synodref11_Store_Snapshot.l0]
    have hb : 0 ≤ (i : Int) ∧ (i : Int) < (l.length : Int) := by omega
    have hm := he _ (getD_mem l i ([], []) (by omega))
    obtain ⟨x, hx⟩ : ∃ x, l.getD i ([], []) = x := ⟨_, rfl⟩
    rw [hx] at hm
    simp only [if_pos hb.2, if_pos hb, Int.toNat_natCast, hx]
    have a := wBytes_len st.1 st.2 x.1 64
    have hn := wP_len st x hm.1 hm.2
    have ih := refsnap_l0 l hl he d (i + 1) k (wP st x) (by omega) (by omega) (by
      generalize (wP st x).1.length = n at hn ⊢
      omega)
    rw [refwText_eq (by omega) (by omega), Option.bind_some, refwText_eq (by omega) (by omega), Option.bind_some, inc64 i 2000 (by omega) (by decide)]
    have hw : wP st x = wBytes (wBytes st.1 st.2 x.1 64).1 (wBytes st.1 st.2 x.1 64).2 x.2 1024 := rfl
    rw [← hw, ih, getD_drop_cons l i ([], []) (by omega), List.foldl_cons, hx]
theorem refsnap_l1 (l : List Sess) (hl : l.length ≤ 32) (he : ∀ x ∈ l, x.2.2.2.length ≤ 1024) : ∀ (d i k : Nat) (st : List UInt8 × Int), i + d = l.length → d + 11 ≤ k → st.1.length ≤ 300000 + i * 1200 →
    synodref11_Store_Snapshot.l1 l k (i : Int) st.1 st.2 = some ((l.drop i).foldl wS st)
  | d, i, 0, st, _, hk, _ => by omega
  | 0, i, k + 1, st, hi, _, hs => by
    simp only [synodref11_Store_Snapshot.l1]
    rw [if_neg (by omega), List.drop_eq_nil_of_le (by omega)]; simp
  | d + 1, i, k + 1, st, hi, hk, hs => by
    simp only [synodref11_Store_Snapshot.l1]
    have hb : 0 ≤ (i : Int) ∧ (i : Int) < (l.length : Int) := by omega
    have hm := he _ (getD_mem l i dSe (by omega))
    obtain ⟨x, hx⟩ : ∃ x, l.getD i dSe = x := ⟨_, rfl⟩
    have hx' : l.getD i ((0 : Int), (0 : Int), (0 : Int), ([] : List UInt8)) = x := hx
    rw [hx] at hm
    simp only [if_pos hb.2, if_pos hb, Int.toNat_natCast, hx']
    have a := wNum_len st.1 st.2 x.1
    have b := wNum_len (wNum st.1 st.2 x.1).1 (wNum st.1 st.2 x.1).2 x.2.1
    have c := wNum_len (wNum (wNum st.1 st.2 x.1).1 (wNum st.1 st.2 x.1).2 x.2.1).1 (wNum (wNum st.1 st.2 x.1).1 (wNum st.1 st.2 x.1).2 x.2.1).2 x.2.2.1
    rw [refwInt_eq (by omega) (by omega), Option.bind_some, refwInt_eq (by omega) (by omega), Option.bind_some, refwInt_eq (by omega) (by omega), Option.bind_some, refwText_eq (by omega) (by omega), Option.bind_some, inc64 i 2000 (by omega) (by decide)]
    have hw : (wS st x) = wBytes (wNum (wNum (wNum st.1 st.2 x.1).1 (wNum st.1 st.2 x.1).2 x.2.1).1 (wNum (wNum st.1 st.2 x.1).1 (wNum st.1 st.2 x.1).2 x.2.1).2 x.2.2.1).1 (wNum (wNum (wNum st.1 st.2 x.1).1 (wNum st.1 st.2 x.1).2 x.2.1).1 (wNum (wNum st.1 st.2 x.1).1 (wNum st.1 st.2 x.1).2 x.2.1).2 x.2.2.1).2 x.2.2.2 1024 := rfl
    have hn := wS_len st x hm
    have ih := refsnap_l1 l hl he d (i + 1) k (wS st x) (by omega) (by omega) (by
      generalize (wS st x).1.length = n at hn ⊢
      omega)
    rw [← hw, ih, getD_drop_cons l i dSe (by omega), List.foldl_cons, hx]
theorem refSnapshot_eq {p : PP} {s : SS} (h : Inv p s) {k : Nat} (hk : 200 ≤ k) : synodref11_Store_Snapshot.f k (canP p) (canS s) = some (snapV p s) := by
  have hp := h.pl; have hs := h.sl
  have b := wNum_len [] 0 ((canP p).length : Int)
  simp only [List.length_nil] at b
  have hin : ∀ e ∈ canP p, e.1.length ≤ 64 ∧ e.2.length ≤ 1024 := by
    intro e he; obtain ⟨c, hc, rfl⟩ := List.mem_map.1 he; exact canP_in h c hc
  have hin2 : ∀ x ∈ canS s, x.2.2.2.length ≤ 1024 := fun x hx => (h.se _ (canS_in h x hx)).2.2.2.2
  have e1 : (canP p).length = p.length := canP_len
  have e2 := canS_len s
  have a := wP_fold (canP p) (wNum [] 0 ((canP p).length : Int)) hin
  have c := wNum_len ((canP p).foldl wP (wNum [] 0 ((canP p).length : Int))).1 ((canP p).foldl wP (wNum [] 0 ((canP p).length : Int))).2 ((canS s).length : Int)
  unfold synodref11_Store_Snapshot.f
  rw [refwInt_eq (by omega) (by simp), Option.bind_some]
  have h0 := refsnap_l0 (canP p) (by omega) hin (canP p).length 0 k (wNum [] 0 ((canP p).length : Int)) (by omega) (by omega) (by omega)
  rw [show ((0 : Nat) : Int) = 0 from rfl, List.drop_zero] at h0
  rw [h0, Option.bind_some, refwInt_eq (by omega) (by omega), Option.bind_some]
  have h1 := refsnap_l1 (canS s) (by omega) hin2 (canS s).length 0 k (wNum ((canP p).foldl wP (wNum [] 0 ((canP p).length : Int))).1 ((canP p).foldl wP (wNum [] 0 ((canP p).length : Int))).2 ((canS s).length : Int)) (by omega) (by omega) (by omega)
  rw [show ((0 : Nat) : Int) = 0 from rfl, List.drop_zero] at h1
  rw [h1, Option.bind_some]
  first | unfold synodref1_Writer_Done_s_c0p0.f | unfold synodref1_Writer_Done_s_c0.f | unfold synodref1_Writer_Done_s.f | unfold synodref1_Writer_Done.f
  rw [refwDone_eq, Option.bind_some, e1, e2]
  rfl
theorem Keys_eq {p : PP} {s : SS} (h : Inv p s) : kv_Store_Keys.f p s = some (keysS p) := by
  have hp := h.pl
  unfold kv_Store_Keys.f maps_Keys_map_string_string_string_string.f slices_Sorted_string_maps_Keys_map_string_string_string_string_1.f
  rw [Option.bind_some, if_pos ⟨h.pk, by omega, fun e he => by have := (h.pe e he).2.1; omega⟩, Option.bind_some]
theorem sessions_same (L : List Sess) (hL : L.length ≤ 1000) : ∀ (d i k : Nat), i + d = L.length → d + 1 ≤ k → synodlaw11_Sessions.l0 L L k (i : Int) = some (.inl ())
  | d, i, 0, _, hk => by omega
  | 0, i, k + 1, hi, _ => by
    simp only [synodlaw11_Sessions.l0]
    rw [if_neg (by omega)]
  | d + 1, i, k + 1, hi, hk => by
    have hb : 0 ≤ (i : Int) ∧ (i : Int) < (L.length : Int) := by omega
    simp only [synodlaw11_Sessions.l0]
    simp only [if_pos hb.2, if_pos hb, if_true, decide_true, Bool.and_self, Bool.not_true, Option.bind_some, Bool.false_eq_true, if_false]
    rw [inc64 i 2000 (by omega) (by decide)]
    exact sessions_same L hL d (i + 1) k (by omega) (by omega)
theorem SessionsF_eq (L : List Sess) (hL : L.length ≤ 1000) (P : PP) {k : Nat} (hk : 2000 ≤ k) : synodlaw11_Sessions.f k L P L = some true := by
  unfold synodlaw11_Sessions.f
  have e := sessions_same L hL L.length 0 k (by omega) (by omega)
  rw [show ((0 : Nat) : Int) = 0 from rfl] at e
  rw [if_pos rfl, e]; rfl
theorem same_l1 : ∀ (d i k : Nat) (L : List Sess), i + d = L.length → L.length ≤ 1000 → d + 1 ≤ k → synodlaw11_Same.l1 k L (i : Int) = some ()
  | d, i, 0, L, _, _, hk => by omega
  | 0, i, k + 1, L, hi, _, _ => by
    simp only [synodlaw11_Same.l1]
    rw [if_neg (by omega)]
  | d + 1, i, k + 1, L, hi, hL, hk => by
    simp only [synodlaw11_Same.l1]
    rw [if_pos (by omega), if_pos (by omega), inc64 i 2000 (by omega) (by decide)]
    exact same_l1 d (i + 1) k _ (by rw [List.length_set]; omega) (by rw [List.length_set]; omega) (by omega)
theorem same_l2 : ∀ (d i k : Nat) (L : List (List UInt8)), i + d = L.length → L.length ≤ 1000 → d + 1 ≤ k → synodlaw11_Same.l2 k L (i : Int) = some ()
  | d, i, 0, L, _, _, hk => by omega
  | 0, i, k + 1, L, hi, _, _ => by
    simp only [synodlaw11_Same.l2]
    rw [if_neg (by omega)]
  | d + 1, i, k + 1, L, hi, hL, hk => by
    simp only [synodlaw11_Same.l2]
    rw [if_pos (by omega), if_pos (by omega), inc64 i 2000 (by omega) (by decide)]
    exact same_l2 d (i + 1) k _ (by rw [List.length_set]; omega) (by rw [List.length_set]; omega) (by omega)
theorem same_l3 : ∀ (d i k : Nat) (L : List UInt8), i + d = L.length → L.length ≤ 1000000 → d + 1 ≤ k → synodlaw11_Same.l3 k L (i : Int) = some ()
  | d, i, 0, L, _, _, hk => by omega
  | 0, i, k + 1, L, hi, _, _ => by
    simp only [synodlaw11_Same.l3]
    rw [if_neg (by omega)]
  | d + 1, i, k + 1, L, hi, hL, hk => by
    simp only [synodlaw11_Same.l3]
    rw [if_pos (by omega), if_pos (by omega), inc64 i 2000000 (by omega) (by decide)]
    exact same_l3 d (i + 1) k _ (by rw [List.length_set]; omega) (by rw [List.length_set]; omega) (by omega)
theorem canP_at {p : PP} {i : Nat} (h : i < (keysS p).length) : (canP p).getD i ([], []) = ((keysS p).getD i [], (mget p ((keysS p).getD i [])).getD []) := by
  refine getD_of ?_ _
  unfold canP
  rw [List.getElem?_map, get_of_lt h ([] : List UInt8)]; rfl
theorem same_l0 {p : PP} (s : SS) : ∀ (d i k : Nat), i + d = (keysS p).length → (keysS p).length ≤ 1000 → d + 1 ≤ k → synodlaw11_Same.l0 p s (canP p) (keysS p) k (i : Int) = some (.inl ())
  | d, i, 0, _, _, hk => by omega
  | 0, i, k + 1, hi, _, _ => by
    simp only [synodlaw11_Same.l0]
    rw [if_neg (by omega)]
  | d + 1, i, k + 1, hi, hL, hk => by
    have hb : 0 ≤ (i : Int) ∧ (i : Int) < ((keysS p).length : Int) := by omega
    have hb2 : 0 ≤ (i : Int) ∧ (i : Int) < ((canP p).length : Int) := by rw [canP_len, ← keysS_len p]; exact hb
    have ha := canP_at (p := p) (i := i) (by omega)
    have hk := getD_mem (keysS p) i [] (by omega)
    have hg := (mget_key p _).1 ((keysS_perm p).mem_iff.1 hk)
    have hv : kv_Store_Get.v p s ((keysS p).getD i []) = (1, (mget p ((keysS p).getD i [])).getD []) := by
      unfold kv_Store_Get.v kv_Store_Get.f
      rw [hg]; rfl
    simp only [synodlaw11_Same.l0]
    rw [if_pos hb.2]
    simp only [if_pos hb, if_pos hb2, Int.toNat_natCast, ha, if_true, hv, decide_true, Bool.and_self, Bool.not_true, Option.bind_some, Bool.false_eq_true, if_false]
    rw [inc64 i 2000 (by omega) (by decide)]
    exact same_l0 s d (i + 1) k (by omega) (by omega) (by omega)
theorem Same_eq {p : PP} {s : SS} (h : Inv p s) {k : Nat} (hk : 400000 ≤ k) : synodlaw11_Same.f k p s (canP p) (canS s) = some true := by
  have hp := h.pl; have hs := h.sl
  have e1 : (canP p).length = p.length := canP_len
  have e2 := canS_len s
  have e3 := keysS_len p
  have hlen := snapV_len h
  unfold synodlaw11_Same.f
  rw [Keys_eq h, Option.bind_some, show kv_Store_Len.v p s = (p.length : Int) from rfl, if_neg (by simp [e1, e3])]
  have h0 := same_l0 (p := p) s (keysS p).length 0 k (by omega) (by omega) (by omega)
  have h1 := same_l1 (canS s).length 0 k (canS s) (by omega) (by omega) (by omega)
  have h2 := same_l2 (keysS p).length 0 k (keysS p) (by omega) (by omega) (by omega)
  have h3 := same_l3 (snapV p s).length 0 k (snapV p s) (by omega) (by omega) (by omega)
  rw [show ((0 : Nat) : Int) = 0 from rfl] at h0 h1 h2 h3
  rw [h0]
  simp only [orR]
  rw [Sessions_eq h (by omega), Option.bind_some, SessionsF_eq _ (by omega) _ (by omega), Option.bind_some, h1, Option.bind_some, h2, Option.bind_some, Snapshot_eq h (by omega), Option.bind_some, refSnapshot_eq h (by omega), Option.bind_some, SameBytes_eq (by omega) (by omega), Option.bind_some, h3, Option.bind_some]
  simp only [decide_true, Bool.and_self, if_true]
  rw [Option.bind_some, SessionsF_eq _ (by omega) _ (by omega)]
  rfl
end Go.Proofs.Ytdaedoklkmdhcaa

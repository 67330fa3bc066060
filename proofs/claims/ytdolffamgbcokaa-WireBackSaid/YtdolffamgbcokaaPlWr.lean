/- What a writer tells, and that what is written is read: plain laws of WireWrites and WireBack. Conditions: as each says. -/
import Derived.Test.YtdolffamgbcokaaPlRw
namespace Go.Proofs.Ytdolffamgbcokaa
set_option linter.unusedVariables false
set_option linter.unusedSimpArgs false
open Go.RowKit

/-- A writer's number, bytes. -/
def wNum (b : List UInt8) (e x : Int) : List UInt8 × Int := if e = 0 then (b ++ bytesV x, errV x) else (b, e)
def wBytes (b : List UInt8) (e : Int) (l : List UInt8) (most : Int) : List UInt8 × Int :=
  if e = 0 then (if max most 0 < (l.length : Int) then (b, 3) else (b ++ bytesV (l.length : Int) ++ l, 0)) else (b, e)
theorem wNum_len (b : List UInt8) (e x : Int) : (wNum b e x).1.length ≤ b.length + 9 := by
  unfold wNum
  have := bytesV_len x
  split <;> simp <;> omega
theorem wBytes_len (b : List UInt8) (e : Int) (l : List UInt8) (most : Int) : (wBytes b e l most).1.length ≤ b.length + 9 + l.length := by
  unfold wBytes
  have := bytesV_len (l.length : Int)
  split
  · split <;> simp <;> omega
  · simp; omega
theorem wInt_eq {k : Nat} (hk : 10 ≤ k) {b : List UInt8} (hb : b.length + 9 ≤ 140737488355328) (e x : Int) : wire_Writer_Int.f k b e x = some (wNum b e x) := by
  unfold wire_Writer_Int.f wNum
  by_cases he : e = 0
  · rw [if_pos he, if_pos he, wire_Size_eq hk, Option.bind_some]
    unfold bytesV errV
    by_cases h : okN x
    · obtain ⟨n, rfl⟩ := Int.eq_ofNat_of_zero_le h.1
      have h2 : n ≤ 4611686018427387904 := by have := h.2; omega
      have hl := sv9 (n := n) (by omega)
      rw [if_neg (by rw [sizeV_zero]; simpa using h), if_pos h, if_pos h]
      show ((wire_sevens_1.f k apStep b (n : Int)).bind _) = _
      rw [sevens_eq hk _ _ (by omega), ap_fold _ _ (by omega), he]
      rfl
    · rw [if_pos ((sizeV_zero x).2 h), if_neg h, if_neg h]; simp
  · rw [if_neg he, if_neg he]
theorem refwInt_eq {k : Nat} (hk : 10 ≤ k) {b : List UInt8} (hb : b.length + 9 ≤ 140737488355328) (e x : Int) : synodref1_Writer_Int.f k b e x = some (wNum b e x) := by
  unfold synodref1_Writer_Int.f wNum
  have := bytesV_len x
  by_cases he : e = 0
  · rw [if_pos he, if_pos he, ref_PutInt_eq hk, Option.bind_some, if_pos (by simp only []; omega)]
  · rw [if_neg he, if_neg he]
def b01 (v : Bool) : Int := if v = true then 1 else 0
theorem wBool_eq {k : Nat} (hk : 10 ≤ k) {b : List UInt8} (hb : b.length + 9 ≤ 140737488355328) (e : Int) (v : Bool) : wire_Writer_Bool.f k b e v = some (wNum b e (b01 v)) := by
  unfold wire_Writer_Bool.f b01
  rw [wInt_eq hk hb, wInt_eq hk hb]
  cases v <;> rfl
theorem refwBool_eq {k : Nat} (hk : 10 ≤ k) {b : List UInt8} (hb : b.length + 9 ≤ 140737488355328) (e : Int) (v : Bool) : synodref1_Writer_Bool.f k b e v = some (wNum b e (b01 v)) := by
  unfold synodref1_Writer_Bool.f b01
  rw [refwInt_eq hk hb, refwInt_eq hk hb]
  cases v <;> rfl
theorem okN_len {l : List UInt8} (h : l.length < 2 ^ 47) : okN (l.length : Int) := ⟨by omega, by omega⟩
theorem wBytes_eq {k : Nat} (hk : 10 ≤ k) {b l : List UInt8} (hb : b.length + 9 + l.length < 140737488355328) (e most : Int) : wire_Writer_Bytes.f k b e l most = some (wBytes b e l most) := by
  unfold wire_Writer_Bytes.f wBytes
  by_cases he : e = 0
  · by_cases hm : max most 0 < (l.length : Int)
    · rw [if_pos (by simp [he]; omega), if_pos he, if_pos hm]; rfl
    · have hn := okN_len (l := l) (by omega)
      have hl := bytesV_len (l.length : Int)
      rw [if_neg (by simp; omega), if_pos he, if_neg hm, Option.bind_some, if_pos he, wInt_eq hk (by omega), Option.bind_some]
      unfold wNum
      rw [if_pos he, (errV_zero _).2 hn]
      simp only []
      rw [if_pos (by rw [List.length_append]; omega)]
  · rw [if_neg (by simp [he]), if_neg he, Option.bind_some, if_neg he]
theorem refwBytes_eq {k : Nat} (hk : 10 ≤ k) {b l : List UInt8} (hb : b.length + 9 + l.length < 140737488355328) (e most : Int) : synodref1_Writer_Bytes.f k b e l most = some (wBytes b e l most) := by
  unfold synodref1_Writer_Bytes.f wBytes
  by_cases he : e = 0
  · by_cases hm : max most 0 < (l.length : Int)
    · rw [if_pos he, if_pos hm, if_pos he, if_pos hm]
    · have hn := okN_len (l := l) (by omega)
      have hl := bytesV_len (l.length : Int)
      rw [if_pos he, if_neg hm, if_pos he, if_neg hm, refwInt_eq hk (by omega), Option.bind_some]
      unfold wNum
      rw [if_pos he, (errV_zero _).2 hn]
      simp only []
      rw [if_pos (by rw [List.length_append]; omega)]
  · rw [if_neg he, if_neg he]
theorem wText_eq {k : Nat} (hk : 10 ≤ k) {b l : List UInt8} (hb : b.length + 9 + l.length < 140737488355328) (e most : Int) : wire_Writer_Text.f k b e l most = some (wBytes b e l most) := by
  unfold wire_Writer_Text.f; rw [if_pos (by omega), wBytes_eq hk hb]; rfl
theorem refwText_eq {k : Nat} (hk : 10 ≤ k) {b l : List UInt8} (hb : b.length + 9 + l.length < 140737488355328) (e most : Int) : synodref1_Writer_Text.f k b e l most = some (wBytes b e l most) := by
  unfold synodref1_Writer_Text.f; rw [if_pos (by omega), refwBytes_eq hk hb]; rfl
def wDone (b : List UInt8) (e : Int) : List UInt8 × Int := if e = 0 then (b, 0) else ([], e)
theorem wDone_eq {b : List UInt8} (hb : b.length ≤ 140737488355328) (e : Int) : wire_Writer_Done.f b e = some (wDone b e) := by
  unfold wire_Writer_Done.f wDone
  by_cases he : e = 0
  · rw [if_pos he, if_pos he, fresh_eq hb]; rfl
  · rw [if_neg he, if_neg he]
theorem refwDone_eq (b : List UInt8) (e : Int) : synodref1_Writer_Done.f b e = some (wDone b e) := by
  unfold synodref1_Writer_Done.f wDone
  by_cases he : e = 0
  · rw [if_pos he, if_pos he]
  · rw [if_neg he, if_neg he]
theorem fill170 : ∀ (d i k : Nat) (l : List UInt8), i + d = l.length → l.length < 2 ^ 47 → d + 1 ≤ k → ∃ m : List UInt8, synodlaw1_done.l0 k l (i : Int) = some m ∧ m.length = l.length
  | d, i, 0, l, _, _, hk => by omega
  | 0, i, k + 1, l, h, _, _ => by simp only [synodlaw1_done.l0]; rw [if_neg (by omega)]; exact ⟨l, rfl, rfl⟩
  | d + 1, i, k + 1, l, h, hl, hk => by
    simp only [synodlaw1_done.l0]
    rw [if_pos (by omega), if_pos (by omega), w64 (by omega) (by omega)]
    obtain ⟨m, h1, h2⟩ := fill170 d (i + 1) k (l.set (i : Int).toNat 170) (by simp; omega) (by simpa using hl) (by omega)
    exact ⟨m, h1, by simpa using h2⟩
theorem done_eq {k : Nat} {b : List UInt8} (hb : b.length < 2 ^ 46) (hk : b.length + 2 ≤ k) (e : Int) : synodlaw1_done.f k b e b e = some true := by
  unfold synodlaw1_done.f
  rw [wDone_eq (by omega), refwDone_eq]
  have hl : (wDone b e).1.length ≤ b.length := by unfold wDone; split <;> simp
  simp only [Option.bind_some]
  rw [SameBytes_eq (by omega) (by omega)]
  obtain ⟨m, h1, h2⟩ := fill170 (wDone b e).1.length 0 k (wDone b e).1 (by omega) (by omega) (by omega)
  rw [show ((0 : Nat) : Int) = 0 from rfl] at h1
  rw [h1]
  simp only [Option.bind_some]
  rw [if_pos (by simp; omega), w64 (by omega) (by omega)]
  simp [synodref_Num.f, h2]
/-! The bytes of a play. -/
abbrev PutT := Int × Int × Int × Bool × List UInt8
def bOf (x : PutT) : List UInt8 := x.2.2.2.2
abbrev dPut : PutT := ((0 : Int), (0 : Int), (0 : Int), false, ([] : List UInt8))
theorem getD_at {α : Type} (l : List α) (i : Nat) (d : α) (h : i < l.length) : l.getD i d = l[i] := by simp [List.getD_eq_getElem?_getD, h]
theorem parts_loop (x0 : List PutT) (hx : x0.length * 24 ≤ 140737488355328) : ∀ (d i k : Nat), i + d = x0.length → d + 1 ≤ k → synodlaw1_parts.l0 x0 k ((x0.take i).map bOf) (i : Int) = some (x0.map bOf)
  | d, i, 0, _, hk => by omega
  | 0, i, k + 1, h, hk => by simp only [synodlaw1_parts.l0]; rw [if_neg (by omega), List.take_of_length_le (by omega)]
  | d + 1, i, k + 1, h, hk => by
    simp only [synodlaw1_parts.l0]
    have hi : i < x0.length := by omega
    rw [if_pos (by omega), if_pos (by omega), if_pos (by simp; omega), w64 (by omega) (by omega)]
    have e1 : (x0.take i).map bOf ++ [(x0.getD (i : Int).toNat dPut).2.2.2.2] = (x0.take (i + 1)).map bOf := by
      rw [Int.toNat_natCast, getD_at _ _ _ hi, List.take_succ_eq_append_getElem hi, List.map_append]; rfl
    have := parts_loop x0 hx d (i + 1) k (by omega) (by omega)
    rw [← e1] at this
    exact this
theorem few_loop (l : List (List UInt8)) (hl : l.length < 2 ^ 47) : ∀ (d i n k : Nat), i + d = l.length → d + 1 ≤ k → n ≤ 20000 → ∃ r, (orR (synodref_Few.l0 l 20000 k (n : Int) (i : Int)) fun _ => some true) = some r ∧ (r = true → ∀ j, i ≤ j → j < l.length → (l.getD j []).length ≤ 20000)
  | d, i, n, 0, _, hk, _ => by omega
  | 0, i, n, k + 1, h, hk, hn => by
    simp only [synodref_Few.l0]
    rw [if_neg (by omega)]
    exact ⟨true, rfl, fun _ j h1 h2 => by omega⟩
  | d + 1, i, n, k + 1, h, hk, hn => by
    simp only [synodref_Few.l0]
    rw [if_pos (by omega), if_pos (by omega), w64 (n := 20000 - (n : Int)) (by omega) (by omega)]
    simp only [Int.toNat_natCast]
    by_cases hb : 20000 - (n : Int) < ((l.getD i []).length : Int)
    · rw [if_pos hb]; exact ⟨false, rfl, by simp⟩
    · rw [if_neg hb, if_pos (by omega)]
      have e1 : IntKind.i64.wrap ((n : Int) + ((l.getD i []).length : Int)) = ((n + (l.getD i []).length : Nat) : Int) := by rw [w64 (by omega) (by omega)]; simp
      have e2 : IntKind.i64.wrap ((i : Int) + 1) = ((i + 1 : Nat) : Int) := by rw [w64 (by omega) (by omega)]; simp
      rw [e1, e2]
      obtain ⟨r, h1, h2⟩ := few_loop l hl d (i + 1) (n + (l.getD i []).length) k (by omega) (by omega) (by omega)
      refine ⟨r, h1, fun hr j h3 h4 => ?_⟩
      by_cases hj : j = i
      · subst hj; omega
      · exact h2 hr j (by omega) h4
theorem Few_eq {k : Nat} {l : List (List UInt8)} (hl : l.length < 2 ^ 47) (hk : l.length + 1 ≤ k) : ∃ r, synodref_Few.f k l 20000 = some r ∧ (r = true → ∀ j, j < l.length → (l.getD j []).length ≤ 20000) := by
  obtain ⟨r, h1, h2⟩ := few_loop l hl l.length 0 0 k (by omega) hk (by omega)
  exact ⟨r, h1, fun hr j hj => h2 hr j (Nat.zero_le _) hj⟩
/-- What both do with one thing that they are told. -/
def told (b : List UInt8) (e : Int) (x : PutT) : List UInt8 × Int :=
  if x.1 = 0 then wNum b e x.2.1 else if x.1 = 1 then wNum b e (b01 x.2.2.2.1) else if x.1 = 2 then wBytes b e x.2.2.2.2 x.2.2.1 else if x.1 = 3 then wBytes b e x.2.2.2.2 x.2.2.1 else (b, e)
theorem told_len (b : List UInt8) (e : Int) (x : PutT) : (told b e x).1.length ≤ b.length + 9 + (bOf x).length := by
  unfold told bOf
  have h1 := wNum_len b e x.2.1
  have h2 := wNum_len b e (b01 x.2.2.2.1)
  have h3 := wBytes_len b e x.2.2.2.2 x.2.2.1
  split
  · omega
  · split
    · omega
    · split
      · omega
      · split
        · omega
        · simp only []; omega
theorem fill0 (s t : List UInt8 × Int) : ∀ (d i k : Nat) (l : List UInt8), i + d = l.length → l.length < 2 ^ 47 → d + 1 ≤ k → synodlaw1_WireWrites.l1 s t k l (i : Int) = some (.inl (t.1, t.2, s.1, s.2))
  | d, i, 0, l, _, _, hk => by omega
  | 0, i, k + 1, l, h, _, _ => by simp only [synodlaw1_WireWrites.l1]; rw [if_neg (by omega)]
  | d + 1, i, k + 1, l, h, hl, hk => by
    simp only [synodlaw1_WireWrites.l1]
    rw [if_pos (by omega), if_pos (by omega), w64 (by omega) (by omega)]
    exact fill0 s t d (i + 1) k _ (by simp; omega) (by simpa using hl) (by omega)
theorem writes_loop (x0 : List PutT) (hx : x0.length ≤ 300) (hB : ∀ j, j < x0.length → (bOf (x0.getD j dPut)).length ≤ 20000) : ∀ (d i k : Nat) (b : List UInt8) (e : Int), i + d = x0.length → 7000000 + d ≤ k → b.length ≤ i * 20009 →
    ∃ (b' : List UInt8) (e' : Int), b'.length ≤ 6002700 ∧ synodlaw1_WireWrites.l0 x0 k (i : Int) b e b e = some (.inl (b', e', b', e'))
  | d, i, 0, b, e, _, hk, _ => by omega
  | 0, i, k + 1, b, e, h, hk, hb => by
    simp only [synodlaw1_WireWrites.l0]
    rw [if_neg (by omega)]
    exact ⟨b, e, by omega, rfl⟩
  | d + 1, i, k + 1, b, e, h, hk, hb => by
    have hi : i < x0.length := by omega
    have hBi := hB i hi
    have hlen := told_len b e (x0.getD i dPut)
    have hnext : (told b e (x0.getD i dPut)).1.length ≤ (i + 1) * 20009 := by omega
    obtain ⟨b', e', h1, h2⟩ := writes_loop x0 hx hB d (i + 1) k (told b e (x0.getD i dPut)).1 (told b e (x0.getD i dPut)).2 (by omega) (by omega) hnext
    refine ⟨b', e', h1, ?_⟩
    rw [← h2]
    clear h2
    simp only [synodlaw1_WireWrites.l0]
    rw [if_pos (by omega), if_pos (by omega)]
    have e2 : IntKind.i64.wrap ((i : Int) + 1) = ((i + 1 : Nat) : Int) := by rw [w64 (by omega) (by omega)]; simp
    rw [e2]
    simp only [Int.toNat_natCast]
    unfold told
    generalize x0.getD i dPut = x at hBi ⊢
    unfold bOf at hBi
    by_cases h0 : x.1 = 0
    · rw [if_pos h0, if_pos h0, wInt_eq (by omega) (by omega), refwInt_eq (by omega) (by omega)]
      rfl
    by_cases h1 : x.1 = 1
    · rw [if_neg h0, if_neg h0, if_pos h1, if_pos h1, wBool_eq (by omega) (by omega), refwBool_eq (by omega) (by omega)]
      rfl
    by_cases h2 : x.1 = 2
    · rw [if_neg h0, if_neg h0, if_neg h1, if_neg h1, if_pos h2, if_pos h2, Lent_eq (by omega)]
      simp only [Option.bind_some]
      rw [wBytes_eq (by omega) (by omega), refwBytes_eq (by omega) (by omega), Kept_eq (by omega) (by omega)]
      have := fill0 (wBytes b e x.2.2.2.2 x.2.2.1) (wBytes b e x.2.2.2.2 x.2.2.1) x.2.2.2.2.length 0 k x.2.2.2.2 (by omega) (by omega) (by omega)
      rw [show ((0 : Nat) : Int) = 0 from rfl] at this
      simp only [Option.bind_some, Bool.not_true, Bool.false_eq_true, if_false]
      rw [this]
      rfl
    by_cases h3 : x.1 = 3
    · rw [if_neg h0, if_neg h0, if_neg h1, if_neg h1, if_neg h2, if_neg h2, if_pos h3, if_pos h3, wText_eq (by omega) (by omega), refwText_eq (by omega) (by omega)]
      rfl
    · rw [if_neg h0, if_neg h0, if_neg h1, if_neg h1, if_neg h2, if_neg h2, if_neg h3, if_neg h3, done_eq (by omega) (by omega)]
      rfl
theorem parts_eq {k : Nat} {x0 : List PutT} (hx : x0.length * 24 ≤ 140737488355328) (hk : x0.length + 1 ≤ k) : synodlaw1_parts.f k x0 = some (x0.map bOf) := by
  unfold synodlaw1_parts.f
  have := parts_loop x0 hx x0.length 0 k (by omega) hk
  rw [show ((0 : Nat) : Int) = 0 from rfl] at this
  simp only [List.take_zero, List.map_nil] at this
  rw [this]; rfl
theorem map_getD {x0 : List PutT} {j : Nat} (hj : j < x0.length) : (x0.map bOf).getD j [] = bOf (x0.getD j dPut) := by
  simp [List.getD_eq_getElem?_getD, hj]
theorem writes_k {k : Nat} (x0 : List PutT) (hx : x0.length * 56 ≤ reachBytes) (hk : x0.length + 8000000 ≤ k) : synodlaw1_WireWrites.f k x0 = some true := by
  have hm := reach_lt
  have hx1 := hx
  unfold synodlaw1_WireWrites.f
  rw [first_k (by omega), Option.bind_some, parts_eq (by omega) (by omega), Option.bind_some]
  obtain ⟨r, h1, h2⟩ := Few_eq (k := k) (l := x0.map bOf) (by rw [List.length_map]; omega) (by rw [List.length_map]; omega)
  rw [h1, Option.bind_some]
  by_cases hbig : (300 : Int) < (x0.length : Int) ∨ r = false
  · rw [if_pos (by simp; omega)]
  have hr : r = true := by cases r <;> simp_all
  have hB : ∀ j, j < x0.length → (bOf (x0.getD j dPut)).length ≤ 20000 := fun j hj => by
    have := h2 hr j (by simpa using hj)
    rwa [map_getD hj] at this
  have hnw : wire_NewWriter.f = some ([], 0) := rfl
  rw [if_neg (by simp [hr]; omega), hnw, Option.bind_some]
  obtain ⟨b', e', h3, h4⟩ := writes_loop x0 (by omega) hB x0.length 0 k [] 0 (by omega) (by omega) (by simp)
  rw [show ((0 : Nat) : Int) = 0 from rfl] at h4
  rw [h4]
  simp only [orR]
  rw [done_eq (by omega) (by omega)]
  rfl
theorem pure_WireWrites (x0 : List PutT) (hx : x0.length * 56 ≤ reachBytes ∧ ∀ y ∈ x0, Ok62 y) : ∃ k, synodlaw1_WireWrites.f k x0 = some true := ⟨_, writes_k x0 hx.1 (Nat.le_refl _)⟩
end Go.Proofs.Ytdolffamgbcokaa

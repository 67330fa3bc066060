/- What the program's writer tells, and whether two have the same bytes: plain laws on the printed functions, as in PlWire, PlWt (without the document's and the readers). Conditions: as each says. -/
import Derived.Test.YtdaedoklkmdhcaaPl1
import Derived.Test.YtdaedoklkmdhcaaG
namespace Go.Proofs.Ytdaedoklkmdhcaa
set_option linter.unusedVariables false
set_option linter.unusedSimpArgs false
open Go.RowKit
theorem size_loop : ∀ (j n c k : Nat), n < 128 ^ (j + 1) → j + 1 ≤ k → c + j < 1000 → wire_Size.l0 k (n : Int) (c : Int) = some (((c + ((sv n).length - 1) : Nat)) : Int)
  | j, n, c, 0, _, hk, _ => by omega
  | j, n, c, k + 1, h, hk, hc => by
    simp only [wire_Size.l0]
    by_cases hn : n < 128
    · rw [if_neg (by omega), sv_lt hn]; simp
    · rw [if_pos (by omega), shr7]
      cases j with
      | zero => simp at h; omega
      | succ j =>
        rw [w64 (by omega) (by omega)]
        have := size_loop j (n / 128) (c + 1) k (by rw [Nat.pow_succ] at h; exact Nat.div_lt_of_lt_mul (by rw [Nat.mul_comm]; exact h)) (by omega) (by omega)
        have e : ((c : Int) + 1) = ((c + 1 : Nat) : Int) := by simp
        rw [e, this, sv_ge (n := n) (by omega)]
        have := sv_pos (n / 128)
        simp only [List.length_cons, Option.some.injEq, Int.ofNat_inj]
        omega
def okN (x : Int) : Prop := 0 ≤ x ∧ x ≤ 4611686018427387904
instance (x : Int) : Decidable (okN x) := by unfold okN; exact inferInstance
def sizeV (x : Int) : Int := if okN x then ((sv x.toNat).length : Nat) else 0
theorem guard_okN (x : Int) : ((decide (x < (0 : Int))) || (decide ((4611686018427387904 : Int) < x))) = true ↔ ¬ okN x := by
  unfold okN; simp; omega
theorem wire_Size_eq {k : Nat} (hk : 10 ≤ k) (x : Int) : wire_Size.f k x = some (sizeV x) := by
  unfold wire_Size.f sizeV
  by_cases h : okN x
  · rw [if_neg (by rw [guard_okN]; simpa using h), if_pos h]
    obtain ⟨n, rfl⟩ := Int.eq_ofNat_of_zero_le h.1
    have h2 : n ≤ 4611686018427387904 := by have := h.2; omega
    have := size_loop 8 n 1 k (by omega) (by omega) (by omega)
    have e : ((1 : Nat) : Int) = 1 := rfl
    rw [e] at this
    rw [this]
    have := sv_pos n
    simp; omega
  · rw [if_pos ((guard_okN x).2 h), if_neg h]
theorem u8_127 {n : Nat} (hn : n < 2 ^ 63) : IntKind.u8.wrap (bitsV .or .i64 (bitsV .and .i64 (n : Int) 127) 128) = ((n % 128 + 128 : Nat) : Int) := by
  rw [and127 (by omega) (by omega), or128 (by omega) (by omega), w8 (by omega) (by omega)]
  simp
theorem sevens_loop {S : Type} (step : S → Int → Option S) : ∀ (j n : Nat) (s : S) (k : Nat), n < 128 ^ (j + 1) → j + 1 ≤ k → n < 2 ^ 63 → ((wire_sevens_1.l0 step k (n : Int) s).bind fun r => step r.2 (IntKind.u8.wrap r.1)) = foldO step s ((sv n).map fun b => (b.toNat : Int))
  | j, n, s, 0, _, hk, _ => by omega
  | j, n, s, k + 1, h, hk, hs => by
    simp only [wire_sevens_1.l0]
    by_cases hn : n < 128
    · rw [if_neg (by omega), sv_lt hn]
      have e : (UInt8.ofNat n).toNat = n := by rw [UInt8.toNat_ofNat']; omega
      simp only [Option.bind_some, List.map_cons, List.map_nil, foldO, e]
      rw [w8 (by omega) (by omega)]
      cases step s (n : Int) <;> rfl
    · rw [if_pos (by omega), shr7, u8_127 hs, sv_ge (by omega)]
      have e : (UInt8.ofNat (n % 128 + 128)).toNat = n % 128 + 128 := by rw [UInt8.toNat_ofNat']; omega
      simp only [List.map_cons, foldO, e]
      cases j with
      | zero => simp at h; omega
      | succ j =>
        cases step s ((n % 128 + 128 : Nat) : Int) with
        | none => rfl
        | some s' => exact sevens_loop step j (n / 128) s' k (by rw [Nat.pow_succ] at h; exact Nat.div_lt_of_lt_mul (by rw [Nat.mul_comm]; exact h)) (by omega) (by omega)
theorem sevens_eq {S : Type} {k : Nat} (hk : 10 ≤ k) (step : S → Int → Option S) (s : S) {n : Nat} (hn : n < 2 ^ 63) : wire_sevens_1.f k step s (n : Int) = foldO step s ((sv n).map fun b => (b.toNat : Int)) := by
  rw [← sevens_loop step 8 n s k (by omega) (by omega) hn]
  unfold wire_sevens_1.f
  congr 1
  funext r
  cases step r.2 (IntKind.u8.wrap r.1) <;> rfl
def apStep (s : List UInt8) (x : Int) : Option (List UInt8) := if 0 ≤ x ∧ x < 256 then (if (s.length + ([(byte x)] : List UInt8).length) * 1 ≤ 140737488355328 then (some (s ++ ([(byte x)] : List UInt8))) else none) else none
theorem ap_fold : ∀ (l s : List UInt8), s.length + l.length ≤ 140737488355328 → foldO apStep s (l.map fun b => (b.toNat : Int)) = some (s ++ l)
  | [], s, _ => by simp [foldO]
  | b :: l, s, h => by
    have hb := UInt8.toNat_lt b
    simp only [List.length_cons] at h
    simp only [List.map_cons, foldO, apStep]
    rw [if_pos (by omega), if_pos (by simp; omega)]
    simp only [Option.bind_some, byte_cast]
    rw [ap_fold l (s ++ [b]) (by simp; omega)]
    simp
def bytesV (x : Int) : List UInt8 := if okN x then sv x.toNat else []
def errV (x : Int) : Int := if okN x then 0 else 1
theorem sizeV_zero (x : Int) : sizeV x = 0 ↔ ¬ okN x := by
  unfold sizeV
  have := sv_pos x.toNat
  split
  · rename_i h; simp only [h, not_true_eq_false, iff_false]; omega
  · rename_i h; simp [h]
theorem same_loop (x y : List UInt8) (hl : x.length = y.length) (hm : x.length < 2 ^ 62) : ∀ (d i k : Nat), i + d = x.length → d + 1 ≤ k → x.take i = y.take i →
    (orR (synodref_SameBytes.l0 x y k (i : Int)) fun _ => some true) = some (decide (x = y))
  | d, i, 0, _, hk, _ => by omega
  | 0, i, k + 1, hd, hk, ht => by
    simp only [synodref_SameBytes.l0]
    rw [if_neg (by omega)]
    have : x = y := by rwa [List.take_of_length_le (by omega), List.take_of_length_le (by omega)] at ht
    simp [orR, this]
  | d + 1, i, k + 1, hd, hk, ht => by
    simp only [synodref_SameBytes.l0]
    rw [if_pos (by omega), if_pos (by omega), if_pos (by omega)]
    have hix : i < x.length := by omega
    have hiy : i < y.length := by omega
    have ex : x.getD i 0 = x[i] := by simp [List.getD_eq_getElem?_getD, hix]
    have ey : y.getD i 0 = y[i] := by simp [List.getD_eq_getElem?_getD, hiy]
    simp only [Int.toNat_natCast]
    by_cases he : x[i] = y[i]
    · rw [if_pos (by rw [ex, ey, he]), w64 (by omega) (by omega)]
      have := same_loop x y hl hm d (i + 1) k (by omega) (by omega) (by rw [List.take_succ_eq_append_getElem hix, List.take_succ_eq_append_getElem hiy, ht, he])
      simpa using this
    · rw [if_neg (by rw [ex, ey]; intro z; exact he (UInt8.toNat_inj.1 (by omega)))]
      have : x ≠ y := by rintro rfl; exact he rfl
      simp [orR, this]
theorem SameBytes_eq {k : Nat} {x y : List UInt8} (hm : x.length < 2 ^ 62) (hk : x.length + 1 ≤ k) : synodref_SameBytes.f k x y = some (decide (x = y)) := by
  unfold synodref_SameBytes.f
  by_cases h : x.length = y.length
  · rw [if_pos (by omega)]
    exact same_loop x y h hm x.length 0 k (by omega) hk rfl
  · rw [if_neg (by omega)]
    have : x ≠ y := by rintro rfl; exact h rfl
    simp [this]
theorem bytesV_len (x : Int) : (bytesV x).length ≤ 9 := by
  unfold bytesV
  split
  · rename_i h; have := h.2; exact sv9 (by omega)
  · simp
theorem errV_zero (x : Int) : errV x = 0 ↔ okN x := by unfold errV; split <;> simp_all
theorem reach_lt : reachBytes < 2 ^ 47 := by decide
theorem fresh_eq {x : List UInt8} (h : x.length ≤ 140737488355328) : wire_fresh.f x = some x := by
  unfold wire_fresh.f
  rw [if_pos (by omega)]
  simp [copyB]
def wNum (b : List UInt8) (e x : Int) : List UInt8 × Int := if e = 0 then (b ++ bytesV x, errV x) else (b, e)
def wBytes (b : List UInt8) (e : Int) (l : List UInt8) (most : Int) : List UInt8 × Int :=
  if e = 0 then (if max most 0 < (l.length : Int) then (b, 3) else (b ++ bytesV (l.length : Int) ++ l, 0)) else (b, e)
theorem wNum_len (b : List UInt8) (e x : Int) : (wNum b e x).1.length ≤ b.length + 9 := by
  unfold wNum
  have := bytesV_len x
  split <;> simp <;> omega
theorem wBytes_len (b : List UInt8) (e : Int) (l : List UInt8) (most : Int) : (wBytes b e l most).1.length ≤ b.length + 9 + l.length := by
  unfold wBytes
  have := bytesV_len (l.length : Int)
  split
  · split <;> simp <;> omega
  · simp; omega
theorem wInt_eq {k : Nat} (hk : 10 ≤ k) {b : List UInt8} (hb : b.length + 9 ≤ 140737488355328) (e x : Int) : wire_Writer_Int.f k b e x = some (wNum b e x) := by
  unfold wire_Writer_Int.f wNum
  by_cases he : e = 0
  · rw [if_pos he, if_pos he, wire_Size_eq hk, Option.bind_some]
    unfold bytesV errV
    by_cases h : okN x
    · obtain ⟨n, rfl⟩ := Int.eq_ofNat_of_zero_le h.1
      have h2 : n ≤ 4611686018427387904 := by have := h.2; omega
      have hl := sv9 (n := n) (by omega)
      rw [if_neg (by rw [sizeV_zero]; simpa using h), if_pos h, if_pos h]
      show ((wire_sevens_1.f k apStep b (n : Int)).bind _) = _
      rw [sevens_eq hk _ _ (by omega), ap_fold _ _ (by omega), he]
      rfl
    · rw [if_pos ((sizeV_zero x).2 h), if_neg h, if_neg h]; simp
  · rw [if_neg he, if_neg he]
theorem okN_len {l : List UInt8} (h : l.length < 2 ^ 47) : okN (l.length : Int) := ⟨by omega, by omega⟩
theorem wBytes_eq {k : Nat} (hk : 10 ≤ k) {b l : List UInt8} (hb : b.length + 9 + l.length < 140737488355328) (e most : Int) : wire_Writer_Bytes.f k b e l most = some (wBytes b e l most) := by
  unfold wire_Writer_Bytes.f wBytes
  by_cases he : e = 0
  · by_cases hm : max most 0 < (l.length : Int)
    · rw [if_pos (by simp [he]; omega), if_pos he, if_pos hm]; rfl
    · have hn := okN_len (l := l) (by omega)
      have hl := bytesV_len (l.length : Int)
      rw [if_neg (by simp; omega), if_pos he, if_neg hm, Option.bind_some, if_pos he, wInt_eq hk (by omega), Option.bind_some]
      unfold wNum
      rw [if_pos he, (errV_zero _).2 hn]
      simp only []
      rw [if_pos (by rw [List.length_append]; omega)]
  · rw [if_neg (by simp [he]), if_neg he, Option.bind_some, if_neg he]
theorem wText_eq {k : Nat} (hk : 10 ≤ k) {b l : List UInt8} (hb : b.length + 9 + l.length < 140737488355328) (e most : Int) : wire_Writer_Text.f k b e l most = some (wBytes b e l most) := by
  unfold wire_Writer_Text.f; rw [if_pos (by omega), wBytes_eq hk hb]; rfl
def wDone (b : List UInt8) (e : Int) : List UInt8 × Int := if e = 0 then (b, 0) else ([], e)
theorem wDone_eq {b : List UInt8} (hb : b.length ≤ 140737488355328) (e : Int) : wire_Writer_Done.f b e = some (wDone b e) := by
  unfold wire_Writer_Done.f wDone
  by_cases he : e = 0
  · rw [if_pos he, if_pos he, fresh_eq hb]; rfl
  · rw [if_neg he, if_neg he]
end Go.Proofs.Ytdaedoklkmdhcaa

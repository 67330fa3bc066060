/- What a writer tells: plain laws on its pure functions, the program's and the document's. Conditions: as each says. -/
import Derived.Test.YtdoghfenhoigmaaPlRd
namespace Go.Proofs.Ytdoghfenhoigmaa
set_option linter.unusedVariables false
set_option linter.unusedSimpArgs false
open Go.RowKit
/-- A writer's number, bytes. -/
def wNum (b : List UInt8) (e x : Int) : List UInt8 × Int := if e = 0 then (b ++ bytesV x, errV x) else (b, e)
def wBytes (b : List UInt8) (e : Int) (l : List UInt8) (most : Int) : List UInt8 × Int :=
  if e = 0 then (if max most 0 < (l.length : Int) then (b, 3) else (b ++ bytesV (l.length : Int) ++ l, 0)) else (b, e)
theorem wNum_len (b : List UInt8) (e x : Int) : (wNum b e x).1.length ≤ b.length + 9 := by
  unfold wNum
  have := bytesV_len x
  split <;> simp <;> omega
theorem wBytes_len (b : List UInt8) (e : Int) (l : List UInt8) (most : Int) : (wBytes b e l most).1.length ≤ b.length + 9 + l.length := by
  unfold wBytes
  have := bytesV_len (l.length : Int)
  split
  · split <;> simp <;> omega
  · simp; omega
theorem wInt_eq {k : Nat} (hk : 10 ≤ k) {b : List UInt8} (hb : b.length + 9 ≤ 140737488355328) (e x : Int) : wire_Writer_Int.f k b e x = some (wNum b e x) := by
  unfold wire_Writer_Int.f wNum
  by_cases he : e = 0
  · rw [if_pos he, if_pos he, wire_Size_eq hk, Option.bind_some]
    unfold bytesV errV
    by_cases h : okN x
    · obtain ⟨n, rfl⟩ := Int.eq_ofNat_of_zero_le h.1
      have h2 : n ≤ 4611686018427387904 := by have := h.2; omega
      have hl := sv9 (n := n) (by omega)
      rw [if_neg (by rw [sizeV_zero]; simpa using h), if_pos h, if_pos h]
      show ((wire_sevens_1.f k apStep b (n : Int)).bind _) = _
      rw [sevens_eq hk _ _ (by omega), ap_fold _ _ (by omega), he]
      rfl
    · rw [if_pos ((sizeV_zero x).2 h), if_neg h, if_neg h]; simp
  · rw [if_neg he, if_neg he]
theorem refwInt_eq {k : Nat} (hk : 10 ≤ k) {b : List UInt8} (hb : b.length + 9 ≤ 140737488355328) (e x : Int) : synodref1_Writer_Int.f k b e x = some (wNum b e x) := by
  unfold synodref1_Writer_Int.f wNum
  have := bytesV_len x
  by_cases he : e = 0
  · rw [if_pos he, if_pos he, ref_PutInt_eq hk, Option.bind_some, if_pos (by simp only []; omega)]
  · rw [if_neg he, if_neg he]
def b01 (v : Bool) : Int := if v = true then 1 else 0
theorem wBool_eq {k : Nat} (hk : 10 ≤ k) {b : List UInt8} (hb : b.length + 9 ≤ 140737488355328) (e : Int) (v : Bool) : wire_Writer_Bool.f k b e v = some (wNum b e (b01 v)) := by
  unfold wire_Writer_Bool.f b01
  rw [wInt_eq hk hb, wInt_eq hk hb]
  cases v <;> rfl
theorem refwBool_eq {k : Nat} (hk : 10 ≤ k) {b : List UInt8} (hb : b.length + 9 ≤ 140737488355328) (e : Int) (v : Bool) : synodref1_Writer_Bool.f k b e v = some (wNum b e (b01 v)) := by
  unfold synodref1_Writer_Bool.f b01
  rw [refwInt_eq hk hb, refwInt_eq hk hb]
  cases v <;> rfl
theorem okN_len {l : List UInt8} (h : l.length < 2 ^ 47) : okN (l.length : Int) := ⟨by omega, by omega⟩
theorem wBytes_eq {k : Nat} (hk : 10 ≤ k) {b l : List UInt8} (hb : b.length + 9 + l.length < 140737488355328) (e most : Int) : wire_Writer_Bytes.f k b e l most = some (wBytes b e l most) := by
  unfold wire_Writer_Bytes.f wBytes
  by_cases he : e = 0
  · by_cases hm : max most 0 < (l.length : Int)
    · rw [if_pos (by simp [he]; omega), if_pos he, if_pos hm]; rfl
    · have hn := okN_len (l := l) (by omega)
      have hl := bytesV_len (l.length : Int)
      rw [if_neg (by simp; omega), if_pos he, if_neg hm, Option.bind_some, if_pos he, wInt_eq hk (by omega), Option.bind_some]
      unfold wNum
      rw [if_pos he, (errV_zero _).2 hn]
      simp only []
      rw [if_pos (by rw [List.length_append]; omega)]
  · rw [if_neg (by simp [he]), if_neg he, Option.bind_some, if_neg he]
theorem refwBytes_eq {k : Nat} (hk : 10 ≤ k) {b l : List UInt8} (hb : b.length + 9 + l.length < 140737488355328) (e most : Int) : synodref1_Writer_Bytes.f k b e l most = some (wBytes b e l most) := by
  unfold synodref1_Writer_Bytes.f wBytes
  by_cases he : e = 0
  · by_cases hm : max most 0 < (l.length : Int)
    · rw [if_pos he, if_pos hm, if_pos he, if_pos hm]
    · have hn := okN_len (l := l) (by omega)
      have hl := bytesV_len (l.length : Int)
      rw [if_pos he, if_neg hm, if_pos he, if_neg hm, refwInt_eq hk (by omega), Option.bind_some]
      unfold wNum
      rw [if_pos he, (errV_zero _).2 hn]
      simp only []
      rw [if_pos (by rw [List.length_append]; omega)]
  · rw [if_neg he, if_neg he]
theorem wText_eq {k : Nat} (hk : 10 ≤ k) {b l : List UInt8} (hb : b.length + 9 + l.length < 140737488355328) (e most : Int) : wire_Writer_Text.f k b e l most = some (wBytes b e l most) := by
  unfold wire_Writer_Text.f; rw [if_pos (by omega), wBytes_eq hk hb]; rfl
theorem refwText_eq {k : Nat} (hk : 10 ≤ k) {b l : List UInt8} (hb : b.length + 9 + l.length < 140737488355328) (e most : Int) : synodref1_Writer_Text.f k b e l most = some (wBytes b e l most) := by
  unfold synodref1_Writer_Text.f; rw [if_pos (by omega), refwBytes_eq hk hb]; rfl
def wDone (b : List UInt8) (e : Int) : List UInt8 × Int := if e = 0 then (b, 0) else ([], e)
theorem wDone_eq {b : List UInt8} (hb : b.length ≤ 140737488355328) (e : Int) : wire_Writer_Done.f b e = some (wDone b e) := by
  unfold wire_Writer_Done.f wDone
  by_cases he : e = 0
  · rw [if_pos he, if_pos he, fresh_eq hb]; rfl
  · rw [if_neg he, if_neg he]
theorem refwDone_eq (b : List UInt8) (e : Int) : synodref1_Writer_Done.f b e = some (wDone b e) := by
  unfold synodref1_Writer_Done.f wDone
  by_cases he : e = 0
  · rw [if_pos he, if_pos he]
  · rw [if_neg he, if_neg he]
end Go.Proofs.Ytdoghfenhoigmaa

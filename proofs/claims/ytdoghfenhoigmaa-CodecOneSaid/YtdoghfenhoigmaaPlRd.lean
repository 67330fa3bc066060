/- What a reader tells: plain laws on its pure functions, the program's and the document's. Conditions: as each says. -/
import Derived.Test.YtdoghfenhoigmaaPlGen
namespace Go.Proofs.Ytdoghfenhoigmaa
set_option linter.unusedVariables false
set_option linter.unusedSimpArgs false
open Go.RowKit
theorem Lent_eq {x : List UInt8} (h : x.length < 140737488355328) : synodref_Lent.f x = some (x, [201]) := by
  unfold synodref_Lent.f
  rw [Bytes_eq (by omega), Option.bind_some, if_pos (by simp; omega), if_pos (by simp; omega)]
  simp
theorem fresh_eq {x : List UInt8} (h : x.length ≤ 140737488355328) : wire_fresh.f x = some x := by
  unfold wire_fresh.f
  rw [if_pos (by omega)]
  simp [copyB]
theorem Kept_eq {k : Nat} {x : List UInt8} (h : x.length < 2 ^ 47) (hk : x.length + 1 ≤ k) : synodref_Kept.f k x [201] x = some true := by
  unfold synodref_Kept.f
  rw [SameBytes_eq (by omega) hk]
  have e : IntKind.i64.wrap ((x.length : Int) + 1) = ((x.length + 1 : Nat) : Int) := by rw [w64 (by omega) (by omega)]; simp
  simp only [Option.bind_some, decide_true, Bool.and_self, if_true]
  have e2 : cut (x ++ [201]) (0 : Int) ((x.length + 1 : Nat) : Int) = x ++ [201] := by
    rw [cut0, List.take_of_length_le (by simp)]
  rw [e, if_pos (by simp; omega), e2, if_pos (by simp; omega)]
  simp [List.getD_eq_getElem?_getD]
/-! ### The reader -/
theorem decAt_ok {b : List UInt8} {p : Nat} (h : (decAt b (p : Int)).2.2 = 0) : ∃ n j : Nat, decAt b (p : Int) = ((n : Int), (j : Int), 0) ∧ 1 ≤ j ∧ p + j ≤ b.length ∧ n ≤ 2 ^ 62 := by
  unfold decAt at h ⊢
  by_cases hat : (p : Int) < 0 ∨ (b.length : Int) ≤ (p : Int)
  · rw [if_pos hat] at h; simp at h
  · rw [if_neg hat] at h ⊢
    obtain ⟨i, hi, h9, hlt, hz, hv, hd⟩ := dec_ok h
    simp only [Int.toNat_natCast, List.length_drop] at hlt hv hd ⊢
    exact ⟨_, _, hd, by omega, by omega, hv⟩
theorem decAt_bad {b : List UInt8} {p : Int} (h : ¬ (decAt b p).2.2 = 0) : (decAt b p).1 = 0 ∧ (decAt b p).2.1 = 0 := by
  unfold decAt at h ⊢
  by_cases hat : p < 0 ∨ (b.length : Int) ≤ p
  · rw [if_pos hat]; exact ⟨rfl, rfl⟩
  · rw [if_neg hat] at h ⊢; exact dec_bad h
/-- What a reader's number is: the number, how many bytes it had, the error behind it. -/
def rNum (b : List UInt8) (p : Nat) (e : Int) : Int × Int × Int := if e = 0 then decAt b (p : Int) else (0, 0, e)
theorem rNum_ok {b : List UInt8} {p : Nat} {e : Int} (h : (rNum b p e).2.2 = 0) : ∃ n j : Nat, rNum b p e = ((n : Int), (j : Int), 0) ∧ 1 ≤ j ∧ p + j ≤ b.length ∧ n ≤ 2 ^ 62 := by
  unfold rNum at h ⊢
  by_cases he : e = 0
  · rw [if_pos he] at h ⊢; exact decAt_ok h
  · rw [if_neg he] at h; exact absurd h he
theorem rNum_bad {b : List UInt8} {p : Nat} {e : Int} (h : ¬ (rNum b p e).2.2 = 0) : (rNum b p e).1 = 0 ∧ (rNum b p e).2.1 = 0 := by
  unfold rNum at h ⊢
  by_cases he : e = 0
  · rw [if_pos he] at h ⊢; exact decAt_bad h
  · rw [if_neg he]; exact ⟨rfl, rfl⟩
theorem look_eq {k : Nat} (hk : 12 ≤ k) {b : List UInt8} (hb : b.length < 2 ^ 62) (p : Nat) (e : Int) :
    wire_Reader_look.f k b (p : Int) e = some ((rNum b p e).1, (rNum b p e).2.1, decide ((rNum b p e).2.2 = 0), (p : Int), (rNum b p e).2.2) := by
  unfold wire_Reader_look.f rNum
  by_cases he : e = 0
  · rw [if_pos he, if_pos he, wire_Int_eq (by omega) hb]; rfl
  · rw [if_neg he, if_neg he]; simp [he]
def rPos (b : List UInt8) (p : Nat) (e : Int) : Nat := p + (rNum b p e).2.1.toNat
theorem rPos_le {b : List UInt8} {p : Nat} {e : Int} (hp : p ≤ b.length) : rPos b p e ≤ b.length := by
  unfold rPos
  by_cases h : (rNum b p e).2.2 = 0
  · obtain ⟨n, j, hd, h1, h2, h3⟩ := rNum_ok h
    rw [hd]; simpa using h2
  · rw [(rNum_bad h).2]; simpa using hp
theorem rInt_eq {k : Nat} (hk : 12 ≤ k) {b : List UInt8} (hb : b.length < 2 ^ 62) (p : Nat) (e : Int) (hp : p ≤ b.length) :
    wire_Reader_Int.f k b (p : Int) e = some ((rNum b p e).1, ((rPos b p e : Nat) : Int), (rNum b p e).2.2) := by
  unfold wire_Reader_Int.f rPos
  rw [look_eq hk hb]
  simp only [Option.bind_some]
  by_cases h : (rNum b p e).2.2 = 0
  · obtain ⟨n, j, hd, h1, h2, h3⟩ := rNum_ok h
    rw [hd]
    simp only [decide_true, Bool.not_true, Bool.false_eq_true, if_false, Int.toNat_natCast]
    rw [w64 (by omega) (by omega)]
    simp
  · obtain ⟨h1, h2⟩ := rNum_bad h
    rw [if_pos (by simp [h]), h1, h2]
    rfl
theorem refInt_eq {k : Nat} (hk : 12 ≤ k) {b : List UInt8} (hb : b.length < 2 ^ 62) (p : Nat) (e : Int) (hp : p ≤ b.length) :
    synodref1_Reader_Int.f k b (p : Int) e = some ((rNum b p e).1, ((rPos b p e : Nat) : Int), (rNum b p e).2.2) := by
  unfold synodref1_Reader_Int.f rPos
  by_cases he : e = 0
  · have hr : rNum b p e = decAt b (p : Int) := by unfold rNum; rw [if_pos he]
    rw [if_pos he, ref_Int_eq (by omega) hb, hr, Option.bind_some]
    by_cases h : (decAt b (p : Int)).2.2 = 0
    · obtain ⟨n, j, hd, h1, h2, h3⟩ := decAt_ok h
      rw [hd]
      simp only [Int.toNat_natCast]
      rw [w64 (by omega) (by omega)]
      simp
    · obtain ⟨h1, h2⟩ := decAt_bad h
      rw [h1, h2, w64 (by omega) (by omega)]
      simp
  · have hr : rNum b p e = (0, 0, e) := by unfold rNum; rw [if_neg he]
    rw [if_neg he, hr]; simp
/-- A bool; bytes. -/
def rBool (b : List UInt8) (p : Nat) (e : Int) : Bool × Nat × Int :=
  let d := rNum b p e
  if d.2.2 = 0 then (if 1 < d.1 then (false, p, 4) else (decide (d.1 = 1), rPos b p e, 0)) else (false, p, d.2.2)
theorem rBool_eq {k : Nat} (hk : 12 ≤ k) {b : List UInt8} (hb : b.length < 2 ^ 62) (p : Nat) (e : Int) (hp : p ≤ b.length) :
    wire_Reader_Bool.f k b (p : Int) e = some ((rBool b p e).1, (((rBool b p e).2.1 : Nat) : Int), (rBool b p e).2.2) := by
  unfold wire_Reader_Bool.f rBool rPos
  rw [look_eq hk hb]
  simp only [Option.bind_some]
  by_cases h : (rNum b p e).2.2 = 0
  · obtain ⟨n, j, hd, h1, h2, h3⟩ := rNum_ok h
    rw [hd]
    simp only [decide_true, Bool.not_true, Bool.false_eq_true, if_false, if_true, Int.toNat_natCast]
    by_cases hn : (1 : Int) < (n : Int)
    · rw [if_pos hn, if_pos hn]
    · rw [if_neg hn, if_neg hn, w64 (by omega) (by omega)]; simp
  · rw [if_pos (by simp [h])]; simp [h]
theorem refBool_eq {k : Nat} (hk : 12 ≤ k) {b : List UInt8} (hb : b.length < 2 ^ 62) (p : Nat) (e : Int) (hp : p ≤ b.length) :
    synodref1_Reader_Bool.f k b (p : Int) e = some ((rBool b p e).1, (((rBool b p e).2.1 : Nat) : Int), (rBool b p e).2.2) := by
  unfold synodref1_Reader_Bool.f rBool
  rw [refInt_eq hk hb p e hp]
  simp only [Option.bind_some]
  by_cases h : (rNum b p e).2.2 = 0
  · obtain ⟨n, j, hd, h1, h2, h3⟩ := rNum_ok h
    rw [hd]
    by_cases hn : (1 : Int) < (n : Int)
    · simp [hn]
    · simp [hn]
  · obtain ⟨h1, h2⟩ := rNum_bad h
    have : rPos b p e = p := by unfold rPos; rw [h2]; rfl
    simp [h, h1, this]
def rBytes (b : List UInt8) (p : Nat) (e : Int) (most : Int) : List UInt8 × Nat × Int :=
  let d := rNum b p e
  if d.2.2 = 0 then
    if max most 0 < d.1 then ([], p, 3) else
    if (b.length : Int) - (rPos b p e : Nat) < d.1 then ([], p, 2) else ((b.drop (rPos b p e)).take d.1.toNat, rPos b p e + d.1.toNat, 0)
  else ([], p, d.2.2)
theorem rBytes_eq {k : Nat} (hk : 12 ≤ k) {b : List UInt8} (hb : b.length < 2 ^ 47) (p : Nat) (e most : Int) (hp : p ≤ b.length) :
    wire_Reader_Bytes.f k b (p : Int) e most = some ((rBytes b p e most).1, (((rBytes b p e most).2.1 : Nat) : Int), (rBytes b p e most).2.2) := by
  unfold wire_Reader_Bytes.f rBytes rPos
  rw [look_eq hk (by omega)]
  simp only [Option.bind_some]
  by_cases h : (rNum b p e).2.2 = 0
  · obtain ⟨n, j, hd, h1, h2, h3⟩ := rNum_ok h
    rw [hd]
    simp only [decide_true, Bool.not_true, Bool.false_eq_true, if_false, if_true, Int.toNat_natCast]
    by_cases hn : max most 0 < (n : Int)
    · rw [if_pos hn, if_pos hn]
    · rw [if_neg hn, if_neg hn]
      have e1 : IntKind.i64.wrap ((b.length : Int) - (p : Int)) = (b.length : Int) - (p : Int) := w64 (by omega) (by omega)
      have e2 : IntKind.i64.wrap (((b.length : Int) - (p : Int)) - (j : Int)) = (b.length : Int) - ((p + j : Nat) : Int) := by rw [w64 (by omega) (by omega)]; omega
      have e3 : IntKind.i64.wrap ((p : Int) + (j : Int)) = ((p + j : Nat) : Int) := by rw [w64 (by omega) (by omega)]; simp
      rw [e1, e2]
      by_cases hs : (b.length : Int) - ((p + j : Nat) : Int) < (n : Int)
      · rw [if_pos hs, if_pos hs]
      · have e4 : IntKind.i64.wrap (((p + j : Nat) : Int) + (n : Int)) = ((p + j + n : Nat) : Int) := by rw [w64 (by omega) (by omega)]; simp
        rw [if_neg hs, if_neg hs, e3, e4, if_pos (by omega), cutN, fresh_eq (by rw [List.length_take, List.length_drop]; omega)]
        rfl
  · rw [if_pos (by simp [h])]; simp [h]
theorem refBytes_eq {k : Nat} (hk : 12 ≤ k) {b : List UInt8} (hb : b.length < 2 ^ 47) (p : Nat) (e most : Int) (hp : p ≤ b.length) :
    synodref1_Reader_Bytes.f k b (p : Int) e most = some ((rBytes b p e most).1, (((rBytes b p e most).2.1 : Nat) : Int), (rBytes b p e most).2.2) := by
  unfold synodref1_Reader_Bytes.f rBytes
  rw [refInt_eq hk (by omega) p e hp]
  simp only [Option.bind_some]
  by_cases h : (rNum b p e).2.2 = 0
  · obtain ⟨n, j, hd, h1, h2, h3⟩ := rNum_ok h
    have hr : rPos b p e = p + j := by unfold rPos; rw [hd]; rfl
    rw [hr, hd]
    simp only [if_true, Int.toNat_natCast]
    by_cases hn : max most 0 < (n : Int)
    · rw [if_pos hn, if_pos hn]; simp
    · rw [if_neg hn, if_neg hn]
      have e2 : IntKind.i64.wrap ((b.length : Int) - ((p + j : Nat) : Int)) = (b.length : Int) - ((p + j : Nat) : Int) := w64 (by omega) (by omega)
      rw [e2]
      by_cases hs : (b.length : Int) - ((p + j : Nat) : Int) < (n : Int)
      · rw [if_pos hs, if_pos hs]; simp
      · have e4 : IntKind.i64.wrap (((p + j : Nat) : Int) + (n : Int)) = ((p + j + n : Nat) : Int) := by rw [w64 (by omega) (by omega)]; simp
        have e5 : IntKind.i64.wrap (((p + j + n : Nat) : Int) - (n : Int)) = ((p + j : Nat) : Int) := by rw [w64 (by omega) (by omega)]; omega
        rw [if_neg hs, if_neg hs]
        simp only [Option.bind_some, if_true]
        rw [e4, e5, if_pos (by omega), cutN, Bytes_eq (by rw [List.length_take, List.length_drop]; omega)]
        rfl
  · obtain ⟨h1, h2⟩ := rNum_bad h
    have : rPos b p e = p := by unfold rPos; rw [h2]; rfl
    rw [if_neg h, if_neg h, this]
theorem rText_eq {k : Nat} (hk : 12 ≤ k) {b : List UInt8} (hb : b.length < 2 ^ 47) (p : Nat) (e most : Int) (hp : p ≤ b.length) :
    wire_Reader_Text.f k b (p : Int) e most = some ((rBytes b p e most).1, (((rBytes b p e most).2.1 : Nat) : Int), (rBytes b p e most).2.2) := by
  unfold wire_Reader_Text.f; rw [rBytes_eq hk hb p e most hp]; rfl
theorem refText_eq {k : Nat} (hk : 12 ≤ k) {b : List UInt8} (hb : b.length < 2 ^ 47) (p : Nat) (e most : Int) (hp : p ≤ b.length) :
    synodref1_Reader_Text.f k b (p : Int) e most = some ((rBytes b p e most).1, (((rBytes b p e most).2.1 : Nat) : Int), (rBytes b p e most).2.2) := by
  unfold synodref1_Reader_Text.f; rw [refBytes_eq hk hb p e most hp]; rfl
theorem rBool_le {b : List UInt8} {p : Nat} {e : Int} (hp : p ≤ b.length) : (rBool b p e).2.1 ≤ b.length := by
  unfold rBool
  simp only []
  have := rPos_le (e := e) hp
  split
  · split <;> assumption
  · exact hp
theorem rBytes_le {b : List UInt8} {p : Nat} {e most : Int} (hp : p ≤ b.length) : (rBytes b p e most).2.1 ≤ b.length ∧ (rBytes b p e most).1.length ≤ b.length := by
  unfold rBytes
  simp only []
  have := rPos_le (e := e) hp
  split
  · split
    · exact ⟨hp, by simp⟩
    · split
      · exact ⟨hp, by simp⟩
      · rename_i h1 h2 h3
        refine ⟨by simp only []; omega, ?_⟩
        simp only [List.length_take, List.length_drop]; omega
  · exact ⟨hp, by simp⟩
end Go.Proofs.Ytdoghfenhoigmaa

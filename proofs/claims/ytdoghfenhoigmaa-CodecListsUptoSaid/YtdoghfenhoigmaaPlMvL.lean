/- Whether a reader moved: bytes; whether lists of entries are the same. Conditions: as each says. -/
import Derived.Test.YtdoghfenhoigmaaPlMv0
import Derived.Test.YtdoghfenhoigmaaPlSe
namespace Go.Proofs.Ytdoghfenhoigmaa
set_option linter.unusedVariables false
set_option linter.unusedSimpArgs false
open Go.RowKit
theorem fail_eq (b : List UInt8) (p e x : Int) : synodref3_fail.f b p e x = some (p, if e = 0 then x else e) := by unfold synodref3_fail.f; split <;> rfl
section
variable {k : Nat} {b : List UInt8} (hb : b.length ≤ 100000000)
include hb
theorem movE (hk : 12 ≤ k) {p : Nat} (hp : p ≤ b.length) (e most : Int) : codec_moved__byte_codec_each_Entry_1.f k b (p : Int) e most = some ((rBytes b p e most).1, decide ((rBytes b p e most).2.2 = 0), (((rBytes b p e most).2.1 : Nat) : Int), (rBytes b p e most).2.2) := by
  unfold codec_moved__byte_codec_each_Entry_1.f codec_each_Entry_1_s.f wire_Reader_At.f
  rw [Option.bind_some, cB hk hb hp, Option.bind_some]; simp only [Option.bind_some]
  rw [rB_moved]
end
theorem SameEntries_loop (x y : List EnT) (hl : x.length = y.length) (hx : x.length < 2 ^ 61) (hb : ∀ e ∈ x, e.2.2.2.length < 2 ^ 61) : ∀ (d i k : Nat), i + d = x.length → d + 1 ≤ k → (∀ e ∈ x, e.2.2.2.length + d + 1 ≤ k) → (x.take i = y.take i) →
    (orR (synodref_SameEntries.l0 x y k (i : Int)) fun _ => some true) = some (decide (x = y))
  | d, i, 0, _, hk, _, _ => by omega
  | 0, i, k + 1, h, _, _, ht => by
    simp only [synodref_SameEntries.l0]
    rw [if_neg (by omega)]
    have : x = y := by rwa [List.take_of_length_le (by omega), List.take_of_length_le (by omega)] at ht
    simp [orR, this]
  | d + 1, i, k + 1, h, hk, hb2, ht => by
    have hi : i < x.length := by omega
    have hi2 : i < y.length := by omega
    have hm : x.getD i dEnT ∈ x := by rw [getD_at' _ _ _ hi]; exact List.getElem_mem hi
    have hme := hb _ hm
    have hme2 := hb2 _ hm
    simp only [synodref_SameEntries.l0]
    rw [if_pos (by omega), if_pos (by omega), if_pos (by omega), wi1 (by omega)]
    simp only [Int.toNat_natCast]
    have e1 := SameEntry_eq (k := k) (a := x.getD i dEnT) (b := y.getD i dEnT) (by omega) (by omega)
    rw [e1, Option.bind_some]
    by_cases he : x.getD i dEnT = y.getD i dEnT
    · rw [if_neg (by simpa using he)]
      refine SameEntries_loop x y hl hx hb d (i + 1) k (by omega) (by omega) (fun e he => by have := hb2 e he; omega) ?_
      rw [List.take_succ_eq_append_getElem hi, List.take_succ_eq_append_getElem hi2, ht, ← getD_at' x dEnT i hi, ← getD_at' y dEnT i hi2, he]
    · rw [if_pos (by simpa using he)]
      have : x ≠ y := fun e => he (by rw [e])
      simp [orR, this]
theorem SameEntries_eq {k : Nat} {x y : List EnT} (hx : x.length < 2 ^ 61) (hb : ∀ e ∈ x, e.2.2.2.length < 2 ^ 61) (hk : x.length + 1 ≤ k) (hk2 : ∀ e ∈ x, e.2.2.2.length + x.length + 1 ≤ k) : synodref_SameEntries.f k x y = some (decide (x = y)) := by
  unfold synodref_SameEntries.f
  by_cases hl : x.length = y.length
  · rw [if_pos (by omega)]
    exact SameEntries_loop x y hl hx hb x.length 0 k (by omega) hk hk2 (by simp)
  · rw [if_neg (by omega)]
    have : x ≠ y := fun e => hl (by rw [e])
    simp [this]
end Go.Proofs.Ytdoghfenhoigmaa

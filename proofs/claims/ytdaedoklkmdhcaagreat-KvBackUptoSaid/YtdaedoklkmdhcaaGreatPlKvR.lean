/- What the program's reader tells, as in PlWire2, PlGen, PlRd. Conditions: as each says. -/
import Derived.Test.YtdaedoklkmdhcaaGreatPlKvW
namespace Go.Proofs.YtdaedoklkmdhcaaGreat
set_option linter.unusedVariables false
set_option linter.unusedSimpArgs false
open Go.RowKit
def part7 : Nat → List UInt8 → Nat
  | 0, _ => 0
  | i + 1, l => part7 i l + (l.getD i 0).toNat % 128 * 128 ^ i
theorem part7_lt : ∀ (i : Nat) (l : List UInt8), part7 i l < 128 ^ i
  | 0, l => by simp [part7]
  | i + 1, l => by
    have := part7_lt i l
    have h2 := Nat.mod_lt (l.getD i 0).toNat (show 128 > 0 by decide)
    simp only [part7]
    rw [Nat.pow_succ]
    have h3 : (l.getD i 0).toNat % 128 * 128 ^ i ≤ 127 * 128 ^ i := Nat.mul_le_mul_right _ (by omega)
    omega
theorem part7_cons : ∀ (i : Nat) (b : UInt8) (l : List UInt8), part7 (i + 1) (b :: l) = b.toNat % 128 + 128 * part7 i l
  | 0, b, l => by simp [part7]
  | i + 1, b, l => by
    rw [part7, part7_cons i b l, part7]
    simp only [List.getD_cons_succ]
    rw [Nat.pow_succ, Nat.mul_add, Nat.add_assoc]
    congr 2
    rw [Nat.mul_comm (128 ^ i) 128, ← Nat.mul_assoc, ← Nat.mul_assoc, Nat.mul_comm _ 128]
theorem val7_part : ∀ (k : Nat) (l : List UInt8), val7 k l = part7 (k + 1) l
  | 0, l => by simp [val7, part7]
  | k + 1, [] => by
    have z : ∀ k, val7 k ([] : List UInt8) = 0 := by
      intro k; induction k with
      | zero => rfl
      | succ k ih => simp [val7, ih]
    have z2 : ∀ k, part7 k ([] : List UInt8) = 0 := by
      intro k; induction k with
      | zero => rfl
      | succ k ih => simp [part7, ih]
    rw [z, z2]
  | k + 1, b :: l => by
    rw [part7_cons, val7, val7_part k]
    simp
theorem getD_drop (l : List UInt8) (p i : Nat) : l.getD (p + i) 0 = (l.drop p).getD i 0 := by simp [List.getD_eq_getElem?_getD, List.getElem?_drop]
theorem or_join {n c i : Nat} (hn : n < 128 ^ i) (hc : c < 128) (hi : i ≤ 8) : bitsV .or .i64 (n : Int) ((c * 128 ^ i : Nat) : Int) = ((n + c * 128 ^ i : Nat) : Int) := by
  have hp : (128 : Nat) ^ i = 2 ^ (7 * i) := by rw [Nat.pow_mul]
  have hle : (128 : Nat) ^ i ≤ 128 ^ 8 := Nat.pow_le_pow_right (by decide) hi
  have hcm : c * 128 ^ i ≤ 127 * 128 ^ i := Nat.mul_le_mul_right _ (by omega)
  have e := (bits_nat .i64 63 (by decide) wraps_i64 n (c * 128 ^ i) (by omega) (by omega)).2
  show bits .or .i64 _ _ = _
  rw [e, Nat.or_comm, Nat.mul_comm, hp, ← Nat.two_pow_add_eq_or_of_lt (by rw [← hp]; exact hn) c, Nat.add_comm]
theorem step_val {c i : Nat} (hc : c < 256) (hi : i ≤ 8) : IntKind.i64.wrap ((IntKind.i64.wrap (bitsV .and .u8 (c : Int) 127)) * 2 ^ (min (IntKind.i64.wrap (7 * (i : Int))).toNat IntKind.i64.bits)) = ((c % 128 * 128 ^ i : Nat) : Int) := by
  have e1 : IntKind.i64.wrap (7 * (i : Int)) = ((7 * i : Nat) : Int) := by rw [w64 (by omega) (by omega)]; simp
  have e2 : bitsV .and .u8 (c : Int) 127 = ((c % 128 : Nat) : Int) := by rw [and127b (by omega) (by omega)]; simp
  have e3 : min ((7 * i : Nat) : Int).toNat IntKind.i64.bits = 7 * i := by
    show min ((7 * i : Nat) : Int).toNat 64 = 7 * i
    simp; omega
  have hp : (128 : Nat) ^ i = 2 ^ (7 * i) := by rw [Nat.pow_mul]
  have hle : (128 : Nat) ^ i ≤ 128 ^ 8 := Nat.pow_le_pow_right (by decide) hi
  have hcm : c % 128 * 128 ^ i ≤ 127 * 128 ^ i := Nat.mul_le_mul_right _ (by omega)
  rw [e1, e2, e3, w64 (n := ((c % 128 : Nat) : Int)) (by omega) (by omega)]
  have e4 : ((c % 128 : Nat) : Int) * 2 ^ (7 * i) = ((c % 128 * 128 ^ i : Nat) : Int) := by rw [hp]; simp
  rw [e4, w64 (by omega) (by omega)]
theorem dec_stop {l : List UInt8} {i : Nat} (hi : lead l = i) (h9 : i < 9) (hlt : i < l.length) :
    dec l = if 0 < i ∧ (l.getD i 0).toNat = 0 then (0, 0, 4) else if 2 ^ 62 < part7 (i + 1) l then (0, 0, 1) else (((part7 (i + 1) l : Nat) : Int), ((i + 1 : Nat) : Int), (0 : Int)) := by
  have hne : l ≠ [] := by rintro rfl; simp at hlt
  unfold dec
  rw [if_neg hne, hi, if_neg (by omega), if_neg (by omega), val7_part]
theorem dec_nine {l : List UInt8} (h9 : 9 ≤ lead l) : dec l = (0, 0, 4) := by
  have hne : l ≠ [] := by rintro rfl; simp [lead] at h9
  unfold dec
  rw [if_neg hne, if_pos h9]
theorem dec_short {l : List UInt8} (h9 : lead l < 9) (hl : l.length ≤ lead l) : dec l = (0, 0, 2) := by
  unfold dec
  by_cases hne : l = []
  · rw [if_pos hne]
  · rw [if_neg hne, if_neg (by omega), if_pos hl]
def decAt (b : List UInt8) (at_ : Int) : Int × Int × Int := if at_ < 0 ∨ (b.length : Int) ≤ at_ then (0, 0, 2) else dec (b.drop at_.toNat)
theorem guard_at (b : List UInt8) (x : Int) : ((decide (x < (0 : Int))) || (decide ((b.length : Int) ≤ x))) = true ↔ (x < 0 ∨ (b.length : Int) ≤ x) := by simp
theorem int_loop (b : List UInt8) (p : Nat) (hp : p < b.length) (hb : b.length < 2 ^ 62) : ∀ (d i k : Nat), i + d = 9 → d + 1 ≤ k → i ≤ lead (b.drop p) →
    (orR (wire_Int.l0 b (p : Int) k ((part7 i (b.drop p) : Nat) : Int) (i : Int)) fun _ => some ((0 : Int), (0 : Int), (4 : Int))) = some (dec (b.drop p))
  | d, i, 0, _, hk, _ => by omega
  | 0, i, k + 1, hd, hk, hl => by
    have hne : b.drop p ≠ [] := by intro e; have := congrArg List.length e; simp at this; omega
    simp only [wire_Int.l0]
    rw [if_neg (by omega)]
    simp only [orR, Option.some.injEq]
    unfold dec
    rw [if_neg hne, if_pos (by omega)]
  | d + 1, i, k + 1, hd, hk, hl => by
    have hne : b.drop p ≠ [] := by intro e; have := congrArg List.length e; simp at this; omega
    have hlen : (b.drop p).length = b.length - p := by simp
    have hll := lead_le (b.drop p)
    simp only [wire_Int.l0]
    rw [if_pos (by omega)]
    by_cases hend : b.length - p ≤ i
    · rw [w64 (n := (b.length : Int) - (p : Int)) (by omega) (by omega), if_pos (by omega)]
      simp only [orR, Option.some.injEq]
      unfold dec
      rw [if_neg hne, if_neg (by omega), if_pos (by omega)]
    · have epi : IntKind.i64.wrap ((p : Int) + (i : Int)) = ((p + i : Nat) : Int) := by rw [w64 (by omega) (by omega)]; simp
      have e7 : IntKind.i64.wrap (7 * (i : Int)) = ((7 * i : Nat) : Int) := by rw [w64 (by omega) (by omega)]; simp
      have ei1 : IntKind.i64.wrap ((i : Int) + 1) = ((i + 1 : Nat) : Int) := by rw [w64 (by omega) (by omega)]; simp
      have hc := getD_lt (b.drop p) i
      have hlt := part7_lt i (b.drop p)
      have hst := step_val (c := ((b.drop p).getD i 0).toNat) (i := i) hc (by omega)
      have hor := or_join (c := ((b.drop p).getD i 0).toNat % 128) (i := i) hlt (Nat.mod_lt _ (by decide)) (by omega)
      have hnext : part7 i (b.drop p) + ((b.drop p).getD i 0).toNat % 128 * 128 ^ i = part7 (i + 1) (b.drop p) := rfl
      rw [hnext] at hor
      rw [w64 (n := (b.length : Int) - (p : Int)) (by omega) (by omega), if_neg (by omega)]
      rw [epi, if_pos (by omega)]
      rw [if_pos (by rw [e7]; omega)]
      simp only [Int.toNat_natCast, getD_drop]
      rw [hst, hor, ei1]
      by_cases hcont : 128 ≤ ((b.drop p).getD i 0).toNat
      · rw [if_pos (by omega)]
        refine int_loop b p hp hb d (i + 1) k (by omega) (by omega) ?_
        refine Classical.byContradiction fun hx => ?_
        have hi : lead (b.drop p) = i := by omega
        have := lead_stop (b.drop p) (by omega)
        rw [hi] at this
        omega
      · have hi : lead (b.drop p) = i := by
          refine Nat.le_antisymm (Nat.not_lt.1 fun hx => ?_) hl
          exact hcont (lead_spec _ i hx)
        rw [dec_stop hi (by omega) (by omega), if_neg (by omega)]
        by_cases hz : 0 < i ∧ ((b.drop p).getD i 0).toNat = 0
        · rw [if_pos (by simp only [Bool.and_eq_true, decide_eq_true_eq]; omega), if_pos hz]
          rfl
        · rw [if_neg (by simp only [Bool.and_eq_true, decide_eq_true_eq]; omega), if_neg hz]
          by_cases hbig : 2 ^ 62 < part7 (i + 1) (b.drop p)
          · rw [if_pos (by omega), if_pos hbig]; rfl
          · rw [if_neg (by omega), if_neg hbig]; rfl
theorem wire_Int_eq {k : Nat} (hk : 10 ≤ k) {b : List UInt8} (hb : b.length < 2 ^ 62) (x : Int) : wire_Int.f k b x = some (decAt b x) := by
  unfold wire_Int.f decAt
  by_cases h : x < 0 ∨ (b.length : Int) ≤ x
  · rw [if_pos ((guard_at b x).2 h), if_pos h]
  · rw [if_neg (by rw [guard_at]; exact h), if_neg h]
    obtain ⟨p, rfl⟩ := Int.eq_ofNat_of_zero_le (show 0 ≤ x by omega)
    exact int_loop b p (by omega) hb 9 0 k (by omega) hk (Nat.zero_le _)
theorem cut0 (l : List UInt8) (n : Nat) : cut l (0 : Int) (n : Int) = l.take n := by simp [cut]
theorem dec_ok {l : List UInt8} (h : (dec l).2.2 = 0) : ∃ i, lead l = i ∧ i < 9 ∧ i < l.length ∧ ¬ (0 < i ∧ (l.getD i 0).toNat = 0) ∧ part7 (i + 1) l ≤ 2 ^ 62 ∧ dec l = (((part7 (i + 1) l : Nat) : Int), ((i + 1 : Nat) : Int), (0 : Int)) := by
  by_cases h9 : 9 ≤ lead l
  · rw [dec_nine h9] at h; simp at h
  by_cases hs : l.length ≤ lead l
  · rw [dec_short (by omega) hs] at h; simp at h
  rw [dec_stop rfl (by omega) (by omega)] at h
  by_cases hz : 0 < lead l ∧ (l.getD (lead l) 0).toNat = 0
  · rw [if_pos hz] at h; simp at h
  rw [if_neg hz] at h
  by_cases hb : 2 ^ 62 < part7 (lead l + 1) l
  · rw [if_pos hb] at h; simp at h
  refine ⟨lead l, rfl, by omega, by omega, hz, by omega, ?_⟩
  rw [dec_stop rfl (by omega) (by omega), if_neg hz, if_neg hb]
theorem dec_bad {l : List UInt8} (h : ¬ (dec l).2.2 = 0) : (dec l).1 = 0 ∧ (dec l).2.1 = 0 := by
  by_cases h9 : 9 ≤ lead l
  · rw [dec_nine h9]; exact ⟨rfl, rfl⟩
  by_cases hs : l.length ≤ lead l
  · rw [dec_short (by omega) hs]; exact ⟨rfl, rfl⟩
  rw [dec_stop rfl (by omega) (by omega)] at h ⊢
  by_cases hz : 0 < lead l ∧ (l.getD (lead l) 0).toNat = 0
  · rw [if_pos hz]; exact ⟨rfl, rfl⟩
  rw [if_neg hz] at h ⊢
  by_cases hb : 2 ^ 62 < part7 (lead l + 1) l
  · rw [if_pos hb]; exact ⟨rfl, rfl⟩
  · rw [if_neg hb] at h; exact absurd rfl h
theorem cutN (l : List UInt8) (p n : Nat) : cut l (p : Int) ((p + n : Nat) : Int) = (l.drop p).take n := by
  simp only [cut, Int.toNat_natCast]
  rw [List.drop_take]
  congr 1
  omega
theorem decAt_ok {b : List UInt8} {p : Nat} (h : (decAt b (p : Int)).2.2 = 0) : ∃ n j : Nat, decAt b (p : Int) = ((n : Int), (j : Int), 0) ∧ 1 ≤ j ∧ p + j ≤ b.length ∧ n ≤ 2 ^ 62 := by
  unfold decAt at h ⊢
  by_cases hat : (p : Int) < 0 ∨ (b.length : Int) ≤ (p : Int)
  · rw [if_pos hat] at h; simp at h
  · rw [if_neg hat] at h ⊢
    obtain ⟨i, hi, h9, hlt, hz, hv, hd⟩ := dec_ok h
    simp only [Int.toNat_natCast, List.length_drop] at hlt hv hd ⊢
    exact ⟨_, _, hd, by omega, by omega, hv⟩
theorem decAt_bad {b : List UInt8} {p : Int} (h : ¬ (decAt b p).2.2 = 0) : (decAt b p).1 = 0 ∧ (decAt b p).2.1 = 0 := by
  unfold decAt at h ⊢
  by_cases hat : p < 0 ∨ (b.length : Int) ≤ p
  · rw [if_pos hat]; exact ⟨rfl, rfl⟩
  · rw [if_neg hat] at h ⊢; exact dec_bad h
def rNum (b : List UInt8) (p : Nat) (e : Int) : Int × Int × Int := if e = 0 then decAt b (p : Int) else (0, 0, e)
theorem rNum_ok {b : List UInt8} {p : Nat} {e : Int} (h : (rNum b p e).2.2 = 0) : ∃ n j : Nat, rNum b p e = ((n : Int), (j : Int), 0) ∧ 1 ≤ j ∧ p + j ≤ b.length ∧ n ≤ 2 ^ 62 := by
  unfold rNum at h ⊢
  by_cases he : e = 0
  · rw [if_pos he] at h ⊢; exact decAt_ok h
  · rw [if_neg he] at h; exact absurd h he
theorem rNum_bad {b : List UInt8} {p : Nat} {e : Int} (h : ¬ (rNum b p e).2.2 = 0) : (rNum b p e).1 = 0 ∧ (rNum b p e).2.1 = 0 := by
  unfold rNum at h ⊢
  by_cases he : e = 0
  · rw [if_pos he] at h ⊢; exact decAt_bad h
  · rw [if_neg he]; exact ⟨rfl, rfl⟩
theorem look_eq {k : Nat} (hk : 12 ≤ k) {b : List UInt8} (hb : b.length < 2 ^ 62) (p : Nat) (e : Int) :
    wire_Reader_look.f k b (p : Int) e = some ((rNum b p e).1, (rNum b p e).2.1, decide ((rNum b p e).2.2 = 0), (p : Int), (rNum b p e).2.2) := by
  unfold wire_Reader_look.f rNum
  by_cases he : e = 0
  · rw [if_pos he, if_pos he, wire_Int_eq (by omega) hb]; rfl
  · rw [if_neg he, if_neg he]; simp [he]
def rPos (b : List UInt8) (p : Nat) (e : Int) : Nat := p + (rNum b p e).2.1.toNat
theorem rPos_le {b : List UInt8} {p : Nat} {e : Int} (hp : p ≤ b.length) : rPos b p e ≤ b.length := by
  unfold rPos
  by_cases h : (rNum b p e).2.2 = 0
  · obtain ⟨n, j, hd, h1, h2, h3⟩ := rNum_ok h
    rw [hd]; simpa using h2
  · rw [(rNum_bad h).2]; simpa using hp
theorem rInt_eq {k : Nat} (hk : 12 ≤ k) {b : List UInt8} (hb : b.length < 2 ^ 62) (p : Nat) (e : Int) (hp : p ≤ b.length) :
    wire_Reader_Int.f k b (p : Int) e = some ((rNum b p e).1, ((rPos b p e : Nat) : Int), (rNum b p e).2.2) := by
  unfold wire_Reader_Int.f rPos
  rw [look_eq hk hb]
  simp only [Option.bind_some]
  by_cases h : (rNum b p e).2.2 = 0
  · obtain ⟨n, j, hd, h1, h2, h3⟩ := rNum_ok h
    rw [hd]
    simp only [decide_true, Bool.not_true, Bool.false_eq_true, if_false, Int.toNat_natCast]
    rw [w64 (by omega) (by omega)]
    simp
  · obtain ⟨h1, h2⟩ := rNum_bad h
    rw [if_pos (by simp [h]), h1, h2]
    rfl
def rBytes (b : List UInt8) (p : Nat) (e : Int) (most : Int) : List UInt8 × Nat × Int :=
  let d := rNum b p e
  if d.2.2 = 0 then
    if max most 0 < d.1 then ([], p, 3) else
    if (b.length : Int) - (rPos b p e : Nat) < d.1 then ([], p, 2) else ((b.drop (rPos b p e)).take d.1.toNat, rPos b p e + d.1.toNat, 0)
  else ([], p, d.2.2)
theorem rBytes_eq {k : Nat} (hk : 12 ≤ k) {b : List UInt8} (hb : b.length < 2 ^ 47) (p : Nat) (e most : Int) (hp : p ≤ b.length) :
    wire_Reader_Bytes.f k b (p : Int) e most = some ((rBytes b p e most).1, (((rBytes b p e most).2.1 : Nat) : Int), (rBytes b p e most).2.2) := by
  unfold wire_Reader_Bytes.f rBytes rPos
  rw [look_eq hk (by omega)]
  simp only [Option.bind_some]
  by_cases h : (rNum b p e).2.2 = 0
  · obtain ⟨n, j, hd, h1, h2, h3⟩ := rNum_ok h
    rw [hd]
    simp only [decide_true, Bool.not_true, Bool.false_eq_true, if_false, if_true, Int.toNat_natCast]
    by_cases hn : max most 0 < (n : Int)
    · rw [if_pos hn, if_pos hn]
    · rw [if_neg hn, if_neg hn]
      have e1 : IntKind.i64.wrap ((b.length : Int) - (p : Int)) = (b.length : Int) - (p : Int) := w64 (by omega) (by omega)
      have e2 : IntKind.i64.wrap (((b.length : Int) - (p : Int)) - (j : Int)) = (b.length : Int) - ((p + j : Nat) : Int) := by rw [w64 (by omega) (by omega)]; omega
      have e3 : IntKind.i64.wrap ((p : Int) + (j : Int)) = ((p + j : Nat) : Int) := by rw [w64 (by omega) (by omega)]; simp
      rw [e1, e2]
      by_cases hs : (b.length : Int) - ((p + j : Nat) : Int) < (n : Int)
      · rw [if_pos hs, if_pos hs]
      · have e4 : IntKind.i64.wrap (((p + j : Nat) : Int) + (n : Int)) = ((p + j + n : Nat) : Int) := by rw [w64 (by omega) (by omega)]; simp
        rw [if_neg hs, if_neg hs, e3, e4, if_pos (by omega), cutN, fresh_eq (by rw [List.length_take, List.length_drop]; omega)]
        rfl
  · rw [if_pos (by simp [h])]; simp [h]
theorem rText_eq {k : Nat} (hk : 12 ≤ k) {b : List UInt8} (hb : b.length < 2 ^ 47) (p : Nat) (e most : Int) (hp : p ≤ b.length) :
    wire_Reader_Text.f k b (p : Int) e most = some ((rBytes b p e most).1, (((rBytes b p e most).2.1 : Nat) : Int), (rBytes b p e most).2.2) := by
  unfold wire_Reader_Text.f; rw [rBytes_eq hk hb p e most hp]; rfl
theorem rBytes_le {b : List UInt8} {p : Nat} {e most : Int} (hp : p ≤ b.length) : (rBytes b p e most).2.1 ≤ b.length ∧ (rBytes b p e most).1.length ≤ b.length := by
  unfold rBytes
  simp only []
  have := rPos_le (e := e) hp
  split
  · split
    · exact ⟨hp, by simp⟩
    · split
      · exact ⟨hp, by simp⟩
      · rename_i h1 h2 h3
        refine ⟨by simp only []; omega, ?_⟩
        simp only [List.length_take, List.length_drop]; omega
  · exact ⟨hp, by simp⟩
end Go.Proofs.YtdaedoklkmdhcaaGreat

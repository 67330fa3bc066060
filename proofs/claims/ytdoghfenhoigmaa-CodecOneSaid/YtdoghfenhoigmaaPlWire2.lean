/- What reading a number tells: the program's function and the document's, as one plain reading of bytes. Conditions: as each says. -/
import Derived.Test.YtdoghfenhoigmaaPlWire
namespace Go.Proofs.Ytdoghfenhoigmaa
set_option linter.unusedVariables false
set_option linter.unusedSimpArgs false
open Go.RowKit

/-- The first i bytes, seven bits of each. -/
def part7 : Nat → List UInt8 → Nat
  | 0, _ => 0
  | i + 1, l => part7 i l + (l.getD i 0).toNat % 128 * 128 ^ i
theorem part7_lt : ∀ (i : Nat) (l : List UInt8), part7 i l < 128 ^ i
  | 0, l => by simp [part7]
  | i + 1, l => by
    have := part7_lt i l
    have h2 := Nat.mod_lt (l.getD i 0).toNat (show 128 > 0 by decide)
    simp only [part7]
    rw [Nat.pow_succ]
    have h3 : (l.getD i 0).toNat % 128 * 128 ^ i ≤ 127 * 128 ^ i := Nat.mul_le_mul_right _ (by omega)
    omega
theorem part7_cons : ∀ (i : Nat) (b : UInt8) (l : List UInt8), part7 (i + 1) (b :: l) = b.toNat % 128 + 128 * part7 i l
  | 0, b, l => by simp [part7]
  | i + 1, b, l => by
    rw [part7, part7_cons i b l, part7]
    simp only [List.getD_cons_succ]
    rw [Nat.pow_succ, Nat.mul_add, Nat.add_assoc]
    congr 2
    rw [Nat.mul_comm (128 ^ i) 128, ← Nat.mul_assoc, ← Nat.mul_assoc, Nat.mul_comm _ 128]
theorem val7_part : ∀ (k : Nat) (l : List UInt8), val7 k l = part7 (k + 1) l
  | 0, l => by simp [val7, part7]
  | k + 1, [] => by
    have z : ∀ k, val7 k ([] : List UInt8) = 0 := by
      intro k; induction k with
      | zero => rfl
      | succ k ih => simp [val7, ih]
    have z2 : ∀ k, part7 k ([] : List UInt8) = 0 := by
      intro k; induction k with
      | zero => rfl
      | succ k ih => simp [part7, ih]
    rw [z, z2]
  | k + 1, b :: l => by
    rw [part7_cons, val7, val7_part k]
    simp
theorem getD_drop (l : List UInt8) (p i : Nat) : l.getD (p + i) 0 = (l.drop p).getD i 0 := by simp [List.getD_eq_getElem?_getD, List.getElem?_drop]
theorem or_join {n c i : Nat} (hn : n < 128 ^ i) (hc : c < 128) (hi : i ≤ 8) : bitsV .or .i64 (n : Int) ((c * 128 ^ i : Nat) : Int) = ((n + c * 128 ^ i : Nat) : Int) := by
  have hp : (128 : Nat) ^ i = 2 ^ (7 * i) := by rw [Nat.pow_mul]
  have hle : (128 : Nat) ^ i ≤ 128 ^ 8 := Nat.pow_le_pow_right (by decide) hi
  have hcm : c * 128 ^ i ≤ 127 * 128 ^ i := Nat.mul_le_mul_right _ (by omega)
  have e := (bits_nat .i64 63 (by decide) wraps_i64 n (c * 128 ^ i) (by omega) (by omega)).2
  show bits .or .i64 _ _ = _
  rw [e, Nat.or_comm, Nat.mul_comm, hp, ← Nat.two_pow_add_eq_or_of_lt (by rw [← hp]; exact hn) c, Nat.add_comm]
theorem step_val {c i : Nat} (hc : c < 256) (hi : i ≤ 8) : IntKind.i64.wrap ((IntKind.i64.wrap (bitsV .and .u8 (c : Int) 127)) * 2 ^ (min (IntKind.i64.wrap (7 * (i : Int))).toNat IntKind.i64.bits)) = ((c % 128 * 128 ^ i : Nat) : Int) := by
  have e1 : IntKind.i64.wrap (7 * (i : Int)) = ((7 * i : Nat) : Int) := by rw [w64 (by omega) (by omega)]; simp
  have e2 : bitsV .and .u8 (c : Int) 127 = ((c % 128 : Nat) : Int) := by rw [and127b (by omega) (by omega)]; simp
  have e3 : min ((7 * i : Nat) : Int).toNat IntKind.i64.bits = 7 * i := by
    show min ((7 * i : Nat) : Int).toNat 64 = 7 * i
    simp; omega
  have hp : (128 : Nat) ^ i = 2 ^ (7 * i) := by rw [Nat.pow_mul]
  have hle : (128 : Nat) ^ i ≤ 128 ^ 8 := Nat.pow_le_pow_right (by decide) hi
  have hcm : c % 128 * 128 ^ i ≤ 127 * 128 ^ i := Nat.mul_le_mul_right _ (by omega)
  rw [e1, e2, e3, w64 (n := ((c % 128 : Nat) : Int)) (by omega) (by omega)]
  have e4 : ((c % 128 : Nat) : Int) * 2 ^ (7 * i) = ((c % 128 * 128 ^ i : Nat) : Int) := by rw [hp]; simp
  rw [e4, w64 (by omega) (by omega)]
theorem dec_stop {l : List UInt8} {i : Nat} (hi : lead l = i) (h9 : i < 9) (hlt : i < l.length) :
    dec l = if 0 < i ∧ (l.getD i 0).toNat = 0 then (0, 0, 4) else if 2 ^ 62 < part7 (i + 1) l then (0, 0, 1) else (((part7 (i + 1) l : Nat) : Int), ((i + 1 : Nat) : Int), (0 : Int)) := by
  have hne : l ≠ [] := by rintro rfl; simp at hlt
  unfold dec
  rw [if_neg hne, hi, if_neg (by omega), if_neg (by omega), val7_part]
theorem dec_nine {l : List UInt8} (h9 : 9 ≤ lead l) : dec l = (0, 0, 4) := by
  have hne : l ≠ [] := by rintro rfl; simp [lead] at h9
  unfold dec
  rw [if_neg hne, if_pos h9]
theorem dec_short {l : List UInt8} (h9 : lead l < 9) (hl : l.length ≤ lead l) : dec l = (0, 0, 2) := by
  unfold dec
  by_cases hne : l = []
  · rw [if_pos hne]
  · rw [if_neg hne, if_neg (by omega), if_pos hl]
def decAt (b : List UInt8) (at_ : Int) : Int × Int × Int := if at_ < 0 ∨ (b.length : Int) ≤ at_ then (0, 0, 2) else dec (b.drop at_.toNat)
theorem guard_at (b : List UInt8) (x : Int) : ((decide (x < (0 : Int))) || (decide ((b.length : Int) ≤ x))) = true ↔ (x < 0 ∨ (b.length : Int) ≤ x) := by simp
theorem int_loop (b : List UInt8) (p : Nat) (hp : p < b.length) (hb : b.length < 2 ^ 62) : ∀ (d i k : Nat), i + d = 9 → d + 1 ≤ k → i ≤ lead (b.drop p) →
    (orR (wire_Int.l0 b (p : Int) k ((part7 i (b.drop p) : Nat) : Int) (i : Int)) fun _ => some ((0 : Int), (0 : Int), (4 : Int))) = some (dec (b.drop p))
  | d, i, 0, _, hk, _ => by omega
  | 0, i, k + 1, hd, hk, hl => by
    have hne : b.drop p ≠ [] := by intro e; have := congrArg List.length e; simp at this; omega
    simp only [wire_Int.l0]
    rw [if_neg (by omega)]
    simp only [orR, Option.some.injEq]
    unfold dec
    rw [if_neg hne, if_pos (by omega)]
  | d + 1, i, k + 1, hd, hk, hl => by
    have hne : b.drop p ≠ [] := by intro e; have := congrArg List.length e; simp at this; omega
    have hlen : (b.drop p).length = b.length - p := by simp
    have hll := lead_le (b.drop p)
    simp only [wire_Int.l0]
    rw [if_pos (by omega)]
    by_cases hend : b.length - p ≤ i
    · rw [w64 (n := (b.length : Int) - (p : Int)) (by omega) (by omega), if_pos (by omega)]
      simp only [orR, Option.some.injEq]
      unfold dec
      rw [if_neg hne, if_neg (by omega), if_pos (by omega)]
    · have epi : IntKind.i64.wrap ((p : Int) + (i : Int)) = ((p + i : Nat) : Int) := by rw [w64 (by omega) (by omega)]; simp
      have e7 : IntKind.i64.wrap (7 * (i : Int)) = ((7 * i : Nat) : Int) := by rw [w64 (by omega) (by omega)]; simp
      have ei1 : IntKind.i64.wrap ((i : Int) + 1) = ((i + 1 : Nat) : Int) := by rw [w64 (by omega) (by omega)]; simp
      have hc := getD_lt (b.drop p) i
      have hlt := part7_lt i (b.drop p)
      have hst := step_val (c := ((b.drop p).getD i 0).toNat) (i := i) hc (by omega)
      have hor := or_join (c := ((b.drop p).getD i 0).toNat % 128) (i := i) hlt (Nat.mod_lt _ (by decide)) (by omega)
      have hnext : part7 i (b.drop p) + ((b.drop p).getD i 0).toNat % 128 * 128 ^ i = part7 (i + 1) (b.drop p) := rfl
      rw [hnext] at hor
      rw [w64 (n := (b.length : Int) - (p : Int)) (by omega) (by omega), if_neg (by omega)]
      rw [epi, if_pos (by omega)]
      rw [if_pos (by rw [e7]; omega)]
      simp only [Int.toNat_natCast, getD_drop]
      rw [hst, hor, ei1]
      by_cases hcont : 128 ≤ ((b.drop p).getD i 0).toNat
      · rw [if_pos (by omega)]
        refine int_loop b p hp hb d (i + 1) k (by omega) (by omega) ?_
        refine Classical.byContradiction fun hx => ?_
        have hi : lead (b.drop p) = i := by omega
        have := lead_stop (b.drop p) (by omega)
        rw [hi] at this
        omega
      · have hi : lead (b.drop p) = i := by
          refine Nat.le_antisymm (Nat.not_lt.1 fun hx => ?_) hl
          exact hcont (lead_spec _ i hx)
        rw [dec_stop hi (by omega) (by omega), if_neg (by omega)]
        by_cases hz : 0 < i ∧ ((b.drop p).getD i 0).toNat = 0
        · rw [if_pos (by simp only [Bool.and_eq_true, decide_eq_true_eq]; omega), if_pos hz]
          rfl
        · rw [if_neg (by simp only [Bool.and_eq_true, decide_eq_true_eq]; omega), if_neg hz]
          by_cases hbig : 2 ^ 62 < part7 (i + 1) (b.drop p)
          · rw [if_pos (by omega), if_pos hbig]; rfl
          · rw [if_neg (by omega), if_neg hbig]; rfl
theorem wire_Int_eq {k : Nat} (hk : 10 ≤ k) {b : List UInt8} (hb : b.length < 2 ^ 62) (x : Int) : wire_Int.f k b x = some (decAt b x) := by
  unfold wire_Int.f decAt
  by_cases h : x < 0 ∨ (b.length : Int) ≤ x
  · rw [if_pos ((guard_at b x).2 h), if_pos h]
  · rw [if_neg (by rw [guard_at]; exact h), if_neg h]
    obtain ⟨p, rfl⟩ := Int.eq_ofNat_of_zero_le (show 0 ≤ x by omega)
    exact int_loop b p (by omega) hb 9 0 k (by omega) hk (Nat.zero_le _)
theorem rint_l0 (b : List UInt8) (p : Nat) (hp : p < b.length) (hb : b.length < 2 ^ 62) : ∀ (d i k : Nat), i + d = 9 → d + 1 ≤ k → i ≤ lead (b.drop p) →
    synodref1_Int.l0 b (p : Int) k (i : Int) = some (((min (lead (b.drop p)) 9 : Nat)) : Int)
  | d, i, 0, _, hk, _ => by omega
  | 0, i, k + 1, hd, hk, hl => by
    simp only [synodref1_Int.l0]
    rw [if_neg (by simp; omega)]
    have : min (lead (b.drop p)) 9 = i := by omega
    simp [this]
  | d + 1, i, k + 1, hd, hk, hl => by
    have epi : IntKind.i64.wrap ((p : Int) + (i : Int)) = ((p + i : Nat) : Int) := by rw [w64 (by omega) (by omega)]; simp
    have ei1 : IntKind.i64.wrap ((i : Int) + 1) = ((i + 1 : Nat) : Int) := by rw [w64 (by omega) (by omega)]; simp
    have hll := lead_le (b.drop p)
    have hlen : (b.drop p).length = b.length - p := by simp
    simp only [synodref1_Int.l0]
    rw [epi, ei1]
    by_cases hend : p + i < b.length
    · rw [if_pos (by simp; omega), if_pos (by omega)]
      simp only [Option.bind_some, Int.toNat_natCast, getD_drop, decide_eq_true_eq]
      by_cases hcont : 128 ≤ ((b.drop p).getD i 0).toNat
      · rw [if_pos (by omega)]
        refine rint_l0 b p hp hb d (i + 1) k (by omega) (by omega) ?_
        refine Classical.byContradiction fun hx => ?_
        have hi : lead (b.drop p) = i := by omega
        have := lead_stop (b.drop p) (by omega)
        rw [hi] at this
        omega
      · have hi : lead (b.drop p) = i := by
          refine Nat.le_antisymm (Nat.not_lt.1 fun hx => ?_) hl
          exact hcont (lead_spec _ i hx)
        rw [if_neg (by omega), hi]
        have : min i 9 = i := by omega
        rw [this]
    · rw [if_neg (by simp; omega)]
      have : min (lead (b.drop p)) 9 = i := by omega
      simp [this]
theorem rint_l1 (b : List UInt8) (p : Nat) (hb : b.length < 2 ^ 62) : ∀ (i n k : Nat), i + 2 ≤ k → p + i < b.length → i ≤ 8 → n * 128 ^ (i + 1) + part7 (i + 1) (b.drop p) < 2 ^ 63 →
    synodref1_Int.l1 b (p : Int) k (n : Int) (i : Int) = some ((n * 128 ^ (i + 1) + part7 (i + 1) (b.drop p) : Nat) : Int)
  | i, n, 0, hk, _, _, _ => by omega
  | i, n, k + 1, hk, hp, h8, hs => by
    have epi : IntKind.i64.wrap ((p : Int) + (i : Int)) = ((p + i : Nat) : Int) := by rw [w64 (by omega) (by omega)]; simp
    have hc := getD_lt (b.drop p) i
    have hm := Nat.mod_lt ((b.drop p).getD i 0).toNat (show 128 > 0 by decide)
    have hmul : n * 128 ≤ n * 128 ^ (i + 1) := Nat.mul_le_mul_left _ (by rw [Nat.pow_succ]; exact Nat.le_mul_of_pos_left _ (Nat.pow_pos (by decide)))
    have hpart : ((b.drop p).getD i 0).toNat % 128 ≤ part7 (i + 1) (b.drop p) := by
      simp only [part7]
      exact Nat.le_trans (Nat.le_mul_of_pos_right _ (Nat.pow_pos (by decide))) (Nat.le_add_left _ _)
    simp only [synodref1_Int.l1]
    rw [if_pos (by omega), epi, if_pos (by omega)]
    simp only [Int.toNat_natCast, getD_drop]
    have e1 : IntKind.i64.wrap (((b.drop p).getD i 0).toNat : Int) = (((b.drop p).getD i 0).toNat : Int) := w64 (by omega) (by omega)
    have e2 : IntKind.i64.wrap ((n : Int) * 128) = ((n * 128 : Nat) : Int) := by rw [w64 (by omega) (by omega)]; simp
    have e3 : IntKind.i64.wrap (((n * 128 : Nat) : Int) + ((((b.drop p).getD i 0).toNat % 128 : Nat) : Int)) = ((n * 128 + ((b.drop p).getD i 0).toNat % 128 : Nat) : Int) := by rw [w64 (by omega) (by omega)]; simp
    rw [e1, e2, mod128, e3]
    cases i with
    | zero =>
      cases k with
      | zero => omega
      | succ k =>
        have em : IntKind.i64.wrap (((0 : Nat) : Int) - 1) = -1 := by rw [w64 (by omega) (by omega)]; rfl
        rw [em]
        simp only [synodref1_Int.l1]
        rw [if_neg (by omega)]
        simp [part7]
    | succ i =>
      have em : IntKind.i64.wrap (((i + 1 : Nat) : Int) - 1) = ((i : Nat) : Int) := by rw [w64 (by omega) (by omega)]; omega
      rw [em]
      have key : (n * 128 + ((b.drop p).getD (i + 1) 0).toNat % 128) * 128 ^ (i + 1) + part7 (i + 1) (b.drop p) = n * 128 ^ (i + 1 + 1) + part7 (i + 1 + 1) (b.drop p) := by
        show _ = n * 128 ^ (i + 1 + 1) + (part7 (i + 1) (b.drop p) + ((b.drop p).getD (i + 1) 0).toNat % 128 * 128 ^ (i + 1))
        rw [Nat.add_mul, Nat.pow_succ 128 (i + 1), Nat.mul_comm (128 ^ (i + 1)) 128, ← Nat.mul_assoc]
        omega
      rw [rint_l1 b p hb i _ k (by omega) (by omega) (by omega) (by rw [key]; exact hs), key]
theorem ref_Int_eq {k : Nat} (hk : 12 ≤ k) {b : List UInt8} (hb : b.length < 2 ^ 62) (x : Int) : synodref1_Int.f k b x = some (decAt b x) := by
  unfold synodref1_Int.f decAt
  by_cases h : x < 0 ∨ (b.length : Int) ≤ x
  · rw [if_pos ((guard_at b x).2 h), if_pos h]
  · rw [if_neg (by rw [guard_at]; exact h), if_neg h]
    obtain ⟨p, rfl⟩ := Int.eq_ofNat_of_zero_le (show 0 ≤ x by omega)
    have hp : p < b.length := by omega
    have hll := lead_le (b.drop p)
    have hlen : (b.drop p).length = b.length - p := by simp
    have hne : b.drop p ≠ [] := by intro e; have := congrArg List.length e; simp at this; omega
    have h0 := rint_l0 b p hp hb 9 0 k (by omega) (by omega) (Nat.zero_le _)
    rw [show ((0 : Nat) : Int) = 0 from rfl] at h0
    rw [h0, Option.bind_some, Int.toNat_natCast]
    by_cases h9 : 9 ≤ lead (b.drop p)
    · rw [dec_nine h9, if_pos (by omega)]
    · rw [if_neg (by omega)]
      have hm : min (lead (b.drop p)) 9 = lead (b.drop p) := by omega
      rw [hm]
      have epi : IntKind.i64.wrap ((p : Int) + (lead (b.drop p) : Int)) = ((p + lead (b.drop p) : Nat) : Int) := by rw [w64 (by omega) (by omega)]; simp
      have ei1 : IntKind.i64.wrap ((lead (b.drop p) : Int) + 1) = ((lead (b.drop p) + 1 : Nat) : Int) := by rw [w64 (by omega) (by omega)]; simp
      rw [epi, ei1]
      by_cases hend : (b.drop p).length ≤ lead (b.drop p)
      · rw [dec_short (by omega) hend, if_pos (by omega)]
      · rw [if_neg (by omega)]
        have hlt := part7_lt (lead (b.drop p) + 1) (b.drop p)
        have hpow : (128 : Nat) ^ (lead (b.drop p) + 1) ≤ 128 ^ 9 := Nat.pow_le_pow_right (by decide) (by omega)
        have h1 := rint_l1 b p hb (lead (b.drop p)) 0 k (by omega) (by omega) (by omega) (by omega)
        rw [show ((0 : Nat) : Int) = 0 from rfl] at h1
        simp only [Int.toNat_natCast, getD_drop]
        have htail : ∀ z : Bool, (some z).bind (fun s28v => if s28v = true then some ((0 : Int), (0 : Int), (4 : Int)) else (synodref1_Int.l1 b (p : Int) k 0 (lead (b.drop p) : Int)).bind fun s38v => if (4611686018427387904 : Int) < s38v then some (0, 0, 1) else some (s38v, ((lead (b.drop p) + 1 : Nat) : Int), 0)) =
            some (if z = true then (0, 0, 4) else if 2 ^ 62 < part7 (lead (b.drop p) + 1) (b.drop p) then (0, 0, 1) else (((part7 (lead (b.drop p) + 1) (b.drop p) : Nat) : Int), ((lead (b.drop p) + 1 : Nat) : Int), (0 : Int))) := by
          intro z
          simp only [Option.bind_some]
          cases z with
          | true => rfl
          | false =>
            rw [if_neg (by simp), if_neg (by simp), h1, Option.bind_some]
            simp only [Nat.zero_mul, Nat.zero_add]
            by_cases hbig : 2 ^ 62 < part7 (lead (b.drop p) + 1) (b.drop p)
            · rw [if_pos (by omega), if_pos hbig]
            · rw [if_neg (by omega), if_neg hbig]
        rw [dec_stop rfl (by omega) (by omega)]
        by_cases hz : 0 < lead (b.drop p)
        · rw [if_pos (by omega), if_pos (by omega), htail]
          by_cases hz2 : ((b.drop p).getD (lead (b.drop p)) 0).toNat = 0
          · rw [if_pos (by rw [decide_eq_true_eq]; omega), if_pos ⟨hz, hz2⟩]
          · rw [if_neg (by rw [decide_eq_true_eq]; omega), if_neg (fun x : 0 < _ ∧ _ => hz2 x.2)]
        · rw [if_neg (by omega), htail, if_neg (by simp), if_neg (fun x : 0 < _ ∧ _ => hz x.1)]
end Go.Proofs.Ytdoghfenhoigmaa

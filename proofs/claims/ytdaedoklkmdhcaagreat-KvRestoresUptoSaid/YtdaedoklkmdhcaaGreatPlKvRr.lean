/- What the document's reader tells, and what is lent, as in PlWire2, PlGen, PlRd. Conditions: as each says. -/
import Derived.Test.YtdaedoklkmdhcaaGreatPlKvR
import Derived.Test.YtdaedoklkmdhcaaGreatPlKv5
namespace Go.Proofs.YtdaedoklkmdhcaaGreat
set_option linter.unusedVariables false
set_option linter.unusedSimpArgs false
open Go.RowKit
theorem rint_l0 (b : List UInt8) (p : Nat) (hp : p < b.length) (hb : b.length < 2 ^ 62) : ∀ (d i k : Nat), i + d = 9 → d + 1 ≤ k → i ≤ lead (b.drop p) →
    synodref1_Int.l0 b (p : Int) k (i : Int) = some (((min (lead (b.drop p)) 9 : Nat)) : Int)
  | d, i, 0, _, hk, _ => by omega
  | 0, i, k + 1, hd, hk, hl => by
    simp only [synodref1_Int.l0]
    rw [if_neg (by simp; omega)]
    have : min (lead (b.drop p)) 9 = i := by omega
    simp [this]
  | d + 1, i, k + 1, hd, hk, hl => by
    have epi : IntKind.i64.wrap ((p : Int) + (i : Int)) = ((p + i : Nat) : Int) := by rw [w64 (by omega) (by omega)]; simp
    have ei1 : IntKind.i64.wrap ((i : Int) + 1) = ((i + 1 : Nat) : Int) := by rw [w64 (by omega) (by omega)]; simp
    have hll := lead_le (b.drop p)
    have hlen : (b.drop p).length = b.length - p := by simp
    simp only [synodref1_Int.l0]
    rw [epi, ei1]
    by_cases hend : p + i < b.length
    · rw [if_pos (by simp; omega), if_pos (by omega)]
      simp only [Option.bind_some, Int.toNat_natCast, getD_drop, decide_eq_true_eq]
      by_cases hcont : 128 ≤ ((b.drop p).getD i 0).toNat
      · rw [if_pos (by omega)]
        refine rint_l0 b p hp hb d (i + 1) k (by omega) (by omega) ?_
        refine Classical.byContradiction fun hx => ?_
        have hi : lead (b.drop p) = i := by omega
        have := lead_stop (b.drop p) (by omega)
        rw [hi] at this
        omega
      · have hi : lead (b.drop p) = i := by
          refine Nat.le_antisymm (Nat.not_lt.1 fun hx => ?_) hl
          exact hcont (lead_spec _ i hx)
        rw [if_neg (by omega), hi]
        have : min i 9 = i := by omega
        rw [this]
    · rw [if_neg (by simp; omega)]
      have : min (lead (b.drop p)) 9 = i := by omega
      simp [this]
theorem rint_l1 (b : List UInt8) (p : Nat) (hb : b.length < 2 ^ 62) : ∀ (i n k : Nat), i + 2 ≤ k → p + i < b.length → i ≤ 8 → n * 128 ^ (i + 1) + part7 (i + 1) (b.drop p) < 2 ^ 63 →
    synodref1_Int.l1 b (p : Int) k (n : Int) (i : Int) = some ((n * 128 ^ (i + 1) + part7 (i + 1) (b.drop p) : Nat) : Int)
  | i, n, 0, hk, _, _, _ => by omega
  | i, n, k + 1, hk, hp, h8, hs => by
    have epi : IntKind.i64.wrap ((p : Int) + (i : Int)) = ((p + i : Nat) : Int) := by rw [w64 (by omega) (by omega)]; simp
    have hc := getD_lt (b.drop p) i
    have hm := Nat.mod_lt ((b.drop p).getD i 0).toNat (show 128 > 0 by decide)
    have hmul : n * 128 ≤ n * 128 ^ (i + 1) := Nat.mul_le_mul_left _ (by rw [Nat.pow_succ]; exact Nat.le_mul_of_pos_left _ (Nat.pow_pos (by decide)))
    have hpart : ((b.drop p).getD i 0).toNat % 128 ≤ part7 (i + 1) (b.drop p) := by
      simp only [part7]
      exact Nat.le_trans (Nat.le_mul_of_pos_right _ (Nat.pow_pos (by decide))) (Nat.le_add_left _ _)
    simp only [synodref1_Int.l1]
    rw [if_pos (by omega), epi, if_pos (by omega)]
    simp only [Int.toNat_natCast, getD_drop]
    have e1 : IntKind.i64.wrap (((b.drop p).getD i 0).toNat : Int) = (((b.drop p).getD i 0).toNat : Int) := w64 (by omega) (by omega)
    have e2 : IntKind.i64.wrap ((n : Int) * 128) = ((n * 128 : Nat) : Int) := by rw [w64 (by omega) (by omega)]; simp
    have e3 : IntKind.i64.wrap (((n * 128 : Nat) : Int) + ((((b.drop p).getD i 0).toNat % 128 : Nat) : Int)) = ((n * 128 + ((b.drop p).getD i 0).toNat % 128 : Nat) : Int) := by rw [w64 (by omega) (by omega)]; simp
    rw [e1, e2, mod128, e3]
    cases i with
    | zero =>
      cases k with
      | zero => omega
      | succ k =>
        have em : IntKind.i64.wrap (((0 : Nat) : Int) - 1) = -1 := by rw [w64 (by omega) (by omega)]; rfl
        rw [em]
        simp only [synodref1_Int.l1]
        rw [if_neg (by omega)]
        simp [part7]
    | succ i =>
      have em : IntKind.i64.wrap (((i + 1 : Nat) : Int) - 1) = ((i : Nat) : Int) := by rw [w64 (by omega) (by omega)]; omega
      rw [em]
      have key : (n * 128 + ((b.drop p).getD (i + 1) 0).toNat % 128) * 128 ^ (i + 1) + part7 (i + 1) (b.drop p) = n * 128 ^ (i + 1 + 1) + part7 (i + 1 + 1) (b.drop p) := by
        show _ = n * 128 ^ (i + 1 + 1) + (part7 (i + 1) (b.drop p) + ((b.drop p).getD (i + 1) 0).toNat % 128 * 128 ^ (i + 1))
        rw [Nat.add_mul, Nat.pow_succ 128 (i + 1), Nat.mul_comm (128 ^ (i + 1)) 128, ← Nat.mul_assoc]
        omega
      rw [rint_l1 b p hb i _ k (by omega) (by omega) (by omega) (by rw [key]; exact hs), key]
theorem ref_Int_eq {k : Nat} (hk : 12 ≤ k) {b : List UInt8} (hb : b.length < 2 ^ 62) (x : Int) : synodref1_Int.f k b x = some (decAt b x) := by
  unfold synodref1_Int.f decAt
  by_cases h : x < 0 ∨ (b.length : Int) ≤ x
  · rw [if_pos ((guard_at b x).2 h), if_pos h]
  · rw [if_neg (by rw [guard_at]; exact h), if_neg h]
    obtain ⟨p, rfl⟩ := Int.eq_ofNat_of_zero_le (show 0 ≤ x by omega)
    have hp : p < b.length := by omega
    have hll := lead_le (b.drop p)
    have hlen : (b.drop p).length = b.length - p := by simp
    have hne : b.drop p ≠ [] := by intro e; have := congrArg List.length e; simp at this; omega
    have h0 := rint_l0 b p hp hb 9 0 k (by omega) (by omega) (Nat.zero_le _)
    rw [show ((0 : Nat) : Int) = 0 from rfl] at h0
    rw [h0, Option.bind_some, Int.toNat_natCast]
    by_cases h9 : 9 ≤ lead (b.drop p)
    · rw [dec_nine h9, if_pos (by omega)]
    · rw [if_neg (by omega)]
      have hm : min (lead (b.drop p)) 9 = lead (b.drop p) := by omega
      rw [hm]
      have epi : IntKind.i64.wrap ((p : Int) + (lead (b.drop p) : Int)) = ((p + lead (b.drop p) : Nat) : Int) := by rw [w64 (by omega) (by omega)]; simp
      have ei1 : IntKind.i64.wrap ((lead (b.drop p) : Int) + 1) = ((lead (b.drop p) + 1 : Nat) : Int) := by rw [w64 (by omega) (by omega)]; simp
      rw [epi, ei1]
      by_cases hend : (b.drop p).length ≤ lead (b.drop p)
      · rw [dec_short (by omega) hend, if_pos (by omega)]
      · rw [if_neg (by omega)]
        have hlt := part7_lt (lead (b.drop p) + 1) (b.drop p)
        have hpow : (128 : Nat) ^ (lead (b.drop p) + 1) ≤ 128 ^ 9 := Nat.pow_le_pow_right (by decide) (by omega)
        have h1 := rint_l1 b p hb (lead (b.drop p)) 0 k (by omega) (by omega) (by omega) (by omega)
        rw [show ((0 : Nat) : Int) = 0 from rfl] at h1
        simp only [Int.toNat_natCast, getD_drop]
        have htail : ∀ z : Bool, (some z).bind (fun s28v => if s28v = true then some ((0 : Int), (0 : Int), (4 : Int)) else (synodref1_Int.l1 b (p : Int) k 0 (lead (b.drop p) : Int)).bind fun s38v => if (4611686018427387904 : Int) < s38v then some (0, 0, 1) else some (s38v, ((lead (b.drop p) + 1 : Nat) : Int), 0)) =
            some (if z = true then (0, 0, 4) else if 2 ^ 62 < part7 (lead (b.drop p) + 1) (b.drop p) then (0, 0, 1) else (((part7 (lead (b.drop p) + 1) (b.drop p) : Nat) : Int), ((lead (b.drop p) + 1 : Nat) : Int), (0 : Int))) := by
          intro z
          simp only [Option.bind_some]
          cases z with
          | true => rfl
          | false =>
            rw [if_neg (by simp), if_neg (by simp), h1, Option.bind_some]
            simp only [Nat.zero_mul, Nat.zero_add]
            by_cases hbig : 2 ^ 62 < part7 (lead (b.drop p) + 1) (b.drop p)
            · rw [if_pos (by omega), if_pos hbig]
            · rw [if_neg (by omega), if_neg hbig]
        rw [dec_stop rfl (by omega) (by omega)]
        by_cases hz : 0 < lead (b.drop p)
        · rw [if_pos (by omega), if_pos (by omega), htail]
          by_cases hz2 : ((b.drop p).getD (lead (b.drop p)) 0).toNat = 0
          · rw [if_pos (by rw [decide_eq_true_eq]; omega), if_pos ⟨hz, hz2⟩]
          · rw [if_neg (by rw [decide_eq_true_eq]; omega), if_neg (fun x : 0 < _ ∧ _ => hz2 x.2)]
        · rw [if_neg (by omega), htail, if_neg (by simp), if_neg (fun x : 0 < _ ∧ _ => hz x.1)]
theorem Bytes_eq {x : List UInt8} (h : x.length ≤ 140737488355328) : synodref_Bytes.f x = some x := by
  unfold synodref_Bytes.f
  rw [if_pos (by simp; omega)]; rfl
theorem Lent_eq {x : List UInt8} (h : x.length < 140737488355328) : synodref_Lent.f x = some (x, [201]) := by
  unfold synodref_Lent.f
  rw [Bytes_eq (by omega), Option.bind_some, if_pos (by simp; omega), if_pos (by simp; omega)]
  simp
theorem Kept_eq {k : Nat} {x : List UInt8} (h : x.length < 2 ^ 47) (hk : x.length + 1 ≤ k) : synodref_Kept.f k x [201] x = some true := by
  unfold synodref_Kept.f
  rw [SameBytes_eq (by omega) hk]
  have e : IntKind.i64.wrap ((x.length : Int) + 1) = ((x.length + 1 : Nat) : Int) := by rw [w64 (by omega) (by omega)]; simp
  simp only [Option.bind_some, decide_true, Bool.and_self, if_true]
  have e2 : cut (x ++ [201]) (0 : Int) ((x.length + 1 : Nat) : Int) = x ++ [201] := by
    rw [cut0, List.take_of_length_le (by simp)]
  rw [e, if_pos (by simp; omega), e2, if_pos (by simp; omega)]
  simp [List.getD_eq_getElem?_getD]
/-! ### The reader -/
theorem refInt_eq {k : Nat} (hk : 12 ≤ k) {b : List UInt8} (hb : b.length < 2 ^ 62) (p : Nat) (e : Int) (hp : p ≤ b.length) :
    synodref1_Reader_Int.f k b (p : Int) e = some ((rNum b p e).1, ((rPos b p e : Nat) : Int), (rNum b p e).2.2) := by
  unfold synodref1_Reader_Int.f rPos
  by_cases he : e = 0
  · have hr : rNum b p e = decAt b (p : Int) := by unfold rNum; rw [if_pos he]
    rw [if_pos he, ref_Int_eq (by omega) hb, hr, Option.bind_some]
    by_cases h : (decAt b (p : Int)).2.2 = 0
    · obtain ⟨n, j, hd, h1, h2, h3⟩ := decAt_ok h
      rw [hd]
      simp only [Int.toNat_natCast]
      rw [w64 (by omega) (by omega)]
      simp
    · obtain ⟨h1, h2⟩ := decAt_bad h
      rw [h1, h2, w64 (by omega) (by omega)]
      simp
  · have hr : rNum b p e = (0, 0, e) := by unfold rNum; rw [if_neg he]
    rw [if_neg he, hr]; simp
theorem refBytes_eq {k : Nat} (hk : 12 ≤ k) {b : List UInt8} (hb : b.length < 2 ^ 47) (p : Nat) (e most : Int) (hp : p ≤ b.length) :
    synodref1_Reader_Bytes.f k b (p : Int) e most = some ((rBytes b p e most).1, (((rBytes b p e most).2.1 : Nat) : Int), (rBytes b p e most).2.2) := by
  unfold synodref1_Reader_Bytes.f rBytes
  rw [refInt_eq hk (by omega) p e hp]
  simp only [Option.bind_some]
  by_cases h : (rNum b p e).2.2 = 0
  · obtain ⟨n, j, hd, h1, h2, h3⟩ := rNum_ok h
    have hr : rPos b p e = p + j := by unfold rPos; rw [hd]; rfl
    rw [hr, hd]
    simp only [if_true, Int.toNat_natCast]
    by_cases hn : max most 0 < (n : Int)
    · rw [if_pos hn, if_pos hn]; simp
    · rw [if_neg hn, if_neg hn]
      have e2 : IntKind.i64.wrap ((b.length : Int) - ((p + j : Nat) : Int)) = (b.length : Int) - ((p + j : Nat) : Int) := w64 (by omega) (by omega)
      rw [e2]
      by_cases hs : (b.length : Int) - ((p + j : Nat) : Int) < (n : Int)
      · rw [if_pos hs, if_pos hs]; simp
      · have e4 : IntKind.i64.wrap (((p + j : Nat) : Int) + (n : Int)) = ((p + j + n : Nat) : Int) := by rw [w64 (by omega) (by omega)]; simp
        have e5 : IntKind.i64.wrap (((p + j + n : Nat) : Int) - (n : Int)) = ((p + j : Nat) : Int) := by rw [w64 (by omega) (by omega)]; omega
        rw [if_neg hs, if_neg hs]
        simp only [Option.bind_some, if_true]
        rw [e4, e5, if_pos (by omega), cutN, Bytes_eq (by rw [List.length_take, List.length_drop]; omega)]
        rfl
  · obtain ⟨h1, h2⟩ := rNum_bad h
    have : rPos b p e = p := by unfold rPos; rw [h2]; rfl
    rw [if_neg h, if_neg h, this]
theorem refText_eq {k : Nat} (hk : 12 ≤ k) {b : List UInt8} (hb : b.length < 2 ^ 47) (p : Nat) (e most : Int) (hp : p ≤ b.length) :
    synodref1_Reader_Text.f k b (p : Int) e most = some ((rBytes b p e most).1, (((rBytes b p e most).2.1 : Nat) : Int), (rBytes b p e most).2.2) := by
  unfold synodref1_Reader_Text.f; rw [refBytes_eq hk hb p e most hp]; rfl
end Go.Proofs.YtdaedoklkmdhcaaGreat

/- Plain laws on numbers as bytes: seven bits at a time, there and back. Conditions: none. -/
import Derived.Test.YtbcnegennmpliaaDoorSl11
import Derived.Laws.BitsLemmas
namespace Go.Proofs.YtbcnegennmpliaaDoor
set_option linter.unusedVariables false
set_option linter.unusedSimpArgs false
open Go.RowKit

theorem w64 {n : Int} (h0 : -9223372036854775808 ≤ n) (h1 : n ≤ 9223372036854775807) : IntKind.i64.wrap n = n := by rw [IntKind.wrap_i64]; omega
theorem w8 {n : Int} (h0 : 0 ≤ n) (h1 : n < 256) : IntKind.u8.wrap n = n := by rw [IntKind.wrap_u8]; omega
theorem wraps_i64 (n : Int) (h₀ : 0 ≤ n) (h₁ : n < 2 ^ 63) : IntKind.i64.wrap n = n := by rw [IntKind.wrap_i64]; omega
theorem bitsV_and (k : IntKind) (a b : Int) : bitsV .and k a b = bits .and k a b := rfl
theorem bitsV_or (k : IntKind) (a b : Int) : bitsV .or k a b = bits .or k a b := rfl
theorem and127 {n : Int} (h0 : 0 ≤ n) (h1 : n < 2 ^ 63) : bitsV .and .i64 n 127 = n % 128 := bits_mask .i64 63 (by decide) wraps_i64 7 (by decide) n h0 h1
theorem and127b {n : Int} (h0 : 0 ≤ n) (h1 : n < 256) : bitsV .and .u8 n 127 = n % 128 := bits_mask .u8 8 (by decide) wraps_u8 7 (by decide) n h0 h1
theorem or128 {n : Int} (h0 : 0 ≤ n) (h1 : n < 128) : bitsV .or .i64 n 128 = n + 128 := by
  obtain ⟨a, rfl⟩ := Int.eq_ofNat_of_zero_le h0
  have ha : a < 128 := by omega
  have e := (bits_nat .i64 63 (by decide) wraps_i64 a 128 (by omega) (by decide)).2
  show bits .or .i64 (a : Int) ((128 : Nat) : Int) = _
  rw [e]
  have h2 := Nat.two_pow_add_eq_or_of_lt (i := 7) (b := a) ha 1
  have : a ||| 128 = 128 + a := by rw [Nat.or_comm]; simpa using h2.symm
  rw [this]; omega
theorem shr7 (n : Nat) : Int.fdiv (n : Int) (2 ^ (min (7 : Int).toNat IntKind.i64.bits)) = ((n / 128 : Nat) : Int) := by
  show Int.fdiv (n : Int) 128 = _
  rw [Int.fdiv_eq_ediv_of_nonneg _ (by decide)]
  simp
theorem byte_cast (b : UInt8) : byte (b.toNat : Int) = b := by simp [byte]
theorem byte_of (n : Nat) : byte (n : Int) = UInt8.ofNat n := by simp [byte]
theorem getD_lt (l : List UInt8) (i : Nat) : (l.getD i 0).toNat < 256 := UInt8.toNat_lt _

def sv (n : Nat) : List UInt8 := if h : n < 128 then [UInt8.ofNat n] else UInt8.ofNat (n % 128 + 128) :: sv (n / 128)
theorem sv_lt {n : Nat} (h : n < 128) : sv n = [UInt8.ofNat n] := by rw [sv]; simp [h]
theorem sv_ge {n : Nat} (h : 128 ≤ n) : sv n = UInt8.ofNat (n % 128 + 128) :: sv (n / 128) := by rw [sv]; simp [Nat.not_lt.2 h]
theorem sv_ne (n : Nat) : sv n ≠ [] := by rw [sv]; split <;> simp
theorem sv_pos (n : Nat) : 0 < (sv n).length := List.length_pos_iff.2 (sv_ne n)
theorem sv_len : ∀ (j n : Nat), n < 128 ^ (j + 1) → (sv n).length ≤ j + 1
  | 0, n, h => by rw [sv_lt (by simpa using h)]; simp
  | j + 1, n, h => by
    by_cases hn : n < 128
    · rw [sv_lt hn]; simp
    · rw [sv_ge (by omega)]
      have := sv_len j (n / 128) (by rw [Nat.pow_succ] at h; exact Nat.div_lt_of_lt_mul (by rw [Nat.mul_comm]; exact h))
      simp; omega
theorem sv9 {n : Nat} (h : n < 2 ^ 63) : (sv n).length ≤ 9 := sv_len 8 n (by omega)
theorem sv_mono_len : ∀ (m n : Nat), m ≤ n → (sv m).length ≤ (sv n).length
  | m, n, h => by
    by_cases hm : m < 128
    · rw [sv_lt hm]; have := sv_pos n; simp; omega
    · rw [sv_ge (by omega), sv_ge (n := n) (by omega)]
      have := sv_mono_len (m / 128) (n / 128) (Nat.div_le_div_right h)
      simp; exact this
  termination_by m => m

def lead : List UInt8 → Nat
  | [] => 0
  | b :: l => if 128 ≤ b.toNat then lead l + 1 else 0
def val7 : Nat → List UInt8 → Nat
  | 0, l => (l.getD 0 0).toNat % 128
  | k + 1, l => (l.getD 0 0).toNat % 128 + 128 * val7 k (l.drop 1)
theorem lead_le : ∀ l : List UInt8, lead l ≤ l.length
  | [] => Nat.le_refl _
  | b :: l => by simp only [lead]; have := lead_le l; split <;> simp <;> omega
theorem lead_spec : ∀ (l : List UInt8) (i : Nat), i < lead l → 128 ≤ (l.getD i 0).toNat
  | [], i, h => by simp [lead] at h
  | b :: l, i, h => by
    simp only [lead] at h
    split at h
    · cases i with
      | zero => simpa
      | succ i => simpa using lead_spec l i (by omega)
    · omega
theorem lead_stop : ∀ (l : List UInt8), lead l < l.length → (l.getD (lead l) 0).toNat < 128
  | [], h => by simp [lead] at h
  | b :: l, h => by
    simp only [lead] at h ⊢
    split
    · rename_i hb; rw [if_pos hb] at h; simpa using lead_stop l (by simpa using h)
    · simp; omega
def dec (l : List UInt8) : Int × Int × Int :=
  if l = [] then (0, 0, 2) else
  if 9 ≤ lead l then (0, 0, 4) else
  if l.length ≤ lead l then (0, 0, 2) else
  if 0 < lead l ∧ (l.getD (lead l) 0).toNat = 0 then (0, 0, 4) else
  if 2 ^ 62 < val7 (lead l) l then (0, 0, 1) else (((val7 (lead l) l : Nat) : Int), ((lead l + 1 : Nat) : Int), (0 : Int))
theorem val7_lt : ∀ (k : Nat) (l : List UInt8), val7 k l < 128 ^ (k + 1)
  | 0, l => by simp only [val7]; exact Nat.mod_lt _ (by decide)
  | k + 1, l => by
    have := val7_lt k (l.drop 1)
    have h2 := Nat.mod_lt (l.getD 0 0).toNat (show 128 > 0 by decide)
    simp only [val7]
    rw [Nat.pow_succ 128 (k + 1)]
    omega
theorem lead_sv : ∀ (n : Nat) (r : List UInt8), lead (sv n ++ r) + 1 = (sv n).length ∧ val7 (lead (sv n ++ r)) (sv n ++ r) = n ∧ (n ≠ 0 → ((sv n ++ r).getD (lead (sv n ++ r)) 0).toNat ≠ 0)
  | n, r => by
    by_cases hn : n < 128
    · rw [sv_lt hn]
      have e : (UInt8.ofNat n).toNat = n := by rw [UInt8.toNat_ofNat']; omega
      have : ¬ 128 ≤ (UInt8.ofNat n).toNat := by rw [e]; omega
      have h1 : lead ([UInt8.ofNat n] ++ r) = 0 := by show (if 128 ≤ (UInt8.ofNat n).toNat then _ else _) = 0; rw [if_neg this]
      rw [h1]
      refine ⟨rfl, ?_, fun h => ?_⟩
      · simp only [val7, List.singleton_append, List.getD_cons_zero, e]; omega
      · simp only [List.singleton_append, List.getD_cons_zero, e]; exact h
    · rw [sv_ge (by omega)]
      have e : (UInt8.ofNat (n % 128 + 128)).toNat = n % 128 + 128 := by rw [UInt8.toNat_ofNat']; omega
      have ih := lead_sv (n / 128) r
      have h1 : lead (UInt8.ofNat (n % 128 + 128) :: sv (n / 128) ++ r) = lead (sv (n / 128) ++ r) + 1 := by
        show (if 128 ≤ (UInt8.ofNat (n % 128 + 128)).toNat then _ else _) = _
        rw [if_pos (by omega)]; rfl
      rw [h1]
      refine ⟨by simp [ih.1], ?_, fun h => ?_⟩
      · simp only [val7, List.cons_append, List.getD_cons_zero, List.drop_succ_cons, List.drop_zero, e, ih.2.1]; omega
      · simp only [List.cons_append, List.getD_cons_succ]; exact ih.2.2 (by omega)
  termination_by n => n
theorem dec_sv {n : Nat} (h : n ≤ 2 ^ 62) (r : List UInt8) : dec (sv n ++ r) = (((n : Nat) : Int), (((sv n).length : Nat) : Int), (0 : Int)) := by
  obtain ⟨h1, h2, h3⟩ := lead_sv n r
  have hl := sv9 (n := n) (by omega)
  have hp := sv_pos n
  unfold dec
  rw [if_neg (fun e => sv_ne n (List.append_eq_nil_iff.1 e).1), if_neg (by omega), if_neg (by rw [List.length_append]; omega), if_neg, if_neg (by omega)]
  · rw [h2, h1]
  · rintro ⟨x, y⟩
    by_cases hn : n = 0
    · subst hn; have e0 : (sv 0).length = 1 := by rw [sv_lt (by decide)]; rfl
      omega
    · exact h3 hn y
theorem sv_val : ∀ (k : Nat) (l : List UInt8), lead l = k → k < l.length → ¬ (0 < k ∧ (l.getD k 0).toNat = 0) → sv (val7 k l) = l.take (k + 1)
  | 0, b :: l, h, _, _ => by
    have hb : ¬ 128 ≤ b.toNat := by intro x; simp [lead, x] at h
    simp only [val7, List.getD_cons_zero]
    rw [Nat.mod_eq_of_lt (by omega), sv_lt (by omega)]
    simp
  | k + 1, b :: l, h, hk, hz => by
    have hb : 128 ≤ b.toNat := by
      refine Classical.byContradiction fun x => ?_
      simp [lead, x] at h
    have h2 : lead l = k := by simpa [lead, hb] using h
    have hz2 : (l.getD k 0).toNat ≠ 0 := by intro x; exact hz ⟨by omega, by simpa using x⟩
    have ih := sv_val k l h2 (by simpa using hk) (fun x => hz2 x.2)
    have hlt := UInt8.toNat_lt b
    have hpos : 0 < val7 k l := by
      refine Nat.pos_of_ne_zero fun x => ?_
      rw [x, sv_lt (by decide)] at ih
      have hkl : k < l.length := by simpa using hk
      have hl : (l.take (k + 1)).length = 1 := by rw [← ih]; rfl
      have : k = 0 := by rw [List.length_take] at hl; omega
      subst this
      cases l with
      | nil => simp at hk
      | cons c l =>
        simp at ih hz2
        have := congrArg UInt8.toNat ih
        simp at this
        exact hz2 this.symm
    simp only [val7, List.getD_cons_zero, List.drop_succ_cons, List.drop_zero]
    rw [sv_ge (by omega)]
    have e1 : (b.toNat % 128 + 128 * val7 k l) / 128 = val7 k l := by omega
    have e2 : (b.toNat % 128 + 128 * val7 k l) % 128 + 128 = b.toNat := by omega
    rw [e1, e2, ih]
    simp
  | k, [], h, hk, _ => by simp at hk
theorem lead_take : ∀ (l : List UInt8) (m : Nat), m ≤ lead l → lead (l.take m) = m
  | [], m, h => by simp [lead] at h; subst h; rfl
  | b :: l, 0, _ => rfl
  | b :: l, m + 1, h => by
    simp only [lead] at h
    split at h
    · rename_i hb
      simp only [List.take_succ_cons, lead, hb, if_true]
      rw [lead_take l m (by omega)]
    · omega
end Go.Proofs.YtbcnegennmpliaaDoor

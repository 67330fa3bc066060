/- Plain laws of a mask's bits, and of maps that are lists of pairs. Conditions: as each says. -/
import Derived.Test.YtlblpegbgbgliaaPl1
import Derived.Test.YtlblpegbgbgliaaSl21
namespace Go.Proofs.Ytlblpegbgbgliaa
set_option linter.unusedVariables false
set_option linter.unusedSimpArgs false
open Go.RowKit
theorem or_add : ∀ (i m : Nat), m.testBit i = false → m ||| 2 ^ i = m + 2 ^ i
  | 0, m, h => by
    rw [Nat.pow_zero]
    have h1 := Nat.or_div_two (a := m) (b := 1)
    rw [show 1 / 2 = 0 from rfl, Nat.or_zero] at h1
    have h2 : (m ||| 1) % 2 = 1 := by
      have := Nat.testBit_or m 1 0
      rw [Nat.testBit_zero, Nat.testBit_zero, Nat.testBit_zero] at this
      rw [show decide (1 % 2 = 1) = true from rfl, Bool.or_true] at this
      exact of_decide_eq_true this
    have h3 : ¬ m % 2 = 1 := by
      rw [Nat.testBit_zero] at h
      exact of_decide_eq_false h
    omega
  | i + 1, m, h => by
    have ih := or_add i (m / 2) (by rwa [Nat.testBit_succ] at h)
    have h1 := Nat.or_div_two (a := m) (b := 2 ^ (i + 1))
    have e : 2 ^ (i + 1) / 2 = 2 ^ i := by rw [Nat.pow_succ]; omega
    rw [e, ih] at h1
    have h2 : (m ||| 2 ^ (i + 1)) % 2 = m % 2 := by
      have := Nat.testBit_or m (2 ^ (i + 1)) 0
      rw [Nat.testBit_zero, Nat.testBit_zero, Nat.testBit_zero] at this
      have e2 : ¬ 2 ^ (i + 1) % 2 = 1 := by rw [Nat.pow_succ]; omega
      rw [decide_eq_false e2, Bool.or_false, decide_eq_decide] at this
      omega
    generalize m ||| 2 ^ (i + 1) = z at *
    rw [Nat.pow_succ]
    omega
theorem and_bit (m i : Nat) : (m &&& 2 ^ i = 0) ↔ m.testBit i = false := by
  constructor
  · intro h
    have := congrArg (fun x => x.testBit i) h
    simpa using this
  · intro h
    apply Nat.eq_of_testBit_eq
    intro j
    rw [Nat.testBit_and, Nat.testBit_two_pow]
    by_cases e : i = j
    · subst e; simp [h]
    · simp [e]
theorem pow_lt60 {i : Nat} (h : i < 60) : 2 ^ i < 2 ^ 60 := Nat.pow_lt_pow_of_lt (by decide) h
theorem shl_bit {i : Nat} (h : i < 60) : IntKind.i64.wrap (1 * 2 ^ (min (i : Int).toNat IntKind.i64.bits)) = ((2 ^ i : Nat) : Int) := by
  have hb : IntKind.i64.bits = 64 := rfl
  have h2 := pow_lt60 h
  rw [Int.toNat_natCast, hb, Nat.min_eq_left (by omega), Int.one_mul]
  have e : ((2 : Int) ^ i) = ((2 ^ i : Nat) : Int) := by simp
  rw [e]
  generalize 2 ^ i = p at h2 ⊢
  rw [w64 (by omega) (by omega)]
theorem lin_and {m i : Nat} (hm : m < 2 ^ 60) (hi : i < 60) : (bitsV .and .i64 (m : Int) (IntKind.i64.wrap (1 * 2 ^ (min (i : Int).toNat IntKind.i64.bits))) = (0 : Int)) ↔ m.testBit i = false := by
  have h2 := pow_lt60 hi
  rw [shl_bit hi, bitsV_and, (bits_nat .i64 63 (by decide) wraps_i64 m (2 ^ i) (by omega) (by omega)).1, ← and_bit]
  omega
theorem lin_or {m i : Nat} (hm : m < 2 ^ 60) (hi : i < 60) : bitsV .or .i64 (m : Int) (IntKind.i64.wrap (1 * 2 ^ (min (i : Int).toNat IntKind.i64.bits))) = ((m ||| 2 ^ i : Nat) : Int) := by
  have h2 := pow_lt60 hi
  rw [shl_bit hi, bitsV_or, (bits_nat .i64 63 (by decide) wraps_i64 m (2 ^ i) (by omega) (by omega)).2]
theorem or_lt {m i n : Nat} (hm : m < 2 ^ n) (hi : i < n) : m ||| 2 ^ i < 2 ^ n := Nat.or_lt_two_pow hm (Nat.pow_lt_pow_of_lt (by decide) hi)
theorem ref_bit {m i : Nat} (hm : m < 2 ^ 60) : Int.tmod (IntKind.i64.wrap (Int.tdiv (m : Int) ((2 ^ i : Nat) : Int))) 2 = (if m.testBit i then 1 else 0) := by
  have e : Int.tdiv (m : Int) ((2 ^ i : Nat) : Int) = ((m / 2 ^ i : Nat) : Int) := by rw [Int.tdiv_eq_ediv_of_nonneg (by omega)]; simp
  have h3 : m / 2 ^ i ≤ m := Nat.div_le_self _ _
  rw [e, Nat.testBit_eq_decide_div_mod_eq]
  generalize m / 2 ^ i = q at h3 ⊢
  rw [w64 (by omega) (by omega)]
  have e2 : Int.tmod (q : Int) 2 = ((q % 2 : Nat) : Int) := by rw [Int.tmod_eq_emod_of_nonneg (by omega)]; omega
  rw [e2]
  have := Nat.mod_two_eq_zero_or_one q
  rcases this with h | h <;> simp [h]
section
variable {α β : Type} [DecidableEq α]
theorem mget_mput : ∀ (l : List (α × β)) (x : α) (y : β) (z : α), mget (mput l x y) z = if x = z then some y else mget l z
  | [], x, y, z => by simp [mput, mget]
  | p :: l, x, y, z => by
    by_cases h : p.1 = x
    · by_cases hz : x = z <;> simp [mput, mget, h, hz]
    · by_cases hz : p.1 = z
      · have hxz : x ≠ z := fun e => h (hz.trans e.symm)
        subst hz
        simp [mput, mget, h, hxz]
      · simp [mput, mget, h, hz, mget_mput l x y z]
theorem mput_keys : ∀ (l : List (α × β)) (x : α) (y : β), (mput l x y).map (·.1) = if x ∈ l.map (·.1) then l.map (·.1) else l.map (·.1) ++ [x]
  | [], x, y => by simp [mput]
  | p :: l, x, y => by
    by_cases h : p.1 = x
    · simp [mput, h]
    · have ih := mput_keys l x y
      have h' : ¬ x = p.1 := fun e => h e.symm
      by_cases hm : x ∈ l.map (·.1)
      · rw [if_pos hm] at ih; rw [if_pos (by simp only [List.map_cons]; exact List.mem_cons_of_mem _ hm)]; simp [mput, h, ih]
      · rw [if_neg hm] at ih; rw [if_neg (by rw [List.map_cons, List.mem_cons]; rintro (e | e); exact h' e; exact hm e)]; simp [mput, h, ih]
theorem mput_nodup {l : List (α × β)} {x : α} {y : β} (h : (l.map (·.1)).Nodup) : ((mput l x y).map (·.1)).Nodup := by
  rw [mput_keys]
  split
  · exact h
  · rename_i hx
    exact List.nodup_append.2 ⟨h, by simp, fun a ha b hb => by simp at hb; subst hb; exact fun e => hx (e ▸ ha)⟩
theorem mem_mput_keys {l : List (α × β)} {x z : α} {y : β} : z ∈ (mput l x y).map (·.1) ↔ z = x ∨ z ∈ l.map (·.1) := by
  rw [mput_keys]
  split
  · rename_i hx
    constructor
    · exact .inr
    · rintro (rfl | h)
      · exact hx
      · exact h
  · rw [List.mem_append, List.mem_singleton]; exact Or.comm
theorem mput_length {l : List (α × β)} {x : α} {y : β} : (mput l x y).length ≤ l.length + 1 := by
  have := congrArg List.length (mput_keys l x y)
  rw [List.length_map] at this
  split at this <;> simp at this <;> omega
end
/-! ### Strings by order -/
theorem bytesLess_iff : ∀ (l m : List UInt8), Op.bytesLess l m = decide (l < m)
  | [], [] => by simp [Op.bytesLess]
  | [], b :: m => by simp [Op.bytesLess]
  | a :: l, [] => by simp [Op.bytesLess]
  | a :: l, b :: m => by
    simp only [Op.bytesLess]
    rw [Bool.eq_iff_iff, decide_eq_true_eq, List.cons_lt_cons_iff]
    simp [bytesLess_iff l m]
theorem keysS_sorted {β : Type} (kvs : List (List UInt8 × β)) : (keysS kvs).Pairwise (· ≤ ·) := by
  have := List.pairwise_mergeSort (le := fun x y : List UInt8 => decide (x ≤ y)) (fun a b c h1 h2 => by simp only [decide_eq_true_eq] at *; exact List.le_trans h1 h2) (fun a b => by simp only [Bool.or_eq_true, decide_eq_true_eq]; exact List.le_total a b) (kvs.map (·.1))
  exact this.imp fun h => of_decide_eq_true h
theorem keysS_perm {β : Type} (kvs : List (List UInt8 × β)) : (keysS kvs).Perm (kvs.map (·.1)) := List.mergeSort_perm _ _
theorem keysS_strict {β : Type} {kvs : List (List UInt8 × β)} (h : (kvs.map (·.1)).Nodup) : (keysS kvs).Pairwise (· < ·) := by
  have h1 := keysS_sorted kvs
  have h2 : (keysS kvs).Nodup := (keysS_perm kvs).nodup_iff.2 h
  refine (h1.and h2).imp fun {a b} ⟨x, y⟩ => ?_
  rcases List.le_iff_lt_or_eq.1 x with h | h
  · exact h
  · exact absurd h y
/-- Two lists in strict order with the same members are one. -/
theorem strict_eq : ∀ {l m : List (List UInt8)}, l.Pairwise (· < ·) → m.Pairwise (· < ·) → (∀ x, x ∈ l ↔ x ∈ m) → l = m
  | [], [], _, _, _ => rfl
  | [], b :: m, _, _, h => absurd ((h b).2 (by simp)) (by simp)
  | a :: l, [], _, _, h => absurd ((h a).1 (by simp)) (by simp)
  | a :: l, b :: m, hl, hm, h => by
    have hl' := List.pairwise_cons.1 hl
    have hm' := List.pairwise_cons.1 hm
    have hab : a = b := by
      have h1 := (h a).1 (by simp)
      have h2 := (h b).2 (by simp)
      simp only [List.mem_cons] at h1 h2
      rcases h1 with h1 | h1
      · exact h1
      · rcases h2 with h2 | h2
        · exact h2.symm
        · exact absurd (hl'.1 b h2) (List.lt_asymm (hm'.1 a h1))
    subst hab
    refine congrArg _ (strict_eq hl'.2 hm'.2 fun x => ?_)
    have hx := h x
    simp only [List.mem_cons] at hx
    constructor
    · intro hx'
      rcases hx.1 (.inr hx') with e | e
      · subst e; exact absurd (hl'.1 x hx') (List.lt_irrefl _)
      · exact e
    · intro hx'
      rcases hx.2 (.inr hx') with e | e
      · subst e; exact absurd (hm'.1 x hx') (List.lt_irrefl _)
      · exact e
end Go.Proofs.Ytlblpegbgbgliaa

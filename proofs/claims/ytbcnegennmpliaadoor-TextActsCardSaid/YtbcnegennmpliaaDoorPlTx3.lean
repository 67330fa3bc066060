/- A text as a word: the program's and the document's. Conditions: as each says. -/
import Derived.Test.YtbcnegennmpliaaDoorPlTx2
namespace Go.Proofs.YtbcnegennmpliaaDoor
set_option linter.unusedVariables false
set_option linter.unusedSimpArgs false
open Go.RowKit
def encC (c : UInt8) : List UInt8 :=
  if c.toNat = 34 ∨ c.toNat = 92 then [92, c]
  else if plainB c then [c]
  else [92, 120, hexs.getD (c.toNat / 16) 0, hexs.getD (c.toNat % 16) 0]
def headB (s : List UInt8) : Bool := match s with
  | [] => false
  | c :: _ => !decide (c.toNat = 35)
def bareW (s : List UInt8) : Bool := headB s && s.all bareB
def quoteB (s : List UInt8) : List UInt8 := if bareW s then s else 34 :: (s.flatMap encC ++ [34])
theorem encC_len (c : UInt8) : 1 ≤ (encC c).length ∧ (encC c).length ≤ 4 := by
  unfold encC
  split
  · simp
  · split <;> simp
theorem enc_len : ∀ s : List UInt8, (s.flatMap encC).length ≤ 4 * s.length
  | [] => by simp
  | c :: s => by
    have := enc_len s
    have := encC_len c
    simp only [List.flatMap_cons, List.length_append, List.length_cons]; omega
theorem quote_len (s : List UInt8) : (quoteB s).length ≤ 4 * s.length + 2 := by
  unfold quoteB
  have := enc_len s
  split
  · omega
  · simp only [List.length_cons, List.length_append, List.length_nil]; omega
theorem q_l0 {x : List UInt8} (hx : x.length < 2 ^ 40) : ∀ (k : Nat) (z : Bool) (i : Nat), x.length - i < k → i ≤ x.length → text_Quote.l0 x k z (i : Int) = some (z && (x.drop i).all bareB)
  | 0, z, i, h, _ => by omega
  | k + 1, z, i, hk, hi => by
    rw [text_Quote.l0]
    by_cases hlt : i < x.length
    · rw [if_pos (by omega), wi1 (by omega), getD_cons_of hlt]
      simp only [Int.toNat_natCast]
      cases z with
      | true => rw [if_pos rfl, if_pos (by omega), bare_f, Option.bind_some, Option.bind_some, q_l0 hx k _ (i + 1) (by omega) (by omega)]; simp
      | false => rw [if_neg (by simp), Option.bind_some, q_l0 hx k _ (i + 1) (by omega) (by omega)]; simp
    · rw [if_neg (by omega), List.drop_of_length_le (by omega)]; simp
theorem qD_l0 {x : List UInt8} (hx : x.length < 2 ^ 40) : ∀ (k : Nat) (z : Bool) (i : Nat), x.length - i < k → i ≤ x.length → synodref17_Quote.l0 x k z (i : Int) = some (z && (x.drop i).all bareB)
  | 0, z, i, h, _ => by omega
  | k + 1, z, i, hk, hi => by
    rw [synodref17_Quote.l0]
    by_cases hlt : i < x.length
    · rw [if_pos (by omega), wi1 (by omega), getD_cons_of hlt]
      simp only [Int.toNat_natCast]
      cases z with
      | true => rw [if_pos rfl, if_pos (by omega), bareD_f, Option.bind_some, Option.bind_some, qD_l0 hx k _ (i + 1) (by omega) (by omega)]; simp
      | false => rw [if_neg (by simp), Option.bind_some, qD_l0 hx k _ (i + 1) (by omega) (by omega)]; simp
    · rw [if_neg (by omega), List.drop_of_length_le (by omega)]; simp
theorem q_l1 {x : List UInt8} (hx : x.length < 2 ^ 40) : ∀ (k : Nat) (z : List UInt8) (i : Nat), x.length - i < k → i ≤ x.length → z.length ≤ 4 * i + 1 → text_Quote.l1 x k z (i : Int) = some (z ++ (x.drop i).flatMap encC)
  | 0, z, i, h, _, _ => by omega
  | k + 1, z, i, hk, hi, hz => by
    rw [text_Quote.l1]
    by_cases hlt : i < x.length
    · rw [if_pos (by omega), if_pos (by omega), wi1 (by omega), getD_cons_of hlt, List.flatMap_cons]
      simp only [Int.toNat_natCast]
      obtain ⟨c, hc⟩ : ∃ c, x.getD i 0 = c := ⟨_, rfl⟩
      simp only [hc]
      rw [encC]
      by_cases h1 : c.toNat = 34 ∨ c.toNat = 92
      · rw [if_pos (by simp; omega), if_pos (by simp; omega), if_pos h1, q_l1 hx k _ (i + 1) (by omega) (by omega) (by simp; omega), List.append_assoc]
      · rw [if_neg (by simp; omega), if_neg h1, plain_f, Option.bind_some]
        cases hp : plainB c with
        | true => rw [if_pos rfl, if_pos rfl, if_pos (by simp; omega), q_l1 hx k _ (i + 1) (by omega) (by omega) (by simp; omega), List.append_assoc]
        | false =>
          have hc := UInt8.toNat_lt c
          have e1 : Int.tdiv (c.toNat : Int) 16 = ((c.toNat / 16 : Nat) : Int) := by rw [Int.tdiv_eq_ediv_of_nonneg (by omega)]; simp
          have e2 : Int.tmod (c.toNat : Int) 16 = ((c.toNat % 16 : Nat) : Int) := by rw [Int.tmod_eq_emod_of_nonneg (by omega)]; simp
          rw [if_neg Bool.false_ne_true, e1, e2, w8 (by omega) (by omega)]
          simp only [Int.toNat_natCast]
          rw [if_pos (by simp; omega), if_pos (by simp; omega), if_pos (by simp; omega), if_neg Bool.false_ne_true, q_l1 hx k _ (i + 1) (by omega) (by omega) (by simp; omega), List.append_assoc]
    · rw [if_neg (by omega), List.drop_of_length_le (by omega)]; simp
theorem quote_f {x : List UInt8} {k : Nat} (hx : x.length < 2 ^ 40) (hk : x.length < k) : text_Quote.f k x = some (quoteB x) := by
  unfold text_Quote.f
  have e0 : (if x = ([] : List UInt8) then (some false) else (if 0 ≤ (0 : Int) ∧ (0 : Int) < (x.length : Int) then (some (!decide (((x.getD (0 : Int).toNat 0).toNat : Int) = (35 : Int)))) else none)) = some (headB x) := by
    cases x with
    | nil => rfl
    | cons c t =>
      rw [if_neg (by simp), if_pos (by simp)]
      simp only [show (0 : Int).toNat = 0 from rfl, List.getD_cons_zero]
      show some (!decide ((c.toNat : Int) = 35)) = some (!decide (c.toNat = 35))
      congr 3; exact propext (by omega)
  have e1 := fun z => q_l0 hx k z 0 (by omega) (by omega)
  have e2 := q_l1 hx k [34] 0 (by omega) (by omega) (by simp)
  have := enc_len x
  simp only [List.drop_zero] at e1 e2
  rw [e0, Option.bind_some]
  rw [show (0 : Int) = ((0 : Nat) : Int) from rfl, e1, Option.bind_some, e2, Option.bind_some]
  unfold quoteB bareW
  by_cases hw : (headB x && x.all bareB) = true
  · rw [if_pos hw, if_pos hw]
  · rw [if_neg hw, if_neg hw, if_pos (by simp only [List.length_append, List.length_cons, List.length_nil]; omega)]; simp
theorem qD_l1 {x : List UInt8} (hx : x.length < 2 ^ 40) : ∀ (k : Nat) (z : List UInt8) (i : Nat), x.length - i < k → i ≤ x.length → z.length ≤ 4 * i + 1 → synodref17_Quote.l1 x k z (i : Int) = some (z ++ (x.drop i).flatMap encC)
  | 0, z, i, h, _, _ => by omega
  | k + 1, z, i, hk, hi, hz => by
    rw [synodref17_Quote.l1]
    by_cases hlt : i < x.length
    · rw [if_pos (by omega), if_pos (by omega), wi1 (by omega), getD_cons_of hlt, List.flatMap_cons]
      simp only [Int.toNat_natCast]
      obtain ⟨c, hc⟩ : ∃ c, x.getD i 0 = c := ⟨_, rfl⟩
      simp only [hc]
      rw [encC, plainD_f, Option.bind_some]
      by_cases h1 : c.toNat = 34 ∨ c.toNat = 92
      · rw [if_neg (by rcases h1 with h1 | h1 <;> simp [h1]), if_pos (by simp; omega), if_pos (by simp; omega), if_pos h1, qD_l1 hx k _ (i + 1) (by omega) (by omega) (by simp; omega), List.append_assoc]
      · have h2 : decide (c.toNat = 34) = false := decide_eq_false fun e => h1 (.inl e)
        have h3 : decide (c.toNat = 92) = false := decide_eq_false fun e => h1 (.inr e)
        rw [if_neg h1, h2, h3]
        cases hp : plainB c with
        | true => rw [if_pos (by rfl), if_pos rfl, if_pos (by simp; omega), qD_l1 hx k _ (i + 1) (by omega) (by omega) (by simp; omega), List.append_assoc]
        | false =>
          have hc := UInt8.toNat_lt c
          have e1 : Int.tdiv (c.toNat : Int) 16 = ((c.toNat / 16 : Nat) : Int) := by rw [Int.tdiv_eq_ediv_of_nonneg (by omega)]; simp
          have e2 : Int.tmod (c.toNat : Int) 16 = ((c.toNat % 16 : Nat) : Int) := by rw [Int.tmod_eq_emod_of_nonneg (by omega)]; simp
          have hd : ∀ n : Nat, n < 16 → synodref17_digit.f (n : Int) = some ((hexs.getD n 0).toNat : Int) := fun n hn => by
            unfold synodref17_digit.f
            rw [if_pos (by simp; omega)]
            rfl
          have hb : ∀ b : UInt8, 0 ≤ (b.toNat : Int) ∧ (b.toNat : Int) < 256 := fun b => by have := UInt8.toNat_lt b; omega
          rw [if_neg (by simp), if_neg (by simp; omega), w64 (n := (c.toNat : Int)) (by omega) (by omega), e1, e2, w64 (by omega) (by omega), hd _ (by omega), Option.bind_some, hd _ (by omega), Option.bind_some, if_pos (hb _), if_pos (hb _), byte_cast, byte_cast, if_pos (by simp; omega), if_neg Bool.false_ne_true, qD_l1 hx k _ (i + 1) (by omega) (by omega) (by simp; omega), List.append_assoc]
    · rw [if_neg (by omega), List.drop_of_length_le (by omega)]; simp
theorem quoteD_f {x : List UInt8} {k : Nat} (hx : x.length < 2 ^ 40) (hk : x.length < k) : synodref17_Quote.f k x = some (quoteB x) := by
  unfold synodref17_Quote.f
  have e0 : (if x = ([] : List UInt8) then (some false) else (if 0 ≤ (0 : Int) ∧ (0 : Int) < (x.length : Int) then (some (!decide (((x.getD (0 : Int).toNat 0).toNat : Int) = (35 : Int)))) else none)) = some (headB x) := by
    cases x with
    | nil => rfl
    | cons c t =>
      rw [if_neg (by simp), if_pos (by simp)]
      simp only [show (0 : Int).toNat = 0 from rfl, List.getD_cons_zero]
      show some (!decide ((c.toNat : Int) = 35)) = some (!decide (c.toNat = 35))
      congr 3; exact propext (by omega)
  have e1 := fun z => qD_l0 hx k z 0 (by omega) (by omega)
  have e2 := qD_l1 hx k [34] 0 (by omega) (by omega) (by simp)
  have := enc_len x
  simp only [List.drop_zero] at e1 e2
  rw [e0, Option.bind_some]
  rw [show (0 : Int) = ((0 : Nat) : Int) from rfl, e1, Option.bind_some, e2, Option.bind_some]
  unfold quoteB bareW
  by_cases hw : (headB x && x.all bareB) = true
  · rw [if_pos hw, if_pos hw]
  · rw [if_neg hw, if_neg hw, if_pos (by simp only [List.length_append, List.length_cons, List.length_nil]; omega)]; simp
end Go.Proofs.YtbcnegennmpliaaDoor

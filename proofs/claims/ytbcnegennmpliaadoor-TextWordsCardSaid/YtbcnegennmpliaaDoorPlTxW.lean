/- The law of any line's words, of any text as a word. Conditions: none. -/
import Derived.Test.YtbcnegennmpliaaDoorPlTx3
namespace Go.Proofs.YtbcnegennmpliaaDoor
set_option linter.unusedVariables false
set_option linter.unusedSimpArgs false
open Go.RowKit
theorem getD_at {α : Type} {l : List α} {i : Nat} {d : α} (h : i < l.length) : l.getD i d = l[i] := by
  rw [List.getD_eq_getElem?_getD, List.getElem?_eq_getElem h]; rfl
theorem texts_loop (x y : List (List UInt8)) (hl : x.length = y.length) (hm : x.length < 2 ^ 62) : ∀ (d i k : Nat), i + d = x.length → d + 1 ≤ k → x.take i = y.take i →
    (orR (synodref_SameTexts.l0 x y k (i : Int)) fun _ => some true) = some (decide (x = y))
  | d, i, 0, _, hk, _ => by omega
  | 0, i, k + 1, hd, hk, ht => by
    simp only [synodref_SameTexts.l0]
    rw [if_neg (by omega)]
    have : x = y := by rwa [List.take_of_length_le (by omega), List.take_of_length_le (by omega)] at ht
    simp [orR, this]
  | d + 1, i, k + 1, hd, hk, ht => by
    simp only [synodref_SameTexts.l0]
    rw [if_pos (by omega), if_pos (by omega), if_pos (by omega)]
    have hix : i < x.length := by omega
    have hiy : i < y.length := by omega
    simp only [Int.toNat_natCast]
    by_cases he : x[i] = y[i]
    · rw [if_pos (by rw [getD_at hix, getD_at hiy, he]), w64 (by omega) (by omega)]
      exact texts_loop x y hl hm d (i + 1) k (by omega) (by omega) (by rw [List.take_succ_eq_append_getElem hix, List.take_succ_eq_append_getElem hiy, ht, he])
    · rw [if_neg (by rw [getD_at hix, getD_at hiy]; exact he)]
      have : x ≠ y := by rintro rfl; exact he rfl
      simp [orR, this]
theorem SameTexts_eq {k : Nat} {x y : List (List UInt8)} (hm : x.length < 2 ^ 62) (hk : x.length + 1 ≤ k) : synodref_SameTexts.f k x y = some (decide (x = y)) := by
  unfold synodref_SameTexts.f
  by_cases h : x.length = y.length
  · rw [if_pos (by omega)]
    exact texts_loop x y h hm x.length 0 k (by omega) hk rfl
  · rw [if_neg (by omega)]
    have : x ≠ y := by rintro rfl; exact h rfl
    simp [this]
theorem first_eq (m : Nat) : synodlaw17_first.f (m + 60) = some true := by kernel_rfl
theorem wd_len : ∀ (n : Nat) (x : List UInt8) (l : List (List UInt8)), wd n x = some l → l.length ≤ x.length
  | n, [], l, h => by rw [wd_nil] at h; cases h; simp
  | 0, c :: t, l, h => by simp [wd] at h
  | n + 1, c :: t, l, h => by
    rw [wd] at h
    split at h
    · have := wd_len n t l h; simp; omega
    split at h
    · cases hq : qd t with
      | none => rw [hq] at h; cases h
      | some p =>
        obtain ⟨a, r⟩ := p
        rw [hq, Option.bind_some] at h
        obtain ⟨q, eq, _⟩ := qd_suf _ _ a r (Nat.le_refl _) hq
        have hlen := congrArg List.length eq
        simp only [List.length_append] at hlen
        split at h
        · cases hw : wd n r with
          | none => rw [hw] at h; cases h
          | some m =>
            rw [hw] at h
            simp only [Option.map_some, Option.some.injEq] at h
            subst h
            have := wd_len n r m hw
            simp; omega
        · cases h
    · split at h
      · rename_i he
        cases hw : wd n ((c :: t).dropWhile bareB) with
        | none => rw [hw] at h; cases h
        | some m =>
          rw [hw] at h
          simp only [Option.map_some, Option.some.injEq] at h
          subst h
          have := wd_len n _ m hw
          have tl := tw_len bareB (c :: t)
          have : 0 < ((c :: t).takeWhile bareB).length := by
            rw [List.takeWhile_cons]
            cases hb : bareB c with
            | true => simp
            | false =>
              rw [List.dropWhile_cons, hb] at he
              rename_i h32 _
              simp [endB, h32] at he
          simp only [List.length_cons] at *
          omega
      · cases h
theorem wordsB_len (x : List UInt8) : (wordsB x).1.length ≤ 4096 := by
  unfold wordsB
  split
  · simp
  · cases h : wd (x.length + 1) x with
    | none => simp [wres]
    | some l =>
      have := wd_len _ _ _ h
      simp [wres]; omega
theorem pure_TextWords (line : List UInt8) (h1 : line.length ≤ reachBytes) (s : List UInt8) (h2 : s.length ≤ reachBytes) : ∃ k, synodlaw17_TextWords.f k line s = some true := by
  refine ⟨50000 + 60, ?_⟩
  unfold synodlaw17_TextWords.f
  rw [first_eq, Option.bind_some]
  by_cases hb : 20000 < line.length ∨ 20000 < s.length
  · rw [if_pos (by simp; omega)]
  · have := wordsB_len line
    rw [if_neg (by simp; omega), words_f (by omega), Option.bind_some, wordsD_f (by omega), Option.bind_some, SameTexts_eq (by omega) (by omega)]
    simp only [Option.bind_some, decide_true, if_true, synodref_Num.f]
    rw [quote_f (by omega) (by omega), quoteD_f (by omega) (by omega)]
    simp
end Go.Proofs.YtbcnegennmpliaaDoor

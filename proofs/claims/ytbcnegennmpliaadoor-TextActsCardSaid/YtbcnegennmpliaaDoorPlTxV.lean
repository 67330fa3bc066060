/- What begins each law; whether two lists of texts are the same. Conditions: as each says. -/
import Derived.Test.YtbcnegennmpliaaDoorPlTx3
namespace Go.Proofs.YtbcnegennmpliaaDoor
set_option linter.unusedVariables false
set_option linter.unusedSimpArgs false
open Go.RowKit
theorem first_eq (m : Nat) : synodlaw17_first.f (m + 60) = some true := by kernel_rfl
theorem wd_len : ∀ (n : Nat) (x : List UInt8) (l : List (List UInt8)), wd n x = some l → l.length ≤ x.length
  | n, [], l, h => by rw [wd_nil] at h; cases h; simp
  | 0, c :: t, l, h => by simp [wd] at h
  | n + 1, c :: t, l, h => by
    rw [wd] at h
    split at h
    · have := wd_len n t l h; simp; omega
    split at h
    · cases hq : qd t with
      | none => rw [hq] at h; cases h
      | some p =>
        obtain ⟨a, r⟩ := p
        rw [hq, Option.bind_some] at h
        obtain ⟨q, eq, _⟩ := qd_suf _ _ a r (Nat.le_refl _) hq
        have hlen := congrArg List.length eq
        simp only [List.length_append] at hlen
        split at h
        · cases hw : wd n r with
          | none => rw [hw] at h; cases h
          | some m =>
            rw [hw] at h
            simp only [Option.map_some, Option.some.injEq] at h
            subst h
            have := wd_len n r m hw
            simp; omega
        · cases h
    · split at h
      · rename_i he
        cases hw : wd n ((c :: t).dropWhile bareB) with
        | none => rw [hw] at h; cases h
        | some m =>
          rw [hw] at h
          simp only [Option.map_some, Option.some.injEq] at h
          subst h
          have := wd_len n _ m hw
          have tl := tw_len bareB (c :: t)
          have : 0 < ((c :: t).takeWhile bareB).length := by
            rw [List.takeWhile_cons]
            cases hb : bareB c with
            | true => simp
            | false =>
              rw [List.dropWhile_cons, hb] at he
              rename_i h32 _
              simp [endB, h32] at he
          simp only [List.length_cons] at *
          omega
      · cases h
theorem wordsB_len (x : List UInt8) : (wordsB x).1.length ≤ 4096 := by
  unfold wordsB
  split
  · simp
  · cases h : wd (x.length + 1) x with
    | none => simp [wres]
    | some l =>
      have := wd_len _ _ _ h
      simp [wres]; omega
end Go.Proofs.YtbcnegennmpliaaDoor

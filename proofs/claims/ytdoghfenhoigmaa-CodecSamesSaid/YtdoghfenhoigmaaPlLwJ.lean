/- One text, one message. Conditions: as it says. -/
import Derived.Test.YtdoghfenhoigmaaPlLwH0
namespace Go.Proofs.Ytdoghfenhoigmaa
set_option linter.unusedVariables false
set_option linter.unusedSimpArgs false
open Go.RowKit
/-- Two good messages with one text are one. -/
theorem txM_inj {m n : Msg} (h : chkM m = 0) (h2 : chkM n = 0) (e : txM m = txM n) : m = n := by
  have a := getM_tx h []
  have b := getM_tx h2 []
  rw [e, b] at a
  simp at a
  exact a.symm
theorem txM_pos {m : Msg} (h : chkM m = 0) : 0 < (txM m).length := by
  by_cases h0 : (txM m).length = 0
  · have a := getM_tx h []
    rw [List.length_eq_zero_iff.1 h0] at a
    have h9 : (getM ([] ++ [])).2 = 0 := by rw [a]; simp
    exact absurd h9 (by decide)
  · omega
/-- A front of a good text is none, nor is it with more behind. -/
theorem getM_front {m : Msg} (h : chkM m = 0) {c : Nat} (hc : c < (txM m).length) : (getM ((txM m).take c)).2 ≠ 0 := by
  intro h0
  obtain ⟨h1, h2⟩ := getM_rev h0
  have a := getM_tx h []
  have b := getM_tx h1 ((txM m).drop c)
  rw [h2, List.take_append_drop, if_neg (by intro h3; have := congrArg List.length h3; simp at this; omega)] at b
  rw [List.append_nil, b, if_pos rfl] at a
  have := congrArg Prod.snd a
  simp at this
theorem getM_more {m : Msg} (h : chkM m = 0) {r : List UInt8} (hr : r ≠ []) : (getM (txM m ++ r)).2 ≠ 0 := by
  rw [getM_tx h, if_neg hr]; decide
end Go.Proofs.Ytdoghfenhoigmaa

/- The law of acts of lines, of lines of acts. Conditions: none. -/
import Derived.Test.YtbcnegennmpliaaDoorPlTxB
import Derived.Test.YtbcnegennmpliaaDoorPlTxV
namespace Go.Proofs.YtbcnegennmpliaaDoor
set_option linter.unusedVariables false
set_option linter.unusedSimpArgs false
open Go.RowKit
theorem i64_of {x : Int} (h : okI .i64 x) : -9223372036854775808 ≤ x ∧ x ≤ 9223372036854775807 := by
  have e1 : IntKind.i64.min = -9223372036854775808 := by decide
  have e2 : IntKind.i64.max = 9223372036854775807 := by decide
  unfold okI at h
  rw [e1, e2] at h
  exact h
theorem actOk_of {a : ActT} (h1 : okI .i64 a.2.1) (h2 : okI .i64 a.2.2.1) (h3 : okI .i64 a.2.2.2.1) (h4 : okI .i64 a.2.2.2.2.1) (t1 : a.2.2.2.2.2.2.1.length ≤ 20000) (t2 : a.2.2.2.2.2.2.2.1.length ≤ 20000) (t3 : a.2.2.2.2.2.2.2.2.length ≤ 20000) : ActOk a := by
  have := i64_of h1
  have := i64_of h2
  have := i64_of h3
  have := i64_of h4
  refine ⟨fun l => ?_, fun l => ?_⟩
  · unfold numOf; repeat' split
    all_goals assumption
  · unfold txtOf; repeat' split
    all_goals assumption
theorem pure_TextActs (line : List UInt8) (hl : line.length ≤ reachBytes) (a0 a1 a2 a3 a4 a5 : Int) (a6 a7 a8 : List UInt8)
    (h : okI .i64 a0 ∧ okI .i64 a1 ∧ okI .i64 a2 ∧ okI .i64 a3 ∧ okI .i64 a4 ∧ okI .i64 a5 ∧ a6.length ≤ reachBytes ∧ a7.length ≤ reachBytes ∧ a8.length ≤ reachBytes) :
    ∃ k, synodlaw17_TextActs.f k line a0 a1 a2 a3 a4 a5 a6 a7 a8 = some true := by
  refine ⟨60000 + 60, ?_⟩
  unfold synodlaw17_TextActs.f
  rw [first_eq, Option.bind_some]
  by_cases hb : (((((!true) || (decide ((20000 : Int) < (line.length : Int)))) || (decide ((20000 : Int) < (a6.length : Int)))) || (decide ((20000 : Int) < (a7.length : Int)))) || (decide ((20000 : Int) < (a8.length : Int)))) = true
  · rw [if_pos hb]
  · rw [if_neg hb]
    simp only [Bool.not_true, Bool.false_or, Bool.or_eq_true, decide_eq_true_eq, not_or] at hb
    have hw := wordsB_len line
    have ok : ActOk (a0, a1, a2, a3, a4, a5, a6, a7, a8) := actOk_of h.2.1 h.2.2.1 h.2.2.2.1 h.2.2.2.2.1 (by simp only []; omega) (by simp only []; omega) (by simp only []; omega)
    have f1 := format_f ok (i64_of h.2.2.2.2.2.1) (k := 60000 + 60) (by omega)
    have f2 := formatD_f ok (k := 60000 + 60) (by omega)
    simp only [] at f1 f2
    rw [parse_f hw (by omega), Option.bind_some, parseD_f hw (by omega), Option.bind_some, f1, Option.bind_some, synodlaw15_Act.f, Option.bind_some, f2, Option.bind_some]
    simp [l0res, fl, synodlaw17_back.v, synodlaw17_back.f, synodref_Num.v, synodref_Num.f]
end Go.Proofs.YtbcnegennmpliaaDoor

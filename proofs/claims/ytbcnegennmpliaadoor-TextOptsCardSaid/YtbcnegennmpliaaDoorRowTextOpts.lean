/- The row of the law TextOpts, out of its pure law and the printed walk. Conditions: none. -/
import Derived.Test.YtbcnegennmpliaaDoorM9
import Derived.Test.YtbcnegennmpliaaDoorRows
import Derived.ProofKit
import Derived.OpenShut
import Derived.ShutString
import Derived.ChangeOld
import Derived.SizedLaws
import Derived.Deep.CondSized
import Derived.JoinedCond
import Derived.Lib.LaidTab
import Derived.Deep.DeepHandedRow
import Derived.Lay
import Derived.MakeChecks
import Derived.Test.YtbcnegennmpliaaDoorCards
import Derived.Test.YtbcnegennmpliaaDoorTie
namespace Go.Proofs.YtbcnegennmpliaaDoor
set_option linter.unusedVariables false
set_option linter.unusedSimpArgs false
open Go.RowKit
def numM (x : List UInt8) : Option Int := match text_number.f x with
  | some (n, true) => some n
  | _ => none
theorem num_p {x : List UInt8} (hx : x.length ≤ 2 ^ 40) : ∃ n, text_number.f x = some (match numM x with | some v => (v, true) | none => (n, false)) := by
  obtain ⟨n, ok, h1, h2, h3⟩ := number_f hx
  refine ⟨n, ?_⟩
  unfold numM
  rw [h1]
  cases ok <;> rfl
theorem num_d {x : List UInt8} {k : Nat} (hx : x.length ≤ 2 ^ 40) (hk : x.length + 2 < k) : ∃ n, synodref17_number.f k x = some (match numM x with | some v => (v, true) | none => (n, false)) := by
  obtain ⟨n, m, ok, h1, h2, h3, h4⟩ := number_same hx hk
  refine ⟨m, ?_⟩
  unfold numM
  rw [h1, h2]
  cases ok with
  | true => simp only []; rw [(h3 rfl).1]
  | false => rfl
theorem i64_of {x : Int} (h : okI .i64 x) : -9223372036854775808 ≤ x ∧ x ≤ 9223372036854775807 := by
  have e1 : IntKind.i64.min = -9223372036854775808 := by decide
  have e2 : IntKind.i64.max = 9223372036854775807 := by decide
  unfold okI at h
  rw [e1, e2] at h
  exact h
theorem itoa_len {n : Int} (h0 : -9223372036854775808 ≤ n) (h1 : n ≤ 9223372036854775807) : (Lib.itoa n).length ≤ 21 := by
  by_cases hn : n < 0
  · rw [itoa_neg' hn]; have := dec_len 19 n.natAbs (by omega); simp; omega
  · rw [itoa_pos (by omega)]; have := dec_len 19 n.toNat (by omega); omega
theorem wd_mem : ∀ (n : Nat) (x : List UInt8) (l : List (List UInt8)), wd n x = some l → ∀ w, w ∈ l → w.length ≤ x.length
  | n, [], l, h => by rw [wd_nil] at h; cases h; intro w hw; cases hw
  | 0, c :: t, l, h => by simp [wd] at h
  | n + 1, c :: t, l, h => by
    rw [wd] at h
    split at h
    · intro w hw; have := wd_mem n t l h w hw; simp; omega
    split at h
    · cases hq : qd t with
      | none => rw [hq] at h; cases h
      | some p =>
        obtain ⟨a, r⟩ := p
        rw [hq, Option.bind_some] at h
        obtain ⟨q, eq, hal⟩ := qd_suf _ _ a r (Nat.le_refl _) hq
        have hlen := congrArg List.length eq
        simp only [List.length_append] at hlen
        split at h
        · cases hw : wd n r with
          | none => rw [hw] at h; cases h
          | some m =>
            rw [hw] at h
            simp only [Option.map_some, Option.some.injEq] at h
            subst h
            intro w hm
            rcases List.mem_cons.1 hm with rfl | hm
            · simp; omega
            · have := wd_mem n r m hw w hm
              simp; omega
        · cases h
    · split at h
      · cases hw : wd n ((c :: t).dropWhile bareB) with
        | none => rw [hw] at h; cases h
        | some m =>
          rw [hw] at h
          simp only [Option.map_some, Option.some.injEq] at h
          subst h
          have tl := tw_len bareB (c :: t)
          intro w hm
          rcases List.mem_cons.1 hm with rfl | hm
          · omega
          · have := wd_mem n _ m hw w hm
            omega
      · cases h
theorem wordsB_mem (x : List UInt8) : ∀ w, w ∈ (wordsB x).1 → w.length ≤ 4096 := by
  unfold wordsB
  split
  · intro w hw; cases hw
  · cases h : wd (x.length + 1) x with
    | none => intro w hw; simp [wres] at hw
    | some l =>
      intro w hw
      simp only [wres, List.nil_append] at hw
      have := wd_mem _ _ _ h w hw
      omega
abbrev okN (n : Int) : Prop := -9223372036854775808 ≤ n ∧ n ≤ 9223372036854775807
def numsW (l : List Int) : List UInt8 := l.flatMap fun n => [32] ++ Lib.itoa n
end Go.Proofs.YtbcnegennmpliaaDoor

namespace Go.Proofs.YtbcnegennmpliaaDoor
set_option linter.unusedVariables false
set_option linter.unusedSimpArgs false
open Go.RowKit
abbrev worldW : List UInt8 := [119, 111, 114, 108, 100]
def goO (ws : List (List UInt8)) : Nat → List Int → List Int ⊕ Unit
  | 0, acc => .inl acc
  | r + 1, acc => match numM (ws.getD (18 - r) []) with
    | none => .inr ()
    | some n => if r = 0 ∧ n ≠ 0 then .inr () else goO ws r (acc ++ [n])
abbrev OptT : Type := Int × Int × Int × Int × Int × Int × Int × Int × Int × Int × Int × Int × Int × Int × Int × Int × Int × Int × Int × Int
def optE (e : Int) : OptT := (0, 0, 0, 0, 0, 0, 0, 0, 0, 0, 0, 0, 0, 0, 0, 0, 0, 0, 0, e)
def optL (l : List Int) : OptT := (l.getD 0 0, l.getD 1 0, 0, 0, l.getD 2 0, l.getD 3 0, l.getD 4 0, l.getD 5 0, l.getD 6 0, l.getD 7 0, l.getD 8 0, l.getD 9 0, l.getD 10 0, l.getD 11 0, l.getD 12 0, l.getD 13 0, l.getD 14 0, l.getD 15 0, l.getD 16 0, 0)
def parseO (x : List UInt8) : OptT :=
  if (wordsB x).2 = 0 then
    if (wordsB x).1 = [] ∨ (wordsB x).1.getD 0 [] ≠ worldW then optE 20
    else if (wordsB x).1.length = 19 then match goO (wordsB x).1 18 [] with
      | .inl l => optL l
      | .inr _ => optE 22
    else optE 21
  else optE (wordsB x).2
theorem goO_len (ws : List (List UInt8)) : ∀ (r : Nat) (acc l : List Int), goO ws r acc = .inl l → l.length = acc.length + r
  | 0, acc, l, h => by cases h; rfl
  | r + 1, acc, l, h => by
    rw [goO] at h
    cases hn : numM (ws.getD (18 - r) []) with
    | none => rw [hn] at h; cases h
    | some n =>
      rw [hn] at h
      simp only [] at h
      split at h
      · cases h
      · have := goO_len ws r _ l h
        simp at this
        omega
theorem optsD_l0 {ws : List (List UInt8)} {e : Int} (hl : ws.length = 19) (hw : ∀ w, w ∈ ws → w.length ≤ 4096) : ∀ (k r : Nat) (acc : List Int), 5000 + r < k → r ≤ 18 → acc.length + r ≤ 18 →
    synodref17_ParseOpts.l0 (ws, e) k acc ((19 - r : Nat) : Int) = some (match goO ws r acc with | .inl l => .inl l | .inr _ => .inr (optE 22))
  | 0, r, acc, h, _, _ => by omega
  | k + 1, 0, acc, h, _, _ => by
    rw [synodref17_ParseOpts.l0, if_neg (by omega)]
    rfl
  | k + 1, r + 1, acc, h, hr, ha => by
    have hlt : 19 - (r + 1) < ws.length := by omega
    have hm : ws.getD (19 - (r + 1)) [] ∈ ws := by rw [getD_at hlt]; exact List.getElem_mem hlt
    have hwl := hw _ hm
    obtain ⟨q, hq⟩ := num_d (x := ws.getD (19 - (r + 1)) []) (k := k) (by omega) (by omega)
    rw [synodref17_ParseOpts.l0, if_pos (by omega), if_pos (show 0 ≤ ((19 - (r + 1) : Nat) : Int) ∧ ((19 - (r + 1) : Nat) : Int) < (ws.length : Int) by omega), wi1 (by omega)]
    simp only [Int.toNat_natCast]
    rw [hq, Option.bind_some, goO, show 18 - r = 19 - (r + 1) by omega]
    cases hn : numM (ws.getD (19 - (r + 1)) []) with
    | none => rfl
    | some n =>
      simp only [Bool.not_true, Bool.false_eq_true, if_false, Option.bind_some]
      have e1 : ((((19 - (r + 1) : Nat) : Int) = 18) ∧ n ≠ 0) ↔ (r = 0 ∧ n ≠ 0) := by omega
      by_cases hc : r = 0 ∧ n ≠ 0
      · rw [if_pos (by rw [decide_eq_true (e1.2 hc).1, decide_eq_false hc.2]; rfl), if_pos hc]
        rfl
      · rw [if_neg (by intro h; simp only [Bool.and_eq_true, decide_eq_true_eq, Bool.not_eq_true', decide_eq_false_iff_not] at h; exact hc (e1.1 h)), if_neg hc, if_pos (by simp only [List.length_cons, List.length_nil]; omega)]
        rw [show 19 - (r + 1) + 1 = 19 - r by omega]
        exact optsD_l0 hl hw k r (acc ++ [n]) (by omega) (by omega) (by simp; omega)
theorem parseOD_f {x : List UInt8} {k : Nat} (hk : 2 * x.length + 9000 < k) : synodref17_ParseOpts.f k x = some (parseO x) := by
  unfold synodref17_ParseOpts.f parseO
  rw [wordsD_f (by omega), Option.bind_some]
  by_cases h : (wordsB x).2 = 0
  · rw [if_pos h, if_pos h]
    obtain ⟨ws, hws⟩ : ∃ ws, (wordsB x).1 = ws := ⟨_, rfl⟩
    have hwm := wordsB_mem x
    rw [hws] at hwm ⊢
    have e7 : (if (ws.length : Int) = (0 : Int) then (some true) else (if 0 ≤ (0 : Int) ∧ (0 : Int) < (ws.length : Int) then (some (!decide ((ws.getD (0 : Int).toNat ([] : List UInt8)) = ([119, 111, 114, 108, 100] : List UInt8)))) else none)) = some (decide (ws = [] ∨ ws.getD 0 [] ≠ worldW)) := by
      cases ws with
      | nil => rfl
      | cons w t =>
        rw [if_neg (by simp; omega), if_pos (by simp)]
        simp
    rw [e7, Option.bind_some]
    by_cases h7 : ws = [] ∨ ws.getD 0 [] ≠ worldW
    · rw [if_pos (decide_eq_true h7), if_pos h7]; rfl
    · rw [if_neg (by simpa using h7), if_neg h7]
      by_cases h19 : ws.length = 19
      · rw [if_pos (by omega), if_pos h19]
        have l0 := optsD_l0 (e := (wordsB x).2) h19 hwm k 18 [] (by omega) (by omega) (by simp)
        rw [show ((19 - 18 : Nat) : Int) = (1 : Int) from rfl] at l0
        rw [show synodref17_ParseOpts.l0 (wordsB x) k [] 1 = synodref17_ParseOpts.l0 (ws, (wordsB x).2) k [] 1 by rw [← hws], l0]
        cases hg : goO ws 18 [] with
        | inr u => rfl
        | inl l =>
          have hl := goO_len ws 18 [] l hg
          simp only [List.length_nil, Nat.zero_add] at hl
          simp only [orR]
          rw [hl]
          rfl
      · rw [if_neg (by omega), if_neg h19]; rfl
  · rw [if_neg h, if_neg h]; rfl
theorem parseO_f {x : List UInt8} {k : Nat} (hk : 2 * x.length + 9000 < k) : text_ParseOpts.f k x = some (parseO x) := by
  unfold text_ParseOpts.f parseO
  rw [words_f (by omega), Option.bind_some]
  by_cases h : (wordsB x).2 = 0
  · rw [if_pos h, if_pos h]
    obtain ⟨ws, hws⟩ : ∃ ws, (wordsB x).1 = ws := ⟨_, rfl⟩
    have hwm := wordsB_mem x
    rw [hws] at hwm ⊢
    have e7 : (if (ws.length : Int) = (0 : Int) then (some true) else (if 0 ≤ (0 : Int) ∧ (0 : Int) < (ws.length : Int) then (some (!decide ((ws.getD (0 : Int).toNat ([] : List UInt8)) = ([119, 111, 114, 108, 100] : List UInt8)))) else none)) = some (decide (ws = [] ∨ ws.getD 0 [] ≠ worldW)) := by
      cases ws with
      | nil => rfl
      | cons w t =>
        rw [if_neg (by simp; omega), if_pos (by simp)]
        simp
    rw [e7, Option.bind_some]
    by_cases h7 : ws = [] ∨ ws.getD 0 [] ≠ worldW
    · rw [if_pos (decide_eq_true h7), if_pos h7]; rfl
    · rw [if_neg (by simpa using h7), if_neg h7, text_options.f, Option.bind_some]
      by_cases h19 : ws.length = 19
      · rw [if_pos (by omega), if_pos h19]
        have hn : ∀ i, i < 19 → ∃ n, text_number.f (ws.getD i []) = some (match numM (ws.getD i []) with | some v => (v, true) | none => (n, false)) := fun i hi => num_p (by
          have := hwm (ws.getD i []) (by rw [getD_at (by omega)]; exact List.getElem_mem (by omega))
          omega)
        have hb : ∀ i : Int, 0 ≤ i → i < 19 → 0 ≤ i ∧ i < (ws.length : Int) := fun i h0 h1 => by omega
        obtain ⟨q1, hq1⟩ := hn 1 (by omega)
        rw [if_pos (hb 1 (by omega) (by omega)), show (1 : Int).toNat = 1 from rfl, hq1, Option.bind_some, goO, show 18 - 17 = 1 from rfl]
        cases hm1 : numM (ws.getD 1 []) with
        | none => rfl
        | some n1 =>
          simp only [Bool.not_true, Bool.false_eq_true, if_false, Option.bind_some, List.nil_append, List.cons_append]
          rw [if_neg (show ¬ ((17 : Nat) = 0 ∧ n1 ≠ 0) by omega)]
          obtain ⟨q2, hq2⟩ := hn 2 (by omega)
          rw [if_pos (hb 2 (by omega) (by omega)), show (2 : Int).toNat = 2 from rfl, hq2, Option.bind_some, goO, show 18 - 16 = 2 from rfl]
          cases hm2 : numM (ws.getD 2 []) with
          | none => rfl
          | some n2 =>
            simp only [Bool.not_true, Bool.false_eq_true, if_false, Option.bind_some, List.nil_append, List.cons_append]
            rw [if_neg (show ¬ ((16 : Nat) = 0 ∧ n2 ≠ 0) by omega)]
            obtain ⟨q3, hq3⟩ := hn 3 (by omega)
            rw [if_pos (hb 3 (by omega) (by omega)), show (3 : Int).toNat = 3 from rfl, hq3, Option.bind_some, goO, show 18 - 15 = 3 from rfl]
            cases hm3 : numM (ws.getD 3 []) with
            | none => rfl
            | some n3 =>
              simp only [Bool.not_true, Bool.false_eq_true, if_false, Option.bind_some, List.nil_append, List.cons_append]
              rw [if_neg (show ¬ ((15 : Nat) = 0 ∧ n3 ≠ 0) by omega)]
              obtain ⟨q4, hq4⟩ := hn 4 (by omega)
              rw [if_pos (hb 4 (by omega) (by omega)), show (4 : Int).toNat = 4 from rfl, hq4, Option.bind_some, goO, show 18 - 14 = 4 from rfl]
              cases hm4 : numM (ws.getD 4 []) with
              | none => rfl
              | some n4 =>
                simp only [Bool.not_true, Bool.false_eq_true, if_false, Option.bind_some, List.nil_append, List.cons_append]
                rw [if_neg (show ¬ ((14 : Nat) = 0 ∧ n4 ≠ 0) by omega)]
                obtain ⟨q5, hq5⟩ := hn 5 (by omega)
                rw [if_pos (hb 5 (by omega) (by omega)), show (5 : Int).toNat = 5 from rfl, hq5, Option.bind_some, goO, show 18 - 13 = 5 from rfl]
                cases hm5 : numM (ws.getD 5 []) with
                | none => rfl
                | some n5 =>
                  simp only [Bool.not_true, Bool.false_eq_true, if_false, Option.bind_some, List.nil_append, List.cons_append]
                  rw [if_neg (show ¬ ((13 : Nat) = 0 ∧ n5 ≠ 0) by omega)]
                  obtain ⟨q6, hq6⟩ := hn 6 (by omega)
                  rw [if_pos (hb 6 (by omega) (by omega)), show (6 : Int).toNat = 6 from rfl, hq6, Option.bind_some, goO, show 18 - 12 = 6 from rfl]
                  cases hm6 : numM (ws.getD 6 []) with
                  | none => rfl
                  | some n6 =>
                    simp only [Bool.not_true, Bool.false_eq_true, if_false, Option.bind_some, List.nil_append, List.cons_append]
                    rw [if_neg (show ¬ ((12 : Nat) = 0 ∧ n6 ≠ 0) by omega)]
                    obtain ⟨q7, hq7⟩ := hn 7 (by omega)
                    rw [if_pos (hb 7 (by omega) (by omega)), show (7 : Int).toNat = 7 from rfl, hq7, Option.bind_some, goO, show 18 - 11 = 7 from rfl]
                    cases hm7 : numM (ws.getD 7 []) with
                    | none => rfl
                    | some n7 =>
                      simp only [Bool.not_true, Bool.false_eq_true, if_false, Option.bind_some, List.nil_append, List.cons_append]
                      rw [if_neg (show ¬ ((11 : Nat) = 0 ∧ n7 ≠ 0) by omega)]
                      obtain ⟨q8, hq8⟩ := hn 8 (by omega)
                      rw [if_pos (hb 8 (by omega) (by omega)), show (8 : Int).toNat = 8 from rfl, hq8, Option.bind_some, goO, show 18 - 10 = 8 from rfl]
                      cases hm8 : numM (ws.getD 8 []) with
                      | none => rfl
                      | some n8 =>
                        simp only [Bool.not_true, Bool.false_eq_true, if_false, Option.bind_some, List.nil_append, List.cons_append]
                        rw [if_neg (show ¬ ((10 : Nat) = 0 ∧ n8 ≠ 0) by omega)]
                        obtain ⟨q9, hq9⟩ := hn 9 (by omega)
                        rw [if_pos (hb 9 (by omega) (by omega)), show (9 : Int).toNat = 9 from rfl, hq9, Option.bind_some, goO, show 18 - 9 = 9 from rfl]
                        cases hm9 : numM (ws.getD 9 []) with
                        | none => rfl
                        | some n9 =>
                          simp only [Bool.not_true, Bool.false_eq_true, if_false, Option.bind_some, List.nil_append, List.cons_append]
                          rw [if_neg (show ¬ ((9 : Nat) = 0 ∧ n9 ≠ 0) by omega)]
                          obtain ⟨q10, hq10⟩ := hn 10 (by omega)
                          rw [if_pos (hb 10 (by omega) (by omega)), show (10 : Int).toNat = 10 from rfl, hq10, Option.bind_some, goO, show 18 - 8 = 10 from rfl]
                          cases hm10 : numM (ws.getD 10 []) with
                          | none => rfl
                          | some n10 =>
                            simp only [Bool.not_true, Bool.false_eq_true, if_false, Option.bind_some, List.nil_append, List.cons_append]
                            rw [if_neg (show ¬ ((8 : Nat) = 0 ∧ n10 ≠ 0) by omega)]
                            obtain ⟨q11, hq11⟩ := hn 11 (by omega)
                            rw [if_pos (hb 11 (by omega) (by omega)), show (11 : Int).toNat = 11 from rfl, hq11, Option.bind_some, goO, show 18 - 7 = 11 from rfl]
                            cases hm11 : numM (ws.getD 11 []) with
                            | none => rfl
                            | some n11 =>
                              simp only [Bool.not_true, Bool.false_eq_true, if_false, Option.bind_some, List.nil_append, List.cons_append]
                              rw [if_neg (show ¬ ((7 : Nat) = 0 ∧ n11 ≠ 0) by omega)]
                              obtain ⟨q12, hq12⟩ := hn 12 (by omega)
                              rw [if_pos (hb 12 (by omega) (by omega)), show (12 : Int).toNat = 12 from rfl, hq12, Option.bind_some, goO, show 18 - 6 = 12 from rfl]
                              cases hm12 : numM (ws.getD 12 []) with
                              | none => rfl
                              | some n12 =>
                                simp only [Bool.not_true, Bool.false_eq_true, if_false, Option.bind_some, List.nil_append, List.cons_append]
                                rw [if_neg (show ¬ ((6 : Nat) = 0 ∧ n12 ≠ 0) by omega)]
                                obtain ⟨q13, hq13⟩ := hn 13 (by omega)
                                rw [if_pos (hb 13 (by omega) (by omega)), show (13 : Int).toNat = 13 from rfl, hq13, Option.bind_some, goO, show 18 - 5 = 13 from rfl]
                                cases hm13 : numM (ws.getD 13 []) with
                                | none => rfl
                                | some n13 =>
                                  simp only [Bool.not_true, Bool.false_eq_true, if_false, Option.bind_some, List.nil_append, List.cons_append]
                                  rw [if_neg (show ¬ ((5 : Nat) = 0 ∧ n13 ≠ 0) by omega)]
                                  obtain ⟨q14, hq14⟩ := hn 14 (by omega)
                                  rw [if_pos (hb 14 (by omega) (by omega)), show (14 : Int).toNat = 14 from rfl, hq14, Option.bind_some, goO, show 18 - 4 = 14 from rfl]
                                  cases hm14 : numM (ws.getD 14 []) with
                                  | none => rfl
                                  | some n14 =>
                                    simp only [Bool.not_true, Bool.false_eq_true, if_false, Option.bind_some, List.nil_append, List.cons_append]
                                    rw [if_neg (show ¬ ((4 : Nat) = 0 ∧ n14 ≠ 0) by omega)]
                                    obtain ⟨q15, hq15⟩ := hn 15 (by omega)
                                    rw [if_pos (hb 15 (by omega) (by omega)), show (15 : Int).toNat = 15 from rfl, hq15, Option.bind_some, goO, show 18 - 3 = 15 from rfl]
                                    cases hm15 : numM (ws.getD 15 []) with
                                    | none => rfl
                                    | some n15 =>
                                      simp only [Bool.not_true, Bool.false_eq_true, if_false, Option.bind_some, List.nil_append, List.cons_append]
                                      rw [if_neg (show ¬ ((3 : Nat) = 0 ∧ n15 ≠ 0) by omega)]
                                      obtain ⟨q16, hq16⟩ := hn 16 (by omega)
                                      rw [if_pos (hb 16 (by omega) (by omega)), show (16 : Int).toNat = 16 from rfl, hq16, Option.bind_some, goO, show 18 - 2 = 16 from rfl]
                                      cases hm16 : numM (ws.getD 16 []) with
                                      | none => rfl
                                      | some n16 =>
                                        simp only [Bool.not_true, Bool.false_eq_true, if_false, Option.bind_some, List.nil_append, List.cons_append]
                                        rw [if_neg (show ¬ ((2 : Nat) = 0 ∧ n16 ≠ 0) by omega)]
                                        obtain ⟨q17, hq17⟩ := hn 17 (by omega)
                                        rw [if_pos (hb 17 (by omega) (by omega)), show (17 : Int).toNat = 17 from rfl, hq17, Option.bind_some, goO, show 18 - 1 = 17 from rfl]
                                        cases hm17 : numM (ws.getD 17 []) with
                                        | none => rfl
                                        | some n17 =>
                                          simp only [Bool.not_true, Bool.false_eq_true, if_false, Option.bind_some, List.nil_append, List.cons_append]
                                          rw [if_neg (show ¬ ((1 : Nat) = 0 ∧ n17 ≠ 0) by omega)]
                                          obtain ⟨q18, hq18⟩ := hn 18 (by omega)
                                          rw [if_pos (hb 18 (by omega) (by omega)), show (18 : Int).toNat = 18 from rfl, hq18, Option.bind_some, goO, show 18 - 0 = 18 from rfl]
                                          cases hm18 : numM (ws.getD 18 []) with
                                          | none => rfl
                                          | some n18 =>
                                            by_cases h0 : n18 = 0
                                            · subst h0
                                              simp [goO, optL]
                                            · simp [h0, optE]
      · rw [if_neg (by omega), if_neg h19]; rfl
  · rw [if_neg h, if_neg h]; rfl
abbrev nums17 (a0 a1 a2 a3 a4 a5 a6 a7 a8 a9 a10 a11 a12 a13 a14 a15 a16 a17 a18 : Int) : List Int := [a0, a1, a4, a5, a6, a7, a8, a9, a10, a11, a12, a13, a14, a15, a16, a17, a18]
def fmtO (l : List Int) : List UInt8 := worldW ++ (numsW l ++ [32, 48])
theorem fmtO_f (a0 a1 a2 a3 a4 a5 a6 a7 a8 a9 a10 a11 a12 a13 a14 a15 a16 a17 a18 : Int) (h : ∀ n, n ∈ nums17 a0 a1 a2 a3 a4 a5 a6 a7 a8 a9 a10 a11 a12 a13 a14 a15 a16 a17 a18 → okN n) : text_FormatOpts.f a0 a1 a2 a3 a4 a5 a6 a7 a8 a9 a10 a11 a12 a13 a14 a15 a16 a17 a18 = some (fmtO (nums17 a0 a1 a2 a3 a4 a5 a6 a7 a8 a9 a10 a11 a12 a13 a14 a15 a16 a17 a18)) := by
  unfold text_FormatOpts.f
  rw [text_options.f, Option.bind_some]
  have o0 := h a0 (by simp)
  have i0 := itoa_len o0.1 o0.2
  have o1 := h a1 (by simp)
  have i1 := itoa_len o1.1 o1.2
  have o4 := h a4 (by simp)
  have i4 := itoa_len o4.1 o4.2
  have o5 := h a5 (by simp)
  have i5 := itoa_len o5.1 o5.2
  have o6 := h a6 (by simp)
  have i6 := itoa_len o6.1 o6.2
  have o7 := h a7 (by simp)
  have i7 := itoa_len o7.1 o7.2
  have o8 := h a8 (by simp)
  have i8 := itoa_len o8.1 o8.2
  have o9 := h a9 (by simp)
  have i9 := itoa_len o9.1 o9.2
  have o10 := h a10 (by simp)
  have i10 := itoa_len o10.1 o10.2
  have o11 := h a11 (by simp)
  have i11 := itoa_len o11.1 o11.2
  have o12 := h a12 (by simp)
  have i12 := itoa_len o12.1 o12.2
  have o13 := h a13 (by simp)
  have i13 := itoa_len o13.1 o13.2
  have o14 := h a14 (by simp)
  have i14 := itoa_len o14.1 o14.2
  have o15 := h a15 (by simp)
  have i15 := itoa_len o15.1 o15.2
  have o16 := h a16 (by simp)
  have i16 := itoa_len o16.1 o16.2
  have o17 := h a17 (by simp)
  have i17 := itoa_len o17.1 o17.2
  have o18 := h a18 (by simp)
  have i18 := itoa_len o18.1 o18.2
  rw [strconv_Itoa.f, if_pos o0, Option.bind_some, if_pos (by simp only [List.length_append, List.length_cons, List.length_nil]; omega), if_pos (by simp only [List.length_append, List.length_cons, List.length_nil]; omega)]
  rw [strconv_Itoa.f, if_pos o1, Option.bind_some, if_pos (by simp only [List.length_append, List.length_cons, List.length_nil]; omega), if_pos (by simp only [List.length_append, List.length_cons, List.length_nil]; omega)]
  rw [strconv_Itoa.f, if_pos o4, Option.bind_some, if_pos (by simp only [List.length_append, List.length_cons, List.length_nil]; omega), if_pos (by simp only [List.length_append, List.length_cons, List.length_nil]; omega)]
  rw [strconv_Itoa.f, if_pos o5, Option.bind_some, if_pos (by simp only [List.length_append, List.length_cons, List.length_nil]; omega), if_pos (by simp only [List.length_append, List.length_cons, List.length_nil]; omega)]
  rw [strconv_Itoa.f, if_pos o6, Option.bind_some, if_pos (by simp only [List.length_append, List.length_cons, List.length_nil]; omega), if_pos (by simp only [List.length_append, List.length_cons, List.length_nil]; omega)]
  rw [strconv_Itoa.f, if_pos o7, Option.bind_some, if_pos (by simp only [List.length_append, List.length_cons, List.length_nil]; omega), if_pos (by simp only [List.length_append, List.length_cons, List.length_nil]; omega)]
  rw [strconv_Itoa.f, if_pos o8, Option.bind_some, if_pos (by simp only [List.length_append, List.length_cons, List.length_nil]; omega), if_pos (by simp only [List.length_append, List.length_cons, List.length_nil]; omega)]
  rw [strconv_Itoa.f, if_pos o9, Option.bind_some, if_pos (by simp only [List.length_append, List.length_cons, List.length_nil]; omega), if_pos (by simp only [List.length_append, List.length_cons, List.length_nil]; omega)]
  rw [strconv_Itoa.f, if_pos o10, Option.bind_some, if_pos (by simp only [List.length_append, List.length_cons, List.length_nil]; omega), if_pos (by simp only [List.length_append, List.length_cons, List.length_nil]; omega)]
  rw [strconv_Itoa.f, if_pos o11, Option.bind_some, if_pos (by simp only [List.length_append, List.length_cons, List.length_nil]; omega), if_pos (by simp only [List.length_append, List.length_cons, List.length_nil]; omega)]
  rw [strconv_Itoa.f, if_pos o12, Option.bind_some, if_pos (by simp only [List.length_append, List.length_cons, List.length_nil]; omega), if_pos (by simp only [List.length_append, List.length_cons, List.length_nil]; omega)]
  rw [strconv_Itoa.f, if_pos o13, Option.bind_some, if_pos (by simp only [List.length_append, List.length_cons, List.length_nil]; omega), if_pos (by simp only [List.length_append, List.length_cons, List.length_nil]; omega)]
  rw [strconv_Itoa.f, if_pos o14, Option.bind_some, if_pos (by simp only [List.length_append, List.length_cons, List.length_nil]; omega), if_pos (by simp only [List.length_append, List.length_cons, List.length_nil]; omega)]
  rw [strconv_Itoa.f, if_pos o15, Option.bind_some, if_pos (by simp only [List.length_append, List.length_cons, List.length_nil]; omega), if_pos (by simp only [List.length_append, List.length_cons, List.length_nil]; omega)]
  rw [strconv_Itoa.f, if_pos o16, Option.bind_some, if_pos (by simp only [List.length_append, List.length_cons, List.length_nil]; omega), if_pos (by simp only [List.length_append, List.length_cons, List.length_nil]; omega)]
  rw [strconv_Itoa.f, if_pos o17, Option.bind_some, if_pos (by simp only [List.length_append, List.length_cons, List.length_nil]; omega), if_pos (by simp only [List.length_append, List.length_cons, List.length_nil]; omega)]
  rw [strconv_Itoa.f, if_pos o18, Option.bind_some, if_pos (by simp only [List.length_append, List.length_cons, List.length_nil]; omega), if_pos (by simp only [List.length_append, List.length_cons, List.length_nil]; omega)]
  rw [if_pos (by simp only [List.length_append, List.length_cons, List.length_nil]; omega)]
  simp only [fmtO, numsW, List.flatMap_cons, List.flatMap_nil, List.append_assoc, List.cons_append, List.nil_append]
theorem fo_l0 (l : List Int) (hl : ∀ n, n ∈ l → okN n) (hn : l.length ≤ 30) : ∀ (k i : Nat) (w : List UInt8), l.length - i < k → i ≤ l.length → w.length ≤ 100 + i * 100 →
    synodref17_FormatOpts.l0 l k w (i : Int) = some (w ++ numsW (l.drop i))
  | 0, i, w, h, _, _ => by omega
  | k + 1, i, w, h, hi, hw => by
    rw [synodref17_FormatOpts.l0]
    by_cases hlt : i < l.length
    · have hm : l.getD i 0 ∈ l := by rw [getD_at hlt]; exact List.getElem_mem hlt
      have ho := hl _ hm
      have il := itoa_len ho.1 ho.2
      have ed : l.drop i = l.getD i 0 :: l.drop (i + 1) := by rw [getD_at hlt]; exact List.drop_eq_getElem_cons hlt
      rw [if_pos (by omega), if_pos (by simp only [List.length_cons, List.length_nil]; omega), if_pos (by omega), wi1 (by omega), ed]
      simp only [Int.toNat_natCast]
      rw [strconv_Itoa.f, if_pos ho, Option.bind_some, if_pos (by simp only [List.length_append, List.length_cons, List.length_nil]; omega),
        fo_l0 l hl hn k (i + 1) _ (by omega) (by omega) (by simp only [List.length_append, List.length_cons, List.length_nil]; omega)]
      simp [numsW]
    · rw [if_neg (by omega), List.drop_of_length_le (by omega)]
      simp [numsW]
theorem fmtOD_f (a0 a1 a2 a3 a4 a5 a6 a7 a8 a9 a10 a11 a12 a13 a14 a15 a16 a17 a18 : Int) (h : ∀ n, n ∈ nums17 a0 a1 a2 a3 a4 a5 a6 a7 a8 a9 a10 a11 a12 a13 a14 a15 a16 a17 a18 → okN n) {k : Nat} (hk : 30 < k) : synodref17_FormatOpts.f k a0 a1 a2 a3 a4 a5 a6 a7 a8 a9 a10 a11 a12 a13 a14 a15 a16 a17 a18 = some (fmtO (nums17 a0 a1 a2 a3 a4 a5 a6 a7 a8 a9 a10 a11 a12 a13 a14 a15 a16 a17 a18)) := by
  unfold synodref17_FormatOpts.f
  rw [synodref17_numbers.f, Option.bind_some]
  have e0 : okN 0 := ⟨by decide, by decide⟩
  have l0 := fo_l0 (nums17 a0 a1 a2 a3 a4 a5 a6 a7 a8 a9 a10 a11 a12 a13 a14 a15 a16 a17 a18 ++ [0]) (fun n hn => by rcases List.mem_append.1 hn with hn | hn; exact h n hn; rw [List.mem_singleton.1 hn]; exact e0) (by simp) k 0 worldW (by simp; omega) (by simp) (by simp)
  rw [show ((0 : Nat) : Int) = (0 : Int) from rfl, List.drop_zero] at l0
  have l1 : synodref17_FormatOpts.l0 [a0, a1, a4, a5, a6, a7, a8, a9, a10, a11, a12, a13, a14, a15, a16, a17, a18, 0] k worldW 0 = _ := l0
  rw [l1, Option.bind_some]
  have ei : Lib.itoa 0 = [48] := by rw [itoa_pos (by omega), Lib.decDigits]; rfl
  simp [fmtO, numsW, ei]
end Go.Proofs.YtbcnegennmpliaaDoor

namespace Go.Proofs.YtbcnegennmpliaaDoor
set_option linter.unusedVariables false
set_option linter.unusedSimpArgs false
open Go.RowKit
theorem okAll (a0 a1 a2 a3 a4 a5 a6 a7 a8 a9 a10 a11 a12 a13 a14 a15 a16 a17 a18 : Int) (h : okI .i64 a0 ∧ okI .i64 a1 ∧ ((okI .i64 a2 ∧ okI .i64 a3 ∧ okI .i64 a4 ∧ okI .i64 a5 ∧ okI .i64 a6 ∧ okI .i64 a7 ∧ okI .i64 a8 ∧ okI .i64 a9) ∧ okI .i64 a10 ∧ okI .i64 a11 ∧ okI .i64 a12 ∧ okI .i64 a13 ∧ okI .i64 a14 ∧ okI .i64 a15 ∧ okI .i64 a16 ∧ okI .i64 a17 ∧ okI .i64 a18)) : ∀ n, n ∈ nums17 a0 a1 a2 a3 a4 a5 a6 a7 a8 a9 a10 a11 a12 a13 a14 a15 a16 a17 a18 → okN n := by
  intro n hn
  simp only [nums17, List.mem_cons, List.not_mem_nil, or_false] at hn
  rcases hn with rfl | rfl | rfl | rfl | rfl | rfl | rfl | rfl | rfl | rfl | rfl | rfl | rfl | rfl | rfl | rfl | rfl
  · exact i64_of h.1
  · exact i64_of h.2.1
  · exact i64_of h.2.2.1.2.2.1
  · exact i64_of h.2.2.1.2.2.2.1
  · exact i64_of h.2.2.1.2.2.2.2.1
  · exact i64_of h.2.2.1.2.2.2.2.2.1
  · exact i64_of h.2.2.1.2.2.2.2.2.2.1
  · exact i64_of h.2.2.1.2.2.2.2.2.2.2
  · exact i64_of h.2.2.2.1
  · exact i64_of h.2.2.2.2.1
  · exact i64_of h.2.2.2.2.2.1
  · exact i64_of h.2.2.2.2.2.2.1
  · exact i64_of h.2.2.2.2.2.2.2.1
  · exact i64_of h.2.2.2.2.2.2.2.2.1
  · exact i64_of h.2.2.2.2.2.2.2.2.2.1
  · exact i64_of h.2.2.2.2.2.2.2.2.2.2.1
  · exact i64_of h.2.2.2.2.2.2.2.2.2.2.2
end Go.Proofs.YtbcnegennmpliaaDoor

namespace Go.Proofs.YtbcnegennmpliaaDoor
set_option linter.unusedVariables false
set_option linter.unusedSimpArgs false
open Go.RowKit
theorem opts_u {R : Type} (p : Int × Int × Int × Int × Int × Int × Int × Int × Int × Int × Int × Int × Int × Int × Int × Int × Int × Int × Int × R) : synodlaw15_Opts.u p = (p.1, p.2.1, p.2.2.1, p.2.2.2.1, p.2.2.2.2.1, p.2.2.2.2.2.1, p.2.2.2.2.2.2.1, p.2.2.2.2.2.2.2.1, p.2.2.2.2.2.2.2.2.1, p.2.2.2.2.2.2.2.2.2.1, p.2.2.2.2.2.2.2.2.2.2.1, p.2.2.2.2.2.2.2.2.2.2.2.1, p.2.2.2.2.2.2.2.2.2.2.2.2.1, p.2.2.2.2.2.2.2.2.2.2.2.2.2.1, p.2.2.2.2.2.2.2.2.2.2.2.2.2.2.1, p.2.2.2.2.2.2.2.2.2.2.2.2.2.2.2.1, p.2.2.2.2.2.2.2.2.2.2.2.2.2.2.2.2.1, p.2.2.2.2.2.2.2.2.2.2.2.2.2.2.2.2.2.1, p.2.2.2.2.2.2.2.2.2.2.2.2.2.2.2.2.2.2.1) := rfl
theorem opts_v (a0 a1 a2 a3 a4 a5 a6 a7 a8 a9 a10 a11 a12 a13 a14 a15 a16 a17 a18 : Int) : synodlaw15_Opts.v a0 a1 a2 a3 a4 a5 a6 a7 a8 a9 a10 a11 a12 a13 a14 a15 a16 a17 a18 = (a0, a1, a2, a3, a4, a5, a6, a7, a8, a9, a10, a11, a12, a13, a14, a15, a16, a17, a18) := rfl
theorem pure_TextOpts (line : List UInt8) (hl : line.length ≤ reachBytes) (a0 a1 a2 a3 a4 a5 a6 a7 a8 a9 a10 a11 a12 a13 a14 a15 a16 a17 a18 : Int) (h : okI .i64 a0 ∧ okI .i64 a1 ∧ ((okI .i64 a2 ∧ okI .i64 a3 ∧ okI .i64 a4 ∧ okI .i64 a5 ∧ okI .i64 a6 ∧ okI .i64 a7 ∧ okI .i64 a8 ∧ okI .i64 a9) ∧ okI .i64 a10 ∧ okI .i64 a11 ∧ okI .i64 a12 ∧ okI .i64 a13 ∧ okI .i64 a14 ∧ okI .i64 a15 ∧ okI .i64 a16 ∧ okI .i64 a17 ∧ okI .i64 a18)) : ∃ k, synodlaw17_TextOpts.f k line a0 a1 a2 a3 a4 a5 a6 a7 a8 a9 a10 a11 a12 a13 a14 a15 a16 a17 a18 = some true := by
  refine ⟨60000 + 60, ?_⟩
  unfold synodlaw17_TextOpts.f
  rw [first_eq, Option.bind_some]
  by_cases hb : ((!true) || (decide ((20000 : Int) < (line.length : Int)))) = true
  · rw [if_pos hb]
  · rw [if_neg hb]
    simp only [Bool.not_true, Bool.false_or, decide_eq_true_eq] at hb
    rw [parseO_f (by omega), Option.bind_some, parseOD_f (by omega), Option.bind_some]
    obtain ⟨p, hp⟩ : ∃ p, parseO line = p := ⟨_, rfl⟩
    rw [hp]
    have oa := okAll a0 a1 a2 a3 a4 a5 a6 a7 a8 a9 a10 a11 a12 a13 a14 a15 a16 a17 a18 h
    have f1 := fmtO_f a0 a1 a2 a3 a4 a5 a6 a7 a8 a9 a10 a11 a12 a13 a14 a15 a16 a17 a18 oa
    have f2 := fmtOD_f a0 a1 a2 a3 a4 a5 a6 a7 a8 a9 a10 a11 a12 a13 a14 a15 a16 a17 a18 oa (k := 60000 + 60) (by omega)
    simp only [opts_u, opts_v, f1, f2, show synodref_Num.v p.2.2.2.2.2.2.2.2.2.2.2.2.2.2.2.2.2.2.2 = p.2.2.2.2.2.2.2.2.2.2.2.2.2.2.2.2.2.2.2 from rfl, decide_true, Bool.and_self, beq_self_eq_true, if_true, Option.bind_some]
end Go.Proofs.YtbcnegennmpliaaDoor

namespace Go.Proofs.YtbcnegennmpliaaDoor
set_option linter.unusedVariables false
set_option linter.unusedSimpArgs false
open Go.RowKit Go.ChangeShapes Go.WideShapes Go.ChangeAt

def heapF (W : World) : HA := fun h => ∀ i, i < W.heap.size → h i = W.heap[i]?
theorem sat_start (W : World) : Sat W ([] ++ [heapF W]) W := ⟨rfl, rfl, rfl, Nat.le_refl _, star_tt (fun _ _ => rfl)⟩
theorem below_of {W w : World} {l : List HA} (s : Sat W l w) (k : Nat) (hk : l[k]? = some (heapF W)) : Below W.heap.size W w := by
  obtain ⟨a, ha, hz⟩ := s.at hk
  refine ⟨s.os, s.tape, s.output, s.size, fun i hi => ?_⟩
  have h1 := ha i hi
  obtain ⟨o, ho⟩ : ∃ o, W.heap[i]? = some o := ⟨_, Array.getElem?_eq_getElem hi⟩
  rw [ho] at h1
  rw [hz i o h1, ho]
theorem row_of_fn {P : Program} {W : World} {f : FuncId} {args : List Value} {R Y : Type} {o : Option R} {val : R → Y → Value} {r : R}
    (h : Fn P W f args [] (heapF W) o val (fun _ _ => [])) (hs : o = some r) (hv : ∀ y, val r y = .bool true) :
    Calls P f args.toArray W fun e w' => e = .returned (.bool true) ∧ Below W.heap.size W w' := by
  refine (h r hs W (sat_start W)).mono ?_
  rintro e w' ⟨y, rfl, s⟩
  exact ⟨by rw [hv], below_of s 0 rfl⟩
theorem weights_of {H : Type} {P : Program} {ts : List TypeId} {ds : List (DataW H)} (h : (DataW.weightsEach P ts ds).all (· ≤ reachBytes) = true) {j : Nat} {t : TypeId} {d : DataW H} (ht : ts[j]? = some t) (hd : ds[j]? = some d) : ∀ n ∈ d.weights P t, n ≤ reachBytes := fun n hn => by
  have := List.all_eq_true.1 h n (DataW.weights_mem_each ht hd n hn)
  simpa using this
end Go.Proofs.YtbcnegennmpliaaDoor

namespace Go.Proofs.YtbcnegennmpliaaDoor
set_option linter.unusedVariables false
set_option linter.unusedSimpArgs false
open Go.RowKit Go.ChangeShapes Go.WideShapes Go.ChangeAt
section
variable {H : Type} {enc : TypeId × Value → H} {P : Program} {W : World} {held : Bool} {α β : Type}
def Opens (enc : TypeId × Value → H) (P : Program) (W : World) (held : Bool) (t : TypeId) (V : α → List Value → Prop) (Ok : α → Prop) : Prop :=
  ∀ fuel cs x, DataW.trod enc P W 0 (fun _ => true) held fuel t cs = some x → (∀ n ∈ x.1.weights P t, n ≤ reachBytes) → ∃ y, V y cs ∧ one cs ∧ cs.length = P.cellsOf t ∧ Ok y
theorem Opens.map {t : TypeId} {V : α → List Value → Prop} {V' : β → List Value → Prop} {Ok : α → Prop} {Ok' : β → Prop} (f : α → β) (h : Opens enc P W held t V Ok) (hV : ∀ x r, V x r → V' (f x) r) (hO : ∀ x, Ok x → Ok' (f x)) : Opens enc P W held t V' Ok' := fun fuel cs x h1 h2 =>
  let ⟨y, a, b, c, d⟩ := h fuel cs x h1 h2; ⟨f y, hV _ _ a, b, c, hO _ d⟩
theorem Opens.mono {t : TypeId} {V V' : α → List Value → Prop} {Ok Ok' : α → Prop} (h : Opens enc P W held t V Ok) (hV : ∀ x r, V x r → V' x r) (hO : ∀ x, Ok x → Ok' x) : Opens enc P W held t V' Ok' := fun fuel cs x h1 h2 =>
  let ⟨y, a, b, c, d⟩ := h fuel cs x h1 h2; ⟨y, hV _ _ a, b, c, hO _ d⟩
theorem opens_int {t : TypeId} {k : IntKind} (ht : P.underlying t = some (.int k)) (hc : P.cellsOf t = 1) : Opens enc P W held t (fun x r => r = [.int k x]) (okI k) := by
  intro fuel cs x h _
  cases fuel with
  | zero => simp [DataW.trod] at h
  | succ n =>
    unfold DataW.trod at h
    rw [ht] at h
    split at h <;> simp_all
    rename_i k' m
    obtain ⟨rfl, h1⟩ := h.1
    refine ⟨one_of rfl, ?_⟩
    simpa [Lit.wf, okI] using h1
theorem opens_str {t : TypeId} (ht : P.underlying t = some .string) (hc : P.cellsOf t = 1) : Opens enc P W held t (fun x r => r = [str x]) (fun x => x.length ≤ reachBytes) := by
  intro fuel cs x h hw
  cases fuel with
  | zero => simp [DataW.trod] at h
  | succ n =>
    unfold DataW.trod at h
    rw [ht] at h
    split at h <;> simp_all
    rename_i s
    obtain ⟨h1, rfl⟩ := h
    refine ⟨s.data.toList, ?_, one_of rfl, ?_⟩
    · simp [str]
    · exact hw s.data.toList.length (by simp [DataW.weights])
/-! Structs: their fields, one behind the other. -/
def trodL (enc : TypeId × Value → H) (P : Program) (W : World) (held : Bool) (fuel : Nat) : List TypeId → List Value → List (DataW H × List MemPlace) → Prop
  | [], cs, xs => cs = [] ∧ xs = []
  | t :: ts, cs, xs => ∃ c1 c2 x r, cs = c1 ++ c2 ∧ xs = x :: r ∧ DataW.trod enc P W 0 (fun _ => true) held fuel t c1 = some x ∧ trodL enc P W held fuel ts c2 r
def OpensL (enc : TypeId × Value → H) (P : Program) (W : World) (held : Bool) (ts : List TypeId) (V : α → List Value → Prop) (Ok : α → Prop) : Prop :=
  ∀ fuel cs xs, trodL enc P W held fuel ts cs xs → (∀ n ∈ DataW.weightsEach P ts (xs.map (·.1)), n ≤ reachBytes) → ∃ y, V y cs ∧ one cs ∧ Ok y
theorem opensL_one {t : TypeId} {V : α → List Value → Prop} {Ok : α → Prop} (h : Opens enc P W held t V Ok) : OpensL enc P W held [t] V Ok := by
  rintro fuel cs xs ⟨c1, c2, x, r, rfl, rfl, h1, rfl, rfl⟩ hw
  obtain ⟨y, a, b, c, d⟩ := h fuel c1 x h1 (fun n hn => hw n (by simp [DataW.weightsEach]; exact hn))
  exact ⟨y, by simpa using a, by simpa using b, d⟩
theorem opensL_cons {t : TypeId} {ts : List TypeId} {V : α → List Value → Prop} {Ok : α → Prop} {V2 : β → List Value → Prop} {Ok2 : β → Prop} (h : Opens enc P W held t V Ok) (h2 : OpensL enc P W held ts V2 Ok2) :
    OpensL enc P W held (t :: ts) (fun (x : α × β) cs => ∃ c1 c2, cs = c1 ++ c2 ∧ V x.1 c1 ∧ V2 x.2 c2) (fun x => Ok x.1 ∧ Ok2 x.2) := by
  rintro fuel cs xs ⟨c1, c2, x, r, rfl, rfl, h1, h3⟩ hw
  obtain ⟨y, a, b, c, d⟩ := h fuel c1 x h1 (fun n hn => hw n (by simp only [List.map_cons, DataW.weightsEach, List.mem_append]; exact .inl hn))
  obtain ⟨z, a2, b2, d2⟩ := h2 fuel c2 r h3 (fun n hn => hw n (by simp only [List.map_cons, DataW.weightsEach, List.mem_append]; exact .inr hn))
  exact ⟨(y, z), ⟨c1, c2, rfl, a, a2⟩, one_append b b2, d, d2⟩
def laidF (P : Program) : Nat → List Field → Bool
  | _, [] => true
  | k, f :: fs => Nat.beq f.offset k && laidF P (k + P.cellsOf f.type) fs
def sumF (P : Program) : List Field → Nat
  | [] => 0
  | f :: fs => P.cellsOf f.type + sumF P fs
theorem trodL_of (fuel : Nat) : ∀ (fs : List Field) (k : Nat) (cs : List Value) (xs : List (DataW H × List MemPlace)), laidF P k fs = true → cs.length = k + sumF P fs → xs.length = fs.length →
    (∀ (i : Nat) (f : Field), fs[i]? = some f → DataW.trod enc P W 0 (fun _ => true) held fuel f.type ((cs.drop f.offset).take (P.cellsOf f.type)) = xs[i]?) → trodL enc P W held fuel (fs.map (·.type)) (cs.drop k) xs
  | [], k, cs, xs, _, hl, hx, _ => by
    have : xs = [] := List.eq_nil_of_length_eq_zero (by simpa using hx)
    exact ⟨by rw [List.drop_of_length_le (by simp [sumF] at hl; omega)], this⟩
  | f :: fs, k, cs, [], _, _, hx, _ => by simp at hx
  | f :: fs, k, cs, x :: xs, hlaid, hl, hx, h => by
    simp only [laidF, Bool.and_eq_true] at hlaid
    have hoff : f.offset = k := Nat.eq_of_beq_eq_true hlaid.1
    simp only [sumF] at hl
    have h0 := h 0 f rfl
    rw [hoff] at h0
    refine ⟨(cs.drop k).take (P.cellsOf f.type), (cs.drop k).drop (P.cellsOf f.type), x, xs, (List.take_append_drop _ _).symm, rfl, by simpa using h0, ?_⟩
    have := trodL_of fuel fs (k + P.cellsOf f.type) cs xs hlaid.2 (by omega) (by simpa using hx) (fun i g hg => by simpa using h (i + 1) g (by simpa using hg))
    rw [List.drop_drop]
    exact this
theorem opens_struct {t : TypeId} {fs : Array Field} {V : α → List Value → Prop} {Ok : α → Prop} (ht : P.underlying t = some (.struct fs)) (hlaid : laidF P 0 fs.toList = true) (hsum : sumF P fs.toList = P.cellsOf t) {ts : List TypeId} (hts : fs.toList.map (·.type) = ts) (h : OpensL enc P W held ts V Ok) : Opens enc P W held t V Ok := by
  intro fuel cs x hx hw
  obtain ⟨xs, n, rfl, rfl, hl, hxl, hf⟩ := DataW.trod_struct ht hx
  have := trodL_of n fs.toList 0 cs xs hlaid (by rw [hl]; omega) (by simpa using hxl) (fun i f hi => hf i f (by simpa using hi))
  rw [hts] at this
  obtain ⟨y, a, b, c⟩ := h n cs xs (by simpa using this) (fun n hn => hw n (by simp only [DataW.weights, ht, hts]; exact hn))
  exact ⟨y, a, b, hl, c⟩
end
end Go.Proofs.YtbcnegennmpliaaDoor

namespace Go.Proofs.YtbcnegennmpliaaDoor
set_option linter.unusedVariables false
set_option linter.unusedSimpArgs false
open Go.RowKit Go.ChangeShapes Go.WideShapes Go.ChangeAt
class Mu (α : Type) where
  mu : α → Nat
instance : Mu Int := ⟨fun _ => 1⟩
instance : Mu Bool := ⟨fun _ => 1⟩
instance : Mu UInt8 := ⟨fun _ => 1⟩
instance {α β : Type} [Mu α] [Mu β] : Mu (α × β) := ⟨fun x => Mu.mu x.1 + Mu.mu x.2⟩
instance {α : Type} [Mu α] : Mu (List α) := ⟨fun l => (l.map Mu.mu).sum + 1⟩
section
variable {H : Type} {enc : TypeId × Value → H} {P : Program} {W : World} {held : Bool} {α β : Type} [Mu α] [Mu β]
def OpensU (enc : TypeId × Value → H) (P : Program) (W : World) (held : Bool) (t : TypeId) (V : α → List Value → Prop) (Ok : α → Prop) : Prop :=
  ∀ fuel cs x, DataW.trod enc P W 0 (fun _ => true) held fuel t cs = some x → (∀ n ∈ x.1.weights P t, n ≤ reachBytes) → ∃ y, V y cs ∧ one cs ∧ cs.length = P.cellsOf t ∧ Ok y ∧ Mu.mu y ≤ Rows.uptoBulk x.1
theorem OpensU.mono {t : TypeId} {V V' : α → List Value → Prop} {Ok Ok' : α → Prop} (h : OpensU enc P W held t V Ok) (hV : ∀ x r, V x r → V' x r) (hO : ∀ x, Ok x → Ok' x) : OpensU enc P W held t V' Ok' := fun fuel cs x h1 h2 =>
  let ⟨y, a, b, c, d⟩ := h fuel cs x h1 h2; ⟨y, hV _ _ a, b, c, hO _ d.1, d.2⟩
end
end Go.Proofs.YtbcnegennmpliaaDoor

namespace Go.Proofs.YtbcnegennmpliaaDoor
set_option linter.unusedVariables false
set_option linter.unusedSimpArgs false
open Go.RowKit Go.ChangeShapes Go.WideShapes Go.ChangeAt
def VRead (P : Program) (w : World) (n : String) (d : DataW Unit) : Prop :=
  ∃ g t cs fuel p, P.globalNamed n = some g ∧ (P.globals[g]?).map (·.type) = some t ∧ w.var? P n = some cs ∧ DataW.trod (fun _ => ()) P w 0 (fun _ => true) false fuel t cs.toList = some (d, p)
theorem vread_of {P : Program} {w : World} : ∀ {l : List (String × DataW Unit)} {ps : List MemPlace}, DataW.LaidVars P w l ps → ∀ n d, (n, d) ∈ l → VRead P w n d
  | [], _, _, _, _, hm => by cases hm
  | (n', d') :: r, ps, h, n, d, hm => by
    obtain ⟨g, t, cs, fuel, p, q, h1, h2, h3, h4, h5, _⟩ := h
    rcases List.mem_cons.1 hm with e | e
    · cases e
      exact ⟨g, t, cs, fuel, p, h1, h2, h3, h4⟩
    · exact vread_of h5 n d e
theorem laid_vread {P : Program} {w : World} {l : List (String × DataW Unit)} (h : laidMet P l w) {n : String} {d : DataW Unit} (hm : (n, d) ∈ l) : VRead P w n d :=
  let ⟨_, hv, _⟩ := h
  vread_of hv n d hm
theorem tab_of {P : Program} {W : World} {name : String} {k : IntKind} {zs : List Int} {g : Nat} {t e : TypeId} {n : Nat} (hg : P.globalNamed name = some g) (hty : (P.globals[g]?).map (·.type) = some t)
    (ht : P.underlying t = some (.array n e)) (he : P.underlying e = some (.int k)) (hce : P.cellsOf e = 1) (hct : P.cellsOf t = n) (h : VRead P W name (Lib.tabData k zs)) : Lib.TabIs P W name k zs := by
  obtain ⟨g', t', cs, fuel, p, hg', ht', hvar, hd⟩ := h
  obtain rfl := Option.some.inj (hg.symm.trans hg')
  obtain rfl := Option.some.inj (hty.symm.trans ht')
  unfold Lib.TabIs
  rw [hvar, ← Lib.cells_of_tab ht he hce hct hd]
theorem iface_of {P : Program} {W : World} {name nm : String} {d : DataW Unit} {g : Nat} {t : TypeId} {ms : _} (hg : P.globalNamed name = some g) (hty : (P.globals[g]?).map (·.type) = some t)
    (ht : P.underlying t = some (.interface ms)) (h : VRead P W name (.iface nm d)) : ∃ u p, W.var? P name = some #[.iface u p] := by
  obtain ⟨g', t', cs, fuel, p, hg', ht', hvar, hd⟩ := h
  obtain rfl := Option.some.inj (hg.symm.trans hg')
  obtain rfl := Option.some.inj (hty.symm.trans ht')
  cases fuel with
  | zero => simp [DataW.trod] at hd
  | succ m =>
    unfold DataW.trod at hd
    rw [ht] at hd
    split at hd <;> simp_all
    rename_i e
    exact ⟨_, _, Array.toList_inj.1 (e.trans rfl)⟩
theorem var_mono {P : Program} {W w : World} {n : String} {cs : Array Value} (h : HoldsW (heapF W) w) (hv : W.var? P n = some cs) : w.var? P n = some cs := by
  obtain ⟨a, ha, e⟩ := h
  unfold World.var? at hv ⊢
  cases hg : P.globalNamed n with
  | none => rw [hg] at hv; cases hv
  | some g =>
    rw [hg] at hv
    simp only [Option.bind_some] at hv ⊢
    cases ho : W.heap[g]? with
    | none => rw [ho] at hv; cases hv
    | some o =>
      have hlt : g < W.heap.size := (Array.getElem?_eq_some_iff.1 ho).1
      have h1 : w.heap[g]? = some o := e g o ((ha g hlt).trans ho)
      rw [ho] at hv
      rw [h1]
      exact hv
theorem glb_of {P : Program} {W : World} (h1 : Lib.TabIs P W "internal/strconv.uint64pow10" .u64 Lib.pow10Tab) (h2 : ∃ u p, W.var? P "strconv.ErrSyntax" = some #[.iface u p]) (h3 : ∃ u p, W.var? P "strconv.ErrRange" = some #[.iface u p]) :
    Glb P (heapF W) :=
  ⟨fun w h => var_mono h h1, fun w h => let ⟨u, p, e⟩ := h2; ⟨u, p, var_mono h e⟩, fun w h => let ⟨u, p, e⟩ := h3; ⟨u, p, var_mono h e⟩⟩
theorem witness_laid {H : Type} {enc : TypeId × Value → H} {C : Checked} {os : Os} {f : FuncId} {fn : Func} {s : OpenSpec} {conds : List PathCond} {apart : Bool} {laid : List (String × DataW Unit)} (w0 : World) (args : Array Value) (hos : w0.os = os)
    (hsh : (w0.forCall (fun _ _ => 0) ⟨#[], args, []⟩).Shaped C.prog)
    (hok : Input.okWideB C.prog (w0.forCall (fun _ _ => 0) ⟨#[], args, []⟩) f ⟨#[], args, []⟩ = true)
    (hrow : s.preRow enc C.prog fn conds apart laid (w0.forCall (fun _ _ => 0) ⟨#[], args, []⟩).memory args) :
    ∃ (w : World) (tape : Tape) (i : Input), w.os = os ∧ (w.forCall tape i).Shaped C.prog ∧ i.vars = [] ∧ Input.okWide C.prog (w.forCall tape i) .any w.heap.size f i ∧
      s.preRow enc C.prog fn conds apart laid (w.forCall tape i).memory i.args ∧ ({} : Assume).holds C.prog (lone (Frame.enter C.prog f i.args .normal) [] (w.forCall tape i)) :=
  ⟨w0, fun _ _ => 0, ⟨#[], args, []⟩, hos, hsh, (Input.okWide_of_okWideB (base := 0) hok).1, (Input.okWide_of_okWideB hok).2, hrow, by
    simp only [Assume.holds]
    exact ⟨by simp, by simp, fun _ => Modest.zero, by simp, by simp⟩⟩
end Go.Proofs.YtbcnegennmpliaaDoor

namespace Go.Proofs.YtbcnegennmpliaaDoor.textOpts
open Go.RowKit Go.ChangeShapes Go.WideShapes Go.ChangeAt
open Go.ChangeMaps (open_string shut_string)
set_option linter.unusedVariables false
theorem own : ownKnob Tryd.prog.godebug = none := by kernel_rfl
theorem laidOut : laidOutB Tryd.prog = true := by kernel_rfl
theorem glb {W : World} (hL : laidMetH Tryd.prog Rows.textOptsRow.laid W) : Glb Tryd.prog (heapF W) := by
  rw [MakeChecks.laidMetH_plain _ _ _ (by kernel_rfl)] at hL
  exact glb_of (tab_of (g := 0) (t := 169) (e := 152) (by kernel_rfl) (by kernel_rfl) Tryd.underlying169 Tryd.underlying152 (by kernel_rfl) (by kernel_rfl) (laid_vread hL (n := "internal/strconv.uint64pow10") (d := Rows.laid_internal_strconv_uint64pow10) (.tail _ (.tail _ (.head _))))) (iface_of (g := 1) (t := 137) (by kernel_rfl) (by kernel_rfl) Tryd.underlying137 (laid_vread hL (n := "strconv.ErrSyntax") (d := Rows.laid_strconv_ErrSyntax) (.tail _ (.tail _ (.tail _ (.tail _ (.tail _ (.head _)))))))) (iface_of (g := 2) (t := 137) (by kernel_rfl) (by kernel_rfl) Tryd.underlying137 (laid_vread hL (n := "strconv.ErrRange") (d := Rows.laid_strconv_ErrRange) (.tail _ (.tail _ (.tail _ (.tail _ (.head _)))))))
theorem laid_met (os : Os) (args : Array Value) : laidMetH Tryd.prog Rows.textOptsRow.laid ((World.laidAll Tryd.prog os Rows.textOptsRow.laid).forCall (fun _ _ => 0) ⟨#[], args, []⟩).memory := by
  rw [MakeChecks.laidMetH_plain _ _ _ (by kernel_rfl)]
  exact laidMet_laidAll args (by kernel_rfl) (by kernel_rfl)
set_option maxRecDepth 100000 in
theorem lifted (os : Os) (started : os.Started) (H : Type) (enc : TypeId × Value → H) (F : Stop.Interp) :
    ReturnsInHanded {} Tryd.checked os 8 .any ((OpenSpec.ofChange Rows.textOptsSpec).preRow enc Tryd.prog Tryd.f8 Rows.textOptsRow.domain false Rows.textOptsRow.laid) (((OpenSpec.ofChange Rows.textOptsSpec).at F).post enc Tryd.prog Tryd.f8 false true false false) := by
  refine returnsInHanded_of_row (C := Tryd.checked) (s := (OpenSpec.ofChange Rows.textOptsSpec)) own started (by kernel_rfl) Tryd.func8
    (witness_laid (enc := enc) (C := Tryd.checked) (World.laidAll Tryd.prog os Rows.textOptsRow.laid) #[.string ⟨#[]⟩, .agg #[.int .i64 0, .int .i64 0, .int .i64 0, .int .i64 0, .int .i64 0, .int .i64 0, .int .i64 0, .int .i64 0, .int .i64 0, .int .i64 0, .int .i64 0, .int .i64 0, .int .i64 0, .int .i64 0, .int .i64 0, .int .i64 0, .int .i64 0, .int .i64 0, .int .i64 0]] (World.laidAll_os _ _ _) (World.shaped_of_ZipB (by kernel_rfl) (by kernel_rfl)) (by kernel_rfl)
      (OpenSpec.preRow_of_cond 8 (x := ([.lit (.string []), .agg [.lit (.int .i64 0), .lit (.int .i64 0), .agg [.agg [.lit (.int .i64 0), .lit (.int .i64 0), .lit (.int .i64 0), .lit (.int .i64 0), .lit (.int .i64 0), .lit (.int .i64 0), .lit (.int .i64 0), .lit (.int .i64 0)], .lit (.int .i64 0), .lit (.int .i64 0), .lit (.int .i64 0), .lit (.int .i64 0), .lit (.int .i64 0), .lit (.int .i64 0), .lit (.int .i64 0), .lit (.int .i64 0), .lit (.int .i64 0)]]], [], [])) (by kernel_rfl) (by kernel_rfl) (fun k hk => by cases hk) (by kernel_rfl) (laid_met os _))) ?_
  intro W base args ds gs before hval0 hW hcnd hk00 hsz0 hL _ _
  have hgl := glb hL
  have hsz : (DataW.weightsEach Tryd.prog (Tryd.f8.params.toList ++ Rows.textOptsSpec.plain.varTypes Tryd.prog) (ds ++ gs)).all (· ≤ reachBytes) = true := hsz0
  have hval : ∀ (j : Nat) t v, Tryd.f8.params[j]? = some t → args[j]? = some v → Value.okWide Tryd.prog W .any base t v := hval0
  have hW' := hW
  obtain ⟨p, q, hA0, hV, rfl, hfz, hnd⟩ := hW
  have hA : DataW.TrodAll enc Tryd.prog W 0 (fun _ => true) true Tryd.f8.params.toList args.toList ds p := hA0
  rw [Tryd.params8] at hA hval hsz
  obtain ⟨v0, vs0, d0, ds0, p0, q0, hargs, rfl, rfl, h0, r0⟩ := trodAll_cons hA
  obtain ⟨v1, vs1, d1, ds1, p1, q1, rfl, rfl, rfl, h1, r1⟩ := trodAll_cons r0
  obtain ⟨rfl, rfl, rfl⟩ := trodAll_nil r1
  obtain rfl : args = #[v0, v1] := by cases args; simp_all
  obtain ⟨rfl, rfl⟩ := trodVars_none hV
  obtain ⟨ss0, rfl⟩ := okWide_string Tryd.underlying9 (hval 0 9 v0 rfl rfl)
  have k0 := h0
  have lt0 : ∀ x ∈ p0, x.block < W.heap.size := by obtain ⟨m, hm⟩ := k0; exact DataW.trod_lt m _ _ _ hm
  obtain ⟨fuel0, hf0⟩ := h0
  obtain ⟨z0_0, hcs0, _, _, ok0⟩ := (opens_str Tryd.underlying9 (by kernel_rfl)) _ _ _ hf0 (weights_of hsz (j := 0) (t := 9) rfl rfl)
  have e0 : Value.string ss0 = str z0_0 := by simpa [Value.cells] using hcs0
  unfold str at e0
  injection e0 with ea0
  subst ea0
  obtain ⟨cs1, rfl, _⟩ := okWide_struct Tryd.underlying54 (hval 1 54 v1 rfl rfl)
  have k1 := h1
  have lt1 : ∀ x ∈ p1, x.block < W.heap.size := by obtain ⟨m, hm⟩ := k1; exact DataW.trod_lt m _ _ _ hm
  obtain ⟨fuel1, hf1⟩ := h1
  obtain ⟨⟨z1_0, z1_1, ⟨⟨z1_2, z1_3, z1_4, z1_5, z1_6, z1_7, z1_8, z1_9⟩, z1_10, z1_11, z1_12, z1_13, z1_14, z1_15, z1_16, z1_17, z1_18⟩⟩, ⟨_, _, hcs1, rfl, ⟨_, _, rfl, rfl, ⟨_, _, rfl, ⟨_, _, rfl, rfl, ⟨_, _, rfl, rfl, ⟨_, _, rfl, rfl, ⟨_, _, rfl, rfl, ⟨_, _, rfl, rfl, ⟨_, _, rfl, rfl, ⟨_, _, rfl, rfl, rfl⟩⟩⟩⟩⟩⟩⟩, ⟨_, _, rfl, rfl, ⟨_, _, rfl, rfl, ⟨_, _, rfl, rfl, ⟨_, _, rfl, rfl, ⟨_, _, rfl, rfl, ⟨_, _, rfl, rfl, ⟨_, _, rfl, rfl, ⟨_, _, rfl, rfl, rfl⟩⟩⟩⟩⟩⟩⟩⟩⟩⟩⟩, _, _, ok1⟩ := (opens_struct Tryd.underlying54 (by kernel_rfl) (by kernel_rfl) (by kernel_rfl) (opensL_cons (opens_int Tryd.underlying3 (by kernel_rfl)) (opensL_cons (opens_int Tryd.underlying3 (by kernel_rfl)) (opensL_one (opens_struct Tryd.underlying52 (by kernel_rfl) (by kernel_rfl) (by kernel_rfl) (opensL_cons (opens_struct Tryd.underlying50 (by kernel_rfl) (by kernel_rfl) (by kernel_rfl) (opensL_cons (opens_int Tryd.underlying3 (by kernel_rfl)) (opensL_cons (opens_int Tryd.underlying3 (by kernel_rfl)) (opensL_cons (opens_int Tryd.underlying3 (by kernel_rfl)) (opensL_cons (opens_int Tryd.underlying3 (by kernel_rfl)) (opensL_cons (opens_int Tryd.underlying3 (by kernel_rfl)) (opensL_cons (opens_int Tryd.underlying3 (by kernel_rfl)) (opensL_cons (opens_int Tryd.underlying3 (by kernel_rfl)) (opensL_one (opens_int Tryd.underlying3 (by kernel_rfl))))))))))) (opensL_cons (opens_int Tryd.underlying3 (by kernel_rfl)) (opensL_cons (opens_int Tryd.underlying3 (by kernel_rfl)) (opensL_cons (opens_int Tryd.underlying3 (by kernel_rfl)) (opensL_cons (opens_int Tryd.underlying3 (by kernel_rfl)) (opensL_cons (opens_int Tryd.underlying3 (by kernel_rfl)) (opensL_cons (opens_int Tryd.underlying3 (by kernel_rfl)) (opensL_cons (opens_int Tryd.underlying3 (by kernel_rfl)) (opensL_cons (opens_int Tryd.underlying3 (by kernel_rfl)) (opensL_one (opens_int Tryd.underlying3 (by kernel_rfl))))))))))))))))) _ _ _ hf1 (weights_of hsz (j := 1) (t := 54) rfl rfl)
  have e1 : cs1.toList = [.int .i64 z1_0, .int .i64 z1_1, .int .i64 z1_2, .int .i64 z1_3, .int .i64 z1_4, .int .i64 z1_5, .int .i64 z1_6, .int .i64 z1_7, .int .i64 z1_8, .int .i64 z1_9, .int .i64 z1_10, .int .i64 z1_11, .int .i64 z1_12, .int .i64 z1_13, .int .i64 z1_14, .int .i64 z1_15, .int .i64 z1_16, .int .i64 z1_17, .int .i64 z1_18] := by simpa [Value.cells] using hcs1
  obtain rfl : cs1 = [.int .i64 z1_0, .int .i64 z1_1, .int .i64 z1_2, .int .i64 z1_3, .int .i64 z1_4, .int .i64 z1_5, .int .i64 z1_6, .int .i64 z1_7, .int .i64 z1_8, .int .i64 z1_9, .int .i64 z1_10, .int .i64 z1_11, .int .i64 z1_12, .int .i64 z1_13, .int .i64 z1_14, .int .i64 z1_15, .int .i64 z1_16, .int .i64 z1_17, .int .i64 z1_18].toArray := by rw [← e1, Array.toArray_toList]
  clear hA0 hval0 hsz0 hsz
  obtain ⟨k, hk⟩ := pure_TextOpts z0_0 ok0 z1_0 z1_1 z1_2 z1_3 z1_4 z1_5 z1_6 z1_7 z1_8 z1_9 z1_10 z1_11 z1_12 z1_13 z1_14 z1_15 z1_16 z1_17 z1_18 ok1
  refine (row_of_fn (synodlaw17_TextOpts.calls W (heapF W) k z0_0 z1_0 z1_1 z1_2 z1_3 z1_4 z1_5 z1_6 z1_7 z1_8 z1_9 z1_10 z1_11 z1_12 z1_13 z1_14 z1_15 z1_16 z1_17 z1_18 hgl) hk (fun _ => rfl)).mono fun e W' ⟨he, bel⟩ => ?_
  subst he
  exact ⟨_, rfl, _, _, _, [], _, [], hW', trodAll_mk1 (shut_bool Tryd.underlying4 _), (trodAll_cons_mk (Below.trod laidOut (by kernel_rfl) (of_decide_eq_true (by kernel_rfl)) k0 bel lt0) (trodAll_cons_mk (Below.trod laidOut (by kernel_rfl) (of_decide_eq_true (by kernel_rfl)) k1 bel lt1) trodAll_mk0)), rfl, bel.frame _, fun h => by cases h⟩
theorem said : Rows.TextOptsSaid :=
  OpenClaim.holds_of_cond 8 Tryd.f8 rfl rfl rfl rfl rfl rfl rfl ⟨rfl, rfl, rfl, rfl, rfl⟩ rfl rfl rfl rfl rfl (by kernel_rfl) Tryd.func8 (by kernel_rfl)
    (of_decide_eq_true (by kernel_rfl)) (by unfold Func.isWrapper; first | (rw [if_pos (by decide +kernel)]; kernel_rfl) | (rw [if_neg (by decide +kernel)]; exact ⟨rfl, rfl⟩))
    (fun os started H enc _ F => by rw [OpenClaim.pre_eq_preRow]; exact lifted os started H enc F)
theorem plain (f : FuncId) (fn : Func) (hf : Tryd.pinned.checked.prog.funcNamed "synod/synodlaw17.TextOpts" = some f) (hfn : Tryd.pinned.checked.prog.funcs[f]? = some fn) :
    true = Tryd.pinned.checked.prog.looks [] ∧ ∀ (j : Nat) t, fn.params[j]? = some t → Tryd.pinned.checked.prog.wantsStandIn t = false := by
  obtain rfl : f = 8 := Option.some.inj ((show Tryd.prog.funcNamed "synod/synodlaw17.TextOpts" = some 8 by kernel_rfl).symm.trans hf) |>.symm
  obtain rfl : fn = Tryd.f8 := (Option.some.inj (Tryd.func8.symm.trans hfn)).symm
  refine ⟨by kernel_rfl, fun j t ht => ?_⟩
  rw [Tryd.params8] at ht
  have hm : t ∈ [9, 54] := by simpa using Array.mem_of_getElem? ht
  have hall : ([9, 54].all fun u => !Tryd.prog.wantsStandIn u) = true := by kernel_rfl
  exact (show Tryd.prog.wantsStandIn t = false by simpa using List.all_eq_true.1 hall t hm)
theorem card : Rows.TextOptsCardSaid :=
  Claim7.holds_tied_plain_at .later [] _ _ _ _ said (fun _ h => by cases h) (by kernel_rfl) (fun _ h => by cases h) textOpts_row_tie rfl ⟨rfl, rfl⟩ (by kernel_rfl) rfl plain (by kernel_rfl)
end Go.Proofs.YtbcnegennmpliaaDoor.textOpts
namespace Go.Proofs.YtbcnegennmpliaaDoor
/-- The card, under a short name, for the claim. -/
theorem textOpts_holds : Rows.TextOptsCardSaid := textOpts.card
end Go.Proofs.YtbcnegennmpliaaDoor

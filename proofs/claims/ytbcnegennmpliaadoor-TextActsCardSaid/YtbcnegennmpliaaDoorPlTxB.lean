/- Lines of acts: the program's and the document's. Conditions: as each says. -/
import Derived.Test.YtbcnegennmpliaaDoorPlTxA
namespace Go.Proofs.YtbcnegennmpliaaDoor
set_option linter.unusedVariables false
set_option linter.unusedSimpArgs false
open Go.RowKit
def zB (r : RowT) (a : ActT) : Prop :=
  (zeroAll r.2.2.1 a).2.1 = 0 ∧ (zeroAll r.2.2.1 a).2.2.1 = 0 ∧ (zeroAll r.2.2.1 a).2.2.2.1 = 0 ∧ (if a.1 = 8 then 0 else (zeroAll r.2.2.1 a).2.2.2.2.1) = 0 ∧ a.2.2.2.2.2.1 = r.2.2.2.2 ∧
    (zeroAll r.2.2.1 a).2.2.2.2.2.2.1 = [] ∧ (zeroAll r.2.2.1 a).2.2.2.2.2.2.2.1 = [] ∧ (zeroAll r.2.2.1 a).2.2.2.2.2.2.2.2 = []
instance (r : RowT) (a : ActT) : Decidable (zB r a) := by unfold zB; infer_instance
def anyFar (r : RowT) (a : ActT) : Bool := r.2.2.1.any fun l => !isT l && farB (numOf l a)
def lineW (r : RowT) (a : ActT) : List UInt8 := r.1 ++ r.2.2.1.flatMap fun l => 32 :: fieldW l a
def fmtR (r : RowT) (a : ActT) : List UInt8 × Int :=
  if zB r a then
    if a.1 = 2 ∧ (a.2.2.2.1 < 1 ∨ 9 < a.2.2.2.1) then ([], 20)
    else if (a.1 = 8 ∧ a.2.2.2.2.1 ≠ r.2.2.2.1) ∨ anyFar r a = true then ([], 1)
    else if 4096 < (lineW r a).length then ([], 3) else (lineW r a, 0)
  else ([], 4)
def fmtB (a : ActT) : List UInt8 × Int := match selP a.1 a.2.2.2.2.1 a.2.2.2.2.2.1 rowsL 6 with
  | .inr e => ([], e)
  | .inl r => fmtR r a
theorem fmtP_eq (a : ActT) : ∀ (ls : List UInt8) (e : Int) (out : List UInt8), (fmtP a ls e out).1 = (if (ls.any fun l => !isT l && farB (numOf l a)) = true then 1 else e) ∧
    ((ls.any fun l => !isT l && farB (numOf l a)) = false → (fmtP a ls e out).2 = out ++ ls.flatMap fun l => 32 :: fieldW l a)
  | [], e, out => by simp [fmtP]
  | l :: ls, e, out => by
    rw [fmtP, List.any_cons]
    by_cases h : (!isT l && farB (numOf l a)) = true
    · rw [if_pos h, h]
      refine ⟨?_, fun x => (by simp at x)⟩
      rw [(fmtP_eq a ls 1 out).1]
      simp
    · have h' : (!isT l && farB (numOf l a)) = false := by simpa using h
      rw [if_neg h, h', Bool.false_or]
      refine ⟨(fmtP_eq a ls e _).1, fun x => ?_⟩
      rw [(fmtP_eq a ls e _).2 x]
      simp
theorem selP_kind {kind m op : Int} : ∀ {rs : List RowT} {e : Int} {r : RowT}, selP kind m op rs e = .inl r → r ∈ rs ∧ r.2.1 = kind
  | [], e, r, h => by cases h
  | q :: rs, e, r, h => by
    rw [selP] at h
    split at h
    · split at h
      · exact ⟨List.mem_cons_of_mem _ (selP_kind h).1, (selP_kind h).2⟩
      · split at h
        · exact ⟨List.mem_cons_of_mem _ (selP_kind h).1, (selP_kind h).2⟩
        · cases h
          rename_i h1 _ _
          exact ⟨by simp, h1⟩
    · exact ⟨List.mem_cons_of_mem _ (selP_kind h).1, (selP_kind h).2⟩
theorem wrap0 {x y : Int} (h0 : -9223372036854775808 ≤ x) (h1 : x ≤ 9223372036854775807) (h2 : 0 ≤ y) (h3 : y ≤ 4) : IntKind.i64.wrap (x - y) = 0 ↔ x = y := by
  rw [IntKind.wrap_i64]; omega
theorem rows_op : ∀ r, r ∈ rowsL → 0 ≤ r.2.2.2.2 ∧ r.2.2.2.2 ≤ 4 := by decide +kernel
theorem rows_pick : ∀ r, r ∈ rowsL → 112 ∈ r.2.2.1 → r.2.1 = 2 := by decide +kernel
theorem rows_word : ∀ r, r ∈ rowsL → r.1.length ≤ 10 := by decide +kernel
theorem format_f {a : ActT} (ok : ActOk a) (hop : -9223372036854775808 ≤ a.2.2.2.2.2.1 ∧ a.2.2.2.2.2.1 ≤ 9223372036854775807) {k : Nat} (hk : 21000 < k) :
    text_FormatAct.f k a.1 a.2.1 a.2.2.1 a.2.2.2.1 a.2.2.2.2.1 a.2.2.2.2.2.1 a.2.2.2.2.2.2.1 a.2.2.2.2.2.2.2.1 a.2.2.2.2.2.2.2.2 = some (fmtB a) := by
  unfold text_FormatAct.f fmtB
  rw [named_f a (by omega), Option.bind_some]
  cases hs : selP a.1 a.2.2.2.2.1 a.2.2.2.2.2.1 rowsL 6 with
  | inr e =>
    have hne : e ≠ 0 := by
      intro h0
      subst h0
      by_cases hk1 : a.1 < 1 ∨ 16 < a.1
      · rw [sel_no _ _ _ hk1] at hs; cases hs
      · by_cases h13 : a.1 = 13 ∧ (a.2.2.2.2.2.1 < 1 ∨ 4 < a.2.2.2.2.2.1)
        · rw [h13.1, sel_no13 _ _ h13.2] at hs; cases hs
        · obtain ⟨r, hr, _⟩ := sel_ok a.1 a.2.2.2.2.1 a.2.2.2.2.2.1 (by omega) (fun h => by have := fun x => h13 ⟨h, x⟩; omega)
          rw [hr] at hs; cases hs
    simp only [selRes, named0]
    rw [if_neg hne]
  | inl r =>
    obtain ⟨hm, hkd⟩ := selP_kind hs
    have hlt := rows_lets r hm
    have ho := rows_of_len r hm
    have hro := rows_op r hm
    have hrw := rows_word r hm
    obtain ⟨s, hsn⟩ : ∃ s, selRes (.inl r) = s := ⟨_, rfl⟩
    have e1 : s.2.2.2.2.2.2.2.2.2.2.1 = r.2.2.1.map fld := by rw [← hsn]; rfl
    have e2 : s.2.2.2.2.2.2.2.2.2.2.2 = 0 := by rw [← hsn]; rfl
    have e3 : s.2.2.2.2.2.2.1 = r.2.2.2.2 := by rw [← hsn]; rfl
    have e4 : s.2.2.2.2.2.1 = r.2.2.2.1 := by rw [← hsn]; rfl
    have e5 : s.1 = r.1 := by rw [← hsn]; rfl
    rw [hsn, e2, if_pos rfl, e3, e4, e5]
    have em : (if a.1 = (8 : Int) then (some (0 : Int)) else (some a.2.2.2.2.1)) = some (if a.1 = 8 then 0 else a.2.2.2.2.1) := by split <;> rfl
    rw [em, Option.bind_some]
    have l0 := fmt_l0 e1 a.2.2.2.2.2.1 hlt ho r.2.2.1 [] k (0, a.2.1, a.2.2.1, a.2.2.2.1, (if a.1 = 8 then 0 else a.2.2.2.2.1), 0, a.2.2.2.2.2.2.1, a.2.2.2.2.2.2.2.1, a.2.2.2.2.2.2.2.2) rfl (by omega)
    rw [show (([] : List UInt8).length : Int) = (0 : Int) from rfl] at l0
    simp only [] at l0
    have za := zeroAll_eq r.2.2.1 a hlt
    have zb := zeroAll_eq r.2.2.1 (0, a.2.1, a.2.2.1, a.2.2.2.1, (if a.1 = 8 then 0 else a.2.2.2.2.1), 0, a.2.2.2.2.2.2.1, a.2.2.2.2.2.2.2.1, a.2.2.2.2.2.2.2.2) hlt
    obtain ⟨z, hzd⟩ : ∃ z, zeroAll r.2.2.1 (0, a.2.1, a.2.2.1, a.2.2.2.1, (if a.1 = 8 then 0 else a.2.2.2.2.1), 0, a.2.2.2.2.2.2.1, a.2.2.2.2.2.2.2.1, a.2.2.2.2.2.2.2.2) = z := ⟨_, rfl⟩
    rw [hzd] at l0 zb
    rw [l0, Option.bind_some]
    have hz : (decide ((0 : Int) = (0 : Int)) && (decide (z.2.1 = (0 : Int)) && (decide (z.2.2.1 = (0 : Int)) && (decide (z.2.2.2.1 = (0 : Int)) && (decide (z.2.2.2.2.1 = (0 : Int)) && (decide (IntKind.i64.wrap (a.2.2.2.2.2.1 - r.2.2.2.2) = (0 : Int)) && (decide (z.2.2.2.2.2.2.1 = ([] : List UInt8)) && (decide (z.2.2.2.2.2.2.2.1 = ([] : List UInt8)) && (decide (z.2.2.2.2.2.2.2.2 = ([] : List UInt8))))))))))) = decide (zB r a) := by
      rw [Bool.eq_iff_iff]
      simp only [Bool.and_eq_true, decide_eq_true_eq, true_and]
      unfold zB
      rw [za, zb, wrap0 hop.1 hop.2 hro.1 hro.2]
      by_cases h8 : a.1 = 8
      · simp only [if_pos h8, ite_self, true_and]
      · simp only [if_neg h8]
    rw [hz]
    show _ = some (fmtR r a)
    unfold fmtR
    by_cases hzz : zB r a
    · rw [if_neg (by simp [hzz]), if_pos hzz]
      have ep : (if a.1 = (2 : Int) then (some ((decide (a.2.2.2.1 < (1 : Int))) || (decide ((9 : Int) < a.2.2.2.1)))) else (some false)) = some (decide (a.1 = 2 ∧ (a.2.2.2.1 < 1 ∨ 9 < a.2.2.2.1))) := by
        by_cases h2 : a.1 = 2
        · rw [if_pos h2]; simp [h2]
        · rw [if_neg h2]; simp [h2]
      rw [ep, Option.bind_some]
      by_cases h2 : a.1 = 2 ∧ (a.2.2.2.1 < 1 ∨ 9 < a.2.2.2.1)
      · rw [if_pos (decide_eq_true h2), if_pos h2]
      · rw [if_neg (by simpa using h2), if_neg h2]
        have e8 : (if ((decide (a.1 = (8 : Int))) && (!decide (a.2.2.2.2.1 = r.2.2.2.1))) = true then (some (1 : Int)) else (some (0 : Int))) = some (if a.1 = 8 ∧ a.2.2.2.2.1 ≠ r.2.2.2.1 then 1 else 0) := by
          by_cases h8 : a.1 = 8 ∧ a.2.2.2.2.1 ≠ r.2.2.2.1
          · rw [if_pos (by simp [h8.1]; exact h8.2), if_pos h8]
          · rw [if_neg (by simp; intro x; exact Decidable.byContradiction fun y => h8 ⟨x, y⟩), if_neg h8]
        rw [e8, Option.bind_some]
        have l1 := fun e => fmt_l1 e1 ok hlt (fun h => by have := rows_pick r hm h; omega) r.2.2.1 [] k e r.1 rfl (by omega) ho (by omega)
        rw [show (([] : List UInt8).length : Int) = (0 : Int) from rfl] at l1
        rw [l1, Option.bind_some]
        have pe := fmtP_eq a r.2.2.1 (if a.1 = 8 ∧ a.2.2.2.2.1 ≠ r.2.2.2.1 then 1 else 0) r.1
        rw [show (r.2.2.1.any fun l => !isT l && farB (numOf l a)) = anyFar r a from rfl] at pe
        obtain ⟨w, hw⟩ : ∃ w, fmtP a r.2.2.1 (if a.1 = 8 ∧ a.2.2.2.2.1 ≠ r.2.2.2.1 then 1 else 0) r.1 = w := ⟨_, rfl⟩
        rw [hw] at pe ⊢
        by_cases hf : (a.1 = 8 ∧ a.2.2.2.2.1 ≠ r.2.2.2.1) ∨ anyFar r a = true
        · rw [if_pos hf]
          have hw1 : w.1 = 1 := by
            rw [pe.1]
            by_cases hx : anyFar r a = true
            · rw [if_pos hx]
            · rw [if_neg hx, if_pos (hf.resolve_right hx)]
          rw [hw1]
          rfl
        · rw [if_neg hf]
          have hx : ¬ anyFar r a = true := fun x => hf (.inr x)
          have h8 : ¬ (a.1 = 8 ∧ a.2.2.2.2.1 ≠ r.2.2.2.1) := fun x => hf (.inl x)
          have hw1 : w.1 = 0 := by rw [pe.1, if_neg hx, if_neg h8]
          have hw2 : w.2 = lineW r a := pe.2 (by simpa using hx)
          rw [hw1, hw2]
          by_cases hl : 4096 < (lineW r a).length
          · rw [if_pos (by simp; omega), if_pos hl]; rfl
          · rw [if_neg (by simp; omega), if_neg hl]; rfl
    · rw [if_pos (by simp [hzz]), if_neg hzz]
theorem formatD_f {a : ActT} (ok : ActOk a) {k : Nat} (hk : 21000 < k) :
    synodref17_FormatAct.f k a.1 a.2.1 a.2.2.1 a.2.2.2.1 a.2.2.2.2.1 a.2.2.2.2.2.1 a.2.2.2.2.2.2.1 a.2.2.2.2.2.2.2.1 a.2.2.2.2.2.2.2.2 = some (fmtB a) := by
  unfold synodref17_FormatAct.f fmtB
  by_cases hk1 : a.1 < 1 ∨ 16 < a.1
  · rw [if_pos (by simpa using hk1), sel_no _ _ _ hk1]
  · have e13 : (if a.1 = (13 : Int) then (some ((decide (a.2.2.2.2.2.1 < (1 : Int))) || (decide ((4 : Int) < a.2.2.2.2.2.1)))) else (some false)) = some (decide (a.1 = 13 ∧ (a.2.2.2.2.2.1 < 1 ∨ 4 < a.2.2.2.2.2.1))) := by
      by_cases h2 : a.1 = 13
      · rw [if_pos h2]; simp [h2]
      · rw [if_neg h2]; simp [h2]
    rw [if_neg (by simpa using hk1), e13, Option.bind_some]
    by_cases h13 : a.1 = 13 ∧ (a.2.2.2.2.2.1 < 1 ∨ 4 < a.2.2.2.2.2.1)
    · rw [if_pos (decide_eq_true h13), h13.1, sel_no13 _ _ h13.2]
    · obtain ⟨r, hr, S⟩ := sel_ok a.1 a.2.2.2.2.1 a.2.2.2.2.2.1 (by omega) (fun h => by have := fun x => h13 ⟨h, x⟩; omega)
      rw [if_neg (by simpa using h13), hr, rowsD, Option.bind_some]
      have l0 := selD_l0 a.1 a.2.2.2.2.1 a.2.2.2.2.2.1 k 0 dz109 (by have := rows_len; omega) (by omega)
      simp only [List.drop_zero] at l0
      rw [show ((0 : Nat) : Int) = (0 : Int) from rfl] at l0
      rw [show synodref17_FormatAct.l0 a.1 a.2.2.2.2.1 a.2.2.2.2.2.1 rowsL k 0 ([] : List UInt8) 0 ([] : List UInt8) 0 0 = some (selD a.1 a.2.2.2.2.1 a.2.2.2.2.2.1 rowsL dz109) from l0, Option.bind_some]
      obtain ⟨r', hr'⟩ : ∃ r', selD a.1 a.2.2.2.2.1 a.2.2.2.2.2.1 rowsL dz109 = r' := ⟨_, rfl⟩
      rw [hr'] at S ⊢
      have hlt := rows_lets r' S.mem'
      have ho := rows_of_len r' S.mem'
      have hrw := rows_word r' S.mem'
      have l1 := fmtD_l1 hlt ho r'.2.2.1 [] k r'.1 a ok rfl (by omega) (by omega)
      rw [show (([] : List UInt8).length : Int) = (0 : Int) from rfl, docL_eq r'.2.2.1 r'.1 a a hlt (rows_apart r' S.mem') (fun _ _ => rfl)] at l1
      rw [l1, Option.bind_some]
      simp only [S.of, decide_true, Bool.true_and]
      have hlt2 := rows_lets r S.mem
      have za := zeroAll_eq r.2.2.1 a hlt2
      have em : ∀ z : Int, (if a.1 = (8 : Int) then (some (0 : Int)) else (some z)) = some (if a.1 = 8 then 0 else z) := fun z => by split <;> rfl
      have eo : ∀ z : Int, (if a.1 = (13 : Int) then (some (0 : Int)) else (some z)) = some (if a.1 = 13 then 0 else z) := fun z => by split <;> rfl
      rw [em, Option.bind_some, eo, Option.bind_some]
      have hz : (decide ((zeroAll r.2.2.1 a).2.1 = (0 : Int)) && (decide ((zeroAll r.2.2.1 a).2.2.1 = (0 : Int)) && (decide ((zeroAll r.2.2.1 a).2.2.2.1 = (0 : Int)) && (decide ((if a.1 = 8 then 0 else (zeroAll r.2.2.1 a).2.2.2.2.1) = (0 : Int)) && (decide ((if a.1 = 13 then 0 else (zeroAll r.2.2.1 a).2.2.2.2.2.1) = (0 : Int)) && (decide ((zeroAll r.2.2.1 a).2.2.2.2.2.2.1 = ([] : List UInt8)) && (decide ((zeroAll r.2.2.1 a).2.2.2.2.2.2.2.1 = ([] : List UInt8)) && decide ((zeroAll r.2.2.1 a).2.2.2.2.2.2.2.2 = ([] : List UInt8))))))))) = decide (zB r a) := by
        rw [Bool.eq_iff_iff]
        simp only [Bool.and_eq_true, decide_eq_true_eq]
        unfold zB
        have hop : ((if a.1 = 13 then 0 else (zeroAll r.2.2.1 a).2.2.2.2.2.1) = (0 : Int)) ↔ a.2.2.2.2.2.1 = r.2.2.2.2 := by
          rw [za]
          by_cases h : a.1 = 13
          · rw [if_pos h, S.op13 h]; simp
          · rw [if_neg h, S.opn h]
        rw [hop]
      rw [hz]
      show _ = some (fmtR r a)
      unfold fmtR
      by_cases hzz : zB r a
      · rw [if_neg (by simp [hzz]), if_pos hzz]
        have ep : (if a.1 = (2 : Int) then (some ((decide (a.2.2.2.1 < (1 : Int))) || (decide ((9 : Int) < a.2.2.2.1)))) else (some false)) = some (decide (a.1 = 2 ∧ (a.2.2.2.1 < 1 ∨ 9 < a.2.2.2.1))) := by
          by_cases h2 : a.1 = 2
          · rw [if_pos h2]; simp [h2]
          · rw [if_neg h2]; simp [h2]
        rw [ep, Option.bind_some]
        by_cases h2 : a.1 = 2 ∧ (a.2.2.2.1 < 1 ∨ 9 < a.2.2.2.1)
        · rw [if_pos (decide_eq_true h2), if_pos h2]
        · rw [if_neg (by simpa using h2), if_neg h2]
          simp only [far_f, Option.bind_some]
          have chain : ∀ (b1 b2 b3 b4 b5 : Bool) (g : Bool → Option (List UInt8 × Int)), ((if b1 = true then some true else some b2).bind fun s140v => ((if s140v = true then (some true) else some b3).bind fun s147v => ((if s147v = true then (some true) else some b4).bind fun s154v => ((if s154v = true then (some true) else (some b5)).bind fun s161v => g s161v)))) = g (b1 || b2 || b3 || b4 || b5) := by
            intro b1 b2 b3 b4 b5 g
            cases b1 <;> cases b2 <;> cases b3 <;> cases b4 <;> rfl
          rw [chain]
          have z0 : farB 0 = false := by decide
          obtain ⟨q1, q2, q3, q4, q5, q6⟩ := hzz
          rw [za] at q1 q2 q3 q4
          have hF : ((farB a.2.1 || farB a.2.2.1 || farB a.2.2.2.1 || farB a.2.2.2.2.1 || (((decide (a.1 = (8 : Int))) && (!decide (a.2.2.2.2.1 = (0 : Int)))) && (!decide (a.2.2.2.2.1 = (1 : Int))))) = true) ↔ ((a.1 = 8 ∧ a.2.2.2.2.1 ≠ r.2.2.2.1) ∨ anyFar r a = true) := by
            constructor
            · intro h
              simp only [Bool.or_eq_true, Bool.and_eq_true, decide_eq_true_eq, Bool.not_eq_true', decide_eq_false_iff_not] at h
              have mk : ∀ l, l ∈ r.2.2.1 → isT l = false → farB (numOf l a) = true → anyFar r a = true := fun l h1 h2 h3 => List.any_eq_true.2 ⟨l, h1, by rw [h2, h3]; rfl⟩
              rcases h with (((h | h) | h) | h) | h
              · by_cases h78 : 78 ∈ r.2.2.1
                · exact .inr (mk 78 h78 rfl h)
                · simp only [if_neg h78] at q1; rw [q1, z0] at h; cases h
              · by_cases h78 : 67 ∈ r.2.2.1
                · exact .inr (mk 67 h78 rfl h)
                · simp only [if_neg h78] at q2; rw [q2, z0] at h; cases h
              · by_cases h78 : 110 ∈ r.2.2.1 ∨ 112 ∈ r.2.2.1
                · rcases h78 with h78 | h78
                  · exact .inr (mk 110 h78 rfl h)
                  · exact .inr (mk 112 h78 rfl h)
                · simp only [if_neg h78] at q3; rw [q3, z0] at h; cases h
              · by_cases h8 : a.1 = 8
                · have := (S.m8 h8).1
                  refine .inl ⟨h8, fun e => ?_⟩
                  rw [e, this] at h
                  have : min (max a.2.2.2.2.1 0) 1 = 0 ∨ min (max a.2.2.2.2.1 0) 1 = 1 := by omega
                  rcases this with e | e <;> rw [e] at h <;> exact absurd h (by decide)
                · simp only [if_neg h8] at q4
                  by_cases h78 : 109 ∈ r.2.2.1
                  · exact .inr (mk 109 h78 rfl h)
                  · simp only [if_neg h78] at q4; rw [q4, z0] at h; cases h
              · refine .inl ⟨h.1.1, fun e => ?_⟩
                have := (S.m8 h.1.1).1
                omega
            · intro h
              simp only [Bool.or_eq_true, Bool.and_eq_true, decide_eq_true_eq, Bool.not_eq_true', decide_eq_false_iff_not]
              rcases h with h | h
              · have := (S.m8 h.1).1
                refine .inr ⟨⟨h.1, fun e => h.2 (by omega)⟩, fun e => h.2 (by omega)⟩
              · obtain ⟨l, h1, h2⟩ := List.any_eq_true.1 h
                simp only [Bool.and_eq_true, Bool.not_eq_true'] at h2
                rcases lets_cases (hlt2 l h1) with rfl | rfl | rfl | rfl | rfl | rfl | rfl | rfl
                · exact .inl (.inl (.inl (.inl h2.2)))
                · exact .inl (.inl (.inl (.inr h2.2)))
                · exact .inl (.inl (.inr h2.2))
                · exact .inl (.inr h2.2)
                · exact .inl (.inl (.inr h2.2))
                · exact absurd h2.1 (by decide)
                · exact absurd h2.1 (by decide)
                · exact absurd h2.1 (by decide)
          by_cases hf : (a.1 = 8 ∧ a.2.2.2.2.1 ≠ r.2.2.2.1) ∨ anyFar r a = true
          · rw [if_pos (hF.2 hf), if_pos hf]
          · rw [if_neg (fun x => hf (hF.1 x)), if_neg hf]
            have he : r' = r := S.eq.resolve_right fun h => hf (.inl ⟨h.1, fun e => by have := (S.m8 h.1).1; omega⟩)
            rw [he]
            show (if (4096 : Int) < ((lineW r a).length : Int) then _ else some (lineW r a, 0)) = _
            by_cases hl : 4096 < (lineW r a).length
            · rw [if_pos (by omega), if_pos hl]
            · rw [if_neg (by omega), if_neg hl]
      · rw [if_pos (by simp [hzz]), if_neg hzz]
end Go.Proofs.YtbcnegennmpliaaDoor

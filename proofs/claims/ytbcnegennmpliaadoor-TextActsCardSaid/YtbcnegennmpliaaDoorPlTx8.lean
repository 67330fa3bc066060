/- Lines of acts: the words of its fields, the program's and the document's. Conditions: as each says. -/
import Derived.Test.YtbcnegennmpliaaDoorPlTx7
namespace Go.Proofs.YtbcnegennmpliaaDoor
set_option linter.unusedVariables false
set_option linter.unusedSimpArgs false
open Go.RowKit
def isT (l : UInt8) : Bool := decide (l = 107) || decide (l = 118) || decide (l = 111)
def numOf (l : UInt8) (a : ActT) : Int := if l = 78 then a.2.1 else if l = 67 then a.2.2.1 else if l = 109 then a.2.2.2.2.1 else a.2.2.2.1
def txtOf (l : UInt8) (a : ActT) : List UInt8 := if l = 107 then a.2.2.2.2.2.2.1 else if l = 118 then a.2.2.2.2.2.2.2.1 else a.2.2.2.2.2.2.2.2
def fieldW (l : UInt8) (a : ActT) : List UInt8 :=
  if isT l then quoteB (txtOf l a)
  else if l = 112 then (if 1 ≤ a.2.2.2.1 ∧ a.2.2.2.1 ≤ 9 then picksL.getD (a.2.2.2.1 - 1).toNat [] else [63])
  else Lib.itoa (numOf l a)
def zeroF (l : UInt8) (a : ActT) : ActT :=
  if l = 107 then (a.1, a.2.1, a.2.2.1, a.2.2.2.1, a.2.2.2.2.1, a.2.2.2.2.2.1, [], a.2.2.2.2.2.2.2.1, a.2.2.2.2.2.2.2.2)
  else if l = 118 then (a.1, a.2.1, a.2.2.1, a.2.2.2.1, a.2.2.2.2.1, a.2.2.2.2.2.1, a.2.2.2.2.2.2.1, [], a.2.2.2.2.2.2.2.2)
  else if l = 111 then (a.1, a.2.1, a.2.2.1, a.2.2.2.1, a.2.2.2.2.1, a.2.2.2.2.2.1, a.2.2.2.2.2.2.1, a.2.2.2.2.2.2.2.1, [])
  else if l = 78 then (a.1, 0, a.2.2.1, a.2.2.2.1, a.2.2.2.2.1, a.2.2.2.2.2.1, a.2.2.2.2.2.2.1, a.2.2.2.2.2.2.2.1, a.2.2.2.2.2.2.2.2)
  else if l = 67 then (a.1, a.2.1, 0, a.2.2.2.1, a.2.2.2.2.1, a.2.2.2.2.2.1, a.2.2.2.2.2.2.1, a.2.2.2.2.2.2.2.1, a.2.2.2.2.2.2.2.2)
  else if l = 109 then (a.1, a.2.1, a.2.2.1, a.2.2.2.1, 0, a.2.2.2.2.2.1, a.2.2.2.2.2.2.1, a.2.2.2.2.2.2.2.1, a.2.2.2.2.2.2.2.2)
  else (a.1, a.2.1, a.2.2.1, 0, a.2.2.2.2.1, a.2.2.2.2.2.1, a.2.2.2.2.2.2.1, a.2.2.2.2.2.2.2.1, a.2.2.2.2.2.2.2.2)
def zeroAll (ls : List UInt8) (a : ActT) : ActT := ls.foldl (fun b l => zeroF l b) a
def farB (n : Int) : Bool := decide ((4611686018427387904 : Int) < n) || decide (n < (-4611686018427387904))
def fmtP (a : ActT) : List UInt8 → Int → List UInt8 → Int × List UInt8
  | [], e, out => (e, out)
  | l :: ls, e, out => if (!isT l && farB (numOf l a)) = true then fmtP a ls 1 out else fmtP a ls e (out ++ ([32] ++ fieldW l a))
theorem within_f (n : Int) : text_within.f n = some (!farB n) := by
  unfold text_within.f farB
  congr 1
  by_cases h1 : (4611686018427387904 : Int) < n
  · rw [decide_eq_true h1, decide_eq_false (show ¬ n ≤ 4611686018427387904 by omega)]; simp
  · rw [decide_eq_false h1, decide_eq_true (show n ≤ 4611686018427387904 by omega)]
    by_cases h2 : n < -4611686018427387904
    · rw [decide_eq_true h2, decide_eq_false (show ¬ -4611686018427387904 ≤ n by omega)]; rfl
    · rw [decide_eq_false h2, decide_eq_true (show -4611686018427387904 ≤ n by omega)]; rfl
theorem far_f (n : Int) : synodref17_far.f n = some (farB n) := rfl
structure ActOk (a : ActT) : Prop where
  num : ∀ l, -9223372036854775808 ≤ numOf l a ∧ numOf l a ≤ 9223372036854775807
  txt : ∀ l, (txtOf l a).length ≤ 20000
theorem picks_len (i : Nat) : (picksL.getD i []).length ≤ 6 := by
  rcases Nat.lt_or_ge i 9 with h | h
  · have : ((List.range 9).all fun i => decide ((picksL.getD i []).length ≤ 6)) = true := by decide +kernel
    simpa using List.all_eq_true.1 this i (List.mem_range.2 h)
  · rw [List.getD_eq_getElem?_getD, List.getElem?_eq_none (by simpa using h)]; simp
theorem itoa_len {n : Int} (h0 : -9223372036854775808 ≤ n) (h1 : n ≤ 9223372036854775807) : (Lib.itoa n).length ≤ 21 := by
  by_cases hn : n < 0
  · rw [itoa_neg' hn]; have := dec_len 19 n.natAbs (by omega); simp; omega
  · rw [itoa_pos (by omega)]; have := dec_len 19 n.toNat (by omega); omega
theorem field_len {a : ActT} (ok : ActOk a) (l : UInt8) : (fieldW l a).length ≤ 80002 := by
  unfold fieldW
  split
  · have := quote_len (txtOf l a); have := ok.txt l; omega
  · split
    · split
      · have := picks_len (a.2.2.2.1 - 1).toNat; omega
      · simp
    · have := itoa_len (ok.num l).1 (ok.num l).2; omega
abbrev NamT : Type := List UInt8 × Int × Int × Int × Int × Int × Int × List UInt8 × List UInt8 × List UInt8 × List Ty103 × Int
theorem lets_cases {l : UInt8} (hl : l ∈ lets) : l = 78 ∨ l = 67 ∨ l = 110 ∨ l = 109 ∨ l = 112 ∨ l = 107 ∨ l = 118 ∨ l = 111 := by
  simpa only [List.mem_cons, List.not_mem_nil, or_false] using hl
theorem fmt_l1 {s : NamT} {of : List UInt8} (hs : s.2.2.2.2.2.2.2.2.2.2.1 = of.map fld) {a : ActT} (ok : ActOk a) (hlt : ∀ l, l ∈ of → l ∈ lets) (h112 : 112 ∈ of → 1 ≤ a.2.2.2.1 ∧ a.2.2.2.1 ≤ 9) :
    ∀ (ls pre : List UInt8) (k : Nat) (e : Int) (out : List UInt8), of = pre ++ ls → ls.length + 20010 < k → of.length ≤ 5 → out.length + 90000 * ls.length ≤ 2 ^ 50 →
      text_FormatAct.l1 a.1 a.2.1 a.2.2.1 a.2.2.2.1 a.2.2.2.2.1 a.2.2.2.2.2.1 a.2.2.2.2.2.2.1 a.2.2.2.2.2.2.2.1 a.2.2.2.2.2.2.2.2 s k e out (pre.length : Int) = some (fmtP a ls e out)
  | _, _, 0, _, _, _, h, _, _ => by omega
  | [], pre, k + 1, e, out, hp, _, _, _ => by
    rw [text_FormatAct.l1, hs, if_neg (by rw [hp]; simp)]
    rfl
  | l :: ls, pre, k + 1, e, out, hp, hk, ho, hlen => by
    have hll : l ∈ lets := hlt l (by rw [hp]; simp)
    have hpl : pre.length < (pre ++ l :: ls).length := by simp
    have hol : of.length = (pre ++ l :: ls).length := by rw [hp]
    have ef : ∀ d, (of.map fld).getD pre.length d = fld l := fun d => by rw [hp]; simp
    rw [text_FormatAct.l1, hs]
    simp only [Int.toNat_natCast, List.length_map, ef]
    rw [if_pos (by omega), if_pos (by omega), wi1 (by omega)]
    have hfl := field_len ok l
    simp only [List.length_cons] at hk hlen
    have ih := fun e' out' (h : out'.length + 90000 * ls.length ≤ 2 ^ 50) => fmt_l1 hs ok hlt h112 ls (pre ++ [l]) k e' out' (by rw [hp]; simp) (by omega) ho h
    simp only [List.length_append, List.length_cons, List.length_nil, Nat.zero_add] at ih
    have nm := ok.num l
    rw [fmtP]
    have key : ∀ (n : Int), numOf l a = n → isT l = false → l ≠ 112 → (if farB n = true then text_FormatAct.l1 a.1 a.2.1 a.2.2.1 a.2.2.2.1 a.2.2.2.2.1 a.2.2.2.2.2.1 a.2.2.2.2.2.2.1 a.2.2.2.2.2.2.2.1 a.2.2.2.2.2.2.2.2 s k 1 out ((pre.length + 1 : Nat) : Int)
        else (strconv_Itoa.f n).bind fun w => (if ([32] : List UInt8).length + w.length ≤ 9223372036854775807 then (if out.length + (([32] : List UInt8) ++ w).length ≤ 9223372036854775807 then (text_FormatAct.l1 a.1 a.2.1 a.2.2.1 a.2.2.2.1 a.2.2.2.2.1 a.2.2.2.2.2.1 a.2.2.2.2.2.2.1 a.2.2.2.2.2.2.2.1 a.2.2.2.2.2.2.2.2 s k e (out ++ (([32] : List UInt8) ++ w)) ((pre.length + 1 : Nat) : Int)) else none) else none)) =
        some (if (!isT l && farB (numOf l a)) = true then fmtP a ls 1 out else fmtP a ls e (out ++ ([32] ++ fieldW l a))) := by
      intro n hn ht h112'
      subst hn
      rw [ht]
      by_cases hf : farB (numOf l a) = true
      · rw [if_pos hf, if_pos (by simp [hf]), ih 1 out (by omega)]
      · have ew : fieldW l a = Lib.itoa (numOf l a) := by unfold fieldW; rw [ht, if_neg Bool.false_ne_true, if_neg h112']
        rw [if_neg hf, if_neg (by simp [hf]), strconv_Itoa.f, if_pos nm, Option.bind_some, ← ew, if_pos (by simp only [List.length_cons, List.length_nil]; omega), if_pos (by simp only [List.length_append, List.length_cons, List.length_nil]; omega), ih _ _ (by simp only [List.length_append, List.length_cons, List.length_nil]; omega)]
    have keyT : ∀ (t : List UInt8), txtOf l a = t → isT l = true → ((text_Quote.f k t).bind fun w => (if ([32] : List UInt8).length + w.length ≤ 9223372036854775807 then (if out.length + (([32] : List UInt8) ++ w).length ≤ 9223372036854775807 then (text_FormatAct.l1 a.1 a.2.1 a.2.2.1 a.2.2.2.1 a.2.2.2.2.1 a.2.2.2.2.2.1 a.2.2.2.2.2.2.1 a.2.2.2.2.2.2.2.1 a.2.2.2.2.2.2.2.2 s k e (out ++ (([32] : List UInt8) ++ w)) ((pre.length + 1 : Nat) : Int)) else none) else none)) =
        some (if (!isT l && farB (numOf l a)) = true then fmtP a ls 1 out else fmtP a ls e (out ++ ([32] ++ fieldW l a))) := by
      intro t ht hT
      subst ht
      have tl := ok.txt l
      have ew : fieldW l a = quoteB (txtOf l a) := by unfold fieldW; rw [hT, if_pos rfl]
      rw [quote_f (by omega) (by omega), Option.bind_some, ← ew, if_pos (by simp only [List.length_cons, List.length_nil]; omega), if_pos (by simp only [List.length_append, List.length_cons, List.length_nil]; omega), ih _ _ (by simp only [List.length_append, List.length_cons, List.length_nil]; omega), hT, if_neg (by simp)]
    rcases lets_cases hll with rfl | rfl | rfl | rfl | rfl | rfl | rfl | rfl
    · have := key a.2.1 rfl rfl (by decide)
      rw [← this]
      simp only [fld, text_lines_1.f, within_f, Option.bind_some, if_true, Bool.not_not]
      simp
    · have := key a.2.2.1 rfl rfl (by decide)
      rw [← this]
      simp [fld, text_lines_2.f, within_f]
    · have := key a.2.2.2.1 rfl rfl (by decide)
      rw [← this]
      simp [fld, text_lines_3.f, within_f]
    · have := key a.2.2.2.2.1 rfl rfl (by decide)
      rw [← this]
      simp [fld, text_lines_4.f, within_f]
    · have h9 := h112 (by rw [hp]; simp)
      have hfar : farB a.2.2.2.1 = false := by unfold farB; rw [decide_eq_false (by omega), decide_eq_false (by omega)]; rfl
      have ew : fieldW 112 a = picksL.getD (a.2.2.2.1 - 1).toNat [] := by unfold fieldW; rw [show isT 112 = false from rfl, if_neg Bool.false_ne_true, if_pos rfl, if_pos h9]
      have e112 : numOf 112 a = a.2.2.2.1 := rfl
      have e5 : (!isT 112 && farB (numOf 112 a)) = false := by rw [e112, hfar]; rfl
      rw [e5, if_neg Bool.false_ne_true]
      have hpk : picksL.length = 9 := rfl
      simp only [show (fld 112).1 = some 69 from rfl, show (fld 112).2.1 = none from rfl, show (fld 112).2.2 = true from rfl, text_lines_5.f, within_f, hfar, Option.bind_some, picksP]
      rw [w64 (by omega) (by omega)]
      simp only [← ew, hpk]
      simp
      refine ⟨by omega, by omega, by omega, ?_⟩
      have := ih e (out ++ ([32] ++ fieldW 112 a)) (by simp only [List.length_append, List.length_cons, List.length_nil]; omega)
      simpa using this
    · have := keyT a.2.2.2.2.2.2.1 rfl rfl
      rw [← this]
      simp [fld, text_lines_6.f]
    · have := keyT a.2.2.2.2.2.2.2.1 rfl rfl
      rw [← this]
      simp [fld, text_lines_7.f]
    · have := keyT a.2.2.2.2.2.2.2.2 rfl rfl
      rw [← this]
      simp [fld, text_lines_8.f]
end Go.Proofs.YtbcnegennmpliaaDoor

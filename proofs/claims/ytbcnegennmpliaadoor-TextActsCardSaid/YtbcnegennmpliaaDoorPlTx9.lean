/- Lines of acts: which row, what is left, the program's and the document's loops. Conditions: as each says. -/
import Derived.Test.YtbcnegennmpliaaDoorPlTx8
namespace Go.Proofs.YtbcnegennmpliaaDoor
set_option linter.unusedVariables false
set_option linter.unusedSimpArgs false
open Go.RowKit
theorem fmt_l0 {s : NamT} {of : List UInt8} (hs : s.2.2.2.2.2.2.2.2.2.2.1 = of.map fld) (op : Int) (hlt : ∀ l, l ∈ of → l ∈ lets) (ho : of.length ≤ 5) :
    ∀ (ls pre : List UInt8) (k : Nat) (b : ActT), of = pre ++ ls → ls.length < k →
      text_FormatAct.l0 op s k (pre.length : Int) b.2.1 b.2.2.1 b.2.2.2.1 b.2.2.2.2.1 b.2.2.2.2.2.2.1 b.2.2.2.2.2.2.2.1 b.2.2.2.2.2.2.2.2 =
        some ((zeroAll ls b).2.1, (zeroAll ls b).2.2.1, (zeroAll ls b).2.2.2.1, (zeroAll ls b).2.2.2.2.1, (zeroAll ls b).2.2.2.2.2.2.1, (zeroAll ls b).2.2.2.2.2.2.2.1, (zeroAll ls b).2.2.2.2.2.2.2.2)
  | _, _, 0, _, _, h => by omega
  | [], pre, k + 1, b, hp, _ => by
    rw [text_FormatAct.l0, hs, if_neg (by rw [hp]; simp)]
    rfl
  | l :: ls, pre, k + 1, b, hp, hk => by
    have hll : l ∈ lets := hlt l (by rw [hp]; simp)
    have hpl : pre.length < (pre ++ l :: ls).length := by simp
    have hol : of.length = (pre ++ l :: ls).length := by rw [hp]
    have ef : ∀ d, (of.map fld).getD pre.length d = fld l := fun d => by rw [hp]; simp
    rw [text_FormatAct.l0, hs]
    simp only [Int.toNat_natCast, List.length_map, ef]
    rw [if_pos (by omega), if_pos (by omega), wi1 (by omega)]
    simp only [List.length_cons] at hk
    have ih := fmt_l0 hs op hlt ho ls (pre ++ [l]) k (zeroF l b) (by rw [hp]; simp) (by omega)
    simp only [List.length_append, List.length_cons, List.length_nil, Nat.zero_add] at ih
    have ez : zeroAll (l :: ls) b = zeroAll ls (zeroF l b) := rfl
    rw [ez, ← ih]
    rcases lets_cases hll with rfl | rfl | rfl | rfl | rfl | rfl | rfl | rfl
    · simp [fld, zeroF, text_lines_1.f]
    · simp [fld, zeroF, text_lines_2.f]
    · simp [fld, zeroF, text_lines_3.f]
    · simp [fld, zeroF, text_lines_4.f]
    · simp [fld, zeroF, text_lines_5.f]
    · simp [fld, zeroF, text_lines_6.f]
    · simp [fld, zeroF, text_lines_7.f]
    · simp [fld, zeroF, text_lines_8.f]
theorem take_f {a : ActT} (ok : ActOk a) {l : UInt8} (hl : l ∈ lets) {k : Nat} (hk : 20010 < k) :
    synodref17_take.f k a.1 a.2.1 a.2.2.1 a.2.2.2.1 a.2.2.2.2.1 a.2.2.2.2.2.1 a.2.2.2.2.2.2.1 a.2.2.2.2.2.2.2.1 a.2.2.2.2.2.2.2.2 (l.toNat : Int) = some (fieldW l a, zeroF l a) := by
  have nm := ok.num l
  have tl := ok.txt l
  unfold synodref17_take.f
  rcases lets_cases hl with rfl | rfl | rfl | rfl | rfl | rfl | rfl | rfl
  · rw [show numOf 78 a = a.2.1 from rfl] at nm
    simp [orR, strconv_Itoa.f, nm, fieldW, isT, zeroF, numOf]
  · rw [show numOf 67 a = a.2.2.1 from rfl] at nm
    simp [orR, strconv_Itoa.f, nm, fieldW, isT, zeroF, numOf]
  · rw [show numOf 110 a = a.2.2.2.1 from rfl] at nm
    simp [orR, strconv_Itoa.f, nm, fieldW, isT, zeroF, numOf]
  · rw [show numOf 109 a = a.2.2.2.2.1 from rfl] at nm
    simp [orR, strconv_Itoa.f, nm, fieldW, isT, zeroF, numOf]
  · rw [show numOf 112 a = a.2.2.2.1 from rfl] at nm
    rw [picksD]
    by_cases h : 1 ≤ a.2.2.2.1 ∧ a.2.2.2.1 ≤ 9
    · have e9 : picksL.length = 9 := rfl
      have hh : ((decide ((1 : Int) ≤ a.2.2.2.1)) && (decide (a.2.2.2.1 ≤ (9 : Int)))) = true := by simp [h]
      have hw : IntKind.i64.wrap (a.2.2.2.1 - 1) = a.2.2.2.1 - 1 := w64 (by omega) (by omega)
      rw [if_neg (by decide), if_neg (by decide), if_neg (by decide), if_pos (by decide), if_pos hh, Option.bind_some, hw, if_pos (by rw [e9]; omega)]
      unfold fieldW zeroF
      rw [show isT 112 = false from rfl, if_neg Bool.false_ne_true, if_pos rfl, if_pos h]
      rfl
    · have hh : ¬ ((decide ((1 : Int) ≤ a.2.2.2.1)) && (decide (a.2.2.2.1 ≤ (9 : Int)))) = true := by simpa using h
      rw [if_neg (by decide), if_neg (by decide), if_neg (by decide), if_pos (by decide), if_neg hh]
      unfold fieldW zeroF
      rw [show isT 112 = false from rfl, if_neg Bool.false_ne_true, if_pos rfl, if_neg h]
      rfl
  · rw [show txtOf 107 a = a.2.2.2.2.2.2.1 from rfl] at tl
    rw [if_pos (by decide), quoteD_f (by omega) (by omega)]
    rfl
  · rw [show txtOf 118 a = a.2.2.2.2.2.2.2.1 from rfl] at tl
    rw [if_neg (by decide), if_pos (by decide), quoteD_f (by omega) (by omega)]
    rfl
  · rw [show txtOf 111 a = a.2.2.2.2.2.2.2.2 from rfl] at tl
    rw [if_neg (by decide), if_neg (by decide), if_pos (by decide), quoteD_f (by omega) (by omega)]
    rfl
theorem num_zero (l q : UInt8) (a : ActT) : numOf q (zeroF l a) = 0 ∨ numOf q (zeroF l a) = numOf q a := by
  unfold zeroF
  repeat' split
  all_goals (unfold numOf; simp only []; repeat' split)
  all_goals first | exact .inl rfl | exact .inr rfl | simp
theorem txt_zero (l q : UInt8) (a : ActT) : txtOf q (zeroF l a) = [] ∨ txtOf q (zeroF l a) = txtOf q a := by
  unfold zeroF
  repeat' split
  all_goals (unfold txtOf; simp only []; repeat' split)
  all_goals first | exact .inl rfl | exact .inr rfl | simp
theorem zeroF_ok {a : ActT} (ok : ActOk a) {l : UInt8} (hl : l ∈ lets) : ActOk (zeroF l a) := by
  constructor
  · intro q
    rcases num_zero l q a with h | h
    · rw [h]; omega
    · rw [h]; exact ok.num q
  · intro q
    rcases txt_zero l q a with h | h
    · rw [h]; simp
    · rw [h]; exact ok.txt q
def docL : List UInt8 → List UInt8 → ActT → List UInt8 × ActT
  | [], out, b => (out, b)
  | l :: ls, out, b => docL ls ((out ++ [32]) ++ fieldW l b) (zeroF l b)
theorem fmtD_l1 {r : RowT} (hlt : ∀ l, l ∈ r.2.2.1 → l ∈ lets) (ho : r.2.2.1.length ≤ 5) :
    ∀ (ls pre : List UInt8) (k : Nat) (out : List UInt8) (b : ActT), ActOk b → r.2.2.1 = pre ++ ls → ls.length + 20010 < k → out.length + 90000 * ls.length ≤ 2 ^ 50 →
      synodref17_FormatAct.l1 r k out (pre.length : Int) b.1 b.2.1 b.2.2.1 b.2.2.2.1 b.2.2.2.2.1 b.2.2.2.2.2.1 b.2.2.2.2.2.2.1 b.2.2.2.2.2.2.2.1 b.2.2.2.2.2.2.2.2 = some (docL ls out b)
  | _, _, 0, _, _, _, _, h, _ => by omega
  | [], pre, k + 1, out, b, _, hp, _, _ => by
    rw [synodref17_FormatAct.l1, if_neg (by rw [hp]; simp)]
    rfl
  | l :: ls, pre, k + 1, out, b, ok, hp, hk, hlen => by
    have hll : l ∈ lets := hlt l (by rw [hp]; simp)
    have hpl : pre.length < (pre ++ l :: ls).length := by simp
    have hol : r.2.2.1.length = (pre ++ l :: ls).length := by rw [hp]
    have ef : r.2.2.1.getD pre.length 0 = l := by rw [hp]; simp
    simp only [List.length_cons] at hk hlen
    have hfl := field_len ok l
    rw [synodref17_FormatAct.l1]
    simp only [Int.toNat_natCast, ef]
    rw [if_pos (by omega), if_pos (by simp only [List.length_cons, List.length_nil]; omega), if_pos (by omega), take_f ok hll (by omega), Option.bind_some, if_pos (by simp only [List.length_append, List.length_cons, List.length_nil]; omega), wi1 (by omega)]
    have ih := fmtD_l1 hlt ho ls (pre ++ [l]) k ((out ++ [32]) ++ fieldW l b) (zeroF l b) (zeroF_ok ok hll) (by rw [hp]; simp) (by omega) (by simp only [List.length_append, List.length_cons, List.length_nil]; omega)
    simp only [List.length_append, List.length_cons, List.length_nil, Nat.zero_add] at ih
    exact ih
def apartL (l m : UInt8) : Bool := decide (l ≠ m) && !(decide (l = 110) && decide (m = 112)) && !(decide (l = 112) && decide (m = 110))
def apartAll : List UInt8 → Bool
  | [] => true
  | l :: ls => ls.all (apartL l) && apartAll ls
theorem rows_apart : ∀ r, r ∈ rowsL → apartAll r.2.2.1 = true := by
  have : (rowsL.all fun r => apartAll r.2.2.1) = true := by decide +kernel
  intro r hr
  exact List.all_eq_true.1 this r hr
theorem field_zero {l m : UInt8} (hl : l ∈ lets) (hm : m ∈ lets) (h : apartL l m = true) (b : ActT) : fieldW m (zeroF l b) = fieldW m b := by
  rcases lets_cases hl with rfl | rfl | rfl | rfl | rfl | rfl | rfl | rfl <;> rcases lets_cases hm with rfl | rfl | rfl | rfl | rfl | rfl | rfl | rfl <;> first | rfl | (exact absurd h (by decide))
theorem docL_eq : ∀ (ls out : List UInt8) (a b : ActT), (∀ l, l ∈ ls → l ∈ lets) → apartAll ls = true → (∀ l, l ∈ ls → fieldW l b = fieldW l a) →
    docL ls out b = (out ++ ls.flatMap fun l => 32 :: fieldW l a, zeroAll ls b)
  | [], out, a, b, _, _, _ => by simp [docL, zeroAll]
  | l :: ls, out, a, b, hlt, hap, hf => by
    rw [apartAll, Bool.and_eq_true] at hap
    have hl := hlt l (by simp)
    rw [docL, docL_eq ls _ a (zeroF l b) (fun m hm => hlt m (by simp [hm])) hap.2 (fun m hm => by rw [field_zero hl (hlt m (by simp [hm])) (List.all_eq_true.1 hap.1 m hm), hf m (by simp [hm])]), hf l (by simp)]
    simp [zeroAll]
theorem zeroAll_eq : ∀ (ls : List UInt8) (b : ActT), (∀ l, l ∈ ls → l ∈ lets) → zeroAll ls b =
    (b.1, if 78 ∈ ls then 0 else b.2.1, if 67 ∈ ls then 0 else b.2.2.1, if 110 ∈ ls ∨ 112 ∈ ls then 0 else b.2.2.2.1, if 109 ∈ ls then 0 else b.2.2.2.2.1, b.2.2.2.2.2.1, if 107 ∈ ls then [] else b.2.2.2.2.2.2.1, if 118 ∈ ls then [] else b.2.2.2.2.2.2.2.1, if 111 ∈ ls then [] else b.2.2.2.2.2.2.2.2)
  | [], b, _ => by simp [zeroAll]
  | l :: ls, b, hlt => by
    have ih := zeroAll_eq ls (zeroF l b) (fun m hm => hlt m (by simp [hm]))
    rw [show zeroAll (l :: ls) b = zeroAll ls (zeroF l b) from rfl, ih]
    rcases lets_cases (hlt l (by simp)) with rfl | rfl | rfl | rfl | rfl | rfl | rfl | rfl <;> simp [zeroF]
end Go.Proofs.YtbcnegennmpliaaDoor

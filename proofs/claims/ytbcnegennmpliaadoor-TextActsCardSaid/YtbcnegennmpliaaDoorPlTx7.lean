/- Acts of lines: the program's and the document's. Conditions: as each says. -/
import Derived.Test.YtbcnegennmpliaaDoorPlTx6
namespace Go.Proofs.YtbcnegennmpliaaDoor
set_option linter.unusedVariables false
set_option linter.unusedSimpArgs false
open Go.RowKit
abbrev RowT : Type := List UInt8 × Int × List UInt8 × Int × Int
def rowsL : List RowT := (synodref17_Rows.f).getD []
theorem rowsD : synodref17_Rows.f = some rowsL := rfl
def actOf (r : RowT) : ActT := (r.2.1, 0, 0, 0, r.2.2.2.1, r.2.2.2.2, [], [], [])
def toLine (r : RowT) : Ty99 := (r.1, r.2.1, 0, 0, 0, r.2.2.2.1, r.2.2.2.2, [], [], [], r.2.2.1.map fld)
theorem linesP : text_lines.f = some (rowsL.map toLine) := by kernel_rfl
theorem rows_lets : ∀ r, r ∈ rowsL → ∀ l, l ∈ r.2.2.1 → l ∈ lets := by
  have : (rowsL.all fun r => r.2.2.1.all fun l => lets.contains l) = true := by decide +kernel
  intro r hr l hl
  exact List.contains_iff_mem.1 (List.all_eq_true.1 (List.all_eq_true.1 this r hr) l hl)
theorem rows_len : rowsL.length = 20 := by decide +kernel
theorem rows_of_len : ∀ r, r ∈ rowsL → r.2.2.1.length ≤ 5 := by
  have : (rowsL.all fun r => decide (r.2.2.1.length ≤ 5)) = true := by decide +kernel
  intro r hr
  simpa using List.all_eq_true.1 this r hr
def fillAll : List UInt8 → ActT → List (List UInt8) → ActT ⊕ Int
  | [], a, _ => .inl a
  | l :: ls, a, w :: ws => match fillM l a w with
    | .inl b => fillAll ls b ws
    | .inr c => .inr c
  | _ :: _, _, [] => .inr 21
def parseR : List RowT → List (List UInt8) → ActT × Int
  | [], _ => (act0, 20)
  | r :: rs, ws =>
    if ws = [] ∨ r.1 ≠ ws.headD [] then parseR rs ws
    else if ws.length ≠ 1 + r.2.2.1.length then (act0, 21)
    else match fillAll r.2.2.1 (actOf r) (ws.drop 1) with
      | .inl a => (a, 0)
      | .inr c => (act0, c)
def parseB (x : List UInt8) : ActT × Int := if (wordsB x).2 = 0 then parseR rowsL (wordsB x).1 else (act0, (wordsB x).2)
theorem fill_ne {l : UInt8} {a : ActT} {w : List UInt8} {c : Int} (h : fillM l a w = .inr c) : c = 20 ∨ c = 22 := by
  unfold fillM at h
  split at h
  · cases h
  split at h
  · cases h
  split at h
  · cases h
  split at h
  · split at h
    · cases h
    · cases h; exact .inl rfl
  · split at h
    · cases h; exact .inr rfl
    · split at h
      · cases h
      split at h
      · cases h
      split at h <;> cases h
theorem getD_dropS {ws : List (List UInt8)} {i : Nat} {w : List UInt8} {t : List (List UInt8)} (h : ws.drop i = w :: t) : i < ws.length ∧ ws.getD i [] = w ∧ ws.drop (i + 1) = t := by
  have hl : i < ws.length := by
    rcases Nat.lt_or_ge i ws.length with hh | hh
    · exact hh
    · rw [List.drop_of_length_le hh] at h; cases h
  rw [List.drop_eq_getElem_cons hl] at h
  refine ⟨hl, ?_, (List.cons.inj h).2⟩
  rw [List.getD_eq_getElem?_getD, List.getElem?_eq_getElem hl]
  exact (List.cons.inj h).1
abbrev L1T : Type := ActT ⊕ (Unit ⊕ (Unit ⊕ (Int × Int × Int × Int × Int × Int × List UInt8 × List UInt8 × List UInt8 × Int)))
def l1res (r : ActT ⊕ Int) : L1T := match r with
  | .inl b => .inl b
  | .inr c => .inr (.inr (.inr (fl act0 c)))
theorem act_l1 {ws : List (List UInt8)} {e : Int} {lines : List Ty99} {j : Nat} {r : RowT} (hj : ∀ d, lines.getD j d = toLine r) (hwl : ws.length < 2 ^ 40) (hw : ∀ w, w ∈ ws → w.length ≤ 2 ^ 40) (hlt : ∀ l, l ∈ r.2.2.1 → l ∈ lets) :
    ∀ (ls pre : List UInt8) (wr : List (List UInt8)) (k : Nat) (a : ActT), r.2.2.1 = pre ++ ls → ws.drop (pre.length + 1) = wr → ls.length ≤ wr.length → ls.length + 25 < k →
      text_ParseAct.l1 (ws, e) lines (j : Int) k (pre.length : Int) a.1 a.2.1 a.2.2.1 a.2.2.2.1 a.2.2.2.2.1 a.2.2.2.2.2.1 a.2.2.2.2.2.2.1 a.2.2.2.2.2.2.2.1 a.2.2.2.2.2.2.2.2 = some (l1res (fillAll ls a wr))
  | _, _, _, 0, _, _, _, _, h => by omega
  | [], pre, wr, k + 1, a, hp, _, _, _ => by
    rw [text_ParseAct.l1]
    simp only [Int.toNat_natCast, hj]
    rw [if_neg (by simp [toLine, hp])]
    rfl
  | l :: ls, pre, [], k + 1, a, hp, hd, hlen, _ => by simp at hlen
  | l :: ls, pre, w :: wr, k + 1, a, hp, hd, hlen, hk => by
    obtain ⟨g1, g2, g3⟩ := getD_dropS hd
    have hwm : w ∈ ws := List.mem_of_mem_drop (by rw [hd]; simp)
    have hll : l ∈ lets := hlt l (by rw [hp]; simp)
    have hpl : pre.length < (pre ++ l :: ls).length := by simp
    rw [text_ParseAct.l1]
    simp only [Int.toNat_natCast, hj]
    have ef : ∀ d, (toLine r).2.2.2.2.2.2.2.2.2.2.getD pre.length d = fld l := fun d => by
      show (r.2.2.1.map fld).getD pre.length d = _
      rw [hp]; simp
    have el : (((toLine r).2.2.2.2.2.2.2.2.2.2).length : Int) = ((pre ++ l :: ls).length : Int) := by
      show (((r.2.2.1.map fld).length : Nat) : Int) = _
      rw [List.length_map, hp]
    rw [el, if_pos (by omega), if_pos (by omega), wi1 (by omega), if_pos (by omega)]
    simp only [Int.toNat_natCast, ef, g2]
    rw [fill_f hll a (hw w hwm) (by simp at hk; omega), Option.bind_some, fillAll]
    cases hf : fillM l a w with
    | inl b =>
      simp only [fres, if_true]
      have := act_l1 (e := e) hj hwl hw hlt ls (pre ++ [l]) wr k b (by rw [hp]; simp) (by simpa using g3) (by simp at hlen; omega) (by simp at hk; omega)
      simpa using this
    | inr c =>
      have hc0 : c ≠ 0 := by have := fill_ne hf; omega
      simp [fres, hc0, l1res, fl]
theorem actD_l1 {ws : List (List UInt8)} {e : Int} {lines : List RowT} {j : Nat} {r : RowT} (hj : ∀ d, lines.getD j d = r) (hjl : j < lines.length) (hwl : ws.length < 2 ^ 40) (hw : ∀ w, w ∈ ws → w.length ≤ 4096) (hlt : ∀ l, l ∈ r.2.2.1 → l ∈ lets) :
    ∀ (ls pre : List UInt8) (wr : List (List UInt8)) (k : Nat) (a : ActT), r.2.2.1 = pre ++ ls → ws.drop (pre.length + 1) = wr → ls.length ≤ wr.length → ls.length + 4100 < k →
      synodref17_ParseAct.l1 (ws, e) lines (j : Int) k (pre.length : Int) a.1 a.2.1 a.2.2.1 a.2.2.2.1 a.2.2.2.2.1 a.2.2.2.2.2.1 a.2.2.2.2.2.2.1 a.2.2.2.2.2.2.2.1 a.2.2.2.2.2.2.2.2 = some (l1res (fillAll ls a wr))
  | _, _, _, 0, _, _, _, _, h => by omega
  | [], pre, wr, k + 1, a, hp, _, _, _ => by
    rw [synodref17_ParseAct.l1, if_pos (by omega)]
    simp only [Int.toNat_natCast, hj]
    rw [if_neg (by rw [hp]; simp)]
    rfl
  | l :: ls, pre, [], k + 1, a, hp, hd, hlen, _ => by simp at hlen
  | l :: ls, pre, w :: wr, k + 1, a, hp, hd, hlen, hk => by
    obtain ⟨g1, g2, g3⟩ := getD_dropS hd
    have hwm : w ∈ ws := List.mem_of_mem_drop (by rw [hd]; simp)
    have hww := hw w hwm
    have hll : l ∈ lets := hlt l (by rw [hp]; simp)
    have hpl : pre.length < (pre ++ l :: ls).length := by simp
    have ef : r.2.2.1.getD pre.length 0 = l := by rw [hp]; simp
    have el : (r.2.2.1.length : Int) = ((pre ++ l :: ls).length : Int) := by rw [hp]
    rw [synodref17_ParseAct.l1, if_pos (by omega)]
    simp only [Int.toNat_natCast, hj]
    rw [el, if_pos (by omega), if_pos (by omega), if_pos (by omega), wi1 (by omega), if_pos (by omega)]
    simp only [Int.toNat_natCast, ef, g2]
    rw [set_f hll a (by omega) (by simp at hk; omega) (by simp at hk; omega), Option.bind_some, fillAll]
    cases hf : fillM l a w with
    | inl b =>
      simp only [fres, if_true]
      have := actD_l1 (e := e) hj hjl hwl hw hlt ls (pre ++ [l]) wr k b (by rw [hp]; simp) (by simpa using g3) (by simp at hlen; omega) (by simp at hk; omega)
      simpa using this
    | inr c =>
      have hc0 : c ≠ 0 := by have := fill_ne hf; omega
      simp [fres, hc0, l1res, fl]
def l0res (r : ActT × Int) : Int × Int × Int × Int × Int × Int × List UInt8 × List UInt8 × List UInt8 × Int := fl r.1 r.2
theorem getD_map_at {rs : List RowT} {i : Nat} (h : i < rs.length) (d : Ty99) : (rs.map toLine).getD i d = toLine (rs.getD i dz109) := by
  rw [List.getD_eq_getElem?_getD, List.getElem?_map, List.getD_eq_getElem?_getD, List.getElem?_eq_getElem h]; rfl
theorem getD_consR {rs : List RowT} {i : Nat} (h : i < rs.length) : rs.drop i = rs.getD i dz109 :: rs.drop (i + 1) := by
  rw [List.getD_eq_getElem?_getD, List.getElem?_eq_getElem h]
  exact List.drop_eq_getElem_cons h
theorem act_l0 {ws : List (List UInt8)} {e : Int} (hwl : ws.length < 2 ^ 40) (hw : ∀ w, w ∈ ws → w.length ≤ 2 ^ 40) : ∀ (k i : Nat), rowsL.length - i + 40 < k → i ≤ rowsL.length →
    orR (text_ParseAct.l0 (ws, e) (rowsL.map toLine) k (i : Int)) (fun _ => some (fl act0 20)) = some (l0res (parseR (rowsL.drop i) ws))
  | 0, i, h, _ => by omega
  | k + 1, i, hk, hi => by
    rw [text_ParseAct.l0, List.length_map]
    by_cases hlt : i < rowsL.length
    · have hm : rowsL.getD i dz109 ∈ rowsL := by rw [getD_at hlt]; exact List.getElem_mem hlt
      have hr := getD_consR hlt
      rw [if_pos (by omega), if_pos (by omega), hr, wi1 (by have := rows_len; omega)]
      simp only [Int.toNat_natCast, getD_map_at hlt]
      obtain ⟨r, hrr⟩ : ∃ r, rowsL.getD i dz109 = r := ⟨_, rfl⟩
      simp only [hrr] at hm hr ⊢
      rw [parseR]
      have ih := act_l0 hwl hw k (i + 1) (by omega) (by omega) (e := e)
      by_cases hws : ws = []
      · rw [if_pos (show (ws.length : Int) = 0 by simp [hws]), Option.bind_some, if_pos rfl, if_pos (Or.inl hws)]
        exact ih
      · have hne : ws.length ≠ 0 := fun h => hws (List.length_eq_zero_iff.1 h)
        have ehd : ws.getD (0 : Int).toNat [] = ws.headD [] := by cases ws <;> rfl
        rw [if_neg (by omega), if_pos (by omega), Option.bind_some, ehd]
        by_cases hh : r.1 = ws.headD []
        · have ec : (!decide ((toLine r).1 = ws.headD [])) = false := by rw [decide_eq_true (show (toLine r).1 = ws.headD [] from hh)]; rfl
          rw [ec, if_neg Bool.false_ne_true, if_neg (show ¬ (ws = [] ∨ r.1 ≠ ws.headD []) from fun h => h.elim hws fun h => h hh)]
          have ol := rows_of_len r hm
          have el : (((toLine r).2.2.2.2.2.2.2.2.2.2).length : Int) = (r.2.2.1.length : Int) := by
            show (((r.2.2.1.map fld).length : Nat) : Int) = _
            rw [List.length_map]
          rw [el, w1i (by omega)]
          by_cases hl : ws.length = 1 + r.2.2.1.length
          · rw [if_pos (by omega), if_neg (show ¬ ws.length ≠ 1 + r.2.2.1.length by omega)]
            have := act_l1 (e := e) (lines := rowsL.map toLine) (j := i) (r := r) (fun d => by rw [getD_map_at hlt, hrr]) hwl hw (rows_lets r hm) r.2.2.1 [] (ws.drop 1) k (actOf r) rfl rfl (by simp; omega) (by omega)
            simp only [actOf] at this
            rw [show (toLine r).2.1 = r.2.1 from rfl, show (toLine r).2.2.1 = 0 from rfl, show (toLine r).2.2.2.1 = 0 from rfl, show (toLine r).2.2.2.2.1 = 0 from rfl, show (toLine r).2.2.2.2.2.1 = r.2.2.2.1 from rfl, show (toLine r).2.2.2.2.2.2.1 = r.2.2.2.2 from rfl, show (toLine r).2.2.2.2.2.2.2.1 = [] from rfl, show (toLine r).2.2.2.2.2.2.2.2.1 = [] from rfl, show (toLine r).2.2.2.2.2.2.2.2.2.1 = [] from rfl]
            rw [show (([] : List UInt8).length : Int) = (0 : Int) from rfl] at this
            rw [this]
            unfold actOf
            cases fillAll r.2.2.1 (r.2.1, 0, 0, 0, r.2.2.2.1, r.2.2.2.2, [], [], []) (ws.drop 1) with
            | inl b => rfl
            | inr c => rfl
          · rw [if_neg (by omega), if_pos hl]
            rfl
        · have ec : (!decide ((toLine r).1 = ws.headD [])) = true := by rw [decide_eq_false (show ¬ (toLine r).1 = ws.headD [] from hh)]; rfl
          rw [ec, if_pos rfl, if_pos (.inr hh)]
          exact ih
    · rw [if_neg (by omega), List.drop_of_length_le (by omega)]
      rfl
theorem actD_l0 {ws : List (List UInt8)} {e : Int} (hwl : ws.length < 2 ^ 40) (hw : ∀ w, w ∈ ws → w.length ≤ 4096) : ∀ (k i : Nat), rowsL.length - i + 4200 < k → i ≤ rowsL.length →
    orR (synodref17_ParseAct.l0 (ws, e) rowsL k (i : Int)) (fun _ => some (fl act0 20)) = some (l0res (parseR (rowsL.drop i) ws))
  | 0, i, h, _ => by omega
  | k + 1, i, hk, hi => by
    rw [synodref17_ParseAct.l0]
    by_cases hlt : i < rowsL.length
    · have hm : rowsL.getD i dz109 ∈ rowsL := by rw [getD_at hlt]; exact List.getElem_mem hlt
      have hr := getD_consR hlt
      rw [if_pos (by omega), hr, wi1 (by have := rows_len; omega)]
      simp only [Int.toNat_natCast]
      obtain ⟨r, hrr⟩ : ∃ r, rowsL.getD i dz109 = r := ⟨_, rfl⟩
      simp only [hrr] at hm hr ⊢
      rw [parseR]
      have ih := actD_l0 hwl hw k (i + 1) (by omega) (by omega) (e := e)
      by_cases hws : ws = []
      · rw [if_pos (show (ws.length : Int) = 0 by simp [hws]), Option.bind_some, if_pos rfl, if_pos (Or.inl hws)]
        exact ih
      · have hne : ws.length ≠ 0 := fun h => hws (List.length_eq_zero_iff.1 h)
        have ehd : ws.getD (0 : Int).toNat [] = ws.headD [] := by cases ws <;> rfl
        rw [if_neg (by omega), if_pos (by omega), if_pos (by omega), Option.bind_some, ehd]
        by_cases hh : r.1 = ws.headD []
        · have ec : (!decide (r.1 = ws.headD [])) = false := by rw [decide_eq_true hh]; rfl
          rw [ec, if_neg Bool.false_ne_true, if_neg (show ¬ (ws = [] ∨ r.1 ≠ ws.headD []) from fun h => h.elim hws fun h => h hh), if_pos (by omega)]
          have ol := rows_of_len r hm
          rw [w64 (by omega) (by omega)]
          by_cases hl : ws.length = 1 + r.2.2.1.length
          · rw [if_pos (by omega), if_neg (show ¬ ws.length ≠ 1 + r.2.2.1.length by omega), if_pos (by omega), if_pos (by omega), if_pos (by omega)]
            have := actD_l1 (e := e) (lines := rowsL) (j := i) (r := r) (fun d => by rw [getD_at hlt, ← getD_at hlt (d := dz109), hrr]) hlt hwl hw (rows_lets r hm) r.2.2.1 [] (ws.drop 1) k (actOf r) rfl rfl (by simp; omega) (by omega)
            simp only [actOf] at this
            rw [show (([] : List UInt8).length : Int) = (0 : Int) from rfl] at this
            rw [this]
            unfold actOf
            cases fillAll r.2.2.1 (r.2.1, 0, 0, 0, r.2.2.2.1, r.2.2.2.2, [], [], []) (ws.drop 1) with
            | inl b => rfl
            | inr c => rfl
          · rw [if_neg (by omega), if_pos hl]
            rfl
        · have ec : (!decide (r.1 = ws.headD [])) = true := by rw [decide_eq_false hh]; rfl
          rw [ec, if_pos rfl, if_pos (.inr hh)]
          exact ih
    · rw [if_neg (by omega), List.drop_of_length_le (by omega)]
      rfl
theorem wd_mem : ∀ (n : Nat) (x : List UInt8) (l : List (List UInt8)), wd n x = some l → ∀ w, w ∈ l → w.length ≤ x.length
  | n, [], l, h => by rw [wd_nil] at h; cases h; intro w hw; cases hw
  | 0, c :: t, l, h => by simp [wd] at h
  | n + 1, c :: t, l, h => by
    rw [wd] at h
    split at h
    · intro w hw; have := wd_mem n t l h w hw; simp; omega
    split at h
    · cases hq : qd t with
      | none => rw [hq] at h; cases h
      | some p =>
        obtain ⟨a, r⟩ := p
        rw [hq, Option.bind_some] at h
        obtain ⟨q, eq, hal⟩ := qd_suf _ _ a r (Nat.le_refl _) hq
        have hlen := congrArg List.length eq
        simp only [List.length_append] at hlen
        split at h
        · cases hw : wd n r with
          | none => rw [hw] at h; cases h
          | some m =>
            rw [hw] at h
            simp only [Option.map_some, Option.some.injEq] at h
            subst h
            intro w hm
            rcases List.mem_cons.1 hm with rfl | hm
            · simp; omega
            · have := wd_mem n r m hw w hm
              simp; omega
        · cases h
    · split at h
      · cases hw : wd n ((c :: t).dropWhile bareB) with
        | none => rw [hw] at h; cases h
        | some m =>
          rw [hw] at h
          simp only [Option.map_some, Option.some.injEq] at h
          subst h
          have tl := tw_len bareB (c :: t)
          intro w hm
          rcases List.mem_cons.1 hm with rfl | hm
          · omega
          · have := wd_mem n _ m hw w hm
            omega
      · cases h
theorem wordsB_mem (x : List UInt8) : ∀ w, w ∈ (wordsB x).1 → w.length ≤ 4096 := by
  unfold wordsB
  split
  · intro w hw; cases hw
  · cases h : wd (x.length + 1) x with
    | none => intro w hw; simp [wres] at hw
    | some l =>
      intro w hw
      simp only [wres, List.nil_append] at hw
      have := wd_mem _ _ _ h w hw
      omega
theorem parse_f {x : List UInt8} {k : Nat} (hl : (wordsB x).1.length ≤ 4096) (hk : 2 * x.length + 5000 < k) : text_ParseAct.f k x = some (l0res (parseB x)) := by
  unfold text_ParseAct.f parseB
  rw [words_f (by omega), Option.bind_some]
  by_cases h : (wordsB x).2 = 0
  · rw [if_pos h, if_pos h, linesP, Option.bind_some]
    have := act_l0 (ws := (wordsB x).1) (e := (wordsB x).2) (by omega) (fun w hw => by have := wordsB_mem x w hw; omega) k 0 (by have := rows_len; omega) (by omega)
    exact this
  · rw [if_neg h, if_neg h]; rfl
theorem parseD_f {x : List UInt8} {k : Nat} (hl : (wordsB x).1.length ≤ 4096) (hk : 2 * x.length + 5000 < k) : synodref17_ParseAct.f k x = some (l0res (parseB x)) := by
  unfold synodref17_ParseAct.f parseB
  rw [wordsD_f (by omega), Option.bind_some]
  by_cases h : (wordsB x).2 = 0
  · rw [if_pos h, if_pos h, rowsD, Option.bind_some]
    have := actD_l0 (ws := (wordsB x).1) (e := (wordsB x).2) (by omega) (wordsB_mem x) k 0 (by have := rows_len; omega) (by omega)
    exact this
  · rw [if_neg h, if_neg h]; rfl
end Go.Proofs.YtbcnegennmpliaaDoor

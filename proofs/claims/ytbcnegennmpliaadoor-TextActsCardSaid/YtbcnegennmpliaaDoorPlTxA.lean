/- Lines of acts: the rows that are picked. Conditions: as each says. -/
import Derived.Test.YtbcnegennmpliaaDoorPlTx9
namespace Go.Proofs.YtbcnegennmpliaaDoor
set_option linter.unusedVariables false
set_option linter.unusedSimpArgs false
open Go.RowKit
def selP (kind m op : Int) : List RowT → Int → RowT ⊕ Int
  | [], e => .inr e
  | r :: rs, e =>
    if r.2.1 = kind then (if kind = 13 ∧ r.2.2.2.2 ≠ op then selP kind m op rs 20 else if kind = 8 ∧ r.2.2.2.1 ≠ min (max m 0) 1 then selP kind m op rs e else .inl r)
    else selP kind m op rs e
def selD (kind m op : Int) : List RowT → RowT → RowT
  | [], c => c
  | r :: rs, c => selD kind m op rs (if r.2.1 = kind ∧ (kind = 13 → r.2.2.2.2 = op) ∧ (kind = 8 → r.2.2.2.1 = m ∨ c.1 = []) then r else c)
def nam (t : Ty99) (e : Int) : NamT := (t.1, t.2.1, t.2.2.1, t.2.2.2.1, t.2.2.2.2.1, t.2.2.2.2.2.1, t.2.2.2.2.2.2.1, t.2.2.2.2.2.2.2.1, t.2.2.2.2.2.2.2.2.1, t.2.2.2.2.2.2.2.2.2.1, t.2.2.2.2.2.2.2.2.2.2, e)
def named0 (e : Int) : NamT := ([], 0, 0, 0, 0, 0, 0, [], [], [], [], e)
def selRes (r : RowT ⊕ Int) : NamT := match r with
  | .inl r => nam (toLine r) 0
  | .inr e => named0 e
theorem named_l0 (kind m op : Int) : ∀ (k i : Nat) (e : Int), rowsL.length - i < k → i ≤ rowsL.length →
    orR (text_named.l0 kind m op (rowsL.map toLine) k e (i : Int)) (fun e' => some (named0 e')) = some (selRes (selP kind m op (rowsL.drop i) e))
  | 0, i, e, h, _ => by omega
  | k + 1, i, e, hk, hi => by
    rw [text_named.l0, List.length_map]
    by_cases hlt : i < rowsL.length
    · have hr := getD_consR hlt
      rw [if_pos (by omega), if_pos (by omega), hr, wi1 (by have := rows_len; omega)]
      simp only [Int.toNat_natCast, getD_map_at hlt]
      obtain ⟨r, hrr⟩ : ∃ r, rowsL.getD i dz109 = r := ⟨_, rfl⟩
      simp only [hrr] at hr ⊢
      have ih := fun e' => named_l0 kind m op k (i + 1) e' (by omega) (by omega)
      rw [selP]
      by_cases h1 : r.2.1 = kind
      · rw [if_pos (show (toLine r).2.1 = kind from h1), if_pos h1]
        by_cases h2 : kind = 13 ∧ r.2.2.2.2 ≠ op
        · rw [if_pos (by simp [h2.1]; exact h2.2), if_pos h2, ih]
        · rw [if_neg (by simp; intro a; exact Decidable.byContradiction fun b => h2 ⟨a, b⟩), if_neg h2]
          by_cases h3 : kind = 8 ∧ r.2.2.2.1 ≠ min (max m 0) 1
          · rw [if_pos (by simp [h3.1]; exact h3.2), if_pos h3, ih]
          · rw [if_neg (by simp; intro a; exact Decidable.byContradiction fun b => h3 ⟨a, b⟩), if_neg h3]
            rfl
      · rw [if_neg (show ¬ (toLine r).2.1 = kind from h1), if_neg h1, ih]
    · rw [if_neg (by omega), List.drop_of_length_le (by omega)]
      rfl
theorem named_f (a : ActT) {k : Nat} (hk : 20 < k) : text_named.f k a.1 a.2.1 a.2.2.1 a.2.2.2.1 a.2.2.2.2.1 a.2.2.2.2.2.1 a.2.2.2.2.2.2.1 a.2.2.2.2.2.2.2.1 a.2.2.2.2.2.2.2.2 = some (selRes (selP a.1 a.2.2.2.2.1 a.2.2.2.2.2.1 rowsL 6)) := by
  unfold text_named.f
  rw [linesP, Option.bind_some]
  exact named_l0 a.1 a.2.2.2.2.1 a.2.2.2.2.2.1 k 0 6 (by have := rows_len; omega) (by omega)
theorem selD_l0 (kind m op : Int) : ∀ (k i : Nat) (c : RowT), rowsL.length - i < k → i ≤ rowsL.length →
    synodref17_FormatAct.l0 kind m op rowsL k (i : Int) c.1 c.2.1 c.2.2.1 c.2.2.2.1 c.2.2.2.2 = some (selD kind m op (rowsL.drop i) c)
  | 0, i, c, h, _ => by omega
  | k + 1, i, c, hk, hi => by
    rw [synodref17_FormatAct.l0]
    by_cases hlt : i < rowsL.length
    · have hr := getD_consR hlt
      rw [if_pos (by omega), hr, wi1 (by have := rows_len; omega)]
      simp only [Int.toNat_natCast]
      obtain ⟨r, hrr⟩ : ∃ r, rowsL.getD i dz109 = r := ⟨_, rfl⟩
      simp only [hrr] at hr ⊢
      have ih := fun c' => selD_l0 kind m op k (i + 1) c' (by omega) (by omega)
      have hb : (0 ≤ (i : Int) ∧ (i : Int) < (rowsL.length : Int)) := by omega
      rw [selD]
      simp only [if_pos hb]
      by_cases h1 : r.2.1 = kind
      · by_cases h13 : kind = 13
        · have h8 : kind ≠ 8 := by omega
          by_cases ho : r.2.2.2.2 = op
          · simp only [if_pos h1, if_pos h13, if_pos ho, if_neg h8, Option.bind_some, if_true]
            rw [if_pos ⟨h1, fun _ => ho, fun h => absurd h h8⟩]
            exact ih r
          · simp only [if_pos h1, if_pos h13, if_neg ho, Option.bind_some, Bool.false_eq_true, if_false]
            rw [if_neg (fun h => ho (h.2.1 h13))]
            exact ih c
        · by_cases h8 : kind = 8
          · simp only [if_pos h1, if_neg h13, if_pos h8, Option.bind_some]
            by_cases hm : r.2.2.2.1 = m ∨ c.1 = []
            · rw [if_pos (by simpa using hm), if_pos ⟨h1, fun h => absurd h h13, fun _ => hm⟩]
              exact ih r
            · rw [if_neg (by simpa using hm), if_neg (fun h => hm (h.2.2 h8))]
              exact ih c
          · simp only [if_pos h1, if_neg h13, if_neg h8, Option.bind_some, if_true]
            rw [if_pos ⟨h1, fun h => absurd h h13, fun h => absurd h h8⟩]
            exact ih r
      · simp only [if_neg h1, Option.bind_some, Bool.false_eq_true, if_false]
        rw [if_neg (fun h => h1 h.1)]
        exact ih c
    · rw [if_neg (by omega), List.drop_of_length_le (by omega)]
      rfl
structure Sel (kind m op : Int) (r r' : RowT) : Prop where
  mem : r ∈ rowsL
  of : r'.2.2.1 = r.2.2.1
  mem' : r' ∈ rowsL
  k : r.2.1 = kind
  eq : r' = r ∨ (kind = 8 ∧ m < 0)
  op13 : kind = 13 → r.2.2.2.2 = op
  opn : kind ≠ 13 → r.2.2.2.2 = 0
  m8 : kind = 8 → r.2.2.2.1 = min (max m 0) 1 ∧ 109 ∉ r.2.2.1
  p : 112 ∈ r.2.2.1 → kind = 2
theorem sel_at (kind m op : Int) (i : Nat) (hi : i < rowsL.length) (h8 : kind ≠ 8) (h1 : selP kind m op rowsL 6 = .inl (rowsL.getD i dz109)) (h2 : selD kind m op rowsL dz109 = rowsL.getD i dz109)
    (hk : (rowsL.getD i dz109).2.1 = kind) (h13 : kind = 13 → (rowsL.getD i dz109).2.2.2.2 = op) (hn : kind ≠ 13 → (rowsL.getD i dz109).2.2.2.2 = 0) (hp : 112 ∈ (rowsL.getD i dz109).2.2.1 → kind = 2) :
    ∃ r, selP kind m op rowsL 6 = .inl r ∧ Sel kind m op r (selD kind m op rowsL dz109) := by
  have hm : rowsL.getD i dz109 ∈ rowsL := by rw [getD_at hi]; exact List.getElem_mem hi
  refine ⟨_, h1, ?_⟩
  rw [h2]
  exact ⟨hm, rfl, hm, hk, .inl rfl, h13, hn, fun h => absurd h h8, hp⟩
theorem selP_skip (kind m op : Int) : ∀ (pre rs : List RowT) (e : Int), (∀ r, r ∈ pre → r.2.1 ≠ kind) → selP kind m op (pre ++ rs) e = selP kind m op rs e
  | [], rs, e, _ => rfl
  | r :: pre, rs, e, h => by
    rw [List.cons_append, selP, if_neg (h r (by simp))]
    exact selP_skip kind m op pre rs e fun x hx => h x (by simp [hx])
theorem selD_skip (kind m op : Int) : ∀ (pre rs : List RowT) (c : RowT), (∀ r, r ∈ pre → r.2.1 ≠ kind) → selD kind m op (pre ++ rs) c = selD kind m op rs c
  | [], rs, c, _ => rfl
  | r :: pre, rs, c, h => by
    rw [List.cons_append, selD, if_neg (fun x => h r (by simp) x.1)]
    exact selD_skip kind m op pre rs c fun x hx => h x (by simp [hx])
theorem sel_ok (kind m op : Int) (h : 1 ≤ kind ∧ kind ≤ 16) (h13 : kind = 13 → 1 ≤ op ∧ op ≤ 4) : ∃ r, selP kind m op rowsL 6 = .inl r ∧ Sel kind m op r (selD kind m op rowsL dz109) := by
  have hl := rows_len
  have hc : kind = 1 ∨ kind = 2 ∨ kind = 3 ∨ kind = 4 ∨ kind = 5 ∨ kind = 6 ∨ kind = 7 ∨ kind = 8 ∨ kind = 9 ∨ kind = 10 ∨ kind = 11 ∨ kind = 12 ∨ kind = 13 ∨ kind = 14 ∨ kind = 15 ∨ kind = 16 := by omega
  rcases hc with rfl | rfl | rfl | rfl | rfl | rfl | rfl | rfl | rfl | rfl | rfl | rfl | rfl | rfl | rfl | rfl
  · exact sel_at 1 m op 0 (by omega) (by decide) (by kernel_rfl) (by kernel_rfl) (by decide +kernel) (fun h => absurd h (by decide)) (fun _ => by decide +kernel) (by decide +kernel)
  · exact sel_at 2 m op 1 (by omega) (by decide) (by kernel_rfl) (by kernel_rfl) (by decide +kernel) (fun h => absurd h (by decide)) (fun _ => by decide +kernel) (by decide +kernel)
  · exact sel_at 3 m op 2 (by omega) (by decide) (by kernel_rfl) (by kernel_rfl) (by decide +kernel) (fun h => absurd h (by decide)) (fun _ => by decide +kernel) (by decide +kernel)
  · exact sel_at 4 m op 3 (by omega) (by decide) (by kernel_rfl) (by kernel_rfl) (by decide +kernel) (fun h => absurd h (by decide)) (fun _ => by decide +kernel) (by decide +kernel)
  · exact sel_at 5 m op 4 (by omega) (by decide) (by kernel_rfl) (by kernel_rfl) (by decide +kernel) (fun h => absurd h (by decide)) (fun _ => by decide +kernel) (by decide +kernel)
  · exact sel_at 6 m op 5 (by omega) (by decide) (by kernel_rfl) (by kernel_rfl) (by decide +kernel) (fun h => absurd h (by decide)) (fun _ => by decide +kernel) (by decide +kernel)
  · exact sel_at 7 m op 6 (by omega) (by decide) (by kernel_rfl) (by kernel_rfl) (by decide +kernel) (fun h => absurd h (by decide)) (fun _ => by decide +kernel) (by decide +kernel)
  · obtain ⟨lk, hlk⟩ : ∃ r, rowsL.getD 7 dz109 = r := ⟨_, rfl⟩
    obtain ⟨ct, hct⟩ : ∃ r, rowsL.getD 8 dz109 = r := ⟨_, rfl⟩
    have e : rowsL = rowsL.take 7 ++ (lk :: ct :: rowsL.drop 9) := by rw [← hlk, ← hct]; kernel_rfl
    have f1 : ∀ r, r ∈ rowsL.take 7 → r.2.1 ≠ 8 := by decide +kernel
    have f2 : ∀ r, r ∈ rowsL.drop 9 → r.2.1 ≠ 8 := by decide +kernel
    have g1 : lk.2.1 = 8 ∧ lk.2.2.2.1 = 1 ∧ lk.2.2.2.2 = 0 ∧ lk.1 ≠ [] ∧ lk.2.2.1 = [78, 110] := by rw [← hlk]; decide +kernel
    have g2 : ct.2.1 = 8 ∧ ct.2.2.2.1 = 0 ∧ ct.2.2.2.2 = 0 ∧ ct.1 ≠ [] ∧ ct.2.2.1 = [78, 110] := by rw [← hct]; decide +kernel
    have m1 : lk ∈ rowsL := by rw [e]; simp
    have m2 : ct ∈ rowsL := by rw [e]; simp
    have eP : selP 8 m op rowsL 6 = if (1 : Int) = min (max m 0) 1 then .inl lk else .inl ct := by
      rw [e, selP_skip 8 m op _ _ _ f1, selP, if_pos g1.1, if_neg (fun h => absurd h.1 (by decide)), g1.2.1]
      by_cases hm : (1 : Int) = min (max m 0) 1
      · rw [if_neg (fun h => h.2 hm), if_pos hm]
      · rw [if_pos ⟨rfl, hm⟩, if_neg hm, selP, if_pos g2.1, if_neg (fun h => absurd h.1 (by decide)), g2.2.1, if_neg (fun h => h.2 (by omega))]
    have eD : selD 8 m op rowsL dz109 = if (0 : Int) = m then ct else lk := by
      rw [e, selD_skip 8 m op _ _ _ f1, selD, if_pos ⟨g1.1, fun h => absurd h (by decide), fun _ => .inr rfl⟩, selD]
      have : rowsL.drop 9 = rowsL.drop 9 ++ [] := by simp
      by_cases hm : (0 : Int) = m
      · rw [if_pos ⟨g2.1, fun h => absurd h (by decide), fun _ => .inl (by rw [g2.2.1]; exact hm)⟩, if_pos hm, this, selD_skip 8 m op _ _ _ f2]; rfl
      · rw [if_neg (fun h => (h.2.2 rfl).elim (fun x => hm (by rw [← g2.2.1]; exact x)) g1.2.2.2.1), if_neg hm, this, selD_skip 8 m op _ _ _ f2]; rfl
    rw [eP, eD]
    by_cases hm1 : (1 : Int) = min (max m 0) 1
    · rw [if_pos hm1, if_neg (by omega)]
      exact ⟨lk, rfl, m1, rfl, m1, g1.1, .inl rfl, fun h => absurd h (by decide), fun _ => g1.2.2.1, fun _ => ⟨g1.2.1.trans hm1, by rw [g1.2.2.2.2]; decide⟩, by rw [g1.2.2.2.2]; decide⟩
    · rw [if_neg hm1]
      by_cases hm0 : (0 : Int) = m
      · rw [if_pos hm0]
        exact ⟨ct, rfl, m2, rfl, m2, g2.1, .inl rfl, fun h => absurd h (by decide), fun _ => g2.2.2.1, fun _ => ⟨by rw [g2.2.1]; omega, by rw [g2.2.2.2.2]; decide⟩, by rw [g2.2.2.2.2]; decide⟩
      · rw [if_neg hm0]
        exact ⟨ct, rfl, m2, by rw [g1.2.2.2.2, g2.2.2.2.2], m1, g2.1, .inr ⟨rfl, by omega⟩, fun h => absurd h (by decide), fun _ => g2.2.2.1, fun _ => ⟨by rw [g2.2.1]; omega, by rw [g2.2.2.2.2]; decide⟩, by rw [g2.2.2.2.2]; decide⟩
  · exact sel_at 9 m op 9 (by omega) (by decide) (by kernel_rfl) (by kernel_rfl) (by decide +kernel) (fun h => absurd h (by decide)) (fun _ => by decide +kernel) (by decide +kernel)
  · exact sel_at 10 m op 10 (by omega) (by decide) (by kernel_rfl) (by kernel_rfl) (by decide +kernel) (fun h => absurd h (by decide)) (fun _ => by decide +kernel) (by decide +kernel)
  · exact sel_at 11 m op 12 (by omega) (by decide) (by kernel_rfl) (by kernel_rfl) (by decide +kernel) (fun h => absurd h (by decide)) (fun _ => by decide +kernel) (by decide +kernel)
  · exact sel_at 12 m op 11 (by omega) (by decide) (by kernel_rfl) (by kernel_rfl) (by decide +kernel) (fun h => absurd h (by decide)) (fun _ => by decide +kernel) (by decide +kernel)
  · have ho := h13 rfl
    have hc2 : op = 1 ∨ op = 2 ∨ op = 3 ∨ op = 4 := by omega
    rcases hc2 with rfl | rfl | rfl | rfl
    · exact sel_at 13 m 1 13 (by omega) (by decide) (by kernel_rfl) (by kernel_rfl) (by decide +kernel) (fun _ => by decide +kernel) (fun h => absurd rfl h) (by decide +kernel)
    · exact sel_at 13 m 2 15 (by omega) (by decide) (by kernel_rfl) (by kernel_rfl) (by decide +kernel) (fun _ => by decide +kernel) (fun h => absurd rfl h) (by decide +kernel)
    · exact sel_at 13 m 3 14 (by omega) (by decide) (by kernel_rfl) (by kernel_rfl) (by decide +kernel) (fun _ => by decide +kernel) (fun h => absurd rfl h) (by decide +kernel)
    · exact sel_at 13 m 4 16 (by omega) (by decide) (by kernel_rfl) (by kernel_rfl) (by decide +kernel) (fun _ => by decide +kernel) (fun h => absurd rfl h) (by decide +kernel)
  · exact sel_at 14 m op 17 (by omega) (by decide) (by kernel_rfl) (by kernel_rfl) (by decide +kernel) (fun h => absurd h (by decide)) (fun _ => by decide +kernel) (by decide +kernel)
  · exact sel_at 15 m op 18 (by omega) (by decide) (by kernel_rfl) (by kernel_rfl) (by decide +kernel) (fun h => absurd h (by decide)) (fun _ => by decide +kernel) (by decide +kernel)
  · exact sel_at 16 m op 19 (by omega) (by decide) (by kernel_rfl) (by kernel_rfl) (by decide +kernel) (fun h => absurd h (by decide)) (fun _ => by decide +kernel) (by decide +kernel)
theorem sel_no (kind m op : Int) (h : kind < 1 ∨ 16 < kind) : selP kind m op rowsL 6 = .inr 6 := by
  have f : ∀ r, r ∈ rowsL → 1 ≤ r.2.1 ∧ r.2.1 ≤ 16 := by decide +kernel
  have := selP_skip kind m op rowsL [] 6 fun r hr => by have := f r hr; omega
  rw [List.append_nil] at this
  exact this
theorem selP_13 (m op : Int) : ∀ (rs : List RowT) (e : Int), (∀ r, r ∈ rs → r.2.1 = 13 → r.2.2.2.2 ≠ op) → selP 13 m op rs e = .inr (if rs.any (fun r => decide (r.2.1 = 13)) then 20 else e)
  | [], e, _ => rfl
  | r :: rs, e, h => by
    rw [selP]
    by_cases h1 : r.2.1 = 13
    · rw [if_pos h1, if_pos ⟨rfl, h r (by simp) h1⟩, selP_13 m op rs 20 fun x hx => h x (by simp [hx])]
      simp [h1]
    · rw [if_neg h1, selP_13 m op rs e fun x hx => h x (by simp [hx])]
      simp only [List.any_cons, decide_eq_false h1, Bool.false_or]
theorem sel_no13 (m op : Int) (h : op < 1 ∨ 4 < op) : selP 13 m op rowsL 6 = .inr 20 := by
  have f : ∀ r, r ∈ rowsL → r.2.1 = 13 → 1 ≤ r.2.2.2.2 ∧ r.2.2.2.2 ≤ 4 := by decide +kernel
  have g : (rowsL.any fun r => decide (r.2.1 = 13)) = true := by decide +kernel
  rw [selP_13 m op rowsL 6 fun r hr h1 => by have := f r hr h1; omega, g]; rfl
end Go.Proofs.YtbcnegennmpliaaDoor

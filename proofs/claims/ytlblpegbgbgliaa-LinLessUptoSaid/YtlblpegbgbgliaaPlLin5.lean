/- Histories: an order of a key's operations, without the search; the judgement of a history, without it. Conditions: as each says. -/
import Derived.Test.YtlblpegbgbgliaaPlLin2
namespace Go.Proofs.Ytlblpegbgbgliaa
set_option linter.unusedVariables false
set_option linter.unusedSimpArgs false
open Go.RowKit
/-- a may stand ahead of b. -/
def prec (a b : OpT) : Prop := isO b = true ∨ ¬ oBack b < oCall a
def run : Bool → List UInt8 → List OpT → Prop
  | _, _, [] => True
  | t, v, x :: l => okR x (stp t v x).2.2 = true ∧ run (stp t v x).1 (stp t v x).2.1 l
theorem comp_iff {l : List OpT} : ∀ (o : List Nat) (m : Nat) (t : Bool) (v : List UInt8), comp l m t v o ↔ (∀ i ∈ o, i < l.length ∧ m.testBit i = false) ∧ o.Nodup ∧ run t v (o.map fun i => l.getD i op0) ∧
    (∀ k, k < l.length → isO (l.getD k op0) = true ∨ m.testBit k = true ∨ k ∈ o) ∧ o.Pairwise (fun i j => prec (l.getD i op0) (l.getD j op0)) ∧ ∀ i ∈ o, prec (l.getD i op0) (l.getD i op0)
  | [], m, t, v => by
    simp only [comp, whole, List.all_eq_true, List.mem_range'_1, Bool.or_eq_true, List.not_mem_nil, or_false, List.map_nil, run, List.nodup_nil, List.Pairwise.nil, true_and, and_true]
    constructor
    · intro h
      exact ⟨fun i hi => absurd hi (by simp), fun k hk => h k ⟨by omega, by omega⟩, fun i hi => absurd hi (by simp)⟩
    · intro h k hk
      exact h.2.1 k (by omega)
  | i :: o, m, t, v => by
    have ih := comp_iff (l := l) o (m ||| 2 ^ i) (stp t v (l.getD i op0)).1 (stp t v (l.getD i op0)).2.1
    have hbit : ∀ k, (m ||| 2 ^ i).testBit k = (m.testBit k || decide (i = k)) := fun k => by rw [Nat.testBit_or, Nat.testBit_two_pow]
    simp only [comp]
    rw [ih]
    simp only [hbit, List.map_cons, run, List.nodup_cons, List.pairwise_cons, List.mem_cons, may, Bool.and_eq_true, Bool.not_eq_true', List.all_eq_true, List.mem_range'_1, mayP, Bool.or_eq_true, Bool.or_eq_false_iff, decide_eq_true_eq, decide_eq_false_iff_not]
    constructor
    · rintro ⟨h1, ⟨h2, h3⟩, h4, h5, h6, h7, h8, h9, h10⟩
      refine ⟨?_, ⟨?_, h6⟩, ⟨h4, h7⟩, ?_, ⟨?_, h9⟩, ?_⟩
      · rintro j (rfl | hj)
        · exact ⟨h1, h2⟩
        · exact ⟨(h5 j hj).1, (h5 j hj).2.1⟩
      · intro hi; exact (h5 i hi).2.2 rfl
      · intro k hk
        rcases h8 k hk with h | (h | h) | h
        · exact .inl h
        · exact .inr (.inl h)
        · exact .inr (.inr (.inl h.symm))
        · exact .inr (.inr (.inr h))
      · intro j hj
        rcases h3 j ⟨by omega, by have := (h5 j hj).1; omega⟩ with (h | h) | h
        · exact .inl h
        · rw [(h5 j hj).2.1] at h; cases h
        · exact .inr h
      · rintro j (rfl | hj)
        · rcases h3 j ⟨by omega, by omega⟩ with (h | h) | h
          · exact .inl h
          · rw [h2] at h; cases h
          · exact .inr h
        · exact h10 j hj
    · rintro ⟨h1, ⟨h2, h3⟩, ⟨h4, h5⟩, h6, ⟨h7, h8⟩, h9⟩
      refine ⟨(h1 i (.inl rfl)).1, ⟨(h1 i (.inl rfl)).2, ?_⟩, h4, ?_, h3, h5, ?_, h8, fun j hj => h9 j (.inr hj)⟩
      · intro k hk
        rcases h6 k (by omega) with h | h | h | h
        · exact .inl (.inl h)
        · exact .inl (.inr h)
        · subst h
          rcases h9 k (.inl rfl) with h | h
          · exact .inl (.inl h)
          · exact .inr h
        · rcases h7 k h with h | h
          · exact .inl (.inl h)
          · exact .inr h
      · intro j hj
        exact ⟨(h1 j (.inr hj)).1, (h1 j (.inr hj)).2, fun e => h2 (e ▸ hj)⟩
      · intro k hk
        rcases h6 k hk with h | h | h | h
        · exact .inl h
        · exact .inr (.inl (.inl h))
        · exact .inr (.inl (.inr h.symm))
        · exact .inr (.inr h)
/-- Permuted lists by their places. -/
theorem perm_idx {α : Type} (d : α) {l n : List α} (h : l.Perm n) : ∃ p : List Nat, p.Perm (List.range l.length) ∧ n = p.map fun i => l.getD i d := by
  induction h with
  | nil => exact ⟨[], by simp, rfl⟩
  | cons x _ ih =>
    obtain ⟨p, h1, h2⟩ := ih
    refine ⟨0 :: p.map (· + 1), ?_, ?_⟩
    · rw [List.length_cons, List.range_succ_eq_map]
      exact (h1.map _).cons 0
    · rw [List.map_cons, List.map_map, h2]
      simp
  | swap x y l =>
    refine ⟨1 :: 0 :: (List.range l.length).map (· + 2), ?_, ?_⟩
    · rw [List.length_cons, List.length_cons, List.range_succ_eq_map, List.range_succ_eq_map, List.map_cons, List.map_map]
      exact List.Perm.swap _ _ _
    · rw [List.map_cons, List.map_cons, List.map_map]
      simp only [List.getD_cons_succ, List.getD_cons_zero]
      refine congrArg _ (congrArg _ ?_)
      apply List.ext_getElem
      · simp
      · intro i h1 h2
        simp [h1]
  | trans h1 _ ih1 ih2 =>
    obtain ⟨p, a1, a2⟩ := ih1
    obtain ⟨q, b1, b2⟩ := ih2
    refine ⟨q.map fun i => p.getD i 0, ?_, ?_⟩
    · have hl := h1.length_eq
      have hp : (List.range p.length).map (fun i => p.getD i 0) = p := by
        apply List.ext_getElem
        · simp
        · intro i h1 h2; simp at h1; simp [h1]
      have e := a1.length_eq
      rw [List.length_range] at e
      have := b1.map fun i => p.getD i 0
      rw [← hl, ← e, hp] at this
      exact this.trans a1
    · rw [b2, List.map_map]
      refine List.map_congr_left fun i hi => ?_
      have hi' : i < p.length := by
        have := (b1.mem_iff).1 hi
        rw [List.mem_range, a2, List.length_map] at this
        exact this
      rw [a2]
      simp [hi']
def LinP (L : List OpT) : Prop := ∃ M R : List OpT, L.Perm (M ++ R) ∧ (∀ x ∈ R, isO x = true) ∧ run false [] M ∧ M.Pairwise prec ∧ ∀ x ∈ M, prec x x
theorem LinP.perm {L L' : List OpT} (h : LinP L) (p : L'.Perm L) : LinP L' := by
  obtain ⟨M, R, h1, h2⟩ := h
  exact ⟨M, R, p.trans h1, h2⟩
theorem LinP.nil : LinP [] := ⟨[], [], List.Perm.refl _, by simp, trivial, List.Pairwise.nil, by simp⟩
theorem range_at (l : List OpT) : (List.range l.length).map (fun i => l.getD i op0) = l := by
  apply List.ext_getElem
  · simp
  · intro i h1 h2; simp [h2]
theorem linP_of_comp {l : List OpT} {o : List Nat} (h : comp l 0 false [] o) : l.Perm ((o.map fun i => l.getD i op0) ++ (((List.range l.length).filter fun k => !decide (k ∈ o)).map fun i => l.getD i op0)) ∧
    (∀ x ∈ (((List.range l.length).filter fun k => !decide (k ∈ o)).map fun i => l.getD i op0), isO x = true) := by
  obtain ⟨h1, h2, h3, h4, h5, h6⟩ := (comp_iff o 0 false []).1 h
  constructor
  · have hp : (List.range l.length).Perm (o ++ (List.range l.length).filter fun k => !decide (k ∈ o)) := by
      refine (List.perm_ext_iff_of_nodup List.nodup_range ?_).2 fun k => ?_
      · refine List.nodup_append.2 ⟨h2, List.nodup_range.filter _, fun a ha b hb => ?_⟩
        rw [List.mem_filter] at hb
        rintro rfl
        simp [ha] at hb
      · rw [List.mem_append, List.mem_filter, List.mem_range]
        constructor
        · intro hk
          by_cases hm : k ∈ o
          · exact .inl hm
          · exact .inr ⟨hk, by simp [hm]⟩
        · rintro (hk | hk)
          · exact (h1 k hk).1
          · exact hk.1
    have := hp.map fun i => l.getD i op0
    rwa [range_at, List.map_append] at this
  · intro x hx
    rw [List.mem_map] at hx
    obtain ⟨k, hk, rfl⟩ := hx
    rw [List.mem_filter, List.mem_range] at hk
    rcases h4 k hk.1 with h | h | h
    · exact h
    · simp at h
    · simp [h] at hk
theorem linP_iff (l : List OpT) : (∃ o, comp l 0 false [] o) ↔ LinP l := by
  constructor
  · rintro ⟨o, h⟩
    obtain ⟨a, b⟩ := linP_of_comp h
    obtain ⟨h1, h2, h3, h4, h5, h6⟩ := (comp_iff o 0 false []).1 h
    refine ⟨_, _, a, b, h3, ?_, ?_⟩
    · exact List.pairwise_map.2 h5
    · intro x hx
      rw [List.mem_map] at hx
      obtain ⟨i, hi, rfl⟩ := hx
      exact h6 i hi
  · rintro ⟨M, R, hp, hR, hr, hq, hs⟩
    obtain ⟨p, h1, h2⟩ := perm_idx op0 hp
    refine ⟨p.take M.length, (comp_iff _ _ _ _).2 ?_⟩
    have hM : (p.take M.length).map (fun i => l.getD i op0) = M := by
      rw [List.map_take, ← h2, List.take_left']; rfl
    have hD : (p.drop M.length).map (fun i => l.getD i op0) = R := by
      rw [List.map_drop, ← h2, List.drop_left']; rfl
    have hnd : p.Nodup := h1.nodup_iff.2 List.nodup_range
    refine ⟨fun i hi => ⟨List.mem_range.1 (h1.mem_iff.1 (List.mem_of_mem_take hi)), by simp⟩, hnd.sublist (List.take_sublist _ _), by rw [hM]; exact hr, fun k hk => ?_, ?_, ?_⟩
    · have hk' : k ∈ p := h1.mem_iff.2 (List.mem_range.2 hk)
      rw [← List.take_append_drop M.length p] at hk'
      rcases List.mem_append.1 hk' with h | h
      · exact .inr (.inr h)
      · refine .inl (hR _ ?_)
        rw [← hD]
        exact List.mem_map_of_mem (f := fun i => l.getD i op0) h
    · rw [← hM] at hq
      exact List.pairwise_map.1 hq
    · intro i hi
      refine hs _ ?_
      rw [← hM]
      exact List.mem_map_of_mem (f := fun i => l.getD i op0) hi
/-! ### The judgement -/
def kp (key : List UInt8) (x : OpT) : Bool := decide (oKey x = key) && cnt x
theorem range'_at (l : List OpT) : (List.range' 0 l.length).map (fun i => l.getD i op0) = l := by
  rw [← List.range_eq_range']; exact range_at l
theorem opsL_eq (h : List OpT) (key : List UInt8) : opsL h key = h.filter (kp key) := by
  unfold opsL ofL ofR
  rw [List.map_map]
  have e : h.filter (kp key) = ((List.range' 0 h.length).map (fun i => h.getD i op0)).filter (kp key) := by rw [range'_at]
  rw [e, List.filter_map]
  refine List.map_congr_left fun i _ => ?_
  simp
theorem ofL_length (h : List OpT) (key : List UInt8) : (ofL h key).length = (h.filter (kp key)).length := by rw [← opsL_eq, opsL_len]
theorem expl_iff {h : List OpT} {key : List UInt8} (hh : h.length ≤ 600) (h12 : (ofL h key).length ≤ 12) : (explL h key).2 = true ↔ LinP (h.filter (kp key)) := by
  rw [← opsL_eq, ← linP_iff]
  rcases (explain_eq hh h12 (Nat.le_refl 6000)).2 with ⟨o, ho, e⟩ | ⟨hno, e⟩
  · rw [e]; exact ⟨fun _ => ⟨o, ho.1⟩, fun _ => rfl⟩
  · rw [e]
    constructor
    · intro h; cases h
    · rintro ⟨o, ho⟩; exact absurd ho (hno o)
theorem badL_iff : ∀ h : List OpT, badL h = 0 ↔ ∀ x ∈ h, bad x = 0
  | [] => by simp [badL]
  | x :: l => by
    unfold badL
    have ih := badL_iff l
    by_cases hx : bad x = 0
    · rw [if_pos hx, ih]; simp [hx]
    · rw [if_neg hx]; simp [hx]
theorem validL_iff (h : List OpT) : validL h = 0 ↔ h.length ≤ 400 ∧ (∀ x ∈ h, bad x = 0) ∧ ∀ key, (h.filter (kp key)).length ≤ 12 := by
  constructor
  · intro hv
    obtain ⟨a, b, c⟩ := validL_12 hv
    exact ⟨a, (badL_iff h).1 b, fun key => by rw [← ofL_length]; exact c key⟩
  · rintro ⟨a, b, c⟩
    unfold validL
    rw [if_neg (by omega), if_neg (by rw [(badL_iff h).2 b]; simp), if_neg]
    rw [List.any_eq_true]
    rintro ⟨key, _, hc⟩
    have := c key
    rw [← ofL_length] at this
    have := of_decide_eq_true hc
    omega
def Judged (h : List OpT) : Prop := ∀ key, LinP (h.filter (kp key))
theorem judged_iff {h : List OpT} (hv : validL h = 0) : (keysL h).all (fun key => (explL h key).2) = true ↔ Judged h := by
  obtain ⟨a, _, c⟩ := validL_12 hv
  rw [List.all_eq_true]
  constructor
  · intro hk key
    by_cases hm : key ∈ keysL h
    · exact (expl_iff (by omega) (c key)).1 (hk key hm)
    · have : h.filter (kp key) = [] := by
        rw [List.filter_eq_nil_iff]
        intro x hx hc
        unfold kp at hc
        simp only [Bool.and_eq_true, decide_eq_true_eq] at hc
        exact hm (((keysL_P h).2 key).2 ⟨x, hx, hc.2, hc.1⟩)
      rw [this]; exact LinP.nil
  · intro hj key _
    exact (expl_iff (by omega) (c key)).2 (hj key)
open Classical in
theorem Check_eq' {h : List OpT} (hh : h.length ≤ 600) (hl : ∀ x ∈ h, (oKey x).length ≤ 140737488351232) {k : Nat} (hk : 7000 ≤ k) :
    ∃ yes : Bool, lin_Check.f k h = some (yes, validL h) ∧ (validL h = 0 → (yes = true ↔ Judged h)) ∧ (validL h ≠ 0 → yes = false) := by
  rw [Check_eq hh hl hk]
  by_cases hv : validL h = 0
  · rw [if_pos hv]
    exact ⟨_, by rw [hv], fun _ => judged_iff hv, fun h => absurd hv h⟩
  · rw [if_neg hv]
    exact ⟨_, rfl, fun h => absurd h hv, fun _ => rfl⟩
end Go.Proofs.Ytlblpegbgbgliaa

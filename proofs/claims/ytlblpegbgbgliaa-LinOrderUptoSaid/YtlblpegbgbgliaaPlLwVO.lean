/- The plain law LinOrder. Conditions: as it says. -/
import Derived.Test.YtlblpegbgbgliaaPlLin7
import Derived.Test.YtlblpegbgbgliaaPlLwW0
namespace Go.Proofs.Ytlblpegbgbgliaa
set_option linter.unusedVariables false
set_option linter.unusedSimpArgs false
open Go.RowKit
/-- Which numbers were seen. -/
def SeenP (n : Nat) (s : List Int) (p : List Nat) : Prop := s.length = n ∧ ∀ j, j < n → ((0 : Int) < s.getD j 0 ↔ j ∈ p) ∧ (s.getD j 0 = 0 ↔ j ∉ p)
theorem seen_set {n : Nat} {s : List Int} {p : List Nat} (h : SeenP n s p) {i : Nat} (hi : i < n) : SeenP n (s.set i 1) (p ++ [i]) := by
  obtain ⟨h1, h2⟩ := h
  refine ⟨by simpa using h1, fun j hj => ?_⟩
  have e : (s.set i 1).getD j 0 = if i = j then 1 else s.getD j 0 := by
    rw [getD_at (by simp; omega), List.getElem_set]
    by_cases hij : i = j
    · simp [hij]
    · rw [if_neg hij, if_neg hij, getD_at (by omega)]
  rw [e]
  by_cases hij : i = j
  · subst hij; simp
  · rw [if_neg hij]
    have : j ∈ p ++ [i] ↔ j ∈ p := by
      rw [List.mem_append, List.mem_singleton]
      exact ⟨fun h => h.resolve_right fun e => hij e.symm, .inl⟩
    rw [this]; exact h2 j hj
theorem keeps_l1 {h : List OpT} {l : List Int} {s5 : List Int × Bool × List UInt8 × Int} {n : Nat} (hh : h.length ≤ 600) (hll : l.length ≤ 6000) (hn : l.getD s5.2.2.2.toNat 0 = (n : Int)) (hnh : n < h.length) : ∀ (d j k : Nat), j + d = l.length → d + 1 ≤ k →
    ∃ r, synodlaw16_keeps.l1 h l s5 k (j : Int) = some r ∧ ((r = .inl () ∧ ∀ m ∈ l.drop j, ∀ i : Nat, m = (i : Int) → i < h.length → prec (h.getD n op0) (h.getD i op0)) ∨ (r = .inr (.inr (.inr false)) ∧ ∃ m ∈ l.drop j, ∃ i : Nat, m = (i : Int) ∧ i < h.length ∧ ¬ prec (h.getD n op0) (h.getD i op0)))
  | d, j, 0, _, hk => by omega
  | 0, j, k + 1, hd, _ => by
    simp only [synodlaw16_keeps.l1]
    rw [if_neg (by omega), List.drop_of_length_le (by omega)]
    exact ⟨_, rfl, .inl ⟨rfl, fun m hm => absurd hm (by simp)⟩⟩
  | d + 1, j, k + 1, hd, hk => by
    have e : ((j : Int) + 1) = ((j + 1 : Nat) : Int) := by omega
    obtain ⟨r, ih1, ih2⟩ := keeps_l1 (s5 := s5) hh hll hn hnh d (j + 1) k (by omega) (by omega)
    simp only [synodlaw16_keeps.l1]
    rw [if_pos (by omega), if_pos (by omega), w64 (n := (j : Int) + 1) (by omega) (by omega), e, drop_at (show j < l.length by omega) 0]
    simp only [Int.toNat_natCast, hn]
    obtain ⟨m, hm⟩ : ∃ m, l.getD j 0 = m := ⟨_, rfl⟩
    simp only [hm]
    have cont : (∀ i : Nat, m = (i : Int) → i < h.length → prec (h.getD n op0) (h.getD i op0)) → ∃ r', synodlaw16_keeps.l1 h l s5 k ((j + 1 : Nat) : Int) = some r' ∧ ((r' = .inl () ∧ ∀ m' ∈ m :: l.drop (j + 1), ∀ i : Nat, m' = (i : Int) → i < h.length → prec (h.getD n op0) (h.getD i op0)) ∨ (r' = .inr (.inr (.inr false)) ∧ ∃ m' ∈ m :: l.drop (j + 1), ∃ i : Nat, m' = (i : Int) ∧ i < h.length ∧ ¬ prec (h.getD n op0) (h.getD i op0))) := by
      intro hp
      refine ⟨r, ih1, ?_⟩
      rcases ih2 with ⟨a, b⟩ | ⟨a, m', b, c⟩
      · refine .inl ⟨a, fun m' hm' => ?_⟩
        rcases List.mem_cons.1 hm' with rfl | hm'
        · exact hp
        · exact b m' hm'
      · exact .inr ⟨a, m', List.mem_cons_of_mem _ b, c⟩
    by_cases hr : 0 ≤ m ∧ m < (h.length : Int)
    · obtain ⟨i, rfl⟩ := Int.eq_ofNat_of_zero_le hr.1
      have hi : i < h.length := by omega
      rw [if_pos (by rw [decide_eq_true hr.1, decide_eq_true hr.2]; rfl), if_pos hr]
      simp only [Int.toNat_natCast]
      by_cases ho : oBack (h.getD i op0) = 0
      · rw [if_pos ho, Option.bind_some, if_neg (by simp)]
        refine cont fun i' hi' hl' => ?_
        obtain rfl : i = i' := by omega
        exact .inl (decide_eq_true ho)
      · rw [if_neg ho, if_pos hr, if_pos (by omega), Option.bind_some]
        by_cases hc : oBack (h.getD i op0) < oCall (h.getD n op0)
        · rw [if_pos (decide_eq_true hc)]
          refine ⟨_, rfl, .inr ⟨rfl, _, List.mem_cons_self, i, rfl, hi, ?_⟩⟩
          rintro (hp | hp)
          · exact ho (of_decide_eq_true hp)
          · exact hp hc
        · rw [if_neg (by rw [decide_eq_false hc]; simp)]
          refine cont fun i' hi' hl' => ?_
          obtain rfl : i = i' := by omega
          exact .inr hc
    · rw [if_neg (by rw [Bool.and_eq_true, decide_eq_true_eq, decide_eq_true_eq]; exact hr), Option.bind_some, if_neg (by simp)]
      exact cont fun i hi hl => by omega
theorem keeps_l0 {h : List OpT} {key : List UInt8} {l : List Int} (hh : h.length ≤ 600) (hll : l.length ≤ 6000) : ∀ (d i k : Nat) (s : List Int) (p : List Nat) (t : Bool) (v : List UInt8), i + d = l.length → SeenP h.length s p → d + l.length + 2 ≤ k →
    ∃ r, synodlaw16_keeps.l0 h key l k s t v (i : Int) = some r ∧ ((∃ q : List Nat, l.drop i = q.map (fun (j : Nat) => (j : Int)) ∧ KeepQ h key p t v q ∧ ∃ s', r = .inl s' ∧ SeenP h.length s' (p ++ q)) ∨ ((∀ q : List Nat, l.drop i = q.map (fun (j : Nat) => (j : Int)) → ¬ KeepQ h key p t v q) ∧ r = .inr false))
  | d, i, 0, _, _, _, _, _, _, hk => by omega
  | 0, i, k + 1, s, p, t, v, hd, hs, _ => by
    simp only [synodlaw16_keeps.l0]
    rw [if_neg (by omega), List.drop_of_length_le (by omega)]
    exact ⟨_, rfl, .inl ⟨[], rfl, keepQ_nil _ _ _ _ _, s, rfl, by simpa using hs⟩⟩
  | d + 1, i, k + 1, s, p, t, v, hd, hs, hk => by
    have e : ((i : Int) + 1) = ((i + 1 : Nat) : Int) := by omega
    have hil : i < l.length := by omega
    simp only [synodlaw16_keeps.l0]
    rw [if_pos (by omega), if_pos (by omega), w64 (n := (i : Int) + 1) (by omega) (by omega), e, drop_at hil 0]
    simp only [Int.toNat_natCast]
    obtain ⟨m, hm⟩ : ∃ m, l.getD i 0 = m := ⟨_, rfl⟩
    simp only [hm]
    have stop : (∀ (n : Nat) (q : List Nat), m = (n : Int) → ¬ KeepQ h key p t v (n :: q)) → ∀ q : List Nat, m :: l.drop (i + 1) = q.map (fun (j : Nat) => (j : Int)) → ¬ KeepQ h key p t v q := by
      intro hn q hq
      match q, hq with
      | [], hq => simp at hq
      | n :: q, hq => exact hn n q (by simp at hq; exact hq.1)
    by_cases hr : 0 ≤ m ∧ m < (h.length : Int)
    · obtain ⟨n, rfl⟩ := Int.eq_ofNat_of_zero_le hr.1
      have hnh : n < h.length := by omega
      have hsn := hs.2 n hnh
      rw [if_neg (by rw [Bool.or_eq_true, decide_eq_true_eq, decide_eq_true_eq]; omega), hs.1, if_pos (by omega), Option.bind_some]
      simp only [Int.toNat_natCast]
      by_cases h1 : n ∈ p
      · rw [if_pos (decide_eq_true (hsn.1.2 h1)), Option.bind_some, if_pos rfl, Option.bind_some, if_pos rfl]
        refine ⟨_, rfl, .inr ⟨stop fun n' q hn' hq => ?_, rfl⟩⟩
        obtain rfl : n = n' := by omega
        exact (keepQ_cons.1 hq).1.2.2 h1
      rw [if_neg (by rw [decide_eq_true_eq, hsn.1]; exact h1), if_pos hr, Option.bind_some]
      obtain ⟨x, hx⟩ : ∃ x, h.getD n op0 = x := ⟨_, rfl⟩
      simp only [hx]
      by_cases h2 : oKey x = key
      · rw [if_neg (by rw [decide_eq_true h2]; simp), if_pos hr, cnt_eq x, Option.bind_some, Option.bind_some]
        by_cases h3 : cnt x = true
        · rw [if_neg (by rw [h3]; simp), if_pos (by omega)]
          obtain ⟨r1, a1, a2⟩ := keeps_l1 (s5 := (s, t, v, (i : Int))) (n := n) hh hll (by simpa using hm) hnh (l.length - (i + 1)) (i + 1) k (by omega) (by omega)
          rw [a1]
          rcases a2 with ⟨rfl, a2⟩ | ⟨rfl, m', hm', i', rfl, hi', hp⟩
          · simp only [orR]
            rw [if_pos hr, stp_eq t v x, Option.bind_some]
            have hok : ∀ (o : Option (Option Bool)), True := fun _ => trivial
            have cond : ((if 0 ≤ (n : Int) ∧ (n : Int) < (h.length : Int) then (if oBack x = (0 : Int) then (some false) else (if 0 ≤ (n : Int) ∧ (n : Int) < (h.length : Int) then (some (!(decide ((stp t v x).2.2.1 = oCode x) && (decide ((stp t v x).2.2.2 = oRv x))))) else none)) else none) : Option Bool) = some (!okR x (stp t v x).2.2) := by
              rw [if_pos hr]
              unfold okR isO
              by_cases ho : oBack x = 0
              · rw [if_pos ho, decide_eq_true ho]; rfl
              · rw [if_neg ho, if_pos hr, decide_eq_false ho, Bool.false_or]
            rw [cond, Option.bind_some]
            by_cases h4 : okR x (stp t v x).2.2 = true
            · rw [if_neg (by rw [h4]; simp)]
              obtain ⟨r2, b1, b2⟩ := keeps_l0 (key := key) hh hll d (i + 1) k (s.set n 1) (p ++ [n]) (stp t v x).1 (stp t v x).2.1 (by omega) (seen_set hs hnh) (by omega)
              refine ⟨r2, b1, ?_⟩
              rcases b2 with ⟨q, c1, c2, s', c3, c4⟩ | ⟨c1, c2⟩
              · refine .inl ⟨n :: q, by rw [List.map_cons, c1], keepQ_cons.2 ⟨⟨hnh, ?_, h1⟩, by rw [hx]; exact h4, fun j hj => ?_, by rw [hx]; exact c2⟩, s', c3, by rw [List.append_cons]; exact c4⟩
                · unfold inK; rw [hx, decide_eq_true h2, h3]; rfl
                · exact a2 (j : Int) (by rw [c1]; exact List.mem_map_of_mem hj) j rfl (c2.mem j hj).1
              · refine .inr ⟨?_, c2⟩
                intro q hq
                match q, hq with
                | [], hq => simp at hq
                | n' :: q, hq =>
                  simp only [List.map_cons, List.cons.injEq] at hq
                  obtain rfl : n = n' := by omega
                  intro hK
                  have := (keepQ_cons.1 hK).2.2.2
                  rw [hx] at this
                  exact c1 q hq.2 this
            · rw [if_pos (by rw [Bool.eq_false_iff.2 h4]; rfl)]
              refine ⟨_, rfl, .inr ⟨stop fun n' q hn' hq => ?_, rfl⟩⟩
              obtain rfl : n = n' := by omega
              have := (keepQ_cons.1 hq).2.1
              rw [hx] at this
              exact h4 this
          · simp only [orR]
            refine ⟨_, rfl, .inr ⟨?_, rfl⟩⟩
            intro q hq
            match q, hq with
            | [], hq => simp at hq
            | n' :: q, hq =>
              simp only [List.map_cons, List.cons.injEq] at hq
              obtain rfl : n = n' := by omega
              intro hK
              rw [hq.2] at hm'
              obtain ⟨j, hj, hje⟩ := List.mem_map.1 hm'
              obtain rfl : j = i' := by omega
              exact hp ((keepQ_cons.1 hK).2.2.1 j hj)
        · rw [if_pos (by rw [Bool.eq_false_iff.2 h3]; rfl)]
          refine ⟨_, rfl, .inr ⟨stop fun n' q hn' hq => ?_, rfl⟩⟩
          obtain rfl : n = n' := by omega
          have := (keepQ_cons.1 hq).1.2.1
          unfold inK at this
          rw [hx, Bool.and_eq_true] at this
          exact h3 this.2
      · rw [if_pos (by rw [decide_eq_false h2]; rfl), Option.bind_some, if_pos rfl]
        refine ⟨_, rfl, .inr ⟨stop fun n' q hn' hq => ?_, rfl⟩⟩
        obtain rfl : n = n' := by omega
        have := (keepQ_cons.1 hq).1.2.1
        unfold inK at this
        rw [hx, Bool.and_eq_true, decide_eq_true_eq] at this
        exact h2 this.1
    · rw [if_pos (by rw [Bool.or_eq_true, decide_eq_true_eq, decide_eq_true_eq]; omega), Option.bind_some, if_pos rfl, Option.bind_some, if_pos rfl, Option.bind_some, if_pos rfl]
      refine ⟨_, rfl, .inr ⟨stop fun n' q hn' hq => ?_, rfl⟩⟩
      have := (keepQ_cons.1 hq).1.1
      omega
theorem keeps_l2 {h : List OpT} {key : List UInt8} {s : List Int} {p : List Nat} (hh : h.length ≤ 600) (hs : SeenP h.length s p) : ∀ (d i k : Nat), i + d = h.length → d + 1 ≤ k →
    ∃ r, synodlaw16_keeps.l2 h key s k (i : Int) = some r ∧ ((r = .inl () ∧ ∀ j, i ≤ j → j < h.length → inK h key j = true → isO (h.getD j op0) = true ∨ j ∈ p) ∨ (r = .inr false ∧ ∃ j, j < h.length ∧ inK h key j = true ∧ ¬ (isO (h.getD j op0) = true ∨ j ∈ p)))
  | d, i, 0, _, hk => by omega
  | 0, i, k + 1, hd, _ => by
    simp only [synodlaw16_keeps.l2]
    rw [if_neg (by omega)]
    exact ⟨_, rfl, .inl ⟨rfl, fun j h1 h2 => by omega⟩⟩
  | d + 1, i, k + 1, hd, hk => by
    have e : ((i : Int) + 1) = ((i + 1 : Nat) : Int) := by omega
    have hil : i < h.length := by omega
    obtain ⟨r, ih1, ih2⟩ := keeps_l2 (key := key) hh hs d (i + 1) k (by omega) (by omega)
    have hsi := hs.2 i hil
    simp only [synodlaw16_keeps.l2]
    rw [if_pos (by omega), if_pos (by omega), w64 (n := (i : Int) + 1) (by omega) (by omega), e, hs.1]
    simp only [Int.toNat_natCast]
    obtain ⟨x, hx⟩ : ∃ x, h.getD i op0 = x := ⟨_, rfl⟩
    simp only [hx]
    have cont : (inK h key i = true → isO x = true ∨ i ∈ p) → ∃ r, synodlaw16_keeps.l2 h key s k ((i + 1 : Nat) : Int) = some r ∧ ((r = .inl () ∧ ∀ j, i ≤ j → j < h.length → inK h key j = true → isO (h.getD j op0) = true ∨ j ∈ p) ∨ (r = .inr false ∧ ∃ j, j < h.length ∧ inK h key j = true ∧ ¬ (isO (h.getD j op0) = true ∨ j ∈ p))) := by
      intro hc
      refine ⟨r, ih1, ?_⟩
      rcases ih2 with ⟨a, b⟩ | h'
      · refine .inl ⟨a, fun j h1 h2 h3 => ?_⟩
        by_cases hj : j = i
        · subst hj; rw [hx]; exact hc h3
        · exact b j (by omega) h2 h3
      · exact .inr h'
    have hin : inK h key i = (decide (oKey x = key) && cnt x) := by unfold inK; rw [hx]
    rw [hin] at cont
    by_cases h1 : oKey x = key
    · rw [if_pos h1, if_pos (by omega), cnt_eq x, Option.bind_some, Option.bind_some]
      by_cases h2 : cnt x = true
      · rw [if_pos h2, if_pos (by omega), Option.bind_some]
        by_cases h3 : oBack x = 0
        · rw [if_neg (by rw [decide_eq_true h3]; simp), Option.bind_some, if_neg (by simp)]
          exact cont fun _ => .inl (decide_eq_true h3)
        · rw [if_pos (by rw [decide_eq_false h3]; rfl), if_pos (by omega), Option.bind_some]
          by_cases h4 : i ∈ p
          · rw [if_neg (by rw [decide_eq_true_eq, hsi.2]; exact fun h => h h4)]
            exact cont fun _ => .inr h4
          · rw [if_pos (decide_eq_true (hsi.2.2 h4))]
            refine ⟨_, rfl, .inr ⟨rfl, i, hil, by rw [hin, decide_eq_true h1, h2]; rfl, ?_⟩⟩
            rw [hx]
            rintro (h | h)
            · exact h3 (of_decide_eq_true h)
            · exact h4 h
      · rw [if_neg h2, Option.bind_some, if_neg (by simp), Option.bind_some, if_neg (by simp)]
        exact cont fun hc => absurd (by rw [Bool.and_eq_true] at hc; exact hc.2) h2
    · rw [if_neg h1, Option.bind_some, if_neg (by simp), Option.bind_some, if_neg (by simp), Option.bind_some, if_neg (by simp)]
      exact cont fun hc => absurd (by rw [Bool.and_eq_true, decide_eq_true_eq] at hc; exact hc.1) h1
theorem keeps_eq {h : List OpT} {key : List UInt8} {l : List Int} (hh : h.length ≤ 600) (hll : l.length ≤ 5000) {k : Nat} (hk : 20000 ≤ k) : ∃ b : Bool, synodlaw16_keeps.f k h key l = some b ∧ (b = true ↔ KP h key l) := by
  unfold synodlaw16_keeps.f
  rw [if_pos (by omega)]
  simp only [Int.toNat_natCast]
  have hs0 : SeenP h.length (List.replicate h.length (0 : Int)) [] := by
    refine ⟨by simp, fun j hj => ?_⟩
    rw [getD_at (by simpa using hj)]
    simp
  obtain ⟨r, a1, a2⟩ := keeps_l0 (key := key) (l := l) hh (by omega) l.length 0 k (List.replicate h.length (0 : Int)) [] false [] (by omega) hs0 (by omega)
  rw [show ((0 : Nat) : Int) = 0 from rfl] at a1
  rw [List.drop_zero] at a2
  rw [a1]
  rcases a2 with ⟨q, b1, b2, s', rfl, b4⟩ | ⟨b1, rfl⟩
  · simp only [orR]
    rw [List.nil_append] at b4
    obtain ⟨r2, c1, c2⟩ := keeps_l2 (key := key) hh b4 h.length 0 k (by omega) (by omega)
    rw [show ((0 : Nat) : Int) = 0 from rfl] at c1
    rw [c1]
    rcases c2 with ⟨rfl, c2⟩ | ⟨rfl, j, d1, d2, d3⟩
    · exact ⟨true, rfl, fun _ => ⟨q, b1, b2, fun j hj hi => c2 j (by omega) hj hi⟩, fun _ => rfl⟩
    · refine ⟨false, rfl, (fun h => absurd h (by simp)), ?_⟩
      rintro ⟨q', e1, e2, e3⟩
      have : q' = q := by
        rw [b1] at e1
        exact (List.map_inj_right (fun a b hab => by omega)).1 e1.symm
      rw [this] at e3
      exact absurd (e3 j d1 d2) d3
  · refine ⟨false, rfl, (fun h => absurd h (by simp)), ?_⟩
    rintro ⟨q', e1, e2, e3⟩
    exact absurd e2 (b1 q' e1)
theorem ahead_l0 {a b : List Int} (ha : a.length ≤ 5000) (hb : b.length ≤ 5000) : ∀ (d i k : Nat), i + d = min a.length b.length → d + 1 ≤ k → ∃ c : Bool, (orR (synodlaw16_ahead.l0 a b k (i : Int)) fun _ => some (decide ((a.length : Int) < (b.length : Int)))) = some c ∧ (c = true ↔ lexI (a.drop i) (b.drop i))
  | d, i, 0, _, hk => by omega
  | 0, i, k + 1, hd, _ => by
    simp only [synodlaw16_ahead.l0]
    rw [if_neg (by rw [Bool.and_eq_true, decide_eq_true_eq, decide_eq_true_eq]; omega)]
    simp only [orR]
    refine ⟨_, rfl, ?_⟩
    rw [decide_eq_true_eq]
    by_cases h1 : i = a.length
    · rw [List.drop_of_length_le (l := a) (by omega)]
      by_cases h2 : i = b.length
      · rw [List.drop_of_length_le (l := b) (by omega)]
        exact ⟨fun h => absurd h (by omega), fun h => h.elim⟩
      · rw [drop_at (l := b) (show i < b.length by omega) 0]
        exact ⟨fun _ => trivial, fun _ => by omega⟩
    · rw [drop_at (l := a) (show i < a.length by omega) 0, List.drop_of_length_le (l := b) (by omega)]
      exact ⟨fun h => absurd h (by omega), fun h => h.elim⟩
  | d + 1, i, k + 1, hd, hk => by
    have e : ((i : Int) + 1) = ((i + 1 : Nat) : Int) := by omega
    obtain ⟨c, ih1, ih2⟩ := ahead_l0 ha hb d (i + 1) k (by omega) (by omega)
    simp only [synodlaw16_ahead.l0]
    rw [if_pos (by rw [Bool.and_eq_true, decide_eq_true_eq, decide_eq_true_eq]; omega), if_pos (by omega), if_pos (by omega), w64 (n := (i : Int) + 1) (by omega) (by omega), e, drop_at (l := a) (show i < a.length by omega) 0, drop_at (l := b) (show i < b.length by omega) 0]
    simp only [Int.toNat_natCast]
    by_cases h1 : a.getD i 0 = b.getD i 0
    · rw [if_pos h1]
      refine ⟨c, ih1, ?_⟩
      rw [ih2]
      simp only [lexI]
      constructor
      · exact fun h => .inr ⟨h1, h⟩
      · rintro (h | h)
        · omega
        · exact h.2
    · rw [if_neg h1, if_pos (by omega), if_pos (by omega)]
      simp only [orR]
      refine ⟨_, rfl, ?_⟩
      rw [decide_eq_true_eq]
      simp only [lexI]
      constructor
      · exact .inl
      · rintro (h | h)
        · exact h
        · exact absurd h.1 h1
theorem ahead_eq {a b : List Int} (ha : a.length ≤ 5000) (hb : b.length ≤ 5000) {k : Nat} (hk : 6000 ≤ k) : ∃ c : Bool, synodlaw16_ahead.f k a b = some c ∧ (c = true ↔ lexI a b) := by
  unfold synodlaw16_ahead.f
  obtain ⟨c, h1, h2⟩ := ahead_l0 ha hb (min a.length b.length) 0 k (by omega) (by omega)
  rw [show ((0 : Nat) : Int) = 0 from rfl] at h1
  exact ⟨c, h1, by simpa using h2⟩
theorem pure_LinOrder (h : List OpT) (hh : h.length * 112 ≤ reachBytes ∧ ∀ e ∈ h, Ok35 e) (key : List UInt8) (hkey : key.length ≤ reachBytes) (l : List Int) {Q : Int → Prop} (hl2 : l.length * 8 ≤ reachBytes ∧ ∀ e ∈ l, Q e) (hu : Mu.mu h + Mu.mu key + Mu.mu l ≤ 1048576) : ∃ k, synodlaw16_LinOrder.f k h key l = some true := by
  refine ⟨29940 + 60, ?_⟩
  have hr : reachBytes < 2 ^ 47 := by decide
  have hl : ∀ x ∈ h, (oKey x).length ≤ 140737488351232 := fun x hx => (hh.2 x hx).2.2.2.1
  unfold synodlaw16_LinOrder.f
  obtain ⟨b, hf, hb⟩ := few_eq (h := h) (by omega) (show 500 ≤ 29940 + 60 by decide)
  rw [first_eq 29940, Option.bind_some, hf, Option.bind_some]
  split
  · rfl
  · rename_i hc
    have hbt : b = true := by cases b <;> simp_all
    have h6 := hb hbt
    have hl100 : l.length ≤ 100 := by
      refine Classical.byContradiction fun h => hc ?_
      rw [Bool.or_eq_true]
      exact .inr (decide_eq_true (by omega))
    rw [Explain_eq h6 hl (by omega), Option.bind_some]
    by_cases hv : validL h = 0
    · obtain ⟨v1, v2, v3⟩ := validL_12 hv
      rw [if_pos hv, num_eq, Option.bind_some, if_pos rfl]
      obtain ⟨b2, c1, c2⟩ := keeps_eq (h := h) (key := key) (l := l) h6 (by omega) (show 20000 ≤ 29940 + 60 by decide)
      rcases (explain_eq (h := h) (key := key) h6 (v3 key) (Nat.le_refl 6000)).2 with ⟨o, a1, a2⟩ | ⟨a1, a2⟩
      · have hol := comp_len (Nat.two_pow_pos _) a1.1
        have h12 : 2 ^ (opsL h key).length ≤ 2 ^ 12 := Nat.pow_le_pow_right (by decide) (by rw [opsL_len]; exact v3 key)
        rw [a2]
        simp only [if_true]
        obtain ⟨b1, d1, d2⟩ := keeps_eq (h := h) (key := key) (l := o.map fun j => (ofL h key).getD j 0) h6 (by simp; omega) (show 20000 ≤ 29940 + 60 by decide)
        have : b1 = true := d2.2 (kp_of_comp a1.1)
        rw [d1, this, Option.bind_some, Option.bind_some]
        simp only [Bool.not_true, Bool.false_eq_true, if_false, if_true]
        rw [c1, Option.bind_some]
        by_cases hk : b2 = true
        · rw [hk]
          simp only [Bool.not_true, Bool.false_eq_true, if_false]
          obtain ⟨o', e1, e2⟩ := comp_of_kp ((badL_iff h).1 v2) (c2.1 hk)
          obtain ⟨c, f1, f2⟩ := ahead_eq (a := l) (b := o.map fun j => (ofL h key).getD j 0) (by omega) (by simp; omega) (show 6000 ≤ 29940 + 60 by decide)
          rw [f1, Option.bind_some, Option.bind_some]
          have hno : ¬ lexI l (o.map fun j => (ofL h key).getD j 0) := by
            rw [e2]
            refine not_lexI (n := (ofL h key).length) (fun i j hij hj => ?_) (fun i hi => by rw [← opsL_len]; exact comp_lt a1.1 i hi) (fun i hi => by rw [← opsL_len]; exact comp_lt e1 i hi) (a1.2 o' e1)
            have hj' : j < (ofN h key).length := by rw [ofL_ofN, List.length_map] at hj; exact hj
            have := ofN_lt hij hj'
            rw [getD_at (by omega), getD_at hj']at this
            rw [ofL_ofN, getD_at (by simp; omega), getD_at (by simpa using hj'), List.getElem_map, List.getElem_map]
            omega
          have : c = false := by cases c; rfl; exact absurd (f2.1 rfl) hno
          rw [this]; rfl
        · rw [Bool.eq_false_iff.2 hk]; rfl
      · rw [a2]
        simp only [Bool.false_eq_true, if_false, Option.bind_some]
        rw [c1, Option.bind_some]
        have : b2 = false := by
          cases b2 with
          | false => rfl
          | true =>
            obtain ⟨o', e1, _⟩ := comp_of_kp ((badL_iff h).1 v2) (c2.1 rfl)
            exact absurd e1 (a1 o')
        rw [this]; rfl
    · rw [if_neg hv, num_eq, Option.bind_some, if_neg hv]; rfl
end Go.Proofs.Ytlblpegbgbgliaa

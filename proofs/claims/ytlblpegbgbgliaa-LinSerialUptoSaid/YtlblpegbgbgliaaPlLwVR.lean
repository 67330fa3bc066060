/- The plain law LinSerial. Conditions: as it says. -/
import Derived.Test.YtlblpegbgbgliaaPlLin6
import Derived.Test.YtlblpegbgbgliaaPlLwW0
namespace Go.Proofs.Ytlblpegbgbgliaa
set_option linter.unusedVariables false
set_option linter.unusedSimpArgs false
open Go.RowKit
/-- An operation of a serial history, at place n. -/
def SerP (n : Nat) (x : OpT) : Prop := oKey x = [107] ∧ oCall x = 2 * (n : Int) + 1 ∧ oBack x = 2 * (n : Int) + 2 ∧ (1 ≤ oKind x ∧ oKind x ≤ 4) ∧ (oCode x = 1 ∨ oCode x = 2 ∨ oCode x = 3)
theorem kind4 (q : Int) : ∃ r : Int, IntKind.i64.wrap ((Int.tmod (IntKind.i64.wrap ((Int.tmod q 4) + 4)) 4) + 1) = r ∧ 1 ≤ r ∧ r ≤ 4 := by
  have h1 : -4 < Int.tmod q 4 ∧ Int.tmod q 4 < 4 := by
    refine ⟨?_, Int.tmod_lt_of_pos _ (by decide)⟩
    have := Int.tmod_lt_of_pos (-q) (show (0 : Int) < 4 by decide)
    rw [Int.neg_tmod] at this
    omega
  rw [w64 (n := (Int.tmod q 4) + 4) (by omega) (by omega)]
  have h2 : 0 ≤ Int.tmod ((Int.tmod q 4) + 4) 4 := Int.tmod_nonneg _ (by omega)
  have h3 : Int.tmod ((Int.tmod q 4) + 4) 4 < 4 := Int.tmod_lt_of_pos _ (by decide)
  rw [w64 (by omega) (by omega)]
  exact ⟨_, rfl, by omega, by omega⟩
theorem stp_code {t : Bool} {v : List UInt8} {x : OpT} (h : 1 ≤ oKind x ∧ oKind x ≤ 4) : (stp t v x).2.2.1 = 1 ∨ (stp t v x).2.2.1 = 2 ∨ (stp t v x).2.2.1 = 3 := by
  unfold stp
  repeat' split
  all_goals first | (simp; done) | omega
theorem serial_l0 {l : List OpT} (hl : l.length ≤ 12) : ∀ (d i k : Nat) (acc : List OpT) (t : Bool) (v : List UInt8) (rt : Bool), i + d = l.length → acc.length ≤ i → d + 1 ≤ k →
    ∃ (suf : List OpT) (rt' : Bool), synodlaw16_LinSerial.l0 l k acc t v rt (i : Int) = some (acc ++ suf, rt') ∧ (rt' = true ↔ rt = true ∧ run t v suf) ∧ suf.length = d ∧ ∀ j, (hj : j < suf.length) → SerP (i + j) suf[j]
  | d, i, 0, _, _, _, _, _, _, hk => by omega
  | 0, i, k + 1, acc, t, v, rt, hd, _, _ => by
    simp only [synodlaw16_LinSerial.l0]
    rw [if_neg (by omega)]
    exact ⟨[], rt, by simp, by simp [run], rfl, fun j hj => absurd hj (by simp)⟩
  | d + 1, i, k + 1, acc, t, v, rt, hd, ha, hk => by
    have e : ((i : Int) + 1) = ((i + 1 : Nat) : Int) := by omega
    simp only [synodlaw16_LinSerial.l0]
    rw [if_pos (by omega), if_pos (by omega), w64 (n := (i : Int) + 1) (by omega) (by omega), e]
    simp only [Int.toNat_natCast]
    obtain ⟨x, hx⟩ : ∃ x, l.getD i op0 = x := ⟨_, rfl⟩
    simp only [hx]
    obtain ⟨kd, hkd, hk1, hk4⟩ := kind4 x.2.2.1
    rw [w64 (n := 2 * (i : Int)) (by omega) (by omega), w64 (n := 2 * (i : Int) + 1) (by omega) (by omega), w64 (n := 2 * (i : Int) + 2) (by omega) (by omega), hkd]
    let X : Int → List UInt8 → OpT := fun c r => (x.1, x.2.1, kd, ([107] : List UInt8), x.2.2.2.2.1, x.2.2.2.2.2.1, 2 * (i : Int) + 1, 2 * (i : Int) + 2, c, r)
    have hs : lin_Step.f t v x.1 x.2.1 kd ([107] : List UInt8) x.2.2.2.2.1 x.2.2.2.2.2.1 (2 * (i : Int) + 1) (2 * (i : Int) + 2) x.2.2.2.2.2.2.2.2.1 x.2.2.2.2.2.2.2.2.2 = some (stp t v (X x.2.2.2.2.2.2.2.2.1 x.2.2.2.2.2.2.2.2.2)) := stp_eq t v (X x.2.2.2.2.2.2.2.2.1 x.2.2.2.2.2.2.2.2.2)
    have hX : ∀ c r, stp t v (X c r) = stp t v (X x.2.2.2.2.2.2.2.2.1 x.2.2.2.2.2.2.2.2.2) := fun c r => rfl
    have hcode := stp_code (t := t) (v := v) (x := X x.2.2.2.2.2.2.2.2.1 x.2.2.2.2.2.2.2.2.2) ⟨hk1, hk4⟩
    rw [hs, Option.bind_some]
    have hok : ∀ c r, okR (X c r) (stp t v (X c r)).2.2 = true ↔ (c = (stp t v (X c r)).2.2.1 ∧ r = (stp t v (X c r)).2.2.2) := by
      intro c r
      have hb : isO (X c r) = false := by
        unfold isO
        exact decide_eq_false (show ¬ (2 * (i : Int) + 2 = 0) by omega)
      unfold okR
      rw [hb, Bool.false_or, Bool.and_eq_true, decide_eq_true_eq, decide_eq_true_eq]
      exact ⟨fun h => ⟨h.1.symm, h.2.symm⟩, fun h => ⟨h.1.symm, h.2.symm⟩⟩
    have fin : ∀ c r, (c = 1 ∨ c = 2 ∨ c = 3) → ∃ (suf : List OpT) (rt' : Bool), synodlaw16_LinSerial.l0 l k (acc ++ [X c r]) (stp t v (X c r)).1 (stp t v (X c r)).2.1 (rt && (decide (c = (stp t v (X c r)).2.2.1) && decide (r = (stp t v (X c r)).2.2.2))) ((i + 1 : Nat) : Int) = some (acc ++ suf, rt') ∧ (rt' = true ↔ rt = true ∧ run t v suf) ∧ suf.length = d + 1 ∧ ∀ j, (hj : j < suf.length) → SerP (i + j) suf[j] := by
      intro c r hc
      obtain ⟨suf, rt', h1, h2, h3, h4⟩ := serial_l0 hl d (i + 1) k (acc ++ [X c r]) (stp t v (X c r)).1 (stp t v (X c r)).2.1 (rt && (decide (c = (stp t v (X c r)).2.2.1) && decide (r = (stp t v (X c r)).2.2.2))) (by omega) (by simp; omega) (by omega)
      refine ⟨X c r :: suf, rt', by rw [h1]; simp, ?_, by simp [h3], ?_⟩
      · rw [h2, Bool.and_eq_true, Bool.and_eq_true, decide_eq_true_eq, decide_eq_true_eq]
        simp only [run]
        rw [hok]
        exact ⟨fun h => ⟨h.1.1, h.1.2, h.2⟩, fun h => ⟨⟨h.1, h.2.1⟩, h.2.2⟩⟩
      · intro j hj
        match j, hj with
        | 0, _ => exact ⟨rfl, rfl, rfl, ⟨hk1, hk4⟩, hc⟩
        | j + 1, hj =>
          have := h4 j (by simpa using hj)
          rw [List.getElem_cons_succ]
          rwa [show i + (j + 1) = i + 1 + j by omega]
    by_cases hc : x.2.2.2.2.2.2.2.2.1 = 1 ∨ x.2.2.2.2.2.2.2.2.1 = 2 ∨ x.2.2.2.2.2.2.2.2.1 = 3
    · rw [if_neg (by rcases hc with hc | hc | hc <;> simp [hc]), Option.bind_some, if_pos (by simp; omega)]
      exact fin _ _ hc
    · rw [not_or, not_or] at hc
      rw [if_pos (by simp [hc.1, hc.2.1, hc.2.2]), Option.bind_some, if_pos (by simp; omega)]
      exact fin _ _ hcode
theorem pure_LinSerial (l : List OpT) (hh : l.length * 112 ≤ reachBytes ∧ ∀ e ∈ l, Ok35 e) (hu : Mu.mu l ≤ 1048576) : ∃ k, synodlaw16_LinSerial.f k l = some true := by
  refine ⟨9940 + 60, ?_⟩
  have hr : reachBytes < 2 ^ 47 := by decide
  unfold synodlaw16_LinSerial.f
  obtain ⟨b, hf, hb⟩ := few_eq (h := l) (by omega) (show 500 ≤ 9940 + 60 by decide)
  rw [first_eq 9940, Option.bind_some, hf, Option.bind_some]
  split
  · rfl
  · rename_i hc
    have h12 : l.length ≤ 12 := by
      refine Classical.byContradiction fun h => hc ?_
      rw [Bool.or_eq_true]
      exact .inr (decide_eq_true (by omega))
    obtain ⟨h, rt, s1, s2, s3, s4⟩ := serial_l0 h12 l.length 0 (9940 + 60) [] false [] true (by omega) (by simp) (by omega)
    rw [show ((0 : Nat) : Int) = 0 from rfl, List.nil_append] at s1
    have sm : ∀ x ∈ h, ∃ n, n < h.length ∧ SerP n x := by
      intro x hx
      obtain ⟨n, hn, rfl⟩ := List.mem_iff_getElem.1 hx
      exact ⟨n, hn, by simpa using s4 n hn⟩
    have hcnt : ∀ x ∈ h, cnt x = true := by
      intro x hx
      obtain ⟨n, _, h1, h2, h3, h4, h5⟩ := sm x hx
      unfold cnt
      rw [if_neg (by omega)]
      rcases h5 with h5 | h5 | h5 <;> simp [h5]
    have hopen : ∀ x ∈ h, isO x = false := by
      intro x hx
      obtain ⟨n, _, h1, h2, h3, h4, h5⟩ := sm x hx
      exact decide_eq_false (by omega)
    have hv : validL h = 0 := by
      refine (validL_iff h).2 ⟨by omega, fun x hx => ?_, fun key => Nat.le_trans (List.length_filter_le _ _) (by omega)⟩
      obtain ⟨n, hn, h1, h2, h3, h4, h5⟩ := sm x hx
      unfold bad
      rw [if_neg (by omega), if_neg]
      rintro ((h | h | h) | h | h) <;> omega
    obtain ⟨yes, c1, c2, c3⟩ := Check_eq' (h := h) (by omega) (fun x hx => by
      obtain ⟨n, _, h1, _⟩ := sm x hx
      rw [h1]; simp) (show 7000 ≤ 9940 + 60 by decide)
    rw [s1, Option.bind_some, c1, Option.bind_some, num_eq, Option.bind_some, hv]
    have hcall : h.Pairwise (fun a b => oCall a < oCall b) := by
      rw [List.pairwise_iff_getElem]
      intro i j hi hj hij
      have a := (s4 i hi).2.1
      have b := (s4 j hj).2.1
      simp only [Nat.zero_add] at a b
      omega
    have hone : ∀ a ∈ h, ∀ b ∈ h, oCall a = oCall b → a = b := by
      intro a ha b hb hab
      obtain ⟨i, hi, rfl⟩ := List.mem_iff_getElem.1 ha
      obtain ⟨j, hj, rfl⟩ := List.mem_iff_getElem.1 hb
      have a := (s4 i hi).2.1
      have b := (s4 j hj).2.1
      simp only [Nat.zero_add] at a b
      have : i = j := by omega
      subst this; rfl
    have hlin : LinP h ↔ run false [] h := by
      constructor
      · rintro ⟨M, R, p1, p2, p3, p4, p5⟩
        have hR : R = [] := by
          match R, p1, p2 with
          | [], _, _ => rfl
          | x :: R, p1, p2 =>
            have h1 := p2 x (by simp)
            have h2 := hopen x (p1.mem_iff.2 (by simp))
            rw [h1] at h2; cases h2
        subst hR
        rw [List.append_nil] at p1
        have hM : h = M := by
          refine List.Perm.eq_of_pairwise (le := fun a b => oCall a ≤ oCall b) (fun a b ha hb h1 h2 => hone a ha b (p1.mem_iff.2 hb) (by omega)) (hcall.imp fun h => Int.le_of_lt h) ?_ p1
          refine List.Pairwise.imp_of_mem (fun {a b} ha hb hp => ?_) p4
          obtain ⟨i, _, _, a2, a3, _⟩ := sm a (p1.mem_iff.2 ha)
          obtain ⟨j, _, _, b2, b3, _⟩ := sm b (p1.mem_iff.2 hb)
          rcases hp with hp | hp
          · rw [hopen b (p1.mem_iff.2 hb)] at hp; cases hp
          · omega
        rw [hM]; exact p3
      · intro hrun
        refine ⟨h, [], by rw [List.append_nil], by simp, hrun, ?_, ?_⟩
        · refine List.Pairwise.imp_of_mem (fun {a b} ha hb hp => ?_) hcall
          obtain ⟨i, _, _, a2, a3, _⟩ := sm a ha
          obtain ⟨j, _, _, b2, b3, _⟩ := sm b hb
          exact .inr (by omega)
        · intro x hx
          obtain ⟨i, _, _, a2, a3, _⟩ := sm x hx
          exact .inr (by omega)
    have hj : Judged h ↔ run false [] h := by
      rw [← hlin]
      constructor
      · intro hj
        have := hj [107]
        rwa [List.filter_eq_self.2] at this
        intro x hx
        obtain ⟨i, _, a1, _⟩ := sm x hx
        unfold kp
        rw [hcnt x hx, decide_eq_true a1]; rfl
      · intro hl key
        by_cases hk : key = [107]
        · subst hk
          rwa [List.filter_eq_self.2]
          intro x hx
          obtain ⟨i, _, a1, _⟩ := sm x hx
          unfold kp
          rw [hcnt x hx, decide_eq_true a1]; rfl
        · rw [List.filter_eq_nil_iff.2]
          · exact LinP.nil
          · intro x hx
            obtain ⟨i, _, a1, _⟩ := sm x hx
            unfold kp
            rw [decide_eq_false (by rw [a1]; exact fun e => hk e.symm)]; simp
    have : yes = rt := by
      rw [Bool.eq_iff_iff, c2 hv, hj, s2]; simp
    rw [this]; simp
end Go.Proofs.Ytlblpegbgbgliaa

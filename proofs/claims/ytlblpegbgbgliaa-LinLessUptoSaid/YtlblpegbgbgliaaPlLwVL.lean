/- The plain law LinLess. Conditions: as it says. -/
import Derived.Test.YtlblpegbgbgliaaPlLin7
import Derived.Test.YtlblpegbgbgliaaPlLwW0
namespace Go.Proofs.Ytlblpegbgbgliaa
set_option linter.unusedVariables false
set_option linter.unusedSimpArgs false
open Go.RowKit
/-! ### An operation of many -/
theorem split_at {h : List OpT} {w : Nat} (hw : w < h.length) : h.Perm (h.getD w op0 :: (h.take w ++ h.drop (w + 1))) := by
  have e : h = h.take w ++ h.getD w op0 :: h.drop (w + 1) := by rw [← drop_at hw op0, List.take_append_drop]
  have := List.perm_middle (l₁ := h.take w) (a := h.getD w op0) (l₂ := h.drop (w + 1))
  rwa [← e] at this
theorem set_at {h : List OpT} {w : Nat} (hw : w < h.length) (y : OpT) : (h.set w y).Perm (y :: (h.take w ++ h.drop (w + 1))) := by
  rw [List.set_eq_take_append_cons_drop, if_pos hw]
  exact List.perm_middle
theorem filter_cons_perm {h r : List OpT} {x : OpT} (hp : h.Perm (x :: r)) (key : List UInt8) : (h.filter (kp key)).Perm (if kp key x then x :: r.filter (kp key) else r.filter (kp key)) := by
  have := hp.filter (kp key)
  rwa [List.filter_cons] at this
theorem judged_of {h r t : List OpT} {x y : OpT} (h1 : h.Perm (x :: r)) (h2 : t.Perm (y :: r)) (hk : ∀ key, kp key y = kp key x) (hl : ∀ L, cnt x = true → LinP (x :: L) → LinP (y :: L)) (hj : Judged h) : Judged t := by
  intro key
  have a := (hj key).perm (filter_cons_perm h1 key).symm
  refine LinP.perm ?_ (filter_cons_perm h2 key)
  rw [hk key]
  by_cases hkp : kp key x = true
  · rw [if_pos hkp] at a ⊢
    exact hl _ (by unfold kp at hkp; rw [Bool.and_eq_true] at hkp; exact hkp.2) a
  · rw [if_neg hkp] at a ⊢
    exact a
theorem judged_without {h r : List OpT} {x : OpT} (h1 : h.Perm (x :: r)) (hl : ∀ L, cnt x = true → LinP (x :: L) → LinP L) (hj : Judged h) : Judged r := by
  intro key
  have a := (hj key).perm (filter_cons_perm h1 key).symm
  by_cases hkp : kp key x = true
  · rw [if_pos hkp] at a
    exact hl _ (by unfold kp at hkp; rw [Bool.and_eq_true] at hkp; exact hkp.2) a
  · rw [if_neg hkp] at a
    exact a
theorem valid_of {h r t : List OpT} {x y : OpT} (h1 : h.Perm (x :: r)) (h2 : t.Perm (y :: r)) (hk : ∀ key, kp key y = kp key x) (hb : bad y = 0) (hv : validL h = 0) : validL t = 0 := by
  obtain ⟨a, b, c⟩ := (validL_iff h).1 hv
  have l1 := h1.length_eq
  have l2 := h2.length_eq
  refine (validL_iff t).2 ⟨by simp at l1 l2; omega, fun z hz => ?_, fun key => ?_⟩
  · rcases List.mem_cons.1 (h2.mem_iff.1 hz) with rfl | hz
    · exact hb
    · exact b z (h1.mem_iff.2 (List.mem_cons_of_mem _ hz))
  · have e1 := (filter_cons_perm h1 key).length_eq
    have e2 := (filter_cons_perm h2 key).length_eq
    have := c key
    rw [hk key] at e2
    by_cases hkp : kp key x = true
    · rw [if_pos hkp] at e1 e2; simp at e1 e2; omega
    · rw [if_neg hkp] at e1 e2; omega
/-- Where an answered one stands in an order. -/
theorem linP_split {x : OpT} {L : List OpT} (hx : isO x = false) (h : LinP (x :: L)) : ∃ M1 M2 R, L.Perm (M1 ++ M2 ++ R) ∧ (∀ y ∈ R, isO y = true) ∧ run false [] (M1 ++ x :: M2) ∧ (M1 ++ x :: M2).Pairwise prec ∧ ∀ y ∈ M1 ++ x :: M2, prec y y := by
  obtain ⟨M, R, h1, h2, h3, h4, h5⟩ := h
  have hm : x ∈ M := by
    rcases List.mem_append.1 (h1.mem_iff.1 List.mem_cons_self) with h | h
    · exact h
    · rw [h2 x h] at hx; cases hx
  obtain ⟨M1, M2, rfl⟩ := List.append_of_mem hm
  refine ⟨M1, M2, R, ?_, h2, h3, h4, h5⟩
  have : (x :: L).Perm (x :: (M1 ++ M2 ++ R)) := h1.trans (by
    rw [List.append_assoc, List.cons_append, List.append_assoc]
    exact List.perm_middle)
  exact this.cons_inv
theorem run_swap {x y : OpT} (hs : ∀ t v, stp t v y = stp t v x) (ho : ∀ t v, okR x (stp t v x).2.2 = true → okR y (stp t v y).2.2 = true) : ∀ (M1 M2 : List OpT) (t : Bool) (v : List UInt8), run t v (M1 ++ x :: M2) → run t v (M1 ++ y :: M2)
  | [], M2, t, v, h => ⟨ho t v h.1, by rw [hs]; exact h.2⟩
  | a :: M1, M2, t, v, h => ⟨h.1, run_swap hs ho M1 M2 _ _ h.2⟩
theorem linP_swap {x y : OpT} (hx : isO x = false) (hs : ∀ t v, stp t v y = stp t v x) (ho : ∀ t v, okR x (stp t v x).2.2 = true → okR y (stp t v y).2.2 = true) (hc : oCall y = oCall x) (hp : ∀ a, prec a x → prec a y) (hpp : prec x x → prec y y) (L : List OpT) (h : LinP (x :: L)) : LinP (y :: L) := by
  obtain ⟨M1, M2, R, h1, h2, h3, h4, h5⟩ := linP_split hx h
  have hq : ∀ b, prec x b → prec y b := fun b hb => by unfold prec at hb ⊢; rw [hc]; exact hb
  refine ⟨M1 ++ y :: M2, R, ?_, h2, run_swap hs ho M1 M2 _ _ h3, ?_, ?_⟩
  · rw [List.append_assoc, List.cons_append]
    refine List.Perm.trans ?_ List.perm_middle.symm
    rw [← List.append_assoc]
    exact h1.cons y
  · obtain ⟨a, b, c⟩ := List.pairwise_append.1 h4
    obtain ⟨b1, b2⟩ := List.pairwise_cons.1 b
    refine List.pairwise_append.2 ⟨a, List.pairwise_cons.2 ⟨fun z hz => hq z (b1 z hz), b2⟩, fun z hz z' hz' => ?_⟩
    rcases List.mem_cons.1 hz' with rfl | hz'
    · exact hp z (c z hz x (by simp))
    · exact c z hz z' (by simp [hz'])
  · intro z hz
    rcases List.mem_append.1 hz with hz | hz
    · exact h5 z (List.mem_append_left _ hz)
    · rcases List.mem_cons.1 hz with rfl | hz
      · exact hpp (h5 x (by simp))
      · exact h5 z (by simp [hz])
theorem stp_inv {t : Bool} {v : List UInt8} {x : OpT} : (stp t v x).1 = false → (stp t v x).2.1 = [] := by
  unfold stp
  repeat' split
  all_goals simp_all
theorem run_without {x : OpT} (hx : oKind x = 1) : ∀ (M1 M2 : List OpT) (t : Bool) (v : List UInt8), (t = false → v = []) → run t v (M1 ++ x :: M2) → run t v (M1 ++ M2)
  | [], M2, t, v, hi, h => by
    have h2 := h.2
    unfold stp at h2
    rw [if_pos hx] at h2
    cases t with
    | true => exact h2
    | false => rw [hi rfl]; exact h2
  | a :: M1, M2, t, v, _, h => ⟨h.1, run_without hx M1 M2 _ _ stp_inv h.2⟩
theorem linP_get {x : OpT} (hx : isO x = false) (hk : oKind x = 1) (L : List OpT) (h : LinP (x :: L)) : LinP L := by
  obtain ⟨M1, M2, R, h1, h2, h3, h4, h5⟩ := linP_split hx h
  refine ⟨M1 ++ M2, R, h1, h2, run_without hk M1 M2 _ _ (fun _ => rfl) h3, h4.sublist (by simp), fun z hz => h5 z ?_⟩
  rcases List.mem_append.1 hz with hz | hz <;> simp [hz]
theorem judged_more {h : List OpT} {m : OpT} (hm : isO m = true) (hj : Judged h) : Judged (h ++ [m]) := by
  intro key
  rw [List.filter_append, List.filter_cons]
  by_cases hk : kp key m = true
  · rw [if_pos hk]
    obtain ⟨M, R, h1, h2, h3⟩ := hj key
    refine ⟨M, R ++ [m], ?_, ?_, h3⟩
    · rw [← List.append_assoc]; exact h1.append_right _
    · intro x hx
      rcases List.mem_append.1 hx with hx | hx
      · exact h2 x hx
      · rw [List.mem_singleton] at hx; rw [hx]; exact hm
  · rw [if_neg hk]
    simpa using hj key
/-- Without an open one that an order leaves out. -/
theorem linP_unused {h : List OpT} {key : List UInt8} {w : Nat} {o : List Nat} (hw : w < h.length) (hin : inK h key w = true) (hc : comp (opsL h key) 0 false [] o) (hu : (w : Int) ∉ o.map fun j => (ofL h key).getD j 0) : LinP ((h.take w ++ h.drop (w + 1)).filter (kp key)) := by
  have hmem : w ∈ ofN h key := ofN_mem.2 ⟨hw, hin⟩
  obtain ⟨r, hr, hrw⟩ := List.mem_iff_getElem.1 hmem
  have hro : r ∉ o := by
    intro hm
    refine hu (List.mem_map.2 ⟨r, hm, ?_⟩)
    rw [ofL_ofN, getD_at (by simpa using hr), List.getElem_map, hrw]
  obtain ⟨a, b⟩ := linP_of_comp hc
  obtain ⟨c1, c2, c3, c4, c5, c6⟩ := (comp_iff o 0 false []).1 hc
  have hx : (opsL h key).getD r op0 = h.getD w op0 := by rw [ofN_at hr, getD_at hr, hrw]
  have hxR : h.getD w op0 ∈ (((List.range (opsL h key).length).filter fun k => !decide (k ∈ o)).map fun i => (opsL h key).getD i op0) := by
    refine List.mem_map.2 ⟨r, ?_, hx⟩
    rw [List.mem_filter, List.mem_range, ← ofN_len]
    exact ⟨hr, by simp [hro]⟩
  generalize (((List.range (opsL h key).length).filter fun k => !decide (k ∈ o)).map fun i => (opsL h key).getD i op0) = R at a b hxR
  obtain ⟨R1, R2, rfl⟩ := List.append_of_mem hxR
  have h0 : (h.filter (kp key)).Perm (opsL h key) := by rw [opsL_eq]
  have h1 := (filter_cons_perm (split_at hw) key).symm.trans (h0.trans a)
  have hkp : kp key (h.getD w op0) = true := hin
  rw [if_pos hkp] at h1
  have h2 := (h1.trans (by
    rw [← List.append_assoc]
    exact List.perm_middle)).cons_inv
  refine ⟨_, R1 ++ R2, by rw [← List.append_assoc]; exact h2, fun y hy => b y ?_, c3, List.pairwise_map.2 c5, ?_⟩
  · rcases List.mem_append.1 hy with hy | hy <;> simp [hy]
  · intro y hy
    obtain ⟨i, hi, rfl⟩ := List.mem_map.1 hy
    exact c6 i hi
theorem used_l0 {h : List OpT} {x1 : Int} {s : List Int × Bool × Int} {w : Nat} (hW : Int.tmod (IntKind.i64.wrap ((Int.tmod x1 (h.length : Int)) + (h.length : Int))) (h.length : Int) = (w : Int)) (hl : s.1.length ≤ 6000) : ∀ (d i k : Nat) (u : Bool), i + d = s.1.length → d + 1 ≤ k → synodlaw16_LinLess.l0 h x1 s k u (i : Int) = some (u || (s.1.drop i).any fun a => decide (a = (w : Int)))
  | d, i, 0, _, _, hk => by omega
  | 0, i, k + 1, u, hd, _ => by
    simp only [synodlaw16_LinLess.l0]
    rw [if_neg (by omega), List.drop_of_length_le (by omega)]; simp
  | d + 1, i, k + 1, u, hd, hk => by
    have ih := fun u => used_l0 hW hl d (i + 1) k u (by omega) (by omega)
    have e : ((i : Int) + 1) = ((i + 1 : Nat) : Int) := by omega
    simp only [synodlaw16_LinLess.l0]
    simp only [hW, Int.toNat_natCast]
    rw [if_pos (by omega), w64 (n := (i : Int) + 1) (by omega) (by omega), e, drop_at (show i < s.1.length by omega) 0, List.any_cons]
    cases u with
    | true => rw [if_pos rfl, Option.bind_some, ih]; simp
    | false => rw [if_neg (by simp), if_pos (by omega), Option.bind_some, ih]; simp
theorem getD_set {h : List OpT} {w : Nat} (hw : w < h.length) (y : OpT) : (h.set w y).getD w op0 = y := by
  rw [getD_at (by simpa using hw)]; simp
theorem bad_zero {x : OpT} (h : bad x = 0) : (1 ≤ oKind x ∧ oKind x ≤ 4) ∧ 1 ≤ oCall x ∧ 0 ≤ oBack x ∧ (oBack x = 0 → oCode x = 0 ∧ oRv x = []) ∧ (oBack x ≠ 0 → oCall x ≤ oBack x ∧ 1 ≤ oCode x ∧ oCode x ≤ 10) := by
  unfold bad at h
  split at h
  · cases h
  · rename_i h1
    split at h
    · cases h
    · rename_i h2
      rw [not_or, not_or, not_or, not_or] at h2
      obtain ⟨⟨a, b, c⟩, d, e⟩ := h2
      refine ⟨by omega, by omega, by omega, fun h0 => ?_, fun h0 => ?_⟩
      · exact Classical.byContradiction fun g => d ⟨h0, g⟩
      · have : ¬ (oCode x < 1 ∨ 10 < oCode x) := fun g => e ⟨h0, g⟩
        have : ¬ oBack x < oCall x := fun g => c ⟨h0, g⟩
        omega
theorem zero_bad {x : OpT} (h1 : 1 ≤ oKind x ∧ oKind x ≤ 4) (h2 : 1 ≤ oCall x) (h3 : 0 ≤ oBack x) (h4 : oBack x = 0 → oCode x = 0 ∧ oRv x = []) (h5 : oBack x ≠ 0 → oCall x ≤ oBack x ∧ 1 ≤ oCode x ∧ oCode x ≤ 10) : bad x = 0 := by
  unfold bad
  rw [if_neg (by omega), if_neg]
  rintro ((h | h | h) | h | h)
  · omega
  · omega
  · have := h5 h.1; omega
  · exact h.2 (h4 h.1)
  · have := h5 h.1; omega
theorem checked {t : List OpT} (h6 : t.length ≤ 600) (hl : ∀ x ∈ t, (oKey x).length ≤ 140737488351232) (hv : validL t = 0) (hj : Judged t) {k : Nat} (hk : 7000 ≤ k) : lin_Check.f k t = some (true, 0) := by
  obtain ⟨y, a, b, c⟩ := Check_eq' h6 hl hk
  rw [a, hv, (b hv).2 hj]
theorem Check_gen {h : List OpT} (hh : h.length < 2 ^ 42) (hl : ∀ x ∈ h, (oKey x).length ≤ 140737488351232) {k : Nat} (hk : 2 * h.length + 7000 ≤ k) :
    ∃ yes : Bool, lin_Check.f k h = some (yes, validL h) ∧ (validL h = 0 → (yes = true ↔ Judged h)) ∧ (validL h ≠ 0 → yes = false) := by
  by_cases hv : validL h = 0
  · exact Check_eq' (by have := (validL_12 hv).1; omega) hl (by omega)
  · unfold lin_Check.f
    rw [valid_eq hh hl (by omega), Option.bind_some, if_neg hv]
    exact ⟨_, rfl, fun h => absurd h hv, fun _ => rfl⟩
theorem orR_inl {S R : Type} {o1 : Option (S ⊕ R)} {o2 : S → Option R} {s : S} {r : Option R} (h : o1 = some (.inl s)) (g : o2 s = r) : orR o1 o2 = r := by rw [h]; exact g
theorem which_eq (x1 : Int) {n : Nat} (hn : 0 < n) (hn2 : n < 2 ^ 42) : ∃ w : Nat, Int.tmod (IntKind.i64.wrap ((Int.tmod x1 (n : Int)) + (n : Int))) (n : Int) = (w : Int) ∧ w < n := by
  have h1 : -(n : Int) < Int.tmod x1 (n : Int) ∧ Int.tmod x1 (n : Int) < (n : Int) := by
    refine ⟨?_, Int.tmod_lt_of_pos _ (by omega)⟩
    have := Int.tmod_lt_of_pos (-x1) (show (0 : Int) < (n : Int) by omega)
    rw [Int.neg_tmod] at this
    omega
  rw [w64 (by omega) (by omega)]
  have h2 : 0 ≤ Int.tmod ((Int.tmod x1 (n : Int)) + (n : Int)) (n : Int) := Int.tmod_nonneg _ (by omega)
  have h3 : Int.tmod ((Int.tmod x1 (n : Int)) + (n : Int)) (n : Int) < (n : Int) := Int.tmod_lt_of_pos _ (by omega)
  obtain ⟨w, hw⟩ := Int.eq_ofNat_of_zero_le h2
  exact ⟨w, hw, by omega⟩
theorem mem_set {h : List OpT} {w : Nat} {y z : OpT} (hz : z ∈ h.set w y) : z = y ∨ z ∈ h := by
  rcases List.mem_or_eq_of_mem_set hz with h | h
  · exact .inr h
  · exact .inl h
theorem less_main {h : List OpT} (h6 : h.length ≤ 600) (hne : 0 < h.length) (hl : ∀ x ∈ h, (oKey x).length ≤ 140737488351232) (hv : validL h = 0) (hj : Judged h) {w : Nat} (hw : w < h.length) {x : OpT} (hx : h.getD w op0 = x) {k : Nat} (hk : 20000 ≤ k) :
    (∀ u : Bool, (u = (explL h (oKey x)).1.any fun a => decide (a = (w : Int))) → ((decide (oKind x = 1) || (decide (oBack x = 0) && !u)) = true) → lin_Check.f k (h.take w ++ h.drop (w + 1)) = some (true, 0)) ∧
    (oBack x ≠ 0 → oKind x ≠ 1 → cnt x = true → lin_Check.f k (h.set w (x.1, x.2.1, x.2.2.1, x.2.2.2.1, x.2.2.2.2.1, x.2.2.2.2.2.1, x.2.2.2.2.2.2.1, 0, 0, [])) = some (true, 0)) ∧
    (∀ b' : Int, oBack x ≠ 0 → ∃ y, lin_Check.f k (h.set w (x.1, x.2.1, x.2.2.1, x.2.2.2.1, x.2.2.2.2.1, x.2.2.2.2.2.1, x.2.2.2.2.2.2.1, b', x.2.2.2.2.2.2.2.2.1, x.2.2.2.2.2.2.2.2.2)) = some y ∧ (oBack x ≤ b' → y.1 = true)) ∧
    (∀ m : OpT, isO m = true → (oKey m).length ≤ 9000 → ∃ y, lin_Check.f k (h ++ [m]) = some y ∧ (y.1 = true ∨ y.2 ≠ 0)) := by
  have hsp := split_at hw
  rw [hx] at hsp
  have hxm : x ∈ h := hsp.mem_iff.2 List.mem_cons_self
  obtain ⟨v1, v2, v3⟩ := (validL_iff h).1 hv
  obtain ⟨bk, bc, bb, b0, b1⟩ := bad_zero (v2 x hxm)
  have hlx := hl x hxm
  have hkey : ∀ y : OpT, oKey y = oKey x → ∀ z ∈ h.set w y, (oKey z).length ≤ 140737488351232 := by
    intro y hy z hz
    rcases mem_set hz with rfl | hz
    · rw [hy]; exact hlx
    · exact hl z hz
  refine ⟨?_, ?_, ?_, ?_⟩
  · intro u hu hc
    have hlen : (h.take w ++ h.drop (w + 1)).length ≤ 600 := by simp; omega
    have hsub : (h.take w ++ h.drop (w + 1)).Sublist h := by
      have e : h = h.take w ++ h.drop w := (List.take_append_drop w h).symm
      have : (h.take w ++ h.drop (w + 1)).Sublist (h.take w ++ h.drop w) := List.Sublist.append (List.Sublist.refl _) (List.drop_sublist_drop_left _ (by omega))
      rwa [← e] at this
    have hvr := valid_sub hsub hv
    refine checked hlen (fun z hz => hl z (hsub.subset hz)) hvr ?_ (by omega)
    by_cases hk1 : oKind x = 1
    · refine judged_without hsp (fun L hcnt hL => linP_get ?_ hk1 L hL) hj
      unfold cnt at hcnt
      by_cases h0 : oBack x = 0
      · rw [if_pos h0, decide_eq_true hk1] at hcnt; cases hcnt
      · exact decide_eq_false h0
    · rw [decide_eq_false hk1, Bool.false_or, Bool.and_eq_true, decide_eq_true_eq, Bool.not_eq_true'] at hc
      obtain ⟨hb0, hu0⟩ := hc
      rw [hu] at hu0
      intro key
      by_cases hkk : kp key x = true
      · have hkx : oKey x = key := by unfold kp at hkk; rw [Bool.and_eq_true, decide_eq_true_eq] at hkk; exact hkk.1
        subst hkx
        have hlin := (expl_iff h6 ((validL_12 hv).2.2 (oKey x))).2 (hj (oKey x))
        rcases (explain_eq (h := h) (key := oKey x) h6 ((validL_12 hv).2.2 (oKey x)) (Nat.le_refl 6000)).2 with ⟨o, a1, a2⟩ | ⟨a1, a2⟩
        · rw [a2] at hu0
          refine linP_unused hw (by unfold inK; rw [hx]; exact hkk) a1.1 ?_
          intro hm
          have : ((o.map fun j => (ofL h (oKey x)).getD j 0).any fun a => decide (a = (w : Int))) = true := List.any_eq_true.2 ⟨_, hm, by simp⟩
          rw [this] at hu0; cases hu0
        · rw [a2] at hlin; cases hlin
      · have := (hj key).perm (filter_cons_perm hsp key).symm
        rwa [if_neg hkk] at this
  · intro hb hk1 hcx
    let y : OpT := (x.1, x.2.1, x.2.2.1, x.2.2.2.1, x.2.2.2.2.1, x.2.2.2.2.2.1, x.2.2.2.2.2.2.1, 0, 0, [])
    have hyo : isO y = true := rfl
    have hyc : cnt y = true := by
      unfold cnt
      rw [if_pos rfl]
      show (!decide (oKind x = 1)) = true
      rw [decide_eq_false hk1]; rfl
    have hkp : ∀ key, kp key y = kp key x := fun key => by unfold kp; rw [hyc, hcx]
    have hset := set_at hw y
    refine checked (by simpa using h6) (hkey y rfl) (valid_of hsp hset hkp (zero_bad (x := y) bk bc (Int.le_refl 0) (fun _ => ⟨rfl, rfl⟩) (fun h => absurd rfl h)) hv) (judged_of hsp hset hkp (fun L _ hL => ?_) hj) (by omega)
    exact linP_swap (x := x) (y := y) (decide_eq_false hb) (fun t v => rfl) (fun t v _ => by unfold okR; rw [hyo]; rfl) rfl (fun a _ => .inl hyo) (fun _ => .inl hyo) L hL
  · intro b' hb
    let y : OpT := (x.1, x.2.1, x.2.2.1, x.2.2.2.1, x.2.2.2.2.1, x.2.2.2.2.2.1, x.2.2.2.2.2.2.1, b', x.2.2.2.2.2.2.2.2.1, x.2.2.2.2.2.2.2.2.2)
    obtain ⟨z, z1, z2, z3⟩ := Check_gen (h := h.set w y) (by simp; omega) (hkey y rfl) (show 2 * (h.set w y).length + 7000 ≤ k by simp; omega)
    refine ⟨_, z1, fun hbb => ?_⟩
    have hb2 : ¬ b' = 0 := by
      have := b1 hb
      omega
    have hyo : isO y = false := decide_eq_false hb2
    have hxo : isO x = false := decide_eq_false hb
    have hcy : cnt y = cnt x := by
      unfold cnt
      rw [if_neg hb, if_neg (show ¬ oBack y = 0 from hb2)]
    have hkp : ∀ key, kp key y = kp key x := fun key => by unfold kp; rw [hcy]
    have hset := set_at hw y
    have hvy := valid_of hsp hset hkp (zero_bad (x := y) bk bc (show (0 : Int) ≤ b' by omega) (fun h => absurd h hb2) (fun _ => ⟨show oCall x ≤ b' by have := b1 hb; omega, (b1 hb).2⟩)) hv
    refine (z2 hvy).2 (judged_of hsp hset hkp (fun L _ hL => ?_) hj)
    refine linP_swap (x := x) (y := y) hxo (fun t v => rfl) (fun t v ho => ?_) rfl (fun a ha => ?_) (fun ha => ?_) L hL
    · unfold okR at ho ⊢
      rw [hyo]; rw [hxo] at ho; exact ho
    · rcases ha with ha | ha
      · rw [hxo] at ha; cases ha
      · exact .inr (fun hlt => ha (Int.lt_of_le_of_lt hbb hlt))
    · rcases ha with ha | ha
      · rw [hxo] at ha; cases ha
      · exact .inr (fun hlt => ha (Int.lt_of_le_of_lt hbb hlt))
  · intro m hmo hm9
    obtain ⟨z, z1, z2, z3⟩ := Check_gen (h := h ++ [m]) (by simp; omega) (fun q hq => by
      rcases List.mem_append.1 hq with hq | hq
      · exact hl q hq
      · rw [List.mem_singleton] at hq; rw [hq]; omega) (show 2 * (h ++ [m]).length + 7000 ≤ k by simp; omega)
    refine ⟨_, z1, ?_⟩
    by_cases hvm : validL (h ++ [m]) = 0
    · exact .inl ((z2 hvm).2 (judged_more hmo hj))
    · exact .inr hvm
theorem pure_LinLess (h : List OpT) (hh : h.length * 112 ≤ reachBytes ∧ ∀ e ∈ h, Ok35 e) (x1 : Int) (hx1 : (Lit.int .i64 x1).wf = true) (m0 m1 m2 : Int) (m3 m4 m5 : List UInt8) (m6 m7 m8 : Int) (m9 : List UInt8) (hm : okI .i64 m0 ∧ okI .i64 m1 ∧ okI .i64 m2 ∧ m3.length ≤ reachBytes ∧ m4.length ≤ reachBytes ∧ m5.length ≤ reachBytes ∧ okI .i64 m6 ∧ okI .i64 m7 ∧ okI .i64 m8 ∧ m9.length ≤ reachBytes) (x3 : Int) (hx3 : (Lit.int .i64 x3).wf = true) (hu : Mu.mu h + Mu.mu (m0, m1, m2, m3, m4, m5, m6, m7, m8, m9) ≤ 1048576) :
    ∃ k, synodlaw16_LinLess.f k h x1 m0 m1 m2 m3 m4 m5 m6 m7 m8 m9 x3 = some true := by
  have hr : reachBytes < 2 ^ 47 := by decide
  have hl : ∀ x ∈ h, (oKey x).length ≤ 140737488351232 := fun x hx => (hh.2 x hx).2.2.2.1
  suffices H : ∀ q, 2 * h.length + 20000 ≤ q → synodlaw16_LinLess.f (q + 60) h x1 m0 m1 m2 m3 m4 m5 m6 m7 m8 m9 x3 = some true from ⟨_, H _ (Nat.le_refl _)⟩
  intro q hq
  unfold synodlaw16_LinLess.f
  obtain ⟨b, hf, hb⟩ := few_eq (h := h) (by omega) (show 500 ≤ q + 60 by omega)
  obtain ⟨yes, c1, c2, c3⟩ := Check_gen (h := h) (by omega) hl (show 2 * h.length + 7000 ≤ q + 60 by omega)
  rw [first_eq q, Option.bind_some, hf, Option.bind_some, c1, Option.bind_some]
  by_cases g : b = true ∧ h.length ≠ 0 ∧ yes = true
  case neg =>
    have : ((((!true) || (!b)) || (decide ((h.length : Int) = (0 : Int)))) || (!yes)) = true := by
      refine Classical.byContradiction fun hn => g ?_
      cases b <;> cases yes <;> simp_all
    rw [if_pos this]; rfl
  obtain ⟨g1, g2, g3⟩ := g
  rw [if_neg (by rw [g1, g3, decide_eq_false (by omega)]; simp), num_eq, Option.bind_some, Option.bind_some]
  by_cases hv : validL h = 0
  case neg => rw [if_pos (by simp [hv])]
  rw [if_neg (by simp [hv])]
  have h6 := hb g1
  have hj := (c2 hv).1 g3
  obtain ⟨w, hW, hw⟩ := which_eq x1 (n := h.length) (by omega) (by omega)
  have hneI : (h.length : Int) ≠ 0 := by omega
  have ew : IntKind.i64.wrap ((w : Int) + 1) = ((w + 1 : Nat) : Int) := by rw [w64 (by omega) (by omega)]; omega
  obtain ⟨x, hx⟩ : ∃ x, h.getD w op0 = x := ⟨_, rfl⟩
  have cu1 : cut h (0 : Int) (w : Int) = h.take w := by simp [cut]
  have cu2 : cut h ((w + 1 : Nat) : Int) (h.length : Int) = h.drop (w + 1) := by simp [cut]
  obtain ⟨A1, A2, A3, A4⟩ := less_main h6 (by omega) hl hv hj hw hx (show 20000 ≤ q + 60 by omega)
  simp only [hW, ew, List.nil_append, Int.toNat_natCast, cu1, cu2, hx]
  rw [if_pos hneI, if_pos hneI, if_pos (by omega), if_pos (by omega), if_pos (by simp; omega), if_pos (by omega), if_pos (by simp; omega), Explain_eq h6 hl (by omega), Option.bind_some, if_pos hv]
  have hex := (explain_eq (h := h) (key := oKey x) h6 ((validL_12 hv).2.2 _) (Nat.le_refl 6000)).2
  have hlen : (explL h (oKey x)).1.length ≤ 6000 := by
    rcases hex with ⟨o, ho, e⟩ | ⟨_, e⟩
    · rw [e]
      have h1 := comp_len (Nat.two_pow_pos _) ho.1
      have h2 : 2 ^ (opsL h (oKey x)).length ≤ 2 ^ 12 := Nat.pow_le_pow_right (by decide) (by rw [opsL_len]; exact (validL_12 hv).2.2 _)
      simp; omega
    · rw [e]; simp
  have hused := used_l0 (h := h) (x1 := x1) (s := ((explL h (oKey x)).1, (explL h (oKey x)).2, (0 : Int))) hW hlen (explL h (oKey x)).1.length 0 (q + 60) false (by simp) (by omega)
  rw [show ((0 : Nat) : Int) = 0 from rfl, List.drop_zero, Bool.false_or] at hused
  rw [hused, Option.bind_some]
  generalize hu' : ((explL h (oKey x)).1.any fun a => decide (a = (w : Int))) = u
  have A1' := A1 u hu'.symm
  refine orR_inl (s := ()) ?_ ?_
  · have hc : ((if oKind x = (1 : Int) then (some true) else (some ((decide (oBack x = (0 : Int))) && (!u)))) : Option Bool) = some (decide (oKind x = 1) || (decide (oBack x = 0) && !u)) := by
      by_cases h1 : oKind x = 1
      · rw [if_pos h1, decide_eq_true h1]; rfl
      · rw [if_neg h1, decide_eq_false h1]; rfl
    rw [hc, Option.bind_some]
    by_cases h1 : (decide (oKind x = 1) || (decide (oBack x = 0) && !u)) = true
    · rw [if_pos h1, A1' h1]; rfl
    · rw [if_neg h1]
  rw [if_pos (by simp; omega)]
  refine orR_inl (s := ()) ?_ ?_
  · by_cases h1 : oBack x = 0 ∨ oKind x = 1
    · rw [if_neg (by rcases h1 with h1 | h1 <;> simp [h1]), Option.bind_some, if_neg (by simp)]
    · rw [not_or] at h1
      rw [if_pos (by rw [decide_eq_false h1.1, decide_eq_false h1.2]; rfl), cnt_eq x, Option.bind_some, Option.bind_some]
      by_cases h2 : cnt x = true
      · rw [if_pos h2, if_pos (by omega), if_pos (by simp; omega)]
        simp only [getD_set hw, List.set_set]
        rw [A2 h1.1 h1.2 h2, Option.bind_some]; rfl
      · rw [if_neg h2]
  rw [if_pos (by simp; omega)]
  refine orR_inl (s := ()) ?_ ?_
  · by_cases h1 : oBack x = 0
    · rw [if_pos h1]
    · rw [if_neg h1, if_pos (by omega)]
      obtain ⟨y, y1, y2⟩ := A3 (IntKind.i64.wrap (oBack x + min (max x3 (0 : Int)) (1000 : Int))) h1
      rw [y1, Option.bind_some]
      by_cases h2 : oBack x < 4611686018427387904
      · have hb0 : 0 ≤ oBack x := by
          have hxm : x ∈ h := by rw [← hx, getD_at hw]; exact List.getElem_mem _
          exact (bad_zero (((validL_iff h).1 hv).2.1 x hxm)).2.2.1
        have := y2 (by rw [w64 (by omega) (by omega)]; omega)
        rw [this, if_neg (by simp)]
      · rw [if_neg (by rw [decide_eq_false h2]; simp)]
  by_cases h9 : (9000 : Int) < (m3.length : Int)
  · rw [if_pos h9]
  · rw [if_neg h9, if_pos (by simp; omega), if_pos (by simp; omega)]
    obtain ⟨y, y1, y2⟩ := A4 (m0, m1, m2, m3, m4, m5, m6, 0, 0, []) rfl (show m3.length ≤ 9000 by omega)
    rw [y1, Option.bind_some]
    rcases y2 with y2 | y2
    · rw [y2]; rfl
    · by_cases h3 : y.1 = true
      · rw [h3]; rfl
      · rw [if_neg h3, num_eq, Option.bind_some, decide_eq_false y2]; rfl
end Go.Proofs.Ytlblpegbgbgliaa

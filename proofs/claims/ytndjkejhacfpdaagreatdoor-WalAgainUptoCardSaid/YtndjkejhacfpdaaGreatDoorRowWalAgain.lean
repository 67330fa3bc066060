/- The row of the law WalAgain, out of its pure law and the printed walk. Conditions: none. -/
import Derived.Test.YtndjkejhacfpdaaGreatDoorM9
import Derived.Lib.LaidTab
import Derived.Deep.DeepHandedRow
import Derived.Lay
import Derived.MakeChecks
import Derived.Test.YtndjkejhacfpdaaGreatDoorCards
import Derived.Test.YtndjkejhacfpdaaGreatDoorTie
set_option linter.unusedVariables false
set_option linter.unusedSimpArgs false
set_option linter.unusedSectionVars false
namespace Go.Proofs.YtndjkejhacfpdaaGreatDoor
open Go.RowKit
def gD (r : bO) : St := (r.2.2.1, r.2.2.2.1, r.2.2.2.2.1, r.2.2.2.2.2.1, r.2.2.2.2.2.2.1, [])
def iN : St → List bO → Int → Prop
 | _, [], _ => True
 | s, r :: l, sg => okT s r ∧ iN (cT s r sg) l sg
theorem nY (s : St) (a b : List bO) (sg : Int) : cQ s (a ++ b) sg = cQ (cQ s a sg) b sg := by unfold cQ; rw [List.foldl_append]
theorem mt : ∀ (a : List bO) (s : St) (b : List bO) (sg : Int), iN s a sg → iN (cQ s a sg) b sg → iN s (a ++ b) sg
 | [], s, b, sg, _, h => h
 | r :: a, s, b, sg, h1, h2 => ⟨h1.1, mt a (cT s r sg) b sg h1.2 h2⟩
def mp (r : bO) : Prop := (∃ t v c, gB t v c = 0 ∧ r = (1, 0, t, v, c, 0, 0, 0, 0, 0, [])) ∨ (∃ e : EnT, iY e.1 e.2.1 e.2.2.1 e.2.2.2 = 0 ∧ r = eF e) ∨ (∃ i m, (0 < i ∧ okN i) ∧ (0 < m ∧ okN m) ∧ r = (3, 0, 0, 0, 0, i, m, 0, 0, 0, []))
theorem kD {r : bO} (h : mp r) : OkR r ∧ r.1 ≠ 0 := by
 rcases h with ⟨t, v, c, h1, rfl⟩ | ⟨e, h1, rfl⟩ | ⟨i, m, h1, D, rfl⟩
 ·have u := jM h1
  exact ⟨⟨⟨by simp, by simp⟩, ft, u.1, u.2.1, u.2.2, ft, ft, fun e => absurd e (by simp)⟩, by simp⟩
 ·exact ⟨⟨⟨by simp [eF], by simp [eF]⟩, ft, ft, ft, ft, ft, ft, fun _ => h1⟩, by simp [eF]⟩
 ·exact ⟨⟨⟨by simp, by simp⟩, ft, ft, ft, ft, h1.2, D.2, fun e => absurd e (by simp)⟩, by simp⟩
def iD : St → List bO → Int → Prop
 | _, [], _ => True
 | s, r :: l, sg => (okT s r ∧ (r.1 = 3 → fQ s r.2.2.2.2.2.1 r.2.2.2.2.2.2.1 = false)) ∧ iD (cT s r sg) l sg
theorem lh : ∀ (a : List bO) (s : St) (b : List bO) (sg : Int), iD s a sg → iD (cQ s a sg) b sg → iD s (a ++ b) sg
 | [], s, b, sg, _, h => h
 | r :: a, s, b, sg, h1, h2 => ⟨h1.1, lh a (cT s r sg) b sg h1.2 h2⟩
theorem vw {N sg : Int} (D : N ≤ sg) : ∀ (rs : List bO) (M P : St), dN M → dN P → Jn N M P → (∀ r, r ∈ rs → mp r) → iD M rs sg → iN P rs sg ∧ Jn N (cQ M rs sg) (cQ P rs sg) ∧ dN (cQ P rs sg)
 | [], M, P, _, hP, h, _, _ => ⟨trivial, h, hP⟩
 | r :: rs, M, P, hM, hP, h, hl, hc => by
  have u := kD (hl r (by simp))
  have G := uN h
  obtain ⟨⟨I, c2⟩, J⟩ := hc
  have L : r.1 = 3 → 0 < r.2.2.2.2.2.2.1 := by
   intro e
   rcases hl r (by simp) with ⟨t, v, c, h1, rfl⟩ | ⟨e, h1, rfl⟩ | ⟨i, m, h1, U, rfl⟩
   ·simp at e
   ·simp [eF] at e
   ·exact U.1
  obtain ⟨X, g2, g3⟩ := vw D rs (cT M r sg) (cT P r sg) (jo hM u.1 u.2 sg) (jo hP u.1 u.2 sg) (yz hM hP h D u.1 u.2 (fun e => ⟨L e, c2 e⟩) I) (fun x hx => hl x (by simp [hx])) J
  exact ⟨⟨fun e => by have := I e; omega, X⟩, g2, g3⟩
theorem vx {s u : St} (h : s.2.2.2 = u.2.2.2) (i m : Int) : fQ s i m = fQ u i m := by unfold fQ; rw [h]
theorem uo {s u : St} (h : s.2.2.2 = u.2.2.2) : cC s = cC u := by unfold cC; rw [h]
theorem rU (sg : Int) : ∀ (es : List EnT) (s : St), dN s → eI es = 0 → lZ (cC s).1 es = 0 → iD s (es.map eF) sg
 | [], s, _, _, _ => trivial
 | e :: es, s, hs, hf, hg => by
  have u := jE hf e (by simp)
  have J := kD (r := eF e) (.inr (.inl ⟨e, u, rfl⟩))
  have hx := (fC u).2.1.1
  have U := kZ hs
  have hb := hs.b.1
  simp only [lZ] at hg
  split at hg
  ·omega
  rename_i L
  have D : eI es = 0 := by
   simp only [eI] at hf
   rw [if_pos u] at hf
   exact hf
  have G : okT s (eF e) := fun _ => by
   show e.2.1 ≤ _
   omega
  have I : (cC (cT s (eF e) sg)).1 = e.2.1 := by
   unfold cT
   rw [if_neg (show ¬ (eF e).1 = 1 by simp [eF]), if_pos (show (eF e).1 = 2 from rfl), if_neg (show ¬ (s.2.2.2.1 + (s.2.2.2.2.2.length : Int) + 1 < (eF e).2.2.2.2.2.2.2.2.1) by show ¬ _ < e.2.1; omega)]
   split
   ·rfl
   ·rw [kY]; rfl
  refine ⟨⟨G, fun X => absurd X (by simp [eF])⟩, rU sg es _ (jo hs J.1 J.2 sg) D (by rw [I]; exact hg)⟩
theorem uq {s : St} (u : dN s) {b : BaT} (h : iu s b = 0) (sg : Int) : iD s (gc s b) sg := by
 obtain ⟨h1, h2, h3, h4⟩ := mv h
 have G := np h2
 unfold gc
 obtain ⟨A, J⟩ : ∃ A : List bO, (if b.1 = true ∧ (b.2.1 ≠ s.1 ∨ b.2.2.1 ≠ s.2.1) then [(1, 0, b.2.1, b.2.2.1, s.2.2.1, 0, 0, 0, 0, 0, [])] else []) = A := ⟨_, rfl⟩
 obtain ⟨D, L⟩ : ∃ D : List bO, (if b.1 = true ∧ b.2.2.2.1 ≠ s.2.2.1 then [(1, 0, b.2.1, b.2.2.1, b.2.2.2.1, 0, 0, 0, 0, 0, [])] else []) = D := ⟨_, rfl⟩
 rw [J, L]
 have hA : iD s A sg ∧ (cQ s A sg).2.2.2 = s.2.2.2 ∧ dN (cQ s A sg) := by
  rw [← J]
  split
  ·rename_i g
   have U := jM (h1 g.1)
   exact ⟨⟨⟨fun e => absurd e (by simp), fun e => absurd e (by simp)⟩, trivial⟩, rfl, ⟨U.1, U.2.1, u.c, u.b, u.bt, u.idx, u.chk⟩⟩
  ·exact ⟨trivial, rfl, u⟩
 obtain ⟨a1, a2, a3⟩ := hA
 obtain ⟨s1, I⟩ : ∃ s1, cQ s A sg = s1 := ⟨_, rfl⟩
 rw [I] at a2 a3
 obtain ⟨B, X⟩ : ∃ B : List bO, (if gQ s b = true then [(3, 0, 0, 0, 0, b.2.2.2.2.1, b.2.2.2.2.2.1, 0, 0, 0, [])] else []) = B := ⟨_, rfl⟩
 rw [X]
 have hB : iD s1 B sg ∧ (cC (cQ s1 B sg)).1 = (if gQ s b = true then b.2.2.2.2.1 else (cC s).1) ∧ dN (cQ s1 B sg) := by
  rw [← X]
  split
  ·rename_i g
   have hm : fQ s1 b.2.2.2.2.1 b.2.2.2.2.2.1 = false := by
    rw [vx a2]
    unfold gQ at g
    simp only [Bool.and_eq_true, Bool.not_eq_true'] at g
    exact g.2
   have ht : cT s1 (3, 0, 0, 0, 0, b.2.2.2.2.1, b.2.2.2.2.2.1, 0, 0, 0, []) sg = (s1.1, s1.2.1, s1.2.2.1, b.2.2.2.2.1, b.2.2.2.2.2.1, []) := by
    unfold cT
    rw [if_neg (show ¬ (3 : Int) = 1 by decide), if_neg (show ¬ (3 : Int) = 2 by decide)]
    simp only
    rw [hm]
    rfl
   refine ⟨⟨⟨fun e => absurd e (by simp), fun _ => hm⟩, trivial⟩, ?_, ?_⟩
   ·rw [show cQ s1 [(3, 0, 0, 0, 0, b.2.2.2.2.1, b.2.2.2.2.2.1, 0, 0, 0, [])] sg = cT s1 (3, 0, 0, 0, 0, b.2.2.2.2.1, b.2.2.2.2.2.1, 0, 0, 0, []) sg from rfl, ht]
    rfl
   ·rw [show cQ s1 [(3, 0, 0, 0, 0, b.2.2.2.2.1, b.2.2.2.2.2.1, 0, 0, 0, [])] sg = cT s1 (3, 0, 0, 0, 0, b.2.2.2.2.1, b.2.2.2.2.2.1, 0, 0, 0, []) sg from rfl, ht]
    exact ⟨a3.t, a3.v, a3.c, G.1, G.2, fun i hi => by simp at hi, fun e he => by cases he⟩
  ·refine ⟨trivial, ?_, a3⟩
   show (cC s1).1 = _
   rw [uo a2]
 obtain ⟨b1, b2, b3⟩ := hB
 refine lh _ _ _ _ (lh _ _ _ _ (lh _ _ _ _ a1 (by rw [I]; exact b1)) ?_) ?_
 ·rw [nY, I]
  exact rU sg _ _ b3 h3 (by rw [b2]; exact h4)
 ·rw [← L]
  split
  ·exact ⟨⟨fun e => absurd e (by simp), fun e => absurd e (by simp)⟩, trivial⟩
  ·trivial
theorem wt {t v c u : Int} (h : gB t v c = 0) (G : rg u 0) : gB t v u = 0 := by
 unfold gB at h ⊢
 split at h
 ·omega
 ·rename_i D
  have : ¬ (¬ (rg t 0 ∧ rg u 0) ∨ v < 0 ∨ 7 < v) := fun x => by
   rcases x with x | x
   ·exact D (.inl fun y => x ⟨y.1, G⟩)
   ·exact D (.inr x)
  rw [if_neg this]
  exact h
theorem wu {s : St} (J : dN s) {b : BaT} (h : iu s b = 0) : ∀ r, r ∈ gc s b → mp r := by
 obtain ⟨h1, L, X, _⟩ := mv h
 have D := np L
 intro r u
 unfold gc at u
 rcases List.mem_append.1 u with u | u
 ·rcases List.mem_append.1 u with u | u
  ·rcases List.mem_append.1 u with u | u
   ·split at u
    ·rename_i g
     rw [List.mem_singleton.1 u]
     exact .inl ⟨_, _, _, wt (h1 g.1) ⟨J.c.1, J.c.2⟩, rfl⟩
    ·cases u
   ·split at u
    ·rename_i g
     rw [List.mem_singleton.1 u]
     unfold gQ at g
     simp only [Bool.and_eq_true, Bool.not_eq_true', decide_eq_false_iff_not] at g
     have G : b.2.2.2.2.1 ≠ 0 := g.1
     have I : ¬ ¬ (b.2.2.2.2.1 = 0 ↔ b.2.2.2.2.2.1 = 0) := fun x => L (.inr x)
     have U : b.2.2.2.2.2.1 ≠ 0 := fun e => G ((Decidable.not_not.1 I).2 e)
     have p1 := D.1.1
     have p2 := D.2.1
     exact .inr (.inr ⟨_, _, ⟨by omega, D.1⟩, ⟨by omega, D.2⟩, rfl⟩)
    ·cases u
  ·obtain ⟨e, he, rfl⟩ := List.mem_map.1 u
   exact .inr (.inl ⟨e, jE X e he, rfl⟩)
 ·split at u
  ·rename_i g
   rw [List.mem_singleton.1 u]
   exact .inl ⟨_, _, _, h1 g.1, rfl⟩
  ·cases u
/-! ### What is told from a segment on -/
def Rep (H : Nat → bO) (h : Nat → List bO) (u : Nat) : Nat → St → Prop
 | 0, P => iN (gD (H u)) (h u) (u : Int) ∧ P = cQ (gD (H u)) (h u) (u : Int)
 | j + 1, P => ∃ Q, Rep H h u j Q ∧ H (u + j + 1) = dh (u + j + 1) Q ∧ iN Q (h (u + j + 1)) ((u + j + 1 : Nat) : Int) ∧ P = cQ Q (h (u + j + 1)) ((u + j + 1 : Nat) : Int)
theorem mR {H H' : Nat → bO} {h D : Nat → List bO} {u : Nat} : ∀ (j : Nat) (P : St), (∀ n, u ≤ n → n ≤ u + j → H' n = H n ∧ D n = h n) → Rep H h u j P → Rep H' D u j P
 | 0, P, he, hr => by
  have := he u (Nat.le_refl _) (Nat.le_refl _)
  unfold Rep at hr ⊢
  rw [this.1, this.2]
  exact hr
 | j + 1, P, he, ⟨Q, q1, q2, q3, q4⟩ => by
  have := he (u + j + 1) (by omega) (by omega)
  refine ⟨Q, mR j Q (fun n h1 G => he n h1 (by omega)) q1, ?_, ?_, ?_⟩
  ·rw [this.1]; exact q2
  ·rw [this.2]; exact q3
  ·rw [this.2]; exact q4
theorem wv {H : Nat → bO} {h : Nat → List bO} {u : Nat} {rs : List bO} : ∀ (j : Nat) (P : St), Rep H h u j P → iN P rs ((u + j : Nat) : Int) → Rep H (fun n => if n = u + j then h n ++ rs else h n) u j (cQ P rs ((u + j : Nat) : Int))
 | 0, P, ⟨q1, q2⟩, hf => by
  subst q2
  unfold Rep
  simp only [Nat.add_zero, if_true] at hf ⊢
  exact ⟨mt _ _ _ _ q1 hf, (nY _ _ _ _).symm⟩
 | j + 1, P, ⟨Q, q1, q2, q3, q4⟩, hf => by
  subst q4
  refine ⟨Q, mR j Q (fun n h1 D => ⟨rfl, ?_⟩) q1, q2, ?_, ?_⟩
  ·show (if n = u + (j + 1) then h n ++ rs else h n) = h n
   rw [if_neg (by omega)]
  ·show iN Q (if u + j + 1 = u + (j + 1) then _ else _) _
   rw [if_pos (by omega)]
   exact mt _ _ _ _ q3 hf
  ·show _ = cQ Q (if u + j + 1 = u + (j + 1) then _ else _) _
   rw [if_pos (by omega), nY]
   rfl
structure gV (w : Wl) (H : Nat → bO) (h : Nat → List bO) : Prop where
 len : w.fs.length = w.m + 1
 sz : (bw w.fs (aK w.last)).1.length = w.size
 fl : ∀ n, w.s0 ≤ n → n ≤ w.last → (bw w.fs (aK n)).1 = fa (cF (H n) :: (h n).map cF)
 hd : ∀ n, w.s0 ≤ n → n ≤ w.last → ∃ s : St, dN s ∧ gB s.1 s.2.1 s.2.2.1 = 0 ∧ H n = dh n s
 lr : ∀ n, w.s0 ≤ n → n ≤ w.last → ∀ r, r ∈ h n → mp r
 rp : ∀ n0 j, w.s0 ≤ n0 → n0 + j = w.last → ∃ P, Rep H h n0 j P ∧ dN P ∧ Jn (n0 : Int) w.st P
 sg : ∀ i, i < w.st.2.2.2.2.2.length → (w.s0 : Int) ≤ (w.st.2.2.2.2.2.getD i dzH).2.2.2.2 ∧ (w.st.2.2.2.2.2.getD i dzH).2.2.2.2 ≤ (w.last : Int)
 cs : gB w.st.1 w.st.2.1 w.st.2.2.1 = 0
theorem nq {w : Wl} {H : Nat → bO} {h : Nat → List bO} (u : gV w H h) (I : (aU w.fs (aK w.last)).isSome = true) : gV (dn w) H h := by
 have D := ff (v := ((bw w.fs (aK w.last)).1, ((bw w.fs (aK w.last)).1.length : Int))) I
 have G : ∀ x, (bw (dn w).fs x).1 = (bw w.fs x).1 := fun x => by
  show (bw (aX w.fs (aK w.last) _) x).1 = _
  rw [rO]
  split
  ·rename_i e; rw [e]
  ·rfl
 exact ⟨by show (aX w.fs _ _).length = _; rw [D]; exact u.len, by rw [G]; exact u.sz, fun n h1 J => by rw [G]; exact u.fl n h1 J, u.hd, u.lr, u.rp, u.sg, u.cs⟩
theorem rV {fs : FSt} {n : Nat} {b : List UInt8} (u : aU fs (aK n) = none) : (hJ fs n b).length = fs.length + 1 := by
 have l1 := fW fs (aK n) (([], 0) : List UInt8 × Int)
 rw [u] at l1
 have D : aU (aX fs (aK n) ([], 0)) (aK n) = some ([], 0) := by rw [dR, if_pos rfl]
 have l2 := fW (aX fs (aK n) ([], 0)) (aK n) (([] ++ b, 0) : List UInt8 × Int)
 rw [D] at l2
 have G : aU (aX (aX fs (aK n) ([], 0)) (aK n) ([] ++ b, 0)) (aK n) = some ([] ++ b, 0) := by rw [dR, if_pos rfl]
 have l3 := fW (aX (aX fs (aK n) ([], 0)) (aK n) ([] ++ b, 0)) (aK n) (([] ++ b, ((([] ++ b : List UInt8)).length : Int)) : List UInt8 × Int)
 rw [G] at l3
 simp only [Option.isSome_none, Option.isSome_some, Bool.false_eq_true, if_false, if_true] at l1 l2 l3
 unfold hJ
 rw [l3, l2, l1]
theorem mS {n : Nat} {s : St} (h : dN s) : dN (gD (dh n s)) := ⟨h.t, h.v, h.c, (kf h).1, (kf h).2, fun i hi => by simp [gD] at hi, fun e u => by cases u⟩
theorem vy {N : Int} {s : St} (h : dN s) (n : Nat) (U : ∀ i, i < s.2.2.2.2.2.length → (s.2.2.2.2.2.getD i dzH).2.2.2.2 < N) : Jn N s (gD (dh n s)) := by
 have I := kZ h
 have D : (gD (dh n s)).2.2.2.2.2 = [] := rfl
 refine ⟨⟨rfl, rfl, rfl⟩, rfl, ⟨s.2.2.2.2.2.length, I, Nat.le_refl _, by rw [D, List.drop_of_length_le (Nat.le_refl _)], U, fun i h1 h2 => by omega⟩, fun i m hm G => ?_⟩
 have u := sK G
 rw [D] at u
 have L : (gD (dh n s)).2.2.2.1 = (cC s).1 := rfl
 rw [L] at u
 simp only [List.length_nil] at u
 have X : i = (cC s).1 := by omega
 subst X
 unfold fQ at G
 rw [L, if_pos rfl] at G
 have J : (gD (dh n s)).2.2.2.2.1 = (cC s).2 := rfl
 simp only [J, decide_eq_true_eq] at G
 subst G
 unfold fQ
 by_cases h0 : 0 < s.2.2.2.2.2.length
 ·rw [if_neg (by omega), if_pos (by omega), show ((cC s).1 - s.2.2.2.1 - 1).toNat = s.2.2.2.2.2.length - 1 by omega]
  unfold cC
  rw [if_pos h0]
  simp
 ·rw [if_pos (by omega)]
  unfold cC
  rw [if_neg h0]
  simp
theorem ww {T N Z L : Nat} {w : Wl} (I : WOk T N Z L w) (hT : T < 99999990) {H : Nat → bO} {h : Nat → List bO} (D : gV w H h) : ∃ H' h', gV (jd w) H' h' := by
 have a1 := I.top
 have hh := I.has w.last (by unfold Wl.last; omega) (Nat.le_refl _)
 have hs := nq D hh
 unfold jd
 by_cases hc : w.most ≤ (w.size : Int)
 ·rw [if_pos hc]
  have J : ∀ n, n ≤ w.last → aK n ≠ aK (w.last + 1) := fun n hn e => by
   have := fG (by unfold Wl.last at hn; omega) (by unfold Wl.last; omega) e
   omega
  have ab := ff (v := ((bw w.fs (aK w.last)).1, ((bw w.fs (aK w.last)).1.length : Int))) hh
  have ad : aU (aX w.fs (aK w.last) ((bw w.fs (aK w.last)).1, ((bw w.fs (aK w.last)).1.length : Int))) (aK (w.last + 1)) = none := by
   rw [dR, if_neg (J _ (Nat.le_refl _)), I.non _ (by unfold Wl.last; omega) (by unfold Wl.last; omega)]
  obtain ⟨b, eb⟩ : ∃ b, frB (cF (dh (w.last + 1) w.st)) = b := ⟨_, rfl⟩
  have hb : b = fa [cF (dh (w.last + 1) w.st)] := by rw [← eb, fa, fa, List.append_nil]
  rw [eb]
  have bc : w.last = w.s0 + w.m := rfl
  refine ⟨fun n => if n = w.last + 1 then dh n w.st else H n, fun n => if n = w.last + 1 then [] else h n, ?_, ?_, fun n h1 u => ?_, fun n h1 u => ?_, fun n h1 u r X => ?_, fun G j h1 u => ?_, fun i hi => ?_, D.cs⟩
  ·show (hJ _ (w.last + 1) b).length = w.m + 1 + 1
   rw [rV ad, ab, D.len]
  ·show (bw (hJ (aX w.fs (aK w.last) _) (w.last + 1) b) (aK (w.s0 + (w.m + 1)))).1.length = b.length
   rw [mn, show w.s0 + (w.m + 1) = w.last + 1 from rfl, if_pos rfl]
  ·have u : n ≤ w.s0 + (w.m + 1) := u
   simp only at h1 ⊢
   rw [mn]
   by_cases e : n = w.last + 1
   ·rw [e, if_pos rfl, if_pos rfl, if_pos rfl, hb]; rfl
   ·rw [if_neg (J n (by omega)), if_neg e, if_neg e]
    exact hs.fl n h1 (by show n ≤ w.last; omega)
  ·have u : n ≤ w.s0 + (w.m + 1) := u
   by_cases e : n = w.last + 1
   ·simp only [if_pos e]
    exact ⟨w.st, I.st, D.cs, rfl⟩
   ·simp only [if_neg e]
    exact D.hd n h1 (by omega)
  ·have u : n ≤ w.s0 + (w.m + 1) := u
   by_cases e : n = w.last + 1
   ·simp only [if_pos e] at X
    cases X
   ·simp only [if_neg e] at X
    exact D.lr n h1 (by omega) r X
  ·have u : G + j = w.s0 + (w.m + 1) := u
   have h1 : w.s0 ≤ G := h1
   show ∃ P, Rep _ _ G j P ∧ dN P ∧ Jn (G : Int) w.st P
   cases j with
   | zero =>
    have e : G = w.last + 1 := by omega
    refine ⟨gD (dh G w.st), ?_, mS I.st, vy I.st G fun i hi => by have := (D.sg i hi).2; omega⟩
    unfold Rep
    simp only [if_pos e]
    exact ⟨trivial, rfl⟩
   | succ j =>
    obtain ⟨P, p1, p2, U⟩ := D.rp G j h1 (by omega)
    have e : G + j + 1 = w.last + 1 := by omega
    refine ⟨P, ⟨P, mR j P (fun n q1 q2 => ⟨if_neg (by omega), if_neg (by omega)⟩) p1, ?_, ?_, ?_⟩, p2, U⟩
    ·simp only [if_pos e]
     unfold dh
     rw [U.la, U.tvc.1, U.tvc.2.1, U.tvc.2.2]
    ·simp only [if_pos e]
     trivial
    ·simp only [if_pos e]
     rfl
  ·have := D.sg i hi
   refine ⟨this.1, Int.le_trans this.2 ?_⟩
   show ((w.last : Nat) : Int) ≤ ((w.s0 + (w.m + 1) : Nat) : Int)
   omega
 ·rw [if_neg hc]; exact ⟨H, h, D⟩
theorem xW {lo hi : Int} {s : St} {r : bO} {sg : Int} (h1 : lo ≤ sg) (D : sg ≤ hi) (h : ∀ e, e ∈ s.2.2.2.2.2 → lo ≤ e.2.2.2.2 ∧ e.2.2.2.2 ≤ hi) : ∀ e, e ∈ (cT s r sg).2.2.2.2.2 → lo ≤ e.2.2.2.2 ∧ e.2.2.2.2 ≤ hi := by
 intro e u
 unfold cT at u
 split at u
 ·exact h e u
 split at u
 ·split at u
  ·exact h e u
  split at u
  ·rw [List.mem_singleton.1 u]; exact ⟨h1, D⟩
  ·rcases List.mem_append.1 u with u | u
   ·exact h e (List.mem_of_mem_take u)
   ·rw [List.mem_singleton.1 u]; exact ⟨h1, D⟩
 split at u
 ·exact h e u
 ·cases u
theorem tm {lo hi sg : Int} (h1 : lo ≤ sg) (u : sg ≤ hi) : ∀ (rs : List bO) (s : St), (∀ e, e ∈ s.2.2.2.2.2 → lo ≤ e.2.2.2.2 ∧ e.2.2.2.2 ≤ hi) → ∀ e, e ∈ (cQ s rs sg).2.2.2.2.2 → lo ≤ e.2.2.2.2 ∧ e.2.2.2.2 ≤ hi
 | [], s, h => h
 | r :: rs, s, h => tm h1 u rs (cT s r sg) (xW h1 u h)
theorem yN {l : List HeT} {Q : HeT → Prop} (h : ∀ i, i < l.length → Q (l.getD i dzH)) : ∀ e, e ∈ l → Q e := by
 intro e u
 obtain ⟨i, hi, rfl⟩ := List.mem_iff_getElem.1 u
 have := h i hi
 rw [fD hi] at this
 exact this
theorem xX {s : St} {r : bO} {sg : Int} (h : mp r) (u : gB s.1 s.2.1 s.2.2.1 = 0) : gB (cT s r sg).1 (cT s r sg).2.1 (cT s r sg).2.2.1 = 0 := by
 rcases h with ⟨t, v, c, h1, rfl⟩ | ⟨e, h1, rfl⟩ | ⟨i, m, h1, D, rfl⟩
 ·exact h1
 ·unfold cT
  rw [if_neg (show ¬ (eF e).1 = 1 by simp [eF]), if_pos (show (eF e).1 = 2 from rfl)]
  split
  ·exact u
  split <;> exact u
 ·unfold cT
  rw [if_neg (show ¬ (3 : Int) = 1 by decide), if_neg (show ¬ (3 : Int) = 2 by decide)]
  split <;> exact u
theorem tn {sg : Int} : ∀ (rs : List bO) (s : St), (∀ r, r ∈ rs → mp r) → gB s.1 s.2.1 s.2.2.1 = 0 → gB (cQ s rs sg).1 (cQ s rs sg).2.1 (cQ s rs sg).2.2.1 = 0
 | [], s, _, h => h
 | r :: rs, s, hl, h => tn rs (cT s r sg) (fun x u => hl x (by simp [u])) (xX (hl r (by simp)) h)
theorem xY {T N Z L : Nat} {w : Wl} (hw : WOk T N Z L w) (hT : T < 99999990) {H : Nat → bO} {h : Nat → List bO} (D : gV w H h) {rs : List bO} (hr : ∀ r, r ∈ rs → mp r) (X : iD w.st rs (w.last : Int)) : ∃ H' h', gV (jF w rs) H' h' := by
 have bc := hw.top
 have hh := hw.has w.last (by unfold Wl.last; omega) (Nat.le_refl _)
 have af := ff (v := ((bw w.fs (aK w.last)).1 ++ eG rs, (bw w.fs (aK w.last)).2)) hh
 have J : ∀ x, (bw (jF w rs).fs x).1 = if aK w.last = x then (bw w.fs (aK w.last)).1 ++ eG rs else (bw w.fs x).1 := fun x => by
  unfold jF
  by_cases X : 0 < rs.length
  ·simp only [if_pos X]
   rw [rO]
   split <;> rfl
  ·simp only [if_neg X]
   have : rs = [] := List.length_eq_zero_iff.1 (by omega)
   rw [this, eG, List.append_nil]
   split
   ·rename_i e; rw [e]
   ·rfl
 have G : (jF w rs).last = w.last := rfl
 have U : (jF w rs).st = cQ w.st rs (w.last : Int) := rfl
 have al : ∀ n, n < w.last → aK w.last ≠ aK n := fun n hn e => by
  have := fG (by unfold Wl.last; omega) (by unfold Wl.last at hn; omega) e
  omega
 refine ⟨H, fun n => if n = w.last then h n ++ rs else h n, ?_, ?_, fun n h1 I => ?_, D.hd, fun n h1 I r u => ?_, fun n0 j h1 I => ?_, fun i hi => ?_, ?_⟩
 ·show (if 0 < rs.length then aX w.fs (aK w.last) _ else w.fs).length = w.m + 1
  split
  ·rw [af]; exact D.len
  ·exact D.len
 ·rw [G, J, if_pos rfl, List.length_append, D.sz]
  rfl
 ·rw [G] at I
  rw [J]
  by_cases e : n = w.last
  ·simp only [if_pos e]
   rw [e, if_pos rfl, D.fl w.last (by unfold Wl.last; omega) (Nat.le_refl _), nD, ← rM, List.map_append]
   rfl
  ·simp only [if_neg e]
   rw [if_neg (al n (by omega))]
   exact D.fl n h1 I
 ·rw [G] at I
  by_cases e : n = w.last
  ·simp only [if_pos e] at u
   rcases List.mem_append.1 u with u | u
   ·exact D.lr n h1 I r u
   ·exact hr r u
  ·simp only [if_neg e] at u
   exact D.lr n h1 I r u
 ·rw [G] at I
  obtain ⟨P, p1, p2, p3⟩ := D.rp n0 j h1 I
  obtain ⟨g1, g2, g3⟩ := vw (N := (n0 : Int)) (sg := (w.last : Int)) (by omega) rs w.st P hw.st p2 p3 hr X
  rw [← I] at g1 g2 g3
  have := wv (rs := rs) j P p1 g1
  rw [I] at this g1 g2 g3
  exact ⟨cQ P rs (w.last : Int), this, g3, g2⟩
 ·rw [U] at hi ⊢
  rw [G]
  have := tm (lo := (w.s0 : Int)) (hi := (w.last : Int)) (sg := (w.last : Int)) (by unfold Wl.last; omega) (Int.le_refl _) rs w.st (yN D.sg) _ (kI hi)
  exact this
 ·rw [U]
  exact tn rs w.st hr D.cs
theorem xZ {T N Z L : Nat} {w : Wl} (D : WOk T N Z L w) (hT : T < 99999980) (hN : N < 256) (J : Z + 200 ≤ 16777216) (U : L < 2 ^ 30) {H : Nat → bO} {h : Nat → List bO} (G : gV w H h) (b : BaT) : ∃ H' X, gV (nZ w b) H' X := by
 unfold nZ
 split
 ·rename_i I
  have h1 := ph D (by omega) hN J U
  obtain ⟨H1, ab, h2⟩ := ww D (by omega) G
  unfold kP
  have u := pi w
  refine xY h1 (by omega) h2 ?_ ?_
  ·rw [u]; exact wu D.st I
  ·rw [u]; exact uq D.st I _
 ·exact ⟨H, h, G⟩
theorem pT : ∀ (l : List HeT) (sg : Int), eX l sg < l.length → (l.getD (eX l sg) dzH).2.2.2.2 ≠ sg
 | [], sg, h => by simp at h
 | e :: l, sg, h => by
  unfold eX at h ⊢
  split
  ·rename_i u
   rw [if_pos u] at h
   rw [List.length_cons] at h
   have := pT l sg (by omega)
   rw [List.getD_cons_succ]
   exact this
  ·rename_i u
   rw [List.getD_cons_zero]
   exact u
theorem wx {T N Z L : Nat} {u : Wl} (hw : WOk T N Z L u) (hT : T ≤ 99999999) (hm : 0 < u.m) {H : Nat → bO} {h : Nat → List bO} (I : gV u H h) : gV (jc u) H h := by
 have bs := hw.top
 have hh := hw.has u.s0 (Nat.le_refl _) (by omega)
 have b1 := nS u.fs (aK u.s0) hh
 have G : (jc u).last = u.last := by unfold Wl.last; show u.s0 + 1 + (u.m - 1) = _; omega
 have hg : ∀ n, u.s0 + 1 ≤ n → n ≤ u.last → bw (jc u).fs (aK n) = bw u.fs (aK n) := fun n h1 D => by
  show bw (dM u.fs (aK u.s0)) (aK n) = _
  unfold bw
  rw [lc _ _ _ hw.inv.nd, if_neg (fun e => by have := fG (by omega) (by unfold Wl.last at D; omega) e; omega)]
 have U : (jc u).st = eK u.st (eX u.st.2.2.2.2.2 (u.s0 : Int)) := rfl
 have X : (eK u.st (eX u.st.2.2.2.2.2 (u.s0 : Int))).2.2.2.2.2 = u.st.2.2.2.2.2.drop (eX u.st.2.2.2.2.2 (u.s0 : Int)) := rfl
 have ad : ∀ J j, u.s0 + 1 ≤ J → J + j = u.last → ∃ P, Rep H h J j P ∧ dN P ∧ Jn (J : Int) (jc u).st P := fun J j h1 D => by
  obtain ⟨P, p1, p2, p3⟩ := I.rp J j (by omega) D
  exact ⟨P, p1, p2, yA hw.st p3 (by omega)⟩
 refine ⟨?_, ?_, fun n h1 D => ?_, fun n h1 D => ?_, fun n h1 D => ?_, fun J j h1 D => ?_, fun i hi => ?_, I.cs⟩
 ·show (dM u.fs (aK u.s0)).length = u.m - 1 + 1
  have := I.len
  omega
 ·rw [G, hg _ (by unfold Wl.last; omega) (Nat.le_refl _)]
  exact I.sz
 ·rw [G] at D
  have ab : u.s0 + 1 ≤ n := h1
  rw [hg n ab D]
  exact I.fl n (by omega) D
 ·rw [G] at D
  have ab : u.s0 + 1 ≤ n := h1
  exact I.hd n (by omega) D
 ·rw [G] at D
  have ab : u.s0 + 1 ≤ n := h1
  exact I.lr n (by omega) D
 ·rw [G] at D
  exact ad J j h1 D
 ·rw [G]
  rw [U, X, List.length_drop] at hi
  obtain ⟨P, p1, p2, p3⟩ := ad (u.s0 + 1) (u.m - 1) (Nat.le_refl _) (by unfold Wl.last; omega)
  obtain ⟨d, d1, d2, d3, d4, d5⟩ := p3.lb
  rw [U, X] at d2 d4 d5
  have b2 : d = 0 := by
   rcases Nat.eq_zero_or_pos d with h0 | h0
   ·exact h0
   ·rw [List.length_drop] at d2
    have e1 := d4 0 h0
    rw [jn, Nat.add_zero] at e1
    have e2 := (I.sg (eX u.st.2.2.2.2.2 (u.s0 : Int)) (by omega)).1
    have e3 := pT u.st.2.2.2.2.2 (u.s0 : Int) (by omega)
    omega
  have e1 := d5 i (by omega) (by rw [List.length_drop]; exact hi)
  have e2 := (I.sg (eX u.st.2.2.2.2.2 (u.s0 : Int) + i) (by omega)).2
  rw [jn] at e1
  rw [U, X, jn]
  exact ⟨e1, e2⟩
end Go.Proofs.YtndjkejhacfpdaaGreatDoor

namespace Go.Proofs.YtndjkejhacfpdaaGreatDoor
open Go.RowKit
theorem rdI {k : Nat} (u : 12 ≤ k) {b pre r : List UInt8} {x : Int} (h : b = pre ++ (aM x ++ r)) (D : okN x) (G : b.length ≤ 100000000) : bF.f k b ((pre.length : Nat) : Int) 0 = some (x, (((pre ++ aM x).length : Nat) : Int), 0) := by
 rw [cI u G (by rw [h, List.length_append]; omega) 0, qr h D]
theorem rdB {k : Nat} (u : 12 ≤ k) {b pre r d : List UInt8} {most : Int} (h : b = pre ++ (bB d ++ r)) (hd : (d.length : Int) ≤ most) (D : d.length ≤ 100000000) (G : b.length ≤ 100000000) : dv.f k b ((pre.length : Nat) : Int) 0 most = some (d, (((pre ++ bB d).length : Nat) : Int), 0) := by
 rw [cB u G (by rw [h, List.length_append]; omega) 0 most, wZ h hd D]
theorem rdD {b pre : List UInt8} (h : b = pre) (u : b.length ≤ 100000000) : bu.v b ((pre.length : Nat) : Int) 0 = 0 := by
 unfold bu.v
 rw [wY u (by rw [h]; exact Nat.le_refl _) 0, sV (r := []) (by rw [h, List.append_nil]), if_pos rfl]
 rfl
theorem zh : okN 1 := ⟨by decide, by decide⟩
theorem zi : okN 2 := ⟨by decide, by decide⟩
theorem zj : okN 3 := ⟨by decide, by decide⟩
theorem uk {n t v c i m : Int} (L : okN n) (I : gB t v c = 0) (hi : okN i) (U : okN m) {k : Nat} (D : 12 ≤ k) : eQ.f k (cF (0, n, t, v, c, i, m, 0, 0, 0, [])) = some (0, n, t, v, c, i, m, 0, 0, 0, [], true) := by
 have G := jM I
 have J := io (0, n, t, v, c, i, m, 0, 0, 0, [])
 simp only [List.length_nil] at J
 have u : cF (0, n, t, v, c, i, m, 0, 0, 0, []) = [] ++ (aM 0 ++ (aM n ++ (aM t ++ (aM v ++ (aM c ++ (aM i ++ (aM m ++ []))))))) := by
  unfold cF
  simp
 obtain ⟨b, X⟩ : ∃ b, cF (0, n, t, v, c, i, m, 0, 0, 0, []) = b := ⟨_, rfl⟩
 rw [X] at u J ⊢
 have h1 : b = ([] ++ aM 0) ++ (aM n ++ (aM t ++ (aM v ++ (aM c ++ (aM i ++ (aM m ++ [])))))) := by rw [u]; simp only [List.append_assoc]
 have h2 : b = (([] ++ aM 0) ++ aM n) ++ (aM t ++ (aM v ++ (aM c ++ (aM i ++ (aM m ++ []))))) := by rw [u]; simp only [List.append_assoc]
 have h3 : b = ((([] ++ aM 0) ++ aM n) ++ aM t) ++ (aM v ++ (aM c ++ (aM i ++ (aM m ++ [])))) := by rw [u]; simp only [List.append_assoc]
 have h4 : b = (((([] ++ aM 0) ++ aM n) ++ aM t) ++ aM v) ++ (aM c ++ (aM i ++ (aM m ++ []))) := by rw [u]; simp only [List.append_assoc]
 have h5 : b = ((((([] ++ aM 0) ++ aM n) ++ aM t) ++ aM v) ++ aM c) ++ (aM i ++ (aM m ++ [])) := by rw [u]; simp only [List.append_assoc]
 have h6 : b = (((((([] ++ aM 0) ++ aM n) ++ aM t) ++ aM v) ++ aM c) ++ aM i) ++ (aM m ++ []) := by rw [u]; simp only [List.append_assoc]
 have h7 : b = (((((([] ++ aM 0) ++ aM n) ++ aM t) ++ aM v) ++ aM c) ++ aM i) ++ aM m := by rw [u]; simp only [List.append_assoc, List.append_nil]
 unfold eQ.f
 rw [rl (by omega), Option.bind_some]
 simp only []
 rw [show ((0 : Nat) : Int) = ((([] : List UInt8).length : Nat) : Int) from rfl, rdI D u ft (by omega), Option.bind_some]
 simp only []
 rw [if_pos trivial, rdI D h1 L (by omega), Option.bind_some, Option.bind_some]
 simp only []
 rw [if_pos (by decide), rdI D h2 G.1 (by omega), Option.bind_some]
 simp only []
 rw [rdI D h3 G.2.1 (by omega), Option.bind_some]
 simp only []
 rw [rdI D h4 G.2.2 (by omega), Option.bind_some]
 simp only []
 rw [wc, Option.bind_some, Option.bind_some, I]
 simp only []
 rw [if_pos (by decide), rdI D h5 hi (by omega), Option.bind_some]
 simp only []
 rw [rdI D h6 U (by omega), Option.bind_some]
 simp only []
 rw [if_pos (by decide), if_pos trivial, Option.bind_some, Option.bind_some, Option.bind_some]
 simp only []
 rw [if_neg (by decide), Option.bind_some]
 simp only []
 rw [rdD h7 (by omega)]
 rfl
theorem sw {t v c : Int} (I : gB t v c = 0) {k : Nat} (D : 12 ≤ k) : eQ.f k (cF (1, 0, t, v, c, 0, 0, 0, 0, 0, [])) = some (1, 0, t, v, c, 0, 0, 0, 0, 0, [], true) := by
 have G := jM I
 have J := io (1, 0, t, v, c, 0, 0, 0, 0, 0, [])
 simp only [List.length_nil] at J
 have u : cF (1, 0, t, v, c, 0, 0, 0, 0, 0, []) = [] ++ (aM 1 ++ (aM t ++ (aM v ++ (aM c ++ [])))) := by
  unfold cF
  simp
 obtain ⟨b, L⟩ : ∃ b, cF (1, 0, t, v, c, 0, 0, 0, 0, 0, []) = b := ⟨_, rfl⟩
 rw [L] at u J ⊢
 have h1 : b = ([] ++ aM 1) ++ (aM t ++ (aM v ++ (aM c ++ []))) := by rw [u]; simp only [List.append_assoc]
 have U : b = (([] ++ aM 1) ++ aM t) ++ (aM v ++ (aM c ++ [])) := by rw [u]; simp only [List.append_assoc]
 have X : b = ((([] ++ aM 1) ++ aM t) ++ aM v) ++ (aM c ++ []) := by rw [u]; simp only [List.append_assoc]
 have h4 : b = ((([] ++ aM 1) ++ aM t) ++ aM v) ++ aM c := by rw [u]; simp only [List.append_assoc, List.append_nil]
 unfold eQ.f
 rw [rl (by omega), Option.bind_some]
 simp only []
 rw [show ((0 : Nat) : Int) = ((([] : List UInt8).length : Nat) : Int) from rfl, rdI D u zh (by omega), Option.bind_some]
 simp only []
 rw [if_neg (by decide), Option.bind_some]
 simp only []
 rw [if_pos (by decide), rdI D h1 G.1 (by omega), Option.bind_some]
 simp only []
 rw [rdI D U G.2.1 (by omega), Option.bind_some]
 simp only []
 rw [rdI D X G.2.2 (by omega), Option.bind_some]
 simp only []
 rw [wc, Option.bind_some, Option.bind_some, I]
 simp only []
 rw [if_neg (by decide), Option.bind_some]
 simp only []
 rw [if_neg (by decide), Option.bind_some]
 simp only []
 rw [rdD h4 (by omega)]
 rfl
theorem ul {i m : Int} (h1 : 0 < i) (L : 0 < m) (hi : okN i) (U : okN m) {k : Nat} (D : 12 ≤ k) : eQ.f k (cF (3, 0, 0, 0, 0, i, m, 0, 0, 0, [])) = some (3, 0, 0, 0, 0, i, m, 0, 0, 0, [], true) := by
 have J := io (3, 0, 0, 0, 0, i, m, 0, 0, 0, [])
 simp only [List.length_nil] at J
 have u : cF (3, 0, 0, 0, 0, i, m, 0, 0, 0, []) = [] ++ (aM 3 ++ (aM i ++ (aM m ++ []))) := by
  unfold cF
  simp
 obtain ⟨b, X⟩ : ∃ b, cF (3, 0, 0, 0, 0, i, m, 0, 0, 0, []) = b := ⟨_, rfl⟩
 rw [X] at u J ⊢
 have G : b = ([] ++ aM 3) ++ (aM i ++ (aM m ++ [])) := by rw [u]; simp only [List.append_assoc]
 have I : b = (([] ++ aM 3) ++ aM i) ++ (aM m ++ []) := by rw [u]; simp only [List.append_assoc]
 have h3 : b = (([] ++ aM 3) ++ aM i) ++ aM m := by rw [u]; simp only [List.append_assoc, List.append_nil]
 unfold eQ.f
 rw [rl (by omega), Option.bind_some]
 simp only []
 rw [show ((0 : Nat) : Int) = ((([] : List UInt8).length : Nat) : Int) from rfl, rdI D u zj (by omega), Option.bind_some]
 simp only []
 rw [if_neg (by decide), Option.bind_some]
 simp only []
 rw [if_neg (by decide), Option.bind_some]
 simp only []
 rw [if_pos (by decide), rdI D G hi (by omega), Option.bind_some]
 simp only []
 rw [rdI D I U (by omega), Option.bind_some]
 simp only []
 rw [if_pos (by decide), if_neg (by decide), Option.bind_some, Option.bind_some, Option.bind_some]
 simp only []
 rw [if_neg (by decide), Option.bind_some]
 simp only []
 rw [rdD h3 (by omega)]
 simp [h1, L]
theorem sx {e : EnT} (L : iY e.1 e.2.1 e.2.2.1 e.2.2.2 = 0) {k : Nat} (D : 12 ≤ k) : eQ.f k (cF (eF e)) = some (2, 0, 0, 0, 0, 0, 0, e.1, e.2.1, e.2.2.1, e.2.2.2, true) := by
 have hd := (fC L).2.2.2.1
 have U := io (eF e)
 have G : (eF e).2.2.2.2.2.2.2.2.2.2 = e.2.2.2 := rfl
 rw [G] at U
 have I := pd e.1 e.2.1 e.2.2.1 e.2.2.2
 have u : cF (eF e) = [] ++ (aM 2 ++ (bB (txE e.1 e.2.1 e.2.2.1 e.2.2.2) ++ [])) := by
  unfold cF eF
  simp
 obtain ⟨x, X⟩ : ∃ x, txE e.1 e.2.1 e.2.2.1 e.2.2.2 = x := ⟨_, rfl⟩
 have J : rn x = (e.1, e.2.1, e.2.2.1, e.2.2.2, 0) := by
  have := xG L []
  rw [List.append_nil, if_pos rfl, X] at this
  exact this
 rw [X] at u I
 obtain ⟨b, eb⟩ : ∃ b, cF (eF e) = b := ⟨_, rfl⟩
 rw [eb] at u U ⊢
 have h1 : b = ([] ++ aM 2) ++ (bB x ++ []) := by rw [u]; simp only [List.append_assoc]
 have h2 : b = ([] ++ aM 2) ++ bB x := by rw [u]; simp only [List.append_assoc, List.append_nil]
 unfold eQ.f
 rw [rl (by omega), Option.bind_some]
 simp only []
 rw [show ((0 : Nat) : Int) = ((([] : List UInt8).length : Nat) : Int) from rfl, rdI D u zi (by omega), Option.bind_some]
 simp only []
 rw [if_neg (by decide), Option.bind_some]
 simp only []
 rw [if_neg (by decide), Option.bind_some]
 simp only []
 rw [if_neg (by decide), Option.bind_some]
 simp only []
 rw [if_pos trivial, rdB D h1 (by omega) (by omega) (by omega), Option.bind_some]
 simp only []
 rw [zd D (by omega), Option.bind_some, J, Option.bind_some]
 simp only []
 rw [rdD h2 (by omega)]
 rfl
theorem xT {r : bO} (h : mp r) {k : Nat} (u : 12 ≤ k) : eQ.f k (cF r) = some (r.1, r.2.1, r.2.2.1, r.2.2.2.1, r.2.2.2.2.1, r.2.2.2.2.2.1, r.2.2.2.2.2.2.1, r.2.2.2.2.2.2.2.1, r.2.2.2.2.2.2.2.2.1, r.2.2.2.2.2.2.2.2.2.1, r.2.2.2.2.2.2.2.2.2.2, true) := by
 rcases h with ⟨t, v, c, h1, rfl⟩ | ⟨e, h1, rfl⟩ | ⟨i, m, h1, D, rfl⟩
 ·exact sw h1 u
 ·exact sx h1 u
 ·exact ul h1.1 D.1 h1.2 D.2 u
theorem yK (fs : FSt) (la : List UInt8) (a : Int) (d : Bool) (most : Int) (u : List Int) (sz : Int) {s : St} (h : dN s) (hl : s.2.2.2.2.2.length < 2 ^ 30) {r : bO} (D : OkR r) (h0 : r.1 ≠ 0) (U : okT s r) (sg : Int) :
  dD.f fs la a d most u sz s.1 s.2.1 s.2.2.1 s.2.2.2.1 s.2.2.2.2.1 s.2.2.2.2.2 false r.1 r.2.1 r.2.2.1 r.2.2.2.1 r.2.2.2.2.1 r.2.2.2.2.2.1 r.2.2.2.2.2.2.1 r.2.2.2.2.2.2.2.1 r.2.2.2.2.2.2.2.2.1 r.2.2.2.2.2.2.2.2.2.1 r.2.2.2.2.2.2.2.2.2.2 sg =
   some (true, most, u, sz, (cT s r sg).1, (cT s r sg).2.1, (cT s r sg).2.2.1, (cT s r sg).2.2.2.1, (cT s r sg).2.2.2.2.1, (cT s r sg).2.2.2.2.2, false) := by
 have hk := D.kd
 have X := h.b
 unfold okN at X
 unfold dD.f cT
 by_cases h1 : r.1 = 1
 ·rw [if_pos h1, if_pos h1]; rfl
 rw [if_neg h1, if_neg h1]
 by_cases h2 : r.1 = 2
 ·rw [if_pos h2, if_pos h2, show df.f = some () from rfl, Option.bind_some]
  unfold fy.f
  have G := (fC (D.e h2)).2.1
  have ab := G.1
  have ad := G.2
  have I := lJ h
  have J := U h2
  have L : ¬ s.2.2.2.1 + (s.2.2.2.2.2.length : Int) + 1 < r.2.2.2.2.2.2.2.2.1 := by omega
  rw [w64 (n := s.2.2.2.1 + (s.2.2.2.2.2.length : Int)) (by omega) (by omega), w64 (n := s.2.2.2.1 + (s.2.2.2.2.2.length : Int) + 1) (by omega) (by omega)]
  rw [if_neg L, if_neg L]
  by_cases g2 : r.2.2.2.2.2.2.2.2.1 ≤ s.2.2.2.1
  ·rw [if_pos g2, if_pos g2, w64 (n := r.2.2.2.2.2.2.2.2.1 - 1) (by omega) (by omega)]
   simp only [Option.bind_some]
   rw [show r.2.2.2.2.2.2.2.2.1 - (r.2.2.2.2.2.2.2.2.1 - 1) = 1 by omega, show IntKind.i64.wrap (1 : Int) = 1 from by decide, show IntKind.i64.wrap ((1 : Int) - 1) = 0 from by decide, if_pos ⟨by omega, by omega, by simp⟩]
   have ec : cut ([] : List HeT) (0 : Int) (0 : Int) = [] := rfl
   rw [ec, if_pos (by simp)]
   rfl
  ·rw [if_neg g2, if_neg g2]
   simp only [Option.bind_some]
   have e1 : IntKind.i64.wrap (IntKind.i64.wrap (r.2.2.2.2.2.2.2.2.1 - s.2.2.2.1) - 1) = (((r.2.2.2.2.2.2.2.2.1 - s.2.2.2.1 - 1).toNat : Nat) : Int) := by
    rw [w64 (n := r.2.2.2.2.2.2.2.2.1 - s.2.2.2.1) (by omega) (by omega), w64 (by omega) (by omega)]
    omega
   rw [e1, if_pos ⟨by omega, by omega, by omega⟩, uP, if_pos (by simp only [List.length_take, List.length_cons, List.length_nil]; omega)]
   rfl
 rw [if_neg h2, if_neg h2, if_pos (by omega), show df.f = some () from rfl, Option.bind_some]
 unfold fA.f
 rw [qo fs la a d most u sz h false D.i, Option.bind_some]
 cases hh : fQ s r.2.2.2.2.2.1 r.2.2.2.2.2.2.1 with
 | true => rfl
 | false => rfl
/-! ### One segment -/
theorem pR (fs : FSt) (la : List UInt8) (most : Int) (u : List Int) (sz wh : Int) (n : Nat) (I : List UInt8) (rs : List bO) (J : ∀ r, r ∈ rs → mp r) (hn : rs.length < 2 ^ 29) : ∀ (k i : Nat) (s : St), rs.length - i + 20 < k → i ≤ rs.length → dN s → s.2.2.2.2.2.length + (rs.length - i) < 2 ^ 30 → iN s (rs.drop i) (n : Int) →
  cp.l0 (n : Int) (I :: rs.map cF, wh, 0) (fs, la, 0, false) k ((i + 1 : Nat) : Int) most u sz s.1 s.2.1 s.2.2.1 s.2.2.2.1 s.2.2.2.2.1 s.2.2.2.2.2 false =
   some (most, u, sz, (cQ s (rs.drop i) (n : Int)).1, (cQ s (rs.drop i) (n : Int)).2.1, (cQ s (rs.drop i) (n : Int)).2.2.1, (cQ s (rs.drop i) (n : Int)).2.2.2.1, (cQ s (rs.drop i) (n : Int)).2.2.2.2.1, (cQ s (rs.drop i) (n : Int)).2.2.2.2.2, false)
 | 0, i, s, h, _, _, _, _ => by omega
 | k + 1, i, s, hk, hi, hs, hsl, hf => by
  rw [cp.l0]
  simp only [List.length_cons, List.length_map]
  by_cases hlt : i < rs.length
  ·obtain ⟨D, al⟩ : ∃ D : bO, D = (0, 0, 0, 0, 0, 0, 0, 0, 0, 0, []) := ⟨_, rfl⟩
   have L : rs.getD i D ∈ rs := by rw [fD hlt]; exact List.getElem_mem _
   have hd : rs.drop i = rs.getD i D :: rs.drop (i + 1) := fR rs D hlt
   have hg : (I :: rs.map cF).getD ((i + 1 : Nat) : Int).toNat [] = cF (rs.getD i D) := by
    rw [Int.toNat_natCast, List.getD_cons_succ, fD (by rw [List.length_map]; exact hlt), List.getElem_map, fD hlt]
   rw [hd] at hf ⊢
   obtain ⟨r, er⟩ : ∃ r, rs.getD i D = r := ⟨_, rfl⟩
   rw [er] at L hg hf ⊢
   have G := kD (J r L)
   have a1 := nQ s r (n : Int)
   rw [if_pos (by omega), if_pos (by omega), hg, xT (J r L) (by omega), Option.bind_some]
   have U : decide (r.1 = 0) = false := by simp [G.2]
   have X : decide (((i + 1 : Nat) : Int) = 0) = false := by simp; omega
   simp only []
   rw [U, X, if_neg (by decide), Option.bind_some, if_neg (by omega), yK fs la 0 false most u sz hs (by omega) G.1 G.2 hf.1 (n : Int), Option.bind_some, Option.bind_some]
   simp only [Bool.not_true, Bool.false_eq_true, if_false]
   rw [ws1 (by omega)]
   exact pR fs la most u sz wh n I rs J hn k (i + 1) (cT s r (n : Int)) (by omega) (by omega) (jo hs G.1 G.2 _) (by omega) hf.2
  ·rw [if_neg (by omega), List.drop_of_length_le (by omega)]
   rfl
theorem tk {T N Z L : Nat} {w : Wl} (h : WOk T N Z L w) {n : Nat} (h1 : w.s0 ≤ n) (u : n ≤ w.last) : (bw w.fs (aK n)).1.length ≤ 16777216 := by
 have D := h.has n h1 u
 exact Nat.le_trans (oI (kN D)) h.inv.sz
theorem vu {T N Z L : Nat} {w : Wl} (hw : WOk T N Z L w) (hT : T ≤ 99999999) {H : Nat → bO} {h : Nat → List bO} (hl : gV w H h) {n : Nat} (h1 : w.s0 ≤ n) (D : n ≤ w.last) {s q : St} (hs : dN q) (hq : (n = w.s0 ∧ s.2.2.2.2.2 = [] ∧ q = gD (H n)) ∨ (n ≠ w.s0 ∧ H n = dh n s ∧ q = s)) (hf : iN q (h n) (n : Int)) (b5 : q.2.2.2.2.2.length ≤ 2 ^ 29) (sz : Int) {k : Nat} (hk : 2200000000 < k) :
  cp.f k w.fs w.la 0 false w.most (cg w.s0 w.m) sz s.1 s.2.1 s.2.2.1 s.2.2.2.1 s.2.2.2.2.1 s.2.2.2.2.2 false (n : Int) =
   some (false, w.fs, w.la, 0, false, w.most, cg w.s0 w.m, ((bw w.fs (aK n)).1.length : Int), (cQ q (h n) (n : Int)).1, (cQ q (h n) (n : Int)).2.1, (cQ q (h n) (n : Int)).2.2.1, (cQ q (h n) (n : Int)).2.2.2.1, (cQ q (h n) (n : Int)).2.2.2.2.1, (cQ q (h n) (n : Int)).2.2.2.2.2, false) := by
 have b6 := hw.top
 have b7 := hw.s1
 have b8 := tk hw h1 D
 have I := hl.fl n h1 D
 obtain ⟨s', g1, g2, g3⟩ := hl.hd n h1 D
 have J := hl.lr n h1 D
 have a6 : IntKind.i64.wrap (((cg w.s0 w.m).length : Int) - 1) = (w.m : Int) := by rw [dm, w64 (by omega) (by omega)]; omega
 have a7 : okP (cF (H n) :: (h n).map cF) := by
  intro p hp
  rcases List.mem_cons.1 hp with rfl | hp
  ·rw [g3]
   exact ti (rQ (n := n) (by unfold Wl.last at D; omega) g1) (.inl (Nat.zero_le _))
  ·obtain ⟨r, hr, rfl⟩ := List.mem_map.1 hp
   have a8 := kD (J r hr)
   refine ti a8.1 ?_
   rcases J r hr with ⟨t, v, c, _, rfl⟩ | ⟨e, _, rfl⟩ | ⟨i, m, _, _, rfl⟩
   ·exact .inl (Nat.zero_le _)
   ·exact .inr rfl
   ·exact .inl (Nat.zero_le _)
 have U := mm (cF (H n) :: (h n).map cF)
 rw [← I] at U
 simp only [List.length_cons, List.length_map] at U
 have G := zg a7 (by rw [← I]; omega) (k := k) (by omega)
 rw [← I] at G
 have X : eQ.f (k - 1) (cF (H n)) = some ((H n).1, (H n).2.1, (H n).2.2.1, (H n).2.2.2.1, (H n).2.2.2.2.1, (H n).2.2.2.2.2.1, (H n).2.2.2.2.2.2.1, (H n).2.2.2.2.2.2.2.1, (H n).2.2.2.2.2.2.2.2.1, (H n).2.2.2.2.2.2.2.2.2.1, (H n).2.2.2.2.2.2.2.2.2.2, true) := by
  have ab := kf g1
  rw [g3]
  exact uk (n := (n : Int)) ⟨by omega, by unfold Wl.last at D; omega⟩ g2 ab.1 ab.2 (k := k - 1) (by omega)
 have bc : (H n).1 = 0 := by rw [g3]; rfl
 have be : (H n).2.1 = (n : Int) := by rw [g3]; rfl
 obtain ⟨j, rfl⟩ : ∃ j, k = j + 1 := ⟨k - 1, by omega⟩
 rw [Nat.add_sub_cancel] at X
 unfold cp.f
 rw [a6, if_pos (by rw [dm]; omega), iA (by omega) (by unfold Wl.last at D; omega) (by omega), Option.bind_some, xS hw h1 D, Option.bind_some]
 simp only []
 rw [iF, Option.bind_some, G, Option.bind_some]
 simp only [decide_true, Bool.not_true, Bool.false_and, Bool.false_eq_true, if_false, Option.bind_some, if_true]
 rw [if_neg (by simp; intro x; omega), if_neg (by simp; omega), Option.bind_some, cp.l0]
 simp only [List.length_cons, List.length_map]
 rw [if_pos (by omega), if_pos (by omega), show (cF (H n) :: (h n).map cF).getD (0 : Int).toNat [] = cF (H n) from rfl, X, Option.bind_some]
 simp only []
 rw [bc, if_neg (by decide), Option.bind_some, if_pos trivial, if_pos be, if_pos (by rw [dm]; omega)]
 have ad : (cg w.s0 w.m).getD (0 : Int).toNat 0 = (w.s0 : Int) := by
  have := ip (s0 := w.s0) (m := w.m) (i := 0) (by omega)
  rw [Nat.add_zero] at this
  exact this
 rw [ad]
 have u := pR w.fs w.la w.most (cg w.s0 w.m) ((bw w.fs (aK n)).1.length : Int) ((bw w.fs (aK n)).1.length : Int) n (cF (H n)) (h n) J (by omega) j 0 q (by omega) (by omega) hs (by omega) (by rw [List.drop_zero]; exact hf)
 rw [List.drop_zero] at u
 rcases hq with ⟨q1, q2, q3⟩ | ⟨q1, q2, q3⟩
 ·unfold fT.f
  rw [if_pos (by simp; omega), Option.bind_some, Option.bind_some]
  simp only [Bool.not_true, Bool.false_eq_true, if_false]
  rw [q2, show IntKind.i64.wrap ((0 : Int) + 1) = ((0 + 1 : Nat) : Int) from by decide]
  subst q3
  rw [show cp.l0 (n : Int) (cF (H n) :: (h n).map cF, ((bw w.fs (aK n)).1.length : Int), 0) (w.fs, w.la, 0, false) j ((0 + 1 : Nat) : Int) w.most (cg w.s0 w.m) ((bw w.fs (aK n)).1.length : Int) (H n).2.2.1 (H n).2.2.2.1 (H n).2.2.2.2.1 (H n).2.2.2.2.2.1 (H n).2.2.2.2.2.2.1 [] false = _ from u]
  rfl
 ·subst q3
  unfold fT.f
  have bs : ¬ decide ((n : Int) = (w.s0 : Int)) = true := by simp; omega
  rw [if_neg bs, mJ w.fs w.la 0 false w.most (cg w.s0 w.m) ((bw w.fs (aK n)).1.length : Int) q false (by omega), Option.bind_some, Option.bind_some, q2]
  have hh : (((decide ((dh n q).2.2.1 = q.1) && (decide ((dh n q).2.2.2.1 = q.2.1) && decide ((dh n q).2.2.2.2.1 = q.2.2.1))) && decide ((dh n q).2.2.2.2.2.1 = (cC q).1)) && decide ((dh n q).2.2.2.2.2.2.1 = (cC q).2)) = true := by
   unfold dh
   simp
  simp only []
  rw [hh, Option.bind_some]
  simp only [Bool.not_true, Bool.false_eq_true, if_false]
  rw [show IntKind.i64.wrap ((0 : Int) + 1) = ((0 + 1 : Nat) : Int) from by decide]
  rw [q2] at u
  rw [u]
  rfl
end Go.Proofs.YtndjkejhacfpdaaGreatDoor

namespace Go.Proofs.YtndjkejhacfpdaaGreatDoor
open Go.RowKit
theorem uf (m : Nat) : fu.f (m + 100) = some true := by kernel_rfl
def opZ (o : OpW) : Nat := 512 + gT (OpW.es o) + 128 * (OpW.es o).length
def mO (l : List OpW) : Nat := (l.map opZ).sum
def mh (l : List OpW) : Nat := (l.map fun o => (OpW.es o).length + 3).sum
theorem pI (o : OpW) (l : List OpW) : mO (o :: l) = opZ o + mO l := by simp [mO]
theorem pJ (o : OpW) (l : List OpW) : mh (o :: l) = (OpW.es o).length + 3 + mh l := by simp [mh]
theorem rA : ∀ l : List EnT, gT l + l.length ≤ Mu.mu l
 | [] => by simp [gT, kz]
 | e :: l => by
  have u := rA l
  obtain ⟨a, b, c, d⟩ := e
  rw [mi, sJ, gw, gw, gw, lE, lE, lE, qJ, List.length_cons]
  simp only
  omega
theorem yH (o : OpW) : gT (OpW.es o) + (OpW.es o).length + 1 ≤ Mu.mu o := by
 obtain ⟨a, b, c, d, e, f, g, h, l⟩ := o
 have := rA l
 rw [gw, gw, gw, gw, gw, gw, gw, gw, lE, lE, xk, lE]
 show gT l + l.length + 1 ≤ _
 omega
theorem tb : ∀ l : List OpW, (l.map fun o => gT (OpW.es o)).sum + l.length + (l.map fun o => (OpW.es o).length).sum ≤ Mu.mu l
 | [] => by simp [kz]
 | o :: l => by
  have u := tb l
  have := yH o
  rw [sJ]
  simp only [List.map_cons, List.sum_cons, List.length_cons]
  omega
theorem tc : ∀ l : List OpW, mO l = 512 * l.length + (l.map fun o => gT (OpW.es o)).sum + 128 * (l.map fun o => (OpW.es o).length).sum
 | [] => by simp [mO]
 | o :: l => by
  have u := tc l
  rw [pI, u]
  unfold opZ
  simp only [List.map_cons, List.sum_cons, List.length_cons]
  omega
theorem td : ∀ l : List OpW, mh l = 3 * l.length + (l.map fun o => (OpW.es o).length).sum
 | [] => by simp [mh]
 | o :: l => by
  have u := td l
  rw [pJ, u]
  simp only [List.map_cons, List.sum_cons, List.length_cons]
  omega
theorem nV {f : OpW → Nat} : ∀ {l : List OpW} {o : OpW}, o ∈ l → f o ≤ (l.map f).sum
 | [], _, h => by cases h
 | y :: l, o, h => by
  rw [List.map_cons, List.sum_cons]
  rcases List.mem_cons.1 h with rfl | h
  ·omega
  ·have := nV (f := f) h; omega
theorem pK {e : EnT} : ∀ {l : List EnT}, e ∈ l → e.2.2.2.length ≤ gT l
 | [], h => by cases h
 | x :: l, h => by
  rw [mi]
  rcases List.mem_cons.1 h with rfl | h
  ·omega
  ·have := pK h; omega
theorem rB : gp 256 ([] : FSt) := zq 256
theorem pL : ∀ x, x ∈ ez ([] : FSt) → lv x = 0 := fun x u => by simp [ez] at u
theorem ug : ∀ x, x ∈ ez ([] : FSt) → x.length ≤ 2 ^ 40 := fun x u => by simp [ez] at u
end Go.Proofs.YtndjkejhacfpdaaGreatDoor

namespace Go.Proofs.YtndjkejhacfpdaaGreatDoor
open Go.RowKit
/-! ### The names in order -/
theorem tr : ∀ {a b : List UInt8} (c d : List UInt8), a.length = b.length → a < b → a ++ c < b ++ d
 | [], [], _, _, _, h => absurd h (List.lt_irrefl _)
 | [], _ :: _, _, _, h, _ => by simp at h
 | _ :: _, [], _, _, h, _ => by simp at h
 | x :: a, y :: b, c, d, hl, h => by
  rw [List.cons_append, List.cons_append]
  rw [List.cons_lt_cons_iff] at h ⊢
  rcases h with h | ⟨h1, u⟩
  ·exact .inl h
  ·exact .inr ⟨h1, tr c d (by simpa using hl) u⟩
theorem pl : ∀ (a : List UInt8) {c d : List UInt8}, c < d → a ++ c < a ++ d
 | [], _, _, h => h
 | x :: a, c, d, h => by
  rw [List.cons_append, List.cons_append, List.cons_lt_cons_iff]
  exact .inr ⟨rfl, pl a h⟩
theorem yb {m n : Nat} (u : m < 10) (D : n < 10) (h : m < n) : UInt8.ofNat (48 + m) < UInt8.ofNat (48 + n) := by
 rw [UInt8.lt_iff_toNat_lt, UInt8.toNat_ofNat', UInt8.toNat_ofNat']
 omega
theorem tu : ∀ (w : Nat) {m n : Nat}, m < n → n < 10 ^ w → pad w m < pad w n
 | 0, m, n, h, h2 => by simp at h2; omega
 | w + 1, m, n, h, h2 => by
  rw [pad, pad]
  by_cases hd : m / 10 < n / 10
  ·exact tr _ _ (by rw [lM, lM]) (tu w hd (by rw [Nat.pow_succ] at h2; omega))
  ·have e : m / 10 = n / 10 := by omega
   rw [e]
   refine pl _ ?_
   rw [List.cons_lt_cons_iff]
   exact .inl (yb (by omega) (by omega) (by omega))
theorem wA {m n : Nat} (h : m < n) (u : n ≤ 99999999) : aK m < aK n := pl _ (tu 8 h (by omega))
theorem wC {s0 m : Nat} (h : s0 + m ≤ 99999999) : (ji s0 m).Pairwise (· < ·) := by
 unfold ji
 rw [List.pairwise_map]
 refine List.Pairwise.imp_of_mem ?_ (List.pairwise_lt_range' (s := s0) (n := m + 1))
 intro a b D u hab
 rw [List.mem_range'_1] at u
 exact wA hab (by omega)
theorem tv : ∀ {a b : List (List UInt8)}, a.Nodup → (∀ x, x ∈ a → x ∈ b) → a.length ≤ b.length
 | [], b, _, _ => Nat.zero_le _
 | x :: a, b, hn, hs => by
  have D := hs x (by simp)
  have u := List.nodup_cons.1 hn
  have := tv (a := a) (b := b.erase x) u.2 fun y G => (List.mem_erase_of_ne (fun e => u.1 (by rw [← e]; exact G))).2 (hs y (by simp [G]))
  rw [List.length_erase_of_mem D] at this
  have : 0 < b.length := List.length_pos_of_mem D
  rw [List.length_cons]
  omega
theorem wE {T N Z L : Nat} {w : Wl} (G : WOk T N Z L w) (hT : T ≤ 99999999) (X : w.fs.length = w.m + 1) : ez w.fs = ji w.s0 w.m := by
 have ab := G.top
 have hk := rh G.inv.nd
 have U := wC (s0 := w.s0) (m := w.m) (by omega)
 have I : ∀ {l : List (List UInt8)}, l.Pairwise (· < ·) → l.Nodup := fun h => h.imp fun {a b} hab e => by rw [e] at hab; exact List.lt_irrefl _ hab
 have u : ∀ x, x ∈ ji w.s0 w.m → x ∈ ez w.fs := fun x D => by
  unfold ji at D
  obtain ⟨n, hn, rfl⟩ := List.mem_map.1 D
  rw [List.mem_range'_1] at hn
  exact (kt w.fs).mem_iff.2 ((kL w.fs _).2 (G.has n (by omega) (by omega)))
 refine pC hk U fun x => ⟨fun D => ?_, u x⟩
 rcases Decidable.em (x ∈ ji w.s0 w.m) with h | h
 ·exact h
 ·have := tv (a := x :: ji w.s0 w.m) (b := ez w.fs) (List.nodup_cons.2 ⟨h, I U⟩) fun y J => by
   rcases List.mem_cons.1 J with rfl | J
   ·exact D
   ·exact u y J
  rw [List.length_cons, jN, pP, X] at this
  omega
/-! ### Open -/
theorem rY {s0 m : Nat} (h1 : 1 ≤ s0) (u : s0 + m ≤ 99999999) : ∀ (k i : Nat) (acc : List Int), m + 1 - i + 20 < k → i ≤ m + 1 → acc.length ≤ i → bD.l0 (ji s0 m) k (i : Int) acc = some (acc ++ (cg s0 m).drop i)
 | 0, i, acc, h, _, _ => by omega
 | k + 1, i, acc, h, hi, ha => by
  rw [bD.l0, jN]
  by_cases hlt : i < m + 1
  ·rw [if_pos (by omega), if_pos (by omega), Int.toNat_natCast, qW (by omega), vd (by rw [kc]; omega) (by omega), md (by omega), Option.bind_some]
   simp only []
   rw [if_pos (by simp; omega), if_pos (by simp only [List.length_cons, List.length_nil]; omega), ws1 (by omega), rY h1 u k (i + 1) _ (by omega) (by omega) (by simp; omega), fR (cg s0 m) 0 (i := i) (by rw [dm]; omega), ip (by omega)]
   simp
  ·rw [if_neg (by omega), List.drop_of_length_le (by rw [dm]; omega)]; simp
theorem rZ {s0 m : Nat} (D : s0 + m ≤ 99999999) : ∀ (k i : Nat), m + 1 - i < k → i ≤ m + 1 → bD.l1 (cg s0 m) k (i : Int) = some ()
 | 0, i, h, _ => by omega
 | k + 1, i, h, hi => by
  have u : (cg s0 m).getD (0 : Int).toNat 0 = (s0 : Int) := by
   have := ip (s0 := s0) (m := m) (i := 0) (by omega)
   rw [Nat.add_zero] at this
   exact this
  rw [bD.l1, dm]
  by_cases hlt : i < m + 1
  ·rw [if_pos (by omega), if_pos (by omega), if_pos (by omega), u, Int.toNat_natCast, ip (by omega), if_pos (by rw [w64 (by omega) (by omega)]; omega), ws1 (by omega)]
   exact rZ D k (i + 1) (by omega) (by omega)
  ·rw [if_neg (by omega)]
theorem ob {H : Nat → bO} {h : Nat → List bO} {u : Nat} : ∀ (j : Nat) (P Q : St), Rep H h u j P → Rep H h u j Q → P = Q
 | 0, P, Q, p, q => by rw [p.2, q.2]
 | j + 1, P, Q, ⟨P', p1, _, _, p4⟩, ⟨Q', q1, _, _, q4⟩ => by rw [p4, q4, ob j P' Q' p1 q1]
theorem mw {H : Nat → bO} {h : Nat → List bO} {u : Nat} (j : Nat) : ∀ (d : Nat) (P : St), Rep H h u (j + d) P → ∃ Q, Rep H h u j Q
 | 0, P, p => ⟨P, p⟩
 | d + 1, P, ⟨P', p1, _⟩ => mw j d P' p1
theorem sb {T N Z L : Nat} {w : Wl} (G : WOk T N Z L w) {H : Nat → bO} {h : Nat → List bO} (I : gV w H h) {n : Nat} (h1 : w.s0 ≤ n) (D : n ≤ w.last) : (h n).length < 2097152 := by
 have J := tk G h1 D
 have u := mm (cF (H n) :: (h n).map cF)
 rw [← I.fl n h1 D] at u
 simp only [List.length_cons, List.length_map] at u
 omega
theorem sc {T N Z L : Nat} {w : Wl} (G : WOk T N Z L w) (X : T ≤ 99999999) (hN : N ≤ 256) {H : Nat → bO} {h : Nat → List bO} (D : gV w H h) {P : St} (J : Rep H h w.s0 w.m P) : ∀ (k j : Nat) (Q : St) (sz : Int), w.m - j + 2200000010 < k → j ≤ w.m → Rep H h w.s0 j Q → dN Q → Q.2.2.2.2.2.length ≤ (j + 1) * 2097152 → (j = w.m → sz = (w.size : Int)) →
  bD.l2 (cg w.s0 w.m) k ((j + 1 : Nat) : Int) w.fs w.la 0 false w.most (cg w.s0 w.m) sz Q.1 Q.2.1 Q.2.2.1 Q.2.2.2.1 Q.2.2.2.2.1 Q.2.2.2.2.2 false false =
   some (w.fs, w.la, 0, false, w.most, cg w.s0 w.m, (w.size : Int), P.1, P.2.1, P.2.2.1, P.2.2.2.1, P.2.2.2.2.1, P.2.2.2.2.2, false, false)
 | 0, j, Q, sz, hk, _, _, _, _, _ => by omega
 | k + 1, j, Q, sz, hk, hj, hQ, hsQ, hlQ, hsz => by
  have a6 := G.top
  have ab := G.num
  have ad := D.len
  rw [bD.l2, dm]
  by_cases hlt : j < w.m
  ·obtain ⟨d, hd⟩ : ∃ d, w.m = j + 1 + d := ⟨w.m - (j + 1), by omega⟩
   obtain ⟨Q', q'⟩ := mw (j + 1) d P (by rw [← hd]; exact J)
   obtain ⟨Q0, q1, q2, q3, q4⟩ := q'
   have e := ob j Q0 Q q1 hQ
   subst e
   have u : w.s0 + j + 1 ≤ w.last := by unfold Wl.last; omega
   have U := vu G X D (n := w.s0 + j + 1) (by omega) u (s := Q0) (q := Q0) hsQ (.inr ⟨by omega, q2, rfl⟩) q3 (by omega) sz (k := k) (by omega)
   have a1 := sb G D (n := w.s0 + j + 1) (by omega) u
   have bc := ll (sg := ((w.s0 + j + 1 : Nat) : Int)) (h (w.s0 + j + 1)) Q0
   have I := kQ (sg := ((w.s0 + j + 1 : Nat) : Int)) hsQ (fun r U => kD (D.lr (w.s0 + j + 1) (by omega) u r U))
   rw [if_pos (by omega), if_pos (by omega), Int.toNat_natCast, ip (by omega), show w.s0 + (j + 1) = w.s0 + j + 1 from rfl, U, Option.bind_some]
   simp only []
   rw [ws1 (by omega)]
   subst q4
   exact sc G X hN D J k (j + 1) _ _ (by omega) (by omega) ⟨Q0, q1, q2, q3, rfl⟩ I (by omega) fun e => by
    rw [← D.sz]
    unfold Wl.last
    rw [← e]
    rfl
  ·have e : j = w.m := by omega
   subst e
   have e2 := ob _ Q P hQ J
   subst e2
   rw [if_neg (by omega), hsz rfl]
theorem yc {T N Z L : Nat} {w : Wl} (u : WOk T N Z L w) (hT : T ≤ 99999999) (hN : N ≤ 256) {H : Nat → bO} {h : Nat → List bO} (D : gV w H h) (m1 : 64 ≤ w.most) (m2 : w.most ≤ 1048576) {k : Nat} (hk : 2300000000 < k) :
  ∃ P, dN P ∧ Jn (w.s0 : Int) w.st P ∧ bD.f k w.fs w.la 0 false w.most = some (true, w.most, cg w.s0 w.m, (w.size : Int), P.1, P.2.1, P.2.2.1, P.2.2.2.1, P.2.2.2.2.1, P.2.2.2.2.2, false, false, 0, (dn w).fs, (dn w).la, 0, false) := by
 have be := u.top
 have af := u.s1
 have a1 := u.num
 have G := D.len
 obtain ⟨P, p1, p2, p3⟩ := D.rp w.s0 w.m (Nat.le_refl _) rfl
 refine ⟨P, p2, p3, ?_⟩
 have l0 := rY (s0 := w.s0) (m := w.m) af (by omega) k 0 [] (by omega) (by omega) (by simp)
 have l1 := rZ (s0 := w.s0) (m := w.m) (by omega) k 0 (by omega) (by omega)
 rw [List.drop_zero, List.nil_append, show ((0 : Nat) : Int) = (0 : Int) from rfl] at l0
 rw [show ((0 : Nat) : Int) = (0 : Int) from rfl] at l1
 have al : dZ.f (cg w.s0 w.m) = some (cg w.s0 w.m) := by
  unfold dZ.f
  rw [if_pos (by simp only [List.length_nil, dm]; omega), List.nil_append]
 have hs := jr (u.has w.last (by unfold Wl.last; omega) (Nat.le_refl _))
 have I : IntKind.i64.wrap (((cg w.s0 w.m).length : Int) - 1) = (w.m : Int) := by rw [dm, w64 (by omega) (by omega)]; omega
 have J := js w.s0 w.m (by omega)
 rw [I] at J
 obtain ⟨j, rfl⟩ : ∃ j, k = j + 1 := ⟨k - 1, by omega⟩
 have l2 : bD.l2 (cg w.s0 w.m) (j + 1) 0 w.fs w.la 0 false w.most (cg w.s0 w.m) 0 0 0 0 0 0 [] false false = some (w.fs, w.la, 0, false, w.most, cg w.s0 w.m, (w.size : Int), P.1, P.2.1, P.2.2.1, P.2.2.2.1, P.2.2.2.2.1, P.2.2.2.2.2, false, false) := by
  obtain ⟨Q, q⟩ := mw 0 w.m P (by rw [Nat.zero_add]; exact p1)
  obtain ⟨q1, q2⟩ := q
  obtain ⟨s', g1, g2, g3⟩ := D.hd w.s0 (Nat.le_refl _) (by unfold Wl.last; omega)
  have U : dN (gD (H w.s0)) := by rw [g3]; exact mS g1
  have a8 := sb u D (n := w.s0) (Nat.le_refl _) (by unfold Wl.last; omega)
  have b3 := ll (sg := (w.s0 : Int)) (h w.s0) (gD (H w.s0))
  have X := kQ (sg := (w.s0 : Int)) U (fun r hr => kD (D.lr w.s0 (Nat.le_refl _) (by unfold Wl.last; omega) r hr))
  have bc : (gD (H w.s0)).2.2.2.2.2.length = 0 := rfl
  have hr := vu u hT D (n := w.s0) (Nat.le_refl _) (by unfold Wl.last; omega) (s := st0) (q := gD (H w.s0)) U (.inl ⟨rfl, rfl, rfl⟩) q1 (by omega) 0 (k := j) (by omega)
  rw [bD.l2, dm, if_pos (by omega), if_pos (by omega)]
  have ab : (cg w.s0 w.m).getD (0 : Int).toNat 0 = (w.s0 : Int) := by
   have := ip (s0 := w.s0) (m := w.m) (i := 0) (by omega)
   rw [Nat.add_zero] at this
   exact this
  rw [ab, show cp.f j w.fs w.la 0 false w.most (cg w.s0 w.m) 0 0 0 0 0 0 [] false (w.s0 : Int) = _ from hr, Option.bind_some]
  simp only []
  rw [show IntKind.i64.wrap ((0 : Int) + 1) = ((0 + 1 : Nat) : Int) from by decide]
  exact sc u hT hN D p1 j 0 _ _ (by omega) (by omega) ⟨q1, rfl⟩ X (by omega) fun e => by
   rw [← D.sz]
   unfold Wl.last
   rw [← e]
   rfl
 unfold bD.f
 rw [if_neg (by simp; omega), th u.inv (by decide), Option.bind_some, wE u hT G, l0, Option.bind_some, if_neg (by rw [dm]; omega), l1, Option.bind_some, al, Option.bind_some, l2, Option.bind_some]
 simp only []
 rw [I, if_pos (by rw [dm]; omega), J, show ((w.s0 + w.m : Nat) : Int) = (w.last : Int) from rfl, iA (by unfold Wl.last; omega) (by unfold Wl.last; omega) (by omega), Option.bind_some, lL, jz hs, Option.bind_some]
 simp only []
 rw [iF, Option.bind_some]
 rfl
/-! ### The law -/
theorem pV (x : List OpW) (hx : x.length < 2 ^ 20) (hd : ∀ o, o ∈ x → ∀ e, e ∈ OpW.es o → e.2.2.2.length < 2 ^ 40) : ∀ (k i T N Z L : Nat) (G : Int) (w : Wl), x.length - i + 2300000000 + 2 * mh (x.drop i) < k → i ≤ x.length → WOk T N Z L w → (∃ H h, gV w H h) →
  T + (x.length - i) < 900000 → N + (x.length - i) < 256 → Z + mO (x.drop i) + 700 ≤ 16777216 → L + mh (x.drop i) < 2 ^ 28 →
  ∃ (v : Wl) (a : Int), aV.l0 x k G (i : Int) w.tp.2.2.2.2.1 w.tp.2.2.2.2.2.1 w.tp.2.2.2.2.2.2.1 w.tp.2.2.2.2.2.2.2.1 w.tp.2.2.2.2.2.2.2.2.1 w.tp.2.2.2.2.2.2.2.2.2.1 w.tp.2.2.2.2.2.2.2.2.2.2.1 w.tp.2.2.2.2.2.2.2.2.2.2.2.1 w.tp.2.2.2.2.2.2.2.2.2.2.2.2.1 w.tp.2.2.2.2.2.2.2.2.2.2.2.2.2 w.tp.1 w.tp.2.1 w.tp.2.2.1 w.tp.2.2.2.1 =
    some (a, v.tp.2.2.2.2.1, v.tp.2.2.2.2.2.1, v.tp.2.2.2.2.2.2.1, v.tp.2.2.2.2.2.2.2.1, v.tp.2.2.2.2.2.2.2.2.1, v.tp.2.2.2.2.2.2.2.2.2.1, v.tp.2.2.2.2.2.2.2.2.2.2.1, v.tp.2.2.2.2.2.2.2.2.2.2.2.1, v.tp.2.2.2.2.2.2.2.2.2.2.2.2.1, v.tp.2.2.2.2.2.2.2.2.2.2.2.2.2, v.tp.1, v.tp.2.1, v.tp.2.2.1, v.tp.2.2.2.1) ∧
   WOk 900000 256 16777216 (2 ^ 28) v ∧ ∃ H h, gV v H h
 | 0, i, T, N, Z, L, G, w, h, _, _, _, _, _, _, _ => by omega
 | k + 1, i, T, N, Z, L, G, w, hk, hi, hw, ⟨H, h, hlg⟩, hT, hN, hZ, hL => by
  rw [aV.l0]
  by_cases hlt : i < x.length
  ·have hm : x.getD i iq ∈ x := by rw [fD hlt]; exact List.getElem_mem _
   have J := fR x iq hlt
   have U := hd _ hm
   have X : mO (x.drop i) = opZ (x.getD i iq) + mO (x.drop (i + 1)) := by rw [J, pI]
   have a1 : mh (x.drop i) = (OpW.es (x.getD i iq)).length + 3 + mh (x.drop (i + 1)) := by rw [J, pJ]
   have ad : x.getD (i : Int).toNat ((0 : Int), (0 : Int), false, (0 : Int), (0 : Int), (0 : Int), (0 : Int), (0 : Int), ([] : List (bm))) = x.getD i iq := by rw [Int.toNat_natCast]
   obtain ⟨o, eo⟩ : ∃ o, x.getD i iq = o := ⟨_, rfl⟩
   rw [eo] at X a1 U ad
   have be : x.length - i = (x.length - (i + 1)) + 1 := by omega
   have a6 : w.m < 2 ^ 30 := by have := hw.top; omega
   have hh := hw.has w.last (by unfold Wl.last; omega) (Nat.le_refl _)
   have D : ∀ (u : Wl) (I : Int), WOk (T + 1) (N + 1) (Z + opZ o) (L + (OpW.es o).length + 3) u → (∃ H h, gV u H h) →
     ∃ (v : Wl) (a : Int), aV.l0 x k I ((i + 1 : Nat) : Int) u.tp.2.2.2.2.1 u.tp.2.2.2.2.2.1 u.tp.2.2.2.2.2.2.1 u.tp.2.2.2.2.2.2.2.1 u.tp.2.2.2.2.2.2.2.2.1 u.tp.2.2.2.2.2.2.2.2.2.1 u.tp.2.2.2.2.2.2.2.2.2.2.1 u.tp.2.2.2.2.2.2.2.2.2.2.2.1 u.tp.2.2.2.2.2.2.2.2.2.2.2.2.1 u.tp.2.2.2.2.2.2.2.2.2.2.2.2.2 u.tp.1 u.tp.2.1 u.tp.2.2.1 u.tp.2.2.2.1 =
      some (a, v.tp.2.2.2.2.1, v.tp.2.2.2.2.2.1, v.tp.2.2.2.2.2.2.1, v.tp.2.2.2.2.2.2.2.1, v.tp.2.2.2.2.2.2.2.2.1, v.tp.2.2.2.2.2.2.2.2.2.1, v.tp.2.2.2.2.2.2.2.2.2.2.1, v.tp.2.2.2.2.2.2.2.2.2.2.2.1, v.tp.2.2.2.2.2.2.2.2.2.2.2.2.1, v.tp.2.2.2.2.2.2.2.2.2.2.2.2.2, v.tp.1, v.tp.2.1, v.tp.2.2.1, v.tp.2.2.2.1) ∧ WOk 900000 256 16777216 (2 ^ 28) v ∧ ∃ H h, gV v H h := fun u I hu lu =>
    pV x hx hd k (i + 1) (T + 1) (N + 1) _ _ I u (by omega) (by omega) hu lu (by omega) (by omega) (by omega) (by omega)
   rw [if_pos (by simp; omega), ws1 (by omega)]
   simp only [if_pos (show 0 ≤ (i : Int) ∧ (i : Int) < (x.length : Int) by omega)]
   simp only [ad]
   by_cases h0 : o.1 = 0
   ·rw [if_pos h0]
    have hz := vA w.st o.2.2
    have he : o.2.2.2.2.2.2.2.2 = OpW.es o := rfl
    rw [he] at hz
    unfold opZ at X
    have ha := wF hw (by omega) (by omega) (b := o.2.2) (by omega) (by omega) (by rw [he]; omega) U a6 (k := k) (by rw [he]; omega)
    have al := yQ hw (by omega) (by omega) (b := o.2.2) (by rw [he]; omega) (by omega)
    rw [he] at al
    rw [ha, Option.bind_some]
    exact D (nZ w o.2.2) G (iO al (by omega) (by omega) (by unfold opZ; omega) (by omega)) (xZ hw (by omega) (by omega) (by omega) (by omega) hlg o.2.2)
   ·rw [if_neg h0]
    by_cases h1 : o.1 = 1
    ·rw [if_pos h1, tj hw (by omega) (by omega), Option.bind_some]
     exact D (dn w) G (iO (rP hw (by omega)) (by omega) (by omega) (by omega) (by omega)) ⟨H, h, nq hlg hh⟩
    ·rw [if_neg h1]
     by_cases h2 : o.1 = 2
     ·rw [if_pos h2]
      obtain ⟨v, j, c, v1, v2, v3, _⟩ := uW (P := fun u => ∃ H h, gV u H h) hw (by omega) (by omega) (fun u hu hm ⟨H, h, hp⟩ => ⟨H, h, wx hu (by omega) hm hp⟩) o.2.1 (k := k) (by omega)
      have v4 := v3 ⟨H, h, hlg⟩ ⟨H, h, nq hlg hh⟩
      rw [v1, Option.bind_some, show cN.f c = some c from rfl, Option.bind_some]
      by_cases hc : c = 0
      ·rw [if_pos hc]
       exact D v _ (iO v2 (by omega) (by omega) (by omega) (by omega)) v4
      ·rw [if_neg hc]
       exact D v _ (iO v2 (by omega) (by omega) (by omega) (by omega)) v4
     ·rw [if_neg h2]
      exact D w G (iO hw (by omega) (by omega) (by omega) (by omega)) ⟨H, h, hlg⟩
  ·rw [if_neg (by simp; omega)]
   exact ⟨w, G, rfl, iO hw (by omega) (by omega) (by omega) (by omega), H, h, hlg⟩
theorem vB (a : Int × Int × List Int × Int × Int × Int × Int × Int × Int × List HeT × Bool × FSt × List UInt8 × Int × Bool) (p q : Int × Int × Int × Int × Int × List EnT) (u : p.2.2.2.2.2 = q.2.2.2.2.2) (D : p.2.2.2.2.2.length < 2 ^ 40) : ∀ (k i : Nat), p.2.2.2.2.2.length - i < k → i ≤ p.2.2.2.2.2.length →
  ∃ r : Nat, r ≤ p.2.2.2.2.2.length ∧ aV.l1 a p k (i : Int) = some (r : Int) ∧ aV.l2 a q k (i : Int) = some (r : Int)
 | 0, i, h, _ => by omega
 | k + 1, i, h, hi => by
  rw [aV.l1, aV.l2, ← u]
  by_cases hlt : i < p.2.2.2.2.2.length
  ·rw [if_pos (by omega), if_pos (by omega), Option.bind_some, Option.bind_some]
   by_cases hc : decide ((p.2.2.2.2.2.getD (i : Int).toNat bl).2.1 ≤ a.1) = true
   ·rw [if_pos hc, if_pos hc, ws1 (by omega)]
    exact vB a p q u D k (i + 1) (by omega) (by omega)
   ·rw [if_neg hc, if_neg hc]
    exact ⟨i, hi, rfl, rfl⟩
  ·rw [if_neg (by omega), Option.bind_some, Option.bind_some, if_neg Bool.false_ne_true, if_neg Bool.false_ne_true]
   exact ⟨i, hi, rfl, rfl⟩
theorem zt (x : Int) : gV (gd [] x) (fun n => dh n st0) (fun _ => []) := by
 obtain ⟨b, D⟩ : ∃ b, frB (cF (dh 1 st0)) = b := ⟨_, rfl⟩
 have G : b = fa [cF (dh 1 st0)] := by rw [← D, fa, fa, List.append_nil]
 unfold gd
 rw [D]
 refine ⟨?_, ?_, fun n h1 u => ?_, fun n h1 u => ⟨st0, lI, by decide, rfl⟩, fun n h1 u r I => by simp at I, fun J j h1 u => ?_, fun i hi => by simp [st0] at hi, by simp only [st0]; decide⟩
 ·show (hJ [] 1 b).length = 0 + 1
  rw [rV rfl]
  rfl
 ·simp only [Wl.last]
  rw [mn, if_pos rfl]
 ·have e : n = 1 := by simp only [Wl.last] at h1 u; omega
  subst e
  simp only
  rw [mn, if_pos rfl, G]
  rfl
 ·simp only [Wl.last] at h1 u
  have e : J = 1 := by omega
  have L : j = 0 := by omega
  subst e L
  exact ⟨gD (dh 1 st0), ⟨trivial, rfl⟩, mS lI, vy lI 1 fun i hi => by simp [st0] at hi⟩
theorem qe {Q : OpW → Prop} {B : Nat} (x : Int) (hx : (Lit.int .i64 x).wf = true) (l : List OpW) (h : l.length * B ≤ reachBytes ∧ ∀ e ∈ l, Q e) (hu : Mu.mu l ≤ 1048576) :
  ∃ k, aV.f k x l = some true := by
 have b9 := tb l
 have hd : ∀ o, o ∈ l → ∀ e, e ∈ OpW.es o → e.2.2.2.length < 2 ^ 40 := fun o ho e he => by
  have h1 := pK he
  have h2 := nV (f := fun o => gT (OpW.es o)) ho
  try simp only at h2
  omega
 have a1 : ∀ o, o ∈ l → (OpW.es o).length < 2 ^ 40 := fun o ho => by
  have h2 := nV (f := fun o => (OpW.es o).length) ho
  try simp only at h2
  omega
 obtain ⟨k, I⟩ : ∃ k, k = 3000000000 + 100 := ⟨_, rfl⟩
 have hf : fu.f k = some true := by rw [I]; exact uf 3000000000
 refine ⟨k, ?_⟩
 have c0 : 3000000000 ≤ k := by omega
 clear I
 obtain ⟨b, hb, a6⟩ := xA l (by omega) hd a1 (k := k) (by omega)
 unfold aV.f
 rw [hf, Option.bind_some, hb, Option.bind_some]
 by_cases hg : ((((!true) || (!b)) || (decide (x < (64 : Int)))) || (decide ((1048576 : Int) < x))) = true
 ·rw [if_pos hg]
 ·rw [if_neg hg]
  simp only [Bool.not_true, Bool.false_or, Bool.or_eq_true, Bool.not_eq_true', decide_eq_true_eq] at hg
  have a7 : b = true := by
   cases b with
   | true => rfl
   | false => exact absurd (.inl (.inl rfl)) hg
  obtain ⟨s1, s2⟩ := a6 a7
  have oa := yR (fs := []) (N := 0) (Z := 0) rB (by simp) (by omega) (by simp [szF]) (by omega) pL ug [] (most := x) (by omega) (by omega) (k := k) (by omega)
  have wa := wG (fs := []) (N := 0) (Z := 0) rB (by simp) (by omega) (by simp [szF]) (by omega) pL x
  rw [show iH.f = some (([] : FSt), ([] : List UInt8), (0 : Int), false) from rfl]
  simp only [Option.bind_some]
  rw [oa]
  simp only [Option.bind_some, if_true]
  have sa := zt x
  obtain ⟨a, ea⟩ : ∃ a, gd [] x = a := ⟨_, rfl⟩
  rw [ea] at wa sa ⊢
  have c5 := tc l
  have c6 := td l
  obtain ⟨v, ab, v1, v2, H, h, v3⟩ := pV l (by omega) hd k 0 1 (0 + 1) (0 + 128) 0 0 a (by rw [List.drop_zero]; omega) (by omega) wa ⟨_, _, sa⟩ (by omega) (by omega) (by rw [List.drop_zero]; omega) (by rw [List.drop_zero]; omega)
  rw [show ((0 : Nat) : Int) = (0 : Int) from rfl] at v1
  rw [v1, Option.bind_some]
  have hs := tj v2 (by omega) (k := k) (by omega)
  have hh := v2.has v.last (by unfold Wl.last; omega) (Nat.le_refl _)
  simp only []
  rw [hs, Option.bind_some]
  simp only [show cN.f (0 : Int) = some 0 from rfl, Option.bind_some, if_true]
  have u := rP v2 (by omega)
  have o2 := nq v3 hh
  obtain ⟨w', J⟩ : ∃ w' : Wl, w' = { dn v with most := x } := ⟨_, rfl⟩
  have w1 : WOk 900000 256 16777216 (2 ^ 28) w' := by rw [J]; exact ⟨u.inv, u.num, u.siz, u.s1, u.top, u.has, u.non, u.st, u.len, u.sz⟩
  have w2 : gV w' H h := by rw [J]; exact ⟨o2.len, o2.sz, o2.fl, o2.hd, o2.lr, o2.rp, o2.sg, o2.cs⟩
  obtain ⟨P, p1, G, p3⟩ := yc w1 (by omega) (by omega) w2 (by rw [J]; show 64 ≤ x; omega) (by rw [J]; show x ≤ 1048576; omega) (k := k) (by omega)
  obtain ⟨j1, j2⟩ := yZ G (fun i hi => (w2.sg i hi).1)
  rw [J] at p3 j1 j2 G
  have bc : bD.f k (dn v).fs (dn v).la 0 false x = some (true, x, cg v.s0 v.m, (v.size : Int), P.1, P.2.1, P.2.2.1, P.2.2.2.1, P.2.2.2.2.1, P.2.2.2.2.2, false, false, 0, (dn (dn v)).fs, (dn (dn v)).la, 0, false) := p3
  rw [bc, Option.bind_some]
  simp only [Bool.false_eq_true, if_false, if_true, Option.bind_some, decide_true, Bool.not_true]
  have d2 := u.has (dn v).last (by unfold Wl.last; omega) (Nat.le_refl _)
  have D := rP u (by omega)
  obtain ⟨r, er⟩ : ∃ r : Wl, r = { dn (dn v) with most := x, st := P } := ⟨_, rfl⟩
  have d3 : P.2.2.2.2.2.length = v.st.2.2.2.2.2.length := by rw [j2]; rfl
  have vl := v2.len
  have r1 : WOk 900000 256 16777216 (2 ^ 28) r := by
   rw [er]
   exact ⟨D.inv, D.num, D.siz, D.s1, D.top, D.has, D.non, p1, by show P.2.2.2.2.2.length ≤ _; omega, D.sz⟩
  have br := vC D (by omega) (k := k) (by omega)
  have L := vC r1 (by omega) (k := k) (by omega)
  have bs := sO D (by omega)
  have U := sO r1 (by omega)
  have b0 := uR D (by omega) (k := k) (by omega)
  have X := uR r1 (by omega) (k := k) (by omega)
  rw [er] at L U X
  rw [show eh.f k (dn (dn v)).fs (dn (dn v)).la 0 false v.tp.2.2.2.2.1 v.tp.2.2.2.2.2.1 v.tp.2.2.2.2.2.2.1 v.tp.2.2.2.2.2.2.2.1 v.tp.2.2.2.2.2.2.2.2.1 v.tp.2.2.2.2.2.2.2.2.2.1 v.tp.2.2.2.2.2.2.2.2.2.2.1 v.tp.2.2.2.2.2.2.2.2.2.2.2.1 v.tp.2.2.2.2.2.2.2.2.2.2.2.2.1 v.tp.2.2.2.2.2.2.2.2.2.2.2.2.2 = _ from br, Option.bind_some]
  rw [show eh.f k (dn (dn v)).fs (dn (dn v)).la 0 false x (cg v.s0 v.m) (v.size : Int) P.1 P.2.1 P.2.2.1 P.2.2.2.1 P.2.2.2.2.1 P.2.2.2.2.2 false = _ from L, Option.bind_some]
  rw [show dA.f (dn (dn v)).fs (dn (dn v)).la 0 false v.tp.2.2.2.2.1 v.tp.2.2.2.2.2.1 v.tp.2.2.2.2.2.2.1 v.tp.2.2.2.2.2.2.2.1 v.tp.2.2.2.2.2.2.2.2.1 v.tp.2.2.2.2.2.2.2.2.2.1 v.tp.2.2.2.2.2.2.2.2.2.2.1 v.tp.2.2.2.2.2.2.2.2.2.2.2.1 v.tp.2.2.2.2.2.2.2.2.2.2.2.2.1 v.tp.2.2.2.2.2.2.2.2.2.2.2.2.2 = _ from bs, Option.bind_some]
  rw [show dA.f (dn (dn v)).fs (dn (dn v)).la 0 false x (cg v.s0 v.m) (v.size : Int) P.1 P.2.1 P.2.2.1 P.2.2.2.1 P.2.2.2.2.1 P.2.2.2.2.2 false = _ from U, Option.bind_some]
  rw [show bC.f k (dn (dn v)).fs (dn (dn v)).la 0 false v.tp.2.2.2.2.1 v.tp.2.2.2.2.2.1 v.tp.2.2.2.2.2.2.1 v.tp.2.2.2.2.2.2.2.1 v.tp.2.2.2.2.2.2.2.2.1 v.tp.2.2.2.2.2.2.2.2.2.1 v.tp.2.2.2.2.2.2.2.2.2.2.1 v.tp.2.2.2.2.2.2.2.2.2.2.2.1 v.tp.2.2.2.2.2.2.2.2.2.2.2.2.1 v.tp.2.2.2.2.2.2.2.2.2.2.2.2.2 = _ from b0, Option.bind_some]
  rw [show bC.f k (dn (dn v)).fs (dn (dn v)).la 0 false x (cg v.s0 v.m) (v.size : Int) P.1 P.2.1 P.2.2.1 P.2.2.2.1 P.2.2.2.2.1 P.2.2.2.2.2 false = _ from X, Option.bind_some]
  have b8 := v2.top
  have e1 : cC P = cC v.st := G.la
  have t1 : P.1 = v.st.1 := G.tvc.1
  have t2 : P.2.1 = v.st.2.1 := G.tvc.2.1
  have t3 : P.2.2.1 = v.st.2.2.1 := G.tvc.2.2
  have ad : P.2.2.2.2.2 = v.st.2.2.2.2.2 := j2
  have b1 : (dn (dn v)).st = v.st := rfl
  have b2 : (dn (dn v)).s0 = v.s0 := rfl
  have em : (dn (dn v)).m = v.m := rfl
  simp only [b1, b2, em]
  rw [wd _ (by rw [jN]; omega) (by rw [jN]; omega), Option.bind_some, e1, t1, t2, t3]
  simp only [decide_true, Bool.not_true, Bool.and_self, Bool.or_self, Bool.false_eq_true, if_false, Bool.and_false, Option.bind_some]
  obtain ⟨i, i1, i2, i3⟩ := vB (ab, v.tp.2.2.2.2.1, v.tp.2.2.2.2.2.1, v.tp.2.2.2.2.2.2.1, v.tp.2.2.2.2.2.2.2.1, v.tp.2.2.2.2.2.2.2.2.1, v.tp.2.2.2.2.2.2.2.2.2.1, v.tp.2.2.2.2.2.2.2.2.2.2.1, v.tp.2.2.2.2.2.2.2.2.2.2.2.1, v.tp.2.2.2.2.2.2.2.2.2.2.2.2.1, v.tp.2.2.2.2.2.2.2.2.2.2.2.2.2, v.tp.1, v.tp.2.1, v.tp.2.2.1, v.tp.2.2.2.1) (v.st.1, v.st.2.1, v.st.2.2.1, v.st.2.2.2.1, v.st.2.2.2.2.1, v.st.2.2.2.2.2.map mT) (v.st.1, v.st.2.1, v.st.2.2.1, P.2.2.2.1, P.2.2.2.2.1, P.2.2.2.2.2.map mT) (by simp only [ad]) (by simp only [List.length_map]; omega) k 0 (by simp only [List.length_map]; omega) (by omega)
  simp only [List.length_map] at i1
  rw [show ((0 : Nat) : Int) = (0 : Int) from rfl] at i2 i3
  rw [i2, Option.bind_some, i3, Option.bind_some]
  simp only [List.length_map, ad]
  rw [if_pos (by omega), if_pos (by omega)]
  have hc : cut (v.st.2.2.2.2.2.map mT) (i : Int) (v.st.2.2.2.2.2.length : Int) = ((v.st.2.2.2.2.2.map mT).take v.st.2.2.2.2.2.length).drop i := by
   unfold cut
   rw [Int.toNat_natCast, Int.toNat_natCast]
  have d9 : (((v.st.2.2.2.2.2.map mT).take v.st.2.2.2.2.2.length).drop i).length ≤ v.st.2.2.2.2.2.length := by
   rw [List.length_drop, List.length_take, List.length_map]; omega
  rw [hc, wH _ (by omega) (M := 5000) (fun e hm => by
    obtain ⟨q, hq, rfl⟩ := List.mem_map.1 (List.mem_of_mem_take (List.mem_of_mem_drop hm))
    have := (fC (v2.st.chk q hq)).2.2.2.1
    show q.2.2.2.1.length < 5000
    omega) (by omega) (by omega), Option.bind_some, show cN.f (0 : Int) = some 0 from rfl, Option.bind_some]
  rfl
end Go.Proofs.YtndjkejhacfpdaaGreatDoor

namespace Go.Proofs.YtndjkejhacfpdaaGreatDoor
open Go.RowKit Go.ChangeShapes Go.WideShapes Go.ChangeAt
def um (P : Program) (w : World) (n : String) (d : DataW Unit) : Prop :=
 ∃ g t cs u p, P.globalNamed n = some g ∧ (P.globals[g]?).map (·.type) = some t ∧ w.var? P n = some cs ∧ DataW.trod (fun _ => ()) P w 0 (fun _ => true) false u t cs.toList = some (d, p)
theorem rR {P : Program} {w : World} : ∀ {l : List (String × DataW Unit)} {ps : List MemPlace}, DataW.LaidVars P w l ps → ∀ n d, (n, d) ∈ l → um P w n d
 | [], _, _, _, _, hm => by cases hm
 | (n', d') :: r, ps, h, n, d, hm => by
  obtain ⟨g, t, cs, u, p, q, h1, D, G, I, J, _⟩ := h
  rcases List.mem_cons.1 hm with e | e
  ·cases e
   exact ⟨g, t, cs, u, p, h1, D, G, I⟩
  ·exact rR J n d e
theorem tG {P : Program} {w : World} {l : List (String × DataW Unit)} (h : laidMet P l w) {n : String} {d : DataW Unit} (u : (n, d) ∈ l) : um P w n d :=
 let ⟨_, hv, _⟩ := h
 rR hv n d u
theorem yp {P : Program} {W : World} {u : String} {k : IntKind} {X : List Int} {g : Nat} {t e : TypeId} {n : Nat} (hg : P.globalNamed u = some g) (G : (P.globals[g]?).map (·.type) = some t)
  (ht : P.underlying t = some (.array n e)) (he : P.underlying e = some (.int k)) (I : P.cellsOf e = 1) (J : P.cellsOf t = n) (h : um P W u (Lib.tabData k X)) : Lib.TabIs P W u k X := by
 obtain ⟨g', t', cs, ab, p, L, U, D, hd⟩ := h
 obtain rfl := Option.some.inj (hg.symm.trans L)
 obtain rfl := Option.some.inj (G.symm.trans U)
 unfold Lib.TabIs
 rw [D, ← Lib.cells_of_tab ht he I J hd]
theorem nX {P : Program} {W w : World} {n : String} {cs : Array Value} (h : kg (iP W) w) (u : W.var? P n = some cs) : w.var? P n = some cs := by
 obtain ⟨a, G, e⟩ := h
 unfold World.var? at u ⊢
 cases hg : P.globalNamed n with
 | none => rw [hg] at u; cases u
 | some g =>
  rw [hg] at u
  simp only [Option.bind_some] at u ⊢
  cases ho : W.heap[g]? with
  | none => rw [ho] at u; cases u
  | some o =>
   have D : g < W.heap.size := (Array.getElem?_eq_some_iff.1 ho).1
   have h1 : w.heap[g]? = some o := e g o ((G g D).trans ho)
   rw [ho] at u
   rw [h1]
   exact u
theorem yo {P : Program} {W : World} (h1 : Lib.TabIs P W "internal/strconv.uint64pow10" .u64 Lib.pow10Tab) (D : (P.globalNamed "strconv.ErrSyntax").isSome = true → ∃ u p, W.var? P "strconv.ErrSyntax" = some #[.iface u p]) (G : (P.globalNamed "strconv.ErrRange").isSome = true → ∃ u p, W.var? P "strconv.ErrRange" = some #[.iface u p]) :
  Glb P (iP W) :=
 ⟨fun w h => nX h h1, fun e w h => let ⟨u, p, e⟩ := D e; ⟨u, p, nX h e⟩, fun e w h => let ⟨u, p, e⟩ := G e; ⟨u, p, nX h e⟩⟩
theorem qw {H : Type} {enc : TypeId × Value → H} {C : Checked} {os : Os} {f : FuncId} {fn : Func} {s : OpenSpec} {u : List PathCond} {tC : Bool} {D : List (String × DataW Unit)} (G : World) (args : Array Value) (L : G.os = os)
  (U : (G.forCall (fun _ _ => 0) ⟨#[], args, []⟩).Shaped C.prog)
  (I : Input.okWideB C.prog (G.forCall (fun _ _ => 0) ⟨#[], args, []⟩) f ⟨#[], args, []⟩ = true)
  (J : s.preRow enc C.prog fn u tC D (G.forCall (fun _ _ => 0) ⟨#[], args, []⟩).memory args) :
  ∃ (w : World) (tape : Tape) (i : Input), w.os = os ∧ (w.forCall tape i).Shaped C.prog ∧ i.vars = [] ∧ Input.okWide C.prog (w.forCall tape i) .any w.heap.size f i ∧
   s.preRow enc C.prog fn u tC D (w.forCall tape i).memory i.args ∧ ({} : Assume).holds C.prog (lone (Frame.enter C.prog f i.args .normal) [] (w.forCall tape i)) :=
 ⟨G, fun _ _ => 0, ⟨#[], args, []⟩, L, U, (Input.okWide_of_okWideB (base := 0) I).1, (Input.okWide_of_okWideB I).2, J, by
  simp only [Assume.holds]
  exact ⟨by simp, by simp, fun _ => Modest.zero, by simp, by simp⟩⟩
end Go.Proofs.YtndjkejhacfpdaaGreatDoor

namespace Go.Proofs.YtndjkejhacfpdaaGreatDoor.walAgain
open Go.RowKit Go.ChangeShapes Go.WideShapes Go.ChangeAt
open Go.ChangeMaps (open_string shut_string)
theorem own : ownKnob Tryz.prog.godebug = none := by kernel_rfl
theorem laidOut : laidOutB Tryz.prog = true := by kernel_rfl
theorem glb {W : World} (u : laidMetH Tryz.prog Rows.walAgainUptoRow.laid W) : Glb Tryz.prog (iP W) := by
 rw [MakeChecks.laidMetH_plain _ _ _ (by kernel_rfl)] at u
 exact yo (yp (g := 0) (t := 198) (e := 174) (by kernel_rfl) (by kernel_rfl) Tryz.underlying198 Tryz.underlying174 (by kernel_rfl) (by kernel_rfl) (tG u (n := "internal/strconv.uint64pow10") (d := Rows.laid_internal_strconv_uint64pow10) (.tail _ (.tail _ (.head _))))) (fun h => by rw [show (Tryz.prog.globalNamed "strconv.ErrSyntax").isSome = false by kernel_rfl] at h; cases h) (fun h => by rw [show (Tryz.prog.globalNamed "strconv.ErrRange").isSome = false by kernel_rfl] at h; cases h)
theorem laid_met (os : Os) (args : Array Value) : laidMetH Tryz.prog Rows.walAgainUptoRow.laid ((World.laidAll Tryz.prog os Rows.walAgainUptoRow.laid).forCall (fun _ _ => 0) ⟨#[], args, []⟩).memory := by
 rw [MakeChecks.laidMetH_plain _ _ _ (by kernel_rfl)]
 exact laidMet_laidAll args (by kernel_rfl) (by kernel_rfl)
theorem opensT35 {H : Type} (W : World) (u : Bool) (enc : TypeId × Value → H) : fX enc Tryz.prog W u 35 (V35 (iP W)) yq :=
 (ja Tryz.underlying35 (by kernel_rfl) (by kernel_rfl) (by kernel_rfl) (eO (fU Tryz.underlying3 (by kernel_rfl)) (eO (fU Tryz.underlying3 (by kernel_rfl)) (eO (fU Tryz.underlying3 (by kernel_rfl)) (jS (qv Tryz.underlying33 Tryz.underlying5 (by kernel_rfl) (by kernel_rfl) (by kernel_rfl))))))).mono (fun x r h => by obtain ⟨_, _, rfl, rfl, ⟨_, _, rfl, rfl, ⟨_, _, rfl, rfl, ⟨a3, D, rfl, G, I, J⟩⟩⟩⟩ := h; exact ⟨a3, D, rfl, ⟨G, I, J⟩⟩) (fun x h => h)
theorem opensT56 {H : Type} (W : World) (u : Bool) (enc : TypeId × Value → H) : fX enc Tryz.prog W u 56 (V56 (iP W)) zn :=
 fX.map (fun x => (x.1, x.2.1, x.2.2.1, x.2.2.2.1.1, x.2.2.2.1.2.1, x.2.2.2.1.2.2, x.2.2.2.2.1, x.2.2.2.2.2.1, x.2.2.2.2.2.2)) (ja Tryz.underlying56 (by kernel_rfl) (by kernel_rfl) (by kernel_rfl) (eO (fU Tryz.underlying3 (by kernel_rfl)) (eO (fU Tryz.underlying3 (by kernel_rfl)) (jS (ja Tryz.underlying45 (by kernel_rfl) (by kernel_rfl) (by kernel_rfl) (eO (sj Tryz.underlying4 (by kernel_rfl)) (eO (ja Tryz.underlying43 (by kernel_rfl) (by kernel_rfl) (by kernel_rfl) (eO (fU Tryz.underlying3 (by kernel_rfl)) (eO (fU Tryz.underlying3 (by kernel_rfl)) (jS (fU Tryz.underlying3 (by kernel_rfl)))))) (eO (fU Tryz.underlying3 (by kernel_rfl)) (eO (fU Tryz.underlying3 (by kernel_rfl)) (jS (nz (n := 4) (B := 48) Tryz.underlying32 (by kernel_rfl) (by kernel_rfl) (by kernel_rfl) (opensT35 W u enc)))))))))))) (fun x r h => by obtain ⟨_, _, rfl, rfl, ⟨_, _, rfl, rfl, ⟨_, _, rfl, rfl, ⟨_, _, rfl, ⟨_, _, rfl, rfl, ⟨_, _, rfl, rfl, rfl⟩⟩, ⟨_, _, rfl, rfl, ⟨_, _, rfl, rfl, ⟨a8, c8, rfl, h8, k8, m8⟩⟩⟩⟩⟩⟩⟩ := h; exact ⟨a8, c8, rfl, ⟨h8, k8, m8⟩⟩) (fun x h => by obtain ⟨D, G, ⟨o2, ⟨I, J, L⟩, U, X, o8⟩⟩ := h; exact ⟨D, G, o2, I, J, L, U, X, o8⟩) (fun x => by obtain ⟨D, G, ⟨o2, ⟨I, J, L⟩, U, X, o8⟩⟩ := x; simp only [gw, Nat.add_assoc])
set_option maxRecDepth 100000 in
theorem lifted (os : Os) (D : os.Started) (H : Type) (enc : TypeId × Value → H) (F : Stop.Interp) :
  ReturnsInHanded {} Tryz.checked os 6 .any ((Rows.OpenSpec.upto Rows.walAgainSpec).preRow enc Tryz.prog Tryz.f6 Rows.walAgainUptoRow.domain false Rows.walAgainUptoRow.laid) (((Rows.OpenSpec.upto Rows.walAgainSpec).at F).post enc Tryz.prog Tryz.f6 false true false false) := by
 refine returnsInHanded_of_row (C := Tryz.checked) (s := (Rows.OpenSpec.upto Rows.walAgainSpec)) own D (by kernel_rfl) Tryz.func6
  (qw (enc := enc) (C := Tryz.checked) (World.laidAll Tryz.prog os Rows.walAgainUptoRow.laid) #[.int .i64 0, .slice none 0 0] (World.laidAll_os _ _ _) (World.shaped_of_ZipB (by kernel_rfl) (by kernel_rfl)) (by kernel_rfl)
   (OpenSpec.preRow_of_cond 8 (x := ([.lit (.int .i64 0), .nil], [], [])) (by kernel_rfl) (by kernel_rfl) (fun k hk => by cases hk; kernel_rfl) (by kernel_rfl) (laid_met os _))) ?_
 intro W base args ds gs be G hW cd U J hL _ _
 have bs := glb hL
 have b0 := U _ rfl
 have L : (DataW.weightsEach Tryz.prog (Tryz.f6.params.toList ++ (Rows.OpenSpec.upto Rows.walAgainSpec).bare.plain.varTypes Tryz.prog) (ds ++ gs)).all (· ≤ reachBytes) = true := J
 have I : ∀ (j : Nat) t v, Tryz.f6.params[j]? = some t → args[j]? = some v → Value.okWide Tryz.prog W .any base t v := G
 have b1 := hW
 obtain ⟨p, q, X, hV, rfl, c7, c8⟩ := hW
 have hA : DataW.TrodAll enc Tryz.prog W 0 (fun _ => true) true Tryz.f6.params.toList args.toList ds p := X
 rw [Tryz.params6] at hA I L
 obtain ⟨v0, c9, d0, dl, p0, q0, b2, rfl, rfl, h0, r0⟩ := trodAll_cons hA
 obtain ⟨v1, d3, d1, d5, p1, q1, rfl, rfl, rfl, h1, r1⟩ := trodAll_cons r0
 obtain ⟨rfl, rfl, rfl⟩ := trodAll_nil r1
 obtain rfl : args = #[v0, v1] := by cases args; simp_all
 obtain ⟨rfl, rfl⟩ := trodVars_none hV
 obtain ⟨a0, rfl, rfl, rfl, w0⟩ := open_int Tryz.underlying3 (I 0 3 v0 rfl rfl) h0
 obtain ⟨b3, ab, ad, rfl⟩ := okWide_slice Tryz.underlying51 (I 1 51 v1 rfl rfl)
 have k1 := h1
 have b4 : ∀ x ∈ p1, x.block < W.heap.size := by obtain ⟨m, hm⟩ := k1; exact DataW.trod_lt m _ _ _ hm
 obtain ⟨b5, b6⟩ := h1
 obtain ⟨u, ⟨af, al, an, a1, a6, a7⟩, _, _, b7, a8⟩ := (nz (n := 9) (B := 88) Tryz.underlying51 (by kernel_rfl) (by kernel_rfl) (by kernel_rfl) (opensT56 W true enc)) _ _ _ b6 (tH L (j := 1) (t := 51) rfl rfl)
 replace a8 : _ ≤ Rows.uptoBulk d1 := a8
 have e1 : Value.slice b3 ab ad = .slice af u.length al := by simpa [Value.cells] using an
 injection e1 with ea1 eb1 ec1
 subst ea1 eb1 ec1
 have b8 : Rows.uptoBulkAll [_, _] ≤ 1048576 := of_decide_eq_true b0
 simp only [Rows.uptoBulkAll] at b8
 have hu : Mu.mu u ≤ 1048576 := by omega
 clear X G J L
 obtain ⟨k, hk⟩ := qe a0 w0 u b7 hu
 refine (uA (aV.calls W (iP W) k a0 _ _ u a1 a6 a7 bs) hk (fun _ => rfl)).mono fun e W' ⟨he, bc⟩ => ?_
 subst he
 exact ⟨_, rfl, _, _, _, [], _, [], b1, trodAll_mk1 (shut_bool Tryz.underlying4 _), (trodAll_cons_mk (shut_int Tryz.underlying3 w0) (trodAll_cons_mk (Below.trod laidOut (by kernel_rfl) (of_decide_eq_true (by kernel_rfl)) k1 bc b4) trodAll_mk0)), rfl, bc.frame _, fun h => by cases h⟩
theorem said : Rows.WalAgainUptoSaid :=
 OpenClaim.holds_of_cond 6 Tryz.f6 rfl rfl rfl rfl rfl rfl rfl ⟨rfl, rfl, rfl, rfl, rfl⟩ rfl rfl rfl rfl rfl (by kernel_rfl) Tryz.func6 (by kernel_rfl)
  (of_decide_eq_true (by kernel_rfl)) (by unfold Func.isWrapper; first | (rw [if_pos (by decide +kernel)]; kernel_rfl) | (rw [if_neg (by decide +kernel)]; exact ⟨rfl, rfl⟩))
  (fun os u H enc _ F => by rw [OpenClaim.pre_eq_preRow]; exact lifted os u H enc F)
theorem plain (f : FuncId) (fn : Func) (J : Tryz.pinned.checked.prog.funcNamed "synod/synodlaw5.WalAgain" = some f) (G : Tryz.pinned.checked.prog.funcs[f]? = some fn) :
  true = Tryz.pinned.checked.prog.looks [] ∧ ∀ (j : Nat) t, fn.params[j]? = some t → Tryz.pinned.checked.prog.wantsStandIn t = false := by
 obtain rfl : f = 6 := Option.some.inj ((show Tryz.prog.funcNamed "synod/synodlaw5.WalAgain" = some 6 by kernel_rfl).symm.trans J) |>.symm
 obtain rfl : fn = Tryz.f6 := (Option.some.inj (Tryz.func6.symm.trans G)).symm
 refine ⟨by kernel_rfl, fun j t I => ?_⟩
 rw [Tryz.params6] at I
 have L : t ∈ [3, 51] := by simpa using Array.mem_of_getElem? I
 have D : ([3, 51].all fun u => !Tryz.prog.wantsStandIn u) = true := by kernel_rfl
 exact (show Tryz.prog.wantsStandIn t = false by simpa using List.all_eq_true.1 D t L)
theorem card : Rows.WalAgainUptoCardSaid :=
 Claim7.holds_tied_plain_at .later [] _ _ _ _ said (fun _ h => by cases h) (by kernel_rfl) (fun _ h => by cases h) walAgainUpto_row_tie rfl ⟨rfl, rfl⟩ (by kernel_rfl) rfl plain (by kernel_rfl)
end Go.Proofs.YtndjkejhacfpdaaGreatDoor.walAgain
namespace Go.Proofs.YtndjkejhacfpdaaGreatDoor
/-- The card, under a short name, for the claim. -/
theorem walAgain_holds : Rows.WalAgainUptoCardSaid := walAgain.card
end Go.Proofs.YtndjkejhacfpdaaGreatDoor

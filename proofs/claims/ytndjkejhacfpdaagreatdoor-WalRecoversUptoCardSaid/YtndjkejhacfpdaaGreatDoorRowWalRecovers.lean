/- The row of the law WalRecovers, out of its pure law and the printed walk. Conditions: none. -/
import Derived.Test.YtndjkejhacfpdaaGreatDoorM8
import Derived.Lib.LaidTab
import Derived.Deep.DeepHandedRow
import Derived.Lay
import Derived.MakeChecks
import Derived.Test.YtndjkejhacfpdaaGreatDoorCards
import Derived.Test.YtndjkejhacfpdaaGreatDoorTie
set_option linter.unusedVariables false
set_option linter.unusedSimpArgs false
set_option linter.unusedSectionVars false
namespace Go.Proofs.YtndjkejhacfpdaaGreatDoor
open Go.RowKit
theorem Bl {w : Wl} {H : Nat → bx} {h : Nat → List bx} {all : List FaT} {sy u : Int} (r : RI w H h all sy u) : sy ≤ (all.length : Int) := by
 obtain ⟨_, _, _, _, q, D, I, J, U, X, e5, e6⟩ := r
 omega
theorem xE {T N Z L : Nat} {w : Wl} (D : WOk T N Z L w) (I : T < 99999990) {H : Nat → bx} {h : Nat → List bx} {all : List FaT} {sy u : Int} (r : RI w H h all sy u) : ∃ H' h', RI (fK w) H' h' all (if w.m < (fK w).m then (all.length : Int) else sy) u := by
 by_cases hc : w.most ≤ (w.size : Int)
 ·obtain ⟨H', h', f⟩ := AG D I r hc
  refine ⟨H', h', ?_⟩
  rw [if_pos (by unfold fK; rw [if_pos hc]; exact Nat.lt_succ_self _)]
  exact po f
 ·have e : fK w = w := by unfold fK; rw [if_neg hc]
  refine ⟨H, h, ?_⟩
  rw [e, if_neg (Nat.lt_irrefl _)]
  exact r
theorem CN {T N Z L : Nat} {w : Wl} (D : WOk T N Z L w) (hT : T < 99999980) (hN : N < 256) (U : Z + 200 ≤ 16777216) (X : L < 2 ^ 30) {H : Nat → bx} {h : Nat → List bx} {all : List FaT} {sy I : Int} (r : RI w H h all sy I) {b : BaT} (J : jo w.st b = 0) : ∃ H' h', RI (jw w b) H' h' (all ++ (gp w.st b).map fct) (if w.m < (jw w b).m then (all.length : Int) else sy) I := by
 obtain ⟨H', h', g⟩ := xE D (by omega) r
 have h1 := qU D (by omega) hN U X
 have u := pk w
 unfold jw
 rw [u]
 exact ⟨_, _, zH h1 (by omega) g (rP D.st J) (by rw [u]; exact sG D.st J _)⟩
theorem zI {T N Z L : Nat} {w : Wl} (D : WOk T N Z L w) (hT : T < 99999980) (hN : N < 256) {b : BaT} (hZ : Z + 600 + gN (gp w.st b) ≤ 16777216) (hL : L < 2 ^ 29) {H : Nat → bx} {h : Nat → List bx} {all : List FaT} {sy ab : Int} (r : RI w H h all sy ab) (hc : jo w.st b = 0) {fs : FSt} {la : List UInt8} (hf : yr w b fs la) : pV fs la (all ++ (gp w.st b).map fct) sy ab := by
 have U := Bl r
 have X := qV D (by omega) r
 have ad := wb D (by omega)
 rcases hf with ⟨rfl, rfl | rfl⟩ | ⟨rfl, q, hq, rfl⟩ | ⟨rfl, q, hq, rfl⟩
 ·exact rQ (nS D (by omega) r _) _
 ·exact rQ (nS ad (by omega) (qW (po X) U (Int.le_refl _)) _) _
 ·rw [zb]
  exact rQ (CO ad (by omega) hN (by omega) X U hq _) _
 ·obtain ⟨H', h', g⟩ := xE D (by omega) r
  have g := qW (sy' := sy) g (by split <;> omega) (Int.le_refl _)
  have h1 := qU D (by omega) hN (by omega) (by omega)
  have a6 := pk w
  have I := rP D.st hc
  have J : hD (fK w).st (gp w.st b) ((fK w).last : Int) := by rw [a6]; exact sG D.st hc _
  obtain ⟨v, ev⟩ : ∃ v, fK w = v := ⟨_, rfl⟩
  obtain ⟨rs, er⟩ : ∃ rs, gp w.st b = rs := ⟨_, rfl⟩
  rw [ev] at h1 g J ⊢
  rw [er] at hq hZ I J ⊢
  have b2 := h1.top
  have b3 : v.last = v.s0 + v.m := rfl
  have b4 := h1.siz
  have g2 := zH h1 (by omega) g I J
  have h2 := zJ h1 (by omega) (fun x hx => kx (I x hx)) (by omega)
  have hh := h1.has v.last (by omega) (Nat.le_refl _)
  have u := h1.inv.sy _ (ko hh)
  have b8 := mY rs
  have b9 : q.length ≤ (fu rs).length := by
   have := congrArg List.length hq
   rw [List.length_take] at this
   omega
  have z1 := im (aE v.last) (((bv v.fs (aE v.last)).1 ++ q, (bv v.fs (aE v.last)).2) : List UInt8 × Int) v.fs
  have l1 := ic (v := ((bv v.fs (aE v.last)).1 ++ q, (bv v.fs (aE v.last)).2)) hh
  simp only [List.length_append] at z1 u
  have al := xF v rs
  have i1 : gg 256 (bE v.fs (aE v.last) ((bv v.fs (aE v.last)).1 ++ q, (bv v.fs (aE v.last)).2)) := mP h1.inv (by rw [kc]; omega) ⟨u.1, by simp only [List.length_append]; omega⟩ (by omega) (by rw [l1]; exact h1.inv.ln)
  refine we h2 (by omega) g2 (d := (bv v.fs (aE v.last)).1.length + q.length) i1 (by rw [l1]; exact g.lg.len) (fun n n1 n2 => ?_) (fun n n1 n2 => ?_) ?_ _
  ·rw [eU]
   split
   ·rfl
   ·exact h1.has n n1 n2
  ·have n2 : n < v.last := n2
   have an : ¬ aE v.last = aE n := fun e => by
    have := fX (by omega) (by omega) e
    omega
   rw [lq, al, if_neg an, if_neg an]
  ·show bv (bE v.fs (aE v.last) _) (aE v.last) = ((bv (kn v rs).fs (aE v.last)).1.take _, (bv (kn v rs).fs (aE v.last)).2)
   rw [lq, al, if_pos rfl, if_pos rfl]
   simp only []
   rw [List.take_length_add_append, ← hq]
/-! ### The last loop -/
abbrev dzF : FaT := (0, 0, 0, 0, 0, 0, 0, 0, 0, [])
def oJ (l : List FaT) : Prop := ∀ f, f ∈ l → ∃ r, kw r ∧ f = fct r
theorem xG : ∀ (l : List FaT) (m : MoT) (n : Nat), rR m n → n + l.length < 2 ^ 30 → oJ l → rR (l.foldl mZ m) (n + l.length)
 | [], m, n, h, _, _ => h
 | f :: l, m, n, h, hn, ha => by
  rw [List.length_cons] at hn ⊢
  obtain ⟨r, u, rfl⟩ := ha f (by simp)
  have := xG l _ (n + 1) (zK h (by omega) u).2 (by omega) fun g D => ha g (by simp [D])
  rw [show n + (l.length + 1) = n + 1 + l.length by omega]
  exact this
theorem xH {all : List FaT} (U : oJ all) (hl : all.length < 2 ^ 28) {P : St} (hP : dw P) (D : P.2.2.2.2.2.length < 2 ^ 30) {sy X : Int} {i : Nat} (hi : i ≤ all.length) (hs : sy ≤ (i : Int)) (ag : Agr P (mdl (all.take i)) X) (z : FSt × List UInt8 × Int × Bool) : ∀ (d j k : Nat), j + d = i → 1100000000 + d < k →
  bn.l1 (all, sy, X, z) (P.1, P.2.1, P.2.2.1, P.2.2.2.1, P.2.2.2.2.1, P.2.2.2.2.2.map kJ) k (j : Int) (mdl (all.take j)).1 (mdl (all.take j)).2.1 (mdl (all.take j)).2.2.1 (mdl (all.take j)).2.2.2.1 (mdl (all.take j)).2.2.2.2.1 (mdl (all.take j)).2.2.2.2.2 = some (.inr true)
 | d, j, k, e, hk => by
  obtain ⟨k, rfl⟩ : ∃ q, k = q + 1 := ⟨k - 1, by omega⟩
  have ad : (all.take j).length = j := by rw [List.length_take]; omega
  have hm : rR (mdl (all.take j)) j := by
   have := xG (all.take j) (0, 0, 0, 0, [], []) 0 ⟨⟨by decide, by decide⟩, rfl, Nat.le_refl _⟩ (by omega) fun f hf => U f (List.mem_of_mem_take hf)
   rw [Nat.zero_add, ad] at this
   exact this
  obtain ⟨b, b1, b2⟩ := CP hP hm (by omega) X D (k := k) (by omega)
  rw [bn.l1]
  simp only []
  rw [if_pos (by omega), b1, Option.bind_some]
  by_cases hd : d = 0
  ·subst hd
   rw [Nat.add_zero] at e
   subst e
   rw [if_pos hs, Option.bind_some, b2 ag, if_pos rfl]
  ·have u : j < all.length := by omega
   have I : all.getD j dzF ∈ all := by rw [gi u]; exact List.getElem_mem _
   obtain ⟨r, r1, r2⟩ := U _ I
   obtain ⟨c, ec⟩ : ∃ c : Bool, (if sy ≤ (j : Int) then some b else some false) = some c := by split <;> exact ⟨_, rfl⟩
   rw [ec, Option.bind_some]
   cases c with
   | true => rw [if_pos rfl]
   | false =>
    have J := (zK hm (by omega) r1).1
    rw [← r2] at J
    have ht : mdl (all.take (j + 1)) = mZ (mdl (all.take j)) (all.getD j dzF) := by
     rw [List.take_succ_eq_append_getElem u, tj, gi u]
     rfl
    rw [if_neg Bool.false_ne_true, if_pos (by omega), if_pos (by omega), Int.toNat_natCast, J, Option.bind_some, ws1 (by omega), ← ht]
    exact xH U hl hP D hi hs ag z (d - 1) (j + 1) k (by omega) (by omega)
 termination_by d => d
end Go.Proofs.YtndjkejhacfpdaaGreatDoor

namespace Go.Proofs.YtndjkejhacfpdaaGreatDoor
open Go.RowKit
theorem xJ (fs : FSt) (la : List UInt8) (a : Int) (d : Bool) (most : Int) (sg : List Int) (sz : Int) {s : St} (h : dw s) (u : s.2.2.2.2.2.length < 2 ^ 30) {k : Nat} (D : s.2.2.2.2.2.length < k) :
  gI.f k fs la a d most sg sz s.1 s.2.1 s.2.2.1 s.2.2.2.1 s.2.2.2.2.1 s.2.2.2.2.2 false = some (s.1, s.2.1, s.2.2.1, s.2.2.2.1, s.2.2.2.2.1, s.2.2.2.2.2.map kJ) := by
 unfold gI.f ez.f
 have v := xK s.2.2.2.2.2 (by omega) (AJ h) k 0 [] (by omega) (by omega) (by simp)
 rw [List.drop_zero, List.nil_append, show ((0 : Nat) : Int) = (0 : Int) from rfl] at v
 rw [v, Option.bind_some, Option.bind_some]
theorem xL (fs : FSt) (la : List UInt8) (a : Int) (d : Bool) (most : Int) {s0 m : Nat} (h1 : 1 ≤ s0) (u : s0 + m ≤ 99999999) (sz : Int) (s : St) {k : Nat} (D : m + 20 < k) :
  cj.f k fs la a d most (dB s0 m) sz s.1 s.2.1 s.2.2.1 s.2.2.2.1 s.2.2.2.2.1 s.2.2.2.2.2 false = some (lT s0 m) := by
 have s := xg (s0 := s0) (m := m) h1 u k 0 [] (by omega) (by omega) (by simp)
 rw [List.drop_zero, List.nil_append, show ((0 : Nat) : Int) = (0 : Int) from rfl] at s
 unfold cj.f
 rw [s]
 rfl
theorem Bm (fs : FSt) (la : List UInt8) (a : Int) (d : Bool) {D : Int} (J : D ≤ 9223372036854775807) (p : Prop) [Decidable p] : ∃ I, (AOk a → AOk I) ∧ (if p then ((jV.f fs la a d D).bind fun u => (some (u.1, u.2.1, u.2.2))) else (some (la, a, d))) = some (la, I, d) := by
 split
 ·exact ⟨max D 0, fun _ => ⟨by omega, by omega⟩, rfl⟩
 ·exact ⟨a, id, rfl⟩
theorem B1 (x : List OpW) (u D : Int) (U : u ≤ 9223372036854775807) (all : List FaT) (sy J i : Int) (w : WT) (a : Int) {k : Nat} (X : 0 < k) : ∃ I, bn.l0 x u D k all sy J i w.2.2.2.2.1 w.2.2.2.2.2.1 w.2.2.2.2.2.2.1 w.2.2.2.2.2.2.2.1 w.2.2.2.2.2.2.2.2.1 w.2.2.2.2.2.2.2.2.2.1 w.2.2.2.2.2.2.2.2.2.2.1 w.2.2.2.2.2.2.2.2.2.2.2.1 w.2.2.2.2.2.2.2.2.2.2.2.2.1 w.2.2.2.2.2.2.2.2.2.2.2.2.2 w.1 w.2.1 a true = some (all, sy, J, w.1, w.2.1, I, true) := by
 obtain ⟨k, rfl⟩ : ∃ q, k = q + 1 := ⟨k - 1, by omega⟩
 obtain ⟨I, _, e⟩ := Bm w.1 w.2.1 a true U (i = D)
 rw [bn.l0, e]
 split
 ·exact ⟨I, rfl⟩
 ·exact ⟨a, rfl⟩
theorem ui {s : St} (D : dw s) {b : BaT} (I : jo s b = 0) {all : List FaT} (h : oJ all) : oJ (all ++ (gp s b).map fct) := fun f u => by
 rcases List.mem_append.1 u with u | u
 ·exact h f u
 ·obtain ⟨r, J, rfl⟩ := List.mem_map.1 u
  exact ⟨r, rP D I r J, rfl⟩
def Fin (o : Option (List FaT × Int × Int × FSt × List UInt8 × Int × Bool)) : Prop := ∃ all sy u fs la a d, o = some (all, sy, u, fs, la, a, d) ∧ pV fs la all sy u ∧ oJ all ∧ all.length < 2 ^ 28
theorem rT {x : List OpW} {u D : Int} (J : u ≤ 9223372036854775807) {all : List FaT} {sy I i : Int} {w : WT} (hd : w.2.2.2.1 = true) (U : pV w.1 w.2.1 all sy I) (h1 : oJ all) (X : all.length < 2 ^ 28) {k : Nat} (hk : 0 < k) : Fin (bn.l0 x u D k all sy I i w.2.2.2.2.1 w.2.2.2.2.2.1 w.2.2.2.2.2.2.1 w.2.2.2.2.2.2.2.1 w.2.2.2.2.2.2.2.2.1 w.2.2.2.2.2.2.2.2.2.1 w.2.2.2.2.2.2.2.2.2.2.1 w.2.2.2.2.2.2.2.2.2.2.2.1 w.2.2.2.2.2.2.2.2.2.2.2.2.1 w.2.2.2.2.2.2.2.2.2.2.2.2.2 w.1 w.2.1 w.2.2.1 w.2.2.2.1) := by
 rw [hd]
 obtain ⟨a', e⟩ := B1 x u D J all sy I i w w.2.2.1 hk
 exact ⟨_, _, _, _, _, _, _, e, U, h1, X⟩
theorem xM (x : List OpW) (hx : x.length < 2 ^ 20) (hd : ∀ o, o ∈ x → ∀ e, e ∈ OpW.es o → e.2.2.2.length < 2 ^ 40) (an a6 : Int) (hm : an ≤ 9223372036854775807) : ∀ (k i T N Z L : Nat) (a sy ab : Int) (all : List FaT) (w : Wl), x.length - i + 2300000000 + 2 * pS (x.drop i) < k → i ≤ x.length → WOk T N Z L w → AOk a → (∃ H h, RI w H h all sy ab) → oJ all → all.length ≤ L →
  T + (x.length - i) < 900000 → N + (x.length - i) < 256 → Z + qy (x.drop i) + 700 ≤ 16777216 → L + pS (x.drop i) < 2 ^ 28 →
  Fin (bn.l0 x an a6 k all sy ab (i : Int) w.most (dB w.s0 w.m) (w.size : Int) w.st.1 w.st.2.1 w.st.2.2.1 w.st.2.2.2.1 w.st.2.2.2.2.1 w.st.2.2.2.2.2 false w.fs w.la a false)
 | 0, i, T, N, Z, L, a, sy, ab, all, w, h, _, _, _, _, _, _, _, _, _, _ => by omega
 | k + 1, i, T, N, Z, L, a, sy, ab, all, w, hk, hi, hw, ha, ⟨H, h, hr⟩, hao, hal, hT, hN, hZ, hL => by
  obtain ⟨a1, U, b1⟩ := Bm w.fs w.la a false hm ((i : Int) = a6)
  have U := U ha
  rw [bn.l0, b1]
  by_cases hlt : i < x.length
  ·have c1 : x.getD i kI ∈ x := by rw [gi hlt]; exact List.getElem_mem _
   have b2 := iP x kI hlt
   have b3 := hd _ c1
   have b4 : qy (x.drop i) = opZ (x.getD i kI) + qy (x.drop (i + 1)) := by rw [b2, tW]
   have c3 : pS (x.drop i) = (OpW.es (x.getD i kI)).length + 3 + pS (x.drop (i + 1)) := by rw [b2, tX]
   have b5 : x.getD (i : Int).toNat ((0 : Int), (0 : Int), false, (0 : Int), (0 : Int), (0 : Int), (0 : Int), (0 : Int), ([] : List (aV))) = x.getD i kI := by rw [Int.toNat_natCast]
   obtain ⟨o, eo⟩ : ∃ o, x.getD i kI = o := ⟨_, rfl⟩
   rw [eo] at b4 c3 b3 b5
   have d3 : x.length - i = (x.length - (i + 1)) + 1 := by omega
   have d4 := hw.top
   have c4 := hw.s1
   have d5 := hw.len
   have fin : ∀ (u : Wl) (a' sy' a7 : Int) (D : List FaT), WOk (T + 1) (N + 1) (Z + opZ o) (L + (OpW.es o).length + 3) u → AOk a' → (∃ H h, RI u H h D sy' a7) → oJ D → D.length ≤ L + (OpW.es o).length + 3 →
     Fin (bn.l0 x an a6 k D sy' a7 ((i + 1 : Nat) : Int) u.most (dB u.s0 u.m) (u.size : Int) u.st.1 u.st.2.1 u.st.2.2.1 u.st.2.2.2.1 u.st.2.2.2.2.1 u.st.2.2.2.2.2 false u.fs u.la a' false) := fun u a' sy' a7 D hu c6 a8 h1 h2 =>
    xM x hx hd an a6 hm k (i + 1) (T + 1) (N + 1) _ _ a' sy' a7 D u (by omega) (by omega) hu c6 a8 h1 h2 (by omega) (by omega) (by omega) (by omega)
   rw [if_pos (by omega), Option.bind_some]
   simp only []
   rw [show eY.f w.fs w.la a1 false = some false from rfl, Option.bind_some, if_neg Bool.false_ne_true, ws1 (by omega)]
   simp only [if_pos (show 0 ≤ (i : Int) ∧ (i : Int) < (x.length : Int) by omega)]
   simp only [b5]
   by_cases h0 : o.1 = 0
   ·rw [if_pos h0]
    have hz := zN w.st o.2.2
    have he : o.2.2.2.2.2.2.2.2 = OpW.es o := rfl
    rw [he] at hz
    unfold opZ at b4
    obtain ⟨r, r1, r2⟩ := zl hw (by omega) (by omega) (b := o.2.2) (by omega) (by omega) (by rw [he]; omega) b3 (by omega) U (k := k) (by rw [he]; omega)
    have X := CQ hw (by omega) (by omega) (b := o.2.2) (by rw [he]; omega) (by omega)
    rw [he] at X
    rw [xJ w.fs w.la a1 false w.most (dB w.s0 w.m) (w.size : Int) hw.st (by omega) (by omega), Option.bind_some, xL w.fs w.la a1 false w.most c4 (by omega) (w.size : Int) w.st (by omega), Option.bind_some, r1, Option.bind_some]
    simp only [show cu.f r.1 = some r.1 from rfl, Option.bind_some]
    have b8 := fun (J : jo w.st o.2.2 = 0) => B2 hw.st o.2.2 (oe J).2.1 (by rw [he]; omega) (k := k) (by rw [he]; omega)
    rcases r2 with ⟨a2, I, rfl⟩ | ⟨J, f1, f2, f3⟩
    ·unfold tpA
     simp only []
     by_cases J : jo w.st o.2.2 = 0
     ·have ea : qt w o.2.2 = jw w o.2.2 := by unfold qt; rw [if_pos J]
      obtain ⟨H', h', a8⟩ := CN hw (by omega) (by omega) (by omega) (by omega) hr J
      rw [ea] at X ⊢
      rw [if_pos J, if_pos J, xL _ _ a2 false _ X.s1 (by have := X.top; omega) _ _ (by have := X.top; omega), Option.bind_some, Option.bind_some, mL, mL]
      obtain ⟨sy', c8, b9⟩ : ∃ sy', (if decide (((w.m + 1 : Nat) : Int) < (((jw w o.2.2).m + 1 : Nat) : Int)) = true then some (all.length : Int) else some sy) = some sy' ∧ (if w.m < (jw w o.2.2).m then (all.length : Int) else sy) = sy' := by
       by_cases q : w.m < (jw w o.2.2).m
       ·rw [if_pos (by simp; omega), if_pos q]; exact ⟨_, rfl, rfl⟩
       ·rw [if_neg (by simp; omega), if_neg q]; exact ⟨_, rfl, rfl⟩
      rw [b9] at a8
      rw [c8]
      simp only [Option.bind_some]
      rw [if_pos trivial, b8 J, Option.bind_some, if_pos (by rw [List.length_map]; omega)]
      exact fin _ a2 sy' ab _ (lV X (by omega) (by omega) (by unfold opZ; omega) (by omega)) I ⟨H', h', a8⟩ (ui hw.st J hao) (by rw [List.length_append, List.length_map]; omega)
     ·have ea : qt w o.2.2 = w := by unfold qt; rw [if_neg J]
      rw [ea]
      rw [if_neg J, if_neg J, Option.bind_some, if_neg Bool.false_ne_true]
      simp only [Option.bind_some]
      rw [show eY.f w.fs w.la a2 false = some false from rfl, Option.bind_some, Option.bind_some, if_neg Bool.false_ne_true]
      exact fin w a2 sy ab all (lV hw (by omega) (by omega) (by omega) (by omega)) I ⟨H, h, hr⟩ hao (by omega)
    ·have sf := zI hw (by omega) (by omega) (by omega) (by omega) hr J f3
     obtain ⟨e, p⟩ := r
     simp only at f1 f2 f3 sf ⊢
     subst f1
     rw [if_neg (by decide), if_neg (by decide), Option.bind_some, if_neg Bool.false_ne_true]
     simp only [Option.bind_some]
     rw [show eY.f p.1 p.2.1 p.2.2.1 p.2.2.2.1 = some p.2.2.2.1 from rfl, f2, Option.bind_some, Option.bind_some, if_pos rfl, b8 J, Option.bind_some, if_pos (by rw [List.length_map]; omega), ← f2]
     exact rT hm f2 sf (ui hw.st J hao) (by rw [List.length_append, List.length_map]; omega) (by omega)
   ·rw [if_neg h0]
    by_cases h1 : o.1 = 1
    ·rw [if_pos h1]
     obtain ⟨r, r1, r2⟩ := B0 hw (by omega) U (k := k) (by omega)
     rw [r1, Option.bind_some, show cu.f r.1 = some r.1 from rfl, Option.bind_some]
     rcases r2 with ⟨a2, I, rfl⟩ | ⟨f1, f2, f3, f4⟩
     ·simp only []
      rw [if_pos trivial]
      exact fin (mM w) a2 (all.length : Int) ab all (lV (wb hw (by omega)) (by omega) (by omega) (by omega) (by omega)) I ⟨H, h, po (qV hw (by omega) hr)⟩ hao (by omega)
     ·have sf := nS hw (by omega) hr w.la
      rw [← f3, ← f4] at sf
      rw [if_neg (by rw [f1]; decide)]
      exact rT (w := (r.2.1, r.2.2.1, r.2.2.2.1, r.2.2.2.2.1, r.2.2.2.2.2.1, dB w.s0 w.m, r.2.2.2.2.2.2.1, r.2.2.2.2.2.2.2.1, r.2.2.2.2.2.2.2.2.1, r.2.2.2.2.2.2.2.2.2.1, r.2.2.2.2.2.2.2.2.2.2.1, r.2.2.2.2.2.2.2.2.2.2.2.1, w.st.2.2.2.2.2, r.2.2.2.2.2.2.2.2.2.2.2.2)) hm f2 sf hao (by omega) (by omega)
    ·rw [if_neg h1]
     by_cases h2 : o.1 = 2
     ·rw [if_pos h2]
      obtain ⟨v, r, r1, v2, r2⟩ := yE (P := fun u => ∃ H h, Ful u H h all (max ab o.2.1)) hw (by omega) (by omega) o.2.1 (fun u hu hm hn ⟨H, h, f⟩ => ⟨H, h, AK hu (by omega) hm hn (by omega) f⟩) U (k := k) (by omega)
      have hs : ∃ H h, Ful (mM w) H h all (max ab o.2.1) := ⟨H, h, AL (qV hw (by omega) hr) (by omega)⟩
      have hv := lV v2 (show T ≤ T + 1 by omega) (show N ≤ N + 1 by omega) (show Z ≤ Z + opZ o by omega) (show L ≤ L + (OpW.es o).length + 3 by omega)
      rw [r1, Option.bind_some]
      simp only [show cu.f r.2.1 = some r.2.1 from rfl, Option.bind_some]
      rcases r2 with ⟨rfl, f1, a2, I, f2⟩ | ⟨f1, a2, I, f2⟩ | ⟨f1, f2, f3, f4, f5⟩
      ·rw [f1, f2, if_neg (by decide), if_neg (by decide)]
       simp only [Option.bind_some]
       rw [show eY.f (tpA v a2).1 (tpA v a2).2.1 (tpA v a2).2.2.1 (tpA v a2).2.2.2.1 = some false from rfl, Option.bind_some, Option.bind_some, if_neg Bool.false_ne_true]
       exact fin v a2 sy ab all hv I ⟨H, h, hr⟩ hao (by omega)
      ·obtain ⟨H', h', f⟩ := f1 hs
       rw [f2, if_pos rfl, if_pos rfl]
       simp only [Option.bind_some]
       rw [if_pos trivial]
       exact fin v a2 _ _ all hv I ⟨H', h', po f⟩ hao (by omega)
      ·have sf : pV v.fs v.la all sy (max ab o.2.1) := by
        rcases f1 with rfl | f1
        ·exact nS hw (by omega) (qW hr (Int.le_refl _) (by omega)) _
        ·obtain ⟨H', h', f⟩ := f1 hs
         exact nS v2 (by omega) (qW (po f) (Bl hr) (Int.le_refl _)) _
       rw [← f4, ← f5] at sf
       rw [if_neg (by rw [f2]; decide), if_neg (by rw [f2]; decide)]
       simp only [Option.bind_some]
       rw [show eY.f r.2.2.1 r.2.2.2.1 r.2.2.2.2.1 r.2.2.2.2.2.1 = some r.2.2.2.2.2.1 from rfl, Option.bind_some, Option.bind_some, if_pos f3]
       exact rT hm f3 sf hao (by omega) (by omega)
     ·rw [if_neg h2]
      exact fin w a1 sy ab all (lV hw (by omega) (by omega) (by omega) (by omega)) U ⟨H, h, hr⟩ hao (by omega)
  ·rw [if_neg (by omega)]
   exact ⟨_, _, _, _, _, _, _, rfl, nS hw (by omega) hr _, hao, by omega⟩
theorem rJ {Q : OpW → Prop} {B : Nat} (x : Int) (hx : (Lit.int .i64 x).wf = true) (l : List OpW) (h : l.length * B ≤ reachBytes ∧ ∀ e ∈ l, Q e) (a : Int) (ha : (Lit.int .i64 a).wf = true) (b : Int) (hb : (Lit.int .i64 b).wf = true) (c : Int) (hc : (Lit.int .i64 c).wf = true) (hu : Mu.mu l ≤ 1048576) :
  ∃ k, bn.f k x l a b c = some true := by
 have a7 := xx l
 have hd : ∀ o, o ∈ l → ∀ e, e ∈ OpW.es o → e.2.2.2.length < 2 ^ 40 := fun o I e he => by
  have h1 := tY he
  have u := rM (f := fun o => kg (OpW.es o)) I
  try simp only at u
  omega
 have J : ∀ o, o ∈ l → (OpW.es o).length < 2 ^ 40 := fun o I => by
  have u := rM (f := fun o => (OpW.es o).length) I
  try simp only at u
  omega
 have hm : a ≤ 9223372036854775807 := by
  simp [Lit.wf] at ha
  omega
 obtain ⟨k, D⟩ : ∃ k, k = 3000000000 + 100 := ⟨_, rfl⟩
 have U : iC.f k = some true := by rw [D]; exact yB 3000000000
 refine ⟨k, ?_⟩
 have be : 3000000000 ≤ k := by omega
 clear D
 obtain ⟨y, hy, X⟩ := BF l (by omega) hd J (k := k) (by omega)
 unfold bn.f
 rw [U, Option.bind_some, hy, Option.bind_some]
 by_cases hg : ((((!true) || (!y)) || (decide (x < (64 : Int)))) || (decide ((1048576 : Int) < x))) = true
 ·rw [if_pos hg]
 ·rw [if_neg hg]
  simp only [Bool.not_true, Bool.false_or, Bool.or_eq_true, Bool.not_eq_true', decide_eq_true_eq] at hg
  have ad : y = true := by
   cases y with
   | true => rfl
   | false => exact absurd (.inl (.inl rfl)) hg
  obtain ⟨s1, s2⟩ := X ad
  have oa := CR (fs := []) (N := 0) (Z := 0) vT (by simp) (by omega) (by simp [szF]) (by omega) tZ yC [] (most := x) (by omega) (by omega) (k := k) (by omega)
  have wa := AM (fs := []) (N := 0) (Z := 0) vT (by simp) (by omega) (by simp [szF]) (by omega) tZ x
  rw [show kY.f = some (([] : FSt), ([] : List UInt8), (0 : Int), false) from rfl]
  simp only [Option.bind_some]
  rw [oa]
  simp only [Option.bind_some, if_true]
  have sa : Ful (jf [] x) (fun n => ct n st0) (fun _ => []) [] 0 := ⟨Dr x, fun n h1 u => by
   have e : n = 1 := by
    have h1 : 1 ≤ n := h1
    have u : n ≤ 1 + 0 := u
    omega
   subst e
   show syF (jT _ _ _) 1
   unfold syF
   rw [mQ, if_pos rfl], ⟨⟨rfl, rfl, rfl⟩, rfl, rfl, fun x h1 u h3 h4 => by
    have h4 : x ≤ 0 + ((0 : Nat) : Int) := h4
    omega, Int.le_max_left _ _⟩, Nat.le_refl _⟩
  have ra := po sa
  obtain ⟨v, ev⟩ : ∃ v, jf [] x = v := ⟨_, rfl⟩
  rw [ev] at wa ra ⊢
  have b2 := xy l
  have b3 := xz l
  obtain ⟨all, sy, ab, fs, la, a', d, v1, v2, v3, v4⟩ := xM l (by omega) hd a b hm k 0 1 (0 + 1) (0 + 128) 0 0 0 0 [] v (by rw [List.drop_zero]; omega) (by omega) wa ⟨by decide, by decide⟩ ⟨_, _, ra⟩ (fun f U => by cases U) (Nat.le_refl _) (by omega) (by omega) (by rw [List.drop_zero]; omega) (by rw [List.drop_zero]; omega)
  rw [show cu.f (0 : Int) = some 0 from rfl, Option.bind_some, if_pos rfl, show bn.l0 l a b k [] 0 0 0 v.tp.2.2.2.2.1 v.tp.2.2.2.2.2.1 v.tp.2.2.2.2.2.2.1 v.tp.2.2.2.2.2.2.2.1 v.tp.2.2.2.2.2.2.2.2.1 v.tp.2.2.2.2.2.2.2.2.2.1 v.tp.2.2.2.2.2.2.2.2.2.2.1 v.tp.2.2.2.2.2.2.2.2.2.2.2.1 v.tp.2.2.2.2.2.2.2.2.2.2.2.2.1 v.tp.2.2.2.2.2.2.2.2.2.2.2.2.2 v.tp.1 v.tp.2.1 v.tp.2.2.1 v.tp.2.2.2.1 = _ from v1, Option.bind_some]
  simp only []
  obtain ⟨sg, sz, b6, q, P, i, o1, o2, o3, o4, o5, o6⟩ := v2.2 c x k (by omega) (by omega) (by omega)
  rw [AC v2.1, Option.bind_some]
  simp only []
  rw [o1, Option.bind_some]
  simp only [if_true, show cu.f (0 : Int) = some 0 from rfl, Option.bind_some]
  rw [xJ q.1 q.2.1 q.2.2.1 q.2.2.2 x sg sz o2 o3 (by omega), Option.bind_some]
  have hl := xH v3 v4 o2 o3 o4 o5 o6 (fs, la, a', d) i 0 k (by omega) (by omega)
  rw [show bn.l1 (all, sy, ab, fs, la, a', d) (P.1, P.2.1, P.2.2.1, P.2.2.2.1, P.2.2.2.2.1, P.2.2.2.2.2.map kJ) k 0 0 0 0 0 [] [] = _ from hl]
  rfl
end Go.Proofs.YtndjkejhacfpdaaGreatDoor

namespace Go.Proofs.YtndjkejhacfpdaaGreatDoor
open Go.RowKit Go.ChangeShapes Go.WideShapes Go.ChangeAt
def yJ (P : Program) (w : World) (n : String) (d : DataW Unit) : Prop :=
 ∃ g t cs u p, P.globalNamed n = some g ∧ (P.globals[g]?).map (·.type) = some t ∧ w.var? P n = some cs ∧ DataW.trod (fun _ => ()) P w 0 (fun _ => true) false u t cs.toList = some (d, p)
theorem wn {P : Program} {w : World} : ∀ {l : List (String × DataW Unit)} {ps : List MemPlace}, DataW.LaidVars P w l ps → ∀ n d, (n, d) ∈ l → yJ P w n d
 | [], _, _, _, _, hm => by cases hm
 | (n', d') :: r, ps, h, n, d, hm => by
  obtain ⟨g, t, cs, u, p, q, h1, D, I, J, U, _⟩ := h
  rcases List.mem_cons.1 hm with e | e
  ·cases e
   exact ⟨g, t, cs, u, p, h1, D, I, J⟩
  ·exact wn U n d e
theorem yv {P : Program} {w : World} {l : List (String × DataW Unit)} (h : laidMet P l w) {n : String} {d : DataW Unit} (u : (n, d) ∈ l) : yJ P w n d :=
 let ⟨_, hv, _⟩ := h
 wn hv n d u
theorem CD {P : Program} {W : World} {u : String} {k : IntKind} {zs : List Int} {g : Nat} {t e : TypeId} {n : Nat} (hg : P.globalNamed u = some g) (I : (P.globals[g]?).map (·.type) = some t)
  (ht : P.underlying t = some (.array n e)) (he : P.underlying e = some (.int k)) (J : P.cellsOf e = 1) (U : P.cellsOf t = n) (h : yJ P W u (Lib.tabData k zs)) : Lib.TabIs P W u k zs := by
 obtain ⟨g', t', cs, af, p, X, ab, D, hd⟩ := h
 obtain rfl := Option.some.inj (hg.symm.trans X)
 obtain rfl := Option.some.inj (I.symm.trans ab)
 unfold Lib.TabIs
 rw [D, ← Lib.cells_of_tab ht he J U hd]
theorem rU {P : Program} {W w : World} {n : String} {cs : Array Value} (h : nt (lA W) w) (u : W.var? P n = some cs) : w.var? P n = some cs := by
 obtain ⟨a, I, e⟩ := h
 unfold World.var? at u ⊢
 cases hg : P.globalNamed n with
 | none => rw [hg] at u; cases u
 | some g =>
  rw [hg] at u
  simp only [Option.bind_some] at u ⊢
  cases ho : W.heap[g]? with
  | none => rw [ho] at u; cases u
  | some o =>
   have D : g < W.heap.size := (Array.getElem?_eq_some_iff.1 ho).1
   have h1 : w.heap[g]? = some o := e g o ((I g D).trans ho)
   rw [ho] at u
   rw [h1]
   exact u
theorem CC {P : Program} {W : World} (h1 : Lib.TabIs P W "internal/strconv.uint64pow10" .u64 Lib.pow10Tab) (D : (P.globalNamed "strconv.ErrSyntax").isSome = true → ∃ u p, W.var? P "strconv.ErrSyntax" = some #[.iface u p]) (I : (P.globalNamed "strconv.ErrRange").isSome = true → ∃ u p, W.var? P "strconv.ErrRange" = some #[.iface u p]) :
  Glb P (lA W) :=
 ⟨fun w h => rU h h1, fun e w h => let ⟨u, p, e⟩ := D e; ⟨u, p, rU h e⟩, fun e w h => let ⟨u, p, e⟩ := I e; ⟨u, p, rU h e⟩⟩
theorem vE {H : Type} {enc : TypeId × Value → H} {C : Checked} {os : Os} {f : FuncId} {fn : Func} {s : OpenSpec} {u : List PathCond} {qH : Bool} {D : List (String × DataW Unit)} (I : World) (args : Array Value) (X : I.os = os)
  (ab : (I.forCall (fun _ _ => 0) ⟨#[], args, []⟩).Shaped C.prog)
  (J : Input.okWideB C.prog (I.forCall (fun _ _ => 0) ⟨#[], args, []⟩) f ⟨#[], args, []⟩ = true)
  (U : s.preRow enc C.prog fn u qH D (I.forCall (fun _ _ => 0) ⟨#[], args, []⟩).memory args) :
  ∃ (w : World) (tape : Tape) (i : Input), w.os = os ∧ (w.forCall tape i).Shaped C.prog ∧ i.vars = [] ∧ Input.okWide C.prog (w.forCall tape i) .any w.heap.size f i ∧
   s.preRow enc C.prog fn u qH D (w.forCall tape i).memory i.args ∧ ({} : Assume).holds C.prog (lone (Frame.enter C.prog f i.args .normal) [] (w.forCall tape i)) :=
 ⟨I, fun _ _ => 0, ⟨#[], args, []⟩, X, ab, (Input.okWide_of_okWideB (base := 0) J).1, (Input.okWide_of_okWideB J).2, U, by
  simp only [Assume.holds]
  exact ⟨by simp, by simp, fun _ => Modest.zero, by simp, by simp⟩⟩
end Go.Proofs.YtndjkejhacfpdaaGreatDoor

namespace Go.Proofs.YtndjkejhacfpdaaGreatDoor.walRecovers
open Go.RowKit Go.ChangeShapes Go.WideShapes Go.ChangeAt
open Go.ChangeMaps (open_string shut_string)
theorem own : ownKnob Tryz.prog.godebug = none := by kernel_rfl
theorem laidOut : laidOutB Tryz.prog = true := by kernel_rfl
theorem glb {W : World} (u : laidMetH Tryz.prog Rows.walRecoversUptoRow.laid W) : Glb Tryz.prog (lA W) := by
 rw [MakeChecks.laidMetH_plain _ _ _ (by kernel_rfl)] at u
 exact CC (CD (g := 0) (t := 198) (e := 174) (by kernel_rfl) (by kernel_rfl) Tryz.underlying198 Tryz.underlying174 (by kernel_rfl) (by kernel_rfl) (yv u (n := "internal/strconv.uint64pow10") (d := Rows.laid_internal_strconv_uint64pow10) (.tail _ (.tail _ (.head _))))) (fun h => by rw [show (Tryz.prog.globalNamed "strconv.ErrSyntax").isSome = false by kernel_rfl] at h; cases h) (fun h => by rw [show (Tryz.prog.globalNamed "strconv.ErrRange").isSome = false by kernel_rfl] at h; cases h)
theorem laid_met (os : Os) (args : Array Value) : laidMetH Tryz.prog Rows.walRecoversUptoRow.laid ((World.laidAll Tryz.prog os Rows.walRecoversUptoRow.laid).forCall (fun _ _ => 0) ⟨#[], args, []⟩).memory := by
 rw [MakeChecks.laidMetH_plain _ _ _ (by kernel_rfl)]
 exact laidMet_laidAll args (by kernel_rfl) (by kernel_rfl)
theorem opensT35 {H : Type} (W : World) (u : Bool) (enc : TypeId × Value → H) : jl enc Tryz.prog W u 35 (V35 (lA W)) Cr :=
 (lM Tryz.underlying35 (by kernel_rfl) (by kernel_rfl) (by kernel_rfl) (gA (jd Tryz.underlying3 (by kernel_rfl)) (gA (jd Tryz.underlying3 (by kernel_rfl)) (gA (jd Tryz.underlying3 (by kernel_rfl)) (mV (uZ Tryz.underlying33 Tryz.underlying5 (by kernel_rfl) (by kernel_rfl) (by kernel_rfl))))))).mono (fun x r h => by obtain ⟨_, _, rfl, rfl, ⟨_, _, rfl, rfl, ⟨_, _, rfl, rfl, ⟨a3, D, rfl, I, J, U⟩⟩⟩⟩ := h; exact ⟨a3, D, rfl, ⟨I, J, U⟩⟩) (fun x h => h)
theorem opensT56 {H : Type} (W : World) (u : Bool) (enc : TypeId × Value → H) : jl enc Tryz.prog W u 56 (V56 (lA W)) Dl :=
 jl.map (fun x => (x.1, x.2.1, x.2.2.1, x.2.2.2.1.1, x.2.2.2.1.2.1, x.2.2.2.1.2.2, x.2.2.2.2.1, x.2.2.2.2.2.1, x.2.2.2.2.2.2)) (lM Tryz.underlying56 (by kernel_rfl) (by kernel_rfl) (by kernel_rfl) (gA (jd Tryz.underlying3 (by kernel_rfl)) (gA (jd Tryz.underlying3 (by kernel_rfl)) (mV (lM Tryz.underlying45 (by kernel_rfl) (by kernel_rfl) (by kernel_rfl) (gA (wF Tryz.underlying4 (by kernel_rfl)) (gA (lM Tryz.underlying43 (by kernel_rfl) (by kernel_rfl) (by kernel_rfl) (gA (jd Tryz.underlying3 (by kernel_rfl)) (gA (jd Tryz.underlying3 (by kernel_rfl)) (mV (jd Tryz.underlying3 (by kernel_rfl)))))) (gA (jd Tryz.underlying3 (by kernel_rfl)) (gA (jd Tryz.underlying3 (by kernel_rfl)) (mV (qZ (n := 4) (B := 48) Tryz.underlying32 (by kernel_rfl) (by kernel_rfl) (by kernel_rfl) (opensT35 W u enc)))))))))))) (fun x r h => by obtain ⟨_, _, rfl, rfl, ⟨_, _, rfl, rfl, ⟨_, _, rfl, rfl, ⟨_, _, rfl, ⟨_, _, rfl, rfl, ⟨_, _, rfl, rfl, rfl⟩⟩, ⟨_, _, rfl, rfl, ⟨_, _, rfl, rfl, ⟨a8, c8, rfl, h8, k8, m8⟩⟩⟩⟩⟩⟩⟩ := h; exact ⟨a8, c8, rfl, ⟨h8, k8, m8⟩⟩) (fun x h => by obtain ⟨D, I, ⟨o2, ⟨J, U, X⟩, o6, o7, o8⟩⟩ := h; exact ⟨D, I, o2, J, U, X, o6, o7, o8⟩) (fun x => by obtain ⟨D, I, ⟨o2, ⟨J, U, X⟩, o6, o7, o8⟩⟩ := x; simp only [jH, Nat.add_assoc])
set_option maxRecDepth 100000 in
theorem lifted (os : Os) (I : os.Started) (H : Type) (enc : TypeId × Value → H) (F : Stop.Interp) :
  ReturnsInHanded {} Tryz.checked os 8 .any ((Rows.OpenSpec.upto Rows.walRecoversSpec).preRow enc Tryz.prog Tryz.f8 Rows.walRecoversUptoRow.domain false Rows.walRecoversUptoRow.laid) (((Rows.OpenSpec.upto Rows.walRecoversSpec).at F).post enc Tryz.prog Tryz.f8 false true false false) := by
 refine returnsInHanded_of_row (C := Tryz.checked) (s := (Rows.OpenSpec.upto Rows.walRecoversSpec)) own I (by kernel_rfl) Tryz.func8
  (vE (enc := enc) (C := Tryz.checked) (World.laidAll Tryz.prog os Rows.walRecoversUptoRow.laid) #[.int .i64 0, .slice none 0 0, .int .i64 0, .int .i64 0, .int .i64 0] (World.laidAll_os _ _ _) (World.shaped_of_ZipB (by kernel_rfl) (by kernel_rfl)) (by kernel_rfl)
   (OpenSpec.preRow_of_cond 8 (x := ([.lit (.int .i64 0), .nil, .lit (.int .i64 0), .lit (.int .i64 0), .lit (.int .i64 0)], [], [])) (by kernel_rfl) (by kernel_rfl) (fun k hk => by cases hk; kernel_rfl) (by kernel_rfl) (laid_met os _))) ?_
 intro W base args ds gs b0 J hW c1 ab U hL _ _
 have b2 := glb hL
 have b3 := ab _ rfl
 have X : (DataW.weightsEach Tryz.prog (Tryz.f8.params.toList ++ (Rows.OpenSpec.upto Rows.walRecoversSpec).bare.plain.varTypes Tryz.prog) (ds ++ gs)).all (· ≤ reachBytes) = true := U
 have u : ∀ (j : Nat) t v, Tryz.f8.params[j]? = some t → args[j]? = some v → Value.okWide Tryz.prog W .any base t v := J
 have b4 := hW
 obtain ⟨p, q, ad, hV, rfl, d7, d8⟩ := hW
 have hA : DataW.TrodAll enc Tryz.prog W 0 (fun _ => true) true Tryz.f8.params.toList args.toList ds p := ad
 rw [Tryz.params8] at hA u X
 obtain ⟨v0, d9, d0, ea, p0, q0, b5, rfl, rfl, h0, r0⟩ := trodAll_cons hA
 obtain ⟨v1, ed, d1, ef, p1, q1, rfl, rfl, rfl, h1, r1⟩ := trodAll_cons r0
 obtain ⟨v2, el, d2, em, p2, q2, rfl, rfl, rfl, h2, r2⟩ := trodAll_cons r1
 obtain ⟨v3, ex, d3, eA, p3, q3, rfl, rfl, rfl, h3, r3⟩ := trodAll_cons r2
 obtain ⟨v4, eF, d4, e0, p4, q4, rfl, rfl, rfl, h4, r4⟩ := trodAll_cons r3
 obtain ⟨rfl, rfl, rfl⟩ := trodAll_nil r4
 obtain rfl : args = #[v0, v1, v2, v3, v4] := by cases args; simp_all
 obtain ⟨rfl, rfl⟩ := trodVars_none hV
 obtain ⟨a0, rfl, rfl, rfl, w0⟩ := open_int Tryz.underlying3 (u 0 3 v0 rfl rfl) h0
 obtain ⟨b6, af, al, rfl⟩ := okWide_slice Tryz.underlying51 (u 1 51 v1 rfl rfl)
 have k1 := h1
 have b7 : ∀ x ∈ p1, x.block < W.heap.size := by obtain ⟨m, hm⟩ := k1; exact DataW.trod_lt m _ _ _ hm
 obtain ⟨b8, b9⟩ := h1
 obtain ⟨D, ⟨an, a1, a6, a7, a8, bc⟩, _, _, cd, be⟩ := (qZ (n := 9) (B := 88) Tryz.underlying51 (by kernel_rfl) (by kernel_rfl) (by kernel_rfl) (opensT56 W true enc)) _ _ _ b9 (yw X (j := 1) (t := 51) rfl rfl)
 replace be : _ ≤ Rows.uptoBulk d1 := be
 have e1 : Value.slice b6 af al = .slice an D.length a1 := by simpa [Value.cells] using a6
 injection e1 with ea1 eb1 ec1
 subst ea1 eb1 ec1
 obtain ⟨a2, rfl, rfl, rfl, w2⟩ := open_int Tryz.underlying3 (u 2 3 v2 rfl rfl) h2
 obtain ⟨a3, rfl, rfl, rfl, w3⟩ := open_int Tryz.underlying3 (u 3 3 v3 rfl rfl) h3
 obtain ⟨a4, rfl, rfl, rfl, w4⟩ := open_int Tryz.underlying3 (u 4 3 v4 rfl rfl) h4
 have ch : Rows.uptoBulkAll [_, _, _, _, _] ≤ 1048576 := of_decide_eq_true b3
 simp only [Rows.uptoBulkAll] at ch
 have hu : Mu.mu D ≤ 1048576 := by omega
 clear ad J U X
 obtain ⟨k, hk⟩ := rJ a0 w0 D cd a2 w2 a3 w3 a4 w4 hu
 refine (zn (bn.calls W (lA W) k a0 _ _ D a2 a3 a4 a7 a8 bc b2) hk (fun _ => rfl)).mono fun e W' ⟨he, br⟩ => ?_
 subst he
 exact ⟨_, rfl, _, _, _, [], _, [], b4, trodAll_mk1 (shut_bool Tryz.underlying4 _), (trodAll_cons_mk (shut_int Tryz.underlying3 w0) (trodAll_cons_mk (Below.trod laidOut (by kernel_rfl) (of_decide_eq_true (by kernel_rfl)) k1 br b7) (trodAll_cons_mk (shut_int Tryz.underlying3 w2) (trodAll_cons_mk (shut_int Tryz.underlying3 w3) (trodAll_cons_mk (shut_int Tryz.underlying3 w4) trodAll_mk0))))), rfl, br.frame _, fun h => by cases h⟩
theorem said : Rows.WalRecoversUptoSaid :=
 OpenClaim.holds_of_cond 8 Tryz.f8 rfl rfl rfl rfl rfl rfl rfl ⟨rfl, rfl, rfl, rfl, rfl⟩ rfl rfl rfl rfl rfl (by kernel_rfl) Tryz.func8 (by kernel_rfl)
  (of_decide_eq_true (by kernel_rfl)) (by unfold Func.isWrapper; first | (rw [if_pos (by decide +kernel)]; kernel_rfl) | (rw [if_neg (by decide +kernel)]; exact ⟨rfl, rfl⟩))
  (fun os u H enc _ F => by rw [OpenClaim.pre_eq_preRow]; exact lifted os u H enc F)
theorem plain (f : FuncId) (fn : Func) (U : Tryz.pinned.checked.prog.funcNamed "synod/synodlaw5.WalRecovers" = some f) (I : Tryz.pinned.checked.prog.funcs[f]? = some fn) :
  true = Tryz.pinned.checked.prog.looks [] ∧ ∀ (j : Nat) t, fn.params[j]? = some t → Tryz.pinned.checked.prog.wantsStandIn t = false := by
 obtain rfl : f = 8 := Option.some.inj ((show Tryz.prog.funcNamed "synod/synodlaw5.WalRecovers" = some 8 by kernel_rfl).symm.trans U) |>.symm
 obtain rfl : fn = Tryz.f8 := (Option.some.inj (Tryz.func8.symm.trans I)).symm
 refine ⟨by kernel_rfl, fun j t J => ?_⟩
 rw [Tryz.params8] at J
 have X : t ∈ [3, 51, 3, 3, 3] := by simpa using Array.mem_of_getElem? J
 have D : ([3, 51, 3, 3, 3].all fun u => !Tryz.prog.wantsStandIn u) = true := by kernel_rfl
 exact (show Tryz.prog.wantsStandIn t = false by simpa using List.all_eq_true.1 D t X)
theorem card : Rows.WalRecoversUptoCardSaid :=
 Claim7.holds_tied_plain_at .later [] _ _ _ _ said (fun _ h => by cases h) (by kernel_rfl) (fun _ h => by cases h) walRecoversUpto_row_tie rfl ⟨rfl, rfl⟩ (by kernel_rfl) rfl plain (by kernel_rfl)
end Go.Proofs.YtndjkejhacfpdaaGreatDoor.walRecovers
namespace Go.Proofs.YtndjkejhacfpdaaGreatDoor
/-- The card, under a short name, for the claim. -/
theorem walRecovers_holds : Rows.WalRecoversUptoCardSaid := walRecovers.card
end Go.Proofs.YtndjkejhacfpdaaGreatDoor

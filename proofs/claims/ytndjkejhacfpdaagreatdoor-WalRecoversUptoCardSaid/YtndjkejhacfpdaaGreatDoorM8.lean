/- Texts that lead to the law WalRecovers: PlWl4, PlWl5, PlWl6, PlWl7, PlWl8, PlWl9, PlWlL, PlWlA, PlWlC, PlWlO, PlWlR1, PlWlR2, PlWlR3, PlWlR4, PlWlR5, PlWlR6, PlWlR7, PlWlR8. Conditions: as each says. -/
import Derived.Test.YtndjkejhacfpdaaGreatDoorM7
set_option linter.unusedVariables false
set_option linter.unusedSimpArgs false
set_option linter.unusedSectionVars false
namespace Go.Proofs.YtndjkejhacfpdaaGreatDoor
open Go.RowKit
/-! ### The records of a batch -/
def dZ (e : EnT) : bx := (2, 0, 0, 0, 0, 0, 0, e.1, e.2.1, e.2.2.1, e.2.2.2)
def gp (s : St) (b : BaT) : List bx :=
 (if b.1 = true ∧ (b.2.1 ≠ s.1 ∨ b.2.2.1 ≠ s.2.1) then [(1, 0, b.2.1, b.2.2.1, s.2.2.1, 0, 0, 0, 0, 0, [])] else []) ++ (if jt s b = true then [(3, 0, 0, 0, 0, b.2.2.2.2.1, b.2.2.2.2.2.1, 0, 0, 0, [])] else []) ++
  b.2.2.2.2.2.2.map dZ ++ (if b.1 = true ∧ b.2.2.2.1 ≠ s.2.2.1 then [(1, 0, b.2.1, b.2.2.1, b.2.2.2.1, 0, 0, 0, 0, 0, [])] else [])
theorem wC {x : List UInt8} (h : x.length < 2 ^ 40) : dD.f x = some x := by
 unfold dD.f
 rw [if_pos (by simp; omega)]
 simp
theorem sP (l : List EnT) (u : l.length < 2 ^ 30) (hd : ∀ e, e ∈ l → e.2.2.2.length < 2 ^ 40) : ∀ (k i : Nat) (acc : List bx), l.length - i < k → i ≤ l.length → acc.length ≤ i + 10 → cZ.l0 l k acc (i : Int) = some (acc ++ (l.drop i).map dZ)
 | 0, i, acc, h, _, _ => by omega
 | k + 1, i, acc, h, hi, ha => by
  rw [cZ.l0]
  by_cases hlt : i < l.length
  ·have D : l.getD i bh ∈ l := by rw [gi hlt]; exact List.getElem_mem _
   rw [if_pos (by omega), if_pos (by omega), Int.toNat_natCast, wC (hd _ D), Option.bind_some, if_pos (by simp only [List.length_cons, List.length_nil]; omega), ws1 (by omega), sP l u hd k (i + 1) _ (by omega) (by omega) (by simp; omega), iP l bh hlt]
   simp [dZ]
  ·rw [if_neg (by omega), List.drop_of_length_le (by omega)]; simp
theorem zk (fs : FSt) (la : List UInt8) (a : Int) (d : Bool) (most : Int) (sg : List Int) (sz : Int) {s : St} (h : dw s) (I : Bool) (b : BaT) (hi : okN b.2.2.2.2.1) (hl : b.2.2.2.2.2.2.length < 2 ^ 30) (hd : ∀ e, e ∈ b.2.2.2.2.2.2 → e.2.2.2.length < 2 ^ 40) {k : Nat} (hk : b.2.2.2.2.2.2.length < k) :
  cZ.f k fs la a d most sg sz s.1 s.2.1 s.2.2.1 s.2.2.2.1 s.2.2.2.2.1 s.2.2.2.2.2 I b.1 b.2.1 b.2.2.1 b.2.2.2.1 b.2.2.2.2.1 b.2.2.2.2.2.1 b.2.2.2.2.2.2 = some (gp s b) := by
 unfold cZ.f gp
 have h1 : ((if b.1 = true then (some ((!decide (b.2.1 = s.1)) || (!decide (b.2.2.1 = s.2.1)))) else (some false)).bind fun J => (if J = true then (if ([((1 : Int), (0 : Int), b.2.1, b.2.2.1, s.2.2.1, (0 : Int), (0 : Int), (0 : Int), (0 : Int), (0 : Int), ([] : List UInt8))] : List bx).length * 104 ≤ 140737488355328 then (some ([((1 : Int), (0 : Int), b.2.1, b.2.2.1, s.2.2.1, (0 : Int), (0 : Int), (0 : Int), (0 : Int), (0 : Int), ([] : List UInt8))] : List bx)) else none) else (some ([] : List bx)))) = some (if b.1 = true ∧ (b.2.1 ≠ s.1 ∨ b.2.2.1 ≠ s.2.1) then [(1, 0, b.2.1, b.2.2.1, s.2.2.1, 0, 0, 0, 0, 0, [])] else []) := by
  rw [if_pos (c := ([((1 : Int), (0 : Int), b.2.1, b.2.2.1, s.2.2.1, (0 : Int), (0 : Int), (0 : Int), (0 : Int), (0 : Int), ([] : List UInt8))] : List bx).length * 104 ≤ 140737488355328) (by simp)]
  cases hb : b.1 with
  | false => simp
  | true => by_cases x : b.2.1 = s.1 <;> by_cases y : b.2.2.1 = s.2.1 <;> simp [x, y]
 rw [h1, Option.bind_some]
 obtain ⟨u, X⟩ : ∃ r : List bx, (if b.1 = true ∧ (b.2.1 ≠ s.1 ∨ b.2.2.1 ≠ s.2.1) then [(1, 0, b.2.1, b.2.2.1, s.2.2.1, 0, 0, 0, 0, 0, [])] else []) = r := ⟨_, rfl⟩
 have l1 : u.length ≤ 1 := by rw [← X]; split <;> simp
 rw [X]
 have h2 : ((if ((!decide (b.2.2.2.2.1 = (0 : Int))) == true) = true then (fa.f fs la a d most sg sz s.1 s.2.1 s.2.2.1 s.2.2.2.1 s.2.2.2.2.1 s.2.2.2.2.2 I b.2.2.2.2.1 b.2.2.2.2.2.1) else some false).bind fun D => (if ((!decide (b.2.2.2.2.1 = (0 : Int))) && (!D)) = true then (if (u.length + ([((3 : Int), (0 : Int), (0 : Int), (0 : Int), (0 : Int), b.2.2.2.2.1, b.2.2.2.2.2.1, (0 : Int), (0 : Int), (0 : Int), ([] : List UInt8))] : List bx).length) * 104 ≤ 140737488355328 then (some (u ++ ([((3 : Int), (0 : Int), (0 : Int), (0 : Int), (0 : Int), b.2.2.2.2.1, b.2.2.2.2.2.1, (0 : Int), (0 : Int), (0 : Int), ([] : List UInt8))] : List bx))) else none) else (some u))) = some (u ++ (if jt s b = true then [(3, 0, 0, 0, 0, b.2.2.2.2.1, b.2.2.2.2.2.1, 0, 0, 0, [])] else [])) := by
  rw [if_pos (c := (u.length + ([((3 : Int), (0 : Int), (0 : Int), (0 : Int), (0 : Int), b.2.2.2.2.1, b.2.2.2.2.2.1, (0 : Int), (0 : Int), (0 : Int), ([] : List UInt8))] : List bx).length) * 104 ≤ 140737488355328) (by simp only [List.length_cons, List.length_nil]; omega), uB fs la a d most sg sz h I hi]
  unfold jt
  by_cases x : b.2.2.2.2.1 = 0
  ·simp [x]
  ·cases iq s b.2.2.2.2.1 b.2.2.2.2.2.1 <;> simp [x]
 rw [h2, Option.bind_some]
 obtain ⟨U, e2⟩ : ∃ r : List bx, (if jt s b = true then [(3, 0, 0, 0, 0, b.2.2.2.2.1, b.2.2.2.2.2.1, 0, 0, 0, [])] else []) = r := ⟨_, rfl⟩
 have l2 : U.length ≤ 1 := by rw [← e2]; split <;> simp
 rw [e2]
 have h3 := sP b.2.2.2.2.2.2 hl hd k 0 (u ++ U) (by omega) (by omega) (by simp; omega)
 rw [List.drop_zero, show ((0 : Nat) : Int) = (0 : Int) from rfl] at h3
 rw [h3, Option.bind_some]
 have a1 : (u ++ U ++ b.2.2.2.2.2.2.map dZ).length < 2 ^ 31 := by simp; omega
 have hc : ((b.1 && (!decide (b.2.2.2.1 = s.2.2.1))) = true) ↔ (b.1 = true ∧ b.2.2.2.1 ≠ s.2.2.1) := by simp
 by_cases x : b.1 = true ∧ b.2.2.2.1 ≠ s.2.2.1
 ·rw [if_pos (hc.2 x), if_pos x, if_pos (by simp only [List.length_cons, List.length_nil]; omega)]
  rfl
 ·rw [if_neg (fun y => x (hc.1 y)), if_neg x, List.append_nil]
  rfl
theorem mz : ∀ {l : List EnT}, gk l = 0 → ∀ e, e ∈ l → lG e.1 e.2.1 e.2.2.1 e.2.2.2 = 0
 | [], _, e, he => by cases he
 | x :: l, h, e, he => by
  rw [gk] at h
  split at h
  ·rename_i u
   rcases List.mem_cons.1 he with rfl | he
   ·exact u
   ·exact mz h e he
  ·rename_i u
   exact absurd h u
theorem iv : okN 0 := ⟨by decide, by decide⟩
theorem oe {s : St} {b : BaT} (h : jo s b = 0) : (b.1 = true → iK b.2.1 b.2.2.1 b.2.2.2.1 = 0) ∧ ¬ oc b ∧ gk b.2.2.2.2.2.2 = 0 ∧ pL (if jt s b = true then b.2.2.2.2.1 else (ep s).1) b.2.2.2.2.2.2 = 0 := by
 unfold jo at h
 split at h
 ·rename_i g; exact absurd h g.2
 rename_i g
 split at h
 ·omega
 rename_i D
 split at h
 ·rename_i u; exact absurd h u
 rename_i u
 exact ⟨fun x => Decidable.not_not.1 fun y => g ⟨x, y⟩, D, Decidable.not_not.1 u, h⟩
theorem pi {b : BaT} (h : ¬ oc b) : okN b.2.2.2.2.1 ∧ okN b.2.2.2.2.2.1 := by
 unfold oc at h
 exact ⟨⟨by omega, by omega⟩, ⟨by omega, by omega⟩⟩
theorem xl {s : St} (J : dw s) {b : BaT} (h : jo s b = 0) : ∀ r, r ∈ gp s b → OkR r ∧ r.1 ≠ 0 := by
 obtain ⟨h1, U, X, _⟩ := oe h
 have I := pi U
 intro r u
 unfold gp at u
 rcases List.mem_append.1 u with u | u
 ·rcases List.mem_append.1 u with u | u
  ·rcases List.mem_append.1 u with u | u
   ·split at u
    ·rename_i g
     have D := mK (h1 g.1)
     rw [List.mem_singleton.1 u]
     exact ⟨⟨⟨by simp [dZ], by simp [dZ]⟩, iv, D.1, D.2.1, J.c, iv, iv, fun e => absurd e (by simp)⟩, by simp⟩
    ·cases u
   ·split at u
    ·rw [List.mem_singleton.1 u]
     exact ⟨⟨⟨by simp [dZ], by simp [dZ]⟩, iv, iv, iv, iv, I.1, I.2, fun e => absurd e (by simp)⟩, by simp⟩
    ·cases u
  ·obtain ⟨e, he, rfl⟩ := List.mem_map.1 u
   exact ⟨⟨⟨by simp [dZ], by simp [dZ]⟩, iv, iv, iv, iv, iv, iv, fun _ => mz X e he⟩, by simp [dZ]⟩
 ·split at u
  ·rename_i g
   have D := mK (h1 g.1)
   rw [List.mem_singleton.1 u]
   exact ⟨⟨⟨by simp [dZ], by simp [dZ]⟩, iv, D.1, D.2.1, D.2.2, iv, iv, fun e => absurd e (by simp)⟩, by simp⟩
  ·cases u
/-! ### Their bytes -/
def fu : List bx → List UInt8
 | [] => []
 | r :: l => frB (cb r) ++ fu l
def gN (l : List bx) : Nat := (l.map fun r => r.2.2.2.2.2.2.2.2.2.2.length + 128).sum
theorem mY : ∀ l : List bx, (fu l).length ≤ gN l
 | [] => by simp [fu, gN]
 | r :: l => by
  have u := mY l
  have h1 := jM r
  have D := kP (cb r)
  simp only [fu, gN, List.map_cons, List.sum_cons, List.length_append] at u ⊢
  omega
/-! ### A segment that is begun -/
theorem pn (l : List UInt8) : ¬ (gB l 0 false).1 = true := Bool.false_ne_true
theorem kb {fs : FSt} {x : List UInt8} {v : List UInt8 × Int} (h : aW fs x = some v) : bv fs x = v := by unfold bv; rw [h]; rfl
theorem ry {fs : FSt} {l x : List UInt8} (u : nmB x = true) (D : aW fs x = none) (I : fs.length < 256) : ma fs l 0 false x = (0, bE fs x ([], 0), l, 0, false) := by
 unfold ma
 rw [if_neg Bool.false_ne_true, if_neg (by rw [u]; decide), if_neg (by rw [D]; decide), if_neg (by omega), if_neg (pn _)]
 rfl
theorem wE {fs : FSt} {l x b : List UInt8} {v : List UInt8 × Int} (u : aW fs x = some v) (D : szF fs + b.length ≤ 16777216) : mb fs l 0 false x b = (0, bE fs x (v.1 ++ b, v.2), x, 0, false) := by
 unfold mb
 rw [kb u, if_pos (by rw [u]; rfl), if_neg Bool.false_ne_true, if_neg (by omega), if_neg (pn _)]
 rfl
theorem qs {fs : FSt} {l x : List UInt8} {v : List UInt8 × Int} (u : aW fs x = some v) : oy fs l 0 false x = (0, bE fs x (v.1, (v.1.length : Int)), l, 0, false) := by
 unfold oy
 rw [kb u, if_pos (by rw [u]; rfl), if_neg Bool.false_ne_true, if_neg (pn _)]
 rfl
theorem vy {fs : FSt} {l x : List UInt8} (u : (aW fs x).isSome = true) : mc fs l 0 false x = (0, fj fs x, (if l = x then [] else l), 0, false) := by
 unfold mc
 rw [if_neg Bool.false_ne_true, if_neg (by rw [u]; decide), if_neg (pn _)]
 rfl
theorem oz (n : Nat) : nmB (aE n) = true := by
 have hd : ∀ c, dg c → qx c = false := fun c u => by
  have := CY (p := fun c => !(decide (48 ≤ c.toNat) && decide (c.toNat ≤ 57)) || !qx c) (by decide +kernel) c
  simp only [decide_eq_true u.1, decide_eq_true u.2, Bool.and_self, Bool.not_true, Bool.false_or, Bool.not_eq_true'] at this
  exact this
 unfold nmB
 rw [Bool.and_eq_true, List.all_eq_true]
 constructor
 ·intro c u
  rcases List.mem_append.1 u with u | u
  ·have : (vK.all fun c => !qx c) = true := by decide +kernel
   exact List.all_eq_true.1 this c u
  ·rw [hd c (vN 8 n c u)]; rfl
 ·rw [kc]; rfl
def ct (n : Nat) (s : St) : bx := (0, (n : Int), s.1, s.2.1, s.2.2.1, (ep s).1, (ep s).2, 0, 0, 0, [])
theorem ns {s : St} (h : dw s) : okN (ep s).1 ∧ okN (ep s).2 := by
 have h1 := oG h
 have D := nl h
 have u := h.b
 unfold okN at u ⊢
 refine ⟨by omega, ?_⟩
 unfold ep
 split
 ·have := (gY (h.chk _ (mJ (i := s.2.2.2.2.2.length - 1) (by omega)))).1
  have a := this.1
  have b := this.2
  simp only
  omega
 ·exact h.bt
theorem rx {n : Nat} (u : n ≤ 99999999) {s : St} (h : dw s) : OkR (ct n s) := ⟨⟨by simp [ct], by simp [ct]⟩, ⟨by show 0 ≤ (n : Int); omega, by show (n : Int) ≤ _; omega⟩, h.t, h.v, h.c, (ns h).1, (ns h).2, fun e => absurd e (by simp [ct])⟩
def jT (fs : FSt) (n : Nat) (b : List UInt8) : FSt := bE (bE (bE fs (aE n) ([], 0)) (aE n) ([] ++ b, 0)) (aE n) ([] ++ b, ((([] ++ b : List UInt8)).length : Int))
theorem ot (fs : FSt) (n : Nat) (b x : List UInt8) : aW (jT fs n b) x = if x = aE n then some (b, (b.length : Int)) else aW fs x := by
 unfold jT
 rw [eU, eU, eU]
 by_cases h : x = aE n
 ·rw [if_pos h.symm, if_pos h]; rfl
 ·rw [if_neg (fun e => h e.symm), if_neg (fun e => h e.symm), if_neg (fun e => h e.symm), if_neg h]
theorem iZ {n k : Nat} (u : 1 ≤ n) (h1 : n ≤ 99999999) (D : 10 ≤ k) : cA.f k (n : Int) = some (aE n) := by
 unfold cA.f
 rw [BO u h1 D, Option.bind_some]
 simp only []
 rw [lO, Option.bind_some]
theorem tu {fs : FSt} (hi : gg 256 fs) (hl : fs.length < 256) (hz : szF fs + 200 ≤ 16777216) {la : List UInt8} {most : Int} {sg : List Int} (a7 : sg.length < 2 ^ 40) {sz : Int} {s : St} (hs : dw s) (bc : s.2.2.2.2.2.length < 2 ^ 30) {n : Nat} (h0 : 1 ≤ n) (h1 : n ≤ 99999999) (J : aW fs (aE n) = none) {k : Nat} (hk : 20000 ≤ k) :
  fU.f k fs la 0 false most sg sz s.1 s.2.1 s.2.2.1 s.2.2.2.1 s.2.2.2.2.1 s.2.2.2.2.2 false (n : Int) = some (jT fs n (frB (cb (ct n s))), aE n, 0, false, most, sg ++ [(n : Int)], ((frB (cb (ct n s))).length : Int), s.1, s.2.1, s.2.2.1, s.2.2.2.1, s.2.2.2.2.1, s.2.2.2.2.2, false) ∧
   gg 256 (jT fs n (frB (cb (ct n s)))) ∧ (jT fs n (frB (cb (ct n s)))).length = fs.length + 1 ∧ szF (jT fs n (frB (cb (ct n s)))) ≤ szF fs + (frB (cb (ct n s))).length ∧ (frB (cb (ct n s))).length ≤ 128 := by
 have hr := rx h1 hs
 have br := jM (ct n s)
 have U := kP (cb (ct n s))
 have b0 : (ct n s).2.2.2.2.2.2.2.2.2.2.length = 0 := rfl
 have u := sX hr (k := k) (by omega)
 obtain ⟨b, eb⟩ : ∃ b, frB (cb (ct n s)) = b := ⟨_, rfl⟩
 rw [eb] at u U ⊢
 have X := sm hi la 0 false (aE n)
 rw [ry (oz n) J hl] at X
 have m1 : aW (bE fs (aE n) ([], 0)) (aE n) = some ([], 0) := by rw [eU, if_pos rfl]
 have z1 := im (aE n) (([], 0) : List UInt8 × Int) fs
 rw [ql (by rw [J]; rfl)] at z1
 have l1 := iw fs (aE n) (([], 0) : List UInt8 × Int)
 rw [J] at l1
 simp only [Option.isSome_none, Bool.false_eq_true, if_false, List.length_nil, Nat.add_zero] at l1 z1
 have i2 := sH X la 0 false (aE n) b
 have ha := wE (l := la) (b := b) m1 (by omega)
 simp only at i2
 rw [ha] at i2
 have m2 : aW (bE (bE fs (aE n) ([], 0)) (aE n) ([] ++ b, 0)) (aE n) = some ([] ++ b, 0) := by rw [eU, if_pos rfl]
 have z2 := im (aE n) (([] ++ b, 0) : List UInt8 × Int) (bE fs (aE n) ([], 0))
 rw [kb m1] at z2
 have l2 := iw (bE fs (aE n) ([], 0)) (aE n) (([] ++ b, 0) : List UInt8 × Int)
 rw [m1] at l2
 simp only [Option.isSome_some, if_true, List.length_nil, Nat.add_zero] at l2 z2
 have i3 := pO i2 (aE n) 0 false (aE n)
 have D := qs (l := aE n) m2
 simp only at i3
 rw [D] at i3
 have z3 := im (aE n) (([] ++ b, ((([] ++ b : List UInt8)).length : Int)) : List UInt8 × Int) (bE (bE fs (aE n) ([], 0)) (aE n) ([] ++ b, 0))
 rw [kb m2] at z3
 have l3 := iw (bE (bE fs (aE n) ([], 0)) (aE n) ([] ++ b, 0)) (aE n) (([] ++ b, ((([] ++ b : List UInt8)).length : Int)) : List UInt8 × Int)
 rw [m2] at l3
 simp only [Option.isSome_some, if_true] at l3
 refine ⟨?_, i3, ?_, ?_, by omega⟩
 ·unfold fU.f
  rw [iZ h0 h1 (by omega), Option.bind_some, tE _ _ _ _ _ (by rw [kc]; omega) (by rw [kc]; omega), ry (oz n) J hl, Option.bind_some]
  simp only []
  rw [lO, Option.bind_some]
  unfold iS.f
  rw [qn _ _ _ _ _ _ _ s _ (by omega), Option.bind_some]
  have I : dT.f k (0 : Int) (n : Int) s.1 s.2.1 s.2.2.1 (ep s).1 (ep s).2 (0 : Int) (0 : Int) (0 : Int) ([] : List UInt8) = some b := u
  rw [I, Option.bind_some, iZ h0 h1 (by omega), Option.bind_some, qo X _ _ _ _ _ (by omega), ha, Option.bind_some]
  simp only []
  rw [lO, Option.bind_some, Option.bind_some, nR, D, Option.bind_some]
  simp only []
  rw [lO, Option.bind_some, if_pos (by simp only [List.length_cons, List.length_nil]; omega), Option.bind_some]
  rfl
 ·unfold jT; omega
 ·unfold jT; simp only [List.nil_append] at z2 z3 ⊢; omega
end Go.Proofs.YtndjkejhacfpdaaGreatDoor

namespace Go.Proofs.YtndjkejhacfpdaaGreatDoor
open Go.RowKit
def dB (s0 m : Nat) : List Int := (List.range' s0 (m + 1)).map fun n : Nat => (n : Int)
theorem dC (s0 m : Nat) : (dB s0 m).length = m + 1 := by simp [dB]
theorem km {s0 m i : Nat} (h : i ≤ m) : (dB s0 m).getD i 0 = ((s0 + i : Nat) : Int) := by
 unfold dB
 rw [List.getD_eq_getElem?_getD, List.getElem?_map, List.getElem?_range' (by omega)]
 simp
theorem tK (s0 m : Nat) : dB s0 m ++ [((s0 + m + 1 : Nat) : Int)] = dB s0 (m + 1) := by
 unfold dB
 rw [List.range'_1_concat (n := m + 1), List.map_append]
 simp [Nat.add_assoc]
theorem zG (s0 m : Nat) : dB s0 (m + 1) = (s0 : Int) :: dB (s0 + 1) m := by
 unfold dB
 rw [List.range'_succ, List.map_cons]
theorem kB (s0 m : Nat) (h : m < 2 ^ 40) : (dB s0 m).getD (IntKind.i64.wrap (((dB s0 m).length : Int) - 1)).toNat 0 = ((s0 + m : Nat) : Int) := by
 have e : ((dB s0 m).length : Int) - 1 = (m : Int) := by rw [dC]; omega
 rw [e, w64 (by omega) (by omega), Int.toNat_natCast, km (Nat.le_refl _)]
structure Wl where
 fs : FSt
 la : List UInt8
 most : Int
 s0 : Nat
 m : Nat
 size : Nat
 st : St
def Wl.last (w : Wl) : Nat := w.s0 + w.m
abbrev WT := FSt × List UInt8 × Int × Bool × Int × List Int × Int × Int × Int × Int × Int × Int × List HeT × Bool
def Wl.tp (w : Wl) : WT := (w.fs, w.la, 0, false, w.most, dB w.s0 w.m, (w.size : Int), w.st.1, w.st.2.1, w.st.2.2.1, w.st.2.2.2.1, w.st.2.2.2.2.1, w.st.2.2.2.2.2, false)
structure WOk (T N Z L : Nat) (w : Wl) : Prop where
 inv : gg 256 w.fs
 num : w.fs.length ≤ N
 siz : szF w.fs ≤ Z
 s1 : 1 ≤ w.s0
 top : w.s0 + w.m ≤ T
 has : ∀ n, w.s0 ≤ n → n ≤ w.s0 + w.m → (aW w.fs (aE n)).isSome = true
 non : ∀ n, w.s0 + w.m < n → n ≤ 99999999 → aW w.fs (aE n) = none
 st : dw w.st
 len : w.st.2.2.2.2.2.length ≤ L
 sz : w.size ≤ Z
theorem fX {m n : Nat} (u : m ≤ 99999999) (D : n ≤ 99999999) (h : aE m = aE n) : m = n := by rw [← pQ u, h, pQ D]
def dI (s : St) (rs : List bx) (sg : Int) : St := rs.foldl (fun s r => dP s r sg) s
theorem lU {sg : Int} : ∀ {rs : List bx} {s : St}, dw s → (∀ r, r ∈ rs → OkR r ∧ r.1 ≠ 0) → dw (dI s rs sg)
 | [], s, h, _ => h
 | r :: rs, s, h, hr => lU (rs := rs) (kf h (hr r (by simp)).1 (hr r (by simp)).2 sg) fun x u => hr x (by simp [u])
theorem mg {sg : Int} : ∀ (rs : List bx) (s : St), (dI s rs sg).2.2.2.2.2.length ≤ s.2.2.2.2.2.length + rs.length
 | [], s => Nat.le_refl _
 | r :: rs, s => by
  have h1 := mg rs (dP s r sg) (sg := sg)
  have u := rD s r sg
  show (dI (dP s r sg) rs sg).2.2.2.2.2.length ≤ _
  rw [List.length_cons]
  omega
def fK (w : Wl) : Wl :=
 if w.most ≤ (w.size : Int) then { w with fs := jT (bE w.fs (aE w.last) ((bv w.fs (aE w.last)).1, ((bv w.fs (aE w.last)).1.length : Int))) (w.last + 1) (frB (cb (ct (w.last + 1) w.st))), la := aE (w.last + 1), m := w.m + 1, size := (frB (cb (ct (w.last + 1) w.st))).length }
 else w
def kn (w : Wl) (rs : List bx) : Wl :=
 { w with fs := if 0 < rs.length then bE w.fs (aE w.last) ((bv w.fs (aE w.last)).1 ++ fu rs, (bv w.fs (aE w.last)).2) else w.fs, la := if 0 < rs.length then aE w.last else w.la, size := w.size + (fu rs).length, st := dI w.st rs (w.last : Int) }
def jw (w : Wl) (b : BaT) : Wl := kn (fK w) (gp (fK w).st b)
theorem kR {fs : FSt} {x : List UInt8} (h : (aW fs x).isSome = true) : aW fs x = some (bv fs x) := by
 obtain ⟨v, u⟩ := Option.isSome_iff_exists.1 h
 rw [u, kb u]
theorem pk (w : Wl) : (fK w).st = w.st := by unfold fK; split <;> rfl
theorem qU {T N Z L : Nat} {w : Wl} (h : WOk T N Z L w) (hT : T < 99999999) (hN : N < 256) (hZ : Z + 200 ≤ 16777216) (hL : L < 2 ^ 30) : WOk (T + 1) (N + 1) (Z + 128) L (fK w) := by
 have J := h.num
 have U := h.siz
 have X := h.top
 have hs := kR (h.has w.last (by unfold Wl.last; omega) (Nat.le_refl _))
 unfold fK
 by_cases hc : w.most ≤ (w.size : Int)
 ·rw [if_pos hc]
  have D := pO h.inv w.la 0 false (aE w.last)
  rw [qs hs] at D
  have z1 := im (aE w.last) ((bv w.fs (aE w.last)).1, ((bv w.fs (aE w.last)).1.length : Int)) w.fs
  have l1 := ic (v := ((bv w.fs (aE w.last)).1, ((bv w.fs (aE w.last)).1.length : Int))) (h.has w.last (by unfold Wl.last; omega) (Nat.le_refl _))
  have I : ∀ n, w.s0 + w.m < n → n ≤ 99999999 → aW (bE w.fs (aE w.last) ((bv w.fs (aE w.last)).1, ((bv w.fs (aE w.last)).1.length : Int))) (aE n) = none := fun n h1 u => by
   rw [eU, if_neg (fun e => by have := fX (by unfold Wl.last; omega) u e; unfold Wl.last at this; omega), h.non n h1 u]
  simp only at D z1
  obtain ⟨_, b2, b3, b4, b5⟩ := tu (la := w.la) (most := w.most) (sg := []) (sz := 0) (k := 20000) D (by omega) (by omega) (by simp) h.st (by have := h.len; have := nl h.st; have := h.st.b; omega) (n := w.last + 1) (by omega) (by unfold Wl.last; omega) (I _ (by unfold Wl.last; omega) (by unfold Wl.last; omega)) (Nat.le_refl _)
  refine ⟨b2, by simp only; omega, by simp only; omega, h.s1, by simp only; omega, fun n h1 u => ?_, fun n h1 u => ?_, h.st, h.len, by simp only; omega⟩
  ·simp only at h1 u ⊢
   rw [ot]
   split
   ·rfl
   ·rw [eU]
    split
    ·rfl
    ·rename_i g1 g2
     refine h.has n h1 ?_
     by_cases e : n = w.last + 1
     ·exact absurd (congrArg aE e) g1
     ·unfold Wl.last at e; omega
  ·simp only at h1 u ⊢
   rw [ot, if_neg (fun e => by have := fX u (by unfold Wl.last; omega) e; unfold Wl.last at this; omega), I n (by omega) u]
 ·rw [if_neg hc]
  exact ⟨h.inv, by omega, by omega, h.s1, by omega, h.has, h.non, h.st, h.len, by have := h.sz; omega⟩
theorem zJ {T N Z L : Nat} {w : Wl} (h : WOk T N Z L w) (hT : T ≤ 99999999) {rs : List bx} (D : ∀ r, r ∈ rs → OkR r ∧ r.1 ≠ 0) (hZ : Z + gN rs ≤ 16777216) : WOk T N (Z + gN rs) (L + rs.length) (kn w rs) := by
 have U := kR (h.has w.last (by unfold Wl.last; omega) (Nat.le_refl _))
 have X := mY rs
 have ab := h.siz
 have ad := h.sz
 have af := mg (sg := (w.last : Int)) rs w.st
 have al := h.len
 unfold kn
 by_cases hc : 0 < rs.length
 ·simp only [if_pos hc]
  have I := sH h.inv w.la 0 false (aE w.last) (fu rs)
  rw [wE U (by omega)] at I
  have z1 := im (aE w.last) ((bv w.fs (aE w.last)).1 ++ fu rs, (bv w.fs (aE w.last)).2) w.fs
  have l1 := ic (v := ((bv w.fs (aE w.last)).1 ++ fu rs, (bv w.fs (aE w.last)).2)) (h.has w.last (by unfold Wl.last; omega) (Nat.le_refl _))
  simp only [List.length_append] at z1
  have J := h.num
  refine ⟨I, by simp only; omega, by simp only; omega, h.s1, h.top, fun n h1 u => ?_, fun n h1 u => ?_, lU h.st D, by simp only; omega, by simp only; omega⟩
  ·simp only at h1 u ⊢
   rw [eU]
   split
   ·rfl
   ·exact h.has n h1 u
  ·simp only at h1 u ⊢
   have a1 := h.top
   rw [eU, if_neg (fun e => by have := fX (by unfold Wl.last; omega) u e; unfold Wl.last at this; omega)]
   exact h.non n h1 u
 ·simp only [if_neg hc]
  exact ⟨h.inv, h.num, by simp only; omega, h.s1, h.top, h.has, h.non, lU h.st D, by simp only; omega, by simp only; omega⟩
def qt (w : Wl) (b : BaT) : Wl := if jo w.st b = 0 then jw w b else w
end Go.Proofs.YtndjkejhacfpdaaGreatDoor

namespace Go.Proofs.YtndjkejhacfpdaaGreatDoor
open Go.RowKit
def st0 : St := (0, 0, 0, 0, 0, [])
def jf (fs : FSt) (most : Int) : Wl := { fs := jT fs 1 (frB (cb (ct 1 st0))), la := aE 1, most := most, s0 := 1, m := 0, size := (frB (cb (ct 1 st0))).length, st := st0 }
theorem rX (fs : FSt) (h : ∀ x, x ∈ gb fs → oV x = 0) {n : Nat} (h1 : 1 ≤ n) (u : n ≤ 99999999) : aW fs (aE n) = none := by
 cases hv : aW fs (aE n) with
 | none => rfl
 | some v =>
  have D : aE n ∈ gb fs := (nI fs).mem_iff.2 ((oh fs _).2 (by rw [hv]; rfl))
  have := h _ D
  rw [pQ u] at this
  omega
theorem xX {s : List (List UInt8)} (u : ∀ x, x ∈ s → x.length ≤ 2 ^ 40 ∧ oV x = 0) (I : s.length < 2 ^ 40) : ∀ (k i : Nat), s.length - i + 10 < k → i ≤ s.length → bS.l0 s k (i : Int) [] = some []
 | 0, i, h, _ => by omega
 | k + 1, i, h, hi => by
  rw [bS.l0]
  by_cases hlt : i < s.length
  ·have J : s.getD i [] ∈ s := by rw [gi hlt]; exact List.getElem_mem hlt
   have D := u _ J
   rw [if_pos (by omega), if_pos (by omega), Int.toNat_natCast, zu D.1 (by omega), Option.bind_some, D.2]
   simp only [Nat.lt_irrefl, decide_false, Bool.false_eq_true, if_false]
   rw [ws1 (by omega)]
   exact xX u I k (i + 1) (by omega) (by omega)
  ·rw [if_neg (by omega)]
theorem AM {fs : FSt} {N Z : Nat} (hi : gg 256 fs) (J : fs.length ≤ N) (hN : N < 256) (U : szF fs ≤ Z) (X : Z + 200 ≤ 16777216) (D : ∀ x, x ∈ gb fs → oV x = 0) (most : Int) : WOk 1 (N + 1) (Z + 128) 0 (jf fs most) := by
 obtain ⟨_, I, b3, b4, b5⟩ := tu (la := []) (most := 0) (sg := []) (sz := 0) (k := 20000) hi (by omega) (by omega) (by simp) (s := st0) ob (by simp [st0]) (n := 1) (by omega) (by omega) (rX fs D (by omega) (by omega)) (Nat.le_refl _)
 refine ⟨I, by show (jT fs 1 _).length ≤ _; omega, by show szF (jT fs 1 _) ≤ _; omega, Nat.le_refl _, Nat.le_refl _, fun n h1 u => ?_, fun n h1 u => ?_, ob, Nat.le_refl _, by show (frB (cb (ct 1 st0))).length ≤ _; omega⟩
 ·have : n = 1 := by simp only [jf] at h1 u; omega
  subst this
  show (aW (jT fs 1 _) (aE 1)).isSome = true
  rw [ot, if_pos rfl]; rfl
 ·simp only [jf] at h1
  show aW (jT fs 1 _) (aE n) = none
  rw [ot, if_neg (fun e => by have := fX u (by omega) e; omega), rX fs D (by omega) u]
theorem CR {fs : FSt} {N Z : Nat} (hi : gg 256 fs) (hl : fs.length ≤ N) (hN : N < 256) (hz : szF fs ≤ Z) (hZ : Z + 200 ≤ 16777216) (D : ∀ x, x ∈ gb fs → oV x = 0) (U : ∀ x, x ∈ gb fs → x.length ≤ 2 ^ 40) (la : List UInt8) {most : Int} (h1 : 64 ≤ most) (h2 : most ≤ 1048576) {k : Nat} (X : 30000 ≤ k) :
  bS.f k fs la 0 false most = some (true, (jf fs most).tp.2.2.2.2.1, (jf fs most).tp.2.2.2.2.2.1, (jf fs most).tp.2.2.2.2.2.2.1, (jf fs most).tp.2.2.2.2.2.2.2.1, (jf fs most).tp.2.2.2.2.2.2.2.2.1, (jf fs most).tp.2.2.2.2.2.2.2.2.2.1, (jf fs most).tp.2.2.2.2.2.2.2.2.2.2.1, (jf fs most).tp.2.2.2.2.2.2.2.2.2.2.2.1, (jf fs most).tp.2.2.2.2.2.2.2.2.2.2.2.2.1, (jf fs most).tp.2.2.2.2.2.2.2.2.2.2.2.2.2, false, 0, (jf fs most).tp.1, (jf fs most).tp.2.1, (jf fs most).tp.2.2.1, (jf fs most).tp.2.2.2.1) := by
 have ab := ug fs
 obtain ⟨b1, _⟩ := tu (la := la) (most := most) (sg := []) (sz := 0) (k := k) hi (by omega) (by omega) (by simp) (s := st0) ob (by simp [st0]) (n := 1) (by omega) (by omega) (rX fs D (by omega) (by omega)) (by omega)
 have I := xX (s := gb fs) (fun x J => ⟨U x J, D x J⟩) (by omega) k 0 (by omega) (by omega)
 rw [show ((0 : Nat) : Int) = (0 : Int) from rfl] at I
 unfold bS.f
 rw [if_neg (by simp; omega), xC hi (by decide), Option.bind_some, I, Option.bind_some]
 rw [if_pos (show ((([] : List Int).length : Nat) : Int) = 0 from rfl)]
 have u : fU.f k fs la 0 false most ([] : List Int) (0 : Int) (0 : Int) (0 : Int) (0 : Int) (0 : Int) (0 : Int) ([] : List HeT) false (1 : Int) = _ := b1
 rw [u, Option.bind_some]
 rfl
/-! ### What it tells -/
def kJ (h : HeT) : EnT := (h.1, h.2.1, h.2.2.1, h.2.2.2.1)
theorem xK (l : List HeT) (u : l.length < 2 ^ 30) (hd : ∀ e, e ∈ l → e.2.2.2.1.length < 2 ^ 40) : ∀ (k i : Nat) (acc : List EnT), l.length - i < k → i ≤ l.length → acc.length ≤ i → ez.l0 l k (i : Int) acc = some (acc ++ (l.drop i).map kJ)
 | 0, i, acc, h, _, _ => by omega
 | k + 1, i, acc, h, hi, ha => by
  rw [ez.l0]
  by_cases hlt : i < l.length
  ·have D : l.getD i aD ∈ l := by rw [gi hlt]; exact List.getElem_mem _
   rw [if_pos (by omega), if_pos (by omega), Int.toNat_natCast, wC (hd _ D), Option.bind_some, if_pos (by simp only [List.length_cons, List.length_nil]; omega), ws1 (by omega), xK l u hd k (i + 1) _ (by omega) (by omega) (by simp; omega), iP l aD hlt]
   simp [kJ]
  ·rw [if_neg (by omega), List.drop_of_length_le (by omega)]; simp
theorem AJ {s : St} (h : dw s) : ∀ e, e ∈ s.2.2.2.2.2 → e.2.2.2.1.length < 2 ^ 40 := fun e u => by
 have := (gY (h.chk e u)).2.2.2.1
 omega
/-! ### What a batch adds to -/
def kg (l : List EnT) : Nat := (l.map fun e => e.2.2.2.length).sum
theorem pT (e : EnT) (l : List EnT) : kg (e :: l) = e.2.2.2.length + kg l := by simp [kg]
theorem ut : ∀ l : List EnT, gN (l.map dZ) = kg l + 128 * l.length
 | [] => by simp [gN, kg]
 | e :: l => by
  have u := ut l
  have : (dZ e).2.2.2.2.2.2.2.2.2.2 = e.2.2.2 := rfl
  simp only [gN, List.map_cons, List.sum_cons, this] at u ⊢
  rw [pT, List.length_cons]
  omega
theorem qF (a b : List bx) : gN (a ++ b) = gN a + gN b := by simp [gN]
theorem zN (s : St) (b : BaT) : gN (gp s b) ≤ kg b.2.2.2.2.2.2 + 128 * b.2.2.2.2.2.2.length + 384 ∧ (gp s b).length ≤ b.2.2.2.2.2.2.length + 3 := by
 unfold gp
 constructor
 ·rw [qF, qF, qF, ut]
  have h1 : gN (if b.1 = true ∧ (b.2.1 ≠ s.1 ∨ b.2.2.1 ≠ s.2.1) then [(1, 0, b.2.1, b.2.2.1, s.2.2.1, 0, 0, 0, 0, 0, [])] else []) ≤ 128 := by split <;> simp [gN]
  have u : gN (if jt s b = true then [(3, 0, 0, 0, 0, b.2.2.2.2.1, b.2.2.2.2.2.1, 0, 0, 0, [])] else []) ≤ 128 := by split <;> simp [gN]
  have D : gN (if b.1 = true ∧ b.2.2.2.1 ≠ s.2.2.1 then [(1, 0, b.2.1, b.2.2.1, b.2.2.2.1, 0, 0, 0, 0, 0, [])] else []) ≤ 128 := by split <;> simp [gN]
  omega
 ·simp only [List.length_append, List.length_map]
  have h1 : (if b.1 = true ∧ (b.2.1 ≠ s.1 ∨ b.2.2.1 ≠ s.2.1) then [((1, 0, b.2.1, b.2.2.1, s.2.2.1, 0, 0, 0, 0, 0, []) : bx)] else []).length ≤ 1 := by split <;> simp
  have u : (if jt s b = true then [((3, 0, 0, 0, 0, b.2.2.2.2.1, b.2.2.2.2.2.1, 0, 0, 0, []) : bx)] else []).length ≤ 1 := by split <;> simp
  have D : (if b.1 = true ∧ b.2.2.2.1 ≠ s.2.2.1 then [((1, 0, b.2.1, b.2.2.1, b.2.2.2.1, 0, 0, 0, 0, 0, []) : bx)] else []).length ≤ 1 := by split <;> simp
  omega
theorem lV {T N Z L u D I J : Nat} {w : Wl} (h : WOk T N Z L w) (h1 : T ≤ u) (X : N ≤ D) (U : Z ≤ I) (h4 : L ≤ J) : WOk u D I J w :=
 ⟨h.inv, Nat.le_trans h.num X, Nat.le_trans h.siz U, h.s1, Nat.le_trans h.top h1, h.has, h.non, h.st, Nat.le_trans h.len h4, Nat.le_trans h.sz U⟩
theorem CQ {T N Z L : Nat} {w : Wl} (h : WOk T N Z L w) (J : T < 99999990) (hN : N < 256) {b : BaT} (U : Z + 600 + kg b.2.2.2.2.2.2 + 128 * b.2.2.2.2.2.2.length ≤ 16777216) (D : L < 2 ^ 30) : WOk (T + 1) (N + 1) (Z + 512 + kg b.2.2.2.2.2.2 + 128 * b.2.2.2.2.2.2.length) (L + b.2.2.2.2.2.2.length + 3) (qt w b) := by
 have X := zN w.st b
 unfold qt
 split
 ·rename_i I
  have h1 := qU h (by omega) hN (by omega) D
  have u := xl h.st I
  unfold jw
  rw [pk]
  exact lV (zJ h1 (by omega) u (by omega)) (Nat.le_refl _) (Nat.le_refl _) (by omega) (by omega)
 ·exact lV h (by omega) (by omega) (by omega) (by omega)
end Go.Proofs.YtndjkejhacfpdaaGreatDoor

namespace Go.Proofs.YtndjkejhacfpdaaGreatDoor
open Go.RowKit
def lT (s0 m : Nat) : List (List UInt8) := (List.range' s0 (m + 1)).map aE
theorem mL (s0 m : Nat) : (lT s0 m).length = m + 1 := by simp [lT]
theorem vu {s0 m i : Nat} (h : i ≤ m) : (lT s0 m).getD i [] = aE (s0 + i) := by
 unfold lT
 rw [List.getD_eq_getElem?_getD, List.getElem?_map, List.getElem?_range' (by omega)]
 simp
theorem xg {s0 m : Nat} (h1 : 1 ≤ s0) (u : s0 + m ≤ 99999999) : ∀ (k i : Nat) (acc : List (List UInt8)), m + 1 - i + 10 < k → i ≤ m + 1 → acc.length ≤ i → cj.l0 (dB s0 m) k acc (i : Int) = some (acc ++ (lT s0 m).drop i)
 | 0, i, acc, h, _, _ => by omega
 | k + 1, i, acc, h, hi, ha => by
  rw [cj.l0, dC]
  by_cases hlt : i < m + 1
  ·rw [if_pos (by omega), if_pos (by omega), Int.toNat_natCast, km (by omega), iZ (by omega) (by omega) (by omega), Option.bind_some, if_pos (by simp only [List.length_cons, List.length_nil]; omega), ws1 (by omega), xg h1 u k (i + 1) _ (by omega) (by omega) (by simp; omega), iP (lT s0 m) [] (i := i) (by rw [mL]; exact hlt), vu (by omega)]
   simp
  ·rw [if_neg (by omega), List.drop_of_length_le (by rw [mL]; omega)]; simp
/-! ### Few operations -/
abbrev OpW := Int × Int × Bool × Int × Int × Int × Int × Int × List EnT
abbrev kI : OpW := ((0 : Int), (0 : Int), false, (0 : Int), (0 : Int), (0 : Int), (0 : Int), (0 : Int), ([] : List EnT))
def OpW.es (o : OpW) : List EnT := o.2.2.2.2.2.2.2.2
def oR (l : List EnT) : Nat := (l.map fun e => min e.2.2.2.length 20000 + 1).sum
theorem tJ (e : EnT) (l : List EnT) : oR (e :: l) = min e.2.2.2.length 20000 + 1 + oR l := by simp [oR]
theorem xh : ∀ l : List EnT, l.length ≤ oR l ∧ oR l ≤ 20001 * l.length
 | [] => by simp [oR]
 | e :: l => by
  have u := xh l
  rw [tJ, List.length_cons]
  omega
theorem xi : ∀ x : List OpW, (x.map fun o => (OpW.es o).length).sum ≤ (x.map fun o => oR (OpW.es o)).sum
 | [] => Nat.le_refl _
 | o :: x => by
  have u := xi x
  have := (xh (OpW.es o)).1
  simp only [List.map_cons, List.sum_cons]
  omega
theorem vv (x : List OpW) (hx : x.length < 2 ^ 40) {j : Nat} (X : j < x.length) (z : Int) (hd : ∀ o, o ∈ x → ∀ e, e ∈ OpW.es o → e.2.2.2.length < 2 ^ 40) (u : (OpW.es (x.getD j kI)).length < 2 ^ 40) : ∀ (k i n : Nat), 200 - i < k → i ≤ 200 → n + 20001 * (200 - i) < 2 ^ 50 → ∃ r : Nat, ca.l1 x (z, (j : Int)) k (n : Int) (i : Int) = some (r : Int) ∧ r ≤ n + 20001 * (200 - i) ∧ ((OpW.es (x.getD j kI)).length ≤ 200 → r = n + oR ((OpW.es (x.getD j kI)).drop i))
 | 0, i, n, h, _, _ => by omega
 | k + 1, i, n, h, hi, hn => by
  rw [ca.l1, if_pos (show 0 ≤ (z, (j : Int)).2 ∧ (z, (j : Int)).2 < (x.length : Int) from ⟨by show 0 ≤ (j : Int); omega, by show (j : Int) < _; omega⟩)]
  have hm : x.getD j kI ∈ x := by rw [gi X]; exact List.getElem_mem _
  simp only [Int.toNat_natCast]
  have J : (x.getD j kI).2.2.2.2.2.2.2.2 = OpW.es (x.getD j kI) := rfl
  simp only [J]
  have D := hd _ hm
  obtain ⟨l, I⟩ : ∃ l, OpW.es (x.getD j kI) = l := ⟨_, rfl⟩
  simp only [I] at u D ⊢
  by_cases hc : i < l.length ∧ i < 200
  ·have U : l.getD i bh ∈ l := by rw [gi hc.1]; exact List.getElem_mem _
   have al := D _ U
   rw [if_pos (by simp; omega), if_pos ⟨by omega, by omega⟩, if_pos (by omega), ws1 (by omega)]
   have e1 : IntKind.i64.wrap (IntKind.i64.wrap ((n : Int) + (min (((l.getD i bh).2.2.2).length : Int) (20000 : Int))) + 1) = ((n + (min (l.getD i bh).2.2.2.length 20000 + 1) : Nat) : Int) := by
    rw [w64 (n := (n : Int) + min (((l.getD i bh).2.2.2).length : Int) 20000) (by omega) (by omega), w64 (by omega) (by omega)]
    omega
   rw [e1]
   obtain ⟨r, r1, r2, r3⟩ := vv x hx X z hd (by rw [I]; exact u) k (i + 1) (n + (min (l.getD i bh).2.2.2.length 20000 + 1)) (by omega) (by omega) (by omega)
   refine ⟨r, r1, by omega, fun h2 => ?_⟩
   have := r3 (by rw [I]; exact h2)
   rw [I] at this
   rw [this, iP l bh hc.1, tJ]
   omega
  ·rw [if_neg (by simp; omega)]
   refine ⟨n, rfl, by omega, fun h2 => ?_⟩
   rw [List.drop_of_length_le (by omega)]
   simp [oR]
theorem vw (x : List OpW) (hx : x.length < 2 ^ 40) (hd : ∀ o, o ∈ x → ∀ e, e ∈ OpW.es o → e.2.2.2.length < 2 ^ 40) (u : ∀ o, o ∈ x → (OpW.es o).length < 2 ^ 40) : ∀ (k i n : Nat), 200 - i + 300 < k → i ≤ 200 → n + 5000000 * (200 - i) < 2 ^ 50 → ∃ r : Int ⊕ Bool, ca.l0 x k (n : Int) (i : Int) = some r ∧ ∀ v, r = .inl v → x.length ≤ 200 → v = ((n + ((x.drop i).map fun o => oR (OpW.es o)).sum : Nat) : Int) ∧ ∀ o, o ∈ x.drop i → (OpW.es o).length ≤ 200
 | 0, i, n, h, _, _ => by omega
 | k + 1, i, n, h, hi, hn => by
  rw [ca.l0]
  by_cases hc : i < x.length ∧ i < 200
  ·have hm : x.getD i kI ∈ x := by rw [gi hc.1]; exact List.getElem_mem _
   obtain ⟨r, r1, r2, r3⟩ := vv x hx hc.1 (n : Int) hd (u _ hm) k 0 n (by omega) (by omega) (by omega)
   rw [show ((0 : Nat) : Int) = (0 : Int) from rfl] at r1
   rw [if_pos (by simp; omega), r1, Option.bind_some, if_pos (by omega)]
   have U : (x.getD (i : Int).toNat kI).2.2.2.2.2.2.2.2 = OpW.es (x.getD i kI) := by rw [Int.toNat_natCast]; rfl
   have D : (x.getD (i : Int).toNat ((0 : Int), (0 : Int), false, (0 : Int), (0 : Int), (0 : Int), (0 : Int), (0 : Int), ([] : List EnT))).2.2.2.2.2.2.2.2 = OpW.es (x.getD i kI) := U
   by_cases h2 : (OpW.es (x.getD i kI)).length ≤ 200
   ·rw [if_neg (by rw [D]; omega)]
    simp only [orR]
    rw [ws1 (by omega)]
    have hr := r3 h2
    rw [List.drop_zero] at hr
    obtain ⟨q, q1, q2⟩ := vw x hx hd u k (i + 1) r (by omega) (by omega) (by omega)
    refine ⟨q, q1, fun v I J => ?_⟩
    obtain ⟨q3, q4⟩ := q2 v I J
    rw [iP x kI hc.1, List.map_cons, List.sum_cons]
    refine ⟨by rw [q3, hr]; congr 1; omega, fun o X => ?_⟩
    rcases List.mem_cons.1 X with rfl | X
    ·exact h2
    ·exact q4 o X
   ·rw [if_pos (by rw [D]; omega)]
    simp only [orR]
    exact ⟨_, rfl, fun v I => by cases I⟩
  ·rw [if_neg (by simp; omega)]
   refine ⟨_, rfl, fun v I J => ?_⟩
   cases I
   rw [List.drop_of_length_le (by omega)]
   simp
theorem BF (x : List OpW) (J : x.length < 2 ^ 40) (hd : ∀ o, o ∈ x → ∀ e, e ∈ OpW.es o → e.2.2.2.length < 2 ^ 40) (u : ∀ o, o ∈ x → (OpW.es o).length < 2 ^ 40) {k : Nat} (hk : 1000 ≤ k) : ∃ b, ca.f k x = some b ∧ (b = true → x.length ≤ 200 ∧ (x.map fun o => (OpW.es o).length).sum ≤ 20000) := by
 obtain ⟨r, I, U⟩ := vw x J hd u k 0 0 (by omega) (by omega) (by omega)
 rw [show ((0 : Nat) : Int) = (0 : Int) from rfl] at I
 unfold ca.f
 rw [I]
 cases r with
 | inr b =>
  cases b with
  | false => exact ⟨false, rfl, fun h => by cases h⟩
  | true => exact ⟨true, rfl, fun _ => by
    exfalso
    have key : ∀ (k i : Nat) (z : Int), ca.l0 x k z (i : Int) ≠ some (.inr true) := by
     intro k
     induction k with
     | zero => intro i z h; simp [ca.l0] at h
     | succ k ih =>
      intro i z h
      rw [ca.l0] at h
      split at h
      ·cases D : ca.l1 x (z, (i : Int)) k z 0 with
       | none => rw [D] at h; simp [orR] at h
       | some v =>
        rw [D, Option.bind_some] at h
        split at h
        ·split at h
         ·simp [orR] at h
         ·simp only [orR] at h
          by_cases hb : i < 2 ^ 40
          ·rw [ws1 (by omega)] at h
           exact ih _ _ h
          ·rename_i g _ _
           simp at g
           omega
        ·simp [orR] at h
      ·simp at h
    exact key _ 0 0 I⟩
 | inl v =>
  simp only [orR]
  refine ⟨_, rfl, fun h => ?_⟩
  simp only [Bool.and_eq_true, decide_eq_true_eq] at h
  have D : x.length ≤ 200 := by omega
  obtain ⟨X, _⟩ := U v rfl D
  rw [List.drop_zero] at X
  refine ⟨D, ?_⟩
  have ab := xi x
  omega
/-! ### Compact -/
def np (s : St) (sg i : Int) : Bool := s.2.2.2.2.2.any fun h => decide (h.2.2.2.2 = sg) && decide (i < h.2.1)
theorem vx (l : List HeT) (u : l.length < 2 ^ 40) (sg i : Int) : ∀ (k j : Nat), l.length - j < k → j ≤ l.length → ∃ r : Unit ⊕ Int, bG.l0 l sg i k (j : Int) = some r ∧ ((∃ v, r = .inr v ∧ 0 ≤ v ∧ ((l.drop j).any fun h => decide (h.2.2.2.2 = sg) && decide (i < h.2.1)) = true) ∨ (r = .inl () ∧ ((l.drop j).any fun h => decide (h.2.2.2.2 = sg) && decide (i < h.2.1)) = false))
 | 0, j, h, _ => by omega
 | k + 1, j, h, hj => by
  rw [bG.l0]
  by_cases hlt : j < l.length
  ·rw [if_pos (by omega), if_pos (by omega), iP l aD hlt]
   unfold iN.f
   simp only [Int.toNat_natCast, Option.bind_some, List.any_cons]
   by_cases hc : (decide ((l.getD j aD).2.2.2.2 = sg) && decide (i < (l.getD j aD).2.1)) = true
   ·rw [if_pos hc]
    exact ⟨_, rfl, .inl ⟨_, rfl, by omega, by rw [hc]; rfl⟩⟩
   ·rw [if_neg hc, ws1 (by omega)]
    rw [Bool.not_eq_true] at hc
    rw [hc, Bool.false_or]
    exact vx l u sg i k (j + 1) (by omega) (by omega)
  ·rw [if_neg (by omega), List.drop_of_length_le (by omega)]
   exact ⟨_, rfl, .inr ⟨rfl, rfl⟩⟩
theorem BG (fs : FSt) (la : List UInt8) (a : Int) (d : Bool) (most : Int) (u : List Int) (sz : Int) (s : St) (J : s.2.2.2.2.2.length < 2 ^ 40) (U : Bool) (sg i : Int) {k : Nat} (X : s.2.2.2.2.2.length < k) : gR.f k fs la a d most u sz s.1 s.2.1 s.2.2.1 s.2.2.2.1 s.2.2.2.2.1 s.2.2.2.2.2 U sg i = some (np s sg i) := by
 obtain ⟨r, D, I⟩ := vx s.2.2.2.2.2 J sg i k 0 (by omega) (by omega)
 rw [show ((0 : Nat) : Int) = (0 : Int) from rfl] at D
 rw [List.drop_zero] at I
 unfold gR.f cp.f bG.f np
 rw [D]
 rcases I with ⟨v, rfl, v0, h⟩ | ⟨rfl, h⟩
 ·rw [h]; simp [orR, v0]
 ·rw [h]; rfl
def ir : List HeT → Int → Nat
 | [], _ => 0
 | h :: l, sg => if h.2.2.2.2 = sg then ir l sg + 1 else 0
theorem pg : ∀ (l : List HeT) (sg : Int), ir l sg ≤ l.length
 | [], _ => Nat.le_refl _
 | h :: l, sg => by
  have := pg l sg
  rw [ir, List.length_cons]
  split <;> omega
theorem rC : ∀ (l : List HeT) (sg : Int) (i : Nat), i < ir l sg → (l.getD i dzH).2.2.2.2 = sg
 | [], _, i, h => by simp [ir] at h
 | x :: l, sg, i, h => by
  rw [ir] at h
  split at h
  ·rename_i u
   cases i with
   | zero => exact u
   | succ i =>
    have := rC l sg i (by omega)
    simpa using this
  ·omega
theorem xj (l : List HeT) (u : l.length < 2 ^ 40) (sg : Int) : ∀ (k j : Nat), l.length - j < k → j ≤ l.length → dU.l0 l sg k (j : Int) = some ((j + ir (l.drop j) sg : Nat) : Int)
 | 0, j, h, _ => by omega
 | k + 1, j, h, hj => by
  rw [dU.l0]
  by_cases hlt : j < l.length
  ·rw [if_pos (by omega), if_pos (by omega), Option.bind_some, iP l aD hlt, ir]
   simp only [Int.toNat_natCast, decide_eq_true_eq]
   by_cases hc : (l.getD j aD).2.2.2.2 = sg
   ·rw [if_pos hc, if_pos hc, ws1 (by omega), xj l u sg k (j + 1) (by omega) (by omega)]
    congr 2; omega
   ·rw [if_neg hc, if_neg hc]; rfl
  ·rw [if_neg (by omega), List.drop_of_length_le (by omega), Option.bind_some, if_neg Bool.false_ne_true]
   simp [ir]
def gM (s : St) (g : Nat) : St := (s.1, s.2.1, s.2.2.1, if 0 < g then (s.2.2.2.2.2.getD (g - 1) dzH).2.1 else s.2.2.2.1, if 0 < g then (s.2.2.2.2.2.getD (g - 1) dzH).1 else s.2.2.2.2.1, s.2.2.2.2.2.drop g)
theorem Au {x : List HeT} (h : x.length < 2 ^ 40) : fO.f x = some x := by
 unfold fO.f
 rw [if_pos (by simp; omega)]
 simp
theorem CA (fs : FSt) (la : List UInt8) (a : Int) (d : Bool) (most : Int) (u : List Int) (sz : Int) (s : St) (J : s.2.2.2.2.2.length < 2 ^ 40) (D : Bool) (sg : Int) {k : Nat} (hk : s.2.2.2.2.2.length < k) :
  dU.f k fs la a d most u sz s.1 s.2.1 s.2.2.1 s.2.2.2.1 s.2.2.2.2.1 s.2.2.2.2.2 D sg = some (most, u, sz, (gM s (ir s.2.2.2.2.2 sg)).1, (gM s (ir s.2.2.2.2.2 sg)).2.1, (gM s (ir s.2.2.2.2.2 sg)).2.2.1, (gM s (ir s.2.2.2.2.2 sg)).2.2.2.1, (gM s (ir s.2.2.2.2.2 sg)).2.2.2.2.1, (gM s (ir s.2.2.2.2.2 sg)).2.2.2.2.2, D) := by
 have hp := pg s.2.2.2.2.2 sg
 have I := xj s.2.2.2.2.2 J sg k 0 (by omega) (by omega)
 rw [List.drop_zero, Nat.zero_add, show ((0 : Nat) : Int) = (0 : Int) from rfl] at I
 unfold dU.f gM
 rw [I, Option.bind_some]
 obtain ⟨g, U⟩ : ∃ g, ir s.2.2.2.2.2 sg = g := ⟨_, rfl⟩
 rw [U] at hp ⊢
 by_cases hg : 0 < g
 ·have X : IntKind.i64.wrap ((g : Int) - 1) = ((g - 1 : Nat) : Int) := by rw [w64 (by omega) (by omega)]; omega
  have ec : cut s.2.2.2.2.2 (g : Int) (s.2.2.2.2.2.length : Int) = s.2.2.2.2.2.drop g := by unfold cut; simp
  rw [if_pos (by omega), X, if_pos (by omega), if_pos (by omega), ec, Au (by simp; omega), Option.bind_some, Int.toNat_natCast, if_pos hg, if_pos hg]
 ·rw [if_neg (by omega), if_neg hg, if_neg hg, show g = 0 by omega, List.drop_zero]
theorem rB {s : St} (h : dw s) {g : Nat} (hg : g ≤ s.2.2.2.2.2.length) : dw (gM s g) ∧ (gM s g).2.2.2.1 = s.2.2.2.1 + (g : Int) ∧ ep (gM s g) = ep s := by
 have u : (gM s g).2.2.2.1 = s.2.2.2.1 + (g : Int) := by
  unfold gM
  simp only
  split
  ·rw [h.idx _ (by omega)]; omega
  ·omega
 have J := nl h
 have D := h.b
 unfold okN at D
 refine ⟨⟨h.t, h.v, h.c, ⟨by rw [u]; omega, by rw [u]; omega⟩, ?_, fun i hi => ?_, fun e U => h.chk e (List.mem_of_mem_drop U)⟩, u, ?_⟩
 ·unfold gM
  simp only
  split
  ·have := (gY (h.chk _ (mJ (i := g - 1) (by omega)))).1
   exact ⟨by have := this.1; omega, this.2⟩
  ·exact h.bt
 ·rw [u]
  have hi' : i + g < s.2.2.2.2.2.length := by
   have : i < (s.2.2.2.2.2.drop g).length := hi
   rw [List.length_drop] at this; omega
  have I : (s.2.2.2.2.2.drop g).getD i dzH = s.2.2.2.2.2.getD (g + i) dzH := by simp only [List.getD_eq_getElem?_getD, List.getElem?_drop]
  show ((s.2.2.2.2.2.drop g).getD i dzH).2.1 = _
  rw [I, h.idx _ (by omega)]
  omega
 ·unfold ep
  have X : (gM s g).2.2.2.2.2 = s.2.2.2.2.2.drop g := rfl
  rw [X, List.length_drop]
  by_cases hlt : g < s.2.2.2.2.2.length
  ·have I : (s.2.2.2.2.2.drop g).getD (s.2.2.2.2.2.length - g - 1) dzH = s.2.2.2.2.2.getD (s.2.2.2.2.2.length - 1) dzH := by
    simp only [List.getD_eq_getElem?_getD, List.getElem?_drop]
    congr 2; omega
   rw [if_pos (by omega), if_pos (by omega), I]
  ·have eg : g = s.2.2.2.2.2.length := by omega
   rw [if_neg (by omega)]
   by_cases h0 : 0 < s.2.2.2.2.2.length
   ·rw [if_pos h0]
    unfold gM
    simp only
    rw [if_pos (by omega), if_pos (by omega), eg]
   ·rw [if_neg h0]
    unfold gM
    simp only
    rw [if_neg (by omega), if_neg (by omega)]
def lB (w : Wl) : Wl := { w with fs := fj w.fs (aE w.s0), la := if w.la = aE w.s0 then [] else w.la, s0 := w.s0 + 1, m := w.m - 1, st := gM w.st (ir w.st.2.2.2.2.2 (w.s0 : Int)) }
theorem Av {T N Z L : Nat} {w : Wl} (h : WOk T N Z L w) (X : T ≤ 99999999) (hm : 0 < w.m) : WOk T N Z L (lB w) := by
 have I := h.s1
 have J := h.top
 have hi := yq h.inv w.la 0 false (aE w.s0)
 have D := h.has w.s0 (Nat.le_refl _) (by omega)
 rw [vy D] at hi
 have hz := rE (aE w.s0) w.fs
 have hl := rF w.fs (aE w.s0) D
 have hn := h.num
 have hs := h.siz
 have hd := rB h.st (pg w.st.2.2.2.2.2 (w.s0 : Int))
 have U := h.len
 refine ⟨hi, by show (fj _ _).length ≤ _; omega, by show szF (fj _ _) ≤ _; omega, by show 1 ≤ w.s0 + 1; omega, by show w.s0 + 1 + (w.m - 1) ≤ T; omega, fun n h1 u => ?_, fun n h1 u => ?_, hd.1, ?_, h.sz⟩
 ·simp only [lB] at h1 u
  show (aW (fj w.fs (aE w.s0)) (aE n)).isSome = true
  rw [mf _ _ _ h.inv.nd, if_neg (fun e => by have := fX (by omega) (by omega) e; omega)]
  exact h.has n (by omega) (by omega)
 ·simp only [lB] at h1
  show aW (fj w.fs (aE w.s0)) (aE n) = none
  rw [mf _ _ _ h.inv.nd, if_neg (fun e => by have := fX (by omega) u e; omega)]
  exact h.non n (by omega) u
 ·show (w.st.2.2.2.2.2.drop _).length ≤ L
  rw [List.length_drop]; omega
structure Cmp (w v : Wl) (n : Nat) (i : Int) : Prop where
 s0 : v.s0 = w.s0 + n
 m : v.m + n = w.m
 tvc : v.st.1 = w.st.1 ∧ v.st.2.1 = w.st.2.1 ∧ v.st.2.2.1 = w.st.2.2.1
 la : ep v.st = ep w.st
 es : ∃ g, g ≤ w.st.2.2.2.2.2.length ∧ v.st.2.2.2.2.2 = w.st.2.2.2.2.2.drop g ∧ v.st.2.2.2.1 = w.st.2.2.2.1 + (g : Int)
 bd : v.st.2.2.2.1 ≤ max i w.st.2.2.2.1
def mM (w : Wl) : Wl := { w with fs := bE w.fs (aE w.last) ((bv w.fs (aE w.last)).1, ((bv w.fs (aE w.last)).1.length : Int)) }
end Go.Proofs.YtndjkejhacfpdaaGreatDoor

namespace Go.Proofs.YtndjkejhacfpdaaGreatDoor
open Go.RowKit
def dJ : List (List UInt8) → List UInt8
 | [] => []
 | p :: l => frB p ++ dJ l
theorem wm : ∀ a b : List (List UInt8), dJ (a ++ b) = dJ a ++ dJ b
 | [], b => rfl
 | p :: a, b => by rw [List.cons_append, dJ, dJ, wm a b, List.append_assoc]
theorem rf : ∀ l : List bx, fu l = dJ (l.map cb)
 | [] => rfl
 | r :: l => by rw [fu, List.map_cons, dJ, rf l]
def okP (ps : List (List UInt8)) : Prop := ∀ p, p ∈ ps → p.length ≤ 1048576
theorem oq : ∀ ps : List (List UInt8), 8 * ps.length ≤ (dJ ps).length
 | [] => by simp [dJ]
 | p :: l => by
  have u := oq l
  have := kP p
  rw [dJ, List.length_append, List.length_cons]
  omega
abbrev Bj : (Int × List (List UInt8)) → (Int × List UInt8) → Option (Int × List (List UInt8)) := fun (D : Int × List (List UInt8)) (u : Int × List UInt8) => if (D.2.length + ([u.2] : List (List UInt8)).length) * 24 ≤ 140737488355328 then (some (IntKind.i64.wrap ((IntKind.i64.wrap (u.1 + 8)) + (u.2.length : Int)), D.2 ++ ([u.2] : List (List UInt8)))) else none
abbrev CS : List UInt8 := [111, 116, 104, 101, 114]
structure Du (M : Int) (w : Wl) : Prop where
 mo : w.most = M
 fr : ∀ n, w.s0 ≤ n → n ≤ w.last → ∃ ps, okP ps ∧ (bv w.fs (aE n)).1 = dJ ps
 big : ∀ n, w.s0 ≤ n → n < w.last → M ≤ ((bv w.fs (aE n)).1.length : Int)
 sz : (bv w.fs (aE w.last)).1.length = w.size
 len : w.fs.length = w.m + 2
 oth : ∃ z, aW w.fs CS = some ([1, 2], z)
theorem lq (fs : FSt) (x : List UInt8) (v : List UInt8 × Int) (y : List UInt8) : bv (bE fs x v) y = if x = y then v else bv fs y := by
 unfold bv
 rw [eU]
 split <;> rfl
theorem mQ (fs : FSt) (n : Nat) (b x : List UInt8) : bv (jT fs n b) x = if x = aE n then (b, (b.length : Int)) else bv fs x := by
 unfold bv
 rw [ot]
 split <;> rfl
theorem xD {r : bx} (h : OkR r) (hd : r.2.2.2.2.2.2.2.2.2.2.length ≤ 4096 ∨ r.1 = 2) : (cb r).length ≤ 1048576 := by
 have h1 := jM r
 rcases hd with hd | hd
 ·omega
 ·have := (gY (h.e hd)).2.2.2.1
  omega
/-! ### Sync, Bytes -/
theorem wb {T N Z L : Nat} {w : Wl} (h : WOk T N Z L w) (hT : T ≤ 99999999) : WOk T N Z L (mM w) := by
 have U := h.top
 have X := kR (h.has w.last (by unfold Wl.last; omega) (Nat.le_refl _))
 have D := pO h.inv w.la 0 false (aE w.last)
 rw [qs X] at D
 have z1 := im (aE w.last) ((bv w.fs (aE w.last)).1, ((bv w.fs (aE w.last)).1.length : Int)) w.fs
 have l1 := ic (v := ((bv w.fs (aE w.last)).1, ((bv w.fs (aE w.last)).1.length : Int))) (h.has w.last (by unfold Wl.last; omega) (Nat.le_refl _))
 have I := h.num
 have J := h.siz
 simp only at D z1
 unfold mM
 refine ⟨D, by simp only; omega, by simp only; omega, h.s1, h.top, fun n h1 u => ?_, fun n h1 u => ?_, h.st, h.len, h.sz⟩
 ·simp only at h1 u ⊢
  rw [eU]
  split
  ·rfl
  ·exact h.has n h1 u
 ·simp only at h1 u ⊢
  rw [eU, if_neg (fun e => by have := fX (by unfold Wl.last; omega) u e; unfold Wl.last at this; omega)]
  exact h.non n h1 u
end Go.Proofs.YtndjkejhacfpdaaGreatDoor

namespace Go.Proofs.YtndjkejhacfpdaaGreatDoor
open Go.RowKit
/-! ### Two stories that agree -/
structure Jn (N : Int) (M P : St) : Prop where
 tvc : P.1 = M.1 ∧ P.2.1 = M.2.1 ∧ P.2.2.1 = M.2.2.1
 la : ep P = ep M
 lb : ∃ d : Nat, P.2.2.2.1 = M.2.2.2.1 + (d : Int) ∧ d ≤ M.2.2.2.2.2.length ∧ P.2.2.2.2.2 = M.2.2.2.2.2.drop d ∧ (∀ i, i < d → (M.2.2.2.2.2.getD i dzH).2.2.2.2 < N) ∧ (∀ i, d ≤ i → i < M.2.2.2.2.2.length → N ≤ (M.2.2.2.2.2.getD i dzH).2.2.2.2)
 ts : ∀ i m, 0 < m → iq P i m = true → iq M i m = true
theorem vi {N : Int} {M P : St} (h : Jn N M P) : P.2.2.2.1 + (P.2.2.2.2.2.length : Int) = M.2.2.2.1 + (M.2.2.2.2.2.length : Int) := by
 obtain ⟨d, h1, D, u, _⟩ := h.lb
 rw [h1, u, List.length_drop]
 omega
theorem lh (l : List HeT) (d i : Nat) : (l.drop d).getD i dzH = l.getD (d + i) dzH := by
 simp only [List.getD_eq_getElem?_getD, List.getElem?_drop]
theorem oB {a b : List HeT} {i : Nat} (h : i < a.length) : (a ++ b).getD i dzH = a.getD i dzH := by
 rw [List.getD_eq_getElem?_getD, List.getElem?_append_left h, ← List.getD_eq_getElem?_getD]
theorem qR {a : List HeT} {e : HeT} {i : Nat} (h : i = a.length) : (a ++ [e]).getD i dzH = e := by
 rw [List.getD_eq_getElem?_getD, List.getElem?_append_right (by omega), h, Nat.sub_self]
 rfl
theorem xc {s : St} {i m : Int} (h : iq s i m = true) : s.2.2.2.1 ≤ i ∧ i ≤ s.2.2.2.1 + (s.2.2.2.2.2.length : Int) := by
 unfold iq at h
 split at h
 ·omega
 ·split at h
  ·omega
  ·cases h
theorem rA {t v c b bt : Int} {es : List HeT} {e : HeT} {x : Int} (h1 : b < x) (D : x ≤ b + (es.length : Int) + 1) (i m : Int) :
  iq (t, v, c, b, bt, es.take (x - b - 1).toNat ++ [e]) i m = if i < x then iq (t, v, c, b, bt, es) i m else if i = x then decide (e.1 = m) else false := by
 have u : (es.take (x - b - 1).toNat).length = (x - b - 1).toNat := by rw [List.length_take]; omega
 unfold iq
 simp only
 by_cases hi : i = b
 ·rw [if_pos hi, if_pos hi, if_pos (by omega)]
 ·rw [if_neg hi, if_neg hi, List.length_append, u]
  simp only [List.length_cons, List.length_nil]
  by_cases hx : i < x
  ·rw [if_pos hx]
   by_cases hb : b < i
   ·rw [if_pos (by omega), if_pos (by omega), oB (by omega), nk _ (by omega)]
   ·rw [if_neg (by omega), if_neg (by omega)]
  ·rw [if_neg hx]
   by_cases he : i = x
   ·rw [if_pos he, if_pos (by omega), qR (by omega)]
   ·rw [if_neg he, if_neg (by omega)]
theorem BC {t v c b : Int} {e : HeT} (i m : Int) : iq (t, v, c, b, 0, [e]) i m = if i = b then decide (m = 0) else if i = b + 1 then decide (e.1 = m) else false := by
 unfold iq
 simp only [List.length_cons, List.length_nil]
 by_cases hi : i = b
 ·rw [if_pos hi, if_pos hi]
 ·rw [if_neg hi, if_neg hi]
  by_cases h2 : i = b + 1
  ·rw [if_pos h2, if_pos (by omega), show (i - b - 1).toNat = 0 by omega]
   rfl
  ·rw [if_neg h2, if_neg (by omega)]
theorem oD {t v c b bt : Int} {es : List HeT} {e : HeT} : ep (t, v, c, b, bt, es ++ [e]) = (e.2.1, e.1) := by
 unfold ep
 simp only [List.length_append, List.length_cons, List.length_nil]
 rw [if_pos (by omega), qR (by omega)]
def okT (s : St) (r : bx) : Prop := r.1 = 2 → r.2.2.2.2.2.2.2.2.1 ≤ s.2.2.2.1 + (s.2.2.2.2.2.length : Int) + 1
theorem zh {N sg : Int} {M P : St} (hM : dw M) (hP : dw P) (h : Jn N M P) (hs : N ≤ sg) {r : bx} (hr : OkR r) (h0 : r.1 ≠ 0) (hk : r.1 = 3 → 0 < r.2.2.2.2.2.2.1 ∧ iq M r.2.2.2.2.2.1 r.2.2.2.2.2.2.1 = false) (hg : okT M r) : Jn N (dP M r sg) (dP P r sg) := by
 have U := vi h
 obtain ⟨⟨t1, t2, t3⟩, al, ⟨d, d1, d2, d3, d4, d5⟩, I⟩ := h
 obtain ⟨Mt, Mv, Mc, Mb, Mbt, Me⟩ := M
 obtain ⟨Pt, Pv, Pc, Pb, Pbt, Pe⟩ := P
 simp only at t1 t2 t3 d1 d2 d3 d4 d5 U
 subst t1 t2 t3
 have b8 := hr.kd
 unfold dP
 by_cases h1 : r.1 = 1
 ·rw [if_pos h1, if_pos h1]
  exact ⟨⟨rfl, rfl, rfl⟩, al, ⟨d, d1, d2, d3, d4, d5⟩, I⟩
 rw [if_neg h1, if_neg h1]
 by_cases h2 : r.1 = 2
 ·rw [if_pos h2, if_pos h2]
  have hx := (gY (hr.e h2)).2.1
  have a7 := hx.1
  have D := hg h2
  have a8 := hM.b.1
  simp only at D a8 ⊢
  obtain ⟨x, ex⟩ : ∃ x, r.2.2.2.2.2.2.2.2.1 = x := ⟨_, rfl⟩
  rw [ex] at a7 D ⊢
  obtain ⟨e, ee⟩ : ∃ e : HeT, (r.2.2.2.2.2.2.2.1, x, r.2.2.2.2.2.2.2.2.2.1, r.2.2.2.2.2.2.2.2.2.2, sg) = e := ⟨_, rfl⟩
  have X : e.2.2.2.2 = sg := by rw [← ee]
  rw [ee, if_neg (show ¬ (Mb + (Me.length : Int) + 1 < x) by omega), if_neg (show ¬ (Pb + (Pe.length : Int) + 1 < x) by omega)]
  by_cases g1 : x ≤ Mb
  ·rw [if_pos g1, if_pos (show x ≤ Pb by omega)]
   exact ⟨⟨rfl, rfl, rfl⟩, rfl, ⟨0, by simp, by simp, rfl, fun i hi => by omega, fun i _ hi => by
    have : i = 0 := by simp at hi; omega
    subst this
    show N ≤ e.2.2.2.2
    omega⟩, fun i m _ u => u⟩
  ·rw [if_neg g1]
   have hl : (Me.take (x - Mb - 1).toNat).length = (x - Mb - 1).toNat := by rw [List.length_take]; omega
   by_cases g2 : x ≤ Pb
   ·rw [if_pos g2]
    refine ⟨⟨rfl, rfl, rfl⟩, ?_, ⟨(x - Mb - 1).toNat, by simp only; omega, by simp only [List.length_append, hl]; omega, ?_, fun i hi => ?_, fun i ab J => ?_⟩, fun i m hm u => ?_⟩
    ·rw [oD]; rfl
    ·simp only
     rw [List.drop_append_of_le_length (by omega), List.drop_of_length_le (by omega)]
     rfl
    ·simp only
     rw [oB (by omega), nk _ hi]
     exact d4 i (by omega)
    ·simp only [List.length_append, hl, List.length_cons, List.length_nil] at J ⊢
     rw [qR (by omega), X]
     exact hs
    ·rw [BC] at u
     rw [rA (by omega) (by omega)]
     by_cases q1 : i = x - 1
     ·rw [if_pos q1] at u
      simp only [decide_eq_true_eq] at u
      omega
     ·rw [if_neg q1] at u
      by_cases q2 : i = x - 1 + 1
      ·rw [if_pos q2] at u
       rw [if_neg (by omega), if_pos (by omega)]
       exact u
      ·rw [if_neg q2] at u
       cases u
   ·rw [if_neg g2]
    have bc : (Pe.take (x - Pb - 1).toNat) = (Me.take (x - Mb - 1).toNat).drop d := by
     rw [d3, List.drop_take]
     congr 1
     omega
    refine ⟨⟨rfl, rfl, rfl⟩, ?_, ⟨d, d1, by simp only [List.length_append, hl]; omega, ?_, fun i hi => ?_, fun i ab J => ?_⟩, fun i m hm u => ?_⟩
    ·rw [oD, oD]
    ·simp only
     rw [bc, List.drop_append_of_le_length (by omega)]
    ·simp only
     rw [oB (by omega), nk _ (by omega)]
     exact d4 i hi
    ·simp only [List.length_append, hl, List.length_cons, List.length_nil] at J ⊢
     by_cases q : i < (x - Mb - 1).toNat
     ·rw [oB (by omega), nk _ q]
      exact d5 i ab (by omega)
     ·rw [qR (by omega), X]
      exact hs
    ·rw [rA (by omega) (by omega)] at u
     rw [rA (by omega) (by omega)]
     by_cases q1 : i < x
     ·rw [if_pos q1] at u ⊢
      exact I i m hm u
     ·rw [if_neg q1] at u ⊢
      exact u
 rw [if_neg h2, if_neg h2]
 obtain ⟨k1, k2⟩ := hk (by omega)
 have k3 : iq (Pt, Pv, Pc, Pb, Pbt, Pe) r.2.2.2.2.2.1 r.2.2.2.2.2.2.1 = false := by
  rw [Bool.eq_false_iff]
  intro hc
  have := I _ _ k1 hc
  rw [k2] at this
  cases this
 rw [k2, k3]
 simp only [Bool.false_eq_true, if_false]
 exact ⟨⟨rfl, rfl, rfl⟩, rfl, ⟨0, by simp, by simp, rfl, fun i hi => by omega, fun i _ hi => by simp at hi⟩, fun i m _ u => u⟩
theorem Cu {N sg : Int} {M P : St} (hM : dw M) (h : Jn N M P) (hs : sg < N) : Jn N (gM M (ir M.2.2.2.2.2 sg)) P := by
 have hp := pg M.2.2.2.2.2 sg
 have hd := rB hM hp
 obtain ⟨t, I, ⟨d, d1, d2, d3, d4, d5⟩, J⟩ := h
 have U : ir M.2.2.2.2.2 sg ≤ d := by
  rcases Nat.lt_or_ge d (ir M.2.2.2.2.2 sg) with hlt | hge
  ·have e1 := rC M.2.2.2.2.2 sg d hlt
   have e2 := d5 d (Nat.le_refl _) (by omega)
   omega
  ·exact hge
 obtain ⟨g, eg⟩ : ∃ g, ir M.2.2.2.2.2 sg = g := ⟨_, rfl⟩
 rw [eg] at hp hd U ⊢
 have u : (gM M g).2.2.2.2.2 = M.2.2.2.2.2.drop g := rfl
 refine ⟨t, by rw [I, hd.2.2], ⟨d - g, by rw [d1, hd.2.1]; omega, by rw [u, List.length_drop]; omega, by rw [u, List.drop_drop, d3]; congr 1; omega, fun i hi => ?_, fun i a8 X => ?_⟩, fun i m hm hh => ?_⟩
 ·rw [u, lh]
  exact d4 (g + i) (by omega)
 ·rw [u, List.length_drop] at X
  rw [u, lh]
  exact d5 (g + i) (by omega) (by omega)
 ·have D := xc hh
  have h1 := J i m hm hh
  have be : P.2.2.2.2.2.length + d = M.2.2.2.2.2.length := by rw [d3, List.length_drop]; omega
  rw [d1] at D
  by_cases h0 : g = 0
  ·subst h0
   unfold gM
   simp only [Nat.lt_irrefl, if_false, List.drop_zero]
   exact h1
  ·have hb : (gM M g).2.2.2.1 = M.2.2.2.1 + (g : Int) := hd.2.1
   have ab : (gM M g).2.2.2.2.1 = (M.2.2.2.2.2.getD (g - 1) dzH).1 := by
    unfold gM
    simp only
    rw [if_pos (by omega)]
   unfold iq at h1 ⊢
   rw [u, hb, ab, List.length_drop]
   by_cases q : i = M.2.2.2.1 + (g : Int)
   ·rw [if_pos q]
    rw [if_neg (by omega), if_pos (by omega), show (i - M.2.2.2.1 - 1).toNat = g - 1 by omega] at h1
    simp only [decide_eq_true_eq] at h1 ⊢
    exact h1.symm
   ·rw [if_neg q, if_pos (by omega), lh]
    rw [if_neg (by omega), if_pos (by omega)] at h1
    rw [show g + (i - (M.2.2.2.1 + (g : Int)) - 1).toNat = (i - M.2.2.2.1 - 1).toNat by omega]
    exact h1
theorem C5 {N : Int} {M P : St} (h : Jn N M P) (u : ∀ i, i < M.2.2.2.2.2.length → N ≤ (M.2.2.2.2.2.getD i dzH).2.2.2.2) : P.2.2.2.1 = M.2.2.2.1 ∧ P.2.2.2.2.2 = M.2.2.2.2.2 := by
 obtain ⟨t, D, ⟨d, I, d2, J, U, d5⟩, X⟩ := h
 have hd : d = 0 := by
  rcases Nat.eq_zero_or_pos d with h0 | h0
  ·exact h0
  ·have e1 := U 0 h0
   have e2 := u 0 (by omega)
   omega
 subst hd
 exact ⟨by rw [I]; simp, by rw [J, List.drop_zero]⟩
end Go.Proofs.YtndjkejhacfpdaaGreatDoor

namespace Go.Proofs.YtndjkejhacfpdaaGreatDoor
open Go.RowKit
def iV (r : bx) : St := (r.2.2.1, r.2.2.2.1, r.2.2.2.2.1, r.2.2.2.2.2.1, r.2.2.2.2.2.2.1, [])
def jp : St → List bx → Int → Prop
 | _, [], _ => True
 | s, r :: l, sg => okT s r ∧ jp (dP s r sg) l sg
theorem qb (s : St) (a b : List bx) (sg : Int) : dI s (a ++ b) sg = dI (dI s a sg) b sg := by unfold dI; rw [List.foldl_append]
theorem nL : ∀ (a : List bx) (s : St) (b : List bx) (sg : Int), jp s a sg → jp (dI s a sg) b sg → jp s (a ++ b) sg
 | [], s, b, sg, _, h => h
 | r :: a, s, b, sg, h1, h2 => ⟨h1.1, nL a (dP s r sg) b sg h1.2 h2⟩
def kw (r : bx) : Prop := (∃ t v c, iK t v c = 0 ∧ r = (1, 0, t, v, c, 0, 0, 0, 0, 0, [])) ∨ (∃ e : EnT, lG e.1 e.2.1 e.2.2.1 e.2.2.2 = 0 ∧ r = dZ e) ∨ (∃ i m, (0 < i ∧ okN i) ∧ (0 < m ∧ okN m) ∧ r = (3, 0, 0, 0, 0, i, m, 0, 0, 0, []))
theorem kx {r : bx} (h : kw r) : OkR r ∧ r.1 ≠ 0 := by
 rcases h with ⟨t, v, c, h1, rfl⟩ | ⟨e, h1, rfl⟩ | ⟨i, m, h1, D, rfl⟩
 ·have u := mK h1
  exact ⟨⟨⟨by simp, by simp⟩, iv, u.1, u.2.1, u.2.2, iv, iv, fun e => absurd e (by simp)⟩, by simp⟩
 ·exact ⟨⟨⟨by simp [dZ], by simp [dZ]⟩, iv, iv, iv, iv, iv, iv, fun _ => h1⟩, by simp [dZ]⟩
 ·exact ⟨⟨⟨by simp, by simp⟩, iv, iv, iv, iv, h1.2, D.2, fun e => absurd e (by simp)⟩, by simp⟩
def hD : St → List bx → Int → Prop
 | _, [], _ => True
 | s, r :: l, sg => (okT s r ∧ (r.1 = 3 → iq s r.2.2.2.2.2.1 r.2.2.2.2.2.2.1 = false)) ∧ hD (dP s r sg) l sg
theorem oO : ∀ (a : List bx) (s : St) (b : List bx) (sg : Int), hD s a sg → hD (dI s a sg) b sg → hD s (a ++ b) sg
 | [], s, b, sg, _, h => h
 | r :: a, s, b, sg, h1, h2 => ⟨h1.1, oO a (dP s r sg) b sg h1.2 h2⟩
theorem zT {N sg : Int} (D : N ≤ sg) : ∀ (rs : List bx) (M P : St), dw M → dw P → Jn N M P → (∀ r, r ∈ rs → kw r) → hD M rs sg → jp P rs sg ∧ Jn N (dI M rs sg) (dI P rs sg) ∧ dw (dI P rs sg)
 | [], M, P, _, hP, h, _, _ => ⟨trivial, h, hP⟩
 | r :: rs, M, P, hM, hP, h, hl, hc => by
  have u := kx (hl r (by simp))
  have I := vi h
  obtain ⟨⟨J, c2⟩, U⟩ := hc
  have X : r.1 = 3 → 0 < r.2.2.2.2.2.2.1 := by
   intro e
   rcases hl r (by simp) with ⟨t, v, c, h1, rfl⟩ | ⟨e, h1, rfl⟩ | ⟨i, m, h1, h2, rfl⟩
   ·simp at e
   ·simp [dZ] at e
   ·exact h2.1
  obtain ⟨g1, g2, g3⟩ := zT D rs (dP M r sg) (dP P r sg) (kf hM u.1 u.2 sg) (kf hP u.1 u.2 sg) (zh hM hP h D u.1 u.2 (fun e => ⟨X e, c2 e⟩) J) (fun x hx => hl x (by simp [hx])) U
  exact ⟨⟨fun e => by have := J e; omega, g1⟩, g2, g3⟩
theorem zU {s u : St} (h : s.2.2.2 = u.2.2.2) (i m : Int) : iq s i m = iq u i m := by unfold iq; rw [h]
theorem yL {s u : St} (h : s.2.2.2 = u.2.2.2) : ep s = ep u := by unfold ep; rw [h]
theorem wu (sg : Int) : ∀ (es : List EnT) (s : St), dw s → gk es = 0 → pL (ep s).1 es = 0 → hD s (es.map dZ) sg
 | [], s, _, _, _ => trivial
 | e :: es, s, hs, hf, hg => by
  have u := mz hf e (by simp)
  have U := kx (r := dZ e) (.inr (.inl ⟨e, u, rfl⟩))
  have hx := (gY u).2.1.1
  have ab := oG hs
  have hb := hs.b.1
  simp only [pL] at hg
  split at hg
  ·omega
  rename_i X
  have D : gk es = 0 := by
   simp only [gk] at hf
   rw [if_pos u] at hf
   exact hf
  have I : okT s (dZ e) := fun _ => by
   show e.2.1 ≤ _
   omega
  have J : (ep (dP s (dZ e) sg)).1 = e.2.1 := by
   unfold dP
   rw [if_neg (show ¬ (dZ e).1 = 1 by simp [dZ]), if_pos (show (dZ e).1 = 2 from rfl), if_neg (show ¬ (s.2.2.2.1 + (s.2.2.2.2.2.length : Int) + 1 < (dZ e).2.2.2.2.2.2.2.2.1) by show ¬ _ < e.2.1; omega)]
   split
   ·rfl
   ·rw [oD]; rfl
  refine ⟨⟨I, fun h3 => absurd h3 (by simp [dZ])⟩, wu sg es _ (kf hs U.1 U.2 sg) D (by rw [J]; exact hg)⟩
theorem sG {s : St} (u : dw s) {b : BaT} (h : jo s b = 0) (sg : Int) : hD s (gp s b) sg := by
 obtain ⟨h1, h2, h3, h4⟩ := oe h
 have I := pi h2
 unfold gp
 obtain ⟨A, U⟩ : ∃ A : List bx, (if b.1 = true ∧ (b.2.1 ≠ s.1 ∨ b.2.2.1 ≠ s.2.1) then [(1, 0, b.2.1, b.2.2.1, s.2.2.1, 0, 0, 0, 0, 0, [])] else []) = A := ⟨_, rfl⟩
 obtain ⟨D, X⟩ : ∃ D : List bx, (if b.1 = true ∧ b.2.2.2.1 ≠ s.2.2.1 then [(1, 0, b.2.1, b.2.2.1, b.2.2.2.1, 0, 0, 0, 0, 0, [])] else []) = D := ⟨_, rfl⟩
 rw [U, X]
 have hA : hD s A sg ∧ (dI s A sg).2.2.2 = s.2.2.2 ∧ dw (dI s A sg) := by
  rw [← U]
  split
  ·rename_i g
   have hk := mK (h1 g.1)
   exact ⟨⟨⟨fun e => absurd e (by simp), fun e => absurd e (by simp)⟩, trivial⟩, rfl, ⟨hk.1, hk.2.1, u.c, u.b, u.bt, u.idx, u.chk⟩⟩
  ·exact ⟨trivial, rfl, u⟩
 obtain ⟨a1, a2, a3⟩ := hA
 obtain ⟨s1, J⟩ : ∃ s1, dI s A sg = s1 := ⟨_, rfl⟩
 rw [J] at a2 a3
 obtain ⟨B, eB⟩ : ∃ B : List bx, (if jt s b = true then [(3, 0, 0, 0, 0, b.2.2.2.2.1, b.2.2.2.2.2.1, 0, 0, 0, [])] else []) = B := ⟨_, rfl⟩
 rw [eB]
 have hB : hD s1 B sg ∧ (ep (dI s1 B sg)).1 = (if jt s b = true then b.2.2.2.2.1 else (ep s).1) ∧ dw (dI s1 B sg) := by
  rw [← eB]
  split
  ·rename_i g
   have hm : iq s1 b.2.2.2.2.1 b.2.2.2.2.2.1 = false := by
    rw [zU a2]
    unfold jt at g
    simp only [Bool.and_eq_true, Bool.not_eq_true'] at g
    exact g.2
   have ht : dP s1 (3, 0, 0, 0, 0, b.2.2.2.2.1, b.2.2.2.2.2.1, 0, 0, 0, []) sg = (s1.1, s1.2.1, s1.2.2.1, b.2.2.2.2.1, b.2.2.2.2.2.1, []) := by
    unfold dP
    rw [if_neg (show ¬ (3 : Int) = 1 by decide), if_neg (show ¬ (3 : Int) = 2 by decide)]
    simp only
    rw [hm]
    rfl
   refine ⟨⟨⟨fun e => absurd e (by simp), fun _ => hm⟩, trivial⟩, ?_, ?_⟩
   ·rw [show dI s1 [(3, 0, 0, 0, 0, b.2.2.2.2.1, b.2.2.2.2.2.1, 0, 0, 0, [])] sg = dP s1 (3, 0, 0, 0, 0, b.2.2.2.2.1, b.2.2.2.2.2.1, 0, 0, 0, []) sg from rfl, ht]
    rfl
   ·rw [show dI s1 [(3, 0, 0, 0, 0, b.2.2.2.2.1, b.2.2.2.2.2.1, 0, 0, 0, [])] sg = dP s1 (3, 0, 0, 0, 0, b.2.2.2.2.1, b.2.2.2.2.2.1, 0, 0, 0, []) sg from rfl, ht]
    exact ⟨a3.t, a3.v, a3.c, I.1, I.2, fun i hi => by simp at hi, fun e he => by cases he⟩
  ·refine ⟨trivial, ?_, a3⟩
   show (ep s1).1 = _
   rw [yL a2]
 obtain ⟨b1, b2, b3⟩ := hB
 refine oO _ _ _ _ (oO _ _ _ _ (oO _ _ _ _ a1 (by rw [J]; exact b1)) ?_) ?_
 ·rw [qb, J]
  exact wu sg _ _ b3 h3 (by rw [b2]; exact h4)
 ·rw [← X]
  split
  ·exact ⟨⟨fun e => absurd e (by simp), fun e => absurd e (by simp)⟩, trivial⟩
  ·trivial
theorem AR {t v c u : Int} (h : iK t v c = 0) (I : rg u 0) : iK t v u = 0 := by
 unfold iK at h ⊢
 split at h
 ·omega
 ·rename_i D
  have : ¬ (¬ (rg t 0 ∧ rg u 0) ∨ v < 0 ∨ 7 < v) := fun x => by
   rcases x with x | x
   ·exact D (.inl fun y => x ⟨y.1, I⟩)
   ·exact D (.inr x)
  rw [if_neg this]
  exact h
theorem rP {s : St} (U : dw s) {b : BaT} (h : jo s b = 0) : ∀ r, r ∈ gp s b → kw r := by
 obtain ⟨h1, X, h3, _⟩ := oe h
 have D := pi X
 intro r u
 unfold gp at u
 rcases List.mem_append.1 u with u | u
 ·rcases List.mem_append.1 u with u | u
  ·rcases List.mem_append.1 u with u | u
   ·split at u
    ·rename_i g
     rw [List.mem_singleton.1 u]
     exact .inl ⟨_, _, _, AR (h1 g.1) ⟨U.c.1, U.c.2⟩, rfl⟩
    ·cases u
   ·split at u
    ·rename_i g
     rw [List.mem_singleton.1 u]
     unfold jt at g
     simp only [Bool.and_eq_true, Bool.not_eq_true', decide_eq_false_iff_not] at g
     have I : b.2.2.2.2.1 ≠ 0 := g.1
     have J : ¬ ¬ (b.2.2.2.2.1 = 0 ↔ b.2.2.2.2.2.1 = 0) := fun x => X (.inr x)
     have ab : b.2.2.2.2.2.1 ≠ 0 := fun e => I ((Decidable.not_not.1 J).2 e)
     have p1 := D.1.1
     have p2 := D.2.1
     exact .inr (.inr ⟨_, _, ⟨by omega, D.1⟩, ⟨by omega, D.2⟩, rfl⟩)
    ·cases u
  ·obtain ⟨e, he, rfl⟩ := List.mem_map.1 u
   exact .inr (.inl ⟨e, mz h3 e he, rfl⟩)
 ·split at u
  ·rename_i g
   rw [List.mem_singleton.1 u]
   exact .inl ⟨_, _, _, h1 g.1, rfl⟩
  ·cases u
/-! ### What is told from a segment on -/
def Rep (H : Nat → bx) (h : Nat → List bx) (u : Nat) : Nat → St → Prop
 | 0, P => jp (iV (H u)) (h u) (u : Int) ∧ P = dI (iV (H u)) (h u) (u : Int)
 | j + 1, P => ∃ Q, Rep H h u j Q ∧ H (u + j + 1) = ct (u + j + 1) Q ∧ jp Q (h (u + j + 1)) ((u + j + 1 : Nat) : Int) ∧ P = dI Q (h (u + j + 1)) ((u + j + 1 : Nat) : Int)
theorem mh {H H' : Nat → bx} {h h' : Nat → List bx} {u : Nat} : ∀ (j : Nat) (P : St), (∀ n, u ≤ n → n ≤ u + j → H' n = H n ∧ h' n = h n) → Rep H h u j P → Rep H' h' u j P
 | 0, P, he, hr => by
  have := he u (Nat.le_refl _) (Nat.le_refl _)
  unfold Rep at hr ⊢
  rw [this.1, this.2]
  exact hr
 | j + 1, P, he, ⟨Q, q1, q2, q3, q4⟩ => by
  have := he (u + j + 1) (by omega) (by omega)
  refine ⟨Q, mh j Q (fun n h1 D => he n h1 (by omega)) q1, ?_, ?_, ?_⟩
  ·rw [this.1]; exact q2
  ·rw [this.2]; exact q3
  ·rw [this.2]; exact q4
theorem AS {H : Nat → bx} {h : Nat → List bx} {u : Nat} {rs : List bx} : ∀ (j : Nat) (P : St), Rep H h u j P → jp P rs ((u + j : Nat) : Int) → Rep H (fun n => if n = u + j then h n ++ rs else h n) u j (dI P rs ((u + j : Nat) : Int))
 | 0, P, ⟨q1, q2⟩, hf => by
  subst q2
  unfold Rep
  simp only [Nat.add_zero, if_true] at hf ⊢
  exact ⟨nL _ _ _ _ q1 hf, (qb _ _ _ _).symm⟩
 | j + 1, P, ⟨Q, q1, q2, q3, q4⟩, hf => by
  subst q4
  refine ⟨Q, mh j Q (fun n h1 D => ⟨rfl, ?_⟩) q1, q2, ?_, ?_⟩
  ·show (if n = u + (j + 1) then h n ++ rs else h n) = h n
   rw [if_neg (by omega)]
  ·show jp Q (if u + j + 1 = u + (j + 1) then _ else _) _
   rw [if_pos (by omega)]
   exact nL _ _ _ _ q3 hf
  ·show _ = dI Q (if u + j + 1 = u + (j + 1) then _ else _) _
   rw [if_pos (by omega), qb]
   rfl
structure lW (w : Wl) (H : Nat → bx) (h : Nat → List bx) : Prop where
 len : w.fs.length = w.m + 1
 sz : (bv w.fs (aE w.last)).1.length = w.size
 fl : ∀ n, w.s0 ≤ n → n ≤ w.last → (bv w.fs (aE n)).1 = dJ (cb (H n) :: (h n).map cb)
 hd : ∀ n, w.s0 ≤ n → n ≤ w.last → ∃ s : St, dw s ∧ iK s.1 s.2.1 s.2.2.1 = 0 ∧ H n = ct n s
 lr : ∀ n, w.s0 ≤ n → n ≤ w.last → ∀ r, r ∈ h n → kw r
 rp : ∀ n0 j, w.s0 ≤ n0 → n0 + j = w.last → ∃ P, Rep H h n0 j P ∧ dw P ∧ Jn (n0 : Int) w.st P
 sg : ∀ i, i < w.st.2.2.2.2.2.length → (w.s0 : Int) ≤ (w.st.2.2.2.2.2.getD i dzH).2.2.2.2 ∧ (w.st.2.2.2.2.2.getD i dzH).2.2.2.2 ≤ (w.last : Int)
 cs : iK w.st.1 w.st.2.1 w.st.2.2.1 = 0
theorem xP {w : Wl} {H : Nat → bx} {h : Nat → List bx} (u : lW w H h) (J : (aW w.fs (aE w.last)).isSome = true) : lW (mM w) H h := by
 have D := ic (v := ((bv w.fs (aE w.last)).1, ((bv w.fs (aE w.last)).1.length : Int))) J
 have I : ∀ x, (bv (mM w).fs x).1 = (bv w.fs x).1 := fun x => by
  show (bv (bE w.fs (aE w.last) _) x).1 = _
  rw [lq]
  split
  ·rename_i e; rw [e]
  ·rfl
 exact ⟨by show (bE w.fs _ _).length = _; rw [D]; exact u.len, by rw [I]; exact u.sz, fun n h1 U => by rw [I]; exact u.fl n h1 U, u.hd, u.lr, u.rp, u.sg, u.cs⟩
theorem wv {fs : FSt} {n : Nat} {b : List UInt8} (u : aW fs (aE n) = none) : (jT fs n b).length = fs.length + 1 := by
 have l1 := iw fs (aE n) (([], 0) : List UInt8 × Int)
 rw [u] at l1
 have I : aW (bE fs (aE n) ([], 0)) (aE n) = some ([], 0) := by rw [eU, if_pos rfl]
 have l2 := iw (bE fs (aE n) ([], 0)) (aE n) (([] ++ b, 0) : List UInt8 × Int)
 rw [I] at l2
 have J : aW (bE (bE fs (aE n) ([], 0)) (aE n) ([] ++ b, 0)) (aE n) = some ([] ++ b, 0) := by rw [eU, if_pos rfl]
 have D := iw (bE (bE fs (aE n) ([], 0)) (aE n) ([] ++ b, 0)) (aE n) (([] ++ b, ((([] ++ b : List UInt8)).length : Int)) : List UInt8 × Int)
 rw [J] at D
 simp only [Option.isSome_none, Option.isSome_some, Bool.false_eq_true, if_false, if_true] at l1 l2 D
 unfold jT
 rw [D, l2, l1]
theorem nr {n : Nat} {s : St} (h : dw s) : dw (iV (ct n s)) := ⟨h.t, h.v, h.c, (ns h).1, (ns h).2, fun i hi => by simp [iV] at hi, fun e u => by cases u⟩
theorem zV {N : Int} {s : St} (h : dw s) (n : Nat) (hn : ∀ i, i < s.2.2.2.2.2.length → (s.2.2.2.2.2.getD i dzH).2.2.2.2 < N) : Jn N s (iV (ct n s)) := by
 have J := oG h
 have D : (iV (ct n s)).2.2.2.2.2 = [] := rfl
 refine ⟨⟨rfl, rfl, rfl⟩, rfl, ⟨s.2.2.2.2.2.length, J, Nat.le_refl _, by rw [D, List.drop_of_length_le (Nat.le_refl _)], hn, fun i h1 h2 => by omega⟩, fun i m hm I => ?_⟩
 have u := xc I
 rw [D] at u
 have X : (iV (ct n s)).2.2.2.1 = (ep s).1 := rfl
 rw [X] at u
 simp only [List.length_nil] at u
 have ei : i = (ep s).1 := by omega
 subst ei
 unfold iq at I
 rw [X, if_pos rfl] at I
 have U : (iV (ct n s)).2.2.2.2.1 = (ep s).2 := rfl
 simp only [U, decide_eq_true_eq] at I
 subst I
 unfold iq
 by_cases h0 : 0 < s.2.2.2.2.2.length
 ·rw [if_neg (by omega), if_pos (by omega), show ((ep s).1 - s.2.2.2.1 - 1).toNat = s.2.2.2.2.2.length - 1 by omega]
  unfold ep
  rw [if_pos h0]
  simp
 ·rw [if_pos (by omega)]
  unfold ep
  rw [if_neg h0]
  simp
theorem AT {T N Z L : Nat} {w : Wl} (J : WOk T N Z L w) (hT : T < 99999990) {H : Nat → bx} {h : Nat → List bx} (D : lW w H h) : ∃ H' h', lW (fK w) H' h' ∧ (w.most ≤ (w.size : Int) → h' (w.last + 1) = []) := by
 have a1 := J.top
 have hh := J.has w.last (by unfold Wl.last; omega) (Nat.le_refl _)
 have hs := xP D hh
 unfold fK
 by_cases hc : w.most ≤ (w.size : Int)
 ·rw [if_pos hc]
  have U : ∀ n, n ≤ w.last → aE n ≠ aE (w.last + 1) := fun n hn e => by
   have := fX (by unfold Wl.last at hn; omega) (by unfold Wl.last; omega) e
   omega
  have ad := ic (v := ((bv w.fs (aE w.last)).1, ((bv w.fs (aE w.last)).1.length : Int))) hh
  have af : aW (bE w.fs (aE w.last) ((bv w.fs (aE w.last)).1, ((bv w.fs (aE w.last)).1.length : Int))) (aE (w.last + 1)) = none := by
   rw [eU, if_neg (U _ (Nat.le_refl _)), J.non _ (by unfold Wl.last; omega) (by unfold Wl.last; omega)]
  obtain ⟨b, eb⟩ : ∃ b, frB (cb (ct (w.last + 1) w.st)) = b := ⟨_, rfl⟩
  have hb : b = dJ [cb (ct (w.last + 1) w.st)] := by rw [← eb, dJ, dJ, List.append_nil]
  rw [eb]
  have bc : w.last = w.s0 + w.m := rfl
  refine ⟨fun n => if n = w.last + 1 then ct n w.st else H n, fun n => if n = w.last + 1 then [] else h n, ⟨?_, ?_, fun n h1 u => ?_, fun n h1 u => ?_, fun n h1 u r hr => ?_, fun I j h1 u => ?_, fun i hi => ?_, D.cs⟩, fun _ => if_pos rfl⟩
  ·show (jT _ (w.last + 1) b).length = w.m + 1 + 1
   rw [wv af, ad, D.len]
  ·show (bv (jT (bE w.fs (aE w.last) _) (w.last + 1) b) (aE (w.s0 + (w.m + 1)))).1.length = b.length
   rw [mQ, show w.s0 + (w.m + 1) = w.last + 1 from rfl, if_pos rfl]
  ·have u : n ≤ w.s0 + (w.m + 1) := u
   simp only at h1 ⊢
   rw [mQ]
   by_cases e : n = w.last + 1
   ·rw [e, if_pos rfl, if_pos rfl, if_pos rfl, hb]; rfl
   ·rw [if_neg (U n (by omega)), if_neg e, if_neg e]
    exact hs.fl n h1 (by show n ≤ w.last; omega)
  ·have u : n ≤ w.s0 + (w.m + 1) := u
   by_cases e : n = w.last + 1
   ·simp only [if_pos e]
    exact ⟨w.st, J.st, D.cs, rfl⟩
   ·simp only [if_neg e]
    exact D.hd n h1 (by omega)
  ·have u : n ≤ w.s0 + (w.m + 1) := u
   by_cases e : n = w.last + 1
   ·simp only [if_pos e] at hr
    cases hr
   ·simp only [if_neg e] at hr
    exact D.lr n h1 (by omega) r hr
  ·have u : I + j = w.s0 + (w.m + 1) := u
   have h1 : w.s0 ≤ I := h1
   show ∃ P, Rep _ _ I j P ∧ dw P ∧ Jn (I : Int) w.st P
   cases j with
   | zero =>
    have e : I = w.last + 1 := by omega
    refine ⟨iV (ct I w.st), ?_, nr J.st, zV J.st I fun i hi => by have := (D.sg i hi).2; omega⟩
    unfold Rep
    simp only [if_pos e]
    exact ⟨trivial, rfl⟩
   | succ j =>
    obtain ⟨P, p1, p2, X⟩ := D.rp I j h1 (by omega)
    have e : I + j + 1 = w.last + 1 := by omega
    refine ⟨P, ⟨P, mh j P (fun n q1 q2 => ⟨if_neg (by omega), if_neg (by omega)⟩) p1, ?_, ?_, ?_⟩, p2, X⟩
    ·simp only [if_pos e]
     unfold ct
     rw [X.la, X.tvc.1, X.tvc.2.1, X.tvc.2.2]
    ·simp only [if_pos e]
     trivial
    ·simp only [if_pos e]
     rfl
  ·have := D.sg i hi
   refine ⟨this.1, Int.le_trans this.2 ?_⟩
   show ((w.last : Nat) : Int) ≤ ((w.s0 + (w.m + 1) : Nat) : Int)
   omega
 ·rw [if_neg hc]; exact ⟨H, h, D, fun x => absurd x hc⟩
theorem B7 {lo hi : Int} {s : St} {r : bx} {sg : Int} (h1 : lo ≤ sg) (D : sg ≤ hi) (h : ∀ e, e ∈ s.2.2.2.2.2 → lo ≤ e.2.2.2.2 ∧ e.2.2.2.2 ≤ hi) : ∀ e, e ∈ (dP s r sg).2.2.2.2.2 → lo ≤ e.2.2.2.2 ∧ e.2.2.2.2 ≤ hi := by
 intro e u
 unfold dP at u
 split at u
 ·exact h e u
 split at u
 ·split at u
  ·exact h e u
  split at u
  ·rw [List.mem_singleton.1 u]; exact ⟨h1, D⟩
  ·rcases List.mem_append.1 u with u | u
   ·exact h e (List.mem_of_mem_take u)
   ·rw [List.mem_singleton.1 u]; exact ⟨h1, D⟩
 split at u
 ·exact h e u
 ·cases u
theorem xQ {lo hi sg : Int} (h1 : lo ≤ sg) (u : sg ≤ hi) : ∀ (rs : List bx) (s : St), (∀ e, e ∈ s.2.2.2.2.2 → lo ≤ e.2.2.2.2 ∧ e.2.2.2.2 ≤ hi) → ∀ e, e ∈ (dI s rs sg).2.2.2.2.2 → lo ≤ e.2.2.2.2 ∧ e.2.2.2.2 ≤ hi
 | [], s, h => h
 | r :: rs, s, h => xQ h1 u rs (dP s r sg) (B7 h1 u h)
theorem CX {l : List HeT} {Q : HeT → Prop} (h : ∀ i, i < l.length → Q (l.getD i dzH)) : ∀ e, e ∈ l → Q e := by
 intro e u
 obtain ⟨i, hi, rfl⟩ := List.mem_iff_getElem.1 u
 have := h i hi
 rw [gi hi] at this
 exact this
theorem B8 {s : St} {r : bx} {sg : Int} (h : kw r) (u : iK s.1 s.2.1 s.2.2.1 = 0) : iK (dP s r sg).1 (dP s r sg).2.1 (dP s r sg).2.2.1 = 0 := by
 rcases h with ⟨t, v, c, h1, rfl⟩ | ⟨e, h1, rfl⟩ | ⟨i, m, h1, D, rfl⟩
 ·exact h1
 ·unfold dP
  rw [if_neg (show ¬ (dZ e).1 = 1 by simp [dZ]), if_pos (show (dZ e).1 = 2 from rfl)]
  split
  ·exact u
  split <;> exact u
 ·unfold dP
  rw [if_neg (show ¬ (3 : Int) = 1 by decide), if_neg (show ¬ (3 : Int) = 2 by decide)]
  split <;> exact u
theorem xR {sg : Int} : ∀ (rs : List bx) (s : St), (∀ r, r ∈ rs → kw r) → iK s.1 s.2.1 s.2.2.1 = 0 → iK (dI s rs sg).1 (dI s rs sg).2.1 (dI s rs sg).2.2.1 = 0
 | [], s, _, h => h
 | r :: rs, s, hl, h => xR rs (dP s r sg) (fun x u => hl x (by simp [u])) (B8 (hl r (by simp)) h)
theorem B9 {T N Z L : Nat} {w : Wl} (hw : WOk T N Z L w) (hT : T < 99999990) {H : Nat → bx} {h : Nat → List bx} (D : lW w H h) {rs : List bx} (hr : ∀ r, r ∈ rs → kw r) (hc : hD w.st rs (w.last : Int)) : lW (kn w rs) H (fun n => if n = w.last then h n ++ rs else h n) := by
 have bc := hw.top
 have hh := hw.has w.last (by unfold Wl.last; omega) (Nat.le_refl _)
 have al := ic (v := ((bv w.fs (aE w.last)).1 ++ fu rs, (bv w.fs (aE w.last)).2)) hh
 have U : ∀ x, (bv (kn w rs).fs x).1 = if aE w.last = x then (bv w.fs (aE w.last)).1 ++ fu rs else (bv w.fs x).1 := fun x => by
  unfold kn
  by_cases hc : 0 < rs.length
  ·simp only [if_pos hc]
   rw [lq]
   split <;> rfl
  ·simp only [if_neg hc]
   have : rs = [] := List.length_eq_zero_iff.1 (by omega)
   rw [this, fu, List.append_nil]
   split
   ·rename_i e; rw [e]
   ·rfl
 have I : (kn w rs).last = w.last := rfl
 have X : (kn w rs).st = dI w.st rs (w.last : Int) := rfl
 have an : ∀ n, n < w.last → aE w.last ≠ aE n := fun n hn e => by
  have := fX (by unfold Wl.last; omega) (by unfold Wl.last at hn; omega) e
  omega
 refine ⟨?_, ?_, fun n h1 J => ?_, D.hd, fun n h1 J r u => ?_, fun n0 j h1 J => ?_, fun i hi => ?_, ?_⟩
 ·show (if 0 < rs.length then bE w.fs (aE w.last) _ else w.fs).length = w.m + 1
  split
  ·rw [al]; exact D.len
  ·exact D.len
 ·rw [I, U, if_pos rfl, List.length_append, D.sz]
  rfl
 ·rw [I] at J
  rw [U]
  by_cases e : n = w.last
  ·simp only [if_pos e]
   rw [e, if_pos rfl, D.fl w.last (by unfold Wl.last; omega) (Nat.le_refl _), rf, ← wm, List.map_append]
   rfl
  ·simp only [if_neg e]
   rw [if_neg (an n (by omega))]
   exact D.fl n h1 J
 ·rw [I] at J
  by_cases e : n = w.last
  ·simp only [if_pos e] at u
   rcases List.mem_append.1 u with u | u
   ·exact D.lr n h1 J r u
   ·exact hr r u
  ·simp only [if_neg e] at u
   exact D.lr n h1 J r u
 ·rw [I] at J
  obtain ⟨P, p1, p2, p3⟩ := D.rp n0 j h1 J
  obtain ⟨g1, g2, g3⟩ := zT (N := (n0 : Int)) (sg := (w.last : Int)) (by omega) rs w.st P hw.st p2 p3 hr hc
  rw [← J] at g1 g2 g3
  have := AS (rs := rs) j P p1 g1
  rw [J] at this g1 g2 g3
  exact ⟨dI P rs (w.last : Int), this, g3, g2⟩
 ·rw [X] at hi ⊢
  rw [I]
  have := xQ (lo := (w.s0 : Int)) (hi := (w.last : Int)) (sg := (w.last : Int)) (by unfold Wl.last; omega) (Int.le_refl _) rs w.st (CX D.sg) _ (mJ hi)
  exact this
 ·rw [X]
  exact xR rs w.st hr D.cs
theorem uk : ∀ (l : List HeT) (sg : Int), ir l sg < l.length → (l.getD (ir l sg) dzH).2.2.2.2 ≠ sg
 | [], sg, h => by simp at h
 | e :: l, sg, h => by
  unfold ir at h ⊢
  split
  ·rename_i u
   rw [if_pos u] at h
   rw [List.length_cons] at h
   have := uk l sg (by omega)
   rw [List.getD_cons_succ]
   exact this
  ·rename_i u
   rw [List.getD_cons_zero]
   exact u
theorem AU {T N Z L : Nat} {u : Wl} (hw : WOk T N Z L u) (hT : T ≤ 99999999) (hm : 0 < u.m) {H : Nat → bx} {h : Nat → List bx} (J : lW u H h) : lW (lB u) H h := by
 have b1 := hw.top
 have hh := hw.has u.s0 (Nat.le_refl _) (by omega)
 have b3 := rF u.fs (aE u.s0) hh
 have I : (lB u).last = u.last := by unfold Wl.last; show u.s0 + 1 + (u.m - 1) = _; omega
 have hg : ∀ n, u.s0 + 1 ≤ n → n ≤ u.last → bv (lB u).fs (aE n) = bv u.fs (aE n) := fun n h1 D => by
  show bv (fj u.fs (aE u.s0)) (aE n) = _
  unfold bv
  rw [mf _ _ _ hw.inv.nd, if_neg (fun e => by have := fX (by omega) (by unfold Wl.last at D; omega) e; omega)]
 have X : (lB u).st = gM u.st (ir u.st.2.2.2.2.2 (u.s0 : Int)) := rfl
 have ab : (gM u.st (ir u.st.2.2.2.2.2 (u.s0 : Int))).2.2.2.2.2 = u.st.2.2.2.2.2.drop (ir u.st.2.2.2.2.2 (u.s0 : Int)) := rfl
 have af : ∀ U j, u.s0 + 1 ≤ U → U + j = u.last → ∃ P, Rep H h U j P ∧ dw P ∧ Jn (U : Int) (lB u).st P := fun U j h1 D => by
  obtain ⟨P, p1, p2, p3⟩ := J.rp U j (by omega) D
  exact ⟨P, p1, p2, Cu hw.st p3 (by omega)⟩
 refine ⟨?_, ?_, fun n h1 D => ?_, fun n h1 D => ?_, fun n h1 D => ?_, fun U j h1 D => ?_, fun i hi => ?_, J.cs⟩
 ·show (fj u.fs (aE u.s0)).length = u.m - 1 + 1
  have := J.len
  omega
 ·rw [I, hg _ (by unfold Wl.last; omega) (Nat.le_refl _)]
  exact J.sz
 ·rw [I] at D
  have ad : u.s0 + 1 ≤ n := h1
  rw [hg n ad D]
  exact J.fl n (by omega) D
 ·rw [I] at D
  have ad : u.s0 + 1 ≤ n := h1
  exact J.hd n (by omega) D
 ·rw [I] at D
  have ad : u.s0 + 1 ≤ n := h1
  exact J.lr n (by omega) D
 ·rw [I] at D
  exact af U j h1 D
 ·rw [I]
  rw [X, ab, List.length_drop] at hi
  obtain ⟨P, p1, p2, p3⟩ := af (u.s0 + 1) (u.m - 1) (Nat.le_refl _) (by unfold Wl.last; omega)
  obtain ⟨d, d1, d2, d3, d4, d5⟩ := p3.lb
  rw [X, ab] at d2 d4 d5
  have b4 : d = 0 := by
   rcases Nat.eq_zero_or_pos d with h0 | h0
   ·exact h0
   ·rw [List.length_drop] at d2
    have e1 := d4 0 h0
    rw [lh, Nat.add_zero] at e1
    have e2 := (J.sg (ir u.st.2.2.2.2.2 (u.s0 : Int)) (by omega)).1
    have e3 := uk u.st.2.2.2.2.2 (u.s0 : Int) (by omega)
    omega
  have e1 := d5 i (by omega) (by rw [List.length_drop]; exact hi)
  have e2 := (J.sg (ir u.st.2.2.2.2.2 (u.s0 : Int) + i) (by omega)).2
  rw [lh] at e1
  rw [X, ab, lh]
  exact ⟨e1, e2⟩
end Go.Proofs.YtndjkejhacfpdaaGreatDoor

namespace Go.Proofs.YtndjkejhacfpdaaGreatDoor
open Go.RowKit
theorem rdI {k : Nat} (u : 12 ≤ k) {b pre r : List UInt8} {x : Int} (h : b = pre ++ (bf x ++ r)) (D : okN x) (I : b.length ≤ 100000000) : cc.f k b ((pre.length : Nat) : Int) 0 = some (x, (((pre ++ bf x).length : Nat) : Int), 0) := by
 rw [cI u I (by rw [h, List.length_append]; omega) 0, uD h D]
theorem rdB {k : Nat} (u : 12 ≤ k) {b pre r d : List UInt8} {most : Int} (h : b = pre ++ (bB d ++ r)) (hd : (d.length : Int) ≤ most) (D : d.length ≤ 100000000) (I : b.length ≤ 100000000) : fe.f k b ((pre.length : Nat) : Int) 0 most = some (d, (((pre ++ bB d).length : Nat) : Int), 0) := by
 rw [cB u I (by rw [h, List.length_append]; omega) 0 most, Be h hd D]
theorem rdD {b pre : List UInt8} (h : b = pre) (u : b.length ≤ 100000000) : cf.v b ((pre.length : Nat) : Int) 0 = 0 := by
 unfold cf.v
 rw [Bd u (by rw [h]; exact Nat.le_refl _) 0, xp (r := []) (by rw [h, List.append_nil]), if_pos rfl]
 rfl
theorem Dc : okN 1 := ⟨by decide, by decide⟩
theorem Dd : okN 2 := ⟨by decide, by decide⟩
theorem De : okN 3 := ⟨by decide, by decide⟩
theorem yD {n t v c i m : Int} (X : okN n) (J : iK t v c = 0) (hi : okN i) (hm : okN m) {k : Nat} (D : 12 ≤ k) : gE.f k (cb (0, n, t, v, c, i, m, 0, 0, 0, [])) = some (0, n, t, v, c, i, m, 0, 0, 0, [], true) := by
 have I := mK J
 have U := jM (0, n, t, v, c, i, m, 0, 0, 0, [])
 simp only [List.length_nil] at U
 have u : cb (0, n, t, v, c, i, m, 0, 0, 0, []) = [] ++ (bf 0 ++ (bf n ++ (bf t ++ (bf v ++ (bf c ++ (bf i ++ (bf m ++ []))))))) := by
  unfold cb
  simp
 obtain ⟨b, eb⟩ : ∃ b, cb (0, n, t, v, c, i, m, 0, 0, 0, []) = b := ⟨_, rfl⟩
 rw [eb] at u U ⊢
 have h1 : b = ([] ++ bf 0) ++ (bf n ++ (bf t ++ (bf v ++ (bf c ++ (bf i ++ (bf m ++ [])))))) := by rw [u]; simp only [List.append_assoc]
 have h2 : b = (([] ++ bf 0) ++ bf n) ++ (bf t ++ (bf v ++ (bf c ++ (bf i ++ (bf m ++ []))))) := by rw [u]; simp only [List.append_assoc]
 have h3 : b = ((([] ++ bf 0) ++ bf n) ++ bf t) ++ (bf v ++ (bf c ++ (bf i ++ (bf m ++ [])))) := by rw [u]; simp only [List.append_assoc]
 have h4 : b = (((([] ++ bf 0) ++ bf n) ++ bf t) ++ bf v) ++ (bf c ++ (bf i ++ (bf m ++ []))) := by rw [u]; simp only [List.append_assoc]
 have h5 : b = ((((([] ++ bf 0) ++ bf n) ++ bf t) ++ bf v) ++ bf c) ++ (bf i ++ (bf m ++ [])) := by rw [u]; simp only [List.append_assoc]
 have h6 : b = (((((([] ++ bf 0) ++ bf n) ++ bf t) ++ bf v) ++ bf c) ++ bf i) ++ (bf m ++ []) := by rw [u]; simp only [List.append_assoc]
 have h7 : b = (((((([] ++ bf 0) ++ bf n) ++ bf t) ++ bf v) ++ bf c) ++ bf i) ++ bf m := by rw [u]; simp only [List.append_assoc, List.append_nil]
 unfold gE.f
 rw [vH (by omega), Option.bind_some]
 simp only []
 rw [show ((0 : Nat) : Int) = ((([] : List UInt8).length : Nat) : Int) from rfl, rdI D u iv (by omega), Option.bind_some]
 simp only []
 rw [if_pos trivial, rdI D h1 X (by omega), Option.bind_some, Option.bind_some]
 simp only []
 rw [if_pos (by decide), rdI D h2 I.1 (by omega), Option.bind_some]
 simp only []
 rw [rdI D h3 I.2.1 (by omega), Option.bind_some]
 simp only []
 rw [rdI D h4 I.2.2 (by omega), Option.bind_some]
 simp only []
 rw [At, Option.bind_some, Option.bind_some, J]
 simp only []
 rw [if_pos (by decide), rdI D h5 hi (by omega), Option.bind_some]
 simp only []
 rw [rdI D h6 hm (by omega), Option.bind_some]
 simp only []
 rw [if_pos (by decide), if_pos trivial, Option.bind_some, Option.bind_some, Option.bind_some]
 simp only []
 rw [if_neg (by decide), Option.bind_some]
 simp only []
 rw [rdD h7 (by omega)]
 rfl
theorem wO {t v c : Int} (J : iK t v c = 0) {k : Nat} (D : 12 ≤ k) : gE.f k (cb (1, 0, t, v, c, 0, 0, 0, 0, 0, [])) = some (1, 0, t, v, c, 0, 0, 0, 0, 0, [], true) := by
 have I := mK J
 have U := jM (1, 0, t, v, c, 0, 0, 0, 0, 0, [])
 simp only [List.length_nil] at U
 have u : cb (1, 0, t, v, c, 0, 0, 0, 0, 0, []) = [] ++ (bf 1 ++ (bf t ++ (bf v ++ (bf c ++ [])))) := by
  unfold cb
  simp
 obtain ⟨b, X⟩ : ∃ b, cb (1, 0, t, v, c, 0, 0, 0, 0, 0, []) = b := ⟨_, rfl⟩
 rw [X] at u U ⊢
 have h1 : b = ([] ++ bf 1) ++ (bf t ++ (bf v ++ (bf c ++ []))) := by rw [u]; simp only [List.append_assoc]
 have h2 : b = (([] ++ bf 1) ++ bf t) ++ (bf v ++ (bf c ++ [])) := by rw [u]; simp only [List.append_assoc]
 have h3 : b = ((([] ++ bf 1) ++ bf t) ++ bf v) ++ (bf c ++ []) := by rw [u]; simp only [List.append_assoc]
 have h4 : b = ((([] ++ bf 1) ++ bf t) ++ bf v) ++ bf c := by rw [u]; simp only [List.append_assoc, List.append_nil]
 unfold gE.f
 rw [vH (by omega), Option.bind_some]
 simp only []
 rw [show ((0 : Nat) : Int) = ((([] : List UInt8).length : Nat) : Int) from rfl, rdI D u Dc (by omega), Option.bind_some]
 simp only []
 rw [if_neg (by decide), Option.bind_some]
 simp only []
 rw [if_pos (by decide), rdI D h1 I.1 (by omega), Option.bind_some]
 simp only []
 rw [rdI D h2 I.2.1 (by omega), Option.bind_some]
 simp only []
 rw [rdI D h3 I.2.2 (by omega), Option.bind_some]
 simp only []
 rw [At, Option.bind_some, Option.bind_some, J]
 simp only []
 rw [if_neg (by decide), Option.bind_some]
 simp only []
 rw [if_neg (by decide), Option.bind_some]
 simp only []
 rw [rdD h4 (by omega)]
 rfl
theorem yI {i m : Int} (h1 : 0 < i) (X : 0 < m) (hi : okN i) (hm : okN m) {k : Nat} (D : 12 ≤ k) : gE.f k (cb (3, 0, 0, 0, 0, i, m, 0, 0, 0, [])) = some (3, 0, 0, 0, 0, i, m, 0, 0, 0, [], true) := by
 have U := jM (3, 0, 0, 0, 0, i, m, 0, 0, 0, [])
 simp only [List.length_nil] at U
 have u : cb (3, 0, 0, 0, 0, i, m, 0, 0, 0, []) = [] ++ (bf 3 ++ (bf i ++ (bf m ++ []))) := by
  unfold cb
  simp
 obtain ⟨b, eb⟩ : ∃ b, cb (3, 0, 0, 0, 0, i, m, 0, 0, 0, []) = b := ⟨_, rfl⟩
 rw [eb] at u U ⊢
 have I : b = ([] ++ bf 3) ++ (bf i ++ (bf m ++ [])) := by rw [u]; simp only [List.append_assoc]
 have J : b = (([] ++ bf 3) ++ bf i) ++ (bf m ++ []) := by rw [u]; simp only [List.append_assoc]
 have h3 : b = (([] ++ bf 3) ++ bf i) ++ bf m := by rw [u]; simp only [List.append_assoc, List.append_nil]
 unfold gE.f
 rw [vH (by omega), Option.bind_some]
 simp only []
 rw [show ((0 : Nat) : Int) = ((([] : List UInt8).length : Nat) : Int) from rfl, rdI D u De (by omega), Option.bind_some]
 simp only []
 rw [if_neg (by decide), Option.bind_some]
 simp only []
 rw [if_neg (by decide), Option.bind_some]
 simp only []
 rw [if_pos (by decide), rdI D I hi (by omega), Option.bind_some]
 simp only []
 rw [rdI D J hm (by omega), Option.bind_some]
 simp only []
 rw [if_pos (by decide), if_neg (by decide), Option.bind_some, Option.bind_some, Option.bind_some]
 simp only []
 rw [if_neg (by decide), Option.bind_some]
 simp only []
 rw [rdD h3 (by omega)]
 simp [h1, X]
theorem wP {e : EnT} (X : lG e.1 e.2.1 e.2.2.1 e.2.2.2 = 0) {k : Nat} (D : 12 ≤ k) : gE.f k (cb (dZ e)) = some (2, 0, 0, 0, 0, 0, 0, e.1, e.2.1, e.2.2.1, e.2.2.2, true) := by
 have hd := (gY X).2.2.2.1
 have hl := jM (dZ e)
 have I : (dZ e).2.2.2.2.2.2.2.2.2.2 = e.2.2.2 := rfl
 rw [I] at hl
 have J := tc e.1 e.2.1 e.2.2.1 e.2.2.2
 have u : cb (dZ e) = [] ++ (bf 2 ++ (bB (txE e.1 e.2.1 e.2.2.1 e.2.2.2) ++ [])) := by
  unfold cb dZ
  simp
 obtain ⟨x, ex⟩ : ∃ x, txE e.1 e.2.1 e.2.2.1 e.2.2.2 = x := ⟨_, rfl⟩
 have U : vJ x = (e.1, e.2.1, e.2.2.1, e.2.2.2, 0) := by
  have := BM X []
  rw [List.append_nil, if_pos rfl, ex] at this
  exact this
 rw [ex] at u J
 obtain ⟨b, eb⟩ : ∃ b, cb (dZ e) = b := ⟨_, rfl⟩
 rw [eb] at u hl ⊢
 have h1 : b = ([] ++ bf 2) ++ (bB x ++ []) := by rw [u]; simp only [List.append_assoc]
 have h2 : b = ([] ++ bf 2) ++ bB x := by rw [u]; simp only [List.append_assoc, List.append_nil]
 unfold gE.f
 rw [vH (by omega), Option.bind_some]
 simp only []
 rw [show ((0 : Nat) : Int) = ((([] : List UInt8).length : Nat) : Int) from rfl, rdI D u Dd (by omega), Option.bind_some]
 simp only []
 rw [if_neg (by decide), Option.bind_some]
 simp only []
 rw [if_neg (by decide), Option.bind_some]
 simp only []
 rw [if_neg (by decide), Option.bind_some]
 simp only []
 rw [if_pos trivial, rdB D h1 (by omega) (by omega) (by omega), Option.bind_some]
 simp only []
 rw [C9 D (by omega), Option.bind_some, U, Option.bind_some]
 simp only []
 rw [rdD h2 (by omega)]
 rfl
theorem B3 {r : bx} (h : kw r) {k : Nat} (u : 12 ≤ k) : gE.f k (cb r) = some (r.1, r.2.1, r.2.2.1, r.2.2.2.1, r.2.2.2.2.1, r.2.2.2.2.2.1, r.2.2.2.2.2.2.1, r.2.2.2.2.2.2.2.1, r.2.2.2.2.2.2.2.2.1, r.2.2.2.2.2.2.2.2.2.1, r.2.2.2.2.2.2.2.2.2.2, true) := by
 rcases h with ⟨t, v, c, h1, rfl⟩ | ⟨e, h1, rfl⟩ | ⟨i, m, h1, D, rfl⟩
 ·exact wO h1 u
 ·exact wP h1 u
 ·exact yI h1.1 D.1 h1.2 D.2 u
theorem CT (fs : FSt) (la : List UInt8) (a : Int) (d : Bool) (most : Int) (u : List Int) (sz : Int) {s : St} (h : dw s) (hl : s.2.2.2.2.2.length < 2 ^ 30) {r : bx} (D : OkR r) (h0 : r.1 ≠ 0) (hg : okT s r) (sg : Int) :
  eQ.f fs la a d most u sz s.1 s.2.1 s.2.2.1 s.2.2.2.1 s.2.2.2.2.1 s.2.2.2.2.2 false r.1 r.2.1 r.2.2.1 r.2.2.2.1 r.2.2.2.2.1 r.2.2.2.2.2.1 r.2.2.2.2.2.2.1 r.2.2.2.2.2.2.2.1 r.2.2.2.2.2.2.2.2.1 r.2.2.2.2.2.2.2.2.2.1 r.2.2.2.2.2.2.2.2.2.2 sg =
   some (true, most, u, sz, (dP s r sg).1, (dP s r sg).2.1, (dP s r sg).2.2.1, (dP s r sg).2.2.2.1, (dP s r sg).2.2.2.2.1, (dP s r sg).2.2.2.2.2, false) := by
 have hk := D.kd
 have hb := h.b
 unfold okN at hb
 unfold eQ.f dP
 by_cases h1 : r.1 = 1
 ·rw [if_pos h1, if_pos h1]; rfl
 rw [if_neg h1, if_neg h1]
 by_cases h2 : r.1 = 2
 ·rw [if_pos h2, if_pos h2, show eS.f = some () from rfl, Option.bind_some]
  unfold iI.f
  have I := (gY (D.e h2)).2.1
  have af := I.1
  have al := I.2
  have J := nl h
  have U := hg h2
  have X : ¬ s.2.2.2.1 + (s.2.2.2.2.2.length : Int) + 1 < r.2.2.2.2.2.2.2.2.1 := by omega
  rw [w64 (n := s.2.2.2.1 + (s.2.2.2.2.2.length : Int)) (by omega) (by omega), w64 (n := s.2.2.2.1 + (s.2.2.2.2.2.length : Int) + 1) (by omega) (by omega)]
  rw [if_neg X, if_neg X]
  by_cases g2 : r.2.2.2.2.2.2.2.2.1 ≤ s.2.2.2.1
  ·rw [if_pos g2, if_pos g2, w64 (n := r.2.2.2.2.2.2.2.2.1 - 1) (by omega) (by omega)]
   simp only [Option.bind_some]
   rw [show r.2.2.2.2.2.2.2.2.1 - (r.2.2.2.2.2.2.2.2.1 - 1) = 1 by omega, show IntKind.i64.wrap (1 : Int) = 1 from by decide, show IntKind.i64.wrap ((1 : Int) - 1) = 0 from by decide, if_pos ⟨by omega, by omega, by simp⟩]
   have ec : cut ([] : List HeT) (0 : Int) (0 : Int) = [] := rfl
   rw [ec, if_pos (by simp)]
   rfl
  ·rw [if_neg g2, if_neg g2]
   simp only [Option.bind_some]
   have e1 : IntKind.i64.wrap (IntKind.i64.wrap (r.2.2.2.2.2.2.2.2.1 - s.2.2.2.1) - 1) = (((r.2.2.2.2.2.2.2.2.1 - s.2.2.2.1 - 1).toNat : Nat) : Int) := by
    rw [w64 (n := r.2.2.2.2.2.2.2.2.1 - s.2.2.2.1) (by omega) (by omega), w64 (by omega) (by omega)]
    omega
   rw [e1, if_pos ⟨by omega, by omega, by omega⟩, zi, if_pos (by simp only [List.length_take, List.length_cons, List.length_nil]; omega)]
   rfl
 rw [if_neg h2, if_neg h2, if_pos (by omega), show eS.f = some () from rfl, Option.bind_some]
 unfold iJ.f
 rw [uB fs la a d most u sz h false D.i, Option.bind_some]
 cases hh : iq s r.2.2.2.2.2.1 r.2.2.2.2.2.2.1 with
 | true => rfl
 | false => rfl
/-! ### One segment -/
theorem ud (fs : FSt) (la : List UInt8) (most : Int) (u : List Int) (sz wh ec : Int) (n : Nat) (J : List UInt8) (rs : List bx) (U : ∀ r, r ∈ rs → kw r) (hn : rs.length < 2 ^ 29) : ∀ (k i : Nat) (s : St), rs.length - i + 20 < k → i ≤ rs.length → dw s → s.2.2.2.2.2.length + (rs.length - i) < 2 ^ 30 → jp s (rs.drop i) (n : Int) →
  di.l0 (n : Int) (J :: rs.map cb, wh, ec) (fs, la, 0, false) k ((i + 1 : Nat) : Int) most u sz s.1 s.2.1 s.2.2.1 s.2.2.2.1 s.2.2.2.2.1 s.2.2.2.2.2 false =
   some (most, u, sz, (dI s (rs.drop i) (n : Int)).1, (dI s (rs.drop i) (n : Int)).2.1, (dI s (rs.drop i) (n : Int)).2.2.1, (dI s (rs.drop i) (n : Int)).2.2.2.1, (dI s (rs.drop i) (n : Int)).2.2.2.2.1, (dI s (rs.drop i) (n : Int)).2.2.2.2.2, false)
 | 0, i, s, h, _, _, _, _ => by omega
 | k + 1, i, s, hk, hi, hs, hsl, hf => by
  rw [di.l0]
  simp only [List.length_cons, List.length_map]
  by_cases hlt : i < rs.length
  ·obtain ⟨D, a6⟩ : ∃ D : bx, D = (0, 0, 0, 0, 0, 0, 0, 0, 0, 0, []) := ⟨_, rfl⟩
   have X : rs.getD i D ∈ rs := by rw [gi hlt]; exact List.getElem_mem _
   have hd : rs.drop i = rs.getD i D :: rs.drop (i + 1) := iP rs D hlt
   have hg : (J :: rs.map cb).getD ((i + 1 : Nat) : Int).toNat [] = cb (rs.getD i D) := by
    rw [Int.toNat_natCast, List.getD_cons_succ, gi (by rw [List.length_map]; exact hlt), List.getElem_map, gi hlt]
   rw [hd] at hf ⊢
   obtain ⟨r, er⟩ : ∃ r, rs.getD i D = r := ⟨_, rfl⟩
   rw [er] at X hg hf ⊢
   have I := kx (U r X)
   have a8 := rD s r (n : Int)
   rw [if_pos (by omega), if_pos (by omega), hg, B3 (U r X) (by omega), Option.bind_some]
   have ab : decide (r.1 = 0) = false := by simp [I.2]
   have ad : decide (((i + 1 : Nat) : Int) = 0) = false := by simp; omega
   simp only []
   rw [ab, ad, if_neg (by decide), Option.bind_some, if_neg (by omega), CT fs la 0 false most u sz hs (by omega) I.1 I.2 hf.1 (n : Int), Option.bind_some, Option.bind_some]
   simp only [Bool.not_true, Bool.false_eq_true, if_false]
   rw [ws1 (by omega)]
   exact ud fs la most u sz wh ec n J rs U hn k (i + 1) (dP s r (n : Int)) (by omega) (by omega) (kf hs I.1 I.2 _) (by omega) hf.2
  ·rw [if_neg (by omega), List.drop_of_length_le (by omega)]
   rfl
theorem B4 {T N Z L : Nat} {w : Wl} (h : WOk T N Z L w) {n : Nat} (h1 : w.s0 ≤ n) (u : n ≤ w.last) : (bv w.fs (aE n)).1.length ≤ 16777216 := by
 have D := h.has n h1 u
 exact Nat.le_trans (oj (ko D)) h.inv.sz
end Go.Proofs.YtndjkejhacfpdaaGreatDoor

namespace Go.Proofs.YtndjkejhacfpdaaGreatDoor
open Go.RowKit
theorem yB (m : Nat) : iC.f (m + 100) = some true := by kernel_rfl
def opZ (o : OpW) : Nat := 512 + kg (OpW.es o) + 128 * (OpW.es o).length
def qy (l : List OpW) : Nat := (l.map opZ).sum
def pS (l : List OpW) : Nat := (l.map fun o => (OpW.es o).length + 3).sum
theorem tW (o : OpW) (l : List OpW) : qy (o :: l) = opZ o + qy l := by simp [qy]
theorem tX (o : OpW) (l : List OpW) : pS (o :: l) = (OpW.es o).length + 3 + pS l := by simp [pS]
theorem vS : ∀ l : List EnT, kg l + l.length ≤ Mu.mu l
 | [] => by simp [kg, nQ]
 | e :: l => by
  have u := vS l
  obtain ⟨a, b, c, d⟩ := e
  rw [pT, xb, jH, jH, jH, pe, pe, pe, uX, List.length_cons]
  simp only
  omega
theorem CH (o : OpW) : kg (OpW.es o) + (OpW.es o).length + 1 ≤ Mu.mu o := by
 obtain ⟨a, b, c, d, e, f, g, h, l⟩ := o
 have := vS l
 rw [jH, jH, jH, jH, jH, jH, jH, jH, pe, pe, Bv, pe]
 show kg l + l.length + 1 ≤ _
 omega
theorem xx : ∀ l : List OpW, (l.map fun o => kg (OpW.es o)).sum + l.length + (l.map fun o => (OpW.es o).length).sum ≤ Mu.mu l
 | [] => by simp [nQ]
 | o :: l => by
  have u := xx l
  have := CH o
  rw [xb]
  simp only [List.map_cons, List.sum_cons, List.length_cons]
  omega
theorem xy : ∀ l : List OpW, qy l = 512 * l.length + (l.map fun o => kg (OpW.es o)).sum + 128 * (l.map fun o => (OpW.es o).length).sum
 | [] => by simp [qy]
 | o :: l => by
  have u := xy l
  rw [tW, u]
  unfold opZ
  simp only [List.map_cons, List.sum_cons, List.length_cons]
  omega
theorem xz : ∀ l : List OpW, pS l = 3 * l.length + (l.map fun o => (OpW.es o).length).sum
 | [] => by simp [pS]
 | o :: l => by
  have u := xz l
  rw [tX, u]
  simp only [List.map_cons, List.sum_cons, List.length_cons]
  omega
theorem rM {f : OpW → Nat} : ∀ {l : List OpW} {o : OpW}, o ∈ l → f o ≤ (l.map f).sum
 | [], _, h => by cases h
 | y :: l, o, h => by
  rw [List.map_cons, List.sum_cons]
  rcases List.mem_cons.1 h with rfl | h
  ·omega
  ·have := rM (f := f) h; omega
theorem tY {e : EnT} : ∀ {l : List EnT}, e ∈ l → e.2.2.2.length ≤ kg l
 | [], h => by cases h
 | x :: l, h => by
  rw [pT]
  rcases List.mem_cons.1 h with rfl | h
  ·omega
  ·have := tY h; omega
theorem vT : gg 256 ([] : FSt) := Dn 256
theorem tZ : ∀ x, x ∈ gb ([] : FSt) → oV x = 0 := fun x u => by simp [gb] at u
theorem yC : ∀ x, x ∈ gb ([] : FSt) → x.length ≤ 2 ^ 40 := fun x u => by simp [gb] at u
end Go.Proofs.YtndjkejhacfpdaaGreatDoor

namespace Go.Proofs.YtndjkejhacfpdaaGreatDoor
open Go.RowKit
/-! ### The names in order -/
theorem xT : ∀ {a b : List UInt8} (c d : List UInt8), a.length = b.length → a < b → a ++ c < b ++ d
 | [], [], _, _, _, h => absurd h (List.lt_irrefl _)
 | [], _ :: _, _, _, h, _ => by simp at h
 | _ :: _, [], _, _, h, _ => by simp at h
 | x :: a, y :: b, c, d, hl, h => by
  rw [List.cons_append, List.cons_append]
  rw [List.cons_lt_cons_iff] at h ⊢
  rcases h with h | ⟨h1, u⟩
  ·exact .inl h
  ·exact .inr ⟨h1, xT c d (by simpa using hl) u⟩
theorem tr : ∀ (a : List UInt8) {c d : List UInt8}, c < d → a ++ c < a ++ d
 | [], _, _, h => h
 | x :: a, c, d, h => by
  rw [List.cons_append, List.cons_append, List.cons_lt_cons_iff]
  exact .inr ⟨rfl, tr a h⟩
theorem Cc {m n : Nat} (u : m < 10) (D : n < 10) (h : m < n) : UInt8.ofNat (48 + m) < UInt8.ofNat (48 + n) := by
 rw [UInt8.lt_iff_toNat_lt, UInt8.toNat_ofNat', UInt8.toNat_ofNat']
 omega
theorem xU : ∀ (w : Nat) {m n : Nat}, m < n → n < 10 ^ w → pad w m < pad w n
 | 0, m, n, h, h2 => by simp at h2; omega
 | w + 1, m, n, h, h2 => by
  rw [pad, pad]
  by_cases hd : m / 10 < n / 10
  ·exact xT _ _ (by rw [pm, pm]) (xU w hd (by rw [Nat.pow_succ] at h2; omega))
  ·have e : m / 10 = n / 10 := by omega
   rw [e]
   refine tr _ ?_
   rw [List.cons_lt_cons_iff]
   exact .inl (Cc (by omega) (by omega) (by omega))
theorem AX {m n : Nat} (h : m < n) (u : n ≤ 99999999) : aE m < aE n := tr _ (xU 8 h (by omega))
theorem AY {s0 m : Nat} (h : s0 + m ≤ 99999999) : (lT s0 m).Pairwise (· < ·) := by
 unfold lT
 rw [List.pairwise_map]
 refine List.Pairwise.imp_of_mem ?_ (List.pairwise_lt_range' (s := s0) (n := m + 1))
 intro a b D u hab
 rw [List.mem_range'_1] at u
 exact AX hab (by omega)
theorem xV : ∀ {a b : List (List UInt8)}, a.Nodup → (∀ x, x ∈ a → x ∈ b) → a.length ≤ b.length
 | [], b, _, _ => Nat.zero_le _
 | x :: a, b, hn, hs => by
  have D := hs x (by simp)
  have u := List.nodup_cons.1 hn
  have := xV (a := a) (b := b.erase x) u.2 fun y I => (List.mem_erase_of_ne (fun e => u.1 (by rw [← e]; exact I))).2 (hs y (by simp [I]))
  rw [List.length_erase_of_mem D] at this
  have : 0 < b.length := List.length_pos_of_mem D
  rw [List.length_cons]
  omega
theorem CL {fs : FSt} {s0 m : Nat} (nd : (fs.map (·.1)).Nodup) (hT : s0 + m ≤ 99999999) (has : ∀ n, s0 ≤ n → n ≤ s0 + m → (aW fs (aE n)).isSome = true) (X : fs.length = m + 1) : gb fs = lT s0 m := by
 have hk := vD nd
 have U := AY (s0 := s0) (m := m) (by omega)
 have I : ∀ {l : List (List UInt8)}, l.Pairwise (· < ·) → l.Nodup := fun h => h.imp fun {a b} hab e => by rw [e] at hab; exact List.lt_irrefl _ hab
 have u : ∀ x, x ∈ lT s0 m → x ∈ gb fs := fun x D => by
  unfold lT at D
  obtain ⟨n, hn, rfl⟩ := List.mem_map.1 D
  rw [List.mem_range'_1] at hn
  exact (nI fs).mem_iff.2 ((oh fs _).2 (has n (by omega) (by omega)))
 refine tP hk U fun x => ⟨fun D => ?_, u x⟩
 rcases Decidable.em (x ∈ lT s0 m) with h | h
 ·exact h
 ·have := xV (a := x :: lT s0 m) (b := gb fs) (List.nodup_cons.2 ⟨h, I U⟩) fun y J => by
   rcases List.mem_cons.1 J with rfl | J
   ·exact D
   ·exact u y J
  rw [List.length_cons, mL, ug, X] at this
  omega
/-! ### Open -/
theorem vW {s0 m : Nat} (h1 : 1 ≤ s0) (u : s0 + m ≤ 99999999) : ∀ (k i : Nat) (acc : List Int), m + 1 - i + 20 < k → i ≤ m + 1 → acc.length ≤ i → bS.l0 (lT s0 m) k (i : Int) acc = some (acc ++ (dB s0 m).drop i)
 | 0, i, acc, h, _, _ => by omega
 | k + 1, i, acc, h, hi, ha => by
  rw [bS.l0, mL]
  by_cases hlt : i < m + 1
  ·rw [if_pos (by omega), if_pos (by omega), Int.toNat_natCast, vu (by omega), zu (by rw [kc]; omega) (by omega), pQ (by omega), Option.bind_some]
   simp only []
   rw [if_pos (by simp; omega), if_pos (by simp only [List.length_cons, List.length_nil]; omega), ws1 (by omega), vW h1 u k (i + 1) _ (by omega) (by omega) (by simp; omega), iP (dB s0 m) 0 (i := i) (by rw [dC]; omega), km (by omega)]
   simp
  ·rw [if_neg (by omega), List.drop_of_length_le (by rw [dC]; omega)]; simp
theorem vX {s0 m : Nat} (D : s0 + m ≤ 99999999) : ∀ (k i : Nat), m + 1 - i < k → i ≤ m + 1 → bS.l1 (dB s0 m) k (i : Int) = some ()
 | 0, i, h, _ => by omega
 | k + 1, i, h, hi => by
  have u : (dB s0 m).getD (0 : Int).toNat 0 = (s0 : Int) := by
   have := km (s0 := s0) (m := m) (i := 0) (by omega)
   rw [Nat.add_zero] at this
   exact this
  rw [bS.l1, dC]
  by_cases hlt : i < m + 1
  ·rw [if_pos (by omega), if_pos (by omega), if_pos (by omega), u, Int.toNat_natCast, km (by omega), if_pos (by rw [w64 (by omega) (by omega)]; omega), ws1 (by omega)]
   exact vX D k (i + 1) (by omega) (by omega)
  ·rw [if_neg (by omega)]
theorem oo {H : Nat → bx} {h : Nat → List bx} {u : Nat} : ∀ (j : Nat) (P Q : St), Rep H h u j P → Rep H h u j Q → P = Q
 | 0, P, Q, p, q => by rw [p.2, q.2]
 | j + 1, P, Q, ⟨P', p1, _, _, p4⟩, ⟨Q', q1, _, _, q4⟩ => by rw [p4, q4, oo j P' Q' p1 q1]
theorem pU {H : Nat → bx} {h : Nat → List bx} {u : Nat} (j : Nat) : ∀ (d : Nat) (P : St), Rep H h u (j + d) P → ∃ Q, Rep H h u j Q
 | 0, P, p => ⟨P, p⟩
 | d + 1, P, ⟨P', p1, _⟩ => pU j d P' p1
theorem wt {T N Z L : Nat} {w : Wl} (I : WOk T N Z L w) {H : Nat → bx} {h : Nat → List bx} (J : lW w H h) {n : Nat} (h1 : w.s0 ≤ n) (D : n ≤ w.last) : (h n).length < 2097152 := by
 have U := B4 I h1 D
 have u := oq (cb (H n) :: (h n).map cb)
 rw [← J.fl n h1 D] at u
 simp only [List.length_cons, List.length_map] at u
 omega
/-! ### The law -/
theorem Dr (x : Int) : lW (jf [] x) (fun n => ct n st0) (fun _ => []) := by
 obtain ⟨b, D⟩ : ∃ b, frB (cb (ct 1 st0)) = b := ⟨_, rfl⟩
 have I : b = dJ [cb (ct 1 st0)] := by rw [← D, dJ, dJ, List.append_nil]
 unfold jf
 rw [D]
 refine ⟨?_, ?_, fun n h1 u => ?_, fun n h1 u => ⟨st0, ob, by decide, rfl⟩, fun n h1 u r J => by simp at J, fun U j h1 u => ?_, fun i hi => by simp [st0] at hi, by simp only [st0]; decide⟩
 ·show (jT [] 1 b).length = 0 + 1
  rw [wv rfl]
  rfl
 ·simp only [Wl.last]
  rw [mQ, if_pos rfl]
 ·have e : n = 1 := by simp only [Wl.last] at h1 u; omega
  subst e
  simp only
  rw [mQ, if_pos rfl, I]
  rfl
 ·simp only [Wl.last] at h1 u
  have e : U = 1 := by omega
  have X : j = 0 := by omega
  subst e X
  exact ⟨iV (ct 1 st0), ⟨trivial, rfl⟩, nr ob, zV ob 1 fun i hi => by simp [st0] at hi⟩
end Go.Proofs.YtndjkejhacfpdaaGreatDoor

namespace Go.Proofs.YtndjkejhacfpdaaGreatDoor
open Go.RowKit
abbrev FaT := Int × Int × Int × Int × Int × Int × Int × Int × Int × List UInt8
abbrev MoT := Int × Int × Int × Int × List Int × List (List UInt8)
def fct (r : bx) : FaT := (r.1, r.2.2)
theorem CV {s : St} (h : dw s) {i : Int} (hi : okN i) (m : Int) : gG.f s.1 s.2.1 s.2.2.1 s.2.2.2.1 s.2.2.2.2.1 (s.2.2.2.2.2.map kJ) i m = some (iq s i m) := by
 have I := h.b
 unfold okN at I hi
 have D := nl h
 unfold gG.f iq
 simp only [List.length_map]
 by_cases e : i = s.2.2.2.1
 ·rw [if_pos e]
  by_cases e2 : m = s.2.2.2.2.1
  ·rw [if_pos (by simp [e, e2])]; simp [e2]
  ·rw [if_neg (by simp [e2]), if_neg (by simp; omega)]
   simp [e2]
 ·rw [if_neg e, if_neg (by simp [e]), w64 (n := i - s.2.2.2.1) (by omega) (by omega), w64 (n := i - s.2.2.2.1 - 1) (by omega) (by omega)]
  by_cases h2 : s.2.2.2.1 < i ∧ i - s.2.2.2.1 ≤ (s.2.2.2.2.2.length : Int)
  ·rw [if_pos (by simp; omega), if_pos h2, if_pos (by omega), Option.bind_some]
   have u : (i - s.2.2.2.1 - 1).toNat < s.2.2.2.2.2.length := by omega
   rw [gi (by rw [List.length_map]; exact u), List.getElem_map, gi u]
   rfl
  ·rw [if_neg (by simp; omega), if_neg h2]; rfl
theorem wp (l : List EnT) (u : l.length < 2 ^ 30) : ∀ (k i : Nat) (acc : List FaT), l.length - i < k → i ≤ l.length → acc.length ≤ i + 10 → cS.l0 l k acc (i : Int) = some (acc ++ ((l.drop i).map dZ).map fct)
 | 0, i, acc, h, _, _ => by omega
 | k + 1, i, acc, h, hi, ha => by
  rw [cS.l0]
  by_cases hlt : i < l.length
  ·rw [if_pos (by omega), if_pos (by omega), Int.toNat_natCast, if_pos (by simp only [List.length_cons, List.length_nil]; omega), ws1 (by omega), wp l u k (i + 1) _ (by omega) (by omega) (by simp; omega), iP l bh hlt]
   simp [dZ, fct]
  ·rw [if_neg (by omega), List.drop_of_length_le (by omega)]; simp
theorem B2 {s : St} (h : dw s) (b : BaT) (D : ¬ oc b) (hl : b.2.2.2.2.2.2.length < 2 ^ 30) {k : Nat} (hk : b.2.2.2.2.2.2.length < k) :
  cS.f k s.1 s.2.1 s.2.2.1 s.2.2.2.1 s.2.2.2.2.1 (s.2.2.2.2.2.map kJ) b.1 b.2.1 b.2.2.1 b.2.2.2.1 b.2.2.2.2.1 b.2.2.2.2.2.1 b.2.2.2.2.2.2 = some ((gp s b).map fct) := by
 have hi := (pi D).1
 unfold cS.f gp
 have h1 : ((if b.1 = true then (some ((!decide (b.2.1 = s.1)) || (!decide (b.2.2.1 = s.2.1)))) else (some false)).bind fun U => (if U = true then (if ([((1 : Int), b.2.1, b.2.2.1, s.2.2.1, (0 : Int), (0 : Int), (0 : Int), (0 : Int), (0 : Int), ([] : List UInt8))] : List FaT).length * 96 ≤ 140737488355328 then (some (([((1 : Int), b.2.1, b.2.2.1, s.2.2.1, (0 : Int), (0 : Int), (0 : Int), (0 : Int), (0 : Int), ([] : List UInt8))] : List FaT), b.2.1, b.2.2.1)) else none) else (some (([] : List FaT), s.1, s.2.1)))) = some (if b.1 = true ∧ (b.2.1 ≠ s.1 ∨ b.2.2.1 ≠ s.2.1) then ([(1, b.2.1, b.2.2.1, s.2.2.1, 0, 0, 0, 0, 0, [])], b.2.1, b.2.2.1) else ([], s.1, s.2.1)) := by
  rw [if_pos (c := ([((1 : Int), b.2.1, b.2.2.1, s.2.2.1, (0 : Int), (0 : Int), (0 : Int), (0 : Int), (0 : Int), ([] : List UInt8))] : List FaT).length * 96 ≤ 140737488355328) (by simp)]
  cases hb : b.1 with
  | false => simp
  | true => by_cases x : b.2.1 = s.1 <;> by_cases y : b.2.2.1 = s.2.1 <;> simp [x, y]
 rw [h1, Option.bind_some]
 obtain ⟨u, X⟩ : ∃ r : List FaT × Int × Int, (if b.1 = true ∧ (b.2.1 ≠ s.1 ∨ b.2.2.1 ≠ s.2.1) then (([(1, b.2.1, b.2.2.1, s.2.2.1, 0, 0, 0, 0, 0, [])] : List FaT), b.2.1, b.2.2.1) else ([], s.1, s.2.1)) = r := ⟨_, rfl⟩
 have l1 : u.1.length ≤ 1 := by rw [← X]; split <;> simp
 have m1 : u.1 = (if b.1 = true ∧ (b.2.1 ≠ s.1 ∨ b.2.2.1 ≠ s.2.1) then [((1, 0, b.2.1, b.2.2.1, s.2.2.1, 0, 0, 0, 0, 0, []) : bx)] else []).map fct := by rw [← X]; split <;> rfl
 rw [X]
 have h2 : (((if (0 : Int) < b.2.2.2.2.1 then ((gG.f s.1 s.2.1 s.2.2.1 s.2.2.2.1 s.2.2.2.2.1 (s.2.2.2.2.2.map kJ) b.2.2.2.2.1 b.2.2.2.2.2.1).bind fun I => (some (!I))) else (some false)).bind fun J => (if J = true then (if (u.1.length + ([((3 : Int), (0 : Int), (0 : Int), (0 : Int), b.2.2.2.2.1, b.2.2.2.2.2.1, (0 : Int), (0 : Int), (0 : Int), ([] : List UInt8))] : List FaT).length) * 96 ≤ 140737488355328 then (some (u.1 ++ ([((3 : Int), (0 : Int), (0 : Int), (0 : Int), b.2.2.2.2.1, b.2.2.2.2.2.1, (0 : Int), (0 : Int), (0 : Int), ([] : List UInt8))] : List FaT))) else none) else (some u.1)))) = some (u.1 ++ (if jt s b = true then [((3, 0, 0, 0, 0, b.2.2.2.2.1, b.2.2.2.2.2.1, 0, 0, 0, []) : bx)] else []).map fct) := by
  rw [if_pos (c := (u.1.length + ([((3 : Int), (0 : Int), (0 : Int), (0 : Int), b.2.2.2.2.1, b.2.2.2.2.2.1, (0 : Int), (0 : Int), (0 : Int), ([] : List UInt8))] : List FaT).length) * 96 ≤ 140737488355328) (by simp only [List.length_cons, List.length_nil]; omega), CV h hi]
  have h0 := hi.1
  unfold jt
  by_cases x : b.2.2.2.2.1 = 0
  ·simp [x]
  ·rw [if_pos (show (0 : Int) < b.2.2.2.2.1 by omega)]
   cases iq s b.2.2.2.2.1 b.2.2.2.2.2.1 <;> simp [x, fct]
 rw [h2, Option.bind_some]
 obtain ⟨r2, e2⟩ : ∃ r : List bx, (if jt s b = true then [(3, 0, 0, 0, 0, b.2.2.2.2.1, b.2.2.2.2.2.1, 0, 0, 0, [])] else []) = r := ⟨_, rfl⟩
 have l2 : r2.length ≤ 1 := by rw [← e2]; split <;> simp
 rw [e2]
 have h3 := wp b.2.2.2.2.2.2 hl k 0 (u.1 ++ r2.map fct) (by omega) (by omega) (by simp; omega)
 rw [List.drop_zero, show ((0 : Nat) : Int) = (0 : Int) from rfl] at h3
 rw [h3, Option.bind_some]
 have hc : ((b.1 && (!decide (b.2.2.2.1 = s.2.2.1))) = true) ↔ (b.1 = true ∧ b.2.2.2.1 ≠ s.2.2.1) := by simp
 simp only [List.map_append, m1]
 by_cases x : b.1 = true ∧ b.2.2.2.1 ≠ s.2.2.1
 ·rw [if_pos (hc.2 x), if_pos x, if_pos (by
   rw [← m1]
   simp only [List.length_append, List.length_map, List.length_cons, List.length_nil]; omega)]
  rfl
 ·rw [if_neg (fun y => x (hc.1 y)), if_neg x]
  simp
/-! ### The model -/
def mZ (m : MoT) (f : FaT) : MoT :=
 if f.1 = 1 then (f.2.1, f.2.2.1, f.2.2.2.1, m.2.2.2.1, m.2.2.2.2.1, m.2.2.2.2.2)
 else if f.1 = 3 then (m.1, m.2.1, m.2.2.1, f.2.2.2.2.1, [], [])
 else if f.1 = 2 then
  (if f.2.2.2.2.2.2.2.1 - m.2.2.2.1 - 1 < 0 then (m.1, m.2.1, m.2.2.1, f.2.2.2.2.2.2.2.1 - 1, [f.2.2.2.2.2.2.1], [f.2.2.2.2.2.2.2.2.2])
  else (m.1, m.2.1, m.2.2.1, m.2.2.2.1, m.2.2.2.2.1.take (f.2.2.2.2.2.2.2.1 - m.2.2.2.1 - 1).toNat ++ [f.2.2.2.2.2.2.1], m.2.2.2.2.2.take (f.2.2.2.2.2.2.2.1 - m.2.2.2.1 - 1).toNat ++ [f.2.2.2.2.2.2.2.2.2]))
 else m
theorem xN {α : Type} (l : List α) {i : Int} (h : 0 ≤ i) : cut l (0 : Int) (min i (l.length : Int)) = l.take i.toNat := by
 unfold cut
 simp only [Int.toNat_zero, List.drop_zero]
 by_cases hc : i ≤ (l.length : Int)
 ·rw [Int.min_eq_left hc]
 ·rw [Int.min_eq_right (by omega), Int.toNat_natCast, List.take_length, List.take_of_length_le (by omega)]
structure rR (m : MoT) (n : Nat) : Prop where
 f : okN m.2.2.2.1
 l : m.2.2.2.2.1.length = m.2.2.2.2.2.length
 n : m.2.2.2.2.1.length ≤ n
theorem zK {m : MoT} {n : Nat} (h : rR m n) (hn : n < 2 ^ 30) {r : bx} (D : kw r) : fY.f m.1 m.2.1 m.2.2.1 m.2.2.2.1 m.2.2.2.2.1 m.2.2.2.2.2 (fct r).1 (fct r).2.1 (fct r).2.2.1 (fct r).2.2.2.1 (fct r).2.2.2.2.1 (fct r).2.2.2.2.2.1 (fct r).2.2.2.2.2.2.1 (fct r).2.2.2.2.2.2.2.1 (fct r).2.2.2.2.2.2.2.2.1 (fct r).2.2.2.2.2.2.2.2.2 = some (mZ m (fct r)) ∧ rR (mZ m (fct r)) (n + 1) := by
 have I := h.f
 have J := h.l
 have U := h.n
 unfold okN at I
 rcases D with ⟨t, v, c, h1, rfl⟩ | ⟨e, h1, rfl⟩ | ⟨i, t, h1, h2, rfl⟩
 ·exact ⟨rfl, h.f, h.l, by show m.2.2.2.2.1.length ≤ _; omega⟩
 ·have u := (gY h1).2.1
  have X := u.1
  have ab := u.2
  unfold fY.f mZ
  rw [if_neg (show ¬ (fct (dZ e)).1 = 1 by simp [fct, dZ]), if_neg (show ¬ (fct (dZ e)).1 = 3 by simp [fct, dZ]), if_pos (show (fct (dZ e)).1 = 2 from rfl), if_neg (show ¬ (fct (dZ e)).1 = 1 by simp [fct, dZ]), if_neg (show ¬ (fct (dZ e)).1 = 3 by simp [fct, dZ]), if_pos (show (fct (dZ e)).1 = 2 from rfl)]
  have ex : (fct (dZ e)).2.2.2.2.2.2.2.1 = e.2.1 := rfl
  rw [ex, w64 (n := e.2.1 - m.2.2.2.1) (by omega) (by omega), w64 (n := e.2.1 - m.2.2.2.1 - 1) (by omega) (by omega)]
  by_cases g : e.2.1 - m.2.2.2.1 - 1 < 0
  ·rw [if_pos g, if_pos g, w64 (n := e.2.1 - 1) (by omega) (by omega)]
   refine ⟨rfl, ⟨by show 0 ≤ e.2.1 - 1; omega, by show e.2.1 - 1 ≤ _; omega⟩, rfl, by show 1 ≤ _; omega⟩
  ·rw [if_neg g, if_neg g]
   simp only [Option.bind_some]
   have t1 : (m.2.2.2.2.1.take (e.2.1 - m.2.2.2.1 - 1).toNat).length ≤ n := by rw [List.length_take]; omega
   have t2 : (m.2.2.2.2.2.take (e.2.1 - m.2.2.2.1 - 1).toNat).length ≤ n := by rw [List.length_take]; omega
   rw [xN m.2.2.2.2.1 (by omega), xN m.2.2.2.2.2 (by omega), if_pos (by omega), if_pos (by simp only [List.length_nil]; omega), if_pos (by simp only [List.nil_append, List.length_cons, List.length_nil]; omega), if_pos (by omega), if_pos (by simp only [List.length_nil]; omega), if_pos (by simp only [List.nil_append, List.length_cons, List.length_nil]; omega)]
   refine ⟨rfl, h.f, ?_, ?_⟩
   ·simp only [List.length_append, List.length_take, List.length_cons, List.length_nil, J]
   ·simp only [List.length_append, List.length_cons, List.length_nil]; omega
 ·exact ⟨rfl, h1.2, rfl, Nat.zero_le _⟩
/-! ### A story and the model -/
structure Agr (s : St) (m : MoT) (ab : Int) : Prop where
 st : s.1 = m.1 ∧ s.2.1 = m.2.1 ∧ s.2.2.1 = m.2.2.1
 ln : m.2.2.2.2.1.length = m.2.2.2.2.2.length
 la : s.2.2.2.1 + (s.2.2.2.2.2.length : Int) = m.2.2.2.1 + (m.2.2.2.2.1.length : Int)
 en : ∀ x : Int, s.2.2.2.1 < x → m.2.2.2.1 < x → ab < x → x ≤ s.2.2.2.1 + (s.2.2.2.2.2.length : Int) → (s.2.2.2.2.2.getD (x - s.2.2.2.1 - 1).toNat dzH).1 = m.2.2.2.2.1.getD (x - m.2.2.2.1 - 1).toNat 0 ∧ (s.2.2.2.2.2.getD (x - s.2.2.2.1 - 1).toNat dzH).2.2.2.1 = m.2.2.2.2.2.getD (x - m.2.2.2.1 - 1).toNat []
 bs : s.2.2.2.1 ≤ max ab m.2.2.2.1
theorem rV {s : St} {m : MoT} {D u : Int} (h : Agr s m D) (hab : D ≤ u) : Agr s m u := ⟨h.st, h.ln, h.la, fun x h1 I U J => h.en x h1 I (by omega) J, by have := h.bs; omega⟩
theorem zO {s u : St} {m : MoT} {I : Int} (h : Agr s m I) (h1 : u.1 = s.1 ∧ u.2.1 = s.2.1 ∧ u.2.2.1 = s.2.2.1) (D : u.2.2.2.1 = s.2.2.2.1) (J : u.2.2.2.2.2 = s.2.2.2.2.2) : Agr u m I := by
 obtain ⟨a, b, c, d, e⟩ := h
 exact ⟨by rw [h1.1, h1.2.1, h1.2.2]; exact a, b, by rw [D, J]; exact c, by rw [D, J]; exact d, by rw [D]; exact e⟩
theorem gtk {α : Type} (l : List α) (d : α) {i n : Nat} (h : i < n) : (l.take n).getD i d = l.getD i d := by simp only [List.getD_eq_getElem?_getD, List.getElem?_take, if_pos h]
theorem gal {α : Type} {a b : List α} {d : α} {i : Nat} (h : i < a.length) : (a ++ b).getD i d = a.getD i d := by rw [List.getD_eq_getElem?_getD, List.getElem?_append_left h, ← List.getD_eq_getElem?_getD]
theorem gat {α : Type} {a : List α} {e d : α} {i : Nat} (h : i = a.length) : (a ++ [e]).getD i d = e := by
 rw [List.getD_eq_getElem?_getD, List.getElem?_append_right (by omega), h, Nat.sub_self]
 rfl
theorem AO {s : St} {m : MoT} {J : Int} (hs : dw s) (h : Agr s m J) {r : bx} (hr : kw r) (hk : r.1 = 3 → iq s r.2.2.2.2.2.1 r.2.2.2.2.2.2.1 = false) (hg : okT s r) (sg : Int) : Agr (dP s r sg) (mZ m (fct r)) J := by
 obtain ⟨a, b, c, d, e⟩ := h
 have bc := hs.b.1
 rcases hr with ⟨t, v, w, h1, rfl⟩ | ⟨n, h1, rfl⟩ | ⟨i, t, h1, h2, rfl⟩
 ·exact ⟨⟨rfl, rfl, rfl⟩, b, c, d, e⟩
 ·have hx := (gY h1).2.1.1
  have U := hg rfl
  have ex : (dZ n).2.2.2.2.2.2.2.2.1 = n.2.1 := rfl
  rw [ex] at U
  unfold dP mZ
  rw [if_neg (show ¬ (dZ n).1 = 1 by simp [dZ]), if_pos (show (dZ n).1 = 2 from rfl), if_neg (show ¬ (fct (dZ n)).1 = 1 by simp [fct, dZ]), if_neg (show ¬ (fct (dZ n)).1 = 3 by simp [fct, dZ]), if_pos (show (fct (dZ n)).1 = 2 from rfl)]
  rw [ex, show (fct (dZ n)).2.2.2.2.2.2.2.1 = n.2.1 from rfl, if_neg (show ¬ (s.2.2.2.1 + (s.2.2.2.2.2.length : Int) + 1 < n.2.1) by omega)]
  have l1 : (s.2.2.2.2.2.take (n.2.1 - s.2.2.2.1 - 1).toNat).length = min (n.2.1 - s.2.2.2.1 - 1).toNat s.2.2.2.2.2.length := List.length_take
  have l2 : (m.2.2.2.2.1.take (n.2.1 - m.2.2.2.1 - 1).toNat).length = min (n.2.1 - m.2.2.2.1 - 1).toNat m.2.2.2.2.1.length := List.length_take
  have X : (m.2.2.2.2.2.take (n.2.1 - m.2.2.2.1 - 1).toNat).length = min (n.2.1 - m.2.2.2.1 - 1).toNat m.2.2.2.2.2.length := List.length_take
  by_cases g1 : n.2.1 ≤ s.2.2.2.1
  ·rw [if_pos g1]
   by_cases g2 : n.2.1 - m.2.2.2.1 - 1 < 0
   ·rw [if_pos g2]
    refine ⟨a, rfl, rfl, fun x u I x3 D => ?_, ?_⟩
    ·simp only [List.length_cons, List.length_nil] at u D
     have : (x - (n.2.1 - 1) - 1).toNat = 0 := by omega
     simp only [this]
     exact ⟨rfl, rfl⟩
    ·show n.2.1 - 1 ≤ max J (n.2.1 - 1); omega
   ·rw [if_neg g2]
    refine ⟨a, ?_, ?_, fun x u I x3 D => ?_, ?_⟩
    ·simp only [List.length_append, l2, X, b, List.length_cons, List.length_nil]
    ·simp only [List.length_append, l2, List.length_cons, List.length_nil]; omega
    ·simp only [List.length_cons, List.length_nil] at u I D
     have e0 : (x - (n.2.1 - 1) - 1).toNat = 0 := by omega
     simp only [e0]
     rw [gat (by rw [l2]; omega), gat (by rw [X]; omega)]
     exact ⟨rfl, rfl⟩
    ·show n.2.1 - 1 ≤ max J m.2.2.2.1; omega
  ·rw [if_neg g1]
   by_cases g2 : n.2.1 - m.2.2.2.1 - 1 < 0
   ·rw [if_pos g2]
    refine ⟨a, rfl, ?_, fun x u I x3 D => ?_, ?_⟩
    ·simp only [List.length_append, l1, List.length_cons, List.length_nil]; omega
    ·simp only [List.length_append, l1, List.length_cons, List.length_nil] at u I D
     have e0 : (x - (n.2.1 - 1) - 1).toNat = 0 := by omega
     simp only [e0]
     rw [gat (by rw [l1]; omega)]
     exact ⟨rfl, rfl⟩
    ·show s.2.2.2.1 ≤ max J (n.2.1 - 1); omega
   ·rw [if_neg g2]
    refine ⟨a, ?_, ?_, fun x u I x3 D => ?_, e⟩
    ·simp only [List.length_append, l2, X, b, List.length_cons, List.length_nil]
    ·simp only [List.length_append, l1, l2, List.length_cons, List.length_nil]; omega
    ·simp only [List.length_append, l1, List.length_cons, List.length_nil] at u I D ⊢
     by_cases q : x = n.2.1
     ·rw [gat (by rw [l1]; omega), gat (by rw [l2]; omega), gat (by rw [X]; omega)]
      exact ⟨rfl, rfl⟩
     ·rw [gal (by rw [l1]; omega), gal (by rw [l2]; omega), gal (by rw [X]; omega), gtk _ _ (by omega), gtk _ _ (by omega), gtk _ _ (by omega)]
      exact d x u I x3 (by omega)
 ·have hh := hk rfl
  have e1 : dP s (3, 0, 0, 0, 0, i, t, 0, 0, 0, []) sg = (s.1, s.2.1, s.2.2.1, i, t, []) := by
   unfold dP
   rw [if_neg (show ¬ (3 : Int) = 1 by decide), if_neg (show ¬ (3 : Int) = 2 by decide)]
   simp only at hh ⊢
   rw [hh]
   rfl
  rw [e1]
  refine ⟨a, rfl, rfl, fun x u I x3 D => ?_, ?_⟩
  ·simp only [List.length_nil] at u D
   omega
  ·show i ≤ max J i; omega
/-! ### What it says -/
theorem xO {s : St} {m : MoT} {n : Nat} (U : dw s) (X : rR m n) (hn : n < 2 ^ 30) (I : Int) (hl : s.2.2.2.2.2.length < 2 ^ 30) : ∀ (k i : Nat), s.2.2.2.2.2.length - i + 10000 < k → i ≤ s.2.2.2.2.2.length →
  ∃ o, cJ.l0 m.2.2.2.1 m.2.2.2.2.1 m.2.2.2.2.2 (s.2.2.2.2.2.map kJ) I k (i : Int) = some o ∧ (Agr s m I → o = .inl ())
 | 0, i, h, _ => by omega
 | k + 1, i, h, hi => by
  have hf := X.f
  have bc := X.l
  have hb := U.b
  unfold okN at hf hb
  rw [cJ.l0, List.length_map]
  by_cases hlt : i < s.2.2.2.2.2.length
  ·obtain ⟨o, o1, o2⟩ := xO U X hn I hl k (i + 1) (by omega) (by omega)
   have ad := U.idx i hlt
   have u := gY (U.chk _ (mJ hlt))
   have af := u.2.1.1
   have al := u.2.1.2
   have hd := u.2.2.2.1
   have hg : (s.2.2.2.2.2.map kJ).getD (i : Int).toNat bh = kJ (s.2.2.2.2.2.getD i dzH) := by
    rw [Int.toNat_natCast, gi (by rw [List.length_map]; exact hlt), List.getElem_map, gi hlt]
   rw [if_pos (by omega), if_pos (by omega), hg]
   obtain ⟨e, ee⟩ : ∃ e, s.2.2.2.2.2.getD i dzH = e := ⟨_, rfl⟩
   rw [ee] at ad af al hd ⊢
   have e1 : (kJ e).2.1 = e.2.1 := rfl
   rw [e1, w64 (n := e.2.1 - m.2.2.2.1) (by omega) (by omega), w64 (n := e.2.1 - m.2.2.2.1 - 1) (by omega) (by omega), ws1 (by omega), o1]
   by_cases g : (decide (e.2.1 ≤ I) || decide (e.2.1 - m.2.2.2.1 - 1 < 0)) = true
   ·rw [if_pos g]
    exact ⟨o, rfl, o2⟩
   ·rw [if_neg g]
    simp only [Bool.or_eq_true, decide_eq_true_eq, not_or] at g
    by_cases g2 : (m.2.2.2.2.1.length : Int) ≤ e.2.1 - m.2.2.2.1 - 1
    ·rw [if_pos g2, Option.bind_some, if_pos rfl]
     refine ⟨_, rfl, fun D => ?_⟩
     have := D.la
     omega
    ·rw [if_neg g2, if_pos (by omega), Option.bind_some]
     have J : Agr s m I → (kJ e).1 = m.2.2.2.2.1.getD (e.2.1 - m.2.2.2.1 - 1).toNat 0 ∧ (kJ e).2.2.2 = m.2.2.2.2.2.getD (e.2.1 - m.2.2.2.1 - 1).toNat [] := fun D => by
      have h4 := D.en e.2.1 (by omega) (by omega) (by omega) (by omega)
      rw [show (e.2.1 - s.2.2.2.1 - 1).toNat = i by omega, ee] at h4
      exact h4
     by_cases g3 : (!decide ((kJ e).1 = m.2.2.2.2.1.getD (e.2.1 - m.2.2.2.1 - 1).toNat 0)) = true
     ·rw [if_pos g3]
      refine ⟨_, rfl, fun D => ?_⟩
      rw [(J D).1] at g3
      simp at g3
     ·rw [if_neg g3, if_pos (by omega), wg (show (kJ e).2.2.2.length < 2 ^ 62 by show e.2.2.2.1.length < _; omega) (show (kJ e).2.2.2.length + 1 ≤ k by show e.2.2.2.1.length + 1 ≤ k; omega), Option.bind_some]
      by_cases g4 : (!decide ((kJ e).2.2.2 = m.2.2.2.2.2.getD (e.2.1 - m.2.2.2.1 - 1).toNat [])) = true
      ·rw [if_pos g4]
       refine ⟨_, rfl, fun D => ?_⟩
       rw [(J D).2] at g4
       simp at g4
      ·rw [if_neg g4]
       exact ⟨o, rfl, o2⟩
  ·rw [if_neg (by omega)]
   exact ⟨_, rfl, fun _ => rfl⟩
theorem CP {s : St} {m : MoT} {n : Nat} (J : dw s) (U : rR m n) (hn : n < 2 ^ 30) (I : Int) (hl : s.2.2.2.2.2.length < 2 ^ 30) {k : Nat} (hk : s.2.2.2.2.2.length + 10000 < k) :
  ∃ b, cJ.f k m.1 m.2.1 m.2.2.1 m.2.2.2.1 m.2.2.2.2.1 m.2.2.2.2.2 s.1 s.2.1 s.2.2.1 s.2.2.2.1 s.2.2.2.2.1 (s.2.2.2.2.2.map kJ) I = some b ∧ (Agr s m I → b = true) := by
 obtain ⟨o, o1, o2⟩ := xO J U hn I hl k 0 (by omega) (by omega)
 rw [show ((0 : Nat) : Int) = (0 : Int) from rfl] at o1
 have hf := U.f
 have a6 := U.n
 have hb := J.b
 have af := nl J
 unfold okN at hf hb
 unfold cJ.f
 rw [List.length_map, w64 (n := s.2.2.2.1 + (s.2.2.2.2.2.length : Int)) (by omega) (by omega), w64 (n := m.2.2.2.1 + (m.2.2.2.2.1.length : Int)) (by omega) (by omega)]
 by_cases g : (((!(decide (s.1 = m.1) && (decide (s.2.1 = m.2.1) && (decide (s.2.2.1 = m.2.2.1))))) || (!decide (s.2.2.2.1 + (s.2.2.2.2.2.length : Int) = m.2.2.2.1 + (m.2.2.2.2.1.length : Int)))) || (decide (max I m.2.2.2.1 < s.2.2.2.1))) = true
 ·rw [if_pos g]
  refine ⟨_, rfl, fun D => ?_⟩
  have h1 := D.bs
  have X := D.st
  rw [X.1, X.2.1, X.2.2, D.la] at g
  simp only [decide_true, Bool.and_self, Bool.not_true, Bool.or_self, Bool.false_or, decide_eq_true_eq] at g
  omega
 ·rw [if_neg g, o1]
  cases o with
  | inl u => exact ⟨true, rfl, fun _ => rfl⟩
  | inr b => exact ⟨b, rfl, fun D => by have := o2 D; cases this⟩
end Go.Proofs.YtndjkejhacfpdaaGreatDoor

namespace Go.Proofs.YtndjkejhacfpdaaGreatDoor
open Go.RowKit
def AOk (a : Int) : Prop := 0 ≤ a ∧ a ≤ 9223372036854775807
def dA (a : Int) : Int := if a = 0 then 0 else a - 1
theorem nG {a : Int} (h : AOk a) : AOk (dA a) := by unfold AOk at h ⊢; unfold dA; split <;> omega
theorem pE {l : List UInt8} {a : Int} (h : AOk a) (h1 : a ≠ 1) : gB l a false = (false, l, dA a, false) := by
 unfold AOk at h
 unfold gB dA
 by_cases h0 : a = 0
 ·rw [if_pos h0, if_pos h0, h0]
 ·rw [if_neg h0, if_neg h0, w64 (by omega) (by omega), decide_eq_false (by omega)]
theorem Al {fs : FSt} {l x : List UInt8} {a : Int} (u : AOk a) (D : nmB x = true) (I : aW fs x = none) (J : fs.length < 256) : ma fs l a false x = if a = 1 then (11, fs, l, 0, true) else (0, bE fs x ([], 0), l, dA a, false) := by
 unfold ma
 rw [if_neg Bool.false_ne_true, if_neg (by rw [D]; decide), if_neg (by rw [I]; decide), if_neg (by omega)]
 by_cases h1 : a = 1
 ·subst h1; rfl
 ·rw [pE u h1, if_neg h1]; rfl
theorem ve {fs : FSt} {l x b : List UInt8} {v : List UInt8 × Int} {a : Int} (D : AOk a) (u : aW fs x = some v) (I : szF fs + b.length ≤ 16777216) : mb fs l a false x b = if a = 1 then (11, bE fs x (v.1 ++ b.take (b.length / 2), v.2), x, 0, true) else (0, bE fs x (v.1 ++ b, v.2), x, dA a, false) := by
 unfold mb
 rw [kb u, if_pos (by rw [u]; rfl), if_neg Bool.false_ne_true, if_neg (by omega)]
 by_cases h1 : a = 1
 ·subst h1; rfl
 ·rw [pE D h1, if_neg h1]; rfl
theorem sl {fs : FSt} {l x : List UInt8} {v : List UInt8 × Int} {a : Int} (D : AOk a) (u : aW fs x = some v) : oy fs l a false x = if a = 1 then (11, fs, l, 0, true) else (0, bE fs x (v.1, (v.1.length : Int)), l, dA a, false) := by
 unfold oy
 rw [kb u, if_pos (by rw [u]; rfl), if_neg Bool.false_ne_true]
 by_cases h1 : a = 1
 ·subst h1; rfl
 ·rw [pE D h1, if_neg h1]; rfl
theorem Am {fs : FSt} {l x : List UInt8} {a : Int} (u : AOk a) (D : (aW fs x).isSome = true) : mc fs l a false x = if a = 1 then (11, fs, l, 0, true) else (0, fj fs x, (if l = x then [] else l), dA a, false) := by
 unfold mc
 rw [if_neg Bool.false_ne_true, if_neg (by rw [D]; decide)]
 by_cases h1 : a = 1
 ·subst h1; rfl
 ·rw [pE u h1, if_neg h1]; rfl
theorem iO (e : Int) : fg.f e = some e := by
 unfold fg.f
 split
 ·rename_i h; rw [h]
 ·rfl
def Dk (fs : FSt) (la : List UInt8) (n : Nat) (b : List UInt8) (u : FSt) (D : List UInt8) : Prop :=
 (u = fs ∧ D = la) ∨ ((∃ q, q = b.take q.length ∧ u = bE (bE fs (aE n) ([], 0)) (aE n) (q, 0)) ∧ D = aE n)
theorem zb {fs : FSt} (x : List UInt8) (u v : List UInt8 × Int) : bE (bE fs x u) x v = bE fs x v := by
 induction fs with
 | nil => simp [bE]
 | cons p fs ih =>
  rw [bE]
  by_cases h : p.1 = x
  ·rw [if_pos h, bE, if_pos rfl, bE, if_pos h]
  ·rw [if_neg h, bE, if_neg h, bE, if_neg h, ih]
theorem Ao {fs : FSt} (hi : gg 256 fs) (hl : fs.length < 256) (hz : szF fs + 200 ≤ 16777216) {la : List UInt8} {a : Int} (ha : AOk a) {most : Int} {sg : List Int} (a1 : sg.length < 2 ^ 40) {sz : Int} {s : St} (hs : dw s) (a7 : s.2.2.2.2.2.length < 2 ^ 30) {n : Nat} (h0 : 1 ≤ n) (h1 : n ≤ 99999999) (J : aW fs (aE n) = none) {k : Nat} (hk : 20000 ≤ k) :
  (∃ a', AOk a' ∧ fV.f k fs la a false most sg sz s.1 s.2.1 s.2.2.1 s.2.2.2.1 s.2.2.2.2.1 s.2.2.2.2.2 false (n : Int) = some (0, jT fs n (frB (cb (ct n s))), aE n, a', false, most, sg ++ [(n : Int)], ((frB (cb (ct n s))).length : Int), s.1, s.2.1, s.2.2.1, s.2.2.2.1, s.2.2.2.2.1, s.2.2.2.2.2, false)) ∨
  (∃ r : Int × WT, fV.f k fs la a false most sg sz s.1 s.2.1 s.2.2.1 s.2.2.2.1 s.2.2.2.2.1 s.2.2.2.2.2 false (n : Int) = some r ∧ r.1 = 11 ∧ r.2.2.2.2.1 = true ∧ Dk fs la n (frB (cb (ct n s))) r.2.1 r.2.2.1) := by
 have hr := rx h1 hs
 have bc := jM (ct n s)
 have U := kP (cb (ct n s))
 have be : (ct n s).2.2.2.2.2.2.2.2.2.2.length = 0 := rfl
 have D := sX hr (k := k) (by omega)
 obtain ⟨b, eb⟩ : ∃ b, frB (cb (ct n s)) = b := ⟨_, rfl⟩
 rw [eb] at D U ⊢
 have I : dT.f k (0 : Int) (n : Int) s.1 s.2.1 s.2.2.1 (ep s).1 (ep s).2 (0 : Int) (0 : Int) (0 : Int) ([] : List UInt8) = some b := D
 have X := sm hi la 0 false (aE n)
 rw [ry (oz n) J hl] at X
 have m1 : aW (bE fs (aE n) ([], 0)) (aE n) = some ([], 0) := by rw [eU, if_pos rfl]
 have z1 := im (aE n) (([], 0) : List UInt8 × Int) fs
 rw [ql (by rw [J]; rfl)] at z1
 simp only [List.length_nil, Nat.add_zero] at z1 X
 have m2 : aW (bE (bE fs (aE n) ([], 0)) (aE n) ([] ++ b, 0)) (aE n) = some ([] ++ b, 0) := by rw [eU, if_pos rfl]
 unfold fV.f
 rw [iZ h0 h1 (by omega), Option.bind_some, tE _ _ _ _ _ (by rw [kc]; omega) (by rw [kc]; omega), Al ha (oz n) J hl]
 by_cases g1 : a = 1
 ·rw [if_pos g1]
  simp only [Option.bind_some]
  rw [iO, Option.bind_some, if_neg (by decide)]
  exact .inr ⟨_, rfl, rfl, rfl, .inl ⟨rfl, rfl⟩⟩
 rw [if_neg g1]
 simp only [Option.bind_some]
 rw [iO, Option.bind_some, if_pos rfl]
 have u := nG ha
 unfold iX.f
 rw [qn _ _ _ _ _ _ _ s _ (by omega), Option.bind_some, I, Option.bind_some, iZ h0 h1 (by omega), Option.bind_some, qo X _ _ _ _ _ (by omega), ve u m1 (by omega)]
 by_cases g2 : dA a = 1
 ·rw [if_pos g2]
  simp only [Option.bind_some]
  rw [iO, Option.bind_some, if_neg (by decide)]
  simp only [Option.bind_some]
  rw [if_neg (by decide)]
  exact .inr ⟨_, rfl, rfl, rfl, .inr ⟨⟨b.take (b.length / 2), by rw [List.length_take]; congr 1; omega, by rw [List.nil_append]⟩, rfl⟩⟩
 rw [if_neg g2]
 simp only [Option.bind_some]
 rw [iO, Option.bind_some, if_pos rfl]
 rw [nR, sl (nG u) m2]
 by_cases g3 : dA (dA a) = 1
 ·rw [if_pos g3]
  simp only [Option.bind_some]
  rw [iO, Option.bind_some, if_neg (by decide)]
  simp only [Option.bind_some]
  rw [if_neg (by decide)]
  exact .inr ⟨_, rfl, rfl, rfl, .inr ⟨⟨b, by rw [List.take_length], by rw [List.nil_append]⟩, rfl⟩⟩
 rw [if_neg g3]
 simp only [Option.bind_some]
 rw [iO, Option.bind_some, if_pos rfl, if_pos (by simp only [List.length_cons, List.length_nil]; omega)]
 exact .inl ⟨_, nG (nG u), rfl⟩
end Go.Proofs.YtndjkejhacfpdaaGreatDoor

namespace Go.Proofs.YtndjkejhacfpdaaGreatDoor
open Go.RowKit
def tpA (w : Wl) (a : Int) : WT := (w.fs, w.la, a, false, w.most, dB w.s0 w.m, (w.size : Int), w.st.1, w.st.2.1, w.st.2.2.1, w.st.2.2.2.1, w.st.2.2.2.2.1, w.st.2.2.2.2.2, false)
theorem xk {S R : Type} {u : Option (S ⊕ R)} {o2 : S → Option R} {G : S → Prop} {P : R → Prop} (h1 : (∃ s, u = some (.inl s) ∧ G s) ∨ (∃ r, u = some (.inr r) ∧ P r)) (D : ∀ s, G s → ∃ r, o2 s = some r ∧ P r) : ∃ r, orR u o2 = some r ∧ P r := by
 rcases h1 with ⟨s, e, g⟩ | ⟨r, e, p⟩
 ·rw [e]; exact D s g
 ·rw [e]; exact ⟨r, rfl, p⟩
def yr (w : Wl) (b : BaT) (fs : FSt) (la : List UInt8) : Prop :=
 (la = w.la ∧ (fs = w.fs ∨ fs = (mM w).fs)) ∨
 (la = aE (w.last + 1) ∧ ∃ q, q = (frB (cb (ct (w.last + 1) w.st))).take q.length ∧ fs = bE (bE (mM w).fs (aE (w.last + 1)) ([], 0)) (aE (w.last + 1)) (q, 0)) ∨
 (la = aE (fK w).last ∧ ∃ q, q = (fu (gp w.st b)).take q.length ∧ fs = bE (fK w).fs (aE (fK w).last) ((bv (fK w).fs (aE (fK w).last)).1 ++ q, (bv (fK w).fs (aE (fK w).last)).2))
def CB (w : Wl) (b : BaT) (r : Int × WT) : Prop := (∃ a, AOk a ∧ r = (0, tpA (jw w b) a)) ∨ (r.1 = 11 ∧ r.2.2.2.2.1 = true ∧ yr w b r.2.1 r.2.2.1)
theorem sA (l : List bx) (I : l.length < 2 ^ 40) (J : gN l < 2 ^ 40) (D : ∀ r, r ∈ l → OkR r) : ∀ (k i : Nat) (acc : List UInt8), l.length - i + 10000 < k → i ≤ l.length → acc.length + gN (l.drop i) < 2 ^ 41 → bN.l0 l k acc (i : Int) = some (acc ++ fu (l.drop i))
 | 0, i, acc, h, _, _ => by omega
 | k + 1, i, acc, h, hi, ha => by
  rw [bN.l0]
  by_cases hlt : i < l.length
  ·have U : l.getD i aQ ∈ l := by rw [gi hlt]; exact List.getElem_mem _
   have u := iP l aQ hlt
   have h1 := jM (l.getD i aQ)
   have h2 := kP (cb (l.getD i aQ))
   have X : gN (l.drop i) = (l.getD i aQ).2.2.2.2.2.2.2.2.2.2.length + 128 + gN (l.drop (i + 1)) := by rw [u]; simp [gN]
   rw [if_pos (by omega), if_pos (by omega), Int.toNat_natCast, sX (D _ U) (by omega), Option.bind_some, if_pos (by omega), ws1 (by omega), sA l I J D k (i + 1) _ (by omega) (by omega) (by rw [List.length_append]; omega), u, fu, List.append_assoc]
  ·rw [if_neg (by omega), List.drop_of_length_le (by omega), fu, List.append_nil]
theorem vz (p : WT) (q : FSt × List UInt8 × Int × Bool) (rs : List bx) (U : rs.length < 2 ^ 29) (J : ∀ r, r ∈ rs → OkR r ∧ r.1 ≠ 0) {sg : Int} (D : p.2.2.2.2.2.1.getD (IntKind.i64.wrap ((p.2.2.2.2.2.1.length : Int) - 1)).toNat 0 = sg) (most : Int) (u : List Int) (sz : Int) : ∀ (k i : Nat) (s : St), rs.length - i < k → i ≤ rs.length → dw s → s.2.2.2.2.2.length + (rs.length - i) < 2 ^ 30 →
  bN.l1 p rs q k (i : Int) most u sz s.1 s.2.1 s.2.2.1 s.2.2.2.1 s.2.2.2.2.1 s.2.2.2.2.2 false = some (0, q.1, q.2.1, q.2.2.1, q.2.2.2, most, u, sz, (dI s (rs.drop i) sg).1, (dI s (rs.drop i) sg).2.1, (dI s (rs.drop i) sg).2.2.1, (dI s (rs.drop i) sg).2.2.2.1, (dI s (rs.drop i) sg).2.2.2.2.1, (dI s (rs.drop i) sg).2.2.2.2.2, false)
 | 0, i, s, h, _, _, _ => by omega
 | k + 1, i, s, h, hi, hs, hl => by
  rw [bN.l1]
  by_cases hlt : i < rs.length
  ·have X : rs.getD i aQ ∈ rs := by rw [gi hlt]; exact List.getElem_mem _
   have I := J _ X
   obtain ⟨c, hc⟩ := Cy q.1 q.2.1 q.2.2.1 q.2.2.2 most u sz hs (by omega) I.1 I.2 sg
   have h2 := rD s (rs.getD i aQ) sg
   rw [if_pos (by omega), if_pos (by omega), Int.toNat_natCast, D, hc, Option.bind_some, ws1 (by omega)]
   simp only []
   rw [vz p q rs U J D most u sz k (i + 1) (dP s (rs.getD i aQ) sg) (by omega) (by omega) (kf hs I.1 I.2 sg) (by omega), iP rs aQ hlt]
   rfl
  ·rw [if_neg (by omega), List.drop_of_length_le (by omega)]
   rfl
theorem yu {T N Z L : Nat} {w : Wl} (h : WOk T N Z L w) (hT : T < 99999990) (hN : N < 256) {b : BaT} (hc : jo w.st b = 0) (hZ : Z + 200 + gN (gp w.st b) ≤ 16777216) (hL : L + (gp w.st b).length < 2 ^ 29) (hb : b.2.2.2.2.2.2.length < 2 ^ 28) (hd : ∀ e, e ∈ b.2.2.2.2.2.2 → e.2.2.2.length < 2 ^ 40) (hm : w.m < 2 ^ 30) {a : Int} (ha : AOk a) {k : Nat} (hk : 30000 + b.2.2.2.2.2.2.length + (gp w.st b).length ≤ k) :
  ∃ r, bN.f k w.fs w.la a false w.most (dB w.s0 w.m) (w.size : Int) w.st.1 w.st.2.1 w.st.2.2.1 w.st.2.2.2.1 w.st.2.2.2.2.1 w.st.2.2.2.2.2 false b.1 b.2.1 b.2.2.1 b.2.2.2.1 b.2.2.2.2.1 b.2.2.2.2.2.1 b.2.2.2.2.2.2 = some r ∧ CB w b r := by
 have b8 := h.num
 have b9 := h.siz
 have cd := h.top
 have hs := kR (h.has w.last (by unfold Wl.last; omega) (Nat.le_refl _))
 have u := qU h (by omega) hN (by omega) (by omega)
 have D := xl h.st hc
 have a1 := (pi (oe hc).2.1).1
 have b3 := h.len
 unfold bN.f
 refine xk (G := fun s => ∃ U, AOk U ∧ s = tpA (fK w) U) ?_ ?_
 ·by_cases hcm : w.most ≤ (w.size : Int)
  ·have i1 := pO h.inv w.la 0 false (aE w.last)
   rw [qs hs] at i1
   have z1 := im (aE w.last) ((bv w.fs (aE w.last)).1, ((bv w.fs (aE w.last)).1.length : Int)) w.fs
   have l1 := ic (v := ((bv w.fs (aE w.last)).1, ((bv w.fs (aE w.last)).1.length : Int))) (h.has w.last (by unfold Wl.last; omega) (Nat.le_refl _))
   simp only at i1 z1
   have X : IntKind.i64.wrap (((dB w.s0 w.m).length : Int) - 1) = (w.m : Int) := by rw [dC, w64 (by omega) (by omega)]; omega
   rw [if_pos hcm, kB _ _ (by omega), X, if_pos (by rw [dC]; omega), show ((w.s0 + w.m : Nat) : Int) = (w.last : Int) from rfl, iZ (by have := h.s1; unfold Wl.last; omega) (by unfold Wl.last; omega) (by omega), Option.bind_some, nR, sl ha hs]
   by_cases g1 : a = 1
   ·rw [if_pos g1]
    simp only [Option.bind_some]
    rw [iO, Option.bind_some, if_neg (by decide)]
    exact .inr ⟨_, rfl, .inr ⟨rfl, rfl, .inl ⟨rfl, .inl rfl⟩⟩⟩
   rw [if_neg g1]
   simp only [Option.bind_some]
   rw [iO, Option.bind_some, if_pos rfl, ws1 (by unfold Wl.last; omega)]
   rcases Ao (la := w.la) (a := dA a) (most := w.most) (sg := dB w.s0 w.m) (sz := (w.size : Int)) (k := k) i1 (by omega) (by omega) (nG ha) (by rw [dC]; omega) h.st (by omega) (n := w.last + 1) (by omega) (by unfold Wl.last; omega) (by
    rw [eU, if_neg (fun e => by have := fX (by unfold Wl.last; omega) (by unfold Wl.last; omega) e; omega)]
    exact h.non _ (by unfold Wl.last; omega) (by unfold Wl.last; omega)) (by omega) with ⟨U, I, e1⟩ | ⟨r, e1, r1, r2, r3⟩
   ·rw [e1, Option.bind_some]
    simp only [if_true]
    refine .inl ⟨_, rfl, U, I, ?_⟩
    unfold fK tpA
    rw [if_pos hcm]
    simp only []
    rw [show (w.last + 1 : Nat) = w.s0 + w.m + 1 from rfl, tK]
   ·rw [e1, Option.bind_some, if_neg (by rw [r1]; decide)]
    refine .inr ⟨_, rfl, .inr ⟨r1, r2, ?_⟩⟩
    rcases r3 with ⟨x1, x2⟩ | ⟨⟨q, x1, x2⟩, x3⟩
    ·exact .inl ⟨x2, .inr x1⟩
    ·exact .inr (.inl ⟨x3, q, x1, x2⟩)
  ·rw [if_neg hcm]
   refine .inl ⟨_, rfl, a, ha, ?_⟩
   unfold fK tpA
   rw [if_neg hcm]
 rintro s ⟨U, I, rfl⟩
 have J := pk w
 unfold CB yr jw
 rw [J]
 obtain ⟨v, ev⟩ : ∃ v, fK w = v := ⟨_, rfl⟩
 rw [ev] at u J ⊢
 have c4 : v.m ≤ w.m + 1 := by rw [← ev]; unfold fK; split <;> simp
 have c5 := u.top
 have c6 := u.siz
 have c7 := u.sz
 have be := kR (u.has v.last (by unfold Wl.last; omega) (Nat.le_refl _))
 have X : IntKind.i64.wrap (((dB v.s0 v.m).length : Int) - 1) = (v.m : Int) := by rw [dC, w64 (by omega) (by omega)]; omega
 have ab := zk v.fs v.la U false v.most (dB v.s0 v.m) (v.size : Int) u.st false b a1 (by omega) hd (k := k) (by omega)
 rw [J] at ab
 have br := mY (gp w.st b)
 unfold tpA
 simp only []
 rw [J, ab, X, if_pos (by rw [dC]; omega), Option.bind_some]
 obtain ⟨rs, er⟩ : ∃ rs, gp w.st b = rs := ⟨_, rfl⟩
 rw [er] at D hZ hL hk br ⊢
 have ad := sA rs (by omega) (by omega) (fun r hr => (D r hr).1) k 0 [] (by omega) (by omega) (by simp; omega)
 rw [List.drop_zero, List.nil_append, show ((0 : Nat) : Int) = (0 : Int) from rfl] at ad
 rw [ad, Option.bind_some]
 have af := kB v.s0 v.m (by omega)
 rw [X] at af
 refine xk (G := fun q => ∃ a2, AOk a2 ∧ q = ((kn v rs).fs, (kn v rs).la, a2, false)) ?_ ?_
 ·by_cases hp : 0 < rs.length
  ·rw [if_pos (show (0 : Int) < (rs.length : Int) by omega), af, show ((v.s0 + v.m : Nat) : Int) = (v.last : Int) from rfl, iZ (by have := u.s1; unfold Wl.last; omega) (by unfold Wl.last; omega) (by omega), Option.bind_some, qo u.inv _ _ _ _ _ (by omega), ve I be (by omega)]
   by_cases g1 : U = 1
   ·rw [if_pos g1]
    simp only [Option.bind_some]
    rw [iO, Option.bind_some, if_neg (by decide)]
    exact .inr ⟨_, rfl, .inr ⟨rfl, rfl, .inr (.inr ⟨rfl, (fu rs).take ((fu rs).length / 2), by rw [List.length_take]; congr 1; omega, rfl⟩)⟩⟩
   rw [if_neg g1]
   simp only [Option.bind_some]
   rw [iO, Option.bind_some, if_pos rfl]
   refine .inl ⟨_, rfl, dA U, nG I, ?_⟩
   unfold kn
   simp only [if_pos hp]
  ·rw [if_neg (show ¬ (0 : Int) < (rs.length : Int) by omega)]
   refine .inl ⟨_, rfl, U, I, ?_⟩
   unfold kn
   simp only [if_neg hp]
 rintro q ⟨a2, b0, rfl⟩
 have al := vz (v.fs, v.la, U, false, v.most, dB v.s0 v.m, (v.size : Int), w.st.1, w.st.2.1, w.st.2.2.1, w.st.2.2.2.1, w.st.2.2.2.2.1, w.st.2.2.2.2.2, false) ((kn v rs).fs, (kn v rs).la, a2, false) rs (by omega) D (sg := (v.last : Int)) (by simp only []; exact kB v.s0 v.m (by omega)) v.most (dB v.s0 v.m) (((v.size + (fu rs).length : Nat)) : Int) k 0 w.st (by omega) (by omega) h.st (by omega)
 rw [List.drop_zero, show ((0 : Nat) : Int) = (0 : Int) from rfl] at al
 rw [show IntKind.i64.wrap ((v.size : Int) + ((fu rs).length : Int)) = ((v.size + (fu rs).length : Nat) : Int) by rw [w64 (by omega) (by omega)]; omega, al]
 refine ⟨_, rfl, .inl ⟨a2, b0, ?_⟩⟩
 unfold kn
 rw [J]
theorem zl {T N Z L : Nat} {w : Wl} (h : WOk T N Z L w) (hT : T < 99999990) (hN : N < 256) {b : BaT} (hZ : Z + 200 + gN (gp w.st b) ≤ 16777216) (hL : L + (gp w.st b).length < 2 ^ 29) (hb : b.2.2.2.2.2.2.length < 2 ^ 28) (hd : ∀ e, e ∈ b.2.2.2.2.2.2 → e.2.2.2.length < 2 ^ 40) (hm : w.m < 2 ^ 30) {a : Int} (J : AOk a) {k : Nat} (hk : 30000 + b.2.2.2.2.2.2.length + (gp w.st b).length ≤ k) :
  ∃ r : Int × WT, gl.f k w.fs w.la a false w.most (dB w.s0 w.m) (w.size : Int) w.st.1 w.st.2.1 w.st.2.2.1 w.st.2.2.2.1 w.st.2.2.2.2.1 w.st.2.2.2.2.2 false b.1 b.2.1 b.2.2.1 b.2.2.2.1 b.2.2.2.2.1 b.2.2.2.2.2.1 b.2.2.2.2.2.2 = some r ∧ ((∃ u, AOk u ∧ r = (jo w.st b, tpA (qt w b) u)) ∨ (jo w.st b = 0 ∧ r.1 = 11 ∧ r.2.2.2.2.1 = true ∧ yr w b r.2.1 r.2.2.1)) := by
 have U := h.len
 have D := BE w.fs w.la a false w.most (dB w.s0 w.m) (w.size : Int) h.st false (by omega) b (by omega) (k := k) (by omega)
 unfold gl.f qt
 rw [if_neg Bool.false_ne_true, D, Option.bind_some]
 by_cases hc : jo w.st b = 0
 ·rw [if_pos hc, if_pos hc]
  obtain ⟨r, r1, r2⟩ := yu h hT hN hc hZ hL hb hd hm J hk
  unfold eu.f
  rw [r1, Option.bind_some]
  rcases r2 with ⟨u, I, rfl⟩ | ⟨X, x2, x3⟩
  ·rw [if_pos (show ((0 : Int), tpA (jw w b) u).1 = 0 from rfl)]
   exact ⟨_, rfl, .inl ⟨u, I, by rw [hc]⟩⟩
  ·rw [if_neg (by rw [X]; decide)]
   exact ⟨_, rfl, .inr ⟨hc, X, x2, x3⟩⟩
 ·rw [if_neg hc, if_neg hc]
  exact ⟨_, rfl, .inl ⟨a, J, rfl⟩⟩
end Go.Proofs.YtndjkejhacfpdaaGreatDoor

namespace Go.Proofs.YtndjkejhacfpdaaGreatDoor
open Go.RowKit
theorem B0 {T N Z L : Nat} {w : Wl} (h : WOk T N Z L w) (hT : T ≤ 99999999) {a : Int} (I : AOk a) {k : Nat} (hk : 20 ≤ k) :
  ∃ r : Int × FSt × List UInt8 × Int × Bool × Int × Int × Int × Int × Int × Int × Int × Bool, gS.f k w.fs w.la a false w.most (dB w.s0 w.m) (w.size : Int) w.st.1 w.st.2.1 w.st.2.2.1 w.st.2.2.2.1 w.st.2.2.2.2.1 w.st.2.2.2.2.2 false = some r ∧
   ((∃ J, AOk J ∧ r = (0, (mM w).fs, w.la, J, false, w.most, (w.size : Int), w.st.1, w.st.2.1, w.st.2.2.1, w.st.2.2.2.1, w.st.2.2.2.2.1, false)) ∨ (r.1 = 11 ∧ r.2.2.2.2.1 = true ∧ r.2.1 = w.fs ∧ r.2.2.1 = w.la)) := by
 have U := h.top
 have X := h.s1
 have hs := kR (h.has w.last (by unfold Wl.last; omega) (Nat.le_refl _))
 have u : IntKind.i64.wrap (((dB w.s0 w.m).length : Int) - 1) = (w.m : Int) := by rw [dC, w64 (by omega) (by omega)]; omega
 have D := kB w.s0 w.m (by omega)
 rw [u] at D
 unfold gS.f eK.f gZ.f
 rw [if_neg Bool.false_ne_true, u, D, if_pos (by rw [dC]; omega), show ((w.s0 + w.m : Nat) : Int) = (w.last : Int) from rfl, iZ (by unfold Wl.last; omega) (by unfold Wl.last; omega) (by omega), Option.bind_some, nR, sl I hs]
 by_cases g1 : a = 1
 ·rw [if_pos g1]
  simp only [Option.bind_some]
  rw [iO, Option.bind_some, if_neg (by decide)]
  exact ⟨_, rfl, .inr ⟨rfl, rfl, rfl, rfl⟩⟩
 rw [if_neg g1]
 simp only [Option.bind_some]
 rw [iO, Option.bind_some, if_pos rfl]
 exact ⟨_, rfl, .inl ⟨_, nG I, rfl⟩⟩
theorem re {P : Wl → Prop} {T N Z L : Nat} (hT : T ≤ 99999999) (hL : L < 2 ^ 40) (i : Int) (hP : ∀ u, WOk T N Z L u → 0 < u.m → np u.st (u.s0 : Int) i = false → P u → P (lB u)) : ∀ (k n : Nat) (w : Wl) (a : Int), AOk a → w.m + L + 20 < k → n + w.m < 2 ^ 40 → WOk T N Z L w →
  ∃ (v : Wl) (r : Int × FSt × List UInt8 × Int × Bool × Int × List Int × Int × Int × Int × Int × Int × Int × List HeT × Bool × Int), cR.l0 i k w.fs w.la a false w.most (dB w.s0 w.m) (w.size : Int) w.st.1 w.st.2.1 w.st.2.2.1 w.st.2.2.2.1 w.st.2.2.2.2.1 w.st.2.2.2.2.2 false (n : Int) = some r ∧ WOk T N Z L v ∧ (P w → P v) ∧
   ((∃ a' j, AOk a' ∧ r = (0, v.fs, v.la, a', false, v.most, dB v.s0 v.m, (v.size : Int), v.st.1, v.st.2.1, v.st.2.2.1, v.st.2.2.2.1, v.st.2.2.2.2.1, v.st.2.2.2.2.2, false, j)) ∨ (r.1 = 11 ∧ r.2.2.2.2.1 = true ∧ r.2.1 = v.fs ∧ r.2.2.1 = v.la))
 | 0, n, w, a, _, h, _, _ => by omega
 | k + 1, n, w, a, ha, hk, hn, hw => by
  have an := hw.len
  have I := hw.s1
  have a1 := hw.top
  have J : (dB w.s0 w.m).getD (0 : Int).toNat 0 = (w.s0 : Int) := by
   have := km (s0 := w.s0) (m := w.m) (i := 0) (Nat.zero_le _)
   exact this
  rw [cR.l0, dC, J]
  by_cases hm : 0 < w.m
  ·rw [if_pos (show (1 : Int) < ((w.m + 1 : Nat) : Int) by omega), if_pos (show 0 ≤ (0 : Int) ∧ (0 : Int) < ((w.m + 1 : Nat) : Int) by omega), BG w.fs w.la a false w.most (dB w.s0 w.m) (w.size : Int) w.st (by omega) false (w.s0 : Int) i (k := k) (by omega), Option.bind_some, Option.bind_some]
   cases hnd : np w.st (w.s0 : Int) i with
   | true =>
    rw [if_neg (by decide)]
    exact ⟨w, _, rfl, hw, id, .inl ⟨a, _, ha, rfl⟩⟩
   | false =>
    have hh := hw.has w.s0 (Nat.le_refl _) (by omega)
    have U := Av hw hT hm
    rw [if_pos (show (!false) = true from rfl), if_pos (show 0 ≤ (0 : Int) ∧ (0 : Int) < ((w.m + 1 : Nat) : Int) by omega), iZ I (by omega) (by omega), Option.bind_some, tV, Am ha hh]
    by_cases g1 : a = 1
    ·rw [if_pos g1]
     simp only [Option.bind_some]
     rw [iO, Option.bind_some, if_neg (by decide)]
     exact ⟨w, _, rfl, hw, id, .inr ⟨rfl, rfl, rfl, rfl⟩⟩
    rw [if_neg g1]
    simp only [Option.bind_some]
    rw [iO, Option.bind_some, if_pos rfl]
    try rw [if_pos (show 0 ≤ (0 : Int) ∧ (0 : Int) < ((w.m + 1 : Nat) : Int) by omega)]
    have X := CA (fj w.fs (aE w.s0)) (if w.la = aE w.s0 then [] else w.la) (dA a) false w.most (dB w.s0 w.m) (w.size : Int) w.st (by omega) false (w.s0 : Int) (k := k) (by omega)
    rw [X, Option.bind_some]
    simp only []
    rw [dC, if_pos (by omega), ws1 (by omega)]
    have D : cut (dB w.s0 w.m) (1 : Int) ((w.m + 1 : Nat) : Int) = dB (w.s0 + 1) (w.m - 1) := by
     obtain ⟨q, hq⟩ : ∃ q, w.m = q + 1 := ⟨w.m - 1, by omega⟩
     rw [hq, Nat.add_sub_cancel]
     unfold cut
     rw [Int.toNat_natCast, List.take_of_length_le (by rw [dC]; omega), zG]
     rfl
    rw [D]
    obtain ⟨v, r, v1, v2, v3, v4⟩ := re (P := P) hT hL i hP k (n + 1) (lB w) (dA a) (nG ha) (by show w.m - 1 + L + 20 < k; omega) (by show n + 1 + (w.m - 1) < _; omega) U
    exact ⟨v, r, v1, v2, fun x => v3 (hP w hw hm hnd x), v4⟩
  ·rw [if_neg (show ¬ (1 : Int) < ((w.m + 1 : Nat) : Int) by omega), Option.bind_some, if_neg Bool.false_ne_true]
   exact ⟨w, _, rfl, hw, id, .inl ⟨a, _, ha, rfl⟩⟩
theorem yE {P : Wl → Prop} {T N Z L : Nat} {w : Wl} (h : WOk T N Z L w) (hT : T ≤ 99999999) (hL : L < 2 ^ 30) (i : Int) (hP : ∀ u, WOk T N Z L u → 0 < u.m → np u.st (u.s0 : Int) i = false → P u → P (lB u)) {a : Int} (U : AOk a) {k : Nat} (hk : T + L + 40 < k) :
  ∃ (v : Wl) (r : Int × Int × WT), gD.f k w.fs w.la a false w.most (dB w.s0 w.m) (w.size : Int) w.st.1 w.st.2.1 w.st.2.2.1 w.st.2.2.2.1 w.st.2.2.2.2.1 w.st.2.2.2.2.2 false i = some r ∧ WOk T N Z L v ∧
   ((v = w ∧ r.2.1 = 1 ∧ ∃ D, AOk D ∧ r.2.2 = tpA w D) ∨ ((P (mM w) → P v) ∧ ∃ D, AOk D ∧ r.2 = (0, tpA v D)) ∨ ((v = w ∨ (P (mM w) → P v)) ∧ r.2.1 = 11 ∧ r.2.2.2.2.2.1 = true ∧ r.2.2.1 = v.fs ∧ r.2.2.2.1 = v.la)) := by
 have a1 := h.len
 have a6 := h.top
 have a7 := h.s1
 have X := qn w.fs w.la a false w.most (dB w.s0 w.m) (w.size : Int) w.st false (by omega)
 unfold gD.f
 rw [if_neg Bool.false_ne_true, X, Option.bind_some]
 by_cases hi : i < 0 ∨ (ep w.st).1 < i
 ·rw [if_pos (by simpa using hi)]
  exact ⟨w, _, rfl, h, .inl ⟨rfl, rfl, a, U, rfl⟩⟩
 ·rw [if_neg (by simpa using hi)]
  have hs := kR (h.has w.last (by unfold Wl.last; omega) (Nat.le_refl _))
  have hu := wb h hT
  have I : IntKind.i64.wrap (((dB w.s0 w.m).length : Int) - 1) = (w.m : Int) := by rw [dC, w64 (by omega) (by omega)]; omega
  have J := kB w.s0 w.m (by omega)
  rw [I] at J
  unfold eC.f cR.f
  rw [I, J, if_pos (by rw [dC]; omega), show ((w.s0 + w.m : Nat) : Int) = (w.last : Int) from rfl, iZ (by unfold Wl.last; omega) (by unfold Wl.last; omega) (by omega), Option.bind_some, nR, sl U hs]
  by_cases g1 : a = 1
  ·rw [if_pos g1]
   simp only [Option.bind_some]
   rw [iO, Option.bind_some, if_neg (by decide)]
   exact ⟨w, _, rfl, h, .inr (.inr ⟨.inl rfl, rfl, rfl, rfl, rfl⟩)⟩
  rw [if_neg g1]
  simp only [Option.bind_some]
  rw [iO, Option.bind_some, if_pos rfl]
  obtain ⟨v, r, v1, v2, v3, v4⟩ := re (P := P) hT (by omega) i hP k 0 (mM w) (dA a) (nG U) (by show w.m + L + 20 < k; omega) (by show 0 + w.m < _; omega) hu
  have ab : cR.l0 i k (bE w.fs (aE w.last) ((bv w.fs (aE w.last)).1, ((bv w.fs (aE w.last)).1.length : Int))) w.la (dA a) false w.most (dB w.s0 w.m) (w.size : Int) w.st.1 w.st.2.1 w.st.2.2.1 w.st.2.2.2.1 w.st.2.2.2.2.1 w.st.2.2.2.2.2 false (0 : Int) = some r := v1
  rw [ab, Option.bind_some]
  rcases v4 with ⟨D, j, ad, rfl⟩ | ⟨x1, x2, x3, x4⟩
  ·exact ⟨v, _, rfl, v2, .inr (.inl ⟨v3, D, ad, rfl⟩)⟩
  ·rw [if_neg (by rw [x1]; decide), Option.bind_some, if_neg (by rw [x1]; decide)]
   exact ⟨v, _, rfl, v2, .inr (.inr ⟨.inr v3, x1, x2, x3, x4⟩)⟩
end Go.Proofs.YtndjkejhacfpdaaGreatDoor

namespace Go.Proofs.YtndjkejhacfpdaaGreatDoor
open Go.RowKit
/-! ### Frames, and what is left of one -/
theorem BY {p : List UInt8} (hp : p.length ≤ 1048576) {n : Nat} (I : n < (frB p).length) : (mH ((frB p).take n)).2.2 ≠ 0 := by
 have J := kP p
 have U : ((frB p).take n).length = n := by rw [List.length_take]; omega
 unfold mH
 by_cases h4 : ((frB p).take n).length < 4
 ·rw [if_pos h4]; decide
 ·have u : jr ((frB p).take n) = p.length := by
   have e : ∀ i, i < 4 → nb ((frB p).take n) i = nb (frB p) i := fun i hi => by unfold nb; rw [gtk _ _ (by omega)]
   have X : jr ((frB p).take n) = jr (frB p) := by unfold jr; rw [e 0 (by omega), e 1 (by omega), e 2 (by omega), e 3 (by omega)]
   have := qk (n := (p.length : Int)) ⟨by omega, by omega⟩ (gH (nU (gH (p.length : Int) ++ p)) ++ p)
   have D : gH (p.length : Int) ++ (gH (nU (gH (p.length : Int) ++ p)) ++ p) = frB p := by simp [frB]
   rw [D] at this
   omega
  rw [if_neg h4, u, if_neg (by omega), if_pos (by omega)]
  decide
theorem th : ∀ (ps : List (List UInt8)) (n : Nat), okP ps → n ≤ (dJ ps).length → ∃ c t, c ≤ ps.length ∧ (dJ ps).take n = dJ (ps.take c) ++ t ∧ (mH t).2.2 ≠ 0 ∧ ∀ j, (dJ (ps.take j)).length ≤ n → j ≤ ps.length → j ≤ c
 | [], n, _, _ => ⟨0, [], Nat.le_refl _, by simp [dJ], by decide, fun j _ h => h⟩
 | p :: ps, n, hp, hn => by
  have I := kP p
  rw [dJ, List.length_append] at hn
  by_cases h : n < (frB p).length
  ·refine ⟨0, (frB p).take n, Nat.zero_le _, ?_, BY (hp p (by simp)) h, fun j u _ => ?_⟩
   ·rw [dJ, List.take_append_of_le_length (by omega)]; rfl
   ·cases j with
    | zero => exact Nat.le_refl _
    | succ j => rw [List.take_succ_cons, dJ, List.length_append] at u; omega
  ·obtain ⟨c, t, h1, J, U, X⟩ := th ps (n - (frB p).length) (fun q hq => hp q (by simp [hq])) (by omega)
   refine ⟨c + 1, t, by simp; omega, ?_, U, fun j u D => ?_⟩
   ·rw [dJ, List.take_append, List.take_of_length_le (by omega), J, List.take_succ_cons, dJ, List.append_assoc]
   ·cases j with
    | zero => omega
    | succ j =>
     rw [List.take_succ_cons, dJ, List.length_append] at u
     have := X j (by omega) (by simpa using D)
     omega
theorem zE (b t : List UInt8) (U : b.length ≤ 2 ^ 40) (ht : (mH t).2.2 ≠ 0) : ∀ (ps : List (List UInt8)) (k i : Nat) (u : List (List UInt8)), okP ps → i + (dJ ps).length + t.length = b.length → b.drop i = dJ ps ++ t → u.length ≤ i → ps.length + 1048700 < k →
  eI.l0 Bj b k (i : Int) ((i : Int), u) = some (((i + (dJ ps).length : Nat) : Int), u ++ ps)
 | [], k, i, u, _, h1, h2, _, hk => by
  obtain ⟨q, rfl⟩ : ∃ q, k = q + 1 := ⟨k - 1, by omega⟩
  simp only [dJ, List.length_nil, Nat.add_zero, List.nil_append] at h1 h2 ⊢
  rw [eI.l0, List.append_nil]
  by_cases h0 : i < b.length
  ·have D := yi (b := b) (i := i) (k := q) U (by omega) (by omega)
   rw [h2] at D
   rw [if_pos (by omega), D, Option.bind_some, if_neg ht, Option.bind_some, if_pos rfl]
  ·rw [if_neg (by omega)]
 | p :: ps, k, i, u, hp, h1, h2, ho, hk => by
  obtain ⟨q, rfl⟩ : ∃ q, k = q + 1 := ⟨k - 1, by omega⟩
  have X := hp p (by simp)
  have I := kP p
  have J : (dJ (p :: ps)).length = (8 + p.length) + (dJ ps).length := by rw [dJ, List.length_append, I]
  rw [J] at h1
  rw [dJ, List.append_assoc] at h2
  rw [List.length_cons] at hk
  have D := yi (b := b) (i := i) (k := q) U (by omega) (by omega)
  rw [h2, Bw X] at D
  rw [eI.l0, if_pos (by omega), D, Option.bind_some]
  simp only []
  first | rw [if_pos rfl] | rw [if_pos trivial]
  have ab : Bj ((i : Int), u) ((i : Int), p) = some (((i + (8 + p.length) : Nat) : Int), u ++ [p]) := by
   show (if (u.length + 1) * 24 ≤ 140737488355328 then some (IntKind.i64.wrap (IntKind.i64.wrap ((i : Int) + 8) + (p.length : Int)), u ++ [p]) else none) = _
   rw [if_pos (by omega), w64 (n := (i : Int) + 8) (by omega) (by omega), w64 (by omega) (by omega)]
   congr 2
   omega
  rw [ab, Option.bind_some, Option.bind_some]
  simp only [Bool.false_eq_true, if_false]
  rw [wa (by omega)]
  have hd : b.drop (i + (8 + p.length)) = dJ ps ++ t := by
   rw [← List.drop_drop, h2, ← I, List.drop_left]
  rw [zE b t U ht ps q (i + (8 + p.length)) (u ++ [p]) (fun x hx => hp x (by simp [hx])) (by omega) hd (by rw [List.length_append]; simp only [List.length_cons, List.length_nil]; omega) (by omega), J]
  simp [Nat.add_assoc]
theorem Bk {ps : List (List UInt8)} {t : List UInt8} (hp : okP ps) (D : (mH t).2.2 ≠ 0) (J : (dJ ps ++ t).length ≤ 2 ^ 30) {k : Nat} (U : 2 ^ 30 + 1048700 < k) : ∃ e : Int, ll.f k (dJ ps ++ t) = some (ps, ((dJ ps).length : Int), e) ∧ (e = 0 ↔ t = []) := by
 have X := oq ps
 have u := J
 rw [List.length_append] at u
 have h := zE (dJ ps ++ t) t (by omega) D ps k 0 [] hp (by rw [List.length_append]; omega) rfl (by simp) (by omega)
 rw [show ((0 : Nat) : Int) = (0 : Int) from rfl, List.nil_append, Nat.zero_add] at h
 unfold ll.f
 rw [show kS.f = some () from rfl, Option.bind_some]
 unfold eI.f
 rw [show eI.l0 _ (dJ ps ++ t) k 0 (0, ([] : List (List UInt8))) = some (((dJ ps).length : Int), ps) from h, Option.bind_some]
 by_cases h0 : t = []
 ·rw [if_pos (by rw [h0, List.append_nil])]
  exact ⟨0, rfl, by simp [h0]⟩
 ·have : 0 < t.length := List.length_pos_iff.2 h0
  rw [if_neg (by rw [List.length_append]; omega)]
  have I := yi (b := dJ ps ++ t) (i := (dJ ps).length) (k := k) (by omega) (by rw [List.length_append]; omega) (by omega)
  rw [List.drop_left] at I
  simp only []
  rw [I, Option.bind_some]
  exact ⟨_, rfl, by simp [h0, D]⟩
/-! ### One segment -/
theorem zF {fs : FSt} (inv : gg 256 fs) {la : List UInt8} {n : Nat} (h1 : 1 ≤ n) (X : n ≤ 99999999) (J : (aW fs (aE n)).isSome = true) (e : Int) {c : Nat} (hc : c ≤ (bv fs (aE n)).1.length) {k : Nat} (hk : 20 ≤ k) :
  ∃ D, (if e = 0 then (some (fs, la, 0, false)) else ((cA.f k (n : Int)).bind fun I => ((iR.f fs la 0 false I (c : Int)).bind fun u => ((cm.f u.1).bind fun U => (some (u.2.1, u.2.2.1, u.2.2.2.1, u.2.2.2.2)))))) = some (D, la, 0, false) ∧ (e = 0 → D = fs) ∧ (∀ x, (aW D x).isSome = (aW fs x).isSome) ∧ (D.map (·.1)).Nodup := by
 by_cases h0 : e = 0
 ·rw [if_pos h0]
  exact ⟨fs, rfl, fun _ => rfl, fun _ => rfl, inv.nd⟩
 ·rw [if_neg h0, iZ h1 X (by omega), Option.bind_some, CG]
  unfold AB
  rw [if_pos J, if_neg Bool.false_ne_true, if_neg (by omega), if_neg (pn la), Option.bind_some]
  simp only []
  rw [lO, Option.bind_some]
  refine ⟨_, rfl, fun x => absurd x h0, fun x => ?_, pP inv.nd⟩
  rw [eU]
  split
  ·rename_i e; rw [← e, J]; rfl
  ·rfl
theorem ti {n : Nat} (J : n ≤ 99999999) {r : bx} (hd : ∃ u : St, dw u ∧ iK u.1 u.2.1 u.2.2.1 = 0 ∧ r = ct n u) {rs : List bx} (D : ∀ x, x ∈ rs → kw x) : okP (cb r :: rs.map cb) := by
 obtain ⟨u, U, X, rfl⟩ := hd
 intro p hp
 rcases List.mem_cons.1 hp with rfl | hp
 ·exact xD (rx J U) (.inl (Nat.zero_le _))
 ·obtain ⟨x, I, rfl⟩ := List.mem_map.1 hp
  refine xD (kx (D x I)).1 ?_
  rcases D x I with ⟨t, v, c, _, rfl⟩ | ⟨e, _, rfl⟩ | ⟨i, m, _, _, rfl⟩
  ·exact .inl (Nat.zero_le _)
  ·exact .inr rfl
  ·exact .inl (Nat.zero_le _)
theorem CJ {fs : FSt} (inv : gg 256 fs) (la : List UInt8) (most : Int) {s0 m : Nat} (b9 : 1 ≤ s0) (hT : s0 + m ≤ 99999999) {n : Nat} (h1 : s0 ≤ n) (h2 : n ≤ s0 + m) (hh : (aW fs (aE n)).isSome = true) {r : bx} {rs : List bx} {t : List UInt8} (I : (bv fs (aE n)).1 = dJ (cb r :: rs.map cb) ++ t) (a8 : (mH t).2.2 ≠ 0) (ht : t = [] ∨ n = s0 + m) (hd : ∃ J : St, dw J ∧ iK J.1 J.2.1 J.2.2.1 = 0 ∧ r = ct n J) (U : ∀ x, x ∈ rs → kw x) {s q : St} (hs : dw q) (hq : (n = s0 ∧ s.2.2.2.2.2 = [] ∧ q = iV r) ∨ (n ≠ s0 ∧ r = ct n s ∧ q = s)) (hf : jp q rs (n : Int)) (c3 : q.2.2.2.2.2.length ≤ 2 ^ 29) (sz : Int) {k : Nat} (hk : 2200000000 < k) :
  ∃ (b : Bool) (D : FSt) (bc : Int), di.f k fs la 0 false most (dB s0 m) sz s.1 s.2.1 s.2.2.1 s.2.2.2.1 s.2.2.2.2.1 s.2.2.2.2.2 false (n : Int) =
   some (b, D, la, 0, false, most, dB s0 m, bc, (dI q rs (n : Int)).1, (dI q rs (n : Int)).2.1, (dI q rs (n : Int)).2.2.1, (dI q rs (n : Int)).2.2.2.1, (dI q rs (n : Int)).2.2.2.2.1, (dI q rs (n : Int)).2.2.2.2.2, false) ∧ (t = [] → D = fs) ∧ ∀ x, (aW D x).isSome = (aW fs x).isSome := by
 have c4 : (bv fs (aE n)).1.length ≤ 16777216 := Nat.le_trans (oj (ko hh)) inv.sz
 have be := hd
 obtain ⟨J, g1, g2, g3⟩ := be
 have X : IntKind.i64.wrap (((dB s0 m).length : Int) - 1) = (m : Int) := by rw [dC, w64 (by omega) (by omega)]; omega
 have ab := kB s0 m (by omega)
 rw [X] at ab
 have b0 := ti (n := n) (by omega) hd U
 have b1 := oq (cb r :: rs.map cb)
 have ad : (dJ (cb r :: rs.map cb)).length ≤ (bv fs (aE n)).1.length := by rw [I, List.length_append]; omega
 simp only [List.length_cons, List.length_map] at b1
 obtain ⟨e, af, he⟩ := Bk b0 a8 (by rw [← I]; omega) (k := k) (by omega)
 obtain ⟨D, f1, f2, f3, -⟩ := zF inv (la := la) (by omega) (by omega) hh e ad (k := k) (by omega)
 have b2 : fQ.f fs la 0 false (aE n) = some ((bv fs (aE n)).1, 0) := by
  unfold fQ.f
  rw [if_pos hh]
  show (jC.f (bv fs (aE n)).1).bind _ = _
  rw [vY (by omega)]
  rfl
 have al : gE.f (k - 1) (cb r) = some (r.1, r.2.1, r.2.2.1, r.2.2.2.1, r.2.2.2.2.1, r.2.2.2.2.2.1, r.2.2.2.2.2.2.1, r.2.2.2.2.2.2.2.1, r.2.2.2.2.2.2.2.2.1, r.2.2.2.2.2.2.2.2.2.1, r.2.2.2.2.2.2.2.2.2.2, true) := by
  have an := ns g1
  rw [g3]
  exact yD (n := (n : Int)) ⟨by omega, by omega⟩ g2 an.1 an.2 (k := k - 1) (by omega)
 have b3 : r.1 = 0 := by rw [g3]; rfl
 have b4 : r.2.1 = (n : Int) := by rw [g3]; rfl
 obtain ⟨j, rfl⟩ : ∃ j, k = j + 1 := ⟨k - 1, by omega⟩
 rw [Nat.add_sub_cancel] at al
 refine ⟨!decide (e = 0), D, ((dJ (cb r :: rs.map cb)).length : Int), ?_, fun x => f2 (he.2 x), f3⟩
 unfold di.f
 rw [X, ab, if_pos (by rw [dC]; omega), iZ (by omega) (by omega) (by omega), Option.bind_some, b2, Option.bind_some]
 simp only []
 rw [lO, Option.bind_some, I, af, Option.bind_some]
 simp only []
 rw [iZ (by omega) (by omega) (by omega)] at f1
 rw [if_neg (show ¬ ((!decide (e = 0)) && (!decide ((n : Int) = ((s0 + m : Nat) : Int)))) = true by
  rcases ht with x | x
  ·simp [he.2 x]
  ·simp [x]), Option.bind_some, f1, Option.bind_some]
 simp only []
 rw [if_neg (by simp; intro x; omega), if_neg (by simp; omega), Option.bind_some, di.l0]
 simp only [List.length_cons, List.length_map]
 rw [if_pos (by omega), if_pos (by omega), show (cb r :: rs.map cb).getD (0 : Int).toNat [] = cb r from rfl, al, Option.bind_some]
 simp only []
 rw [b3, if_neg (by decide), Option.bind_some, if_pos trivial, if_pos b4, if_pos (by rw [dC]; omega)]
 have a1 : (dB s0 m).getD (0 : Int).toNat 0 = (s0 : Int) := by
  have := km (s0 := s0) (m := m) (i := 0) (by omega)
  rw [Nat.add_zero] at this
  exact this
 rw [a1]
 have u := ud D la most (dB s0 m) ((dJ (cb r :: rs.map cb)).length : Int) ((dJ (cb r :: rs.map cb)).length : Int) e n (cb r) rs U (by omega) j 0 q (by omega) (by omega) hs (by omega) (by rw [List.drop_zero]; exact hf)
 rw [List.drop_zero] at u
 rcases hq with ⟨q1, q2, q3⟩ | ⟨q1, q2, q3⟩
 ·unfold jc.f
  rw [if_pos (by simp; omega), Option.bind_some, Option.bind_some]
  simp only [Bool.not_true, Bool.false_eq_true, if_false]
  rw [q2, show IntKind.i64.wrap ((0 : Int) + 1) = ((0 + 1 : Nat) : Int) from by decide]
  subst q3
  rw [show di.l0 (n : Int) (cb r :: rs.map cb, ((dJ (cb r :: rs.map cb)).length : Int), e) (D, la, 0, false) j ((0 + 1 : Nat) : Int) most (dB s0 m) ((dJ (cb r :: rs.map cb)).length : Int) r.2.2.1 r.2.2.2.1 r.2.2.2.2.1 r.2.2.2.2.2.1 r.2.2.2.2.2.2.1 [] false = _ from u]
  rfl
 ·subst q3
  unfold jc.f
  have b6 : ¬ decide ((n : Int) = (s0 : Int)) = true := by simp; omega
  rw [if_neg b6, qn D la 0 false most (dB s0 m) ((dJ (cb r :: rs.map cb)).length : Int) q false (by omega), Option.bind_some, Option.bind_some, q2]
  have hx : (((decide ((ct n q).2.2.1 = q.1) && (decide ((ct n q).2.2.2.1 = q.2.1) && decide ((ct n q).2.2.2.2.1 = q.2.2.1))) && decide ((ct n q).2.2.2.2.2.1 = (ep q).1)) && decide ((ct n q).2.2.2.2.2.2.1 = (ep q).2)) = true := by
   unfold ct
   simp
  simp only []
  rw [hx, Option.bind_some]
  simp only [Bool.not_true, Bool.false_eq_true, if_false]
  rw [show IntKind.i64.wrap ((0 : Int) + 1) = ((0 + 1 : Nat) : Int) from by decide]
  rw [q2] at u
  rw [u]
  rfl
theorem Dp {fs : FSt} (inv : gg 256 fs) (la : List UInt8) (most : Int) {s0 m : Nat} (a8 : 1 ≤ s0) (hT : s0 + (m + 1) ≤ 99999999) (X : (aW fs (aE (s0 + (m + 1)))).isSome = true) (ad : (mH (bv fs (aE (s0 + (m + 1)))).1).2.2 ≠ 0) (h3 : (aW fs (aE (s0 + m))).isSome = true) (s : St) (sz : Int) {k : Nat} (hk : 2200000000 < k) :
  ∃ (u : FSt) (af : List UInt8), di.f k fs la 0 false most (dB s0 (m + 1)) sz s.1 s.2.1 s.2.2.1 s.2.2.2.1 s.2.2.2.2.1 s.2.2.2.2.2 false ((s0 + (m + 1) : Nat) : Int) =
   some (true, u, af, 0, false, most, dB s0 m, sz, s.1, s.2.1, s.2.2.1, s.2.2.2.1, s.2.2.2.2.1, s.2.2.2.2.2, false) ∧ (aW u (aE (s0 + m))).isSome = true := by
 have be : (bv fs (aE (s0 + (m + 1)))).1.length ≤ 16777216 := Nat.le_trans (oj (ko X)) inv.sz
 have I : IntKind.i64.wrap (((dB s0 (m + 1)).length : Int) - 1) = ((m + 1 : Nat) : Int) := by rw [dC, w64 (by omega) (by omega)]; omega
 have U := kB s0 (m + 1) (by omega)
 rw [I] at U
 obtain ⟨e, D, he⟩ := Bk (ps := []) (t := (bv fs (aE (s0 + (m + 1)))).1) (fun p hp => by cases hp) ad (by simp only [dJ, List.nil_append]; omega) (k := k) (by omega)
 obtain ⟨u, f1, f2, f3, f4⟩ := zF inv (la := la) (by omega) hT X e (c := 0) (by omega) (k := k) (by omega)
 have an : fQ.f fs la 0 false (aE (s0 + (m + 1))) = some ((bv fs (aE (s0 + (m + 1)))).1, 0) := by
  unfold fQ.f
  rw [if_pos X]
  show (jC.f (bv fs (aE (s0 + (m + 1)))).1).bind _ = _
  rw [vY (by omega)]
  rfl
 have J := iZ (n := s0 + (m + 1)) (k := k) (by omega) hT (by omega)
 have a1 : (aW u (aE (s0 + (m + 1)))).isSome = true := by rw [f3]; exact X
 have a6 : aE (s0 + (m + 1)) ≠ aE (s0 + m) := fun x => by
  have := fX hT (by omega) x
  omega
 rw [J] at f1
 simp only [dJ, List.nil_append, List.length_nil] at D
 unfold di.f
 rw [I, U, if_pos (by rw [dC]; omega), J, Option.bind_some, an, Option.bind_some]
 simp only []
 rw [lO, Option.bind_some, D, Option.bind_some]
 simp only []
 rw [if_neg (by simp), Option.bind_some]
 rw [show ((0 : Nat) : Int) = (0 : Int) from rfl] at f1
 rw [show ((0 : Nat) : Int) = (0 : Int) from rfl, f1, Option.bind_some]
 simp only []
 rw [if_pos (by simp)]
 unfold ju.f
 rw [I, if_pos (by rw [dC]; omega), J, Option.bind_some, tV, vy a1, Option.bind_some]
 simp only []
 rw [lO, Option.bind_some, if_pos (by rw [dC]; omega)]
 have ec : cut (dB s0 (m + 1)) (0 : Int) ((m + 1 : Nat) : Int) = dB s0 m := by
  unfold cut
  rw [Int.toNat_natCast, ← tK, List.take_left' (dC s0 m)]
  rfl
 rw [ec]
 refine ⟨fj u (aE (s0 + (m + 1))), _, rfl, ?_⟩
 rw [mf _ _ _ f4, if_neg a6, f3]
 exact h3
end Go.Proofs.YtndjkejhacfpdaaGreatDoor

namespace Go.Proofs.YtndjkejhacfpdaaGreatDoor
open Go.RowKit
def Pre (H : Nat → bx) (h : Nat → List bx) (s0 : Nat) : Nat → St → Prop
 | 0, s => s = st0
 | j + 1, s => Rep H h s0 j s
def Bas (H : Nat → bx) (h : Nat → List bx) (s0 : Nat) : Nat → St → Prop
 | 0, q => q = iV (H s0)
 | j + 1, q => Rep H h s0 j q ∧ H (s0 + j + 1) = ct (s0 + j + 1) q
theorem tg {H : Nat → bx} {h : Nat → List bx} {s0 : Nat} : ∀ {j : Nat} {P : St}, Rep H h s0 j P → ∃ q, Bas H h s0 j q ∧ jp q (h (s0 + j)) ((s0 + j : Nat) : Int) ∧ P = dI q (h (s0 + j)) ((s0 + j : Nat) : Int)
 | 0, P, ⟨p1, p2⟩ => ⟨_, rfl, p1, p2⟩
 | j + 1, P, ⟨Q, q1, q2, q3, q4⟩ => ⟨Q, ⟨q1, q2⟩, q3, q4⟩
structure Bel (fs : FSt) (s0 m : Nat) (H : Nat → bx) (h : Nat → List bx) : Prop where
 inv : gg 256 fs
 ln : fs.length = m + 1
 s1 : 1 ≤ s0
 tp : s0 + m ≤ 99999999
 has : ∀ n, s0 ≤ n → n ≤ s0 + m → (aW fs (aE n)).isSome = true
 fl : ∀ n, s0 ≤ n → n < s0 + m → (bv fs (aE n)).1 = dJ (cb (H n) :: (h n).map cb)
 hd : ∀ n, s0 ≤ n → n < s0 + m → ∃ s : St, dw s ∧ iK s.1 s.2.1 s.2.2.1 = 0 ∧ H n = ct n s
 lr : ∀ n, s0 ≤ n → n < s0 + m → ∀ r, r ∈ h n → kw r
 rp : m = 0 ∨ ∃ Q, Rep H h s0 (m - 1) Q
theorem Bh {H : Nat → bx} {h : Nat → List bx} {s0 : Nat} : ∀ {m : Nat} {q s : St}, Bas H h s0 m q → (∃ u : St, dw u ∧ iK u.1 u.2.1 u.2.2.1 = 0 ∧ H (s0 + m) = ct (s0 + m) u) → Pre H h s0 m s → dw s → s.2.2.2.2.2.length ≤ m * 2097152 →
  dw q ∧ q.2.2.2.2.2.length ≤ m * 2097152 ∧ ((s0 + m = s0 ∧ s.2.2.2.2.2 = [] ∧ q = iV (H (s0 + m))) ∨ (s0 + m ≠ s0 ∧ H (s0 + m) = ct (s0 + m) s ∧ q = s))
 | 0, q, s, hB, ⟨u, g1, g2, g3⟩, hp, hs, hl => by
  unfold Bas at hB
  unfold Pre at hp
  subst hB hp
  rw [Nat.add_zero] at g3 ⊢
  refine ⟨by rw [g3]; exact nr g1, by simp [iV], .inl ⟨rfl, rfl, rfl⟩⟩
 | j + 1, q, s, ⟨b1, b2⟩, _, hp, hs, hl => by
  have e := oo j q s b1 hp
  subst e
  exact ⟨hs, hl, .inr ⟨by omega, b2, rfl⟩⟩
theorem Db {fs : FSt} (inv : gg 256 fs) {x : List UInt8} (J : (aW fs x).isSome = true) {r : bx} {rs : List bx} {t : List UInt8} (u : (bv fs x).1 = dJ (cb r :: rs.map cb) ++ t) : rs.length < 2097152 := by
 have D : (bv fs x).1.length ≤ 16777216 := Nat.le_trans (oj (ko J)) inv.sz
 have I := oq (cb r :: rs.map cb)
 rw [u, List.length_append] at D
 simp only [List.length_cons, List.length_map] at I
 omega
abbrev OT := FSt × List UInt8 × Int × Bool × Int × List Int × Int × Int × Int × Int × Int × Int × List HeT × Bool × Bool
def Opd (x : Int) (P : St) (r : OT) : Prop := ∃ fs la s0 m sz u, r = (fs, la, 0, false, x, dB s0 m, sz, P.1, P.2.1, P.2.2.1, P.2.2.2.1, P.2.2.2.2.1, P.2.2.2.2.2, false, u) ∧ (aW fs (aE (s0 + m))).isSome = true ∧ 1 ≤ s0 ∧ s0 + m ≤ 99999999
def vV (fs : FSt) (s0 m : Nat) (H : Nat → bx) (h : Nat → List bx) (x : Int) (P : St) : Prop := ∀ (k : Nat) (sz : Int) (u : Bool) (s : St), Pre H h s0 m s → dw s → s.2.2.2.2.2.length ≤ m * 2097152 → 2200000010 < k →
 ∃ r, bS.l2 (dB s0 m) k (m : Int) fs [] 0 false x (dB s0 m) sz s.1 s.2.1 s.2.2.1 s.2.2.2.1 s.2.2.2.2.1 s.2.2.2.2.2 false u = some r ∧ Opd x P r
theorem zC {fs : FSt} {s0 m : Nat} {H : Nat → bx} {h : Nat → List bx} (u : Bel fs s0 m H h) {x : Int} {P : St} (hl : vV fs s0 m H h x P) : ∀ (d j k : Nat) (sz : Int) (D : Bool) (s : St), j + d = m → Pre H h s0 j s → dw s → s.2.2.2.2.2.length ≤ j * 2097152 → 2200000010 + d < k →
  ∃ r, bS.l2 (dB s0 m) k (j : Int) fs [] 0 false x (dB s0 m) sz s.1 s.2.1 s.2.2.1 s.2.2.2.1 s.2.2.2.2.1 s.2.2.2.2.2 false D = some r ∧ Opd x P r
 | 0, j, k, sz, D, s, e, hp, hs, hn, hk => by
  rw [Nat.add_zero] at e
  subst e
  exact hl k sz D s hp hs hn hk
 | d + 1, j, k, sz, D, s, e, hp, hs, hn, hk => by
  have U := u.tp
  have bc := u.ln
  have al := u.inv.ln
  obtain ⟨k, rfl⟩ : ∃ q, k = q + 1 := ⟨k - 1, by omega⟩
  obtain ⟨X, p'⟩ : ∃ X, Rep H h s0 j X := by
   rcases u.rp with x | ⟨Q, q⟩
   ·omega
   ·exact pU j (m - 1 - j) Q (by rw [show j + (m - 1 - j) = m - 1 by omega]; exact q)
  obtain ⟨q, q1, q2, q3⟩ := tg p'
  have hh := u.has (s0 + j) (by omega) (by omega)
  have I := u.fl (s0 + j) (by omega) (by omega)
  rw [← List.append_nil (dJ _)] at I
  have hd := u.hd (s0 + j) (by omega) (by omega)
  have J := u.lr (s0 + j) (by omega) (by omega)
  obtain ⟨g1, g2, g3⟩ := Bh q1 hd hp hs hn
  have a7 := Db u.inv hh I
  have b1 := mg (sg := ((s0 + j : Nat) : Int)) (h (s0 + j)) q
  obtain ⟨b, b2, ad, r1, r2, r3⟩ := CJ u.inv [] x u.s1 U (n := s0 + j) (by omega) (by omega) hh I (by decide) (.inl rfl) hd J g1 g3 q2 (by omega) sz (k := k) (by omega)
  rw [r2 rfl, ← q3] at r1
  rw [bS.l2, dC, if_pos (by omega), if_pos (by omega), Int.toNat_natCast, km (by omega), r1, Option.bind_some]
  simp only []
  rw [ws1 (by omega)]
  exact zC u hl d (j + 1) k ad b X (by omega) p' (by rw [q3]; exact lU g1 fun r hr => kx (J r hr)) (by rw [q3]; omega) (by omega)
theorem zD {fs : FSt} {s0 m : Nat} {H : Nat → bx} {h : Nat → List bx} (u : Bel fs s0 m H h) (x : Int) {q : St} {rs : List bx} {t : List UInt8} (J : (bv fs (aE (s0 + m))).1 = dJ (cb (H (s0 + m)) :: rs.map cb) ++ t) (U : (mH t).2.2 ≠ 0) (hd : ∃ D : St, dw D ∧ iK D.1 D.2.1 D.2.2.1 = 0 ∧ H (s0 + m) = ct (s0 + m) D) (X : ∀ r, r ∈ rs → kw r) (hq : Bas H h s0 m q) (hf : jp q rs ((s0 + m : Nat) : Int)) : vV fs s0 m H h x (dI q rs ((s0 + m : Nat) : Int)) := by
 intro k sz a6 s hp hs hn hk
 have I := u.tp
 have bc := u.ln
 have af := u.inv.ln
 obtain ⟨k, rfl⟩ : ∃ q, k = q + 1 := ⟨k - 1, by omega⟩
 have hh := u.has (s0 + m) (by omega) (by omega)
 obtain ⟨g1, g2, g3⟩ := Bh hq hd hp hs hn
 obtain ⟨b, ab, ad, r1, r2, r3⟩ := CJ u.inv [] x u.s1 I (n := s0 + m) (by omega) (by omega) hh J U (.inr rfl) hd X g1 g3 hf (by omega) sz (k := k) (by omega)
 rw [bS.l2, dC, if_pos (by omega), if_pos (by omega), Int.toNat_natCast, km (by omega), r1, Option.bind_some]
 simp only []
 obtain ⟨k, rfl⟩ : ∃ q, k = q + 1 := ⟨k - 1, by omega⟩
 rw [ws1 (by omega), bS.l2, dC, if_neg (by omega)]
 exact ⟨_, rfl, ab, [], s0, m, ad, b, rfl, by rw [r3]; exact hh, u.s1, I⟩
theorem CK {fs : FSt} {s0 m : Nat} {H : Nat → bx} {h : Nat → List bx} (u : Bel fs s0 (m + 1) H h) (x : Int) {P : St} (hP : Rep H h s0 m P) (D : (mH (bv fs (aE (s0 + (m + 1)))).1).2.2 ≠ 0) : vV fs s0 (m + 1) H h x P := by
 intro k sz ad s hp hs hn hk
 have I := u.tp
 have af := u.ln
 have X := u.inv.ln
 have e := oo m P s hP hp
 subst e
 obtain ⟨k, rfl⟩ : ∃ q, k = q + 1 := ⟨k - 1, by omega⟩
 obtain ⟨J, U, r1, r2⟩ := Dp u.inv [] x u.s1 I (u.has _ (by omega) (by omega)) D (u.has (s0 + m) (by omega) (by omega)) P sz (k := k) (by omega)
 rw [bS.l2, dC, if_pos (by omega), if_pos (by omega), Int.toNat_natCast, km (by omega), r1, Option.bind_some]
 simp only []
 obtain ⟨k, rfl⟩ : ∃ q, k = q + 1 := ⟨k - 1, by omega⟩
 rw [ws1 (by omega), bS.l2, dC, if_neg (by omega)]
 exact ⟨_, rfl, J, U, s0, m, sz, true, rfl, r2, u.s1, by omega⟩
theorem Bi {fs : FSt} {s0 m : Nat} {H : Nat → bx} {h : Nat → List bx} (u : Bel fs s0 m H h) {x : Int} (h1 : 64 ≤ x) (h2 : x ≤ 1048576) {P : St} (hl : vV fs s0 m H h x P) {k : Nat} (hk : 2300000000 < k) :
  ∃ (sg : List Int) (sz : Int) (X : Bool) (q : DS), bS.f k fs [] 0 false x = some (true, x, sg, sz, P.1, P.2.1, P.2.2.1, P.2.2.2.1, P.2.2.2.2.1, P.2.2.2.2.2, false, X, 0, q) := by
 have D := u.tp
 have ab := u.ln
 have al := u.inv.ln
 have a6 := u.s1
 have l0 := vW (s0 := s0) (m := m) u.s1 D k 0 [] (by omega) (by omega) (by simp)
 have l1 := vX (s0 := s0) (m := m) D k 0 (by omega) (by omega)
 obtain ⟨r, l2, a7, a8, I, m', bc, an, e, g1, g2, g3⟩ := zC u hl m 0 k 0 false st0 (by omega) rfl ob (by simp [st0]) (by omega)
 rw [List.drop_zero, List.nil_append, show ((0 : Nat) : Int) = (0 : Int) from rfl] at l0
 rw [show ((0 : Nat) : Int) = (0 : Int) from rfl] at l1 l2
 have af : fS.f (dB s0 m) = some (dB s0 m) := by
  unfold fS.f
  rw [if_pos (by simp only [List.length_nil, dC]; omega), List.nil_append]
 have J : IntKind.i64.wrap (((dB I m').length : Int) - 1) = (m' : Int) := by rw [dC, w64 (by omega) (by omega)]; omega
 have U := kB I m' (by omega)
 rw [J] at U
 subst e
 unfold bS.f
 rw [if_neg (by simp; omega), xC u.inv (by decide), Option.bind_some, CL u.inv.nd D u.has ab, l0, Option.bind_some, if_neg (by rw [dC]; omega), l1, Option.bind_some, af, Option.bind_some, show bS.l2 (dB s0 m) k 0 fs [] 0 false x (dB s0 m) 0 0 0 0 0 0 [] false false = _ from l2, Option.bind_some]
 simp only []
 rw [J, if_pos (by rw [dC]; omega), U, iZ (by omega) g3 (by omega), Option.bind_some, nR, qs (kR g1), Option.bind_some]
 simp only []
 rw [lO, Option.bind_some]
 exact ⟨_, _, _, _, rfl⟩
end Go.Proofs.YtndjkejhacfpdaaGreatDoor

namespace Go.Proofs.YtndjkejhacfpdaaGreatDoor
open Go.RowKit
def mdl (l : List FaT) : MoT := l.foldl mZ (0, 0, 0, 0, [], [])
theorem tj (a b : List FaT) : mdl (a ++ b) = b.foldl mZ (mdl a) := List.foldl_append
theorem xW {N sg : Int} (D : N ≤ sg) : ∀ (rs : List bx) (M P : St), dw M → dw P → Jn N M P → (∀ r, r ∈ rs → kw r) → hD M rs sg → hD P rs sg
 | [], _, _, _, _, _, _, _ => trivial
 | r :: rs, M, P, hM, hP, h, hl, ⟨⟨c1, c2⟩, c3⟩ => by
  have u := kx (hl r (by simp))
  have I := vi h
  have J : r.1 = 3 → 0 < r.2.2.2.2.2.2.1 := by
   intro e
   rcases hl r (by simp) with ⟨t, v, c, h1, rfl⟩ | ⟨e, h1, rfl⟩ | ⟨i, m, h1, U, rfl⟩
   ·simp at e
   ·simp [dZ] at e
   ·exact U.1
  refine ⟨⟨fun e => by have := c1 e; omega, fun e => ?_⟩, xW D rs _ _ (kf hM u.1 u.2 sg) (kf hP u.1 u.2 sg) (zh hM hP h D u.1 u.2 (fun e => ⟨J e, c2 e⟩) c1) (fun x X => hl x (by simp [X])) c3⟩
  rw [Bool.eq_false_iff]
  intro hc
  have := h.ts _ _ (J e) hc
  rw [c2 e] at this
  cases this
theorem sM {sg : Int} : ∀ (rs : List bx) (s : St), hD s rs sg → jp s rs sg
 | [], _, _ => trivial
 | r :: rs, s, h => ⟨h.1.1, sM rs _ h.2⟩
theorem sN {sg : Int} : ∀ (rs : List bx) (s : St) (n : Nat), hD s rs sg → hD s (rs.take n) sg
 | [], _, n, _ => by rw [List.take_nil]; trivial
 | r :: rs, s, 0, _ => trivial
 | r :: rs, s, n + 1, h => ⟨h.1, sN rs _ n h.2⟩
theorem rj {sg : Int} : ∀ (rs : List bx) (s : St) (n : Nat), jp s rs sg → jp s (rs.take n) sg
 | [], _, n, _ => by rw [List.take_nil]; trivial
 | r :: rs, s, 0, _ => trivial
 | r :: rs, s, n + 1, h => ⟨h.1, rj rs _ n h.2⟩
theorem qD {u sg : Int} : ∀ (rs : List bx) (s : St) (m : MoT), dw s → Agr s m u → (∀ r, r ∈ rs → kw r) → hD s rs sg → Agr (dI s rs sg) ((rs.map fct).foldl mZ m) u
 | [], _, _, _, h, _, _ => h
 | r :: rs, s, m, hs, h, hl, ⟨⟨c1, c2⟩, c3⟩ => by
  have D := kx (hl r (by simp))
  exact qD rs _ _ (kf hs D.1 D.2 sg) (AO hs h (hl r (by simp)) c2 c1 sg) (fun x I => hl x (by simp [I])) c3
/-! ### The invariants -/
abbrev syF (fs : FSt) (n : Nat) : Prop := (bv fs (aE n)).2 = ((bv fs (aE n)).1.length : Int)
structure Ful (w : Wl) (H : Nat → bx) (h : Nat → List bx) (all : List FaT) (ab : Int) : Prop where
 lg : lW w H h
 sy : ∀ n, w.s0 ≤ n → n ≤ w.last → syF w.fs n
 ag : Agr w.st (mdl all) ab
 ln : (h w.last).length ≤ all.length
structure RI (w : Wl) (H : Nat → bx) (h : Nat → List bx) (all : List FaT) (sy ab : Int) : Prop where
 lg : lW w H h
 sw : ∀ n, w.s0 ≤ n → n < w.last → syF w.fs n
 ag : Agr w.st (mdl all) ab
 ln : (h w.last).length ≤ all.length
 tl : ∃ (q : St) (c0 : Nat), Bas H h w.s0 w.m q ∧ jp q (h w.last) (w.last : Int) ∧ c0 ≤ (h w.last).length ∧ ((dJ ((cb (H w.last) :: (h w.last).map cb).take (c0 + 1))).length : Int) ≤ (bv w.fs (aE w.last)).2 ∧ sy + ((h w.last).length : Int) ≤ (all.length : Int) + (c0 : Int) ∧
  ∀ c, c0 ≤ c → c ≤ (h w.last).length → Agr (dI q ((h w.last).take c) (w.last : Int)) (mdl (all.take (all.length - (h w.last).length + c))) ab
theorem qW {w : Wl} {H : Nat → bx} {h : Nat → List bx} {all : List FaT} {sy sy' D u : Int} (r : RI w H h all sy D) (h1 : sy' ≤ sy) (I : D ≤ u) : RI w H h all sy' u := by
 obtain ⟨a, b, c, d, q, J, U, X, e3, e4, e5, e6⟩ := r
 exact ⟨a, b, rV c I, d, q, J, U, X, e3, e4, by omega, fun x x1 x2 => rV (e6 x x1 x2) I⟩
theorem AL {w : Wl} {H : Nat → bx} {h : Nat → List bx} {all : List FaT} {D u : Int} (r : Ful w H h all D) (I : D ≤ u) : Ful w H h all u := ⟨r.lg, r.sy, rV r.ag I, r.ln⟩
theorem rW {w : Wl} {H : Nat → bx} {h : Nat → List bx} (lg : lW w H h) {m : MoT} {D : Int} (ag : Agr w.st m D) {P : St} (I : Rep H h w.s0 w.m P) : Agr P m D ∧ dw P ∧ Jn (w.s0 : Int) w.st P := by
 obtain ⟨P', J, U, u⟩ := lg.rp w.s0 w.m (Nat.le_refl _) rfl
 have e := oo w.m P P' I J
 subst e
 have j := C5 u fun i hi => (lg.sg i hi).1
 exact ⟨zO ag u.tvc j.1 j.2, U, u⟩
theorem po {w : Wl} {H : Nat → bx} {h : Nat → List bx} {all : List FaT} {u : Int} (f : Ful w H h all u) : RI w H h all (all.length : Int) u := by
 have J := f.ln
 obtain ⟨P, D, _, _⟩ := f.lg.rp w.s0 w.m (Nat.le_refl _) rfl
 have I := (rW f.lg f.ag D).1
 obtain ⟨q, U, X, q3⟩ := tg D
 refine ⟨f.lg, fun n h1 h2 => f.sy n h1 (by omega), f.ag, f.ln, q, (h w.last).length, U, X, Nat.le_refl _, ?_, by omega, fun c c1 c2 => ?_⟩
 ·rw [List.take_of_length_le (by simp), ← f.lg.fl w.last (by unfold Wl.last; omega) (Nat.le_refl _), f.sy w.last (by unfold Wl.last; omega) (Nat.le_refl _)]
  exact Int.le_refl _
 ·have e : c = (h w.last).length := by omega
  rw [e, List.take_length, List.take_of_length_le (by omega)]
  rw [q3] at I
  exact I
theorem xF (w : Wl) (rs : List bx) (x : List UInt8) : bv (kn w rs).fs x = if aE w.last = x then ((bv w.fs (aE w.last)).1 ++ fu rs, (bv w.fs (aE w.last)).2) else bv w.fs x := by
 unfold kn
 by_cases hc : 0 < rs.length
 ·simp only [if_pos hc]
  rw [lq]
 ·simp only [if_neg hc]
  have : rs = [] := List.length_eq_zero_iff.1 (by omega)
  rw [this, fu, List.append_nil]
  split
  ·rename_i e; rw [e]
  ·rfl
theorem zH {T N Z L : Nat} {w : Wl} (X : WOk T N Z L w) (hT : T < 99999990) {H : Nat → bx} {h : Nat → List bx} {all : List FaT} {sy ab : Int} (r : RI w H h all sy ab) {rs : List bx} (hr : ∀ r, r ∈ rs → kw r) (hc : hD w.st rs (w.last : Int)) : RI (kn w rs) H (fun n => if n = w.last then h n ++ rs else h n) (all ++ rs.map fct) sy ab := by
 have b0 := X.top
 have an : w.last = w.s0 + w.m := rfl
 obtain ⟨lg, a1, ag, ln, q, c0, D, e2, e3, e4, e5, e6⟩ := r
 have u : (kn w rs).last = w.last := rfl
 have I := xF w rs
 have hP : Rep H h w.s0 w.m (dI q (h w.last) (w.last : Int)) := by
  obtain ⟨P, p1, _, _⟩ := lg.rp w.s0 w.m (Nat.le_refl _) rfl
  obtain ⟨q', q1, q2, q3⟩ := tg p1
  have e : q = q' := by
   cases hm : w.m with
   | zero => rw [hm] at D q1; exact D.trans q1.symm
   | succ j => rw [hm] at D q1; exact oo j q q' D.1 q1.1
  rw [e]
  rw [← an] at q3
  rw [← q3]
  exact p1
 obtain ⟨pa, J, pj⟩ := rW lg ag hP
 have U := xW (N := (w.s0 : Int)) (sg := (w.last : Int)) (by omega) rs w.st _ X.st J pj hr hc
 refine ⟨B9 X hT lg hr hc, fun n h1 h2 => ?_, ?_, ?_, q, c0, ?_, ?_, ?_, ?_, ?_, fun c c1 c2 => ?_⟩
 ·rw [u] at h2
  unfold syF
  rw [I, if_neg (fun e => by have := fX (by omega) (by omega) e; omega)]
  exact a1 n h1 h2
 ·rw [tj]
  exact qD rs w.st _ X.st ag hr hc
 ·rw [u]
  simp only [if_true, List.length_append, List.length_map]
  omega
 ·show Bas H _ w.s0 w.m q
  cases hm : w.m with
  | zero => rw [hm] at D; exact D
  | succ j =>
   rw [hm] at D
   exact ⟨mh j q (fun n n1 n2 => ⟨rfl, if_neg (by omega)⟩) D.1, D.2⟩
 ·rw [u]
  simp only [if_true]
  exact nL _ _ _ _ e2 (sM rs _ U)
 ·rw [u]
  simp only [if_true, List.length_append]
  omega
 ·rw [u, I, if_pos rfl]
  simp only [if_true, List.map_append]
  rw [← List.cons_append, List.take_append_of_le_length (by simp; omega)]
  exact e4
 ·rw [u]
  simp only [if_true, List.length_append, List.length_map]
  omega
 ·rw [u] at c2 ⊢
  simp only [if_true, List.length_append, List.length_map] at c2 ⊢
  by_cases hcl : c ≤ (h w.last).length
  ·rw [List.take_append_of_le_length hcl, List.take_append_of_le_length (by omega), show all.length + rs.length - ((h w.last).length + rs.length) + c = all.length - (h w.last).length + c by omega]
   exact e6 c c1 hcl
  ·obtain ⟨d, rfl⟩ : ∃ d, c = (h w.last).length + d := ⟨c - (h w.last).length, by omega⟩
   rw [show all.length + rs.length - ((h w.last).length + rs.length) + ((h w.last).length + d) = all.length + d by omega, List.take_length_add_append, List.take_length_add_append, qb, tj, ← List.map_take]
   exact qD _ _ _ J pa (fun x hx => hr x (List.mem_of_mem_take hx)) (sN rs _ d U)
theorem qV {T N Z L : Nat} {w : Wl} (D : WOk T N Z L w) (U : T ≤ 99999999) {H : Nat → bx} {h : Nat → List bx} {all : List FaT} {sy I : Int} (r : RI w H h all sy I) : Ful (mM w) H h all I := by
 have J := D.top
 refine ⟨xP r.lg (D.has w.last (by unfold Wl.last; omega) (Nat.le_refl _)), fun n h1 u => ?_, r.ag, r.ln⟩
 have u : n ≤ w.last := u
 show syF (bE w.fs (aE w.last) _) n
 unfold syF
 rw [lq]
 split
 ·rfl
 ·rename_i e
  refine r.sw n h1 ?_
  rcases Nat.lt_or_eq_of_le u with x | x
  ·exact x
  ·exact absurd (by rw [x]) e
theorem AG {T N Z L : Nat} {w : Wl} (I : WOk T N Z L w) (hT : T < 99999990) {H : Nat → bx} {h : Nat → List bx} {all : List FaT} {sy U : Int} (r : RI w H h all sy U) (D : w.most ≤ (w.size : Int)) : ∃ H' h', Ful (fK w) H' h' all U := by
 have af := I.top
 obtain ⟨H', h', g1, g2⟩ := AT I hT r.lg
 have hs := qV I (by omega) r
 have u : (fK w).last = w.last + 1 := by unfold fK; rw [if_pos D]; rfl
 refine ⟨H', h', g1, fun n h1 X => ?_, by rw [pk]; exact r.ag, by rw [u, g2 D]; exact Nat.zero_le _⟩
 rw [u] at X
 have J : (fK w).s0 = w.s0 := by unfold fK; rw [if_pos D]
 rw [J] at h1
 unfold fK
 rw [if_pos D]
 unfold syF
 simp only []
 rw [mQ]
 by_cases e : n = w.last + 1
 ·rw [if_pos (by rw [e])]
 ·rw [if_neg (fun x => by have := fX (by unfold Wl.last at X; omega) (by unfold Wl.last; omega) x; omega)]
  exact hs.sy n h1 (by show n ≤ w.last; omega)
theorem A3 {s : St} (X : dw s) {m : MoT} {J : Int} (h : Agr s m J) {sg i : Int} (U : np s sg i = false) (hi : i ≤ J) : Agr (gM s (ir s.2.2.2.2.2 sg)) m J := by
 have hp := pg s.2.2.2.2.2 sg
 have I := rC s.2.2.2.2.2 sg
 obtain ⟨g, eg⟩ : ∃ g, ir s.2.2.2.2.2 sg = g := ⟨_, rfl⟩
 rw [eg] at hp I ⊢
 obtain ⟨al, u, an⟩ := rB X hp
 obtain ⟨a, b, c, d, e⟩ := h
 have D : (gM s g).2.2.2.2.2 = s.2.2.2.2.2.drop g := rfl
 refine ⟨a, b, ?_, fun x x1 x2 x3 x4 => ?_, ?_⟩
 ·rw [u, D, List.length_drop]; omega
 ·rw [u] at x1
  rw [u, D, List.length_drop] at x4
  rw [D, u, lh, show g + (x - (s.2.2.2.1 + (g : Int)) - 1).toNat = (x - s.2.2.2.1 - 1).toNat by omega]
  exact d x (by omega) x2 x3 (by omega)
 ·rw [u]
  by_cases h0 : g = 0
  ·omega
  ·have h1 := X.idx (g - 1) (by omega)
   have h2 := I (g - 1) (by omega)
   unfold np at U
   rw [List.any_eq_false] at U
   have h3 := U _ (mJ (l := s.2.2.2.2.2) (i := g - 1) (by omega))
   rw [h2, h1] at h3
   simp at h3
   omega
theorem AK {T N Z L : Nat} {u : Wl} (I : WOk T N Z L u) (X : T ≤ 99999999) (hm : 0 < u.m) {i : Int} (hn : np u.st (u.s0 : Int) i = false) {H : Nat → bx} {h : Nat → List bx} {all : List FaT} {J : Int} (hi : i ≤ J) (f : Ful u H h all J) : Ful (lB u) H h all J := by
 have al := I.top
 have D : (lB u).last = u.last := by unfold Wl.last; show u.s0 + 1 + (u.m - 1) = _; omega
 refine ⟨AU I X hm f.lg, fun n h1 U => ?_, A3 I.st f.ag hn hi, by rw [D]; exact f.ln⟩
 have h1 : u.s0 + 1 ≤ n := h1
 rw [D] at U
 show syF (fj u.fs (aE u.s0)) n
 have e : bv (fj u.fs (aE u.s0)) (aE n) = bv u.fs (aE n) := by
  unfold bv
  rw [mf _ _ _ I.inv.nd, if_neg (fun e => by have := fX (by omega) (by unfold Wl.last at U; omega) e; omega)]
 unfold syF
 rw [e]
 exact f.sy n (by omega) U
end Go.Proofs.YtndjkejhacfpdaaGreatDoor

namespace Go.Proofs.YtndjkejhacfpdaaGreatDoor
open Go.RowKit
theorem pZ (l : List UInt8) (keep : Int) (x : List UInt8) : ∀ fs : FSt, aW (iL fs l keep) x = (aW fs x).map (crF l keep x)
 | [] => rfl
 | p :: fs => by
  have u := pZ l keep x fs
  show aW ((p.1, crF l keep p.1 p.2) :: iL fs l keep) x = _
  rw [aW, aW]
  by_cases e : p.1 = x
  ·simp only [if_pos e, e]; rfl
  ·simp only [if_neg e]; exact u
theorem yK {l : List UInt8} {keep : Int} {x : List UInt8} {fs : FSt} (h : (aW fs x).isSome = true) : (aW (iL fs l keep) x).isSome = true := by
 rw [pZ, kR h]; rfl
theorem qa {l : List UInt8} {keep : Int} {x : List UInt8} {fs : FSt} (h : (aW fs x).isSome = true) : bv (iL fs l keep) x = crF l keep x (bv fs x) := by
 have : aW (iL fs l keep) x = some (crF l keep x (bv fs x)) := by rw [pZ, kR h]; rfl
 exact kb this
theorem zR {H : Nat → bx} {h : Nat → List bx} {s0 : Nat} {D : St} (I : dw D) {n : Nat} (J : H s0 = ct n D) : ∀ (j : Nat) (P : St), (∀ n, s0 ≤ n → n ≤ s0 + j → (∀ r, r ∈ h n → kw r) ∧ (h n).length < 2097152) → Rep H h s0 j P → dw P ∧ P.2.2.2.2.2.length ≤ (j + 1) * 2097152
 | 0, P, hl, ⟨_, p2⟩ => by
  have l1 := hl s0 (Nat.le_refl _) (Nat.le_refl _)
  have l2 := mg (sg := (s0 : Int)) (h s0) (iV (H s0))
  have l3 : (iV (H s0)).2.2.2.2.2.length = 0 := rfl
  rw [p2]
  exact ⟨lU (by rw [J]; exact nr I) fun r u => kx (l1.1 r u), by omega⟩
 | j + 1, P, hl, ⟨Q, q1, _, _, q4⟩ => by
  have l1 := hl (s0 + j + 1) (by omega) (by omega)
  have l2 := mg (sg := ((s0 + j + 1 : Nat) : Int)) (h (s0 + j + 1)) Q
  obtain ⟨U, g2⟩ := zR I J j Q (fun n X n2 => hl n X (by omega)) q1
  rw [q4]
  exact ⟨lU U fun r u => kx (l1.1 r u), by omega⟩
def pV (fs : FSt) (la : List UInt8) (all : List FaT) (sy D : Int) : Prop := gg 256 fs ∧ ∀ (keep x : Int) (k : Nat), 64 ≤ x → x ≤ 1048576 → 2300000000 < k → ∃ (sg : List Int) (sz : Int) (u : Bool) (q : DS) (P : St) (i : Nat),
 bS.f k (iL fs la keep) [] 0 false x = some (true, x, sg, sz, P.1, P.2.1, P.2.2.1, P.2.2.2.1, P.2.2.2.2.1, P.2.2.2.2.2, false, u, 0, q) ∧ dw P ∧ P.2.2.2.2.2.length < 2 ^ 30 ∧ i ≤ all.length ∧ sy ≤ (i : Int) ∧ Agr P (mdl (all.take i)) D
theorem rQ {fs : FSt} {la : List UInt8} {all : List FaT} {sy D : Int} (h : pV fs la all sy D) (b : List FaT) : pV fs la (all ++ b) sy D := by
 refine ⟨h.1, fun keep x k I J U => ?_⟩
 obtain ⟨sg, sz, u, q, P, i, h1, X, h3, h4, h5, h6⟩ := h.2 keep x k I J U
 exact ⟨sg, sz, u, q, P, i, h1, X, h3, by rw [List.length_append]; omega, h5, by rw [List.take_append_of_le_length h4]; exact h6⟩
theorem Bn {T N Z L : Nat} {w : Wl} (I : WOk T N Z L w) (hT : T ≤ 99999990) {H H' : Nat → bx} {h h' : Nat → List bx} (lg : lW w H h) {M : Nat} (hM : M ≤ w.m + 1) {fs : FSt} (inv : gg 256 fs) (ln : fs.length = M + 1) (has : ∀ n, w.s0 ≤ n → n ≤ w.s0 + M → (aW fs (aE n)).isSome = true) (fl : ∀ n, w.s0 ≤ n → n < w.s0 + M → bv fs (aE n) = bv w.fs (aE n) ∧ syF w.fs n) (D : ∀ n, w.s0 ≤ n → n < w.s0 + M → H' n = H n ∧ h' n = h n) (la : List UInt8) (keep : Int) : Bel (iL fs la keep) w.s0 M H' h' := by
 have J := I.top
 have U : w.last = w.s0 + w.m := rfl
 refine ⟨zM inv la keep, by unfold iL; rw [List.length_map, ln], I.s1, by omega, fun n h1 u => yK (has n h1 u), fun n h1 u => ?_, fun n h1 u => ?_, fun n h1 u => ?_, ?_⟩
 ·obtain ⟨X, f2⟩ := fl n h1 u
  unfold syF at f2
  have hb := sE (l := la) (keep := keep) (x := aE n) (v := bv w.fs (aE n)) ⟨by omega, by omega⟩
  rw [qa (has n h1 (by omega)), X, (D n h1 u).1, (D n h1 u).2, ← lg.fl n h1 (by omega)]
  unfold crF
  exact List.take_of_length_le (by omega)
 ·rw [(D n h1 u).1]; exact lg.hd n h1 (by omega)
 ·rw [(D n h1 u).2]; exact lg.lr n h1 (by omega)
 ·cases M with
  | zero => exact .inl rfl
  | succ j =>
   obtain ⟨P, p1, _, _⟩ := lg.rp w.s0 w.m (Nat.le_refl _) rfl
   obtain ⟨Q, q1⟩ := pU j (w.m - j) P (by rw [show j + (w.m - j) = w.m by omega]; exact p1)
   exact .inr ⟨Q, mh j Q (fun n n1 n2 => D n n1 (by omega)) q1⟩
theorem zS {T N Z L : Nat} {w : Wl} (D : WOk T N Z L w) {H : Nat → bx} {h : Nat → List bx} (lg : lW w H h) {j : Nat} (hj : j ≤ w.m) {P : St} (I : Rep H h w.s0 j P) : dw P ∧ P.2.2.2.2.2.length ≤ (j + 1) * 2097152 := by
 have J : w.last = w.s0 + w.m := rfl
 obtain ⟨s', U, g2, X⟩ := lg.hd w.s0 (Nat.le_refl _) (by omega)
 exact zR U X j P (fun n u n2 => ⟨lg.lr n u (by omega), wt D lg u (by omega)⟩) I
theorem we {T N Z L : Nat} {w : Wl} (hw : WOk T N Z L w) (hT : T ≤ 99999990) {H : Nat → bx} {h : Nat → List bx} {all : List FaT} {sy ab : Int} (r : RI w H h all sy ab) {fs : FSt} (inv : gg 256 fs) (ln : fs.length = w.m + 1) (has : ∀ n, w.s0 ≤ n → n ≤ w.last → (aW fs (aE n)).isSome = true) (he : ∀ n, w.s0 ≤ n → n < w.last → bv fs (aE n) = bv w.fs (aE n)) {d : Nat} (hl : bv fs (aE w.last) = ((bv w.fs (aE w.last)).1.take d, (bv w.fs (aE w.last)).2)) (la : List UInt8) : pV fs la all sy ab := by
 have b5 := hw.top
 have b6 : w.last = w.s0 + w.m := rfl
 have b7 := inv.ln
 refine ⟨inv, fun keep x k x1 x2 hk => ?_⟩
 obtain ⟨lg, al, ag, ch, q, c0, I, e2, e3, e4, e5, e6⟩ := r
 have hb := Bn hw hT lg (M := w.m) (by omega) inv ln has (fun n n1 n2 => ⟨he n n1 n2, al n n1 n2⟩) (fun n _ _ => ⟨rfl, rfl⟩) la keep
 have hd := lg.hd w.last (by omega) (Nat.le_refl _)
 have J := lg.lr w.last (by omega) (Nat.le_refl _)
 have U := lg.fl w.last (by omega) (Nat.le_refl _)
 have X := has w.last (by omega) (Nat.le_refl _)
 have ad := inv.sy _ (ko X)
 have u := sE (l := la) (keep := keep) (x := aE w.last) ad
 obtain ⟨e, ee⟩ : ∃ e, crN la keep (aE w.last) (bv fs (aE w.last)) = e := ⟨_, rfl⟩
 have D : (bv (iL fs la keep) (aE w.last)).1 = (bv fs (aE w.last)).1.take e.toNat := by
  rw [qa X]
  unfold crF
  rw [ee]
 simp only at ad u
 rw [ee] at u
 rw [hl] at u D
 simp only at u D
 rw [List.take_take, U] at D
 rw [List.length_take, U] at u
 obtain ⟨c, t, c1, c2, c3, c4⟩ := th (cb (H w.last) :: (h w.last).map cb) (min e.toNat d) (ti (by omega) hd J) (by omega)
 have c5 := c4 (c0 + 1) (by omega) (by simp; omega)
 obtain ⟨c, rfl⟩ : ∃ c', c = c' + 1 := ⟨c - 1, by omega⟩
 simp only [List.length_cons, List.length_map] at c1
 rw [c2, List.take_succ_cons, ← List.map_take] at D
 have an := zD hb x (q := q) (rs := (h w.last).take c) D c3 hd (fun r hr => J r (List.mem_of_mem_take hr)) I (rj _ _ _ e2)
 obtain ⟨sg, sz, a6, dq, o1⟩ := Bi hb x1 x2 an hk
 have hq : dw q ∧ q.2.2.2.2.2.length ≤ w.m * 2097152 := by
  cases hm : w.m with
  | zero =>
   rw [hm] at I
   obtain ⟨s', g1, g2, g3⟩ := lg.hd w.s0 (Nat.le_refl _) (by omega)
   have I : q = iV (H w.s0) := I
   rw [I]
   exact ⟨by rw [g3]; exact nr g1, by simp [iV]⟩
  | succ j =>
   rw [hm] at I
   exact zS hw lg (by omega) I.1
 have b1 := wt hw lg (n := w.last) (by omega) (Nat.le_refl _)
 have a7 := mg (sg := (w.last : Int)) ((h w.last).take c) q
 rw [List.length_take] at a7
 exact ⟨sg, sz, a6, dq, _, all.length - (h w.last).length + c, o1, lU hq.1 fun r hr => kx (J r (List.mem_of_mem_take hr)), by show (dI q _ (w.last : Int)).2.2.2.2.2.length < _; omega, by omega, by omega, e6 c (by omega) (by omega)⟩
theorem nS {T N Z L : Nat} {w : Wl} (u : WOk T N Z L w) (I : T ≤ 99999990) {H : Nat → bx} {h : Nat → List bx} {all : List FaT} {sy D : Int} (r : RI w H h all sy D) (la : List UInt8) : pV w.fs la all sy D :=
 we u I r u.inv r.lg.len u.has (fun n _ _ => rfl) (d := (bv w.fs (aE w.last)).1.length) (by rw [List.take_length]) la
theorem CO {T N Z L : Nat} {w : Wl} (u : WOk T N Z L w) (hT : T < 99999990) (hN : N < 256) (hZ : Z + 200 ≤ 16777216) {H : Nat → bx} {h : Nat → List bx} {all : List FaT} {sy ab : Int} (f : Ful w H h all ab) (a1 : sy ≤ (all.length : Int)) {q : List UInt8} (hq : q = (frB (cb (ct (w.last + 1) w.st))).take q.length) (la : List UInt8) : pV (bE w.fs (aE (w.last + 1)) (q, 0)) la all sy ab := by
 have b5 := u.top
 have b6 : w.last = w.s0 + w.m := rfl
 have b7 := u.num
 have b8 := u.siz
 have b9 := u.inv.ln
 have cd := f.lg.len
 have U := u.non (w.last + 1) (by omega) (by omega)
 have z1 := im (aE (w.last + 1)) ((q, 0) : List UInt8 × Int) w.fs
 rw [ql (by rw [U]; rfl)] at z1
 simp only [List.length_nil, Nat.add_zero] at z1
 have ch := kP (cb (ct (w.last + 1) w.st))
 have c0 := jM (ct (w.last + 1) w.st)
 have c5 : (ct (w.last + 1) w.st).2.2.2.2.2.2.2.2.2.2.length = 0 := rfl
 have c6 : q.length ≤ (frB (cb (ct (w.last + 1) w.st))).length := by
  have := congrArg List.length hq
  rw [List.length_take] at this
  omega
 have l1 := iw w.fs (aE (w.last + 1)) ((q, 0) : List UInt8 × Int)
 rw [U] at l1
 simp only [Option.isSome_none, Bool.false_eq_true, if_false] at l1
 have I : gg 256 (bE w.fs (aE (w.last + 1)) (q, 0)) := mP u.inv (by rw [kc]; omega) ⟨by simp, by simp⟩ (by omega) (by omega)
 have hg : ∀ n, w.s0 ≤ n → n ≤ w.last → bv (bE w.fs (aE (w.last + 1)) (q, 0)) (aE n) = bv w.fs (aE n) := fun n J X => by
  rw [lq, if_neg (fun e => by have := fX (by omega) (by omega) e; omega)]
 have a6 : bv (bE w.fs (aE (w.last + 1)) (q, 0)) (aE (w.last + 1)) = (q, 0) := by rw [lq, if_pos rfl]
 have has : ∀ n, w.s0 ≤ n → n ≤ w.s0 + (w.m + 1) → (aW (bE w.fs (aE (w.last + 1)) (q, 0)) (aE n)).isSome = true := fun n J X => by
  rw [eU]
  split
  ·rfl
  ·rename_i e
   refine u.has n J ?_
   rcases Nat.lt_or_eq_of_le X with x | x
   ·omega
   ·exact absurd (by rw [x]; rfl) e
 refine ⟨I, fun keep x k x1 x2 hk => ?_⟩
 obtain ⟨P, p1, p2, p3⟩ := f.lg.rp w.s0 w.m (Nat.le_refl _) rfl
 have pa := (rW f.lg f.ag p1).1
 have pl := zS u f.lg (Nat.le_refl _) p1
 have hb := Bn (H' := fun n => if n = w.last + 1 then ct n w.st else H n) (h' := fun n => if n = w.last + 1 then [] else h n) u (by omega) f.lg (M := w.m + 1) (Nat.le_refl _) I (by omega) has (fun n J X => ⟨hg n J (by omega), f.sy n J (by omega)⟩) (fun n J X => ⟨if_neg (by omega), if_neg (by omega)⟩) la keep
 have ad := mh (H' := fun n => if n = w.last + 1 then ct n w.st else H n) (h' := fun n => if n = w.last + 1 then [] else h n) w.m P (fun n J X => ⟨if_neg (by omega), if_neg (by omega)⟩) p1
 have bc := has (w.last + 1) (by omega) (by omega)
 obtain ⟨e, ee⟩ : ∃ e, crN la keep (aE (w.last + 1)) (q, 0) = e := ⟨_, rfl⟩
 have D : (bv (iL (bE w.fs (aE (w.last + 1)) (q, 0)) la keep) (aE (w.last + 1))).1 = q.take e.toNat := by
  rw [qa bc, a6]
  unfold crF
  rw [ee]
 have be : q.take e.toNat = (dJ [cb (ct (w.last + 1) w.st)]).take (min e.toNat q.length) := by rw [dJ, dJ, List.append_nil, ← List.take_take, ← hq]
 have af : w.s0 + (w.m + 1) = w.last + 1 := rfl
 have hd : ∃ s' : St, dw s' ∧ iK s'.1 s'.2.1 s'.2.2.1 = 0 ∧ ct (w.last + 1) w.st = ct (w.last + 1) s' := ⟨w.st, u.st, f.lg.cs, rfl⟩
 obtain ⟨c, t, c1, c2, c3, c4⟩ := th [cb (ct (w.last + 1) w.st)] (min e.toNat q.length) (ti (rs := []) (by omega) hd fun r hr => by cases hr) (by
  rw [dJ, dJ, List.append_nil]; omega)
 rw [be, c2] at D
 have fin : vV (iL (bE w.fs (aE (w.last + 1)) (q, 0)) la keep) w.s0 (w.m + 1) (fun n => if n = w.last + 1 then ct n w.st else H n) (fun n => if n = w.last + 1 then [] else h n) x P := by
  cases c with
  | zero =>
   refine CK hb x ad ?_
   rw [show w.s0 + (w.m + 1) = w.last + 1 from rfl, D]
   exact c3
  | succ c =>
   rw [List.take_succ_cons, List.take_nil] at D
   refine zD hb x (q := P) (rs := []) (t := t) ?_ c3 ?_ (fun r hr => by cases hr) ⟨ad, ?_⟩ trivial
   ·rw [if_pos af]; exact D
   ·rw [if_pos af]; exact hd
   ·show (if w.s0 + w.m + 1 = w.last + 1 then ct (w.s0 + w.m + 1) w.st else H _) = _
    rw [if_pos (show w.s0 + w.m + 1 = w.last + 1 from rfl)]
    unfold ct
    rw [p3.la, p3.tvc.1, p3.tvc.2.1, p3.tvc.2.2]
 obtain ⟨sg, sz, b0, dq, o1⟩ := Bi hb x1 x2 fin hk
 exact ⟨sg, sz, b0, dq, P, all.length, o1, p2, by omega, Nat.le_refl _, a1, by rw [List.take_length]; exact pa⟩
end Go.Proofs.YtndjkejhacfpdaaGreatDoor

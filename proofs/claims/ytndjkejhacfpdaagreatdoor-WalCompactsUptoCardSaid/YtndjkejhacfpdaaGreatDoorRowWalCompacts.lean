/- The row of the law WalCompacts, out of its pure law and the printed walk. Conditions: none. -/
import Derived.Test.YtndjkejhacfpdaaGreatDoorM8
import Derived.Test.YtndjkejhacfpdaaGreatDoorRows
import Derived.ProofKit
import Derived.OpenShut
import Derived.ShutString
import Derived.ChangeOld
import Derived.SizedLaws
import Derived.Deep.CondSized
import Derived.JoinedCond
import Derived.Lib.ItoaMem
import Derived.Lib.Repeat
import Derived.Lib.SlTrimSet
import Derived.Lib.LaidTab
import Derived.Deep.DeepHandedRow
import Derived.Lay
import Derived.MakeChecks
import Derived.Test.YtndjkejhacfpdaaGreatDoorCards
import Derived.Test.YtndjkejhacfpdaaGreatDoorTie
set_option linter.unusedVariables false
set_option linter.unusedSimpArgs false
set_option linter.unusedSectionVars false
namespace Go.Proofs.YtndjkejhacfpdaaGreatDoor
open Go.RowKit
theorem mo {α : Type} (l : List α) (d : α) (i : Nat) (h : i < l.length) : l.getD i d = l[i] := by simp [List.getD_eq_getElem?_getD, List.getElem?_eq_getElem h]
theorem fD {α : Type} (l : List α) (d : α) {i : Nat} (h : i < l.length) : l.drop i = l.getD i d :: l.drop (i + 1) := by rw [mo _ _ _ h]; exact List.drop_eq_getElem_cons h
theorem wi1 {i : Nat} (h : i < 2 ^ 62) : IntKind.i64.wrap ((i : Int) + 1) = ((i + 1 : Nat) : Int) := by rw [w64 (by omega) (by omega)]; simp
/-! ### Names -/
def lx (c : UInt8) : Bool := ((((decide (((c.toNat : Int)) < (97 : Int))) || (decide ((122 : Int) < (c.toNat : Int)))) && ((decide ((c.toNat : Int) < (48 : Int))) || (decide ((57 : Int) < (c.toNat : Int))))) && (!decide ((c.toNat : Int) = (45 : Int)))) && (!decide ((c.toNat : Int) = (46 : Int)))
def nmB (x : List UInt8) : Bool := (x.all fun c => !lx c) && (decide ((0 : Int) < (x.length : Int)) && decide ((x.length : Int) ≤ (32 : Int)))
theorem mX (x : List UInt8) (q : x.length < 2 ^ 62) : ∀ (d i k : Nat), i + d = x.length → d + 1 ≤ k → dC.l0 x k (i : Int) = some (if (x.drop i).all (fun c => !lx c) then .inl () else .inr false)
 | d, i, 0, _, hk => by omega
 | 0, i, k + 1, h, _ => by
  simp only [dC.l0]
  rw [if_neg (by omega), List.drop_of_length_le (by omega)]; rfl
 | d + 1, i, k + 1, h, hk => by
  simp only [dC.l0]
  rw [if_pos (by omega), if_pos (by omega), wi1 (by omega), mX x q d (i + 1) k (by omega) (by omega), fD x 0 (i := i) (by omega)]
  simp only [Int.toNat_natCast, List.all_cons]
  obtain ⟨c, r⟩ : ∃ c, x.getD i 0 = c := ⟨_, rfl⟩
  simp only [r]
  have e : ((if ((decide (((c.toNat : Int)) < (97 : Int))) || (decide ((122 : Int) < (c.toNat : Int)))) = true then (some ((decide ((c.toNat : Int) < (48 : Int))) || (decide ((57 : Int) < (c.toNat : Int))))) else (some false)) : Option Bool) = some (((decide (((c.toNat : Int)) < (97 : Int))) || (decide ((122 : Int) < (c.toNat : Int)))) && ((decide ((c.toNat : Int) < (48 : Int))) || (decide ((57 : Int) < (c.toNat : Int))))) := by
   cases ((decide (((c.toNat : Int)) < (97 : Int))) || (decide ((122 : Int) < (c.toNat : Int)))) <;> rfl
  rw [e, Option.bind_some]
  show (if lx c = true then _ else _) = _
  cases lx c <;> rfl
theorem tw {x : List UInt8} {k : Nat} (q : x.length < 2 ^ 62) (r : x.length + 1 ≤ k) : dC.f k x = some (nmB x) := by
 unfold dC.f nmB
 have := mX x q x.length 0 k (by omega) (by omega)
 rw [show ((0 : Nat) : Int) = 0 from rfl, List.drop_zero] at this
 rw [this]
 cases x.all fun c => !lx c <;> rfl
theorem uz {x : List UInt8} (h : nmB x = true) : x.length ≤ 32 := by
 unfold nmB at h
 simp at h
 omega
/-! ### What a disk is -/
abbrev FSt := List (List UInt8 × (List UInt8 × Int))
abbrev DS := FSt × List UInt8 × Int × Bool
def szF (fs : FSt) : Nat := (fs.map fun p => p.2.1.length).sum
structure fv (n : Nat) (fs : FSt) : Prop where
 nd : (fs.map (·.1)).Nodup
 sy : ∀ p ∈ fs, 0 ≤ p.2.2 ∧ p.2.2 ≤ (p.2.1.length : Int)
 nm : ∀ p ∈ fs, p.1.length ≤ 32
 sz : szF fs ≤ 16777216
 ln : fs.length ≤ n
theorem vJ (n : Nat) : fv n [] := ⟨by simp, by simp, by simp, by simp [szF], by simp⟩
def cc (fs : FSt) (x : List UInt8) : List UInt8 × Int := (aR fs x).getD ([], 0)
theorem kA {fs : FSt} {x : List UInt8} (h : (aR fs x).isSome = true) : (x, cc fs x) ∈ fs := pj _ _ _ (by rw [cc]; exact fC h)
theorem uB {fs : FSt} (h : (fs.map (·.1)).Nodup) {p : List UInt8 × (List UInt8 × Int)} (hp : p ∈ fs) : cc fs p.1 = p.2 := by
 rw [cc, lT fs p.1 p.2 h hp]; rfl
theorem oX : ∀ {fs : FSt} {p : List UInt8 × (List UInt8 × Int)}, p ∈ fs → p.2.1.length ≤ szF fs
 | [], _, h => by cases h
 | q :: l, p, h => by
  rcases List.mem_cons.1 h with rfl | h
  ·simp [szF]
  ·have := oX h
   simp only [szF, List.map_cons, List.sum_cons] at this ⊢; omega
/-! ### Sizes -/
def jT (fs : FSt) (x : List UInt8) : Nat := (cc fs x).1.length
theorem ob (fs : FSt) : ∀ (l : List (List UInt8)) (s : Nat), (∀ x ∈ l, (aR fs x).isSome = true) → s + (l.map (jT fs)).sum < 2 ^ 62 →
  gh (fun (s : Int) (x : List UInt8) (v : List UInt8 × Int) => some (IntKind.i64.wrap (s + (v.1.length : Int)), v)) l (s : Int) fs = some (((s + (l.map (jT fs)).sum : Nat) : Int), fs)
 | [], s, _, _ => by simp [gh]
 | x :: l, s, h, hb => by
  have u := h x (by simp)
  have r : aR fs x = some (cc fs x) := by rw [cc]; exact fC u
  simp only [List.map_cons, List.sum_cons] at hb ⊢
  have q : (cc fs x).1.length = jT fs x := rfl
  rw [gh, r, Option.bind_some]
  simp only [Option.bind_some]
  rw [jj r, w64 (by omega) (by omega)]
  have := ob fs l (s + jT fs x) (fun y D => h y (List.mem_cons_of_mem _ D)) (by omega)
  rw [show (s : Int) + ((cc fs x).1.length : Int) = ((s + jT fs x : Nat) : Int) by rw [q]; omega, this]
  congr 2
  omega
theorem tx {fs : FSt} (h : (fs.map (·.1)).Nodup) : ((fs.map (·.1)).map (jT fs)).sum = szF fs := by
 unfold szF
 rw [List.map_map]
 congr 1
 refine List.map_congr_left fun p hp => ?_
 simp only [Function.comp, jT, uB h hp]
theorem sC {fs : FSt} {x : List UInt8} (h : x ∈ fs.map (·.1)) : (aR fs x).isSome = true := (kF fs x).1 h
theorem uC {n : Nat} {fs : FSt} (h : fv n fs) (l : List UInt8) (a : Int) (d : Bool) : eY.f fs l a d = some (szF fs : Int) := by
 unfold eY.f lu iH
 have q := tx h.nd
 have u := h.sz
 have h1 : ∀ m, m.Perm (fs.map (·.1)) → gh (fun (s : Int) (x : List UInt8) (v : List UInt8 × Int) => (some (IntKind.i64.wrap (s + (v.1.length : Int)))).map fun D => (D, v)) m 0 fs = some ((szF fs : Int), fs) := fun m r => by
  have G : (m.map (jT fs)).sum = szF fs := by rw [← q]; exact (r.map _).sum_nat
  have := ob fs m 0 (fun x I => sC (r.mem_iff.1 I)) (by omega)
  rw [G, Nat.zero_add] at this
  exact this
 rw [if_pos ⟨h.nd, fun m r => by rw [h1 m (kP r), h1 _ (List.Perm.refl _)]⟩, h1 _ (List.Perm.refl _)]
 rfl
/-! ### What single operations do -/
def eU (l : List UInt8) (a : Int) (d : Bool) : Bool × List UInt8 × Int × Bool := if a = 0 then (false, l, a, d) else (decide (IntKind.i64.wrap (a - 1) = 0), l, IntKind.i64.wrap (a - 1), decide (IntKind.i64.wrap (a - 1) = 0))
theorem kR (fs : FSt) (l : List UInt8) (a : Int) (d : Bool) : bK.f fs l a d = some (eU l a d) := by
 unfold bK.f eU; split <;> rfl
def jB (fs : FSt) (l : List UInt8) (a : Int) (d : Bool) (x : List UInt8) : Int × DS :=
 if d = true then (11, fs, l, a, d) else if nmB x = false then (7, fs, l, a, d) else if (aR fs x).isSome = true then (9, fs, l, a, d) else if (256 : Int) ≤ (fs.length : Int) then (10, fs, l, a, d)
 else if (eU l a d).1 = true then (11, fs, (eU l a d).2) else (0, aX fs x ([], 0), (eU l a d).2)
theorem sD (fs : FSt) (l : List UInt8) (a : Int) (d : Bool) (x : List UInt8) : cM.f fs l a d x = some (aR fs x).isSome := by
 unfold cM.f; cases (aR fs x).isSome <;> rfl
theorem sE (fs : FSt) (l : List UInt8) (a : Int) (d : Bool) (x : List UInt8) {k : Nat} (q : x.length < 2 ^ 62) (r : x.length + 1 ≤ k) : eF.f k fs l a d x = some (jB fs l a d x) := by
 unfold eF.f jB
 rw [tw q r, sD, kR]
 simp only [Option.bind_some]
 cases d <;> cases nmB x <;> cases (aR fs x).isSome <;> simp <;> (repeat' split) <;> rfl
def jC (fs : FSt) (l : List UInt8) (a : Int) (d : Bool) (x b : List UInt8) : Int × DS :=
 if (aR fs x).isSome = true then (if d = true then (11, fs, l, a, d) else if 16777216 - (szF fs : Int) < (b.length : Int) then (10, fs, l, a, d)
  else if (eU l a d).1 = true then (11, aX fs x ((cc fs x).1 ++ b.take (b.length / 2), (cc fs x).2), x, (eU l a d).2.2) else (0, aX fs x ((cc fs x).1 ++ b, (cc fs x).2), x, (eU l a d).2.2))
 else if d = true then (11, fs, l, a, d) else (8, fs, l, a, d)
theorem uD (b : List UInt8) (h : b.length < 2 ^ 62) : IntKind.i64.wrap (Int.tdiv (b.length : Int) 2) = ((b.length / 2 : Nat) : Int) := by
 have : Int.tdiv (b.length : Int) 2 = ((b.length / 2 : Nat) : Int) := by rw [Int.tdiv_eq_ediv_of_nonneg (by omega)]; omega
 rw [this, w64 (by omega) (by omega)]
theorem oc {n : Nat} {fs : FSt} (h : fv n fs) (l : List UInt8) (a : Int) (d : Bool) (x b : List UInt8) (D : b.length < 2 ^ 40) : dL.f fs l a d x b = some (jC fs l a d x b) := by
 unfold dL.f jC
 rw [uC h, kR]
 have q := h.sz
 simp only [Option.bind_some]
 by_cases hm : (aR fs x).isSome = true
 ·rw [if_pos hm, if_pos hm]
  cases d with
  | true => rfl
  | false =>
   have r : (cc fs x).1.length ≤ 16777216 := Nat.le_trans (oX (kA hm)) q
   rw [w64 (n := 16777216 - (szF fs : Int)) (by omega) (by omega), uD b (by omega)]
   simp only [Bool.false_eq_true, if_false]
   by_cases hs : 16777216 - (szF fs : Int) < (b.length : Int)
   ·rw [if_pos hs, if_pos hs]
   ·rw [if_neg hs, if_neg hs]
    by_cases hf : (eU l a false).1 = true
    ·rw [if_pos hf, if_pos hf, if_pos ⟨by omega, by omega, by omega⟩, Option.bind_some]
     have u : cut b (0 : Int) ((b.length / 2 : Nat) : Int) = b.take (b.length / 2) := by
      show (b.take ((b.length / 2 : Nat) : Int).toNat).drop 0 = _
      rw [Int.toNat_natCast, List.drop_zero]
     rw [u]
     show (if ((cc fs x).1.length + (b.take (b.length / 2)).length) * 1 ≤ 140737488355328 then _ else _) = _
     rw [if_pos (by simp only [List.length_take]; omega)]
     rfl
    ·rw [if_neg hf, if_neg hf, Option.bind_some]
     show (if ((cc fs x).1.length + b.length) * 1 ≤ 140737488355328 then _ else _) = _
     rw [if_pos (by omega)]
     rfl
 ·rw [if_neg hm, if_neg hm]
  split <;> rfl
def jQ (fs : FSt) (l : List UInt8) (a : Int) (d : Bool) (x : List UInt8) : Int × DS :=
 if (aR fs x).isSome = true then (if d = true then (11, fs, l, a, d) else if (eU l a d).1 = true then (11, fs, (eU l a d).2) else (0, aX fs x ((cc fs x).1, ((cc fs x).1.length : Int)), (eU l a d).2))
 else if d = true then (11, fs, l, a, d) else (8, fs, l, a, d)
theorem nh (fs : FSt) (l : List UInt8) (a : Int) (d : Bool) (x : List UInt8) : cJ.f fs l a d x = some (jQ fs l a d x) := by
 unfold cJ.f jQ
 rw [kR]
 simp only [Option.bind_some]
 repeat' split
 all_goals first | rfl | simp_all
theorem rG (l : List UInt8) (a : Int) (d : Bool) : (eU l a d).2.1 = l := by unfold eU; split <;> rfl
def iu (fs : FSt) (l : List UInt8) (a : Int) (d : Bool) (x : List UInt8) : Int × DS :=
 if d = true then (11, fs, l, a, d) else if (aR fs x).isSome = false then (8, fs, l, a, d) else if (eU l a d).1 = true then (11, fs, (eU l a d).2) else (0, dy fs x, (if l = x then [] else l), (eU l a d).2.2)
theorem rY (fs : FSt) (l : List UInt8) (a : Int) (d : Bool) (x : List UInt8) : dM.f fs l a d x = some (iu fs l a d x) := by
 unfold dM.f iu
 rw [kR, sD]
 simp only [Option.bind_some]
 cases d <;> cases (aR fs x).isSome <;> simp only [Bool.not_true, Bool.not_false, if_true, if_false, Bool.false_eq_true, Bool.true_eq_false, reduceCtorEq]
 split
 ·rfl
 ·rw [rG]
  split <;> rfl
/-! ### A crash -/
section
variable {α β : Type} [DecidableEq α]
end
end Go.Proofs.YtndjkejhacfpdaaGreatDoor

namespace Go.Proofs.YtndjkejhacfpdaaGreatDoor
open Go.RowKit
theorem nY (p : List UInt8 × (List UInt8 × Int)) (fs : FSt) (x : List UInt8) : cc (p :: fs) x = if p.1 = x then p.2 else cc fs x := by
 unfold cc; rw [aR]; split <;> rfl
theorem io (p : List UInt8 × (List UInt8 × Int)) (fs : FSt) : szF (p :: fs) = p.2.1.length + szF fs := by simp [szF]
theorem fk (x : List UInt8) (v : List UInt8 × Int) : ∀ fs : FSt, szF (aX fs x v) + (cc fs x).1.length = szF fs + v.1.length
 | [] => by simp [aX, szF, cc, aR]
 | p :: fs => by
  have q := fk x v fs
  rw [nY, aX]
  by_cases h : p.1 = x
  ·rw [if_pos h, if_pos h, io, io]; simp only; omega
  ·rw [if_neg h, if_neg h, io, io]; omega
theorem mf (x : List UInt8) : ∀ fs : FSt, szF (dy fs x) + (cc fs x).1.length = szF fs
 | [] => by simp [dy, szF, cc, aR]
 | p :: fs => by
  have q := mf x fs
  rw [nY, dy]
  by_cases h : p.1 = x
  ·rw [if_pos h, if_pos h, io]; omega
  ·rw [if_neg h, if_neg h, io, io]; omega
theorem kQ {n : Nat} {fs : FSt} (h : fv n fs) {x : List UInt8} {v : List UInt8 × Int} (q : x.length ≤ 32) (r : 0 ≤ v.2 ∧ v.2 ≤ (v.1.length : Int)) (u : szF (aX fs x v) ≤ 16777216) (D : (aX fs x v).length ≤ n) : fv n (aX fs x v) := by
 refine ⟨rh h.nd, fun p hp => ?_, fun p hp => ?_, u, D⟩
 ·rcases mg _ _ _ _ hp with rfl | hp
  ·exact r
  ·exact h.sy p hp
 ·rcases mg _ _ _ _ hp with rfl | hp
  ·exact q
  ·exact h.nm p hp
theorem tv {n : Nat} {fs : FSt} (h : fv n fs) (x : List UInt8) : fv n (dy fs x) := by
 have q := pi fs x
 refine ⟨(q.map _).nodup h.nd, fun p hp => h.sy p (q.subset hp), fun p hp => h.nm p (q.subset hp), ?_, Nat.le_trans q.length_le h.ln⟩
 have := mf x fs
 have := h.sz
 omega
theorem lw {n : Nat} {fs : FSt} (h : fv n fs) {x : List UInt8} (q : (aR fs x).isSome = true) : x.length ≤ 32 := h.nm _ (kA q)
theorem qH {n : Nat} {fs : FSt} (h : fv n fs) {x : List UInt8} (q : (aR fs x).isSome = true) : 0 ≤ (cc fs x).2 ∧ (cc fs x).2 ≤ ((cc fs x).1.length : Int) := h.sy _ (kA q)
theorem sA {fs : FSt} {x : List UInt8} (h : (aR fs x).isSome = false) : cc fs x = ([], 0) := by
 unfold cc; cases hm : aR fs x with
 | none => rfl
 | some v => rw [hm] at h; cases h
theorem gg {fs : FSt} {x : List UInt8} {v : List UInt8 × Int} (q : (aR fs x).isSome = true) : (aX fs x v).length = fs.length := by rw [gK, if_pos q]
theorem rF {fs : FSt} (h : fv 256 fs) (l : List UInt8) (a : Int) (d : Bool) (x : List UInt8) : fv 256 (jB fs l a d x).2.1 := by
 unfold jB
 repeat' split
 all_goals try exact h
 rename_i h1 q r G I
 have u := fk x ([], 0) fs
 have D := h.sz
 refine kQ h (uz (by simpa using q)) (by simp) ?_ ?_
 ·simp only [List.length_nil] at u; omega
 ·have := gK fs x (([] : List UInt8), (0 : Int))
  rw [if_neg r] at this
  rw [this]; omega
theorem mW {n : Nat} {fs : FSt} (h : fv n fs) (l : List UInt8) (a : Int) (d : Bool) (x b : List UInt8) : fv n (jC fs l a d x b).2.1 := by
 unfold jC
 have u := h.sz
 repeat' split
 all_goals try exact h
 ·rename_i q hd D G
  have r := qH h q
  have h1 := fk x ((cc fs x).1 ++ b.take (b.length / 2), (cc fs x).2) fs
  simp only [List.length_append, List.length_take] at h1
  refine kQ h (lw h q) ⟨r.1, ?_⟩ (by omega) (by rw [gg q]; exact h.ln)
  simp only [List.length_append, List.length_take]; omega
 ·rename_i q hd D G
  have r := qH h q
  have h1 := fk x ((cc fs x).1 ++ b, (cc fs x).2) fs
  simp only [List.length_append] at h1
  refine kQ h (lw h q) ⟨r.1, ?_⟩ (by omega) (by rw [gg q]; exact h.ln)
  simp only [List.length_append]; omega
theorem kC {n : Nat} {fs : FSt} (h : fv n fs) (l : List UInt8) (a : Int) (d : Bool) (x : List UInt8) : fv n (jQ fs l a d x).2.1 := by
 unfold jQ
 have r := h.sz
 repeat' split
 all_goals try exact h
 rename_i q hd u
 have h1 := fk x ((cc fs x).1, ((cc fs x).1.length : Int)) fs
 simp only at h1
 exact kQ h (lw h q) ⟨by simp, by simp⟩ (by omega) (by rw [gg q]; exact h.ln)
theorem ra {n : Nat} {fs : FSt} (h : fv n fs) (l : List UInt8) (a : Int) (d : Bool) (x : List UInt8) : fv n (iu fs l a d x).2.1 := by
 unfold iu
 repeat' split
 all_goals first | exact h | exact tv h x
/-! ### An operation -/
def d0 : DS := ([], [], 0, false)
/-! ### The files -/
theorem sB (fs : FSt) : (eA fs).length = fs.length := by rw [(mK fs).length_eq, List.length_map]
theorem uA {n : Nat} {fs : FSt} (h : fv n fs) (q : n < 2 ^ 40) (l : List UInt8) (a : Int) (d : Bool) : eW.f fs l a d = some (eA fs) := by
 unfold eW.f fF.f cy.f
 have := h.ln
 rw [Option.bind_some, if_pos ⟨h.nd, by omega, fun p hp => by have := h.nm p hp; omega⟩]; rfl
theorem sV {x : List UInt8} (h : x.length < 2 ^ 40) : fw.f x = some x := by
 unfold fw.f
 rw [if_pos ⟨by omega, by omega, by omega⟩, if_pos (by simp; omega)]; rfl
/-! ### Whether files are the same -/
theorem nZ (x y : List UInt8) (u : x.length = y.length) (D : x.length < 2 ^ 62) : ∀ (d i k : Nat), i + d = x.length → d + 1 ≤ k → x.take i = y.take i → (orR (bW.l0 x y k (i : Int)) fun _ => some true) = some (decide (x = y))
 | d, i, 0, _, hk, _ => by omega
 | 0, i, k + 1, h, _, ht => by
  simp only [bW.l0]
  rw [if_neg (by omega)]
  rw [List.take_of_length_le (by omega), List.take_of_length_le (by omega)] at ht
  simp [orR, ht]
 | d + 1, i, k + 1, h, hk, ht => by
  have q : i < x.length := by omega
  have r : i < y.length := by omega
  simp only [bW.l0]
  rw [if_pos (by omega), if_pos (by omega), if_pos (by omega), wi1 (by omega)]
  simp only [Int.toNat_natCast, mo x 0 i q, mo y 0 i r]
  by_cases he : x[i] = y[i]
  ·rw [if_pos (by rw [he])]
   exact nZ x y u D d (i + 1) k (by omega) (by omega) (by rw [List.take_succ_eq_append_getElem q, List.take_succ_eq_append_getElem r, ht, he])
  ·rw [if_neg (by intro z; exact he (UInt8.toNat_inj.1 (by omega)))]
   have : x ≠ y := by rintro rfl; exact he rfl
   simp [orR, this]
theorem pR {k : Nat} {x y : List UInt8} (q : x.length < 2 ^ 62) (r : x.length + 1 ≤ k) : bW.f k x y = some (decide (x = y)) := by
 unfold bW.f
 by_cases h : x.length = y.length
 ·rw [if_pos (by omega)]
  exact nZ x y h q x.length 0 k (by omega) r rfl
 ·rw [if_neg (by omega)]
  have : x ≠ y := by rintro rfl; exact h rfl
  simp [this]
/-! ### Whether operations are few -/
end Go.Proofs.YtndjkejhacfpdaaGreatDoor

namespace Go.Proofs.YtndjkejhacfpdaaGreatDoor
open Go.RowKit Go.ChangeShapes Go.WideShapes Go.ChangeAt

def hD (W : World) : HA := fun h => ∀ i, i < W.heap.size → h i = W.heap[i]?
theorem sd (W : World) : Sat W ([] ++ [hD W]) W := ⟨rfl, rfl, rfl, Nat.le_refl _, iq (fun _ _ => rfl)⟩
theorem tb {W w : World} {l : List HA} (s : Sat W l w) (k : Nat) (r : l[k]? = some (hD W)) : Below W.heap.size W w := by
 obtain ⟨a, u, D⟩ := s.at r
 refine ⟨s.os, s.tape, s.output, s.size, fun i hi => ?_⟩
 have h1 := u i hi
 obtain ⟨o, q⟩ : ∃ o, W.heap[i]? = some o := ⟨_, Array.getElem?_eq_getElem hi⟩
 rw [q] at h1
 rw [D i o h1, q]
theorem se {P : Program} {W : World} {f : FuncId} {args : List Value} {R Y : Type} {o : Option R} {val : R → Y → Value} {r : R}
  (h : Fn P W f args [] (hD W) o val (fun _ _ => [])) (u : o = some r) (D : ∀ y, val r y = .bool true) :
  Calls P f args.toArray W fun e q => e = .returned (.bool true) ∧ Below W.heap.size W q := by
 refine (h r u W (sd W)).mono ?_
 rintro e q ⟨y, rfl, s⟩
 exact ⟨by rw [D], tb s 0 rfl⟩
theorem pn {W : World} {x : Addr} {cs : List Value} (h : ∀ j v, cs[j]? = some v → W.cell? (x.add j) = some v) : Rd (hD W) (some x) cs := by
 cases cs with
 | nil => exact .inl rfl
 | cons v vs =>
  right
  have q := h 0 v rfl
  have r : x.spot = none := by
   have e : (x.add 0).spot = x.spot ∨ x.spot ≠ none := by cases hx : x.spot <;> simp [Addr.add, hx]
   refine Classical.byContradiction fun D => ?_
   obtain ⟨s, J⟩ := Option.ne_none_iff_exists'.1 D
   unfold World.cell? at q
   simp only [Addr.add, J] at q
   split at q <;> simp_all
  obtain ⟨b, off, X⟩ := x
  simp only at r
  subst r
  have u : ∀ j, (⟨b, off, none⟩ : Addr).add j = ⟨b, off + j, none⟩ := fun j => by unfold Addr.add; split <;> simp_all
  simp only [u] at h
  refine ⟨b, off, rfl, fun g L => ?_⟩
  have q := h 0 v rfl
  unfold World.cell? at q
  simp only at q
  split at q
  ·rename_i c T fz G
   have I : b < W.heap.size := (Array.getElem?_eq_some_iff.1 G).1
   refine ⟨c, T, fz, by rw [L b I, G], fun j v U => ?_⟩
   have := h j v U
   simpa [World.cell?, G] using this
  ·simp at q
theorem ri {H : Type} {P : Program} {q : List TypeId} {ds : List (DataW H)} (h : (DataW.weightsEach P q ds).all (· ≤ reachBytes) = true) {j : Nat} {t : TypeId} {d : DataW H} (r : q[j]? = some t) (hd : ds[j]? = some d) : ∀ n ∈ d.weights P t, n ≤ reachBytes := fun n u => by
 have := List.all_eq_true.1 h n (DataW.weights_mem_each r hd n u)
 simpa using this
theorem rj {H : Type} {enc : TypeId × Value → H} {P : Program} {W : World} {I : Bool} {t e : TypeId} {J : Nat} {cs : List Value} {x : DataW H × List MemPlace} (ht : P.underlying t = some (.slice e)) (he : P.underlying e = some (.int .u8)) (hc : P.cellsOf e = 1)
  (hB : P.bytesOf e = 1)
  (h : DataW.trod enc P W 0 (fun _ => true) I J t cs = some x) (L : ∀ n ∈ x.1.weights P t, n ≤ reachBytes) : ∃ a c l, cs = [.slice a l.length c] ∧ Rd (hD W) a (aB l) ∧ l.length ≤ c ∧ c ≤ maxLen ∧ l.length ≤ reachBytes := by
 rcases open_ints ht he hc h with ⟨r, _⟩ | ⟨x, l, c, G, r, _, hl, hm, hz, rfl, u, U⟩
 ·exact ⟨none, 0, [], r, .inl rfl, Nat.le_refl _, Nat.zero_le _, Nat.zero_le _⟩
 ·have hz : G.length = c := by simpa using hz
  have q : ((G.take l).map dE).length = l := by simp; omega
  have X : l ≤ reachBytes := by
   have := L (((lits (H := H) .u8 (G.take l)).length + (lits (H := H) .u8 (G.drop l)).length) * P.bytesOf e) (by simp [DataW.weights, ht])
   rw [hB] at this
   simp [lits] at this
   omega
  refine ⟨some x, c, (G.take l).map dE, by rw [r, q], pn ?_, by rw [q]; exact hl, hm, by rw [q]; exact X⟩
  intro j v D
  unfold aB at D
  rw [List.getElem?_map, List.getElem?_map, List.getElem?_take] at D
  split at D
  ·rename_i be
   obtain ⟨n, hn⟩ : ∃ n, G[j]? = some n := ⟨_, List.getElem?_eq_getElem (by omega)⟩
   rw [hn] at D
   simp only [Option.map_some, Option.some.injEq] at D
   rw [u j (by omega), ← D]
   have L := U n (List.mem_of_getElem? hn)
   have ad : 0 ≤ n ∧ n ≤ 255 := by simpa [Lit.wf, IntKind.min, IntKind.max, IntKind.signed, IntKind.bits] using L
   have hr : 0 ≤ n ∧ n < 256 := ⟨ad.1, by omega⟩
   rw [gW hr.1 hr.2]
   simp [List.getD_eq_getElem?_getD, hn]
  ·simp at D
end Go.Proofs.YtndjkejhacfpdaaGreatDoor

namespace Go.Proofs.YtndjkejhacfpdaaGreatDoor
open Go.RowKit Go.ChangeShapes Go.WideShapes Go.ChangeAt
section
variable {H : Type} {enc : TypeId × Value → H} {P : Program} {W : World} {held : Bool} {α β : Type}
def lM (enc : TypeId × Value → H) (P : Program) (W : World) (held : Bool) (t : TypeId) (V : α → List Value → Prop) (r : α → Prop) : Prop :=
 ∀ q cs x, DataW.trod enc P W 0 (fun _ => true) held q t cs = some x → (∀ n ∈ x.1.weights P t, n ≤ reachBytes) → ∃ y, V y cs ∧ one cs ∧ cs.length = P.cellsOf t ∧ r y
theorem lM.map {t : TypeId} {V : α → List Value → Prop} {D : β → List Value → Prop} {G : α → Prop} {q : β → Prop} (f : α → β) (h : lM enc P W held t V G) (I : ∀ x r, V x r → D (f x) r) (J : ∀ x, G x → q (f x)) : lM enc P W held t D q := fun u cs x h1 L =>
 let ⟨y, a, b, c, d⟩ := h u cs x h1 L; ⟨f y, I _ _ a, b, c, J _ d⟩
theorem lM.mono {t : TypeId} {V D : α → List Value → Prop} {G q : α → Prop} (h : lM enc P W held t V G) (I : ∀ x r, V x r → D x r) (J : ∀ x, G x → q x) : lM enc P W held t D q := fun u cs x h1 L =>
 let ⟨y, a, b, c, d⟩ := h u cs x h1 L; ⟨y, I _ _ a, b, c, J _ d⟩
theorem kr {e : TypeId} : ∀ {ds : List (DataW H)} {d : DataW H}, d ∈ ds → ∀ n ∈ d.weights P e, n ∈ DataW.weightsAll P e ds
 | d' :: ds, d, h, n, hn => by
  simp only [DataW.weightsAll, List.mem_append]
  rcases List.mem_cons.1 h with rfl | h
  ·exact .inl hn
  ·exact .inr (kr h n hn)
theorem ry {W : World} {a : Addr} {n : Nat} {cs : List Value} (h : W.cells? 0 a n = some cs) : cs.length = n ∧ ∀ j v, cs[j]? = some v → W.cell? (a.add j) = some v := by
 unfold World.cells? at h
 rw [if_pos (Nat.zero_le _)] at h
 have q := mapM_some_length h
 have q : cs.length = n := by simpa using q
 refine ⟨q, fun j v u => ?_⟩
 have r : j < n := by have := (List.getElem?_eq_some_iff.1 u).1; omega
 have := mapM_some_get h j j (by simp [r])
 rw [this, u]
/-! Structs: their fields, one behind the other. -/
def rz (enc : TypeId × Value → H) (P : Program) (W : World) (held : Bool) (q : Nat) : List TypeId → List Value → List (DataW H × List MemPlace) → Prop
 | [], cs, xs => cs = [] ∧ xs = []
 | t :: ts, cs, xs => ∃ u c2 x r, cs = u ++ c2 ∧ xs = x :: r ∧ DataW.trod enc P W 0 (fun _ => true) held q t u = some x ∧ rz enc P W held q ts c2 r
def oA (P : Program) : Nat → List Field → Bool
 | _, [] => true
 | k, f :: fs => Nat.beq f.offset k && oA P (k + P.cellsOf f.type) fs
def pP (P : Program) : List Field → Nat
 | [] => 0
 | f :: fs => P.cellsOf f.type + pP P fs
theorem pQ (q : Nat) : ∀ (fs : List Field) (k : Nat) (cs : List Value) (xs : List (DataW H × List MemPlace)), oA P k fs = true → cs.length = k + pP P fs → xs.length = fs.length →
  (∀ (i : Nat) (f : Field), fs[i]? = some f → DataW.trod enc P W 0 (fun _ => true) held q f.type ((cs.drop f.offset).take (P.cellsOf f.type)) = xs[i]?) → rz enc P W held q (fs.map (·.type)) (cs.drop k) xs
 | [], k, cs, xs, _, hl, hx, _ => by
  have : xs = [] := List.eq_nil_of_length_eq_zero (by simpa using hx)
  exact ⟨by rw [List.drop_of_length_le (by simp [pP] at hl; omega)], this⟩
 | f :: fs, k, cs, [], _, _, hx, _ => by simp at hx
 | f :: fs, k, cs, x :: xs, hlaid, hl, hx, h => by
  simp only [oA, Bool.and_eq_true] at hlaid
  have r : f.offset = k := Nat.eq_of_beq_eq_true hlaid.1
  simp only [pP] at hl
  have u := h 0 f rfl
  rw [r] at u
  refine ⟨(cs.drop k).take (P.cellsOf f.type), (cs.drop k).drop (P.cellsOf f.type), x, xs, (List.take_append_drop _ _).symm, rfl, by simpa using u, ?_⟩
  have := pQ q fs (k + P.cellsOf f.type) cs xs hlaid.2 (by omega) (by simpa using hx) (fun i g D => by simpa using h (i + 1) g (by simpa using D))
  rw [List.drop_drop]
  exact this
end
end Go.Proofs.YtndjkejhacfpdaaGreatDoor

namespace Go.Proofs.YtndjkejhacfpdaaGreatDoor
open Go.RowKit Go.ChangeShapes Go.WideShapes Go.ChangeAt
class Mu (α : Type) where
 mu : α → Nat
instance : Mu Int := ⟨fun _ => 1⟩
instance : Mu Bool := ⟨fun _ => 1⟩
instance : Mu UInt8 := ⟨fun _ => 1⟩
instance {α β : Type} [Mu α] [Mu β] : Mu (α × β) := ⟨fun x => Mu.mu x.1 + Mu.mu x.2⟩
instance {α : Type} [Mu α] : Mu (List α) := ⟨fun l => (l.map Mu.mu).sum + 1⟩
theorem kh (x : Int) : Mu.mu x = 1 := rfl
theorem tW (x : Bool) : Mu.mu x = 1 := rfl
theorem fE {α β : Type} [Mu α] [Mu β] (x : α) (y : β) : Mu.mu (x, y) = Mu.mu x + Mu.mu y := rfl
theorem jw {α : Type} [Mu α] (l : List α) : Mu.mu l = (l.map Mu.mu).sum + 1 := rfl
theorem qo {α : Type} [Mu α] (x : α) (l : List α) : Mu.mu (x :: l) = Mu.mu x + Mu.mu l := by simp [jw]; omega
theorem oU (l : List UInt8) : Mu.mu l = l.length + 1 := by
 have : ∀ l : List UInt8, (l.map Mu.mu).sum = l.length := by
  intro l
  induction l with
  | nil => rfl
  | cons x l ih =>
   simp only [List.map_cons, List.sum_cons, ih, List.length_cons]
   show 1 + _ = _
   omega
 rw [jw, this]
theorem iR {H : Type} (d : DataW H) : 1 ≤ Rows.uptoBulk d := by
 cases d with
 | lit l => cases l <;> simp [Rows.uptoBulk]
 | nil => simp [Rows.uptoBulk]
 | ptr d => simp [Rows.uptoBulk]
 | slice elems spare => simp [Rows.uptoBulk]
 | agg parts => simp [Rows.uptoBulk]
 | iface t d => simp [Rows.uptoBulk]
 | map entries => simp [Rows.uptoBulk]
 | held h => simp [Rows.uptoBulk]
theorem pO {H : Type} : ∀ l : List (DataW H), l.length ≤ Rows.uptoBulkAll l
 | [] => by simp
 | d :: l => by have := pO l; have := iR d; simp [Rows.uptoBulkAll]; omega
section
variable {H : Type} {enc : TypeId × Value → H} {P : Program} {W : World} {held : Bool} {α β : Type} [Mu α] [Mu β]
def fd (enc : TypeId × Value → H) (P : Program) (W : World) (held : Bool) (t : TypeId) (V : α → List Value → Prop) (r : α → Prop) : Prop :=
 ∀ q cs x, DataW.trod enc P W 0 (fun _ => true) held q t cs = some x → (∀ n ∈ x.1.weights P t, n ≤ reachBytes) → ∃ y, V y cs ∧ one cs ∧ cs.length = P.cellsOf t ∧ r y ∧ Mu.mu y ≤ Rows.uptoBulk x.1
theorem fd.mono {t : TypeId} {V D : α → List Value → Prop} {G q : α → Prop} (h : fd enc P W held t V G) (I : ∀ x r, V x r → D x r) (J : ∀ x, G x → q x) : fd enc P W held t D q := fun u cs x h1 L =>
 let ⟨y, a, b, c, d⟩ := h u cs x h1 L; ⟨y, I _ _ a, b, c, J _ d.1, d.2⟩
theorem fd.map {α β : Type} [Mu α] [Mu β] {H : Type} {enc : TypeId × Value → H} {P : Program} {W : World} {held : Bool} {t : TypeId} {V : α → List Value → Prop} {D : β → List Value → Prop} {G : α → Prop} {q : β → Prop} (f : α → β) (h : fd enc P W held t V G) (I : ∀ x r, V x r → D (f x) r) (J : ∀ x, G x → q (f x)) (L : ∀ x, Mu.mu (f x) = Mu.mu x) : fd enc P W held t D q := fun u cs x h1 U =>
 let ⟨y, a, b, c, d⟩ := h u cs x h1 U; ⟨f y, I _ _ a, b, c, J _ d.1, by rw [L]; exact d.2⟩
theorem fb {t : TypeId} {k : IntKind} (u : P.underlying t = some (.int k)) (D : P.cellsOf t = 1) : fd enc P W held t (fun x r => r = [.int k x]) (okI k) := by
 intro q cs x h _
 cases q with
 | zero => simp [DataW.trod] at h
 | succ n =>
  unfold DataW.trod at h
  rw [u] at h
  split at h <;> simp_all
  rename_i G m
  obtain ⟨rfl, h1⟩ := h.1
  refine ⟨aM rfl, ?_, ?_⟩
  ·simpa [Lit.wf, okI] using h1
  ·first | exact iR _ | (rw [← h.2]; exact iR _)
theorem qb {t : TypeId} (u : P.underlying t = some .bool) (D : P.cellsOf t = 1) : fd enc P W held t (fun x r => r = [.bool x]) (fun _ => True) := by
 intro q cs x h _
 cases q with
 | zero => simp [DataW.trod] at h
 | succ n =>
  unfold DataW.trod at h
  rw [u] at h
  split at h <;> simp_all
  exact ⟨aM rfl, iR _⟩
theorem pN {t e : TypeId} (I : P.underlying t = some (.slice e)) (J : P.underlying e = some (.int .u8)) (L : P.cellsOf e = 1) (hB : P.bytesOf e = 1) (u : P.cellsOf t = 1) :
  fd enc P W held t (fun x r => ∃ a c, r = [.slice a x.length c] ∧ Rd (hD W) a (aB x) ∧ x.length ≤ c ∧ c ≤ maxLen) (fun x => x.length ≤ reachBytes) := by
 intro U cs x h hw
 obtain ⟨a, c, l, h1, h2, h3, h4, h5⟩ := rj I J L hB h hw
 refine ⟨l, ⟨a, c, h1, h2, h3, h4⟩, by rw [h1]; exact aM rfl, by rw [h1, u]; rfl, h5, ?_⟩
 rw [oU]
 rcases open_ints I J L h with ⟨q, rfl⟩ | ⟨y, n, c', D, q, _, hl, hm, X, rfl, G, a7⟩
 ·rw [h1] at q
  have : l.length = 0 := by simp only [List.cons.injEq, Value.slice.injEq] at q; exact q.1.2.1
  rw [this]
  exact iR _
 ·rw [h1] at q
  have e1 : l.length = n := by simp only [List.cons.injEq, Value.slice.injEq] at q; exact q.1.2.1
  have X : D.length = c' := by simpa using X
  have := pO (lits (H := H) .u8 (D.take n))
  have e2 : (lits (H := H) .u8 (D.take n)).length = n := by simp [lits]; omega
  simp only [Rows.uptoBulk]
  omega
theorem lX {t e : TypeId} {n B : Nat} {V : α → List Value → Prop} {Ok : α → Prop} (ht : P.underlying t = some (.slice e)) (hn : P.cellsOf e = n) (hB : P.bytesOf e = B) (U : P.cellsOf t = 1) (a8 : fd enc P W held e V Ok) :
  fd enc P W held t (fun (xs : List α) r => ∃ a c, r = [.slice a xs.length c] ∧ RdV (hD W) n V a xs ∧ xs.length ≤ c ∧ c ≤ maxLen) (fun xs => xs.length * B ≤ reachBytes ∧ ∀ y ∈ xs, Ok y) := by
 intro b5 cs x h hw
 rcases DataW.trod_slice ht h with ⟨I, _⟩ | ⟨a, len, cap, u, rest, m, _, rfl, rfl, hb, hl, hm, X, bc, _, _⟩
 ·exact ⟨[], ⟨none, 0, I, RdV.nil, Nat.le_refl _, Nat.zero_le _⟩, by rw [I]; exact aM rfl, by rw [I, U]; rfl, ⟨by simp, by simp⟩, by rw [jw]; exact iR _⟩
 ·subst hn
  have be : len * B ≤ reachBytes := by
   have := hw (((u.map (·.1)).length + (rest.map (·.1)).length) * P.bytesOf e) (by simp [DataW.weights, ht])
   rw [hB] at this
   simp only [List.length_map, X] at this
   exact Nat.le_trans (Nat.mul_le_mul_right _ (Nat.le_add_right _ _)) this
  have ab : ∀ i, i < len → ∃ y r, V y r ∧ one r ∧ r.length = P.cellsOf e ∧ (Ok y ∧ ∀ q, u[i]? = some q → Mu.mu y ≤ Rows.uptoBulk q.1) ∧ ∀ j v, r[j]? = some v → W.cell? (a.add (i * P.cellsOf e + j)) = some v := by
   intro i hi
   have h1 := bc i hi
   obtain ⟨q, L⟩ : ∃ q, u[i]? = some q := ⟨_, List.getElem?_eq_getElem (by omega)⟩
   rw [L] at h1
   obtain ⟨r, hr, br⟩ := Option.bind_eq_some_iff.1 h1
   obtain ⟨bs, b0⟩ := ry hr
   obtain ⟨y, v1, v2, v3, v4⟩ := a8 _ r q br (fun n hn => hw n (by
    simp only [DataW.weights, ht, List.mem_cons, List.mem_append]
    exact .inr (.inl (kr (List.mem_map_of_mem (List.mem_of_getElem? L)) n hn))))
   refine ⟨y, r, v1, v2, bs, ⟨v4.1, fun q' D => by rw [L] at D; cases D; exact v4.2⟩, fun j v G => ?_⟩
   have := b0 j v G
   have ad : (a.add (i * P.cellsOf e)).add j = a.add (i * P.cellsOf e + j) := by
    by_cases h1 : i * P.cellsOf e = 0 <;> by_cases h2 : j = 0 <;> simp [Addr.add, h1, h2, Nat.add_assoc]
   rwa [ad] at this
  have J : ∀ d i, i + d = len → ∃ xs rs, bI (P.cellsOf e) V xs rs ∧ xs.length = d ∧ ((∀ y ∈ xs, Ok y) ∧ (xs.map Mu.mu).sum ≤ Rows.uptoBulkAll ((u.drop i).map (·.1))) ∧ ∀ j v, rs.flatten[j]? = some v → W.cell? (a.add (i * P.cellsOf e + j)) = some v := by
   intro d
   induction d with
   | zero => intro i hi; exact ⟨[], [], trivial, rfl, ⟨by simp, by simp⟩, by simp⟩
   | succ d ih =>
    intro i hi
    obtain ⟨y, r, v1, v2, v3, v4, v5⟩ := ab i (by omega)
    obtain ⟨xs, rs, w1, w2, w3, w4⟩ := ih (i + 1) (by omega)
    refine ⟨y :: xs, r :: rs, ⟨⟨v3, v2, v1⟩, w1⟩, by simp [w2], ⟨?_, ?_⟩, fun j v G => ?_⟩
    ·intro z hz
     rcases List.mem_cons.1 hz with rfl | hz
     ·exact v4.1
     ·exact w3.1 z hz
    ·obtain ⟨q, L⟩ : ∃ q, u[i]? = some q := ⟨_, List.getElem?_eq_getElem (by omega)⟩
     have h1 := v4.2 q L
     have h2 := w3.2
     obtain ⟨hi', D⟩ := List.getElem?_eq_some_iff.1 L
     rw [List.drop_eq_getElem_cons hi', D]
     simp only [List.map_cons, List.sum_cons, Rows.uptoBulkAll]
     omega
    ·simp only [List.flatten_cons] at G
     by_cases hjl : j < r.length
     ·rw [List.getElem?_append_left hjl] at G; exact v5 j v G
     ·rw [List.getElem?_append_right (by omega)] at G
      have := w4 _ v G
      rw [v3, Nat.add_mul] at this
      have e1 : i * P.cellsOf e + 1 * P.cellsOf e + (j - P.cellsOf e) = i * P.cellsOf e + j := by omega
      rwa [e1] at this
  obtain ⟨xs, rs, w1, w2, w3, w4⟩ := J len 0 (by omega)
  refine ⟨xs, ⟨some a, cap, by rw [w2], ⟨rs, w1, pn fun j v G => ?_⟩, by rw [w2]; exact hl, hm⟩, aM rfl, by rw [U]; rfl, ⟨by rw [w2]; exact be, w3.1⟩, by have h2 := w3.2; simp only [List.drop_zero] at h2; rw [jw]; simp only [Rows.uptoBulk]; omega⟩
  have := w4 j v G
  simpa using this
def lL (enc : TypeId × Value → H) (P : Program) (W : World) (held : Bool) (r : List TypeId) (V : α → List Value → Prop) (u : α → Prop) : Prop :=
 ∀ q cs xs, rz enc P W held q r cs xs → (∀ n ∈ DataW.weightsEach P r (xs.map (·.1)), n ≤ reachBytes) → ∃ y, V y cs ∧ one cs ∧ u y ∧ Mu.mu y ≤ Rows.uptoBulkAll (xs.map (·.1))
theorem iW {t : TypeId} {V : α → List Value → Prop} {q : α → Prop} (h : fd enc P W held t V q) : lL enc P W held [t] V q := by
 rintro fuel cs xs ⟨u, c2, x, r, rfl, rfl, h1, rfl, rfl⟩ hw
 obtain ⟨y, a, b, c, d⟩ := h fuel u x h1 (fun n D => hw n (by simp [DataW.weightsEach]; exact D))
 exact ⟨y, by simpa using a, by simpa using b, d.1, by simp only [List.map_cons, List.map_nil, Rows.uptoBulkAll]; exact d.2⟩
theorem dV {t : TypeId} {G : List TypeId} {V : α → List Value → Prop} {I : α → Prop} {J : β → List Value → Prop} {q : β → Prop} (h : fd enc P W held t V I) (U : lL enc P W held G J q) :
  lL enc P W held (t :: G) (fun (x : α × β) cs => ∃ u c2, cs = u ++ c2 ∧ V x.1 u ∧ J x.2 c2) (fun x => I x.1 ∧ q x.2) := by
 rintro fuel cs xs ⟨u, c2, x, r, rfl, rfl, h1, X⟩ hw
 obtain ⟨y, a, b, c, d⟩ := h fuel u x h1 (fun n D => hw n (by simp only [List.map_cons, DataW.weightsEach, List.mem_append]; exact .inl D))
 obtain ⟨z, a2, b2, L⟩ := U fuel c2 r X (fun n D => hw n (by simp only [List.map_cons, DataW.weightsEach, List.mem_append]; exact .inr D))
 exact ⟨(y, z), ⟨u, c2, rfl, a, a2⟩, rt b b2, ⟨d.1, L.1⟩, by have h4 := d.2; have h5 := L.2; simp only [List.map_cons, Rows.uptoBulkAll, fE]; omega⟩
theorem ii {t : TypeId} {fs : Array Field} {V : α → List Value → Prop} {D : α → Prop} (G : P.underlying t = some (.struct fs)) (q : oA P 0 fs.toList = true) (I : pP P fs.toList = P.cellsOf t) {J : List TypeId} (r : fs.toList.map (·.type) = J) (h : lL enc P W held J V D) : fd enc P W held t V D := by
 intro L cs x X hw
 obtain ⟨xs, n, rfl, rfl, U, u, hf⟩ := DataW.trod_struct G X
 have := pQ n fs.toList 0 cs xs q (by rw [U]; omega) (by simpa using u) (fun i f hi => hf i f (by simpa using hi))
 rw [r] at this
 obtain ⟨y, a, b, c⟩ := h n cs xs (by simpa using this) (fun n hn => hw n (by simp only [DataW.weights, G, r]; exact hn))
 exact ⟨y, a, b, U, c.1, by have h4 := c.2; simp only [Rows.uptoBulk]; omega⟩
end
end Go.Proofs.YtndjkejhacfpdaaGreatDoor

namespace Go.Proofs.YtndjkejhacfpdaaGreatDoor
open Go.RowKit
end Go.Proofs.YtndjkejhacfpdaaGreatDoor

namespace Go.Proofs.YtndjkejhacfpdaaGreatDoor
open Go.RowKit
def inU (z : Int) : Prop := 0 ≤ z ∧ z < 4294967296
theorem lh (n : Int) (q : 0 ≤ n) (r : n < 2 ^ 32) : IntKind.u32.wrap n = n := by rw [IntKind.wrap_u32]; omega
theorem lI (b : BinOp) (m n : Int) : inU (ca b .u32 m n) := by
 unfold ca inU
 rw [IntKind.wrap_u32]
 omega
theorem vK {n : Int} (h : inU n) : ca .and .u32 n 1 = n % 2 := bits_mask .u32 32 (by decide) lh 1 (by decide) n h.1 h.2
def h1 (z : Int) : Int := if z % 2 = 1 then ca .xor .u32 (z / 2) 2197175160 else z / 2
def hN : Nat → Int → Int
 | 0, z => z
 | n + 1, z => hN n (h1 z)
theorem sa {z : Int} (h : inU z) : inU (h1 z) := by
 unfold h1
 split
 ·exact lI _ _ _
 ·have := h.1; have := h.2; unfold inU; omega
theorem pl : ∀ (n : Nat) {z : Int}, inU z → inU (hN n z)
 | 0, z, h => h
 | n + 1, z, h => pl n (sa h)
def kH (s : Int) (l : List UInt8) : Int := l.foldl (fun s c => hN 8 (ca .xor .u32 s (c.toNat : Int))) s
theorem pm : ∀ (l : List UInt8) {s : Int}, inU s → inU (kH s l)
 | [], s, h => h
 | c :: l, s, h => by
  show inU (kH (hN 8 (ca .xor .u32 s (c.toNat : Int))) l)
  exact pm l (pl 8 (lI _ _ _))
theorem ta (s : Int) (a b : List UInt8) : kH s (a ++ b) = kH (kH s a) b := by unfold kH; rw [List.foldl_append]
theorem wa {i n : Nat} (h : i + n < 2 ^ 62) : IntKind.i64.wrap ((i : Int) + (n : Int)) = ((i + n : Nat) : Int) := by rw [w64 (by omega) (by omega)]; simp
theorem ws1 {n : Nat} (h : n < 2 ^ 61) : IntKind.i64.wrap ((n : Int) + 1) = ((n + 1 : Nat) : Int) := by rw [w64 (by omega) (by omega)]; simp
theorem frG {l : List UInt8} {i : Nat} (h : i < l.length) : l.drop i = l.getD i 0 :: l.drop (i + 1) := by
 rw [List.getD_eq_getElem?_getD, List.getElem?_eq_getElem h]
 exact List.drop_eq_getElem_cons h
theorem ni : ∀ (k i : Nat) (z : Int), 8 - i < k → i ≤ 8 → inU z → bV.l1 k z (i : Int) = some (hN (8 - i) z)
 | 0, i, z, h, _, _ => by omega
 | k + 1, i, z, h, hi, hz => by
  rw [bV.l1]
  by_cases hlt : i < 8
  ·have r : Int.fdiv z (2 ^ (min (1 : Int).toNat IntKind.u32.bits)) = z / 2 := by
    show Int.fdiv z 2 = _
    rw [Int.fdiv_eq_ediv_of_nonneg _ (by decide)]
   have e : 8 - i = (8 - (i + 1)) + 1 := by omega
   have q := sa hz
   unfold h1 at q
   rw [if_pos (by omega), vK hz, r, ws1 (by omega), e]
   show _ = some (hN (8 - (i + 1)) (h1 z))
   unfold h1
   by_cases hb : z % 2 = 1
   ·rw [if_pos hb] at q
    rw [if_pos hb, if_pos hb, ni k (i + 1) _ (by omega) (by omega) q]
   ·rw [if_neg hb] at q
    rw [if_neg hb, if_neg hb, ni k (i + 1) _ (by omega) (by omega) q]
  ·rw [if_neg (by omega), show 8 - i = 0 by omega]
   rfl
theorem qA {x : List UInt8} (q : x.length < 2 ^ 40) : ∀ (k i : Nat) (z : Int), x.length - i + 9 < k → i ≤ x.length → inU z → bV.l0 x k z (i : Int) = some (kH z (x.drop i))
 | 0, i, z, h, _, _ => by omega
 | k + 1, i, z, h, hi, hz => by
  rw [bV.l0]
  by_cases hlt : i < x.length
  ·have r : ((x.getD i 0).toNat : Int) < 256 := by have := ub x i; omega
   rw [if_pos (by omega), if_pos (by omega), frG hlt]
   simp only [Int.toNat_natCast]
   rw [lh _ (by omega) (by omega), show (0 : Int) = ((0 : Nat) : Int) from rfl, ni k 0 _ (by omega) (by omega) (lI _ _ _), Option.bind_some, ws1 (by omega), qA q k (i + 1) _ (by omega) (by omega) (pl _ (lI _ _ _))]
   rfl
  ·rw [if_neg (by omega), List.drop_of_length_le (by omega)]
   rfl
theorem sb {x : List UInt8} {z : Int} {k : Nat} (q : x.length < 2 ^ 40) (r : inU z) (u : x.length + 9 < k) : bV.f k z x = some (kH z x) := by
 unfold bV.f
 have := qA q k 0 z (by omega) (by omega) r
 rw [List.drop_zero] at this
 rw [show (0 : Int) = ((0 : Nat) : Int) from rfl, this]
 rfl
abbrev vL : Int := if IntKind.u32.signed then -1 else IntKind.u32.max
def uX (l : List UInt8) : Int := ca .xor .u32 vL (kH 4294967295 l)
theorem uY : inU 4294967295 := ⟨by decide, by decide⟩
def mM (n : Int) : List UInt8 := [(dE (IntKind.u8.wrap n)), (dE (IntKind.u8.wrap (Int.fdiv n (2 ^ (min (8 : Int).toNat IntKind.u32.bits))))), (dE (IntKind.u8.wrap (Int.fdiv n (2 ^ (min (16 : Int).toNat IntKind.u32.bits))))), (dE (IntKind.u8.wrap (Int.fdiv n (2 ^ (min (24 : Int).toNat IntKind.u32.bits)))))]
theorem ox (n : Int) : 0 ≤ IntKind.u8.wrap n ∧ IntKind.u8.wrap n < 256 := by rw [IntKind.wrap_u8]; omega
theorem sc (n : Int) : fx.f n = some (mM n) := by
 unfold fx.f
 rw [if_pos (ox _), if_pos (ox _), if_pos (ox _), if_pos (ox _)]
 rfl
theorem il (n : Int) : (mM n).length = 4 := rfl
def frB (p : List UInt8) : List UInt8 := mM (p.length : Int) ++ mM (uX (mM (p.length : Int) ++ p)) ++ p
theorem nj (p : List UInt8) : (frB p).length = 8 + p.length := by simp [frB, il]; omega
theorem vy {q p : List UInt8} {k : Nat} (r : q.length ≤ 2 ^ 40) (hp : p.length ≤ 1048576) (u : p.length + 20 < k) : gQ.f k q p = some (q ++ frB p) := by
 unfold gQ.f
 rw [lh _ (by omega) (by omega), sc, Option.bind_some, sb (by rw [il]; omega) uY (by rw [il]; omega), Option.bind_some, sb (by omega) (pm _ uY) (by omega), Option.bind_some,
  if_pos (by rw [il]; omega), sc, Option.bind_some, if_pos (by rw [List.length_append, il, il]; omega), if_pos (by simp only [List.length_append, il]; omega), ← ta]
 simp only [frB, uX, List.append_assoc]
theorem vv {p : List UInt8} {k : Nat} (q : p.length + 20 < k) : gq.f k p = some (if 1048576 < p.length then ([], 3) else (frB p, 0)) := by
 unfold gq.f
 by_cases h : 1048576 < p.length
 ·rw [if_pos (by omega), if_pos h]
 ·rw [if_neg (by omega), if_neg h, show (8 : Int) + (p.length : Int) = ((8 + p.length : Nat) : Int) by simp, w64 (by omega) (by omega), if_pos (by omega)]
  have : List.replicate (0 : Int).toNat (0 : UInt8) = [] := rfl
  rw [this, vy (by simp) (by omega) q]
  rfl
end Go.Proofs.YtndjkejhacfpdaaGreatDoor

namespace Go.Proofs.YtndjkejhacfpdaaGreatDoor
open Go.RowKit
end Go.Proofs.YtndjkejhacfpdaaGreatDoor

namespace Go.Proofs.YtndjkejhacfpdaaGreatDoor
open Go.RowKit
theorem fR {α : Type} {l : List α} {i : Nat} {d : α} (h : i < l.length) : l.getD i d = l[i] := by
 rw [List.getD_eq_getElem?_getD, List.getElem?_eq_getElem h]; rfl
theorem sj {α : Type} {l : List α} {i : Nat} {d : α} (h : i < l.length) : l.drop i = l.getD i d :: l.drop (i + 1) := by
 rw [fR h]
 exact List.drop_eq_getElem_cons h
theorem vi {p : UInt8 → Bool} (h : ((List.range 256).all fun n => p (UInt8.ofNat n)) = true) (c : UInt8) : p c = true := by
 have := List.all_eq_true.1 h c.toNat (List.mem_range.2 (UInt8.toNat_lt c))
 simpa using this
theorem wn1 {n : Nat} (h : n < 2 ^ 61) : IntKind.i64.wrap ((n : Int) + 1) = ((n + 1 : Nat) : Int) := by rw [w64 (by omega) (by omega)]; simp
def dg (c : UInt8) : Prop := 48 ≤ c.toNat ∧ c.toNat ≤ 57
def iG (a : Nat) (l : List UInt8) : Nat := l.foldl (fun a c => a * 10 + (c.toNat - 48)) a
instance (c : UInt8) : Decidable (dg c) := inferInstanceAs (Decidable (48 ≤ c.toNat ∧ c.toNat ≤ 57))
theorem pY (a : Nat) (c : UInt8) (l : List UInt8) : iG a (c :: l) = iG (a * 10 + (c.toNat - 48)) l := by simp only [iG, List.foldl_cons]
theorem qa (a : Nat) (c : UInt8) (l : List UInt8) : iG a (l ++ [c]) = iG a l * 10 + (c.toNat - 48) := by simp [iG, List.foldl_append]
theorem tK {n : Nat} (h : n < 256) : (UInt8.ofNat n).toNat = n := by simp; omega
theorem qD : ∀ (k u : Nat), u < 10 ^ (k + 1) → (Lib.decDigits u).length ≤ k + 1
 | 0, u, h => by rw [Lib.decDigits, dif_pos (by simpa using h)]; simp
 | k + 1, u, h => by
  rw [Lib.decDigits]
  split
  ·simp
  ·have := qD k (u / 10) (by rw [Nat.pow_succ] at h; omega)
   simp; omega
theorem tf {n : Int} (h : 0 ≤ n) : Lib.itoa n = Lib.decDigits n.toNat := by unfold Lib.itoa; rw [if_neg (by omega)]
def pad : Nat → Nat → List UInt8
 | 0, _ => []
 | k + 1, n => pad k (n / 10) ++ [UInt8.ofNat (48 + n % 10)]
theorem nr : ∀ k n, (pad k n).length = k
 | 0, _ => rfl
 | k + 1, n => by rw [pad, List.length_append, nr k]; rfl
theorem pH : ∀ k, pad k 0 = Lib.repeatL [48] k
 | 0 => rfl
 | k + 1 => by
  have e : ∀ k, Lib.repeatL [48] k ++ [48] = Lib.repeatL [48] (k + 1) := fun k => by
   induction k with
   | zero => rfl
   | succ k ih => rw [Lib.repeatL, List.append_assoc, ih]; rfl
  rw [pad, show (0 : Nat) / 10 = 0 from rfl, pH k]
  exact e k
theorem qE : ∀ (k n : Nat), n < 10 ^ (k + 1) → Lib.repeatL [48] (k + 1 - (Lib.decDigits n).length) ++ Lib.decDigits n = pad (k + 1) n
 | k, n, h => by
  by_cases h10 : n < 10
  ·rw [Lib.decDigits, dif_pos h10, pad, show n / 10 = 0 by omega, show n % 10 = n by omega, pH]
   rfl
  ·rw [Lib.decDigits, dif_neg h10]
   cases k with
   | zero => exact absurd h (by simp; omega)
   | succ k =>
    have q := qE k (n / 10) (by rw [Nat.pow_succ] at h; omega)
    rw [pad, ← q, List.length_append]
    simp only [List.length_cons, List.length_nil]
    rw [show k + 1 + 1 - ((Lib.decDigits (n / 10)).length + (0 + 1)) = k + 1 - (Lib.decDigits (n / 10)).length by omega]
    simp
theorem pD : ∀ (k n : Nat) c, c ∈ pad k n → dg c
 | 0, _, c, h => by cases h
 | k + 1, n, c, h => by
  rw [pad] at h
  rcases List.mem_append.1 h with h | h
  ·exact pD k _ c h
  ·have e : (UInt8.ofNat (48 + n % 10)).toNat = 48 + n % 10 := tK (by omega)
   rw [List.mem_singleton.1 h, dg, e]; omega
theorem pC : ∀ (k n : Nat), n < 10 ^ k → iG 0 (pad k n) = n
 | 0, n, h => by simp at h; subst h; rfl
 | k + 1, n, h => by
  have e : (UInt8.ofNat (48 + n % 10)).toNat = 48 + n % 10 := tK (by omega)
  rw [pad, qa, pC k (n / 10) (by rw [Nat.pow_succ] at h; omega), e]
  omega
end Go.Proofs.YtndjkejhacfpdaaGreatDoor

namespace Go.Proofs.YtndjkejhacfpdaaGreatDoor
open Go.RowKit
abbrev pA : List UInt8 := [119, 97, 108, 45]
def aY (n : Nat) : List UInt8 := pA ++ pad 8 n
def jZ (s : List UInt8) : Nat := if s.length = 12 ∧ s.take 4 = pA ∧ (∀ c, c ∈ s.drop 4 → dg c) then iG 0 (s.drop 4) else 0
instance (l : List UInt8) : Decidable (∀ c, c ∈ l → dg c) := inferInstanceAs (Decidable (∀ c ∈ l, dg c))
theorem pB (l : List UInt8) (u : l.length ≤ 8) : ∀ (k j : Nat), 8 - l.length - j < k → j ≤ 8 - l.length → eE.l0 k (Lib.repeatL [48] j ++ l) = some (Lib.repeatL [48] (8 - l.length) ++ l)
 | 0, j, h, _ => by omega
 | k + 1, j, h, hj => by
  have q : (Lib.repeatL [48] j).length = j := by rw [Lib.repeatL_length]; simp
  rw [eE.l0]
  by_cases hlt : j < 8 - l.length
  ·rw [if_pos (by rw [List.length_append, q]; omega), if_pos (by rw [List.length_append, q]; simp only [List.length_cons, List.length_nil]; omega)]
   have r := pB l u k (j + 1) (by omega) (by omega)
   rw [Lib.repeatL, List.append_assoc] at r
   exact r
  ·rw [if_neg (by rw [List.length_append, q]; omega), show j = 8 - l.length by omega]
theorem uk {n k : Nat} (r : 1 ≤ n) (h1 : n ≤ 99999999) (u : 10 ≤ k) : eE.f k (n : Int) = some (aY n, 0) := by
 have q := qD 7 n (by omega)
 have hp := qE 7 n (by omega)
 unfold eE.f
 have l0 := pB (Lib.decDigits n) (by omega) k 0 (by omega) (by omega)
 rw [if_neg (by simp; omega), gp.f, if_pos (by omega), Option.bind_some, tf (by omega), Int.toNat_natCast]
 rw [show Lib.repeatL [48] 0 ++ Lib.decDigits n = Lib.decDigits n from rfl] at l0
 rw [l0, hp, Option.bind_some, if_pos (by rw [nr]; simp only [List.length_cons, List.length_nil]; omega)]
 rfl
theorem qF {s : List UInt8} (u : s.length = 12) : ∀ (k i n : Nat), 8 - i < k → i ≤ 8 → n < 10 ^ i →
  dN.l0 s k (n : Int) (i : Int) = some (if (∀ c, c ∈ (s.drop 4).drop i → dg c) then .inl ((iG n ((s.drop 4).drop i) : Nat) : Int) else .inr (0, false))
 | 0, i, n, h, _, _ => by omega
 | k + 1, i, n, hk, hi, hn => by
  rw [dN.l0]
  have D : cut s (4 : Int) (s.length : Int) = s.drop 4 := by unfold cut; simp
  have G : (s.drop 4).length = 8 := by simp; omega
  rw [D, G]
  by_cases hlt : i < 8
  ·have hm : n * 10 + 9 < 10 ^ 9 := by
    have : (10 : Nat) ^ i ≤ 10 ^ 7 := Nat.pow_le_pow_right (by omega) (by omega)
    omega
   have I : n * 10 < 10 ^ (i + 1) := by rw [Nat.pow_succ]; omega
   have r : (s.drop 4).drop i = (s.drop 4).getD i 0 :: (s.drop 4).drop (i + 1) := by
    have J := sj (l := s.drop 4) (d := (0 : UInt8)) (i := i) (by omega)
    exact J
   rw [if_pos (by omega), if_pos (by omega), r]
   simp only [Int.toNat_natCast]
   obtain ⟨c, L⟩ : ∃ c, (s.drop 4).getD i 0 = c := ⟨_, rfl⟩
   simp only [L]
   by_cases hd : dg c
   ·have d1 := hd.1
    have d2 := hd.2
    rw [if_neg (by simp; omega)]
    have U : IntKind.i64.wrap (IntKind.i64.wrap (10 * (n : Int)) + IntKind.i64.wrap (IntKind.u8.wrap (((c.toNat : Nat) : Int) - 48))) = ((n * 10 + (c.toNat - 48) : Nat) : Int) := by
     rw [w8 (by omega) (by omega), w64 (n := 10 * (n : Int)) (by omega) (by omega), w64 (n := ((c.toNat : Nat) : Int) - 48) (by omega) (by omega), w64 (by omega) (by omega)]
     omega
    rw [U, wn1 (by omega), qF u k (i + 1) _ (by omega) (by omega) (by rw [Nat.pow_succ]; omega), pY]
    have X : (∀ d, d ∈ c :: (s.drop 4).drop (i + 1) → dg d) ↔ (∀ d, d ∈ (s.drop 4).drop (i + 1) → dg d) := ⟨fun h d q => h d (List.mem_cons_of_mem _ q), fun h d q => by
     rcases List.mem_cons.1 q with rfl | q
     ·exact hd
     ·exact h d q⟩
    simp only [X]
   ·rw [if_pos (by
     unfold dg at hd
     simp only [Bool.or_eq_true, decide_eq_true_eq]
     omega), if_neg (fun h => hd (h c (by simp)))]
  ·rw [if_neg (by omega), List.drop_of_length_le (l := s.drop 4) (by omega), if_pos (fun c h => (by cases h))]
   rfl
theorem vf {s : List UInt8} {k : Nat} (u : s.length ≤ 2 ^ 40) (D : 10 ≤ k) : dN.f k s = some ((jZ s : Int), decide (0 < jZ s)) := by
 unfold dN.f jZ
 by_cases hl : s.length = 12
 ·rw [if_pos (by omega), if_pos (by omega), Option.bind_some]
  have q : cut s (0 : Int) (4 : Int) = s.take 4 := by unfold cut; simp
  rw [q]
  by_cases hp : s.take 4 = pA
  ·have l0 := qF hl k 0 0 (by omega) (by omega) (by omega)
   rw [show ((0 : Nat) : Int) = (0 : Int) from rfl] at l0
   have r : (cut s (4 : Int) (s.length : Int)).length = 8 := by unfold cut; simp; omega
   rw [if_neg (by simp [hp]), if_pos (show 0 ≤ (4 : Int) ∧ (4 : Int) ≤ (s.length : Int) ∧ (s.length : Int) ≤ (s.length : Int) by omega), if_pos (by rw [r]; omega), l0]
   rw [List.drop_zero]
   by_cases hd : ∀ c, c ∈ s.drop 4 → dg c
   ·rw [if_pos hd, if_pos ⟨hl, hp, hd⟩]
    simp [orR]
   ·rw [if_neg hd, if_neg (fun h => hd h.2.2)]
    rfl
  ·rw [if_pos (by simp [hp]), if_neg (fun h => hp h.2.1)]
   rfl
 ·rw [if_neg (by omega), Option.bind_some, if_pos rfl, if_neg (fun h => hl h.1)]
  rfl
theorem jS (n : Nat) : (aY n).length = 12 := by simp [aY, nr]
theorem mm {n : Nat} (h : n ≤ 99999999) : jZ (aY n) = n := by
 have q : (aY n).take 4 = pA := by simp [aY]
 have r : (aY n).drop 4 = pad 8 n := by simp [aY]
 unfold jZ
 rw [r, pC 8 n (by omega), if_pos ⟨jS n, q, fun c u => pD 8 n c u⟩]
end Go.Proofs.YtndjkejhacfpdaaGreatDoor

namespace Go.Proofs.YtndjkejhacfpdaaGreatDoor
open Go.RowKit
abbrev EnT := Int × Int × Int × List UInt8
abbrev HeT := Int × Int × Int × List UInt8 × Int
abbrev dQ := Int × Int × Int × Int × Int × Int × Int × Int × Int × Int × List UInt8
def ft (r : dQ) : List UInt8 :=
 dF r.1 ++ (if r.1 = 0 then dF r.2.1 else []) ++ (if r.1 = 0 ∨ r.1 = 1 then dF r.2.2.1 ++ dF r.2.2.2.1 ++ dF r.2.2.2.2.1 else []) ++ (if r.1 = 0 ∨ r.1 = 3 then dF r.2.2.2.2.2.1 ++ dF r.2.2.2.2.2.2.1 else []) ++
  (if r.1 = 2 then bB (txE r.2.2.2.2.2.2.2.1 r.2.2.2.2.2.2.2.2.1 r.2.2.2.2.2.2.2.2.2.1 r.2.2.2.2.2.2.2.2.2.2) else [])
structure OkR (r : dQ) : Prop where
 kd : 0 ≤ r.1 ∧ r.1 ≤ 3
 nu : okN r.2.1
 t : okN r.2.2.1
 v : okN r.2.2.2.1
 c : okN r.2.2.2.2.1
 i : okN r.2.2.2.2.2.1
 m : okN r.2.2.2.2.2.2.1
 e : r.1 = 2 → jl r.2.2.2.2.2.2.2.1 r.2.2.2.2.2.2.2.2.1 r.2.2.2.2.2.2.2.2.2.1 r.2.2.2.2.2.2.2.2.2.2 = 0
theorem ix : bA.f 0 = some () := rfl
theorem qi (t i kd : Int) (d : List UInt8) : (txE t i kd d).length ≤ d.length + 36 := by
 have q := cC t; have r := cC i; have u := cC kd; have D := oF d
 unfold txE
 simp only [List.length_append]
 omega
theorem ks (r : dQ) : (ft r).length ≤ r.2.2.2.2.2.2.2.2.2.2.length + 120 := by
 have q := cC r.1; have u := cC r.2.1; have D := cC r.2.2.1; have G := cC r.2.2.2.1; have I := cC r.2.2.2.2.1; have J := cC r.2.2.2.2.2.1; have L := cC r.2.2.2.2.2.2.1
 have U := qi r.2.2.2.2.2.2.2.1 r.2.2.2.2.2.2.2.2.1 r.2.2.2.2.2.2.2.2.2.1 r.2.2.2.2.2.2.2.2.2.2
 have X := oF (txE r.2.2.2.2.2.2.2.1 r.2.2.2.2.2.2.2.2.1 r.2.2.2.2.2.2.2.2.2.1 r.2.2.2.2.2.2.2.2.2.2)
 unfold ft
 simp only [List.length_append]
 have e1 : (if r.1 = 0 then dF r.2.1 else []).length ≤ 9 := by split <;> first | omega | simp
 have e2 : (if r.1 = 0 ∨ r.1 = 1 then dF r.2.2.1 ++ dF r.2.2.2.1 ++ dF r.2.2.2.2.1 else []).length ≤ 27 := by split <;> first | (simp only [List.length_append]; omega) | simp
 have e3 : (if r.1 = 0 ∨ r.1 = 3 then dF r.2.2.2.2.2.1 ++ dF r.2.2.2.2.2.2.1 else []).length ≤ 18 := by split <;> first | (simp only [List.length_append]; omega) | simp
 have e4 : (if r.1 = 2 then bB (txE r.2.2.2.2.2.2.2.1 r.2.2.2.2.2.2.2.2.1 r.2.2.2.2.2.2.2.2.2.1 r.2.2.2.2.2.2.2.2.2.2) else []).length ≤ r.2.2.2.2.2.2.2.2.2.2.length + 45 := by split <;> first | omega | simp
 omega
theorem qj {r : dQ} (h : OkR r) {k : Nat} (hk : 10000 ≤ k) : dx.f k r.1 r.2.1 r.2.2.1 r.2.2.2.1 r.2.2.2.2.1 r.2.2.2.2.2.1 r.2.2.2.2.2.2.1 r.2.2.2.2.2.2.2.1 r.2.2.2.2.2.2.2.2.1 r.2.2.2.2.2.2.2.2.2.1 r.2.2.2.2.2.2.2.2.2.2 = some (frB (ft r)) := by
 have I := ks r
 obtain ⟨kd, nu, t, v, c, i, m, L, U, ek, X⟩ := r
 obtain ⟨ab, J, ht, hv, hc, hi, hm, he⟩ := h
 simp only at ab J ht hv hc hi hm he I ⊢
 have b0 := cC kd; have b1 := cC nu; have b2 := cC t; have b3 := cC v; have b4 := cC c; have b5 := cC i; have b6 := cC m
 have q : 10 ≤ k := by omega
 have u : ∀ p : List UInt8, p.length ≤ 9000 → ((di.f p 0).bind fun D => ((bA.f D.2).bind fun a7 => ((gq.f k D.1).bind fun G => ((bA.f G.2).bind fun a8 => (some G.1))))) = some (frB p) := fun p hp => by
  rw [wD (by omega), Option.bind_some]
  simp only []
  rw [ix, Option.bind_some, vv (by omega), if_neg (by omega), Option.bind_some]
  simp only []
  rw [ix, Option.bind_some]
 unfold dx.f
 rw [show dW.f = some (([] : List UInt8), 0) from rfl, Option.bind_some]
 simp only []
 rw [wI q (by simp) (show okN kd by unfold okN; omega), Option.bind_some]
 simp only [List.nil_append]
 have a1 : kd = 0 ∨ kd = 1 ∨ kd = 2 ∨ kd = 3 := by omega
 rcases a1 with rfl | rfl | rfl | rfl
 ·rw [if_pos rfl, wI q (by omega) J]
  simp only [Option.bind_some]
  rw [if_pos (by decide), wI q (by first | omega | (simp only [List.length_append, List.length_nil]; omega)) ht, Option.bind_some, wI q (by first | omega | (simp only [List.length_append, List.length_nil]; omega)) hv, Option.bind_some, wI q (by first | omega | (simp only [List.length_append, List.length_nil]; omega)) hc]
  simp only [Option.bind_some]
  rw [if_pos (by decide), wI q (by first | omega | (simp only [List.length_append, List.length_nil]; omega)) hi, Option.bind_some, wI q (by first | omega | (simp only [List.length_append, List.length_nil]; omega)) hm]
  simp only [Option.bind_some]
  rw [if_neg (by decide)]
  simp only [Option.bind_some]
  rw [u _ (by first | omega | (simp only [List.length_append, List.length_nil]; omega))]
  unfold ft
  simp [List.append_assoc]
 ·rw [if_neg (by decide)]
  simp only [Option.bind_some]
  rw [if_pos (by decide), wI q (by first | omega | (simp only [List.length_append, List.length_nil]; omega)) ht, Option.bind_some, wI q (by first | omega | (simp only [List.length_append, List.length_nil]; omega)) hv, Option.bind_some, wI q (by first | omega | (simp only [List.length_append, List.length_nil]; omega)) hc]
  simp only [Option.bind_some]
  rw [if_neg (by decide)]
  simp only [Option.bind_some]
  rw [if_neg (by decide)]
  simp only [Option.bind_some]
  rw [u _ (by first | omega | (simp only [List.length_append, List.length_nil]; omega))]
  unfold ft
  simp [List.append_assoc]
 ·rw [if_neg (by decide)]
  simp only [Option.bind_some]
  rw [if_neg (by decide)]
  simp only [Option.bind_some]
  rw [if_neg (by decide)]
  simp only [Option.bind_some]
  have hE := he rfl
  have be := gJ hE
  have b7 := qi L U ek X
  have b8 := oF (txE L U ek X)
  first | rw [if_pos rfl] | rw [if_pos trivial]
  rw [vw q]
  unfold sO
  rw [if_pos hE]
  simp only [Option.bind_some]
  rw [ix, Option.bind_some, wB q (by omega) (by omega) (by omega)]
  simp only [Option.bind_some]
  rw [u _ (by have := cC ((txE L U ek X).length : Int); simp only [List.length_append]; omega)]
  unfold ft
  simp [List.append_assoc, bB]
 ·rw [if_neg (by decide)]
  simp only [Option.bind_some]
  rw [if_neg (by decide)]
  simp only [Option.bind_some]
  rw [if_pos (by decide), wI q (by omega) hi, Option.bind_some, wI q (by first | omega | (simp only [List.length_append, List.length_nil]; omega)) hm]
  simp only [Option.bind_some]
  rw [if_neg (by decide)]
  simp only [Option.bind_some]
  rw [u _ (by first | omega | (simp only [List.length_append, List.length_nil]; omega))]
  unfold ft
  simp [List.append_assoc]
end Go.Proofs.YtndjkejhacfpdaaGreatDoor

namespace Go.Proofs.YtndjkejhacfpdaaGreatDoor
open Go.RowKit
abbrev dzH : HeT := (0, 0, 0, [], 0)
abbrev St := Int × Int × Int × Int × Int × List HeT
structure gd (s : St) : Prop where
 t : okN s.1
 v : okN s.2.1
 c : okN s.2.2.1
 b : okN s.2.2.2.1
 bt : okN s.2.2.2.2.1
 idx : ∀ i, i < s.2.2.2.2.2.length → (s.2.2.2.2.2.getD i dzH).2.1 = s.2.2.2.1 + ((i + 1 : Nat) : Int)
 chk : ∀ e, e ∈ s.2.2.2.2.2 → jl e.1 e.2.1 e.2.2.1 e.2.2.2.1 = 0
theorem oK : gd (0, 0, 0, 0, 0, []) := ⟨⟨by decide, by decide⟩, ⟨by decide, by decide⟩, ⟨by decide, by decide⟩, ⟨by decide, by decide⟩, ⟨by decide, by decide⟩, fun i h => by simp at h, fun e h => by cases h⟩
def dJ (s : St) : Int × Int := if 0 < s.2.2.2.2.2.length then ((s.2.2.2.2.2.getD (s.2.2.2.2.2.length - 1) dzH).2.1, (s.2.2.2.2.2.getD (s.2.2.2.2.2.length - 1) dzH).1) else (s.2.2.2.1, s.2.2.2.2.1)
theorem lb {s : St} (h : gd s) : (dJ s).1 = s.2.2.2.1 + (s.2.2.2.2.2.length : Int) := by
 unfold dJ
 split
 ·rw [h.idx _ (by omega)]; omega
 ·simp; omega
theorem kt {l : List HeT} {i : Nat} (h : i < l.length) : l.getD i dzH ∈ l := by rw [fR h]; exact List.getElem_mem _
theorem kg {s : St} (h : gd s) : s.2.2.2.1 + (s.2.2.2.2.2.length : Int) ≤ 4611686018427387904 := by
 by_cases hl : 0 < s.2.2.2.2.2.length
 ·have h1 := h.idx (s.2.2.2.2.2.length - 1) (by omega)
  have q := (gJ (h.chk _ (kt (i := s.2.2.2.2.2.length - 1) (by omega)))).2.1
  have r := q.2
  rw [h1] at r
  omega
 ·have := h.b.2; omega
theorem mE (fs : FSt) (la : List UInt8) (a : Int) (d : Bool) (most : Int) (sg : List Int) (sz : Int) (s : St) (q : Bool) (r : s.2.2.2.2.2.length < 2 ^ 40) : co.f fs la a d most sg sz s.1 s.2.1 s.2.2.1 s.2.2.2.1 s.2.2.2.2.1 s.2.2.2.2.2 q = some (dJ s) := by
 unfold co.f dJ
 by_cases h0 : 0 < s.2.2.2.2.2.length
 ·have e : (s.2.2.2.2.2.length : Int) - 1 = ((s.2.2.2.2.2.length - 1 : Nat) : Int) := by omega
  rw [if_pos (by omega), if_pos h0, e, w64 (by omega) (by omega), if_pos (by omega), Int.toNat_natCast]
 ·rw [if_neg (by omega), if_neg h0]
def ma (s : St) (i m : Int) : Bool :=
 if i = s.2.2.2.1 then decide (m = s.2.2.2.2.1) else if s.2.2.2.1 < i ∧ i - s.2.2.2.1 ≤ (s.2.2.2.2.2.length : Int) then decide ((s.2.2.2.2.2.getD (i - s.2.2.2.1 - 1).toNat dzH).1 = m) else false
theorem qU (fs : FSt) (la : List UInt8) (a : Int) (d : Bool) (most : Int) (sg : List Int) (sz : Int) {s : St} (h : gd s) (q : Bool) {i : Int} (hi : okN i) (m : Int) : cV.f fs la a d most sg sz s.1 s.2.1 s.2.2.1 s.2.2.2.1 s.2.2.2.2.1 s.2.2.2.2.2 q i m = some (ma s i m) := by
 have r := h.b
 unfold okN at r hi
 unfold cV.f ma
 by_cases e : i = s.2.2.2.1
 ·rw [if_pos e, if_pos e]
 ·rw [if_neg e, if_neg e, w64 (n := i - s.2.2.2.1) (by omega) (by omega)]
  by_cases h2 : s.2.2.2.1 < i ∧ i - s.2.2.2.1 ≤ (s.2.2.2.2.2.length : Int)
  ·rw [if_pos (by simpa using h2), if_pos h2, w64 (by omega) (by omega), if_pos (by omega)]; rfl
  ·rw [if_neg (by simpa using h2), if_neg h2]; rfl
def gx (s : St) (r : dQ) (sg : Int) : St :=
 if r.1 = 1 then (r.2.2.1, r.2.2.2.1, r.2.2.2.2.1, s.2.2.2.1, s.2.2.2.2.1, s.2.2.2.2.2)
 else if r.1 = 2 then
  (if s.2.2.2.1 + (s.2.2.2.2.2.length : Int) + 1 < r.2.2.2.2.2.2.2.2.1 then s
  else if r.2.2.2.2.2.2.2.2.1 ≤ s.2.2.2.1 then (s.1, s.2.1, s.2.2.1, r.2.2.2.2.2.2.2.2.1 - 1, 0, [(r.2.2.2.2.2.2.2.1, r.2.2.2.2.2.2.2.2.1, r.2.2.2.2.2.2.2.2.2.1, r.2.2.2.2.2.2.2.2.2.2, sg)])
  else (s.1, s.2.1, s.2.2.1, s.2.2.2.1, s.2.2.2.2.1, s.2.2.2.2.2.take (r.2.2.2.2.2.2.2.2.1 - s.2.2.2.1 - 1).toNat ++ [(r.2.2.2.2.2.2.2.1, r.2.2.2.2.2.2.2.2.1, r.2.2.2.2.2.2.2.2.2.1, r.2.2.2.2.2.2.2.2.2.2, sg)]))
 else if ma s r.2.2.2.2.2.1 r.2.2.2.2.2.2.1 = true then s else (s.1, s.2.1, s.2.2.1, r.2.2.2.2.2.1, r.2.2.2.2.2.2.1, [])
theorem uL (l : List HeT) (n : Nat) : cut l (0 : Int) (n : Int) = l.take n := by unfold cut; simp
theorem uM (fs : FSt) (la : List UInt8) (a : Int) (d : Bool) (most : Int) (q : List Int) (sz : Int) {s : St} (h : gd s) (hl : s.2.2.2.2.2.length < 2 ^ 30) {r : dQ} (u : OkR r) (h0 : r.1 ≠ 0) (sg : Int) :
  ∃ b, dK.f fs la a d most q sz s.1 s.2.1 s.2.2.1 s.2.2.2.1 s.2.2.2.2.1 s.2.2.2.2.2 false r.1 r.2.1 r.2.2.1 r.2.2.2.1 r.2.2.2.2.1 r.2.2.2.2.2.1 r.2.2.2.2.2.2.1 r.2.2.2.2.2.2.2.1 r.2.2.2.2.2.2.2.2.1 r.2.2.2.2.2.2.2.2.2.1 r.2.2.2.2.2.2.2.2.2.2 sg =
   some (b, most, q, sz, (gx s r sg).1, (gx s r sg).2.1, (gx s r sg).2.2.1, (gx s r sg).2.2.2.1, (gx s r sg).2.2.2.2.1, (gx s r sg).2.2.2.2.2, false) := by
 have hk := u.kd
 have I := h.b
 unfold okN at I
 unfold dK.f gx
 by_cases h1 : r.1 = 1
 ·rw [if_pos h1, if_pos h1]; exact ⟨true, rfl⟩
 rw [if_neg h1, if_neg h1]
 by_cases h2 : r.1 = 2
 ·rw [if_pos h2, if_pos h2, show dc.f = some () from rfl, Option.bind_some]
  unfold fe.f
  have D := (gJ (u.e h2)).2.1
  have J := D.1
  have L := D.2
  have G := kg h
  rw [w64 (n := s.2.2.2.1 + (s.2.2.2.2.2.length : Int)) (by omega) (by omega), w64 (n := s.2.2.2.1 + (s.2.2.2.2.2.length : Int) + 1) (by omega) (by omega)]
  by_cases g1 : s.2.2.2.1 + (s.2.2.2.2.2.length : Int) + 1 < r.2.2.2.2.2.2.2.2.1
  ·rw [if_pos g1, if_pos g1]; exact ⟨false, rfl⟩
  ·rw [if_neg g1, if_neg g1]
   by_cases g2 : r.2.2.2.2.2.2.2.2.1 ≤ s.2.2.2.1
   ·rw [if_pos g2, if_pos g2, w64 (n := r.2.2.2.2.2.2.2.2.1 - 1) (by omega) (by omega)]
    simp only [Option.bind_some]
    rw [show r.2.2.2.2.2.2.2.2.1 - (r.2.2.2.2.2.2.2.2.1 - 1) = 1 by omega, show IntKind.i64.wrap (1 : Int) = 1 from by decide, show IntKind.i64.wrap ((1 : Int) - 1) = 0 from by decide, if_pos ⟨by omega, by omega, by simp⟩]
    have U : cut ([] : List HeT) (0 : Int) (0 : Int) = [] := rfl
    rw [U, if_pos (by simp)]
    exact ⟨true, rfl⟩
   ·rw [if_neg g2, if_neg g2]
    simp only [Option.bind_some]
    have X : IntKind.i64.wrap (IntKind.i64.wrap (r.2.2.2.2.2.2.2.2.1 - s.2.2.2.1) - 1) = (((r.2.2.2.2.2.2.2.2.1 - s.2.2.2.1 - 1).toNat : Nat) : Int) := by
     rw [w64 (n := r.2.2.2.2.2.2.2.2.1 - s.2.2.2.1) (by omega) (by omega), w64 (by omega) (by omega)]
     omega
    rw [X, if_pos ⟨by omega, by omega, by omega⟩, uL, if_pos (by simp only [List.length_take, List.length_cons, List.length_nil]; omega)]
    exact ⟨true, rfl⟩
 rw [if_neg h2, if_neg h2, if_pos (by omega), show dc.f = some () from rfl, Option.bind_some]
 unfold ff.f
 rw [qU fs la a d most q sz h false u.i, Option.bind_some]
 cases hh : ma s r.2.2.2.2.2.1 r.2.2.2.2.2.2.1 with
 | true => exact ⟨true, rfl⟩
 | false => exact ⟨true, rfl⟩
theorem rO (l : List HeT) {i n : Nat} (h : i < n) : (l.take n).getD i dzH = l.getD i dzH := by
 simp only [List.getD_eq_getElem?_getD, List.getElem?_take, if_pos h]
theorem nB {s : St} (h : gd s) {r : dQ} (D : OkR r) (h0 : r.1 ≠ 0) (sg : Int) : gd (gx s r sg) := by
 have hk := D.kd
 have L := h.b
 unfold okN at L
 unfold gx
 by_cases h1 : r.1 = 1
 ·rw [if_pos h1]; exact ⟨D.t, D.v, D.c, h.b, h.bt, h.idx, h.chk⟩
 rw [if_neg h1]
 by_cases h2 : r.1 = 2
 ·rw [if_pos h2]
  have G := D.e h2
  have J := (gJ G).2.1
  have U := J.1
  have X := J.2
  by_cases g1 : s.2.2.2.1 + (s.2.2.2.2.2.length : Int) + 1 < r.2.2.2.2.2.2.2.2.1
  ·rw [if_pos g1]; exact h
  ·rw [if_neg g1]
   by_cases g2 : r.2.2.2.2.2.2.2.2.1 ≤ s.2.2.2.1
   ·rw [if_pos g2]
    refine ⟨h.t, h.v, h.c, ⟨by show 0 ≤ r.2.2.2.2.2.2.2.2.1 - 1; omega, by show r.2.2.2.2.2.2.2.2.1 - 1 ≤ _; omega⟩, ⟨Int.le_refl 0, by show (0 : Int) ≤ _; omega⟩, fun i hi => ?_, fun e q => ?_⟩
    ·have : i = 0 := by simp at hi; omega
     subst this
     show r.2.2.2.2.2.2.2.2.1 = r.2.2.2.2.2.2.2.2.1 - 1 + ((0 + 1 : Nat) : Int)
     omega
    ·rw [List.mem_singleton.1 q]; exact G
   ·rw [if_neg g2]
    have u : (s.2.2.2.2.2.take (r.2.2.2.2.2.2.2.2.1 - s.2.2.2.1 - 1).toNat).length = (r.2.2.2.2.2.2.2.2.1 - s.2.2.2.1 - 1).toNat := by rw [List.length_take]; omega
    refine ⟨h.t, h.v, h.c, h.b, h.bt, fun i hi => ?_, fun e q => ?_⟩
    ·simp only [List.length_append, u, List.length_cons, List.length_nil] at hi
     by_cases hlt : i < (r.2.2.2.2.2.2.2.2.1 - s.2.2.2.1 - 1).toNat
     ·have I : (s.2.2.2.2.2.take (r.2.2.2.2.2.2.2.2.1 - s.2.2.2.1 - 1).toNat ++ [(r.2.2.2.2.2.2.2.1, r.2.2.2.2.2.2.2.2.1, r.2.2.2.2.2.2.2.2.2.1, r.2.2.2.2.2.2.2.2.2.2, sg)]).getD i dzH = s.2.2.2.2.2.getD i dzH := by
       rw [List.getD_eq_getElem?_getD, List.getElem?_append_left (by omega), ← List.getD_eq_getElem?_getD, rO _ hlt]
      simp only [I]
      exact h.idx i (by omega)
     ·have ei : i = (r.2.2.2.2.2.2.2.2.1 - s.2.2.2.1 - 1).toNat := by omega
      have I : (s.2.2.2.2.2.take (r.2.2.2.2.2.2.2.2.1 - s.2.2.2.1 - 1).toNat ++ [(r.2.2.2.2.2.2.2.1, r.2.2.2.2.2.2.2.2.1, r.2.2.2.2.2.2.2.2.2.1, r.2.2.2.2.2.2.2.2.2.2, sg)]).getD i dzH = (r.2.2.2.2.2.2.2.1, r.2.2.2.2.2.2.2.2.1, r.2.2.2.2.2.2.2.2.2.1, r.2.2.2.2.2.2.2.2.2.2, sg) := by
       rw [List.getD_eq_getElem?_getD, List.getElem?_append_right (by omega), u, ei, Nat.sub_self]; rfl
      simp only [I]
      omega
    ·rcases List.mem_append.1 q with q | q
     ·exact h.chk e (List.mem_of_mem_take q)
     ·rw [List.mem_singleton.1 q]; exact G
 rw [if_neg h2]
 split
 ·exact h
 ·exact ⟨h.t, h.v, h.c, D.i, D.m, fun i hi => by simp at hi, fun e q => by cases q⟩
theorem oL (s : St) (r : dQ) (sg : Int) : (gx s r sg).2.2.2.2.2.length ≤ s.2.2.2.2.2.length + 1 := by
 unfold gx
 split
 ·exact Nat.le_succ _
 split
 ·split
  ·exact Nat.le_succ _
  split
  ·simp
  ·simp only [List.length_append, List.length_take, List.length_cons, List.length_nil]; omega
 split
 ·exact Nat.le_succ _
 ·simp
/-! ### Which batches may be -/
def jD (t v c : Int) : Int := if ¬ (rg t 0 ∧ rg c 0) ∨ v < 0 ∨ 7 < v then 1 else if v ≠ 0 ∧ t = 0 then 4 else 0
theorem vI (t v c : Int) : dd.f t v c = some (jD t v c) := by
 unfold dd.f jD
 rw [na, Option.bind_some]
 by_cases h1 : rg t 0
 ·rw [decide_eq_true h1]
  simp only [Bool.not_true, Bool.false_eq_true, if_false, na, Option.bind_some]
  by_cases h2 : rg c 0
  ·rw [decide_eq_true h2]
   simp only [Bool.not_true, Bool.false_or]
   by_cases h3 : v < 0 ∨ 7 < v
   ·rw [if_pos (by simpa using h3), if_pos (c := ¬ (rg t 0 ∧ rg c 0) ∨ v < 0 ∨ 7 < v) (.inr h3)]
   ·rw [if_neg (c := ¬ (rg t 0 ∧ rg c 0) ∨ v < 0 ∨ 7 < v) (fun x => x.elim (fun y => y ⟨h1, h2⟩) h3), if_neg (by simpa using h3)]
    by_cases h5 : v ≠ 0 ∧ t = 0
    ·rw [if_pos (c := v ≠ 0 ∧ t = 0) h5, if_pos (by simpa using h5)]
    ·rw [if_neg (c := v ≠ 0 ∧ t = 0) h5, if_neg (by simpa using h5)]
  ·rw [decide_eq_false h2]
   simp only [Bool.not_false, Bool.true_or, if_true]
   rw [if_pos (.inl fun x => h2 x.2)]
 ·rw [decide_eq_false h1]
  simp only [Bool.not_false, if_true, Option.bind_some, Bool.true_or]
  rw [if_pos (.inl fun x => h1 x.1)]
theorem oM {t v c : Int} (h : jD t v c = 0) : okN t ∧ okN v ∧ okN c := by
 unfold jD at h
 split at h
 ·omega
 ·rename_i g
  have q : rg t 0 ∧ rg c 0 := Decidable.not_not.1 fun x => g (.inl x)
  have r : 0 ≤ v ∧ v ≤ 7 := by constructor <;> (apply Int.not_lt.1; intro x; exact g (.inr (by omega)))
  exact ⟨oq q.1 (by decide), ⟨by omega, by omega⟩, oq q.2 (by decide)⟩
abbrev BaT := Bool × Int × Int × Int × Int × Int × List EnT
def eB : List EnT → Int
 | [] => 0
 | e :: r => if jl e.1 e.2.1 e.2.2.1 e.2.2.2 = 0 then eB r else jl e.1 e.2.1 e.2.2.1 e.2.2.2
def mb : Int → List EnT → Int
 | _, [] => 0
 | l, e :: r => if l + 1 < e.2.1 then 13 else mb e.2.1 r
def gY (s : St) (b : BaT) : Bool := !decide (b.2.2.2.2.1 = 0) && !ma s b.2.2.2.2.1 b.2.2.2.2.2.1
def jX (b : BaT) : Prop := ((b.2.2.2.2.1 < 0 ∨ 4611686018427387904 < b.2.2.2.2.1) ∨ (b.2.2.2.2.2.1 < 0 ∨ 4611686018427387904 < b.2.2.2.2.2.1)) ∨ ¬ (b.2.2.2.2.1 = 0 ↔ b.2.2.2.2.2.1 = 0)
instance (b : BaT) : Decidable (jX b) := by unfold jX; exact inferInstance
def ic (s : St) (b : BaT) : Int :=
 if b.1 = true ∧ jD b.2.1 b.2.2.1 b.2.2.2.1 ≠ 0 then jD b.2.1 b.2.2.1 b.2.2.2.1
 else if jX b then 1
 else if eB b.2.2.2.2.2.2 ≠ 0 then eB b.2.2.2.2.2.2
 else mb (if gY s b = true then b.2.2.2.2.1 else (dJ s).1) b.2.2.2.2.2.2
theorem oO (l : List EnT) (q : l.length < 2 ^ 40) : ∀ (k i : Nat), l.length - i < k → i ≤ l.length → bJ.l0 l k (i : Int) = some (if eB (l.drop i) = 0 then .inl () else .inr (eB (l.drop i)))
 | 0, i, h, _ => by omega
 | k + 1, i, h, hi => by
  rw [bJ.l0]
  by_cases hlt : i < l.length
  ·rw [if_pos (by omega), if_pos (by omega), cE, Option.bind_some, ws1 (by omega), oO l q k (i + 1) (by omega) (by omega), fD l bj hlt]
   simp only [eB, Int.toNat_natCast]
   by_cases hc : jl (l.getD i bj).1 (l.getD i bj).2.1 (l.getD i bj).2.2.1 (l.getD i bj).2.2.2 = 0
   ·simp only [hc, if_true]
   ·simp only [hc, if_false]
  ·rw [if_neg (by omega), List.drop_of_length_le (by omega)]; rfl
theorem oP (l : List EnT) (D : l.length < 2 ^ 40) (G : eB l = 0) : ∀ (k i : Nat) (z last : Int), l.length - i < k → i ≤ l.length → (0 ≤ last ∧ last ≤ 4611686018427387904) → eB (l.drop i) = 0 →
  bJ.l1 l k z last (i : Int) = some (if mb last (l.drop i) = 0 then .inl () else .inr (mb last (l.drop i)))
 | 0, i, z, last, h, _, _, _ => by omega
 | k + 1, i, z, last, h, hi, hla, hf => by
  rw [bJ.l1]
  by_cases hlt : i < l.length
  ·rw [fD l bj hlt] at hf ⊢
   simp only [eB] at hf
   split at hf
   ·rename_i q
    have u := (gJ q).2.1
    have I := u.1
    have r := u.2
    rw [if_pos (by omega), if_pos (by omega), ws1 (by omega), w64 (n := last + 1) (by omega) (by omega)]
    simp only [mb, Int.toNat_natCast]
    by_cases hg : last + 1 < (l.getD i bj).2.1
    ·simp only [if_pos hg]; rfl
    ·simp only [if_neg hg]
     exact oP l D G k (i + 1) _ _ (by omega) (by omega) ⟨by omega, r⟩ hf
   ·rename_i q
    exact absurd hf q
  ·rw [if_neg (by omega), List.drop_of_length_le (by omega)]; rfl
theorem tU (fs : FSt) (la : List UInt8) (a : Int) (d : Bool) (most : Int) (sg : List Int) (sz : Int) {s : St} (h : gd s) (D : Bool) (U : s.2.2.2.2.2.length < 2 ^ 40) (b : BaT) (I : b.2.2.2.2.2.2.length < 2 ^ 40) {k : Nat} (hk : b.2.2.2.2.2.2.length < k) :
  bJ.f k fs la a d most sg sz s.1 s.2.1 s.2.2.1 s.2.2.2.1 s.2.2.2.2.1 s.2.2.2.2.2 D b.1 b.2.1 b.2.2.1 b.2.2.2.1 b.2.2.2.2.1 b.2.2.2.2.2.1 b.2.2.2.2.2.2 = some (ic s b) := by
 have J := oO b.2.2.2.2.2.2 I k 0 (by omega) (by omega)
 rw [List.drop_zero, show ((0 : Nat) : Int) = (0 : Int) from rfl] at J
 have q : ((((((decide (b.2.2.2.2.1 < (0 : Int))) || (decide ((4611686018427387904 : Int) < b.2.2.2.2.1))) || (decide (b.2.2.2.2.2.1 < (0 : Int)))) || (decide ((4611686018427387904 : Int) < b.2.2.2.2.2.1))) || (!((decide (b.2.2.2.2.1 = (0 : Int))) == (decide (b.2.2.2.2.2.1 = (0 : Int)))))) = true) ↔ jX b := by
  unfold jX
  by_cases x1 : b.2.2.2.2.1 = 0 <;> by_cases x2 : b.2.2.2.2.2.1 = 0 <;> simp [x1, x2] <;> omega
 unfold bJ.f ic
 have h1 : (if b.1 = true then ((dd.f b.2.1 b.2.2.1 b.2.2.2.1).bind fun r => (if r = (0 : Int) then (some (.inl ())) else (some (.inr r)))) else (some (.inl ())) : Option (Unit ⊕ Int)) = some (if b.1 = true ∧ jD b.2.1 b.2.2.1 b.2.2.2.1 ≠ 0 then .inr (jD b.2.1 b.2.2.1 b.2.2.2.1) else .inl ()) := by
  rw [vI]
  by_cases x : b.1 = true
  ·rw [if_pos x, Option.bind_some]
   by_cases y : jD b.2.1 b.2.2.1 b.2.2.2.1 = 0
   ·rw [if_pos y, if_neg (fun z => z.2 y)]
   ·rw [if_neg y, if_pos ⟨x, y⟩]
  ·rw [if_neg x, if_neg (fun z => x z.1)]
 rw [h1]
 by_cases g1 : b.1 = true ∧ jD b.2.1 b.2.2.1 b.2.2.2.1 ≠ 0
 ·rw [if_pos g1, if_pos g1]; rfl
 ·rw [if_neg g1, if_neg g1]
  simp only [orR]
  by_cases g2 : jX b
  ·rw [if_pos (q.2 g2), if_pos g2]
  ·rw [if_neg (fun x => g2 (q.1 x)), if_neg g2, J]
   have hi : okN b.2.2.2.2.1 := by
    unfold jX at g2
    exact ⟨by omega, by omega⟩
   by_cases g3 : eB b.2.2.2.2.2.2 = 0
   ·rw [if_pos g3, if_neg (c := eB b.2.2.2.2.2.2 ≠ 0) (fun x => x g3)]
    simp only [orR]
    rw [mE fs la a d most sg sz s D U, Option.bind_some]
    have X : (((if ((!decide (b.2.2.2.2.1 = (0 : Int))) == true) = true then (cV.f fs la a d most sg sz s.1 s.2.1 s.2.2.1 s.2.2.2.1 s.2.2.2.2.1 s.2.2.2.2.2 D b.2.2.2.2.1 b.2.2.2.2.2.1) else some false).bind fun u => (if ((!decide (b.2.2.2.2.1 = (0 : Int))) && (!u)) = true then (some (b.2.2.2.2.1, b.2.2.2.2.1)) else (some (s.2.2.2.1, (dJ s).1)))) : Option (Int × Int)) = some (if gY s b = true then (b.2.2.2.2.1, b.2.2.2.2.1) else (s.2.2.2.1, (dJ s).1)) := by
     rw [qU fs la a d most sg sz h D hi]
     unfold gY
     by_cases x : b.2.2.2.2.1 = 0
     ·simp [x]
     ·cases ma s b.2.2.2.2.1 b.2.2.2.2.2.1 <;> simp [x]
    rw [X, Option.bind_some]
    have G : ∀ p : Int × Int, p = (if gY s b = true then (b.2.2.2.2.1, b.2.2.2.2.1) else (s.2.2.2.1, (dJ s).1)) → p.2 = (if gY s b = true then b.2.2.2.2.1 else (dJ s).1) ∧ 0 ≤ p.2 ∧ p.2 ≤ 4611686018427387904 := fun p hp => by
     have h3 := lb h
     have h4 := kg h
     have h5 := h.b
     unfold okN at h5 hi
     rw [hp]
     split
     ·exact ⟨rfl, hi.1, hi.2⟩
     ·exact ⟨rfl, by show 0 ≤ (dJ s).1; omega, by show (dJ s).1 ≤ _; omega⟩
    obtain ⟨p, hp⟩ : ∃ p, p = (if gY s b = true then (b.2.2.2.2.1, b.2.2.2.2.1) else (s.2.2.2.1, (dJ s).1)) := ⟨_, rfl⟩
    obtain ⟨p1, p2, p3⟩ := G p hp
    have L := oP b.2.2.2.2.2.2 I g3 k 0 p.1 p.2 (by omega) (by omega) ⟨p2, p3⟩ (by rw [List.drop_zero]; exact g3)
    rw [List.drop_zero, show ((0 : Nat) : Int) = (0 : Int) from rfl] at L
    rw [← hp, L, ← p1]
    by_cases hz : mb p.2 b.2.2.2.2.2.2 = 0
    ·simp only [hz, if_true]
    ·simp only [hz, if_false]
   ·rw [if_neg g3, if_pos (c := eB b.2.2.2.2.2.2 ≠ 0) g3]
end Go.Proofs.YtndjkejhacfpdaaGreatDoor

namespace Go.Proofs.YtndjkejhacfpdaaGreatDoor
open Go.RowKit
/-! ### The records of a batch -/
def ip (e : EnT) : dQ := (2, 0, 0, 0, 0, 0, 0, e.1, e.2.1, e.2.2.1, e.2.2.2)
def gi (s : St) (b : BaT) : List dQ :=
 (if b.1 = true ∧ (b.2.1 ≠ s.1 ∨ b.2.2.1 ≠ s.2.1) then [(1, 0, b.2.1, b.2.2.1, s.2.2.1, 0, 0, 0, 0, 0, [])] else []) ++ (if gY s b = true then [(3, 0, 0, 0, 0, b.2.2.2.2.1, b.2.2.2.2.2.1, 0, 0, 0, [])] else []) ++
  b.2.2.2.2.2.2.map ip ++ (if b.1 = true ∧ b.2.2.2.1 ≠ s.2.2.1 then [(1, 0, b.2.1, b.2.2.1, b.2.2.2.1, 0, 0, 0, 0, 0, [])] else [])
theorem pS {x : List UInt8} (h : x.length < 2 ^ 40) : cm.f x = some x := by
 unfold cm.f
 rw [if_pos (by simp; omega)]
 simp
theorem mZ (l : List EnT) (q : l.length < 2 ^ 30) (hd : ∀ e, e ∈ l → e.2.2.2.length < 2 ^ 40) : ∀ (k i : Nat) (acc : List dQ), l.length - i < k → i ≤ l.length → acc.length ≤ i + 10 → ct.l0 l k acc (i : Int) = some (acc ++ (l.drop i).map ip)
 | 0, i, acc, h, _, _ => by omega
 | k + 1, i, acc, h, hi, ha => by
  rw [ct.l0]
  by_cases hlt : i < l.length
  ·have r : l.getD i bj ∈ l := by rw [fR hlt]; exact List.getElem_mem _
   rw [if_pos (by omega), if_pos (by omega), Int.toNat_natCast, pS (hd _ r), Option.bind_some, if_pos (by simp only [List.length_cons, List.length_nil]; omega), ws1 (by omega), mZ l q hd k (i + 1) _ (by omega) (by omega) (by simp; omega), fD l bj hlt]
   simp [ip]
  ·rw [if_neg (by omega), List.drop_of_length_le (by omega)]; simp
theorem sG (fs : FSt) (la : List UInt8) (a : Int) (d : Bool) (most : Int) (sg : List Int) (sz : Int) {s : St} (h : gd s) (D : Bool) (b : BaT) (hi : okN b.2.2.2.2.1) (hl : b.2.2.2.2.2.2.length < 2 ^ 30) (hd : ∀ e, e ∈ b.2.2.2.2.2.2 → e.2.2.2.length < 2 ^ 40) {k : Nat} (hk : b.2.2.2.2.2.2.length < k) :
  ct.f k fs la a d most sg sz s.1 s.2.1 s.2.2.1 s.2.2.2.1 s.2.2.2.2.1 s.2.2.2.2.2 D b.1 b.2.1 b.2.2.1 b.2.2.2.1 b.2.2.2.2.1 b.2.2.2.2.2.1 b.2.2.2.2.2.2 = some (gi s b) := by
 unfold ct.f gi
 have h1 : ((if b.1 = true then (some ((!decide (b.2.1 = s.1)) || (!decide (b.2.2.1 = s.2.1)))) else (some false)).bind fun G => (if G = true then (if ([((1 : Int), (0 : Int), b.2.1, b.2.2.1, s.2.2.1, (0 : Int), (0 : Int), (0 : Int), (0 : Int), (0 : Int), ([] : List UInt8))] : List dQ).length * 104 ≤ 140737488355328 then (some ([((1 : Int), (0 : Int), b.2.1, b.2.2.1, s.2.2.1, (0 : Int), (0 : Int), (0 : Int), (0 : Int), (0 : Int), ([] : List UInt8))] : List dQ)) else none) else (some ([] : List dQ)))) = some (if b.1 = true ∧ (b.2.1 ≠ s.1 ∨ b.2.2.1 ≠ s.2.1) then [(1, 0, b.2.1, b.2.2.1, s.2.2.1, 0, 0, 0, 0, 0, [])] else []) := by
  rw [if_pos (c := ([((1 : Int), (0 : Int), b.2.1, b.2.2.1, s.2.2.1, (0 : Int), (0 : Int), (0 : Int), (0 : Int), (0 : Int), ([] : List UInt8))] : List dQ).length * 104 ≤ 140737488355328) (by simp)]
  cases hb : b.1 with
  | false => simp
  | true => by_cases x : b.2.1 = s.1 <;> by_cases y : b.2.2.1 = s.2.1 <;> simp [x, y]
 rw [h1, Option.bind_some]
 obtain ⟨q, J⟩ : ∃ r : List dQ, (if b.1 = true ∧ (b.2.1 ≠ s.1 ∨ b.2.2.1 ≠ s.2.1) then [(1, 0, b.2.1, b.2.2.1, s.2.2.1, 0, 0, 0, 0, 0, [])] else []) = r := ⟨_, rfl⟩
 have l1 : q.length ≤ 1 := by rw [← J]; split <;> simp
 rw [J]
 have h2 : ((if ((!decide (b.2.2.2.2.1 = (0 : Int))) == true) = true then (cV.f fs la a d most sg sz s.1 s.2.1 s.2.2.1 s.2.2.2.1 s.2.2.2.2.1 s.2.2.2.2.2 D b.2.2.2.2.1 b.2.2.2.2.2.1) else some false).bind fun u => (if ((!decide (b.2.2.2.2.1 = (0 : Int))) && (!u)) = true then (if (q.length + ([((3 : Int), (0 : Int), (0 : Int), (0 : Int), (0 : Int), b.2.2.2.2.1, b.2.2.2.2.2.1, (0 : Int), (0 : Int), (0 : Int), ([] : List UInt8))] : List dQ).length) * 104 ≤ 140737488355328 then (some (q ++ ([((3 : Int), (0 : Int), (0 : Int), (0 : Int), (0 : Int), b.2.2.2.2.1, b.2.2.2.2.2.1, (0 : Int), (0 : Int), (0 : Int), ([] : List UInt8))] : List dQ))) else none) else (some q))) = some (q ++ (if gY s b = true then [(3, 0, 0, 0, 0, b.2.2.2.2.1, b.2.2.2.2.2.1, 0, 0, 0, [])] else [])) := by
  rw [if_pos (c := (q.length + ([((3 : Int), (0 : Int), (0 : Int), (0 : Int), (0 : Int), b.2.2.2.2.1, b.2.2.2.2.2.1, (0 : Int), (0 : Int), (0 : Int), ([] : List UInt8))] : List dQ).length) * 104 ≤ 140737488355328) (by simp only [List.length_cons, List.length_nil]; omega), qU fs la a d most sg sz h D hi]
  unfold gY
  by_cases x : b.2.2.2.2.1 = 0
  ·simp [x]
  ·cases ma s b.2.2.2.2.1 b.2.2.2.2.2.1 <;> simp [x]
 rw [h2, Option.bind_some]
 obtain ⟨I, L⟩ : ∃ r : List dQ, (if gY s b = true then [(3, 0, 0, 0, 0, b.2.2.2.2.1, b.2.2.2.2.2.1, 0, 0, 0, [])] else []) = r := ⟨_, rfl⟩
 have l2 : I.length ≤ 1 := by rw [← L]; split <;> simp
 rw [L]
 have U := mZ b.2.2.2.2.2.2 hl hd k 0 (q ++ I) (by omega) (by omega) (by simp; omega)
 rw [List.drop_zero, show ((0 : Nat) : Int) = (0 : Int) from rfl] at U
 rw [U, Option.bind_some]
 have af : (q ++ I ++ b.2.2.2.2.2.2.map ip).length < 2 ^ 31 := by simp; omega
 have X : ((b.1 && (!decide (b.2.2.2.1 = s.2.2.1))) = true) ↔ (b.1 = true ∧ b.2.2.2.1 ≠ s.2.2.1) := by simp
 by_cases x : b.1 = true ∧ b.2.2.2.1 ≠ s.2.2.1
 ·rw [if_pos (X.2 x), if_pos x, if_pos (by simp only [List.length_cons, List.length_nil]; omega)]
  rfl
 ·rw [if_neg (fun y => x (X.1 y)), if_neg x, List.append_nil]
  rfl
theorem lz : ∀ {l : List EnT}, eB l = 0 → ∀ e, e ∈ l → jl e.1 e.2.1 e.2.2.1 e.2.2.2 = 0
 | [], _, e, he => by cases he
 | x :: l, h, e, he => by
  rw [eB] at h
  split at h
  ·rename_i q
   rcases List.mem_cons.1 he with rfl | he
   ·exact q
   ·exact lz h e he
  ·rename_i q
   exact absurd h q
theorem ib : okN 0 := ⟨by decide, by decide⟩
theorem pT {s : St} {b : BaT} (h : ic s b = 0) : (b.1 = true → jD b.2.1 b.2.2.1 b.2.2.2.1 = 0) ∧ ¬ jX b ∧ eB b.2.2.2.2.2.2 = 0 ∧ mb (if gY s b = true then b.2.2.2.2.1 else (dJ s).1) b.2.2.2.2.2.2 = 0 := by
 unfold ic at h
 split at h
 ·rename_i g; exact absurd h g.2
 rename_i g
 split at h
 ·omega
 rename_i r
 split at h
 ·rename_i q; exact absurd h q
 rename_i q
 exact ⟨fun x => Decidable.not_not.1 fun y => g ⟨x, y⟩, r, Decidable.not_not.1 q, h⟩
theorem qI {b : BaT} (h : ¬ jX b) : okN b.2.2.2.2.1 ∧ okN b.2.2.2.2.2.1 := by
 unfold jX at h
 exact ⟨⟨by omega, by omega⟩, ⟨by omega, by omega⟩⟩
theorem qJ {s : St} (G : gd s) {b : BaT} (h : ic s b = 0) : ∀ r, r ∈ gi s b → OkR r ∧ r.1 ≠ 0 := by
 obtain ⟨h1, I, J, _⟩ := pT h
 have D := qI I
 intro r q
 unfold gi at q
 rcases List.mem_append.1 q with q | q
 ·rcases List.mem_append.1 q with q | q
  ·rcases List.mem_append.1 q with q | q
   ·split at q
    ·rename_i g
     have u := oM (h1 g.1)
     rw [List.mem_singleton.1 q]
     exact ⟨⟨⟨by simp [ip], by simp [ip]⟩, ib, u.1, u.2.1, G.c, ib, ib, fun e => absurd e (by simp)⟩, by simp⟩
    ·cases q
   ·split at q
    ·rw [List.mem_singleton.1 q]
     exact ⟨⟨⟨by simp [ip], by simp [ip]⟩, ib, ib, ib, ib, D.1, D.2, fun e => absurd e (by simp)⟩, by simp⟩
    ·cases q
  ·obtain ⟨e, L, rfl⟩ := List.mem_map.1 q
   exact ⟨⟨⟨by simp [ip], by simp [ip]⟩, ib, ib, ib, ib, ib, ib, fun _ => lz J e L⟩, by simp [ip]⟩
 ·split at q
  ·rename_i g
   have u := oM (h1 g.1)
   rw [List.mem_singleton.1 q]
   exact ⟨⟨⟨by simp [ip], by simp [ip]⟩, ib, u.1, u.2.1, u.2.2, ib, ib, fun e => absurd e (by simp)⟩, by simp⟩
  ·cases q
/-! ### Their bytes -/
def eQ : List dQ → List UInt8
 | [] => []
 | r :: l => frB (ft r) ++ eQ l
def eu (l : List dQ) : Nat := (l.map fun r => r.2.2.2.2.2.2.2.2.2.2.length + 128).sum
theorem kc : ∀ l : List dQ, (eQ l).length ≤ eu l
 | [] => by simp [eQ, eu]
 | r :: l => by
  have q := kc l
  have h1 := ks r
  have u := nj (ft r)
  simp only [eQ, eu, List.map_cons, List.sum_cons, List.length_append] at q ⊢
  omega
theorem od (l : List dQ) (D : l.length < 2 ^ 40) (G : eu l < 2 ^ 40) (u : ∀ r, r ∈ l → OkR r) : ∀ (k i : Nat) (acc : List UInt8), l.length - i + 10000 < k → i ≤ l.length → acc.length + eu (l.drop i) < 2 ^ 41 → bw.l0 l k acc (i : Int) = some (acc ++ eQ (l.drop i))
 | 0, i, acc, h, _, _ => by omega
 | k + 1, i, acc, h, hi, ha => by
  rw [bw.l0]
  by_cases hlt : i < l.length
  ·have I : l.getD i aO ∈ l := by rw [fR hlt]; exact List.getElem_mem _
   have q := fD l aO hlt
   have h1 := ks (l.getD i aO)
   have L := nj (ft (l.getD i aO))
   have J : eu (l.drop i) = (l.getD i aO).2.2.2.2.2.2.2.2.2.2.length + 128 + eu (l.drop (i + 1)) := by rw [q]; simp [eu]
   rw [if_pos (by omega), if_pos (by omega), Int.toNat_natCast, qj (u _ I) (by omega), Option.bind_some, if_pos (by omega), ws1 (by omega), od l D G u k (i + 1) _ (by omega) (by omega) (by rw [List.length_append]; omega), q, eQ, List.append_assoc]
  ·rw [if_neg (by omega), List.drop_of_length_le (by omega), eQ, List.append_nil]
/-! ### A segment that is begun -/
theorem lN (l : List UInt8) : ¬ (eU l 0 false).1 = true := Bool.false_ne_true
theorem iJ {fs : FSt} {x : List UInt8} {v : List UInt8 × Int} (h : aR fs x = some v) : cc fs x = v := by unfold cc; rw [h]; rfl
theorem pU {fs : FSt} {l x : List UInt8} (q : nmB x = true) (r : aR fs x = none) (u : fs.length < 256) : jB fs l 0 false x = (0, aX fs x ([], 0), l, 0, false) := by
 unfold jB
 rw [if_neg Bool.false_ne_true, if_neg (by rw [q]; decide), if_neg (by rw [r]; decide), if_neg (by omega), if_neg (lN _)]
 rfl
theorem mq {fs : FSt} {l x b : List UInt8} {v : List UInt8 × Int} (q : aR fs x = some v) (r : szF fs + b.length ≤ 16777216) : jC fs l 0 false x b = (0, aX fs x (v.1 ++ b, v.2), x, 0, false) := by
 unfold jC
 rw [iJ q, if_pos (by rw [q]; rfl), if_neg Bool.false_ne_true, if_neg (by omega), if_neg (lN _)]
 rfl
theorem km {fs : FSt} {l x : List UInt8} {v : List UInt8 × Int} (q : aR fs x = some v) : jQ fs l 0 false x = (0, aX fs x (v.1, (v.1.length : Int)), l, 0, false) := by
 unfold jQ
 rw [iJ q, if_pos (by rw [q]; rfl), if_neg Bool.false_ne_true, if_neg (lN _)]
 rfl
theorem pe {fs : FSt} {l x : List UInt8} (q : (aR fs x).isSome = true) : iu fs l 0 false x = (0, dy fs x, (if l = x then [] else l), 0, false) := by
 unfold iu
 rw [if_neg Bool.false_ne_true, if_neg (by rw [q]; decide), if_neg (lN _)]
 rfl
theorem oe (n : Nat) : nmB (aY n) = true := by
 have hd : ∀ c, dg c → lx c = false := fun c q => by
  have := vi (p := fun c => !(decide (48 ≤ c.toNat) && decide (c.toNat ≤ 57)) || !lx c) (by decide +kernel) c
  simp only [decide_eq_true q.1, decide_eq_true q.2, Bool.and_self, Bool.not_true, Bool.false_or, Bool.not_eq_true'] at this
  exact this
 unfold nmB
 rw [Bool.and_eq_true, List.all_eq_true]
 constructor
 ·intro c q
  rcases List.mem_append.1 q with q | q
  ·have : (pA.all fun c => !lx c) = true := by decide +kernel
   exact List.all_eq_true.1 this c q
  ·rw [hd c (pD 8 n c q)]; rfl
 ·rw [jS]; rfl
def fi (n : Nat) (s : St) : dQ := (0, (n : Int), s.1, s.2.1, s.2.2.1, (dJ s).1, (dJ s).2, 0, 0, 0, [])
theorem oh {s : St} (h : gd s) : okN (dJ s).1 ∧ okN (dJ s).2 := by
 have h1 := lb h
 have r := kg h
 have q := h.b
 unfold okN at q ⊢
 refine ⟨by omega, ?_⟩
 unfold dJ
 split
 ·have := (gJ (h.chk _ (kt (i := s.2.2.2.2.2.length - 1) (by omega)))).1
  have a := this.1
  have b := this.2
  simp only
  omega
 ·exact h.bt
theorem tA {n : Nat} (q : n ≤ 99999999) {s : St} (h : gd s) : OkR (fi n s) := ⟨⟨by simp [fi], by simp [fi]⟩, ⟨by show 0 ≤ (n : Int); omega, by show (n : Int) ≤ _; omega⟩, h.t, h.v, h.c, (oh h).1, (oh h).2, fun e => absurd e (by simp [fi])⟩
def iK (fs : FSt) (n : Nat) (b : List UInt8) : FSt := aX (aX (aX fs (aY n) ([], 0)) (aY n) ([] ++ b, 0)) (aY n) ([] ++ b, ((([] ++ b : List UInt8)).length : Int))
theorem kS (fs : FSt) (n : Nat) (b x : List UInt8) : aR (iK fs n b) x = if x = aY n then some (b, (b.length : Int)) else aR fs x := by
 unfold iK
 rw [eH, eH, eH]
 by_cases h : x = aY n
 ·rw [if_pos h.symm, if_pos h]; rfl
 ·rw [if_neg (fun e => h e.symm), if_neg (fun e => h e.symm), if_neg (fun e => h e.symm), if_neg h]
theorem iO {n k : Nat} (q : 1 ≤ n) (h1 : n ≤ 99999999) (r : 10 ≤ k) : cw.f k (n : Int) = some (aY n) := by
 unfold cw.f
 rw [uk q h1 r, Option.bind_some]
 simp only []
 rw [ix, Option.bind_some]
theorem lO {fs : FSt} (hi : fv 256 fs) (U : fs.length < 256) (hz : szF fs + 200 ≤ 16777216) {la : List UInt8} {most : Int} {sg : List Int} (al : sg.length < 2 ^ 40) {sz : Int} {s : St} (hs : gd s) (a1 : s.2.2.2.2.2.length < 2 ^ 30) {n : Nat} (X : 1 ≤ n) (h1 : n ≤ 99999999) (D : aR fs (aY n) = none) {k : Nat} (hk : 20000 ≤ k) :
  du.f k fs la 0 false most sg sz s.1 s.2.1 s.2.2.1 s.2.2.2.1 s.2.2.2.2.1 s.2.2.2.2.2 false (n : Int) = some (iK fs n (frB (ft (fi n s))), aY n, 0, false, most, sg ++ [(n : Int)], ((frB (ft (fi n s))).length : Int), s.1, s.2.1, s.2.2.1, s.2.2.2.1, s.2.2.2.2.1, s.2.2.2.2.2, false) ∧
   fv 256 (iK fs n (frB (ft (fi n s)))) ∧ (iK fs n (frB (ft (fi n s)))).length = fs.length + 1 ∧ szF (iK fs n (frB (ft (fi n s)))) ≤ szF fs + (frB (ft (fi n s))).length ∧ (frB (ft (fi n s))).length ≤ 128 := by
 have hr := tA h1 hs
 have a7 := ks (fi n s)
 have G := nj (ft (fi n s))
 have a8 : (fi n s).2.2.2.2.2.2.2.2.2.2.length = 0 := rfl
 have q := qj hr (k := k) (by omega)
 obtain ⟨b, eb⟩ : ∃ b, frB (ft (fi n s)) = b := ⟨_, rfl⟩
 rw [eb] at q G ⊢
 have I := rF hi la 0 false (aY n)
 rw [pU (oe n) D U] at I
 have J : aR (aX fs (aY n) ([], 0)) (aY n) = some ([], 0) := by rw [eH, if_pos rfl]
 have z1 := fk (aY n) (([], 0) : List UInt8 × Int) fs
 rw [sA (by rw [D]; rfl)] at z1
 have l1 := gK fs (aY n) (([], 0) : List UInt8 × Int)
 rw [D] at l1
 simp only [Option.isSome_none, Bool.false_eq_true, if_false, List.length_nil, Nat.add_zero] at l1 z1
 have i2 := mW I la 0 false (aY n) b
 have ha := mq (l := la) (b := b) J (by omega)
 simp only at i2
 rw [ha] at i2
 have L : aR (aX (aX fs (aY n) ([], 0)) (aY n) ([] ++ b, 0)) (aY n) = some ([] ++ b, 0) := by rw [eH, if_pos rfl]
 have z2 := fk (aY n) (([] ++ b, 0) : List UInt8 × Int) (aX fs (aY n) ([], 0))
 rw [iJ J] at z2
 have l2 := gK (aX fs (aY n) ([], 0)) (aY n) (([] ++ b, 0) : List UInt8 × Int)
 rw [J] at l2
 simp only [Option.isSome_some, if_true, List.length_nil, Nat.add_zero] at l2 z2
 have i3 := kC i2 (aY n) 0 false (aY n)
 have r := km (l := aY n) L
 simp only at i3
 rw [r] at i3
 have z3 := fk (aY n) (([] ++ b, ((([] ++ b : List UInt8)).length : Int)) : List UInt8 × Int) (aX (aX fs (aY n) ([], 0)) (aY n) ([] ++ b, 0))
 rw [iJ L] at z3
 have l3 := gK (aX (aX fs (aY n) ([], 0)) (aY n) ([] ++ b, 0)) (aY n) (([] ++ b, ((([] ++ b : List UInt8)).length : Int)) : List UInt8 × Int)
 rw [L] at l3
 simp only [Option.isSome_some, if_true] at l3
 refine ⟨?_, i3, ?_, ?_, by omega⟩
 ·unfold du.f
  rw [iO X h1 (by omega), Option.bind_some, sE _ _ _ _ _ (by rw [jS]; omega) (by rw [jS]; omega), pU (oe n) D U, Option.bind_some]
  simp only []
  rw [ix, Option.bind_some]
  unfold eS.f
  rw [mE _ _ _ _ _ _ _ s _ (by omega), Option.bind_some]
  have u : dx.f k (0 : Int) (n : Int) s.1 s.2.1 s.2.2.1 (dJ s).1 (dJ s).2 (0 : Int) (0 : Int) (0 : Int) ([] : List UInt8) = some b := q
  rw [u, Option.bind_some, iO X h1 (by omega), Option.bind_some, oc I _ _ _ _ _ (by omega), ha, Option.bind_some]
  simp only []
  rw [ix, Option.bind_some, Option.bind_some, nh, r, Option.bind_some]
  simp only []
  rw [ix, Option.bind_some, if_pos (by simp only [List.length_cons, List.length_nil]; omega), Option.bind_some]
  rfl
 ·unfold iK; omega
 ·unfold iK; simp only [List.nil_append] at z2 z3 ⊢; omega
end Go.Proofs.YtndjkejhacfpdaaGreatDoor

namespace Go.Proofs.YtndjkejhacfpdaaGreatDoor
open Go.RowKit
def dn (s0 m : Nat) : List Int := (List.range' s0 (m + 1)).map fun n : Nat => (n : Int)
theorem fj (s0 m : Nat) : (dn s0 m).length = m + 1 := by simp [dn]
theorem me {s0 m i : Nat} (h : i ≤ m) : (dn s0 m).getD i 0 = ((s0 + i : Nat) : Int) := by
 unfold dn
 rw [List.getD_eq_getElem?_getD, List.getElem?_map, List.getElem?_range' (by omega)]
 simp
theorem sH (s0 m : Nat) : dn s0 m ++ [((s0 + m + 1 : Nat) : Int)] = dn s0 (m + 1) := by
 unfold dn
 rw [List.range'_1_concat (n := m + 1), List.map_append]
 simp [Nat.add_assoc]
theorem rZ (s0 m : Nat) : dn s0 (m + 1) = (s0 : Int) :: dn (s0 + 1) m := by
 unfold dn
 rw [List.range'_succ, List.map_cons]
theorem jP (s0 m : Nat) (h : m < 2 ^ 40) : (dn s0 m).getD (IntKind.i64.wrap (((dn s0 m).length : Int) - 1)).toNat 0 = ((s0 + m : Nat) : Int) := by
 have e : ((dn s0 m).length : Int) - 1 = (m : Int) := by rw [fj]; omega
 rw [e, w64 (by omega) (by omega), Int.toNat_natCast, me (Nat.le_refl _)]
structure Wl where
 fs : FSt
 la : List UInt8
 most : Int
 s0 : Nat
 m : Nat
 size : Nat
 st : St
def Wl.last (w : Wl) : Nat := w.s0 + w.m
abbrev WT := FSt × List UInt8 × Int × Bool × Int × List Int × Int × Int × Int × Int × Int × Int × List HeT × Bool
def Wl.tp (w : Wl) : WT := (w.fs, w.la, 0, false, w.most, dn w.s0 w.m, (w.size : Int), w.st.1, w.st.2.1, w.st.2.2.1, w.st.2.2.2.1, w.st.2.2.2.2.1, w.st.2.2.2.2.2, false)
structure WOk (T N Z L : Nat) (w : Wl) : Prop where
 inv : fv 256 w.fs
 num : w.fs.length ≤ N
 siz : szF w.fs ≤ Z
 s1 : 1 ≤ w.s0
 top : w.s0 + w.m ≤ T
 has : ∀ n, w.s0 ≤ n → n ≤ w.s0 + w.m → (aR w.fs (aY n)).isSome = true
 non : ∀ n, w.s0 + w.m < n → n ≤ 99999999 → aR w.fs (aY n) = none
 st : gd w.st
 len : w.st.2.2.2.2.2.length ≤ L
 sz : w.size ≤ Z
theorem gr {m n : Nat} (q : m ≤ 99999999) (r : n ≤ 99999999) (h : aY m = aY n) : m = n := by rw [← mm q, h, mm r]
def iZ (s : St) (rs : List dQ) (sg : Int) : St := rs.foldl (fun s r => gx s r sg) s
theorem mr {sg : Int} : ∀ {rs : List dQ} {s : St}, gd s → (∀ r, r ∈ rs → OkR r ∧ r.1 ≠ 0) → gd (iZ s rs sg)
 | [], s, h, _ => h
 | r :: rs, s, h, hr => mr (rs := rs) (nB h (hr r (by simp)).1 (hr r (by simp)).2 sg) fun x q => hr x (by simp [q])
theorem oi {sg : Int} : ∀ (rs : List dQ) (s : St), (iZ s rs sg).2.2.2.2.2.length ≤ s.2.2.2.2.2.length + rs.length
 | [], s => Nat.le_refl _
 | r :: rs, s => by
  have h1 := oi rs (gx s r sg) (sg := sg)
  have q := oL s r sg
  show (iZ (gx s r sg) rs sg).2.2.2.2.2.length ≤ _
  rw [List.length_cons]
  omega
theorem qK (p : WT) (q : FSt × List UInt8 × Int × Bool) (rs : List dQ) (J : rs.length < 2 ^ 29) (I : ∀ r, r ∈ rs → OkR r ∧ r.1 ≠ 0) {sg : Int} (D : p.2.2.2.2.2.1.getD (IntKind.i64.wrap ((p.2.2.2.2.2.1.length : Int) - 1)).toNat 0 = sg) (most : Int) (u : List Int) (sz : Int) : ∀ (k i : Nat) (s : St), rs.length - i < k → i ≤ rs.length → gd s → s.2.2.2.2.2.length + (rs.length - i) < 2 ^ 30 →
  bw.l1 p rs q k (i : Int) most u sz s.1 s.2.1 s.2.2.1 s.2.2.2.1 s.2.2.2.2.1 s.2.2.2.2.2 false = some (q.1, q.2.1, q.2.2.1, q.2.2.2, most, u, sz, (iZ s (rs.drop i) sg).1, (iZ s (rs.drop i) sg).2.1, (iZ s (rs.drop i) sg).2.2.1, (iZ s (rs.drop i) sg).2.2.2.1, (iZ s (rs.drop i) sg).2.2.2.2.1, (iZ s (rs.drop i) sg).2.2.2.2.2, false)
 | 0, i, s, h, _, _, _ => by omega
 | k + 1, i, s, h, hi, hs, hl => by
  rw [bw.l1]
  by_cases hlt : i < rs.length
  ·have L : rs.getD i aO ∈ rs := by rw [fR hlt]; exact List.getElem_mem _
   have G := I _ L
   obtain ⟨c, U⟩ := uM q.1 q.2.1 q.2.2.1 q.2.2.2 most u sz hs (by omega) G.1 G.2 sg
   have X := oL s (rs.getD i aO) sg
   rw [if_pos (by omega), if_pos (by omega), Int.toNat_natCast, D, U, Option.bind_some, ws1 (by omega)]
   simp only []
   rw [qK p q rs J I D most u sz k (i + 1) (gx s (rs.getD i aO) sg) (by omega) (by omega) (nB hs G.1 G.2 sg) (by omega), fD rs aO hlt]
   rfl
  ·rw [if_neg (by omega), List.drop_of_length_le (by omega)]
   rfl
def ja (w : Wl) : Wl :=
 if w.most ≤ (w.size : Int) then { w with fs := iK (aX w.fs (aY w.last) ((cc w.fs (aY w.last)).1, ((cc w.fs (aY w.last)).1.length : Int))) (w.last + 1) (frB (ft (fi (w.last + 1) w.st))), la := aY (w.last + 1), m := w.m + 1, size := (frB (ft (fi (w.last + 1) w.st))).length }
 else w
def kT (w : Wl) (rs : List dQ) : Wl :=
 { w with fs := if 0 < rs.length then aX w.fs (aY w.last) ((cc w.fs (aY w.last)).1 ++ eQ rs, (cc w.fs (aY w.last)).2) else w.fs, la := if 0 < rs.length then aY w.last else w.la, size := w.size + (eQ rs).length, st := iZ w.st rs (w.last : Int) }
def kU (w : Wl) (b : BaT) : Wl := kT (ja w) (gi (ja w).st b)
theorem kk {fs : FSt} {x : List UInt8} (h : (aR fs x).isSome = true) : aR fs x = some (cc fs x) := by
 obtain ⟨v, q⟩ := Option.isSome_iff_exists.1 h
 rw [q, iJ q]
theorem qL (w : Wl) : (ja w).st = w.st := by unfold ja; split <;> rfl
theorem qM {T N Z L : Nat} {w : Wl} (h : WOk T N Z L w) (hT : T < 99999999) (hN : N < 256) (hZ : Z + 200 ≤ 16777216) (hL : L < 2 ^ 30) : WOk (T + 1) (N + 1) (Z + 128) L (ja w) := by
 have D := h.num
 have G := h.siz
 have I := h.top
 have J := kk (h.has w.last (by unfold Wl.last; omega) (Nat.le_refl _))
 unfold ja
 by_cases hc : w.most ≤ (w.size : Int)
 ·rw [if_pos hc]
  have r := kC h.inv w.la 0 false (aY w.last)
  rw [km J] at r
  have U := fk (aY w.last) ((cc w.fs (aY w.last)).1, ((cc w.fs (aY w.last)).1.length : Int)) w.fs
  have l1 := gg (v := ((cc w.fs (aY w.last)).1, ((cc w.fs (aY w.last)).1.length : Int))) (h.has w.last (by unfold Wl.last; omega) (Nat.le_refl _))
  have u : ∀ n, w.s0 + w.m < n → n ≤ 99999999 → aR (aX w.fs (aY w.last) ((cc w.fs (aY w.last)).1, ((cc w.fs (aY w.last)).1.length : Int))) (aY n) = none := fun n h1 q => by
   rw [eH, if_neg (fun e => by have := gr (by unfold Wl.last; omega) q e; unfold Wl.last at this; omega), h.non n h1 q]
  simp only at r U
  obtain ⟨_, X, b3, b4, b5⟩ := lO (la := w.la) (most := w.most) (sg := []) (sz := 0) (k := 20000) r (by omega) (by omega) (by simp) h.st (by have := h.len; have := kg h.st; have := h.st.b; omega) (n := w.last + 1) (by omega) (by unfold Wl.last; omega) (u _ (by unfold Wl.last; omega) (by unfold Wl.last; omega)) (Nat.le_refl _)
  refine ⟨X, by simp only; omega, by simp only; omega, h.s1, by simp only; omega, fun n h1 q => ?_, fun n h1 q => ?_, h.st, h.len, by simp only; omega⟩
  ·simp only at h1 q ⊢
   rw [kS]
   split
   ·rfl
   ·rw [eH]
    split
    ·rfl
    ·rename_i g1 g2
     refine h.has n h1 ?_
     by_cases e : n = w.last + 1
     ·exact absurd (congrArg aY e) g1
     ·unfold Wl.last at e; omega
  ·simp only at h1 q ⊢
   rw [kS, if_neg (fun e => by have := gr q (by unfold Wl.last; omega) e; unfold Wl.last at this; omega), u n (by omega) q]
 ·rw [if_neg hc]
  exact ⟨h.inv, by omega, by omega, h.s1, by omega, h.has, h.non, h.st, h.len, by have := h.sz; omega⟩
theorem vt {T N Z L : Nat} {w : Wl} (h : WOk T N Z L w) (hT : T ≤ 99999999) {rs : List dQ} (u : ∀ r, r ∈ rs → OkR r ∧ r.1 ≠ 0) (hZ : Z + eu rs ≤ 16777216) : WOk T N (Z + eu rs) (L + rs.length) (kT w rs) := by
 have I := kk (h.has w.last (by unfold Wl.last; omega) (Nat.le_refl _))
 have J := kc rs
 have U := h.siz
 have X := h.sz
 have ab := oi (sg := (w.last : Int)) rs w.st
 have ad := h.len
 unfold kT
 by_cases hc : 0 < rs.length
 ·simp only [if_pos hc]
  have D := mW h.inv w.la 0 false (aY w.last) (eQ rs)
  rw [mq I (by omega)] at D
  have z1 := fk (aY w.last) ((cc w.fs (aY w.last)).1 ++ eQ rs, (cc w.fs (aY w.last)).2) w.fs
  have l1 := gg (v := ((cc w.fs (aY w.last)).1 ++ eQ rs, (cc w.fs (aY w.last)).2)) (h.has w.last (by unfold Wl.last; omega) (Nat.le_refl _))
  simp only [List.length_append] at z1
  have G := h.num
  refine ⟨D, by simp only; omega, by simp only; omega, h.s1, h.top, fun n h1 q => ?_, fun n h1 q => ?_, mr h.st u, by simp only; omega, by simp only; omega⟩
  ·simp only at h1 q ⊢
   rw [eH]
   split
   ·rfl
   ·exact h.has n h1 q
  ·simp only at h1 q ⊢
   have al := h.top
   rw [eH, if_neg (fun e => by have := gr (by unfold Wl.last; omega) q e; unfold Wl.last at this; omega)]
   exact h.non n h1 q
 ·simp only [if_neg hc]
  exact ⟨h.inv, h.num, by simp only; omega, h.s1, h.top, h.has, h.non, mr h.st u, by simp only; omega, by simp only; omega⟩
theorem sI {T N Z L : Nat} {w : Wl} (h : WOk T N Z L w) (hT : T < 99999990) (hN : N < 256) {b : BaT} (hc : ic w.st b = 0) (hZ : Z + 200 + eu (gi w.st b) ≤ 16777216) (hL : L + (gi w.st b).length < 2 ^ 29) (hb : b.2.2.2.2.2.2.length < 2 ^ 28) (hd : ∀ e, e ∈ b.2.2.2.2.2.2 → e.2.2.2.length < 2 ^ 40) (hm : w.m < 2 ^ 30) {k : Nat} (hk : 30000 + b.2.2.2.2.2.2.length + (gi w.st b).length ≤ k) :
  bw.f k w.tp.1 w.tp.2.1 w.tp.2.2.1 w.tp.2.2.2.1 w.tp.2.2.2.2.1 w.tp.2.2.2.2.2.1 w.tp.2.2.2.2.2.2.1 w.tp.2.2.2.2.2.2.2.1 w.tp.2.2.2.2.2.2.2.2.1 w.tp.2.2.2.2.2.2.2.2.2.1 w.tp.2.2.2.2.2.2.2.2.2.2.1 w.tp.2.2.2.2.2.2.2.2.2.2.2.1 w.tp.2.2.2.2.2.2.2.2.2.2.2.2.1 w.tp.2.2.2.2.2.2.2.2.2.2.2.2.2 b.1 b.2.1 b.2.2.1 b.2.2.2.1 b.2.2.2.2.1 b.2.2.2.2.2.1 b.2.2.2.2.2.2 = some (kU w b).tp := by
 have b2 := h.num
 have b3 := h.siz
 have b4 := h.top
 have hs := kk (h.has w.last (by unfold Wl.last; omega) (Nat.le_refl _))
 have u := qM h (by omega) hN (by omega) (by omega)
 have G := qJ h.st hc
 have al := (qI (pT hc).2.1).1
 have bc := h.len
 -- the segment
 have e1 : ((if w.most ≤ (w.size : Int) then (if 0 ≤ IntKind.i64.wrap (((dn w.s0 w.m).length : Int) - 1) ∧ IntKind.i64.wrap (((dn w.s0 w.m).length : Int) - 1) < ((dn w.s0 w.m).length : Int) then ((cw.f k ((dn w.s0 w.m).getD (IntKind.i64.wrap (((dn w.s0 w.m).length : Int) - 1)).toNat (0 : Int))).bind fun U => ((cJ.f w.fs w.la 0 false U).bind fun D => ((bA.f D.1).bind fun be => ((du.f k D.2.1 D.2.2.1 D.2.2.2.1 D.2.2.2.2 w.most (dn w.s0 w.m) (w.size : Int) w.st.1 w.st.2.1 w.st.2.2.1 w.st.2.2.2.1 w.st.2.2.2.2.1 w.st.2.2.2.2.2 false (IntKind.i64.wrap (((dn w.s0 w.m).getD (IntKind.i64.wrap (((dn w.s0 w.m).length : Int) - 1)).toNat (0 : Int)) + 1))).bind fun q => (some (q.1, q.2.1, q.2.2.1, q.2.2.2.1, q.2.2.2.2.1, q.2.2.2.2.2.1, q.2.2.2.2.2.2.1, q.2.2.2.2.2.2.2.1, q.2.2.2.2.2.2.2.2.1, q.2.2.2.2.2.2.2.2.2.1, q.2.2.2.2.2.2.2.2.2.2.1, q.2.2.2.2.2.2.2.2.2.2.2.1, q.2.2.2.2.2.2.2.2.2.2.2.2.1, q.2.2.2.2.2.2.2.2.2.2.2.2.2)))))) else none) else (some (w.fs, w.la, 0, false, w.most, dn w.s0 w.m, (w.size : Int), w.st.1, w.st.2.1, w.st.2.2.1, w.st.2.2.2.1, w.st.2.2.2.2.1, w.st.2.2.2.2.2, false))) : Option WT) = some (ja w).tp := by
  unfold ja
  by_cases hcm : w.most ≤ (w.size : Int)
  ·have i1 := kC h.inv w.la 0 false (aY w.last)
   rw [km hs] at i1
   have z1 := fk (aY w.last) ((cc w.fs (aY w.last)).1, ((cc w.fs (aY w.last)).1.length : Int)) w.fs
   have l1 := gg (v := ((cc w.fs (aY w.last)).1, ((cc w.fs (aY w.last)).1.length : Int))) (h.has w.last (by unfold Wl.last; omega) (Nat.le_refl _))
   simp only at i1 z1
   obtain ⟨b1, _⟩ := lO (la := w.la) (most := w.most) (sg := dn w.s0 w.m) (sz := (w.size : Int)) (k := k) i1 (by omega) (by omega) (by rw [fj]; omega) h.st (by omega) (n := w.last + 1) (by omega) (by unfold Wl.last; omega) (by
    rw [eH, if_neg (fun e => by have := gr (by unfold Wl.last; omega) (by unfold Wl.last; omega) e; omega)]
    exact h.non _ (by unfold Wl.last; omega) (by unfold Wl.last; omega)) (by omega)
   have J : IntKind.i64.wrap (((dn w.s0 w.m).length : Int) - 1) = (w.m : Int) := by rw [fj, w64 (by omega) (by omega)]; omega
   rw [if_pos hcm, if_pos hcm, jP _ _ (by omega), J, if_pos (by rw [fj]; omega), show ((w.s0 + w.m : Nat) : Int) = (w.last : Int) from rfl, iO (by have := h.s1; unfold Wl.last; omega) (by unfold Wl.last; omega) (by omega), Option.bind_some, nh, km hs, Option.bind_some]
   simp only []
   rw [ix, Option.bind_some, ws1 (by unfold Wl.last; omega), b1, Option.bind_some]
   unfold Wl.tp
   simp only []
   rw [show (w.last + 1 : Nat) = w.s0 + w.m + 1 from rfl, sH]
  ·rw [if_neg hcm, if_neg hcm]; rfl
 unfold bw.f
 show Option.bind (if w.most ≤ (w.size : Int) then _ else _) _ = _
 rw [show Wl.tp w = (w.fs, w.la, 0, false, w.most, dn w.s0 w.m, (w.size : Int), w.st.1, w.st.2.1, w.st.2.2.1, w.st.2.2.2.1, w.st.2.2.2.2.1, w.st.2.2.2.2.2, false) from rfl]
 simp only []
 rw [e1, Option.bind_some]
 have I := qL w
 unfold kU
 rw [I]
 obtain ⟨v, ev⟩ : ∃ v, ja w = v := ⟨_, rfl⟩
 rw [ev] at u I ⊢
 have b8 : v.m ≤ w.m + 1 := by rw [← ev]; unfold ja; split <;> simp
 have b9 := u.top
 have cd := u.siz
 have ch := u.sz
 have a1 := kk (u.has v.last (by unfold Wl.last; omega) (Nat.le_refl _))
 have J : IntKind.i64.wrap (((dn v.s0 v.m).length : Int) - 1) = (v.m : Int) := by rw [fj, w64 (by omega) (by omega)]; omega
 have X := sG v.fs v.la 0 false v.most (dn v.s0 v.m) (v.size : Int) u.st false b al (by omega) hd (k := k) (by omega)
 rw [I] at X
 have a6 := kc (gi w.st b)
 unfold Wl.tp
 simp only []
 rw [I, X, J, if_pos (by rw [fj]; omega), Option.bind_some]
 obtain ⟨rs, er⟩ : ∃ rs, gi w.st b = rs := ⟨_, rfl⟩
 rw [er] at G hZ hL hk a6 ⊢
 have ab := od rs (by omega) (by omega) (fun r hr => (G r hr).1) k 0 [] (by omega) (by omega) (by simp; omega)
 rw [List.drop_zero, List.nil_append, show ((0 : Nat) : Int) = (0 : Int) from rfl] at ab
 rw [ab, Option.bind_some]
 have ad := jP v.s0 v.m (by omega)
 rw [J] at ad
 rw [ad, show ((v.s0 + v.m : Nat) : Int) = (v.last : Int) from rfl, iO (by have := u.s1; unfold Wl.last; omega) (by unfold Wl.last; omega) (by omega), Option.bind_some, oc u.inv _ _ _ _ _ (by omega), mq a1 (by omega), Option.bind_some]
 simp only []
 rw [ix, Option.bind_some]
 have hq : ((if (0 : Int) < (rs.length : Int) then (some (aX v.fs (aY v.last) ((cc v.fs (aY v.last)).1 ++ eQ rs, (cc v.fs (aY v.last)).2), aY v.last, 0, false)) else (some (v.fs, v.la, 0, false))) : Option (FSt × List UInt8 × Int × Bool)) = some ((kT v rs).fs, (kT v rs).la, 0, false) := by
  unfold kT
  by_cases hp : 0 < rs.length
  ·simp only [if_pos hp, if_pos (show (0 : Int) < (rs.length : Int) by omega)]
  ·simp only [if_neg hp, if_neg (show ¬ (0 : Int) < (rs.length : Int) by omega)]
 rw [hq, Option.bind_some]
 have af := qK (v.fs, v.la, 0, false, v.most, dn v.s0 v.m, (v.size : Int), w.st.1, w.st.2.1, w.st.2.2.1, w.st.2.2.2.1, w.st.2.2.2.2.1, w.st.2.2.2.2.2, false) ((kT v rs).fs, (kT v rs).la, 0, false) rs (by omega) G (sg := (v.last : Int)) (by simp only []; exact jP v.s0 v.m (by omega)) v.most (dn v.s0 v.m) (((v.size + (eQ rs).length : Nat)) : Int) k 0 w.st (by omega) (by omega) h.st (by omega)
 rw [List.drop_zero, show ((0 : Nat) : Int) = (0 : Int) from rfl] at af
 rw [show IntKind.i64.wrap ((v.size : Int) + ((eQ rs).length : Int)) = ((v.size + (eQ rs).length : Nat) : Int) by rw [w64 (by omega) (by omega)]; omega, af]
 unfold kT
 rw [I]
def oS (w : Wl) (b : BaT) : Wl := if ic w.st b = 0 then kU w b else w
theorem sR {T N Z L : Nat} {w : Wl} (h : WOk T N Z L w) (D : T < 99999990) (hN : N < 256) {b : BaT} (G : Z + 200 + eu (gi w.st b) ≤ 16777216) (I : L + (gi w.st b).length < 2 ^ 29) (J : b.2.2.2.2.2.2.length < 2 ^ 28) (hd : ∀ e, e ∈ b.2.2.2.2.2.2 → e.2.2.2.length < 2 ^ 40) (U : w.m < 2 ^ 30) {k : Nat} (X : 30000 + b.2.2.2.2.2.2.length + (gi w.st b).length ≤ k) :
  dk.f k w.tp.1 w.tp.2.1 w.tp.2.2.1 w.tp.2.2.2.1 w.tp.2.2.2.2.1 w.tp.2.2.2.2.2.1 w.tp.2.2.2.2.2.2.1 w.tp.2.2.2.2.2.2.2.1 w.tp.2.2.2.2.2.2.2.2.1 w.tp.2.2.2.2.2.2.2.2.2.1 w.tp.2.2.2.2.2.2.2.2.2.2.1 w.tp.2.2.2.2.2.2.2.2.2.2.2.1 w.tp.2.2.2.2.2.2.2.2.2.2.2.2.1 w.tp.2.2.2.2.2.2.2.2.2.2.2.2.2 b.1 b.2.1 b.2.2.1 b.2.2.2.1 b.2.2.2.2.1 b.2.2.2.2.2.1 b.2.2.2.2.2.2 = some (ic w.st b, (oS w b).tp) := by
 have u := h.len
 have r := tU w.fs w.la 0 false w.most (dn w.s0 w.m) (w.size : Int) h.st false (by omega) b (by omega) (k := k) (by omega)
 unfold dk.f oS
 rw [if_neg (show ¬ w.tp.2.2.2.2.2.2.2.2.2.2.2.2.2 = true from Bool.false_ne_true)]
 have q : bJ.f k w.tp.1 w.tp.2.1 w.tp.2.2.1 w.tp.2.2.2.1 w.tp.2.2.2.2.1 w.tp.2.2.2.2.2.1 w.tp.2.2.2.2.2.2.1 w.tp.2.2.2.2.2.2.2.1 w.tp.2.2.2.2.2.2.2.2.1 w.tp.2.2.2.2.2.2.2.2.2.1 w.tp.2.2.2.2.2.2.2.2.2.2.1 w.tp.2.2.2.2.2.2.2.2.2.2.2.1 w.tp.2.2.2.2.2.2.2.2.2.2.2.2.1 w.tp.2.2.2.2.2.2.2.2.2.2.2.2.2 b.1 b.2.1 b.2.2.1 b.2.2.2.1 b.2.2.2.2.1 b.2.2.2.2.2.1 b.2.2.2.2.2.2 = some (ic w.st b) := r
 rw [q, Option.bind_some]
 by_cases hc : ic w.st b = 0
 ·rw [if_pos hc, if_pos hc]
  unfold cQ.f
  rw [sI h D hN hc G I J hd U X, Option.bind_some, Option.bind_some, hc]
 ·rw [if_neg hc, if_neg hc]
end Go.Proofs.YtndjkejhacfpdaaGreatDoor

namespace Go.Proofs.YtndjkejhacfpdaaGreatDoor
open Go.RowKit
def st0 : St := (0, 0, 0, 0, 0, [])
def fQ (fs : FSt) (most : Int) : Wl := { fs := iK fs 1 (frB (ft (fi 1 st0))), la := aY 1, most := most, s0 := 1, m := 0, size := (frB (ft (fi 1 st0))).length, st := st0 }
theorem mt (fs : FSt) (h : ∀ x, x ∈ eA fs → jZ x = 0) {n : Nat} (h1 : 1 ≤ n) (q : n ≤ 99999999) : aR fs (aY n) = none := by
 cases hv : aR fs (aY n) with
 | none => rfl
 | some v =>
  have r : aY n ∈ eA fs := (mK fs).mem_iff.2 ((kF fs _).2 (by rw [hv]; rfl))
  have := h _ r
  rw [mm q] at this
  omega
theorem qN {s : List (List UInt8)} (q : ∀ x, x ∈ s → x.length ≤ 2 ^ 40 ∧ jZ x = 0) (u : s.length < 2 ^ 40) : ∀ (k i : Nat), s.length - i + 10 < k → i ≤ s.length → bS.l0 s k (i : Int) [] = some []
 | 0, i, h, _ => by omega
 | k + 1, i, h, hi => by
  rw [bS.l0]
  by_cases hlt : i < s.length
  ·have D : s.getD i [] ∈ s := by rw [fR hlt]; exact List.getElem_mem hlt
   have r := q _ D
   rw [if_pos (by omega), if_pos (by omega), Int.toNat_natCast, vf r.1 (by omega), Option.bind_some, r.2]
   simp only [Nat.lt_irrefl, decide_false, Bool.false_eq_true, if_false]
   rw [ws1 (by omega)]
   exact qN q u k (i + 1) (by omega) (by omega)
  ·rw [if_neg (by omega)]
theorem sS {fs : FSt} {N Z : Nat} (hi : fv 256 fs) (D : fs.length ≤ N) (hN : N < 256) (G : szF fs ≤ Z) (I : Z + 200 ≤ 16777216) (r : ∀ x, x ∈ eA fs → jZ x = 0) (most : Int) : WOk 1 (N + 1) (Z + 128) 0 (fQ fs most) := by
 obtain ⟨_, u, J, L, U⟩ := lO (la := []) (most := 0) (sg := []) (sz := 0) (k := 20000) hi (by omega) (by omega) (by simp) (s := st0) oK (by simp [st0]) (n := 1) (by omega) (by omega) (mt fs r (by omega) (by omega)) (Nat.le_refl _)
 refine ⟨u, by show (iK fs 1 _).length ≤ _; omega, by show szF (iK fs 1 _) ≤ _; omega, Nat.le_refl _, Nat.le_refl _, fun n h1 q => ?_, fun n h1 q => ?_, oK, Nat.le_refl _, by show (frB (ft (fi 1 st0))).length ≤ _; omega⟩
 ·have : n = 1 := by simp only [fQ] at h1 q; omega
  subst this
  show (aR (iK fs 1 _) (aY 1)).isSome = true
  rw [kS, if_pos rfl]; rfl
 ·simp only [fQ] at h1
  show aR (iK fs 1 _) (aY n) = none
  rw [kS, if_neg (fun e => by have := gr q (by omega) e; omega), mt fs r (by omega) q]
theorem uQ {fs : FSt} {N Z : Nat} (hi : fv 256 fs) (U : fs.length ≤ N) (hN : N < 256) (X : szF fs ≤ Z) (hZ : Z + 200 ≤ 16777216) (r : ∀ x, x ∈ eA fs → jZ x = 0) (G : ∀ x, x ∈ eA fs → x.length ≤ 2 ^ 40) (la : List UInt8) {most : Int} (h1 : 64 ≤ most) (h2 : most ≤ 1048576) {k : Nat} (I : 30000 ≤ k) :
  bS.f k fs la 0 false most = some (true, (fQ fs most).tp.2.2.2.2.1, (fQ fs most).tp.2.2.2.2.2.1, (fQ fs most).tp.2.2.2.2.2.2.1, (fQ fs most).tp.2.2.2.2.2.2.2.1, (fQ fs most).tp.2.2.2.2.2.2.2.2.1, (fQ fs most).tp.2.2.2.2.2.2.2.2.2.1, (fQ fs most).tp.2.2.2.2.2.2.2.2.2.2.1, (fQ fs most).tp.2.2.2.2.2.2.2.2.2.2.2.1, (fQ fs most).tp.2.2.2.2.2.2.2.2.2.2.2.2.1, (fQ fs most).tp.2.2.2.2.2.2.2.2.2.2.2.2.2, false, 0, (fQ fs most).tp.1, (fQ fs most).tp.2.1, (fQ fs most).tp.2.2.1, (fQ fs most).tp.2.2.2.1) := by
 have J := sB fs
 obtain ⟨L, _⟩ := lO (la := la) (most := most) (sg := []) (sz := 0) (k := k) hi (by omega) (by omega) (by simp) (s := st0) oK (by simp [st0]) (n := 1) (by omega) (by omega) (mt fs r (by omega) (by omega)) (by omega)
 have u := qN (s := eA fs) (fun x D => ⟨G x D, r x D⟩) (by omega) k 0 (by omega) (by omega)
 rw [show ((0 : Nat) : Int) = (0 : Int) from rfl] at u
 unfold bS.f
 rw [if_neg (by simp; omega), uA hi (by decide), Option.bind_some, u, Option.bind_some]
 rw [if_pos (show ((([] : List Int).length : Nat) : Int) = 0 from rfl)]
 have q : du.f k fs la 0 false most ([] : List Int) (0 : Int) (0 : Int) (0 : Int) (0 : Int) (0 : Int) (0 : Int) ([] : List HeT) false (1 : Int) = _ := L
 rw [q, Option.bind_some]
 rfl
/-! ### What it tells -/
def kz (h : HeT) : EnT := (h.1, h.2.1, h.2.2.1, h.2.2.2.1)
theorem qO (l : List HeT) (q : l.length < 2 ^ 30) (hd : ∀ e, e ∈ l → e.2.2.2.1.length < 2 ^ 40) : ∀ (k i : Nat) (acc : List EnT), l.length - i < k → i ≤ l.length → acc.length ≤ i → cH.l0 l k (i : Int) acc = some (acc ++ (l.drop i).map kz)
 | 0, i, acc, h, _, _ => by omega
 | k + 1, i, acc, h, hi, ha => by
  rw [cH.l0]
  by_cases hlt : i < l.length
  ·have r : l.getD i av ∈ l := by rw [fR hlt]; exact List.getElem_mem _
   rw [if_pos (by omega), if_pos (by omega), Int.toNat_natCast, pS (hd _ r), Option.bind_some, if_pos (by simp only [List.length_cons, List.length_nil]; omega), ws1 (by omega), qO l q hd k (i + 1) _ (by omega) (by omega) (by simp; omega), fD l av hlt]
   simp [kz]
  ·rw [if_neg (by omega), List.drop_of_length_le (by omega)]; simp
theorem tB {s : St} (h : gd s) : ∀ e, e ∈ s.2.2.2.2.2 → e.2.2.2.1.length < 2 ^ 40 := fun e q => by
 have := (gJ (h.chk e q)).2.2.2.1
 omega
theorem rS {T N Z L : Nat} {w : Wl} (h : WOk T N Z L w) (q : L < 2 ^ 30) {k : Nat} (r : L < k) :
  dY.f k w.tp.1 w.tp.2.1 w.tp.2.2.1 w.tp.2.2.2.1 w.tp.2.2.2.2.1 w.tp.2.2.2.2.2.1 w.tp.2.2.2.2.2.2.1 w.tp.2.2.2.2.2.2.2.1 w.tp.2.2.2.2.2.2.2.2.1 w.tp.2.2.2.2.2.2.2.2.2.1 w.tp.2.2.2.2.2.2.2.2.2.2.1 w.tp.2.2.2.2.2.2.2.2.2.2.2.1 w.tp.2.2.2.2.2.2.2.2.2.2.2.2.1 w.tp.2.2.2.2.2.2.2.2.2.2.2.2.2 = some (w.st.1, w.st.2.1, w.st.2.2.1, w.st.2.2.2.1, w.st.2.2.2.2.1, w.st.2.2.2.2.2.map kz) := by
 have u := h.len
 unfold dY.f cH.f
 have v := qO w.st.2.2.2.2.2 (by omega) (tB h.st) k 0 [] (by omega) (by omega) (by simp)
 rw [List.drop_zero, List.nil_append, show ((0 : Nat) : Int) = (0 : Int) from rfl] at v
 rw [show w.tp.2.2.2.2.2.2.2.2.2.2.2.2.1 = w.st.2.2.2.2.2 from rfl, v, Option.bind_some, Option.bind_some]
 rfl
theorem oj (x : List EnT) (q : x.length < 2 ^ 40) {M : Nat} (hd : ∀ e, e ∈ x → e.2.2.2.length < M) (r : M < 2 ^ 40) : ∀ (k i : Nat), x.length - i + M < k → i ≤ x.length → bT.l0 x x k (i : Int) = some (.inl ())
 | 0, i, h, _ => by omega
 | k + 1, i, h, hi => by
  rw [bT.l0]
  by_cases hlt : i < x.length
  ·have u : x.getD i bj ∈ x := by rw [fR hlt]; exact List.getElem_mem _
   have D := hd _ u
   rw [if_pos (by omega), if_pos (by omega), if_pos (by omega), Int.toNat_natCast]
   unfold eI.f
   rw [pR (by omega) (by omega), Option.bind_some, Option.bind_some, ws1 (by omega)]
   simp only [decide_true, Bool.and_self, Bool.not_true, Bool.false_eq_true, if_false]
   exact oj x q hd r k (i + 1) (by omega) (by omega)
  ·rw [if_neg (by omega)]
theorem sU (x : List EnT) (q : x.length < 2 ^ 40) {M : Nat} (hd : ∀ e, e ∈ x → e.2.2.2.length < M) (r : M < 2 ^ 40) {k : Nat} (u : x.length + M < k) : bT.f k x x = some true := by
 have h := oj x q hd r k 0 (by omega) (by omega)
 rw [show ((0 : Nat) : Int) = (0 : Int) from rfl] at h
 unfold bT.f
 rw [if_pos rfl, h]
 rfl
/-! ### What a batch adds to -/
def fY (l : List EnT) : Nat := (l.map fun e => e.2.2.2.length).sum
theorem ky (e : EnT) (l : List EnT) : fY (e :: l) = e.2.2.2.length + fY l := by simp [fY]
theorem om : ∀ l : List EnT, eu (l.map ip) = fY l + 128 * l.length
 | [] => by simp [eu, fY]
 | e :: l => by
  have q := om l
  have : (ip e).2.2.2.2.2.2.2.2.2.2 = e.2.2.2 := rfl
  simp only [eu, List.map_cons, List.sum_cons, this] at q ⊢
  rw [ky, List.length_cons]
  omega
theorem lA (a b : List dQ) : eu (a ++ b) = eu a + eu b := by simp [eu]
theorem rR (s : St) (b : BaT) : eu (gi s b) ≤ fY b.2.2.2.2.2.2 + 128 * b.2.2.2.2.2.2.length + 384 ∧ (gi s b).length ≤ b.2.2.2.2.2.2.length + 3 := by
 unfold gi
 constructor
 ·rw [lA, lA, lA, om]
  have h1 : eu (if b.1 = true ∧ (b.2.1 ≠ s.1 ∨ b.2.2.1 ≠ s.2.1) then [(1, 0, b.2.1, b.2.2.1, s.2.2.1, 0, 0, 0, 0, 0, [])] else []) ≤ 128 := by split <;> simp [eu]
  have q : eu (if gY s b = true then [(3, 0, 0, 0, 0, b.2.2.2.2.1, b.2.2.2.2.2.1, 0, 0, 0, [])] else []) ≤ 128 := by split <;> simp [eu]
  have r : eu (if b.1 = true ∧ b.2.2.2.1 ≠ s.2.2.1 then [(1, 0, b.2.1, b.2.2.1, b.2.2.2.1, 0, 0, 0, 0, 0, [])] else []) ≤ 128 := by split <;> simp [eu]
  omega
 ·simp only [List.length_append, List.length_map]
  have h1 : (if b.1 = true ∧ (b.2.1 ≠ s.1 ∨ b.2.2.1 ≠ s.2.1) then [((1, 0, b.2.1, b.2.2.1, s.2.2.1, 0, 0, 0, 0, 0, []) : dQ)] else []).length ≤ 1 := by split <;> simp
  have q : (if gY s b = true then [((3, 0, 0, 0, 0, b.2.2.2.2.1, b.2.2.2.2.2.1, 0, 0, 0, []) : dQ)] else []).length ≤ 1 := by split <;> simp
  have r : (if b.1 = true ∧ b.2.2.2.1 ≠ s.2.2.1 then [((1, 0, b.2.1, b.2.2.1, b.2.2.2.1, 0, 0, 0, 0, 0, []) : dQ)] else []).length ≤ 1 := by split <;> simp
  omega
theorem jG {T N Z L q r u D : Nat} {w : Wl} (h : WOk T N Z L w) (h1 : T ≤ q) (I : N ≤ r) (G : Z ≤ u) (J : L ≤ D) : WOk q r u D w :=
 ⟨h.inv, Nat.le_trans h.num I, Nat.le_trans h.siz G, h.s1, Nat.le_trans h.top h1, h.has, h.non, h.st, Nat.le_trans h.len J, Nat.le_trans h.sz G⟩
theorem uO {T N Z L : Nat} {w : Wl} (h : WOk T N Z L w) (D : T < 99999990) (hN : N < 256) {b : BaT} (G : Z + 600 + fY b.2.2.2.2.2.2 + 128 * b.2.2.2.2.2.2.length ≤ 16777216) (r : L < 2 ^ 30) : WOk (T + 1) (N + 1) (Z + 512 + fY b.2.2.2.2.2.2 + 128 * b.2.2.2.2.2.2.length) (L + b.2.2.2.2.2.2.length + 3) (oS w b) := by
 have I := rR w.st b
 unfold oS
 split
 ·rename_i u
  have h1 := qM h (by omega) hN (by omega) r
  have q := qJ h.st u
  unfold kU
  rw [qL]
  exact jG (vt h1 (by omega) q (by omega)) (Nat.le_refl _) (Nat.le_refl _) (by omega) (by omega)
 ·exact jG h (by omega) (by omega) (by omega) (by omega)
end Go.Proofs.YtndjkejhacfpdaaGreatDoor

namespace Go.Proofs.YtndjkejhacfpdaaGreatDoor
open Go.RowKit
def jn (s0 m : Nat) : List (List UInt8) := (List.range' s0 (m + 1)).map aY
theorem ij (s0 m : Nat) : (jn s0 m).length = m + 1 := by simp [jn]
theorem oW {s0 m i : Nat} (h : i ≤ m) : (jn s0 m).getD i [] = aY (s0 + i) := by
 unfold jn
 rw [List.getD_eq_getElem?_getD, List.getElem?_map, List.getElem?_range' (by omega)]
 simp
theorem rV (s0 m j : Nat) (h : j ≤ m) : (jn s0 m).drop j = jn (s0 + j) (m - j) := by
 unfold jn
 rw [← List.map_drop, List.drop_range', show m + 1 - j = m - j + 1 by omega]
 simp
theorem qu {s0 m : Nat} (h1 : 1 ≤ s0) (q : s0 + m ≤ 99999999) : ∀ (k i : Nat) (acc : List (List UInt8)), m + 1 - i + 10 < k → i ≤ m + 1 → acc.length ≤ i → bE.l0 (dn s0 m) k acc (i : Int) = some (acc ++ (jn s0 m).drop i)
 | 0, i, acc, h, _, _ => by omega
 | k + 1, i, acc, h, hi, ha => by
  rw [bE.l0, fj]
  by_cases hlt : i < m + 1
  ·rw [if_pos (by omega), if_pos (by omega), Int.toNat_natCast, me (by omega), iO (by omega) (by omega) (by omega), Option.bind_some, if_pos (by simp only [List.length_cons, List.length_nil]; omega), ws1 (by omega), qu h1 q k (i + 1) _ (by omega) (by omega) (by simp; omega), fD (jn s0 m) [] (i := i) (by rw [ij]; exact hlt), oW (by omega)]
   simp
  ·rw [if_neg (by omega), List.drop_of_length_le (by rw [ij]; omega)]; simp
theorem rT {T N Z L : Nat} {w : Wl} (h : WOk T N Z L w) (q : T ≤ 99999999) {k : Nat} (r : T + 20 < k) :
  bE.f k w.tp.1 w.tp.2.1 w.tp.2.2.1 w.tp.2.2.2.1 w.tp.2.2.2.2.1 w.tp.2.2.2.2.2.1 w.tp.2.2.2.2.2.2.1 w.tp.2.2.2.2.2.2.2.1 w.tp.2.2.2.2.2.2.2.2.1 w.tp.2.2.2.2.2.2.2.2.2.1 w.tp.2.2.2.2.2.2.2.2.2.2.1 w.tp.2.2.2.2.2.2.2.2.2.2.2.1 w.tp.2.2.2.2.2.2.2.2.2.2.2.2.1 w.tp.2.2.2.2.2.2.2.2.2.2.2.2.2 = some (jn w.s0 w.m) := by
 have h1 := h.s1
 have u := h.top
 have s := qu (s0 := w.s0) (m := w.m) h1 (by omega) k 0 [] (by omega) (by omega) (by simp)
 rw [List.drop_zero, List.nil_append, show ((0 : Nat) : Int) = (0 : Int) from rfl] at s
 unfold bE.f
 rw [show w.tp.2.2.2.2.2.1 = dn w.s0 w.m from rfl, s, Option.bind_some]
theorem nI (x : List (List UInt8)) (q : x.length < 2 ^ 40) : ∀ (k i : Nat), x.length - i < k → i ≤ x.length → ce.l0 x x k (i : Int) = some (.inl ())
 | 0, i, h, _ => by omega
 | k + 1, i, h, hi => by
  rw [ce.l0]
  by_cases hlt : i < x.length
  ·rw [if_pos (by omega), if_pos (by omega), if_pos (by omega), if_pos rfl, ws1 (by omega)]
   exact nI x q k (i + 1) (by omega) (by omega)
  ·rw [if_neg (by omega)]
theorem sT (x : List (List UInt8)) (q : x.length < 2 ^ 40) {k : Nat} (r : x.length < k) : ce.f k x x = some true := by
 have h := nI x q k 0 (by omega) (by omega)
 rw [show ((0 : Nat) : Int) = (0 : Int) from rfl] at h
 unfold ce.f
 rw [if_pos rfl, h]
 rfl
theorem tY {T N Z L : Nat} {w : Wl} (h : WOk T N Z L w) (r : L < 2 ^ 40) :
  dX.f w.tp.1 w.tp.2.1 w.tp.2.2.1 w.tp.2.2.2.1 w.tp.2.2.2.2.1 w.tp.2.2.2.2.2.1 w.tp.2.2.2.2.2.2.1 w.tp.2.2.2.2.2.2.2.1 w.tp.2.2.2.2.2.2.2.2.1 w.tp.2.2.2.2.2.2.2.2.2.1 w.tp.2.2.2.2.2.2.2.2.2.2.1 w.tp.2.2.2.2.2.2.2.2.2.2.2.1 w.tp.2.2.2.2.2.2.2.2.2.2.2.2.1 w.tp.2.2.2.2.2.2.2.2.2.2.2.2.2 = some (dJ w.st) := by
 have u := h.len
 unfold dX.f
 have := mE w.fs w.la 0 false w.most (dn w.s0 w.m) (w.size : Int) w.st false (by omega)
 exact (congrArg (fun o => Option.bind o fun q => some (q.1, q.2)) this).trans rfl
/-! ### Few operations -/
abbrev OpW := Int × Int × Bool × Int × Int × Int × Int × Int × List EnT
abbrev gz : OpW := ((0 : Int), (0 : Int), false, (0 : Int), (0 : Int), (0 : Int), (0 : Int), (0 : Int), ([] : List EnT))
def OpW.es (o : OpW) : List EnT := o.2.2.2.2.2.2.2.2
def ka (l : List EnT) : Nat := (l.map fun e => min e.2.2.2.length 20000 + 1).sum
theorem nJ (e : EnT) (l : List EnT) : ka (e :: l) = min e.2.2.2.length 20000 + 1 + ka l := by simp [ka]
theorem qv : ∀ l : List EnT, l.length ≤ ka l ∧ ka l ≤ 20001 * l.length
 | [] => by simp [ka]
 | e :: l => by
  have q := qv l
  rw [nJ, List.length_cons]
  omega
theorem qw : ∀ x : List OpW, (x.map fun o => (OpW.es o).length).sum ≤ (x.map fun o => ka (OpW.es o)).sum
 | [] => Nat.le_refl _
 | o :: x => by
  have q := qw x
  have := (qv (OpW.es o)).1
  simp only [List.map_cons, List.sum_cons]
  omega
theorem oZ (x : List OpW) (U : x.length < 2 ^ 40) {j : Nat} (J : j < x.length) (z : Int) (hd : ∀ o, o ∈ x → ∀ e, e ∈ OpW.es o → e.2.2.2.length < 2 ^ 40) (q : (OpW.es (x.getD j gz)).length < 2 ^ 40) : ∀ (k i n : Nat), 200 - i < k → i ≤ 200 → n + 20001 * (200 - i) < 2 ^ 50 → ∃ r : Nat, bx.l1 x (z, (j : Int)) k (n : Int) (i : Int) = some (r : Int) ∧ r ≤ n + 20001 * (200 - i) ∧ ((OpW.es (x.getD j gz)).length ≤ 200 → r = n + ka ((OpW.es (x.getD j gz)).drop i))
 | 0, i, n, h, _, _ => by omega
 | k + 1, i, n, h, hi, hn => by
  rw [bx.l1, if_pos (show 0 ≤ (z, (j : Int)).2 ∧ (z, (j : Int)).2 < (x.length : Int) from ⟨by show 0 ≤ (j : Int); omega, by show (j : Int) < _; omega⟩)]
  have X : x.getD j gz ∈ x := by rw [fR J]; exact List.getElem_mem _
  simp only [Int.toNat_natCast]
  have G : (x.getD j gz).2.2.2.2.2.2.2.2 = OpW.es (x.getD j gz) := rfl
  simp only [G]
  have u := hd _ X
  obtain ⟨l, D⟩ : ∃ l, OpW.es (x.getD j gz) = l := ⟨_, rfl⟩
  simp only [D] at q u ⊢
  by_cases hc : i < l.length ∧ i < 200
  ·have I : l.getD i bj ∈ l := by rw [fR hc.1]; exact List.getElem_mem _
   have ab := u _ I
   rw [if_pos (by simp; omega), if_pos ⟨by omega, by omega⟩, if_pos (by omega), ws1 (by omega)]
   have e1 : IntKind.i64.wrap (IntKind.i64.wrap ((n : Int) + (min (((l.getD i bj).2.2.2).length : Int) (20000 : Int))) + 1) = ((n + (min (l.getD i bj).2.2.2.length 20000 + 1) : Nat) : Int) := by
    rw [w64 (n := (n : Int) + min (((l.getD i bj).2.2.2).length : Int) 20000) (by omega) (by omega), w64 (by omega) (by omega)]
    omega
   rw [e1]
   obtain ⟨r, r1, r2, r3⟩ := oZ x U J z hd (by rw [D]; exact q) k (i + 1) (n + (min (l.getD i bj).2.2.2.length 20000 + 1)) (by omega) (by omega) (by omega)
   refine ⟨r, r1, by omega, fun L => ?_⟩
   have := r3 (by rw [D]; exact L)
   rw [D] at this
   rw [this, fD l bj hc.1, nJ]
   omega
  ·rw [if_neg (by simp; omega)]
   refine ⟨n, rfl, by omega, fun L => ?_⟩
   rw [List.drop_of_length_le (by omega)]
   simp [ka]
theorem pa (x : List OpW) (U : x.length < 2 ^ 40) (hd : ∀ o, o ∈ x → ∀ e, e ∈ OpW.es o → e.2.2.2.length < 2 ^ 40) (u : ∀ o, o ∈ x → (OpW.es o).length < 2 ^ 40) : ∀ (k i n : Nat), 200 - i + 300 < k → i ≤ 200 → n + 5000000 * (200 - i) < 2 ^ 50 → ∃ r : Int ⊕ Bool, bx.l0 x k (n : Int) (i : Int) = some r ∧ ∀ v, r = .inl v → x.length ≤ 200 → v = ((n + ((x.drop i).map fun o => ka (OpW.es o)).sum : Nat) : Int) ∧ ∀ o, o ∈ x.drop i → (OpW.es o).length ≤ 200
 | 0, i, n, h, _, _ => by omega
 | k + 1, i, n, h, hi, hn => by
  rw [bx.l0]
  by_cases hc : i < x.length ∧ i < 200
  ·have hm : x.getD i gz ∈ x := by rw [fR hc.1]; exact List.getElem_mem _
   obtain ⟨r, X, r2, r3⟩ := oZ x U hc.1 (n : Int) hd (u _ hm) k 0 n (by omega) (by omega) (by omega)
   rw [show ((0 : Nat) : Int) = (0 : Int) from rfl] at X
   rw [if_pos (by simp; omega), X, Option.bind_some, if_pos (by omega)]
   have J : (x.getD (i : Int).toNat gz).2.2.2.2.2.2.2.2 = OpW.es (x.getD i gz) := by rw [Int.toNat_natCast]; rfl
   have D : (x.getD (i : Int).toNat ((0 : Int), (0 : Int), false, (0 : Int), (0 : Int), (0 : Int), (0 : Int), (0 : Int), ([] : List EnT))).2.2.2.2.2.2.2.2 = OpW.es (x.getD i gz) := J
   by_cases h2 : (OpW.es (x.getD i gz)).length ≤ 200
   ·rw [if_neg (by rw [D]; omega)]
    simp only [orR]
    rw [ws1 (by omega)]
    have hr := r3 h2
    rw [List.drop_zero] at hr
    obtain ⟨q, q1, q2⟩ := pa x U hd u k (i + 1) r (by omega) (by omega) (by omega)
    refine ⟨q, q1, fun v G I => ?_⟩
    obtain ⟨q3, q4⟩ := q2 v G I
    rw [fD x gz hc.1, List.map_cons, List.sum_cons]
    refine ⟨by rw [q3, hr]; congr 1; omega, fun o L => ?_⟩
    rcases List.mem_cons.1 L with rfl | L
    ·exact h2
    ·exact q4 o L
   ·rw [if_pos (by rw [D]; omega)]
    simp only [orR]
    exact ⟨_, rfl, fun v G => by cases G⟩
  ·rw [if_neg (by simp; omega)]
   refine ⟨_, rfl, fun v G I => ?_⟩
   cases G
   rw [List.drop_of_length_le (by omega)]
   simp
theorem tX (x : List OpW) (G : x.length < 2 ^ 40) (hd : ∀ o, o ∈ x → ∀ e, e ∈ OpW.es o → e.2.2.2.length < 2 ^ 40) (q : ∀ o, o ∈ x → (OpW.es o).length < 2 ^ 40) {k : Nat} (U : 1000 ≤ k) : ∃ b, bx.f k x = some b ∧ (b = true → x.length ≤ 200 ∧ (x.map fun o => (OpW.es o).length).sum ≤ 20000) := by
 obtain ⟨r, D, I⟩ := pa x G hd q k 0 0 (by omega) (by omega) (by omega)
 rw [show ((0 : Nat) : Int) = (0 : Int) from rfl] at D
 unfold bx.f
 rw [D]
 cases r with
 | inr b =>
  cases b with
  | false => exact ⟨false, rfl, fun h => by cases h⟩
  | true => exact ⟨true, rfl, fun _ => by
    exfalso
    have key : ∀ (k i : Nat) (z : Int), bx.l0 x k z (i : Int) ≠ some (.inr true) := by
     intro k
     induction k with
     | zero => intro i z h; simp [bx.l0] at h
     | succ k ih =>
      intro i z h
      rw [bx.l0] at h
      split at h
      ·cases u : bx.l1 x (z, (i : Int)) k z 0 with
       | none => rw [u] at h; simp [orR] at h
       | some v =>
        rw [u, Option.bind_some] at h
        split at h
        ·split at h
         ·simp [orR] at h
         ·simp only [orR] at h
          by_cases hb : i < 2 ^ 40
          ·rw [ws1 (by omega)] at h
           exact ih _ _ h
          ·rename_i g _ _
           simp at g
           omega
        ·simp [orR] at h
      ·simp at h
    exact key _ 0 0 D⟩
 | inl v =>
  simp only [orR]
  refine ⟨_, rfl, fun h => ?_⟩
  simp only [Bool.and_eq_true, decide_eq_true_eq] at h
  have u : x.length ≤ 200 := by omega
  obtain ⟨J, _⟩ := I v rfl u
  rw [List.drop_zero] at J
  refine ⟨u, ?_⟩
  have L := qw x
  omega
/-! ### Compact -/
def kj (s : St) (sg i : Int) : Bool := s.2.2.2.2.2.any fun h => decide (h.2.2.2.2 = sg) && decide (i < h.2.1)
theorem pb (l : List HeT) (q : l.length < 2 ^ 40) (sg i : Int) : ∀ (k j : Nat), l.length - j < k → j ≤ l.length → ∃ r : Unit ⊕ Int, bh.l0 l sg i k (j : Int) = some r ∧ ((∃ v, r = .inr v ∧ 0 ≤ v ∧ ((l.drop j).any fun h => decide (h.2.2.2.2 = sg) && decide (i < h.2.1)) = true) ∨ (r = .inl () ∧ ((l.drop j).any fun h => decide (h.2.2.2.2 = sg) && decide (i < h.2.1)) = false))
 | 0, j, h, _ => by omega
 | k + 1, j, h, hj => by
  rw [bh.l0]
  by_cases hlt : j < l.length
  ·rw [if_pos (by omega), if_pos (by omega), fD l av hlt]
   unfold eO.f
   simp only [Int.toNat_natCast, Option.bind_some, List.any_cons]
   by_cases hc : (decide ((l.getD j av).2.2.2.2 = sg) && decide (i < (l.getD j av).2.1)) = true
   ·rw [if_pos hc]
    exact ⟨_, rfl, .inl ⟨_, rfl, by omega, by rw [hc]; rfl⟩⟩
   ·rw [if_neg hc, ws1 (by omega)]
    rw [Bool.not_eq_true] at hc
    rw [hc, Bool.false_or]
    exact pb l q sg i k (j + 1) (by omega) (by omega)
  ·rw [if_neg (by omega), List.drop_of_length_le (by omega)]
   exact ⟨_, rfl, .inr ⟨rfl, rfl⟩⟩
theorem tZ (fs : FSt) (la : List UInt8) (a : Int) (d : Bool) (most : Int) (q : List Int) (sz : Int) (s : St) (G : s.2.2.2.2.2.length < 2 ^ 40) (I : Bool) (sg i : Int) {k : Nat} (J : s.2.2.2.2.2.length < k) : dO.f k fs la a d most q sz s.1 s.2.1 s.2.2.1 s.2.2.2.1 s.2.2.2.2.1 s.2.2.2.2.2 I sg i = some (kj s sg i) := by
 obtain ⟨r, u, D⟩ := pb s.2.2.2.2.2 G sg i k 0 (by omega) (by omega)
 rw [show ((0 : Nat) : Int) = (0 : Int) from rfl] at u
 rw [List.drop_zero] at D
 unfold dO.f bH.f bh.f kj
 rw [u]
 rcases D with ⟨v, rfl, v0, h⟩ | ⟨rfl, h⟩
 ·rw [h]; simp [orR, v0]
 ·rw [h]; rfl
def gf : List HeT → Int → Nat
 | [], _ => 0
 | h :: l, sg => if h.2.2.2.2 = sg then gf l sg + 1 else 0
theorem lE : ∀ (l : List HeT) (sg : Int), gf l sg ≤ l.length
 | [], _ => Nat.le_refl _
 | h :: l, sg => by
  have := lE l sg
  rw [gf, List.length_cons]
  split <;> omega
theorem pc : ∀ (l : List HeT) (sg : Int) (i : Nat), i < gf l sg → (l.getD i dzH).2.2.2.2 = sg
 | [], _, i, h => by simp [gf] at h
 | x :: l, sg, i, h => by
  rw [gf] at h
  split at h
  ·rename_i q
   cases i with
   | zero => exact q
   | succ i =>
    have := pc l sg i (by omega)
    simpa using this
  ·omega
theorem qx (l : List HeT) (q : l.length < 2 ^ 40) (sg : Int) : ∀ (k j : Nat), l.length - j < k → j ≤ l.length → cq.l0 l sg k (j : Int) = some ((j + gf (l.drop j) sg : Nat) : Int)
 | 0, j, h, _ => by omega
 | k + 1, j, h, hj => by
  rw [cq.l0]
  by_cases hlt : j < l.length
  ·rw [if_pos (by omega), if_pos (by omega), Option.bind_some, fD l av hlt, gf]
   simp only [Int.toNat_natCast, decide_eq_true_eq]
   by_cases hc : (l.getD j av).2.2.2.2 = sg
   ·rw [if_pos hc, if_pos hc, ws1 (by omega), qx l q sg k (j + 1) (by omega) (by omega)]
    congr 2; omega
   ·rw [if_neg hc, if_neg hc]; rfl
  ·rw [if_neg (by omega), List.drop_of_length_le (by omega), Option.bind_some, if_neg Bool.false_ne_true]
   simp [gf]
def fg (s : St) (g : Nat) : St := (s.1, s.2.1, s.2.2.1, if 0 < g then (s.2.2.2.2.2.getD (g - 1) dzH).2.1 else s.2.2.2.1, if 0 < g then (s.2.2.2.2.2.getD (g - 1) dzH).1 else s.2.2.2.2.1, s.2.2.2.2.2.drop g)
theorem sX {x : List HeT} (h : x.length < 2 ^ 40) : dB.f x = some x := by
 unfold dB.f
 rw [if_pos (by simp; omega)]
 simp
theorem uS (fs : FSt) (la : List UInt8) (a : Int) (d : Bool) (most : Int) (q : List Int) (sz : Int) (s : St) (D : s.2.2.2.2.2.length < 2 ^ 40) (r : Bool) (sg : Int) {k : Nat} (L : s.2.2.2.2.2.length < k) :
  cq.f k fs la a d most q sz s.1 s.2.1 s.2.2.1 s.2.2.2.1 s.2.2.2.2.1 s.2.2.2.2.2 r sg = some (most, q, sz, (fg s (gf s.2.2.2.2.2 sg)).1, (fg s (gf s.2.2.2.2.2 sg)).2.1, (fg s (gf s.2.2.2.2.2 sg)).2.2.1, (fg s (gf s.2.2.2.2.2 sg)).2.2.2.1, (fg s (gf s.2.2.2.2.2 sg)).2.2.2.2.1, (fg s (gf s.2.2.2.2.2 sg)).2.2.2.2.2, r) := by
 have hp := lE s.2.2.2.2.2 sg
 have u := qx s.2.2.2.2.2 D sg k 0 (by omega) (by omega)
 rw [List.drop_zero, Nat.zero_add, show ((0 : Nat) : Int) = (0 : Int) from rfl] at u
 unfold cq.f fg
 rw [u, Option.bind_some]
 obtain ⟨g, G⟩ : ∃ g, gf s.2.2.2.2.2 sg = g := ⟨_, rfl⟩
 rw [G] at hp ⊢
 by_cases hg : 0 < g
 ·have I : IntKind.i64.wrap ((g : Int) - 1) = ((g - 1 : Nat) : Int) := by rw [w64 (by omega) (by omega)]; omega
  have J : cut s.2.2.2.2.2 (g : Int) (s.2.2.2.2.2.length : Int) = s.2.2.2.2.2.drop g := by unfold cut; simp
  rw [if_pos (by omega), I, if_pos (by omega), if_pos (by omega), J, sX (by simp; omega), Option.bind_some, Int.toNat_natCast, if_pos hg, if_pos hg]
 ·rw [if_neg (by omega), if_neg hg, if_neg hg, show g = 0 by omega, List.drop_zero]
theorem pd {s : St} (h : gd s) {g : Nat} (L : g ≤ s.2.2.2.2.2.length) : gd (fg s g) ∧ (fg s g).2.2.2.1 = s.2.2.2.1 + (g : Int) ∧ dJ (fg s g) = dJ s := by
 have q : (fg s g).2.2.2.1 = s.2.2.2.1 + (g : Int) := by
  unfold fg
  simp only
  split
  ·rw [h.idx _ (by omega)]; omega
  ·omega
 have D := kg h
 have r := h.b
 unfold okN at r
 refine ⟨⟨h.t, h.v, h.c, ⟨by rw [q]; omega, by rw [q]; omega⟩, ?_, fun i hi => ?_, fun e G => h.chk e (List.mem_of_mem_drop G)⟩, q, ?_⟩
 ·unfold fg
  simp only
  split
  ·have := (gJ (h.chk _ (kt (i := g - 1) (by omega)))).1
   exact ⟨by have := this.1; omega, this.2⟩
  ·exact h.bt
 ·rw [q]
  have hi' : i + g < s.2.2.2.2.2.length := by
   have : i < (s.2.2.2.2.2.drop g).length := hi
   rw [List.length_drop] at this; omega
  have u : (s.2.2.2.2.2.drop g).getD i dzH = s.2.2.2.2.2.getD (g + i) dzH := by simp only [List.getD_eq_getElem?_getD, List.getElem?_drop]
  show ((s.2.2.2.2.2.drop g).getD i dzH).2.1 = _
  rw [u, h.idx _ (by omega)]
  omega
 ·unfold dJ
  have I : (fg s g).2.2.2.2.2 = s.2.2.2.2.2.drop g := rfl
  rw [I, List.length_drop]
  by_cases hlt : g < s.2.2.2.2.2.length
  ·have u : (s.2.2.2.2.2.drop g).getD (s.2.2.2.2.2.length - g - 1) dzH = s.2.2.2.2.2.getD (s.2.2.2.2.2.length - 1) dzH := by
    simp only [List.getD_eq_getElem?_getD, List.getElem?_drop]
    congr 2; omega
   rw [if_pos (by omega), if_pos (by omega), u]
  ·have J : g = s.2.2.2.2.2.length := by omega
   rw [if_neg (by omega)]
   by_cases h0 : 0 < s.2.2.2.2.2.length
   ·rw [if_pos h0]
    unfold fg
    simp only
    rw [if_pos (by omega), if_pos (by omega), J]
   ·rw [if_neg h0]
    unfold fg
    simp only
    rw [if_neg (by omega), if_neg (by omega)]
def kB (w : Wl) : Wl := { w with fs := dy w.fs (aY w.s0), la := if w.la = aY w.s0 then [] else w.la, s0 := w.s0 + 1, m := w.m - 1, st := fg w.st (gf w.st.2.2.2.2.2 (w.s0 : Int)) }
theorem sY {T N Z L : Nat} {w : Wl} (h : WOk T N Z L w) (I : T ≤ 99999999) (J : 0 < w.m) : WOk T N Z L (kB w) := by
 have u := h.s1
 have D := h.top
 have hi := ra h.inv w.la 0 false (aY w.s0)
 have r := h.has w.s0 (Nat.le_refl _) (by omega)
 rw [pe r] at hi
 have U := mf (aY w.s0) w.fs
 have X := pf w.fs (aY w.s0) r
 have hn := h.num
 have hs := h.siz
 have hd := pd h.st (lE w.st.2.2.2.2.2 (w.s0 : Int))
 have G := h.len
 refine ⟨hi, by show (dy _ _).length ≤ _; omega, by show szF (dy _ _) ≤ _; omega, by show 1 ≤ w.s0 + 1; omega, by show w.s0 + 1 + (w.m - 1) ≤ T; omega, fun n h1 q => ?_, fun n h1 q => ?_, hd.1, ?_, h.sz⟩
 ·simp only [kB] at h1 q
  show (aR (dy w.fs (aY w.s0)) (aY n)).isSome = true
  rw [lf _ _ _ h.inv.nd, if_neg (fun e => by have := gr (by omega) (by omega) e; omega)]
  exact h.has n (by omega) (by omega)
 ·simp only [kB] at h1
  show aR (dy w.fs (aY w.s0)) (aY n) = none
  rw [lf _ _ _ h.inv.nd, if_neg (fun e => by have := gr (by omega) q e; omega)]
  exact h.non n (by omega) q
 ·show (w.st.2.2.2.2.2.drop _).length ≤ L
  rw [List.length_drop]; omega
structure Cmp (w v : Wl) (n : Nat) (i : Int) : Prop where
 s0 : v.s0 = w.s0 + n
 m : v.m + n = w.m
 tvc : v.st.1 = w.st.1 ∧ v.st.2.1 = w.st.2.1 ∧ v.st.2.2.1 = w.st.2.2.1
 la : dJ v.st = dJ w.st
 es : ∃ g, g ≤ w.st.2.2.2.2.2.length ∧ v.st.2.2.2.2.2 = w.st.2.2.2.2.2.drop g ∧ v.st.2.2.2.1 = w.st.2.2.2.1 + (g : Int)
 bd : v.st.2.2.2.1 ≤ max i w.st.2.2.2.1
theorem rW {w : Wl} (h : gd w.st) (D : 0 < w.m) {i : Int} (u : kj w.st (w.s0 : Int) i = false) : Cmp w (kB w) 1 i := by
 have hp := lE w.st.2.2.2.2.2 (w.s0 : Int)
 have hd := pd h hp
 refine ⟨rfl, by show w.m - 1 + 1 = w.m; omega, ⟨rfl, rfl, rfl⟩, hd.2.2, ⟨_, hp, rfl, hd.2.1⟩, ?_⟩
 show (fg w.st (gf w.st.2.2.2.2.2 (w.s0 : Int))).2.2.2.1 ≤ _
 by_cases h0 : 0 < gf w.st.2.2.2.2.2 (w.s0 : Int)
 ·have r := pc w.st.2.2.2.2.2 (w.s0 : Int) (gf w.st.2.2.2.2.2 (w.s0 : Int) - 1) (by omega)
  have q := kt (l := w.st.2.2.2.2.2) (i := gf w.st.2.2.2.2.2 (w.s0 : Int) - 1) (by omega)
  unfold kj at u
  have := List.any_eq_false.1 u _ q
  simp only [r, decide_true, Bool.true_and, decide_eq_true_eq] at this
  unfold fg
  simp only
  rw [if_pos h0]
  omega
 ·unfold fg
  simp only
  rw [if_neg h0]
  omega
theorem rX {w u v : Wl} {a b : Nat} {i : Int} (h1 : Cmp w u a i) (q : Cmp u v b i) : Cmp w v (a + b) i := by
 obtain ⟨g, L, r, D⟩ := h1.es
 obtain ⟨k, G, I, J⟩ := q.es
 have U := h1.bd
 have X := q.bd
 refine ⟨by rw [q.s0, h1.s0]; omega, by have := h1.m; have := q.m; omega, ⟨q.tvc.1.trans h1.tvc.1, q.tvc.2.1.trans h1.tvc.2.1, q.tvc.2.2.trans h1.tvc.2.2⟩, q.la.trans h1.la, ⟨g + k, ?_, ?_, ?_⟩, by omega⟩
 ·rw [r, List.length_drop] at G; omega
 ·rw [I, r, List.drop_drop]
 ·rw [J, D]; omega
theorem pg {w : Wl} {i : Int} : Cmp w w 0 i := ⟨rfl, rfl, ⟨rfl, rfl, rfl⟩, rfl, ⟨0, Nat.zero_le _, rfl, by simp⟩, by omega⟩
theorem mG {P : Wl → Prop} {T N Z L : Nat} (hT : T ≤ 99999999) (hL : L < 2 ^ 40) (hP : ∀ u, WOk T N Z L u → 0 < u.m → P u → P (kB u)) (i : Int) : ∀ (k n : Nat) (w : Wl), w.m + L + 20 < k → n + w.m < 2 ^ 40 → WOk T N Z L w →
  ∃ (v : Wl) (j : Nat), bY.l0 i k w.tp.1 w.tp.2.1 w.tp.2.2.1 w.tp.2.2.2.1 w.tp.2.2.2.2.1 w.tp.2.2.2.2.2.1 w.tp.2.2.2.2.2.2.1 w.tp.2.2.2.2.2.2.2.1 w.tp.2.2.2.2.2.2.2.2.1 w.tp.2.2.2.2.2.2.2.2.2.1 w.tp.2.2.2.2.2.2.2.2.2.2.1 w.tp.2.2.2.2.2.2.2.2.2.2.2.1 w.tp.2.2.2.2.2.2.2.2.2.2.2.2.1 w.tp.2.2.2.2.2.2.2.2.2.2.2.2.2 (n : Int) =
   some (v.tp.1, v.tp.2.1, v.tp.2.2.1, v.tp.2.2.2.1, v.tp.2.2.2.2.1, v.tp.2.2.2.2.2.1, v.tp.2.2.2.2.2.2.1, v.tp.2.2.2.2.2.2.2.1, v.tp.2.2.2.2.2.2.2.2.1, v.tp.2.2.2.2.2.2.2.2.2.1, v.tp.2.2.2.2.2.2.2.2.2.2.1, v.tp.2.2.2.2.2.2.2.2.2.2.2.1, v.tp.2.2.2.2.2.2.2.2.2.2.2.2.1, v.tp.2.2.2.2.2.2.2.2.2.2.2.2.2, ((n + j : Nat) : Int)) ∧ WOk T N Z L v ∧ Cmp w v j i ∧ (P w → P v)
 | 0, n, w, h, _, _ => by omega
 | k + 1, n, w, hk, hn, hw => by
  have a1 := hw.len
  have I := hw.s1
  have a6 := hw.top
  have J : (dn w.s0 w.m).getD (0 : Int).toNat 0 = (w.s0 : Int) := by
   have := me (s0 := w.s0) (m := w.m) (i := 0) (Nat.zero_le _)
   exact this
  rw [bY.l0]
  rw [show w.tp.2.2.2.2.2.1 = dn w.s0 w.m from rfl, fj, J]
  by_cases hm : 0 < w.m
  ·have U := tZ w.fs w.la 0 false w.most (dn w.s0 w.m) (w.size : Int) w.st (by omega) false (w.s0 : Int) i (k := k) (by omega)
   have r : dO.f k w.tp.1 w.tp.2.1 w.tp.2.2.1 w.tp.2.2.2.1 w.tp.2.2.2.2.1 (dn w.s0 w.m) w.tp.2.2.2.2.2.2.1 w.tp.2.2.2.2.2.2.2.1 w.tp.2.2.2.2.2.2.2.2.1 w.tp.2.2.2.2.2.2.2.2.2.1 w.tp.2.2.2.2.2.2.2.2.2.2.1 w.tp.2.2.2.2.2.2.2.2.2.2.2.1 w.tp.2.2.2.2.2.2.2.2.2.2.2.2.1 w.tp.2.2.2.2.2.2.2.2.2.2.2.2.2 (w.s0 : Int) i = some (kj w.st (w.s0 : Int) i) := U
   rw [if_pos (show (1 : Int) < ((w.m + 1 : Nat) : Int) by omega), if_pos (show 0 ≤ (0 : Int) ∧ (0 : Int) < ((w.m + 1 : Nat) : Int) by omega), r, Option.bind_some, Option.bind_some]
   cases hnd : kj w.st (w.s0 : Int) i with
   | true =>
    rw [if_neg (by decide)]
    exact ⟨w, 0, rfl, hw, pg, id⟩
   | false =>
    have hh := hw.has w.s0 (Nat.le_refl _) (by omega)
    have X := sY hw hT hm
    have ab := rW hw.st hm hnd
    rw [if_pos (show (!false) = true from rfl), if_pos (show 0 ≤ (0 : Int) ∧ (0 : Int) < ((w.m + 1 : Nat) : Int) by omega), iO I (by omega) (by omega), Option.bind_some, rY, show iu w.tp.1 w.tp.2.1 w.tp.2.2.1 w.tp.2.2.2.1 (aY w.s0) = iu w.fs w.la 0 false (aY w.s0) from rfl, pe hh, Option.bind_some]
    simp only []
    rw [ix, Option.bind_some]
    have ad := uS (dy w.fs (aY w.s0)) (if w.la = aY w.s0 then [] else w.la) 0 false w.most (dn w.s0 w.m) (w.size : Int) w.st (by omega) false (w.s0 : Int) (k := k) (by omega)
    have D : cq.f k (dy w.fs (aY w.s0)) (if w.la = aY w.s0 then [] else w.la) 0 false w.tp.2.2.2.2.1 (dn w.s0 w.m) w.tp.2.2.2.2.2.2.1 w.tp.2.2.2.2.2.2.2.1 w.tp.2.2.2.2.2.2.2.2.1 w.tp.2.2.2.2.2.2.2.2.2.1 w.tp.2.2.2.2.2.2.2.2.2.2.1 w.tp.2.2.2.2.2.2.2.2.2.2.2.1 w.tp.2.2.2.2.2.2.2.2.2.2.2.2.1 w.tp.2.2.2.2.2.2.2.2.2.2.2.2.2 (w.s0 : Int) = _ := ad
    rw [D, Option.bind_some]
    simp only []
    rw [fj, if_pos (by omega), ws1 (by omega)]
    try rw [if_pos (show 0 ≤ (1 : Int) ∧ (1 : Int) ≤ ((w.m + 1 : Nat) : Int) ∧ ((w.m + 1 : Nat) : Int) ≤ ((w.m + 1 : Nat) : Int) by omega)]
    have G : cut (dn w.s0 w.m) (1 : Int) ((w.m + 1 : Nat) : Int) = dn (w.s0 + 1) (w.m - 1) := by
     obtain ⟨q, hq⟩ : ∃ q, w.m = q + 1 := ⟨w.m - 1, by omega⟩
     rw [hq, Nat.add_sub_cancel]
     unfold cut
     rw [Int.toNat_natCast, List.take_of_length_le (by rw [fj]; omega), rZ]
     rfl
    rw [G]
    obtain ⟨v, j, v1, v2, v3, v4⟩ := mG (P := P) hT hL hP i k (n + 1) (kB w) (by show w.m - 1 + L + 20 < k; omega) (by show n + 1 + (w.m - 1) < _; omega) X
    refine ⟨v, 1 + j, ?_, v2, rX ab v3, fun x => v4 (hP w hw hm x)⟩
    rw [show n + (1 + j) = n + 1 + j by omega]
    exact v1
  ·rw [if_neg (show ¬ (1 : Int) < ((w.m + 1 : Nat) : Int) by omega), Option.bind_some, if_neg Bool.false_ne_true]
   exact ⟨w, 0, rfl, hw, pg, id⟩
def rb (w : Wl) : Wl := { w with fs := aX w.fs (aY w.last) ((cc w.fs (aY w.last)).1, ((cc w.fs (aY w.last)).1.length : Int)) }
theorem rU {P : Wl → Prop} {T N Z L : Nat} {w : Wl} (h : WOk T N Z L w) (hT : T ≤ 99999999) (hL : L < 2 ^ 30) (hP : ∀ u, WOk T N Z L u → 0 < u.m → P u → P (kB u)) (i : Int) {k : Nat} (hk : T + L + 40 < k) :
  ∃ (v : Wl) (j : Nat) (c : Int), eh.f k w.tp.1 w.tp.2.1 w.tp.2.2.1 w.tp.2.2.2.1 w.tp.2.2.2.2.1 w.tp.2.2.2.2.2.1 w.tp.2.2.2.2.2.2.1 w.tp.2.2.2.2.2.2.2.1 w.tp.2.2.2.2.2.2.2.2.1 w.tp.2.2.2.2.2.2.2.2.2.1 w.tp.2.2.2.2.2.2.2.2.2.2.1 w.tp.2.2.2.2.2.2.2.2.2.2.2.1 w.tp.2.2.2.2.2.2.2.2.2.2.2.2.1 w.tp.2.2.2.2.2.2.2.2.2.2.2.2.2 i =
   some ((j : Int), c, v.tp.1, v.tp.2.1, v.tp.2.2.1, v.tp.2.2.2.1, v.tp.2.2.2.2.1, v.tp.2.2.2.2.2.1, v.tp.2.2.2.2.2.2.1, v.tp.2.2.2.2.2.2.2.1, v.tp.2.2.2.2.2.2.2.2.1, v.tp.2.2.2.2.2.2.2.2.2.1, v.tp.2.2.2.2.2.2.2.2.2.2.1, v.tp.2.2.2.2.2.2.2.2.2.2.2.1, v.tp.2.2.2.2.2.2.2.2.2.2.2.2.1, v.tp.2.2.2.2.2.2.2.2.2.2.2.2.2) ∧ WOk T N Z L v ∧ (P w → P (rb w) → P v) ∧
   ((i < 0 ∨ (dJ w.st).1 < i) ∧ c = 1 ∧ j = 0 ∧ v = w ∨ ¬ (i < 0 ∨ (dJ w.st).1 < i) ∧ c = 0 ∧ Cmp w v j i) := by
 have a1 := h.len
 have a6 := h.top
 have a7 := h.s1
 have I := mE w.fs w.la 0 false w.most (dn w.s0 w.m) (w.size : Int) w.st false (by omega)
 have r : co.f w.tp.1 w.tp.2.1 w.tp.2.2.1 w.tp.2.2.2.1 w.tp.2.2.2.2.1 w.tp.2.2.2.2.2.1 w.tp.2.2.2.2.2.2.1 w.tp.2.2.2.2.2.2.2.1 w.tp.2.2.2.2.2.2.2.2.1 w.tp.2.2.2.2.2.2.2.2.2.1 w.tp.2.2.2.2.2.2.2.2.2.2.1 w.tp.2.2.2.2.2.2.2.2.2.2.2.1 w.tp.2.2.2.2.2.2.2.2.2.2.2.2.1 w.tp.2.2.2.2.2.2.2.2.2.2.2.2.2 = some (dJ w.st) := I
 unfold eh.f
 rw [if_neg (show ¬ w.tp.2.2.2.2.2.2.2.2.2.2.2.2.2 = true from Bool.false_ne_true), r, Option.bind_some]
 by_cases hi : i < 0 ∨ (dJ w.st).1 < i
 ·rw [if_pos (by simpa using hi)]
  exact ⟨w, 0, 1, rfl, h, fun x _ => x, .inl ⟨hi, rfl, rfl, rfl⟩⟩
 ·rw [if_neg (by simpa using hi)]
  have X := kk (h.has w.last (by unfold Wl.last; omega) (Nat.le_refl _))
  have J := kC h.inv w.la 0 false (aY w.last)
  rw [km X] at J
  have z1 := fk (aY w.last) ((cc w.fs (aY w.last)).1, ((cc w.fs (aY w.last)).1.length : Int)) w.fs
  have l1 := gg (v := ((cc w.fs (aY w.last)).1, ((cc w.fs (aY w.last)).1.length : Int))) (h.has w.last (by unfold Wl.last; omega) (Nat.le_refl _))
  have ab := h.num
  have ad := h.siz
  simp only at J z1
  have hu : WOk T N Z L (rb w) := by
   unfold rb
   refine ⟨J, by simp only; omega, by simp only; omega, h.s1, h.top, fun n h1 q => ?_, fun n h1 q => ?_, h.st, h.len, h.sz⟩
   ·simp only at h1 q ⊢
    rw [eH]
    split
    ·rfl
    ·exact h.has n h1 q
   ·simp only at h1 q ⊢
    rw [eH, if_neg (fun e => by have := gr (by unfold Wl.last; omega) q e; unfold Wl.last at this; omega)]
    exact h.non n h1 q
  obtain ⟨v, j, v1, v2, v3, v4⟩ := mG (P := P) hT (by omega) hP i k 0 (rb w) (by show w.m + L + 20 < k; omega) (by show 0 + w.m < _; omega) hu
  rw [Nat.zero_add, show ((0 : Nat) : Int) = (0 : Int) from rfl] at v1
  have D : IntKind.i64.wrap (((dn w.s0 w.m).length : Int) - 1) = (w.m : Int) := by rw [fj, w64 (by omega) (by omega)]; omega
  refine ⟨v, j, 0, ?_, v2, fun _ x => v4 x, .inr ⟨hi, rfl, ⟨v3.s0, v3.m, v3.tvc, v3.la, v3.es, v3.bd⟩⟩⟩
  unfold cO.f bY.f
  have G := jP w.s0 w.m (by omega)
  rw [D] at G
  rw [show w.tp.2.2.2.2.2.1 = dn w.s0 w.m from rfl, D, G, if_pos (by rw [fj]; omega), show ((w.s0 + w.m : Nat) : Int) = (w.last : Int) from rfl, iO (by unfold Wl.last; omega) (by unfold Wl.last; omega) (by omega), Option.bind_some, nh, show jQ w.tp.1 w.tp.2.1 w.tp.2.2.1 w.tp.2.2.2.1 (aY w.last) = jQ w.fs w.la 0 false (aY w.last) from rfl, km X, Option.bind_some]
  simp only []
  rw [ix, Option.bind_some]
  have U : bY.l0 i k (aX w.fs (aY w.last) ((cc w.fs (aY w.last)).1, ((cc w.fs (aY w.last)).1.length : Int))) w.la 0 false w.tp.2.2.2.2.1 (dn w.s0 w.m) w.tp.2.2.2.2.2.2.1 w.tp.2.2.2.2.2.2.2.1 w.tp.2.2.2.2.2.2.2.2.1 w.tp.2.2.2.2.2.2.2.2.2.1 w.tp.2.2.2.2.2.2.2.2.2.2.1 w.tp.2.2.2.2.2.2.2.2.2.2.2.1 w.tp.2.2.2.2.2.2.2.2.2.2.2.2.1 w.tp.2.2.2.2.2.2.2.2.2.2.2.2.2 (0 : Int) = _ := v1
  rw [U, Option.bind_some, Option.bind_some]
  rfl
end Go.Proofs.YtndjkejhacfpdaaGreatDoor

namespace Go.Proofs.YtndjkejhacfpdaaGreatDoor
open Go.RowKit
theorem qY (m : Nat) : eL.f (m + 100) = some true := by kernel_rfl
def opZ (o : OpW) : Nat := 512 + fY (OpW.es o) + 128 * (OpW.es o).length
def ld (l : List OpW) : Nat := (l.map opZ).sum
def jF (l : List OpW) : Nat := (l.map fun o => (OpW.es o).length + 3).sum
theorem nE (o : OpW) (l : List OpW) : ld (o :: l) = opZ o + ld l := by simp [ld]
theorem nF (o : OpW) (l : List OpW) : jF (o :: l) = (OpW.es o).length + 3 + jF l := by simp [jF]
theorem jY (x : List OpW) (hx : x.length < 2 ^ 20) (hd : ∀ o, o ∈ x → ∀ e, e ∈ OpW.es o → e.2.2.2.length < 2 ^ 40) : ∀ (k i T N Z L : Nat) (w : Wl), x.length - i + 40000 + 2 * jF (x.drop i) < k → i ≤ x.length → WOk T N Z L w →
  T + (x.length - i) < 90000000 → N + (x.length - i) < 256 → Z + ld (x.drop i) + 700 ≤ 16777216 → L + jF (x.drop i) < 2 ^ 28 →
  ∃ v : Wl, bQ.l0 x k (i : Int) w.tp.2.2.2.2.1 w.tp.2.2.2.2.2.1 w.tp.2.2.2.2.2.2.1 w.tp.2.2.2.2.2.2.2.1 w.tp.2.2.2.2.2.2.2.2.1 w.tp.2.2.2.2.2.2.2.2.2.1 w.tp.2.2.2.2.2.2.2.2.2.2.1 w.tp.2.2.2.2.2.2.2.2.2.2.2.1 w.tp.2.2.2.2.2.2.2.2.2.2.2.2.1 w.tp.2.2.2.2.2.2.2.2.2.2.2.2.2 w.tp.1 w.tp.2.1 w.tp.2.2.1 w.tp.2.2.2.1 =
    some (v.tp.2.2.2.2.1, v.tp.2.2.2.2.2.1, v.tp.2.2.2.2.2.2.1, v.tp.2.2.2.2.2.2.2.1, v.tp.2.2.2.2.2.2.2.2.1, v.tp.2.2.2.2.2.2.2.2.2.1, v.tp.2.2.2.2.2.2.2.2.2.2.1, v.tp.2.2.2.2.2.2.2.2.2.2.2.1, v.tp.2.2.2.2.2.2.2.2.2.2.2.2.1, v.tp.2.2.2.2.2.2.2.2.2.2.2.2.2, v.tp.1, v.tp.2.1, v.tp.2.2.1, v.tp.2.2.2.1) ∧
   WOk (T + (x.length - i)) 256 16777216 (L + jF (x.drop i)) v
 | 0, i, T, N, Z, L, w, h, _, _, _, _, _, _ => by omega
 | k + 1, i, T, N, Z, L, w, hk, hi, hw, hT, hN, hZ, hL => by
  rw [bQ.l0]
  by_cases hlt : i < x.length
  ·have hm : x.getD i gz ∈ x := by rw [fR hlt]; exact List.getElem_mem _
   have q := fD x gz hlt
   have r := hd _ hm
   have u : ld (x.drop i) = opZ (x.getD i gz) + ld (x.drop (i + 1)) := by rw [q, nE]
   have I : jF (x.drop i) = (OpW.es (x.getD i gz)).length + 3 + jF (x.drop (i + 1)) := by rw [q, nF]
   have hg : x.getD (i : Int).toNat ((0 : Int), (0 : Int), false, (0 : Int), (0 : Int), (0 : Int), (0 : Int), (0 : Int), ([] : List EnT)) = x.getD i gz := by rw [Int.toNat_natCast]
   obtain ⟨o, eo⟩ : ∃ o, x.getD i gz = o := ⟨_, rfl⟩
   rw [eo] at u I r hg
   have al : x.length - i = (x.length - (i + 1)) + 1 := by omega
   have J : w.m < 2 ^ 30 := by have := hw.top; omega
   rw [if_pos (by omega), ws1 (by omega)]
   simp only [if_pos (show 0 ≤ (i : Int) ∧ (i : Int) < (x.length : Int) by omega)]
   have U : x.getD (i : Int).toNat ((0 : Int), (0 : Int), false, (0 : Int), (0 : Int), (0 : Int), (0 : Int), (0 : Int), ([] : List (bn))) = o := hg
   simp only [U]
   by_cases h0 : o.1 = 0
   ·rw [if_pos h0]
    have hz := rR w.st o.2.2
    have D : o.2.2.2.2.2.2.2.2 = OpW.es o := rfl
    rw [D] at hz
    unfold opZ at u
    have ha := sR hw (by omega) (by omega) (b := o.2.2) (by omega) (by omega) (by rw [D]; omega) r J (k := k) (by rw [D]; omega)
    have G := uO hw (by omega) (by omega) (b := o.2.2) (by rw [D]; omega) (by omega)
    rw [D] at G
    rw [ha, Option.bind_some]
    obtain ⟨v, X, v2⟩ := jY x hx hd k (i + 1) (T + 1) (N + 1) _ _ (oS w o.2.2) (by omega) (by omega) G (by omega) (by omega) (by omega) (by omega)
    exact ⟨v, X, jG v2 (by omega) (Nat.le_refl _) (Nat.le_refl _) (by omega)⟩
   ·rw [if_neg h0]
    obtain ⟨v, X, v2⟩ := jY x hx hd k (i + 1) T N Z L w (by omega) (by omega) hw (by omega) (by omega) (by omega) (by omega)
    exact ⟨v, X, jG v2 (by omega) (Nat.le_refl _) (Nat.le_refl _) (by omega)⟩
  ·rw [if_neg (by omega)]
   exact ⟨w, rfl, jG hw (by omega) (by omega) (by omega) (by omega)⟩
theorem oT : ∀ l : List EnT, fY l + l.length ≤ Mu.mu l
 | [] => by simp [fY, jw]
 | e :: l => by
  have q := oT l
  obtain ⟨a, b, c, d⟩ := e
  rw [ky, qo, fE, fE, fE, kh, kh, kh, oU, List.length_cons]
  simp only
  omega
theorem uP (o : OpW) : fY (OpW.es o) + (OpW.es o).length + 1 ≤ Mu.mu o := by
 obtain ⟨a, b, c, d, e, f, g, h, l⟩ := o
 have := oT l
 rw [fE, fE, fE, fE, fE, fE, fE, fE, kh, kh, tW, kh]
 show fY l + l.length + 1 ≤ _
 omega
theorem qq : ∀ l : List OpW, (l.map fun o => fY (OpW.es o)).sum + l.length + (l.map fun o => (OpW.es o).length).sum ≤ Mu.mu l
 | [] => by simp [jw]
 | o :: l => by
  have q := qq l
  have := uP o
  rw [qo]
  simp only [List.map_cons, List.sum_cons, List.length_cons]
  omega
theorem qr : ∀ l : List OpW, ld l = 512 * l.length + (l.map fun o => fY (OpW.es o)).sum + 128 * (l.map fun o => (OpW.es o).length).sum
 | [] => by simp [ld]
 | o :: l => by
  have q := qr l
  rw [nE, q]
  unfold opZ
  simp only [List.map_cons, List.sum_cons, List.length_cons]
  omega
theorem qs : ∀ l : List OpW, jF l = 3 * l.length + (l.map fun o => (OpW.es o).length).sum
 | [] => by simp [jF]
 | o :: l => by
  have q := qs l
  rw [nF, q]
  simp only [List.map_cons, List.sum_cons, List.length_cons]
  omega
theorem mc {f : OpW → Nat} : ∀ {l : List OpW} {o : OpW}, o ∈ l → f o ≤ (l.map f).sum
 | [], _, h => by cases h
 | y :: l, o, h => by
  rw [List.map_cons, List.sum_cons]
  rcases List.mem_cons.1 h with rfl | h
  ·omega
  ·have := mc (f := f) h; omega
theorem nG {e : EnT} : ∀ {l : List EnT}, e ∈ l → e.2.2.2.length ≤ fY l
 | [], h => by cases h
 | x :: l, h => by
  rw [ky]
  rcases List.mem_cons.1 h with rfl | h
  ·omega
  ·have := nG h; omega
theorem oV : fv 256 ([] : FSt) := vJ 256
theorem nH : ∀ x, x ∈ eA ([] : FSt) → jZ x = 0 := fun x q => by simp [eA] at q
theorem qZ : ∀ x, x ∈ eA ([] : FSt) → x.length ≤ 2 ^ 40 := fun x q => by simp [eA] at q
theorem md {Q : OpW → Prop} {B : Nat} (x : Int) (hx : (Lit.int .i64 x).wf = true) (l : List OpW) (h : l.length * B ≤ reachBytes ∧ ∀ e ∈ l, Q e) (y : Int) (hy : (Lit.int .i64 y).wf = true) (hu : Mu.mu l ≤ 1048576) :
  ∃ k, bQ.f k x l y = some true := by
 have b2 := qq l
 have hd : ∀ o, o ∈ l → ∀ e, e ∈ OpW.es o → e.2.2.2.length < 2 ^ 40 := fun o I e he => by
  have h1 := nG he
  have J := mc (f := fun o => fY (OpW.es o)) I
  try simp only at J
  omega
 have L : ∀ o, o ∈ l → (OpW.es o).length < 2 ^ 40 := fun o I => by
  have J := mc (f := fun o => (OpW.es o).length) I
  try simp only at J
  omega
 obtain ⟨k, D⟩ : ∃ k, k = 600000000 + 100 := ⟨_, rfl⟩
 have hf : eL.f k = some true := by rw [D]; exact qY 600000000
 refine ⟨k, ?_⟩
 have b5 : 600000000 ≤ k := by omega
 clear D
 obtain ⟨b, U, X⟩ := tX l (by omega) hd L (k := k) (by omega)
 unfold bQ.f
 rw [hf, Option.bind_some, U, Option.bind_some]
 by_cases hg : ((((!true) || (!b)) || (decide (x < (64 : Int)))) || (decide ((1048576 : Int) < x))) = true
 ·rw [if_pos hg]
 ·rw [if_neg hg]
  simp only [Bool.not_true, Bool.false_or, Bool.or_eq_true, Bool.not_eq_true', decide_eq_true_eq] at hg
  have ab : b = true := by
   cases b with
   | true => rfl
   | false => exact absurd (.inl (.inl rfl)) hg
  obtain ⟨s1, s2⟩ := X ab
  have oa := uQ (fs := []) (N := 0) (Z := 0) oV (by simp) (by omega) (by simp [szF]) (by omega) nH qZ [] (most := x) (by omega) (by omega) (k := k) (by omega)
  have wa := sS (fs := []) (N := 0) (Z := 0) oV (by simp) (by omega) (by simp [szF]) (by omega) nH x
  rw [show gO.f = some (([] : FSt), ([] : List UInt8), (0 : Int), false) from rfl]
  simp only [Option.bind_some]
  rw [oa]
  simp only [Option.bind_some, if_true]
  obtain ⟨a, ea⟩ : ∃ a, fQ [] x = a := ⟨_, rfl⟩
  rw [ea] at wa ⊢
  have b8 := qr l
  have b9 := qs l
  obtain ⟨w, w1, u⟩ := jY l (by omega) hd k 0 1 (0 + 1) (0 + 128) 0 a (by rw [List.drop_zero]; omega) (by omega) wa (by omega) (by omega) (by rw [List.drop_zero]; omega) (by rw [List.drop_zero]; omega)
  rw [show ((0 : Nat) : Int) = (0 : Int) from rfl] at w1
  rw [List.drop_zero] at u
  rw [w1, Option.bind_some]
  have hL : 0 + jF l < 2 ^ 28 := by omega
  have hT : 1 + (l.length - 0) ≤ 99999999 := by omega
  rw [rS u (by omega) (by omega), Option.bind_some, rT u hT (by omega), Option.bind_some]
  obtain ⟨v, j, c, v1, v2, _, v3⟩ := rU (P := fun _ => True) u hT (by omega) (fun _ _ _ _ => trivial) y (k := k) (by omega)
  rw [v1, Option.bind_some, rS v2 (by omega) (by omega), Option.bind_some, rT v2 hT (by omega), Option.bind_some, tY v2 (by omega), Option.bind_some]
  have G : ∀ x, cP.f x = some x := fun _ => rfl
  have af := lb u.st
  have br := kg u.st
  have al := u.st.b
  unfold okN at al
  have an : IntKind.i64.wrap (w.st.2.2.2.1 + ((w.st.2.2.2.2.2.map kz).length : Int)) = (dJ w.st).1 := by
   rw [List.length_map, w64 (by omega) (by omega), af]
  rw [an]
  simp only [G, Option.bind_some]
  rcases v3 with ⟨q1, q2, r, q4⟩ | ⟨q1, q2, r⟩
  ·rw [if_pos (by simpa using q1), q2, r, q4]
   simp
  ·rw [if_neg (by simpa using q1), q2]
   obtain ⟨g, g1, g2, g3⟩ := r.es
   have hm := r.m
   have c3 := r.bd
   have c4 := v2.len
   have b0 := u.top
   rw [ij, ij, r.la]
   have e1 : IntKind.i64.wrap (((w.m + 1 : Nat) : Int) - ((v.m + 1 : Nat) : Int)) = (j : Int) := by rw [w64 (by omega) (by omega)]; omega
   rw [e1, if_neg (by simp; omega), if_pos (by omega)]
   have ec : cut (jn w.s0 w.m) (j : Int) ((w.m + 1 : Nat) : Int) = jn v.s0 v.m := by
    unfold cut
    rw [Int.toNat_natCast, Int.toNat_natCast, List.take_of_length_le (by rw [ij]; omega), rV _ _ _ (by omega), r.s0, show w.m - j = v.m by omega]
   rw [ec, sT _ (by rw [ij]; omega) (by rw [ij]; omega), Option.bind_some]
   have e2 : IntKind.i64.wrap (v.st.2.2.2.1 - w.st.2.2.2.1) = (g : Int) := by rw [g3, w64 (by omega) (by omega)]; omega
   have c8 : (w.st.2.2.2.2.2.map kz).length = w.st.2.2.2.2.2.length := List.length_map _
   rw [e2, r.tvc.1, r.tvc.2.1, r.tvc.2.2, if_neg (by simp; omega), if_pos (by omega)]
   have a7 : cut (w.st.2.2.2.2.2.map kz) (g : Int) ((w.st.2.2.2.2.2.map kz).length : Int) = v.st.2.2.2.2.2.map kz := by
    unfold cut
    rw [Int.toNat_natCast, Int.toNat_natCast, List.take_length, g2, List.map_drop]
   have c9 := u.len
   rw [a7, sU (v.st.2.2.2.2.2.map kz) (by rw [List.length_map]; omega) (M := 5000) (fun e hm => by
    obtain ⟨q, hq, rfl⟩ := List.mem_map.1 hm
    have := (gJ (v2.st.chk q hq)).2.2.2.1
    show q.2.2.2.1.length < 5000
    omega) (by omega) (by rw [List.length_map]; omega), Option.bind_some]
   have e3 : IntKind.i64.wrap (((v.m + 1 : Nat) : Int) - 1) = (v.m : Int) := by rw [w64 (by omega) (by omega)]; omega
   rw [e3, if_pos (by omega), Int.toNat_natCast, oW (Nat.le_refl _), show df.f v.tp.1 v.tp.2.1 v.tp.2.2.1 v.tp.2.2.2.1 (aY (v.s0 + v.m)) = df.f v.fs v.la 0 false (aY (v.s0 + v.m)) from rfl]
   have a8 : ∃ d, df.f v.fs v.la 0 false (aY (v.s0 + v.m)) = some (d, 0) := by
    have hs := v2.has (v.s0 + v.m) (by omega) (Nat.le_refl _)
    have U := Nat.le_trans (oX (kA hs)) v2.inv.sz
    unfold df.f
    rw [if_pos hs]
    have : fw.f (cc v.fs (aY (v.s0 + v.m))).1 = some (cc v.fs (aY (v.s0 + v.m))).1 := sV (by simp only at U; omega)
    refine ⟨(cc v.fs (aY (v.s0 + v.m))).1, ?_⟩
    show (fw.f (cc v.fs (aY (v.s0 + v.m))).1).bind _ = _
    rw [this]
    rfl
   obtain ⟨d, bc⟩ := a8
   rw [bc]
   simp
end Go.Proofs.YtndjkejhacfpdaaGreatDoor

namespace Go.Proofs.YtndjkejhacfpdaaGreatDoor
open Go.RowKit Go.ChangeShapes Go.WideShapes Go.ChangeAt
def rk (P : Program) (w : World) (n : String) (d : DataW Unit) : Prop :=
 ∃ g t cs q p, P.globalNamed n = some g ∧ (P.globals[g]?).map (·.type) = some t ∧ w.var? P n = some cs ∧ DataW.trod (fun _ => ()) P w 0 (fun _ => true) false q t cs.toList = some (d, p)
theorem pq {P : Program} {w : World} : ∀ {l : List (String × DataW Unit)} {ps : List MemPlace}, DataW.LaidVars P w l ps → ∀ n d, (n, d) ∈ l → rk P w n d
 | [], _, _, _, _, hm => by cases hm
 | (n', d') :: r, ps, h, n, d, hm => by
  obtain ⟨g, t, cs, u, p, q, h1, D, G, I, J, _⟩ := h
  rcases List.mem_cons.1 hm with e | e
  ·cases e
   exact ⟨g, t, cs, u, p, h1, D, G, I⟩
  ·exact pq J n d e
theorem rl {P : Program} {w : World} {l : List (String × DataW Unit)} (h : laidMet P l w) {n : String} {d : DataW Unit} (q : (n, d) ∈ l) : rk P w n d :=
 let ⟨_, hv, _⟩ := h
 pq hv n d q
theorem vb {P : Program} {W : World} {q : String} {k : IntKind} {L : List Int} {g : Nat} {t e : TypeId} {n : Nat} (X : P.globalNamed q = some g) (u : (P.globals[g]?).map (·.type) = some t)
  (ht : P.underlying t = some (.array n e)) (he : P.underlying e = some (.int k)) (D : P.cellsOf e = 1) (G : P.cellsOf t = n) (h : rk P W q (Lib.tabData k L)) : Lib.TabIs P W q k L := by
 obtain ⟨g', t', cs, U, p, I, J, r, hd⟩ := h
 obtain rfl := Option.some.inj (X.symm.trans I)
 obtain rfl := Option.some.inj (u.symm.trans J)
 unfold Lib.TabIs
 rw [r, ← Lib.cells_of_tab ht he D G hd]
theorem mh {P : Program} {W w : World} {n : String} {cs : Array Value} (h : jf (hD W) w) (q : W.var? P n = some cs) : w.var? P n = some cs := by
 obtain ⟨a, u, e⟩ := h
 unfold World.var? at q ⊢
 cases hg : P.globalNamed n with
 | none => rw [hg] at q; cases q
 | some g =>
  rw [hg] at q
  simp only [Option.bind_some] at q ⊢
  cases ho : W.heap[g]? with
  | none => rw [ho] at q; cases q
  | some o =>
   have r : g < W.heap.size := (Array.getElem?_eq_some_iff.1 ho).1
   have h1 : w.heap[g]? = some o := e g o ((u g r).trans ho)
   rw [ho] at q
   rw [h1]
   exact q
theorem vc {P : Program} {W : World} (h1 : Lib.TabIs P W "internal/strconv.uint64pow10" .u64 Lib.pow10Tab) (q : (P.globalNamed "strconv.ErrSyntax").isSome = true → ∃ u p, W.var? P "strconv.ErrSyntax" = some #[.iface u p]) (r : (P.globalNamed "strconv.ErrRange").isSome = true → ∃ u p, W.var? P "strconv.ErrRange" = some #[.iface u p]) :
  Glb P (hD W) :=
 ⟨fun w h => mh h h1, fun e w h => let ⟨u, p, e⟩ := q e; ⟨u, p, mh h e⟩, fun e w h => let ⟨u, p, e⟩ := r e; ⟨u, p, mh h e⟩⟩
theorem pt {H : Type} {enc : TypeId × Value → H} {C : Checked} {os : Os} {f : FuncId} {fn : Func} {s : OpenSpec} {q : List PathCond} {qR : Bool} {r : List (String × DataW Unit)} (u : World) (args : Array Value) (I : u.os = os)
  (J : (u.forCall (fun _ _ => 0) ⟨#[], args, []⟩).Shaped C.prog)
  (D : Input.okWideB C.prog (u.forCall (fun _ _ => 0) ⟨#[], args, []⟩) f ⟨#[], args, []⟩ = true)
  (G : s.preRow enc C.prog fn q qR r (u.forCall (fun _ _ => 0) ⟨#[], args, []⟩).memory args) :
  ∃ (w : World) (tape : Tape) (i : Input), w.os = os ∧ (w.forCall tape i).Shaped C.prog ∧ i.vars = [] ∧ Input.okWide C.prog (w.forCall tape i) .any w.heap.size f i ∧
   s.preRow enc C.prog fn q qR r (w.forCall tape i).memory i.args ∧ ({} : Assume).holds C.prog (lone (Frame.enter C.prog f i.args .normal) [] (w.forCall tape i)) :=
 ⟨u, fun _ _ => 0, ⟨#[], args, []⟩, I, J, (Input.okWide_of_okWideB (base := 0) D).1, (Input.okWide_of_okWideB D).2, G, by
  simp only [Assume.holds]
  exact ⟨by simp, by simp, fun _ => Modest.zero, by simp, by simp⟩⟩
end Go.Proofs.YtndjkejhacfpdaaGreatDoor

namespace Go.Proofs.YtndjkejhacfpdaaGreatDoor.walCompacts
open Go.RowKit Go.ChangeShapes Go.WideShapes Go.ChangeAt
open Go.ChangeMaps (open_string shut_string)
theorem own : ownKnob Tryz.prog.godebug = none := by kernel_rfl
theorem laidOut : laidOutB Tryz.prog = true := by kernel_rfl
theorem glb {W : World} (q : laidMetH Tryz.prog Rows.walCompactsUptoRow.laid W) : Glb Tryz.prog (hD W) := by
 rw [MakeChecks.laidMetH_plain _ _ _ (by kernel_rfl)] at q
 exact vc (vb (g := 0) (t := 198) (e := 174) (by kernel_rfl) (by kernel_rfl) Tryz.underlying198 Tryz.underlying174 (by kernel_rfl) (by kernel_rfl) (rl q (n := "internal/strconv.uint64pow10") (d := Rows.laid_internal_strconv_uint64pow10) (.tail _ (.tail _ (.head _))))) (fun h => by rw [show (Tryz.prog.globalNamed "strconv.ErrSyntax").isSome = false by kernel_rfl] at h; cases h) (fun h => by rw [show (Tryz.prog.globalNamed "strconv.ErrRange").isSome = false by kernel_rfl] at h; cases h)
theorem laid_met (os : Os) (args : Array Value) : laidMetH Tryz.prog Rows.walCompactsUptoRow.laid ((World.laidAll Tryz.prog os Rows.walCompactsUptoRow.laid).forCall (fun _ _ => 0) ⟨#[], args, []⟩).memory := by
 rw [MakeChecks.laidMetH_plain _ _ _ (by kernel_rfl)]
 exact laidMet_laidAll args (by kernel_rfl) (by kernel_rfl)
theorem opensT35 {H : Type} (W : World) (q : Bool) (enc : TypeId × Value → H) : fd enc Tryz.prog W q 35 (V35 (hD W)) vp :=
 (ii Tryz.underlying35 (by kernel_rfl) (by kernel_rfl) (by kernel_rfl) (dV (fb Tryz.underlying3 (by kernel_rfl)) (dV (fb Tryz.underlying3 (by kernel_rfl)) (dV (fb Tryz.underlying3 (by kernel_rfl)) (iW (pN Tryz.underlying33 Tryz.underlying5 (by kernel_rfl) (by kernel_rfl) (by kernel_rfl))))))).mono (fun x r h => by obtain ⟨_, _, rfl, rfl, ⟨_, _, rfl, rfl, ⟨_, _, rfl, rfl, ⟨a3, u, rfl, D, G, I⟩⟩⟩⟩ := h; exact ⟨a3, u, rfl, ⟨D, G, I⟩⟩) (fun x h => h)
theorem opensT56 {H : Type} (W : World) (q : Bool) (enc : TypeId × Value → H) : fd enc Tryz.prog W q 56 (V56 (hD W)) vN :=
 fd.map (fun x => (x.1, x.2.1, x.2.2.1, x.2.2.2.1.1, x.2.2.2.1.2.1, x.2.2.2.1.2.2, x.2.2.2.2.1, x.2.2.2.2.2.1, x.2.2.2.2.2.2)) (ii Tryz.underlying56 (by kernel_rfl) (by kernel_rfl) (by kernel_rfl) (dV (fb Tryz.underlying3 (by kernel_rfl)) (dV (fb Tryz.underlying3 (by kernel_rfl)) (iW (ii Tryz.underlying45 (by kernel_rfl) (by kernel_rfl) (by kernel_rfl) (dV (qb Tryz.underlying4 (by kernel_rfl)) (dV (ii Tryz.underlying43 (by kernel_rfl) (by kernel_rfl) (by kernel_rfl) (dV (fb Tryz.underlying3 (by kernel_rfl)) (dV (fb Tryz.underlying3 (by kernel_rfl)) (iW (fb Tryz.underlying3 (by kernel_rfl)))))) (dV (fb Tryz.underlying3 (by kernel_rfl)) (dV (fb Tryz.underlying3 (by kernel_rfl)) (iW (lX (n := 4) (B := 48) Tryz.underlying32 (by kernel_rfl) (by kernel_rfl) (by kernel_rfl) (opensT35 W q enc)))))))))))) (fun x r h => by obtain ⟨_, _, rfl, rfl, ⟨_, _, rfl, rfl, ⟨_, _, rfl, rfl, ⟨_, _, rfl, ⟨_, _, rfl, rfl, ⟨_, _, rfl, rfl, rfl⟩⟩, ⟨_, _, rfl, rfl, ⟨_, _, rfl, rfl, ⟨a8, c8, rfl, h8, k8, m8⟩⟩⟩⟩⟩⟩⟩ := h; exact ⟨a8, c8, rfl, ⟨h8, k8, m8⟩⟩) (fun x h => by obtain ⟨u, D, ⟨o2, ⟨G, I, J⟩, L, U, X⟩⟩ := h; exact ⟨u, D, o2, G, I, J, L, U, X⟩) (fun x => by obtain ⟨u, D, ⟨o2, ⟨G, I, J⟩, L, U, X⟩⟩ := x; simp only [fE, Nat.add_assoc])
set_option maxRecDepth 100000 in
theorem lifted (os : Os) (D : os.Started) (H : Type) (enc : TypeId × Value → H) (F : Stop.Interp) :
  ReturnsInHanded {} Tryz.checked os 7 .any ((Rows.OpenSpec.upto Rows.walCompactsSpec).preRow enc Tryz.prog Tryz.f7 Rows.walCompactsUptoRow.domain false Rows.walCompactsUptoRow.laid) (((Rows.OpenSpec.upto Rows.walCompactsSpec).at F).post enc Tryz.prog Tryz.f7 false true false false) := by
 refine returnsInHanded_of_row (C := Tryz.checked) (s := (Rows.OpenSpec.upto Rows.walCompactsSpec)) own D (by kernel_rfl) Tryz.func7
  (pt (enc := enc) (C := Tryz.checked) (World.laidAll Tryz.prog os Rows.walCompactsUptoRow.laid) #[.int .i64 0, .slice none 0 0, .int .i64 0] (World.laidAll_os _ _ _) (World.shaped_of_ZipB (by kernel_rfl) (by kernel_rfl)) (by kernel_rfl)
   (OpenSpec.preRow_of_cond 8 (x := ([.lit (.int .i64 0), .nil, .lit (.int .i64 0)], [], [])) (by kernel_rfl) (by kernel_rfl) (fun k hk => by cases hk; kernel_rfl) (by kernel_rfl) (laid_met os _))) ?_
 intro W base args ds gs bc G hW b9 L I hL _ _
 have br := glb hL
 have bs := L _ rfl
 have J : (DataW.weightsEach Tryz.prog (Tryz.f7.params.toList ++ (Rows.OpenSpec.upto Rows.walCompactsSpec).bare.plain.varTypes Tryz.prog) (ds ++ gs)).all (· ≤ reachBytes) = true := I
 have r : ∀ (j : Nat) t v, Tryz.f7.params[j]? = some t → args[j]? = some v → Value.okWide Tryz.prog W .any base t v := G
 have b0 := hW
 obtain ⟨p, q, U, hV, rfl, c7, c8⟩ := hW
 have hA : DataW.TrodAll enc Tryz.prog W 0 (fun _ => true) true Tryz.f7.params.toList args.toList ds p := U
 rw [Tryz.params7] at hA r J
 obtain ⟨v0, c9, d0, dl, p0, q0, b1, rfl, rfl, h0, r0⟩ := trodAll_cons hA
 obtain ⟨v1, d5, d1, d7, p1, q1, rfl, rfl, rfl, h1, r1⟩ := trodAll_cons r0
 obtain ⟨v2, ea, d2, eb, p2, q2, rfl, rfl, rfl, h2, r2⟩ := trodAll_cons r1
 obtain ⟨rfl, rfl, rfl⟩ := trodAll_nil r2
 obtain rfl : args = #[v0, v1, v2] := by cases args; simp_all
 obtain ⟨rfl, rfl⟩ := trodVars_none hV
 obtain ⟨a0, rfl, rfl, rfl, w0⟩ := open_int Tryz.underlying3 (r 0 3 v0 rfl rfl) h0
 obtain ⟨b2, X, ab, rfl⟩ := okWide_slice Tryz.underlying51 (r 1 51 v1 rfl rfl)
 have k1 := h1
 have b3 : ∀ x ∈ p1, x.block < W.heap.size := by obtain ⟨m, hm⟩ := k1; exact DataW.trod_lt m _ _ _ hm
 obtain ⟨b4, b5⟩ := h1
 obtain ⟨u, ⟨ad, af, al, an, a1, a6⟩, _, _, b6, a7⟩ := (lX (n := 9) (B := 88) Tryz.underlying51 (by kernel_rfl) (by kernel_rfl) (by kernel_rfl) (opensT56 W true enc)) _ _ _ b5 (ri J (j := 1) (t := 51) rfl rfl)
 replace a7 : _ ≤ Rows.uptoBulk d1 := a7
 have e1 : Value.slice b2 X ab = .slice ad u.length af := by simpa [Value.cells] using al
 injection e1 with ea1 eb1 ec1
 subst ea1 eb1 ec1
 obtain ⟨a2, rfl, rfl, rfl, w2⟩ := open_int Tryz.underlying3 (r 2 3 v2 rfl rfl) h2
 have b7 : Rows.uptoBulkAll [_, _, _] ≤ 1048576 := of_decide_eq_true bs
 simp only [Rows.uptoBulkAll] at b7
 have hu : Mu.mu u ≤ 1048576 := by omega
 clear U G I J
 obtain ⟨k, hk⟩ := md a0 w0 u b6 a2 w2 hu
 refine (se (bQ.calls W (hD W) k a0 _ _ u a2 an a1 a6 br) hk (fun _ => rfl)).mono fun e W' ⟨he, a8⟩ => ?_
 subst he
 exact ⟨_, rfl, _, _, _, [], _, [], b0, trodAll_mk1 (shut_bool Tryz.underlying4 _), (trodAll_cons_mk (shut_int Tryz.underlying3 w0) (trodAll_cons_mk (Below.trod laidOut (by kernel_rfl) (of_decide_eq_true (by kernel_rfl)) k1 a8 b3) (trodAll_cons_mk (shut_int Tryz.underlying3 w2) trodAll_mk0))), rfl, a8.frame _, fun h => by cases h⟩
theorem said : Rows.WalCompactsUptoSaid :=
 OpenClaim.holds_of_cond 7 Tryz.f7 rfl rfl rfl rfl rfl rfl rfl ⟨rfl, rfl, rfl, rfl, rfl⟩ rfl rfl rfl rfl rfl (by kernel_rfl) Tryz.func7 (by kernel_rfl)
  (of_decide_eq_true (by kernel_rfl)) (by unfold Func.isWrapper; first | (rw [if_pos (by decide +kernel)]; kernel_rfl) | (rw [if_neg (by decide +kernel)]; exact ⟨rfl, rfl⟩))
  (fun os q H enc _ F => by rw [OpenClaim.pre_eq_preRow]; exact lifted os q H enc F)
theorem plain (f : FuncId) (fn : Func) (G : Tryz.pinned.checked.prog.funcNamed "synod/synodlaw5.WalCompacts" = some f) (r : Tryz.pinned.checked.prog.funcs[f]? = some fn) :
  true = Tryz.pinned.checked.prog.looks [] ∧ ∀ (j : Nat) t, fn.params[j]? = some t → Tryz.pinned.checked.prog.wantsStandIn t = false := by
 obtain rfl : f = 7 := Option.some.inj ((show Tryz.prog.funcNamed "synod/synodlaw5.WalCompacts" = some 7 by kernel_rfl).symm.trans G) |>.symm
 obtain rfl : fn = Tryz.f7 := (Option.some.inj (Tryz.func7.symm.trans r)).symm
 refine ⟨by kernel_rfl, fun j t D => ?_⟩
 rw [Tryz.params7] at D
 have I : t ∈ [3, 51, 3] := by simpa using Array.mem_of_getElem? D
 have q : ([3, 51, 3].all fun u => !Tryz.prog.wantsStandIn u) = true := by kernel_rfl
 exact (show Tryz.prog.wantsStandIn t = false by simpa using List.all_eq_true.1 q t I)
theorem card : Rows.WalCompactsUptoCardSaid :=
 Claim7.holds_tied_plain_at .later [] _ _ _ _ said (fun _ h => by cases h) (by kernel_rfl) (fun _ h => by cases h) walCompactsUpto_row_tie rfl ⟨rfl, rfl⟩ (by kernel_rfl) rfl plain (by kernel_rfl)
end Go.Proofs.YtndjkejhacfpdaaGreatDoor.walCompacts
namespace Go.Proofs.YtndjkejhacfpdaaGreatDoor
/-- The card, under a short name, for the claim. -/
theorem walCompacts_holds : Rows.WalCompactsUptoCardSaid := walCompacts.card
end Go.Proofs.YtndjkejhacfpdaaGreatDoor

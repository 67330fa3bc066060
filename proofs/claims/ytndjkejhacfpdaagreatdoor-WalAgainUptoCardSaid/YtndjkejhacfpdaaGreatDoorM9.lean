/- Texts that lead to the law WalAgain: PlGen, PlRd, PlWt, PlCd, PlCd2, PlCd3, PlMap, PlDk0, PlDk1, Rw, Rw2, Rw3, PlDkF, PlFr, PlFr2, PlNm, PlWl1, PlWl2, PlWl3, PlWl4, PlWl5, PlWl6, PlWl7, PlWl8, PlWl9. Conditions: as each says. -/
import Derived.Test.YtndjkejhacfpdaaGreatDoorM8
import Derived.SizedLaws
import Derived.Test.YtndjkejhacfpdaaGreatDoorRows
import Derived.ProofKit
import Derived.OpenShut
import Derived.ShutString
import Derived.ChangeOld
import Derived.Deep.CondSized
import Derived.JoinedCond
import Derived.Lib.ItoaMem
import Derived.Lib.Repeat
import Derived.Lib.SlTrimSet
set_option linter.unusedVariables false
set_option linter.unusedSimpArgs false
set_option linter.unusedSectionVars false
namespace Go.Proofs.YtndjkejhacfpdaaGreatDoor
open Go.RowKit
theorem cP (x : Int) : (aM x).length ≤ 9 := by
 unfold aM
 split
 ·rename_i h; have := h.2; exact sv9 (by omega)
 ·simp
theorem pD (x : Int) : erV x = 0 ↔ okN x := by unfold erV; split <;> simp_all
theorem yL {l : List UInt8} (h : (dec l).2.2 = 0) : ∃ i, dT l = i ∧ i < 9 ∧ i < l.length ∧ ¬ (0 < i ∧ (l.getD i 0).toNat = 0) ∧ fB (i + 1) l ≤ 2 ^ 62 ∧ dec l = (((fB (i + 1) l : Nat) : Int), ((i + 1 : Nat) : Int), (0 : Int)) := by
 by_cases h9 : 9 ≤ dT l
 ·rw [rS h9] at h; simp at h
 by_cases hs : l.length ≤ dT l
 ·rw [pS (by omega) hs] at h; simp at h
 rw [mq rfl (by omega) (by omega)] at h
 by_cases hz : 0 < dT l ∧ (l.getD (dT l) 0).toNat = 0
 ·rw [if_pos hz] at h; simp at h
 rw [if_neg hz] at h
 by_cases hb : 2 ^ 62 < fB (dT l + 1) l
 ·rw [if_pos hb] at h; simp at h
 refine ⟨dT l, rfl, by omega, by omega, hz, by omega, ?_⟩
 rw [mq rfl (by omega) (by omega), if_neg hz, if_neg hb]
theorem xU {l : List UInt8} (h : ¬ (dec l).2.2 = 0) : (dec l).1 = 0 ∧ (dec l).2.1 = 0 := by
 by_cases h9 : 9 ≤ dT l
 ·rw [rS h9]; exact ⟨rfl, rfl⟩
 by_cases hs : l.length ≤ dT l
 ·rw [pS (by omega) hs]; exact ⟨rfl, rfl⟩
 rw [mq rfl (by omega) (by omega)] at h ⊢
 by_cases hz : 0 < dT l ∧ (l.getD (dT l) 0).toNat = 0
 ·rw [if_pos hz]; exact ⟨rfl, rfl⟩
 rw [if_neg hz] at h ⊢
 by_cases hb : 2 ^ 62 < fB (dT l + 1) l
 ·rw [if_pos hb]; exact ⟨rfl, rfl⟩
 ·rw [if_neg hb] at h; exact absurd rfl h
theorem yv (l : List UInt8) (p n : Nat) : cut l (p : Int) ((p + n : Nat) : Int) = (l.drop p).take n := by
 simp only [cut, Int.toNat_natCast]
 rw [List.drop_take]
 congr 1
 omega
end Go.Proofs.YtndjkejhacfpdaaGreatDoor

namespace Go.Proofs.YtndjkejhacfpdaaGreatDoor
open Go.RowKit
theorem mL {x : List UInt8} (h : x.length ≤ 140737488355328) : fx.f x = some x := by
 unfold fx.f
 rw [if_pos (by omega)]
 simp [jU]
/-! ### The reader -/
theorem wy {b : List UInt8} {p : Nat} (h : (jA b (p : Int)).2.2 = 0) : ∃ n j : Nat, jA b (p : Int) = ((n : Int), (j : Int), 0) ∧ 1 ≤ j ∧ p + j ≤ b.length ∧ n ≤ 2 ^ 62 := by
 unfold jA at h ⊢
 by_cases hat : (p : Int) < 0 ∨ (b.length : Int) ≤ (p : Int)
 ·rw [if_pos hat] at h; simp at h
 ·rw [if_neg hat] at h ⊢
  obtain ⟨i, hi, G, u, I, D, hd⟩ := yL h
  simp only [Int.toNat_natCast, List.length_drop] at u D hd ⊢
  exact ⟨_, _, hd, by omega, by omega, D⟩
theorem vz {b : List UInt8} {p : Int} (h : ¬ (jA b p).2.2 = 0) : (jA b p).1 = 0 ∧ (jA b p).2.1 = 0 := by
 unfold jA at h ⊢
 by_cases hat : p < 0 ∨ (b.length : Int) ≤ p
 ·rw [if_pos hat]; exact ⟨rfl, rfl⟩
 ·rw [if_neg hat] at h ⊢; exact xU h
def gC (b : List UInt8) (p : Nat) (e : Int) : Int × Int × Int := if e = 0 then jA b (p : Int) else (0, 0, e)
theorem pj {b : List UInt8} {p : Nat} {e : Int} (h : (gC b p e).2.2 = 0) : ∃ n j : Nat, gC b p e = ((n : Int), (j : Int), 0) ∧ 1 ≤ j ∧ p + j ≤ b.length ∧ n ≤ 2 ^ 62 := by
 unfold gC at h ⊢
 by_cases he : e = 0
 ·rw [if_pos he] at h ⊢; exact wy h
 ·rw [if_neg he] at h; exact absurd h he
theorem rW {b : List UInt8} {p : Nat} {e : Int} (h : ¬ (gC b p e).2.2 = 0) : (gC b p e).1 = 0 ∧ (gC b p e).2.1 = 0 := by
 unfold gC at h ⊢
 by_cases he : e = 0
 ·rw [if_pos he] at h ⊢; exact vz h
 ·rw [if_neg he]; exact ⟨rfl, rfl⟩
theorem tq {k : Nat} (D : 12 ≤ k) {b : List UInt8} (u : b.length < 2 ^ 62) (p : Nat) (e : Int) :
  eE.f k b (p : Int) e = some ((gC b p e).1, (gC b p e).2.1, decide ((gC b p e).2.2 = 0), (p : Int), (gC b p e).2.2) := by
 unfold eE.f gC
 by_cases he : e = 0
 ·rw [if_pos he, if_pos he, sA (by omega) u]; rfl
 ·rw [if_neg he, if_neg he]; simp [he]
def kn (b : List UInt8) (p : Nat) (e : Int) : Nat := p + (gC b p e).2.1.toNat
theorem sT {b : List UInt8} {p : Nat} {e : Int} (hp : p ≤ b.length) : kn b p e ≤ b.length := by
 unfold kn
 by_cases h : (gC b p e).2.2 = 0
 ·obtain ⟨n, j, hd, h1, u, D⟩ := pj h
  rw [hd]; simpa using u
 ·rw [(rW h).2]; simpa using hp
theorem xE {k : Nat} (D : 12 ≤ k) {b : List UInt8} (G : b.length < 2 ^ 62) (p : Nat) (e : Int) (hp : p ≤ b.length) :
  bF.f k b (p : Int) e = some ((gC b p e).1, ((kn b p e : Nat) : Int), (gC b p e).2.2) := by
 unfold bF.f kn
 rw [tq D G]
 simp only [Option.bind_some]
 by_cases h : (gC b p e).2.2 = 0
 ·obtain ⟨n, j, hd, h1, u, I⟩ := pj h
  rw [hd]
  simp only [decide_true, Bool.not_true, Bool.false_eq_true, if_false, Int.toNat_natCast]
  rw [w64 (by omega) (by omega)]
  simp
 ·obtain ⟨h1, u⟩ := rW h
  rw [if_pos (by simp [h]), h1, u]
  rfl
def hD (b : List UInt8) (p : Nat) (e : Int) (most : Int) : List UInt8 × Nat × Int :=
 let d := gC b p e
 if d.2.2 = 0 then
  if max most 0 < d.1 then ([], p, 3) else
  if (b.length : Int) - (kn b p e : Nat) < d.1 then ([], p, 2) else ((b.drop (kn b p e)).take d.1.toNat, kn b p e + d.1.toNat, 0)
 else ([], p, d.2.2)
theorem uY {k : Nat} (u : 12 ≤ k) {b : List UInt8} (L : b.length < 2 ^ 47) (p : Nat) (e most : Int) (hp : p ≤ b.length) :
  dv.f k b (p : Int) e most = some ((hD b p e most).1, (((hD b p e most).2.1 : Nat) : Int), (hD b p e most).2.2) := by
 unfold dv.f hD kn
 rw [tq u (by omega)]
 simp only [Option.bind_some]
 by_cases h : (gC b p e).2.2 = 0
 ·obtain ⟨n, j, hd, h1, U, X⟩ := pj h
  rw [hd]
  simp only [decide_true, Bool.not_true, Bool.false_eq_true, if_false, if_true, Int.toNat_natCast]
  by_cases hn : max most 0 < (n : Int)
  ·rw [if_pos hn, if_pos hn]
  ·rw [if_neg hn, if_neg hn]
   have D : IntKind.i64.wrap ((b.length : Int) - (p : Int)) = (b.length : Int) - (p : Int) := w64 (by omega) (by omega)
   have G : IntKind.i64.wrap (((b.length : Int) - (p : Int)) - (j : Int)) = (b.length : Int) - ((p + j : Nat) : Int) := by rw [w64 (by omega) (by omega)]; omega
   have I : IntKind.i64.wrap ((p : Int) + (j : Int)) = ((p + j : Nat) : Int) := by rw [w64 (by omega) (by omega)]; simp
   rw [D, G]
   by_cases hs : (b.length : Int) - ((p + j : Nat) : Int) < (n : Int)
   ·rw [if_pos hs, if_pos hs]
   ·have J : IntKind.i64.wrap (((p + j : Nat) : Int) + (n : Int)) = ((p + j + n : Nat) : Int) := by rw [w64 (by omega) (by omega)]; simp
    rw [if_neg hs, if_neg hs, I, J, if_pos (by omega), yv, mL (by rw [List.length_take, List.length_drop]; omega)]
    rfl
 ·rw [if_pos (by simp [h])]; simp [h]
theorem vb {b : List UInt8} {p : Nat} {e most : Int} (hp : p ≤ b.length) : (hD b p e most).2.1 ≤ b.length ∧ (hD b p e most).1.length ≤ b.length := by
 unfold hD
 simp only []
 have := sT (e := e) hp
 split
 ·split
  ·exact ⟨hp, by simp⟩
  ·split
   ·exact ⟨hp, by simp⟩
   ·rename_i h1 u D
    refine ⟨by simp only []; omega, ?_⟩
    simp only [List.length_take, List.length_drop]; omega
 ·exact ⟨hp, by simp⟩
end Go.Proofs.YtndjkejhacfpdaaGreatDoor

namespace Go.Proofs.YtndjkejhacfpdaaGreatDoor
open Go.RowKit
def rj (b : List UInt8) (e x : Int) : List UInt8 × Int := if e = 0 then (b ++ aM x, erV x) else (b, e)
def oG (b : List UInt8) (e : Int) (l : List UInt8) (most : Int) : List UInt8 × Int :=
 if e = 0 then (if max most 0 < (l.length : Int) then (b, 3) else (b ++ aM (l.length : Int) ++ l, 0)) else (b, e)
theorem sS {k : Nat} (u : 10 ≤ k) {b : List UInt8} (D : b.length + 9 ≤ 140737488355328) (e x : Int) : bz.f k b e x = some (rj b e x) := by
 unfold bz.f rj
 by_cases he : e = 0
 ·rw [if_pos he, if_pos he, qs u, Option.bind_some]
  unfold aM erV
  by_cases h : okN x
  ·obtain ⟨n, rfl⟩ := Int.eq_ofNat_of_zero_le h.1
   have G : n ≤ 4611686018427387904 := by have := h.2; omega
   have I := sv9 (n := n) (by omega)
   rw [if_neg (by rw [oh]; simpa using h), if_pos h, if_pos h]
   show ((cX.f k qt b (n : Int)).bind _) = _
   rw [ux u _ _ (by omega), sF _ _ (by omega), he]
   rfl
  ·rw [if_pos ((oh x).2 h), if_neg h, if_neg h]; simp
 ·rw [if_neg he, if_neg he]
theorem ya {l : List UInt8} (h : l.length < 2 ^ 47) : okN (l.length : Int) := ⟨by omega, by omega⟩
theorem uX {k : Nat} (u : 10 ≤ k) {b l : List UInt8} (G : b.length + 9 + l.length < 140737488355328) (e most : Int) : dJ.f k b e l most = some (oG b e l most) := by
 unfold dJ.f oG
 by_cases he : e = 0
 ·by_cases hm : max most 0 < (l.length : Int)
  ·rw [if_pos (by simp [he]; omega), if_pos he, if_pos hm]; rfl
  ·have D := ya (l := l) (by omega)
   have I := cP (l.length : Int)
   rw [if_neg (by simp; omega), if_pos he, if_neg hm, Option.bind_some, if_pos he, sS u (by omega), Option.bind_some]
   unfold rj
   rw [if_pos he, (pD _).2 D]
   simp only []
   rw [if_pos (by rw [List.length_append]; omega)]
 ·rw [if_neg (by simp [he]), if_neg he, Option.bind_some, if_neg he]
def qq (b : List UInt8) (e : Int) : List UInt8 × Int := if e = 0 then (b, 0) else ([], e)
theorem wi {b : List UInt8} (u : b.length ≤ 140737488355328) (e : Int) : dF.f b e = some (qq b e) := by
 unfold dF.f qq
 by_cases he : e = 0
 ·rw [if_pos he, if_pos he, mL u]; rfl
 ·rw [if_neg he, if_neg he]
end Go.Proofs.YtndjkejhacfpdaaGreatDoor

namespace Go.Proofs.YtndjkejhacfpdaaGreatDoor
open Go.RowKit
def rg (x l : Int) : Prop := l ≤ x ∧ x ≤ 4611686018427387904
instance (x l : Int) : Decidable (rg x l) := by unfold rg; infer_instance
theorem nk {x l : Int} (h : rg x l) (u : 0 ≤ l) : okN x := ⟨Int.le_trans u h.1, h.2⟩
theorem pb (x l : Int) : ct.f x l = some (decide (rg x l)) := by
 have : (decide (l ≤ x) && decide (x ≤ 4611686018427387904)) = decide (rg x l) := by rw [Bool.eq_iff_iff, Bool.and_eq_true, decide_eq_true_iff, decide_eq_true_iff, decide_eq_true_iff]; rfl
 unfold ct.f; rw [this]
/-! ### Checks -/
def iY (t i kd : Int) (d : List UInt8) : Int := if ¬ (rg t 1 ∧ rg i 1) then 1 else if kd ≠ 0 ∧ kd ≠ 1 then 6 else if 4096 < (d.length : Int) then 3 else if kd = 0 ∧ 0 < (d.length : Int) then 4 else 0
def wW (i t : Int) (d : List UInt8) : Prop := (i = 0 ∧ t = 0) ∧ (d.length : Int) = 0
instance (i t : Int) (d : List UInt8) : Decidable (wW i t d) := by unfold wW; infer_instance
theorem cE (t i kd : Int) (d : List UInt8) : bG.f t i kd d = some (iY t i kd d) := by
 unfold bG.f iY
 simp only [pb, Option.bind_some]
 by_cases h1 : rg t 1 <;> by_cases h2 : rg i 1 <;> simp [h1, h2]
 by_cases h3 : kd = 0 <;> by_cases h4 : kd = 1 <;> simp [h3, h4] <;> (repeat' split) <;> simp_all <;> omega
end Go.Proofs.YtndjkejhacfpdaaGreatDoor

namespace Go.Proofs.YtndjkejhacfpdaaGreatDoor
open Go.RowKit
theorem zc {x : Int} (h : okN x) (b : List UInt8) : rj b 0 x = (b ++ aM x, 0) := by unfold rj; rw [if_pos rfl, (pD x).2 h]
theorem xD {d : List UInt8} {m : Int} (h : (d.length : Int) ≤ m) (b : List UInt8) : oG b 0 d m = (b ++ aM (d.length : Int) ++ d, 0) := by
 unfold oG; rw [if_pos rfl, if_neg (by omega)]
theorem yE (b : List UInt8) : qq b 0 = (b, 0) := by unfold qq; rw [if_pos rfl]
theorem wI {k : Nat} (u : 10 ≤ k) {b : List UInt8} (D : b.length ≤ 100000000) {x : Int} (h : okN x) : bz.f k b 0 x = some (b ++ aM x, 0) := by
 rw [sS u (by omega), zc h]
theorem wB {k : Nat} (u : 10 ≤ k) {b d : List UInt8} (D : b.length ≤ 100000000) {m : Int} (h : (d.length : Int) ≤ m) (hd : d.length ≤ 100000000) : dJ.f k b 0 d m = some (b ++ aM (d.length : Int) ++ d, 0) := by
 rw [uX u (by omega), xD h]
theorem wD {b : List UInt8} (u : b.length ≤ 100000000) : dF.f b 0 = some (b, 0) := by rw [wi (by omega), yE]
/-! ### Texts -/
def bB (d : List UInt8) : List UInt8 := aM (d.length : Int) ++ d
theorem qS (d : List UInt8) : (bB d).length ≤ 9 + d.length := by unfold bB; have := cP (d.length : Int); rw [List.length_append]; omega
def txE (t i kd : Int) (d : List UInt8) : List UInt8 := aM t ++ (aM i ++ (aM kd ++ bB d))
theorem fC {t i kd : Int} {d : List UInt8} (h : iY t i kd d = 0) : rg t 1 ∧ rg i 1 ∧ (kd = 0 ∨ kd = 1) ∧ (d.length : Int) ≤ 4096 ∧ (kd = 0 → d = []) := by
 unfold iY at h
 split at h
 ·omega
 ·split at h
  ·omega
  ·split at h
   ·omega
   ·split at h
    ·omega
    ·rename_i h1 u D G
     have h1 := Classical.not_not.1 h1
     refine ⟨h1.1, h1.2, by omega, by omega, fun e => ?_⟩
     exact List.eq_nil_of_length_eq_zero (by omega)
def wb (c : Int) (t : List UInt8) : List UInt8 × Int := if c = 0 then (t, 0) else ([], c)
theorem zb {k : Nat} (u : 10 ≤ k) (t i kd : Int) (d : List UInt8) : eW.f k t i kd d = some (wb (iY t i kd d) (txE t i kd d)) := by
 unfold eW.f dt.f fd.f wb
 rw [cE, Option.bind_some]
 by_cases h : iY t i kd d = 0
 ·obtain ⟨h1, D, I, G, _⟩ := fC h
  have J := cP t; have L := cP i; have U := cP kd; have X := cP (d.length : Int)
  rw [if_pos h, if_pos h, show eS.f = some ([], 0) from rfl]
  simp only [Option.bind_some]
  rw [wI u (by simp) (nk h1 (by decide)), Option.bind_some, wI u (by simp; omega) (nk D (by decide)), Option.bind_some, wI u (by simp; omega) (by unfold okN; omega), Option.bind_some, wB u (by simp; omega) G (by omega), Option.bind_some]
  simp only [Option.bind_some]
  rw [wD (by simp; omega)]
  simp [txE, bB]
 ·rw [if_neg h, if_neg h]; rfl
end Go.Proofs.YtndjkejhacfpdaaGreatDoor

namespace Go.Proofs.YtndjkejhacfpdaaGreatDoor
open Go.RowKit
def rI (b : List UInt8) (p : Nat) (e : Int) : Int × Nat × Int := ((gC b p e).1, kn b p e, (gC b p e).2.2)
def rk (b : List UInt8) (p : Nat) (e : Int) : Int := if e = 0 ∧ p < b.length then 3 else e
theorem uc {b : List UInt8} {p : Nat} {e : Int} (hp : p ≤ b.length) : (rI b p e).2.1 ≤ b.length := sT hp
theorem cI {k : Nat} (hk : 12 ≤ k) {b : List UInt8} (hb : b.length ≤ 100000000) {p : Nat} (hp : p ≤ b.length) (e : Int) : bF.f k b (p : Int) e = some ((rI b p e).1, (((rI b p e).2.1 : Nat) : Int), (rI b p e).2.2) := xE hk (by omega) p e hp
theorem cB {k : Nat} (hk : 12 ≤ k) {b : List UInt8} (hb : b.length ≤ 100000000) {p : Nat} (hp : p ≤ b.length) (e most : Int) : dv.f k b (p : Int) e most = some ((hD b p e most).1, (((hD b p e most).2.1 : Nat) : Int), (hD b p e most).2.2) := uY hk (by omega) p e most hp
theorem rl {b : List UInt8} (hb : b.length ≤ 100000000) : eT.f b = some (b, ((0 : Nat) : Int), 0) := by unfold eT.f; rw [mL (by omega)]; rfl
theorem xF {b : List UInt8} (hb : b.length ≤ 100000000) {p : Nat} (hp : p ≤ b.length) : IntKind.i64.wrap ((b.length : Int) - (p : Int)) = (b.length : Int) - (p : Int) := w64 (by omega) (by omega)
theorem wY {b : List UInt8} (hb : b.length ≤ 100000000) {p : Nat} (hp : p ≤ b.length) (e : Int) : bu.f b (p : Int) e = some (rk b p e) := by
 unfold bu.f cJ.f rk
 simp only [xF hb hp, Option.bind_some]
 by_cases h1 : e = 0 <;> by_cases h2 : p < b.length <;> simp [h1, h2] <;> (repeat' split) <;> first | rfl | omega
/-! ### What is read of any bytes -/
def rm (e c : Int) : Int := if e = 0 then c else e
def rn (b : List UInt8) : Int × Int × Int × List UInt8 × Int :=
 let a := rI b 0 0; let i := rI b a.2.1 a.2.2; let kd := rI b i.2.1 i.2.2; let d := hD b kd.2.1 kd.2.2 4096
 let e := rm (rk b d.2.1 d.2.2) (iY a.1 i.1 kd.1 d.1); if e = 0 then (a.1, i.1, kd.1, d.1, 0) else (0, 0, 0, [], e)
theorem uZ {e c : Int} : (if e = 0 then some c else some e) = some (rm e c) := by unfold rm; split <;> rfl
section
variable {k : Nat} (hk : 12 ≤ k) {b : List UInt8} (hb : b.length ≤ 100000000)
include hk hb
theorem zd : eZ.f k b = some (rn b) := by
 have u : (0 : Nat) ≤ b.length := Nat.zero_le _
 have D := uc (e := 0) u; have G := uc (e := (rI b 0 0).2.2) D; have I := uc (e := (rI b (rI b 0 0).2.1 (rI b 0 0).2.2).2.2) G
 unfold eZ.f dH.f
 rw [rl hb, Option.bind_some]; simp only []
 rw [cI hk hb u, Option.bind_some]; simp only []
 rw [cI hk hb D, Option.bind_some]; simp only []
 rw [cI hk hb G, Option.bind_some]; simp only []
 rw [cB hk hb I, Option.bind_some]; simp only []
 rw [wY hb (vb I).1, Option.bind_some, cE]; simp only [Option.bind_some, uZ]
 unfold rn; simp only []
 split <;> rfl
end
/-! ### What is read of a text -/
theorem sU {b pre r : List UInt8} {x : Int} (h : b = pre ++ (aM x ++ r)) (u : okN x) : gC b pre.length 0 = (x, (((aM x).length : Nat) : Int), (0 : Int)) := by
 subst h
 obtain ⟨n, rfl⟩ := Int.eq_ofNat_of_zero_le u.1
 have D : n ≤ 2 ^ 62 := by have := u.2; omega
 have hb : aM (n : Int) = sv n := by unfold aM; rw [if_pos u]; rfl
 have hp := mx n
 unfold gC jA
 rw [if_pos rfl, hb, if_neg (by rw [List.length_append, List.length_append]; omega), Int.toNat_natCast, List.drop_left']
 ·exact yF D r
 ·rfl
theorem qr {b pre r : List UInt8} {x : Int} (h : b = pre ++ (aM x ++ r)) (u : okN x) : rI b pre.length 0 = (x, (pre ++ aM x).length, 0) := by
 unfold rI kn
 rw [sU h u]; simp
theorem wZ {b pre r d : List UInt8} {most : Int} (h : b = pre ++ (bB d ++ r)) (hd : (d.length : Int) ≤ most) (J : d.length ≤ 100000000) : hD b pre.length 0 most = (d, (pre ++ bB d).length, 0) := by
 have D : okN (d.length : Int) := ⟨by omega, by omega⟩
 have u : b = pre ++ (aM (d.length : Int) ++ (d ++ r)) := by rw [h]; simp [bB]
 have e := sU u D
 have G : kn b pre.length 0 = pre.length + (aM (d.length : Int)).length := by unfold kn; rw [e]; rfl
 unfold hD
 rw [e, G]
 simp only [if_true, Int.toNat_natCast]
 rw [if_neg (by omega), if_neg (by rw [u]; simp only [List.length_append]; omega)]
 have I : b.drop (pre.length + (aM (d.length : Int)).length) = d ++ r := by
  rw [u, ← List.append_assoc, List.drop_left']; simp
 rw [I, List.take_left' rfl]
 simp [bB, Nat.add_assoc]
theorem sV {b pre r : List UInt8} (h : b = pre ++ r) : rk b pre.length 0 = if r = [] then 0 else 3 := by
 subst h
 unfold rk
 by_cases hr : r = []
 ·subst hr; simp
 ·have : 0 < r.length := List.length_pos_iff.2 hr
  rw [if_pos ⟨rfl, by rw [List.length_append]; omega⟩, if_neg hr]
theorem ze {r : List UInt8} : rm (if r = [] then 0 else 3) 0 = if r = [] then 0 else 3 := by unfold rm; split <;> simp_all
theorem xG {t i kd : Int} {d : List UInt8} (h : iY t i kd d = 0) (r : List UInt8) : rn (txE t i kd d ++ r) = if r = [] then (t, i, kd, d, 0) else (0, 0, 0, [], 3) := by
 obtain ⟨h1, u, X, D, _⟩ := fC h
 generalize hb : txE t i kd d ++ r = b
 have G := qr (b := b) (pre := []) (r := aM i ++ (aM kd ++ bB d) ++ r) (x := t) (by rw [← hb]; simp [txE]) (nk h1 (by decide))
 have I := qr (b := b) (pre := [] ++ aM t) (r := aM kd ++ bB d ++ r) (x := i) (by rw [← hb]; simp [txE]) (nk u (by decide))
 have J := qr (b := b) (pre := [] ++ aM t ++ aM i) (r := bB d ++ r) (x := kd) (by rw [← hb]; simp [txE]) (by unfold okN; omega)
 have L := wZ (b := b) (pre := [] ++ aM t ++ aM i ++ aM kd) (r := r) (d := d) (most := 4096) (by rw [← hb]; simp [txE]) D (by omega)
 have U := sV (b := b) (pre := [] ++ aM t ++ aM i ++ aM kd ++ bB d) (r := r) (by rw [← hb]; simp [txE])
 unfold rn
 rw [show (0 : Nat) = ([] : List UInt8).length from rfl, G]; simp only []
 rw [I]; simp only []
 rw [J]; simp only []
 rw [L]; simp only []
 rw [U, h, ze]
 by_cases hr : r = [] <;> simp [hr]
end Go.Proofs.YtndjkejhacfpdaaGreatDoor

namespace Go.Proofs.YtndjkejhacfpdaaGreatDoor
open Go.RowKit
section
variable {α β : Type} [DecidableEq α]
theorem dR : ∀ (l : List (α × β)) (x : α) (y : β) (z : α), aU (aX l x y) z = if x = z then some y else aU l z
 | [], x, y, z => by simp [aX, aU]
 | p :: l, x, y, z => by
  by_cases h : p.1 = x
  ·by_cases hz : x = z <;> simp [aX, aU, h, hz]
  ·by_cases hz : p.1 = z
   ·have u : x ≠ z := fun e => h (hz.trans e.symm)
    subst hz
    simp [aX, aU, h, u]
   ·simp [aX, aU, h, hz, dR l x y z]
theorem pB : ∀ (l : List (α × β)) (x : α) (y : β), (aX l x y).map (·.1) = if x ∈ l.map (·.1) then l.map (·.1) else l.map (·.1) ++ [x]
 | [], x, y => by simp [aX]
 | p :: l, x, y => by
  by_cases h : p.1 = x
  ·simp [aX, h]
  ·have u := pB l x y
   have D : ¬ x = p.1 := fun e => h e.symm
   by_cases hm : x ∈ l.map (·.1)
   ·rw [if_pos hm] at u; rw [if_pos (by simp only [List.map_cons]; exact List.mem_cons_of_mem _ hm)]; simp [aX, h, u]
   ·rw [if_neg hm] at u; rw [if_neg (by rw [List.map_cons, List.mem_cons]; rintro (e | e); exact D e; exact hm e)]; simp [aX, h, u]
theorem ub {l : List (α × β)} {x : α} {y : β} (h : (l.map (·.1)).Nodup) : ((aX l x y).map (·.1)).Nodup := by
 rw [pB]
 split
 ·exact h
 ·rename_i D
  exact List.nodup_append.2 ⟨h, by simp, fun a G b u => by simp at u; subst u; exact fun e => D (e ▸ G)⟩
theorem nT : ∀ (l : List (α × β)) (x : α) (y : β) (e : α × β), e ∈ aX l x y → e = (x, y) ∨ e ∈ l
 | [], x, y, e, h => by simp [aX] at h; exact .inl h
 | p :: l, x, y, e, h => by
  by_cases hp : p.1 = x
  ·simp only [aX, if_pos hp, List.mem_cons] at h
   rcases h with h | h
   ·exact .inl h
   ·exact .inr (List.mem_cons_of_mem _ h)
  ·simp only [aX, if_neg hp, List.mem_cons] at h
   rcases h with h | h
   ·exact .inr (h ▸ List.mem_cons_self)
   ·rcases nT l x y e h with h | h
    ·exact .inl h
    ·exact .inr (List.mem_cons_of_mem _ h)
theorem fW : ∀ (l : List (α × β)) (x : α) (y : β), (aX l x y).length = if (aU l x).isSome then l.length else l.length + 1
 | [], x, y => by simp [aX, aU]
 | p :: l, x, y => by
  by_cases h : p.1 = x
  ·simp [aX, aU, h]
  ·simp only [aX, aU, if_neg h, List.length_cons, fW l x y]; split <;> rfl
theorem rc : ∀ (l : List (α × β)) (x : α), (dM l x).Sublist l
 | [], x => by simp [dM]
 | p :: l, x => by
  by_cases h : p.1 = x
  ·simp only [dM, if_pos h]; exact List.sublist_cons_self _ _
  ·simp only [dM, if_neg h]; exact (rc l x).cons_cons p
theorem re : ∀ (l : List (α × β)) (x : α) (y : β), aU l x = some y → (x, y) ∈ l
 | [], x, y, h => by simp [aU] at h
 | p :: l, x, y, h => by
  by_cases hp : p.1 = x
  ·simp only [aU, if_pos hp, Option.some.injEq] at h; subst hp; subst h; exact List.mem_cons_self
  ·simp only [aU, if_neg hp] at h; exact List.mem_cons_of_mem _ (re l x y h)
theorem kL : ∀ (l : List (α × β)) (x : α), x ∈ l.map (·.1) ↔ (aU l x).isSome = true
 | [], x => by simp [aU]
 | p :: l, x => by
  by_cases hp : p.1 = x
  ·simp [aU, hp]
  ·have u : ¬ x = p.1 := fun e => hp e.symm
   rw [List.map_cons, List.mem_cons, kL l x]; simp [aU, hp, u]
theorem nA : ∀ (l : List (α × β)) (x : α) (y : β), (l.map (·.1)).Nodup → (x, y) ∈ l → aU l x = some y
 | [], x, y, _, h => by simp at h
 | p :: l, x, y, hn, h => by
  rw [List.map_cons, List.nodup_cons] at hn
  rcases List.mem_cons.1 h with h | h
  ·subst h; simp [aU]
  ·have : p.1 ≠ x := fun e => hn.1 (e ▸ List.mem_map_of_mem (f := (·.1)) h)
   simp only [aU, if_neg this]; exact nA l x y hn.2 h
theorem lc : ∀ (l : List (α × β)) (x z : α), (l.map (·.1)).Nodup → aU (dM l x) z = if x = z then none else aU l z
 | [], x, z, _ => by simp [dM, aU]
 | p :: l, x, z, hn => by
  rw [List.map_cons, List.nodup_cons] at hn
  by_cases h : p.1 = x
  ·simp only [dM, if_pos h]
   by_cases hz : x = z
   ·rw [if_pos hz]
    cases hm : aU l z with
    | none => rfl
    | some y => exact absurd (by rw [h, hz]; exact (kL l z).2 (by rw [hm]; rfl)) hn.1
   ·have : ¬ p.1 = z := fun e => hz (h.symm.trans e)
    rw [if_neg hz]; simp only [aU, if_neg this]
  ·simp only [dM, if_neg h]
   by_cases hp : p.1 = z
   ·have : ¬ x = z := fun e => h (hp.trans e.symm)
    rw [if_neg this]; simp only [aU, if_pos hp]
   ·simp only [aU, if_neg hp]; exact lc l x z hn.2
theorem nS : ∀ (l : List (α × β)) (x : α), (aU l x).isSome = true → (dM l x).length + 1 = l.length
 | [], x, h => by simp [aU] at h
 | p :: l, x, h => by
  by_cases hp : p.1 = x
  ·simp [dM, hp]
  ·simp only [aU, if_neg hp] at h
   simp only [dM, if_neg hp, List.length_cons, nS l x h]
end
theorem rf {β : Type} (kvs : List (List UInt8 × β)) : (ez kvs).Pairwise (· ≤ ·) := by
 have := List.pairwise_mergeSort (le := fun x y : List UInt8 => decide (x ≤ y)) (fun a b c h1 u => by simp only [decide_eq_true_eq] at *; exact List.le_trans h1 u) (fun a b => by simp only [Bool.or_eq_true, decide_eq_true_eq]; exact List.le_total a b) (kvs.map (·.1))
 exact this.imp fun h => of_decide_eq_true h
theorem kt {β : Type} (kvs : List (List UInt8 × β)) : (ez kvs).Perm (kvs.map (·.1)) := List.mergeSort_perm _ _
theorem rh {β : Type} {kvs : List (List UInt8 × β)} (h : (kvs.map (·.1)).Nodup) : (ez kvs).Pairwise (· < ·) := by
 have h1 := rf kvs
 have u : (ez kvs).Nodup := (kt kvs).nodup_iff.2 h
 refine (h1.and u).imp fun {a b} ⟨x, y⟩ => ?_
 rcases List.le_iff_lt_or_eq.1 x with h | h
 ·exact h
 ·exact absurd h y
theorem pC : ∀ {l m : List (List UInt8)}, l.Pairwise (· < ·) → m.Pairwise (· < ·) → (∀ x, x ∈ l ↔ x ∈ m) → l = m
 | [], [], _, _, _ => rfl
 | [], b :: m, _, _, h => absurd ((h b).2 (by simp)) (by simp)
 | a :: l, [], _, _, h => absurd ((h a).1 (by simp)) (by simp)
 | a :: l, b :: m, hl, hm, h => by
  have D := List.pairwise_cons.1 hl
  have G := List.pairwise_cons.1 hm
  have hab : a = b := by
   have h1 := (h a).1 (by simp)
   have I := (h b).2 (by simp)
   simp only [List.mem_cons] at h1 I
   rcases h1 with h1 | h1
   ·exact h1
   ·rcases I with I | I
    ·exact I.symm
    ·exact absurd (D.1 b I) (List.lt_asymm (G.1 a h1))
  subst hab
  refine congrArg _ (pC D.2 G.2 fun x => ?_)
  have J := h x
  simp only [List.mem_cons] at J
  constructor
  ·intro u
   rcases J.1 (.inr u) with e | e
   ·subst e; exact absurd (D.1 x u) (List.lt_irrefl _)
   ·exact e
  ·intro u
   rcases J.2 (.inr u) with e | e
   ·subst e; exact absurd (G.1 x u) (List.lt_irrefl _)
   ·exact e
end Go.Proofs.YtndjkejhacfpdaaGreatDoor

namespace Go.Proofs.YtndjkejhacfpdaaGreatDoor
open Go.RowKit
theorem nU {α : Type} (l : List α) (d : α) (i : Nat) (h : i < l.length) : l.getD i d = l[i] := by simp [List.getD_eq_getElem?_getD, List.getElem?_eq_getElem h]
theorem fR {α : Type} (l : List α) (d : α) {i : Nat} (h : i < l.length) : l.drop i = l.getD i d :: l.drop (i + 1) := by rw [nU _ _ _ h]; exact List.drop_eq_getElem_cons h
theorem wi1 {i : Nat} (h : i < 2 ^ 62) : IntKind.i64.wrap ((i : Int) + 1) = ((i + 1 : Nat) : Int) := by rw [w64 (by omega) (by omega)]; simp
/-! ### Names -/
def mN (c : UInt8) : Bool := ((((decide (((c.toNat : Int)) < (97 : Int))) || (decide ((122 : Int) < (c.toNat : Int)))) && ((decide ((c.toNat : Int) < (48 : Int))) || (decide ((57 : Int) < (c.toNat : Int))))) && (!decide ((c.toNat : Int) = (45 : Int)))) && (!decide ((c.toNat : Int) = (46 : Int)))
def nmB (x : List UInt8) : Bool := (x.all fun c => !mN c) && (decide ((0 : Int) < (x.length : Int)) && decide ((x.length : Int) ≤ (32 : Int)))
theorem oH (x : List UInt8) (u : x.length < 2 ^ 62) : ∀ (d i k : Nat), i + d = x.length → d + 1 ≤ k → dW.l0 x k (i : Int) = some (if (x.drop i).all (fun c => !mN c) then .inl () else .inr false)
 | d, i, 0, _, hk => by omega
 | 0, i, k + 1, h, _ => by
  simp only [dW.l0]
  rw [if_neg (by omega), List.drop_of_length_le (by omega)]; rfl
 | d + 1, i, k + 1, h, hk => by
  simp only [dW.l0]
  rw [if_pos (by omega), if_pos (by omega), wi1 (by omega), oH x u d (i + 1) k (by omega) (by omega), fR x 0 (i := i) (by omega)]
  simp only [Int.toNat_natCast, List.all_cons]
  obtain ⟨c, D⟩ : ∃ c, x.getD i 0 = c := ⟨_, rfl⟩
  simp only [D]
  have e : ((if ((decide (((c.toNat : Int)) < (97 : Int))) || (decide ((122 : Int) < (c.toNat : Int)))) = true then (some ((decide ((c.toNat : Int) < (48 : Int))) || (decide ((57 : Int) < (c.toNat : Int))))) else (some false)) : Option Bool) = some (((decide (((c.toNat : Int)) < (97 : Int))) || (decide ((122 : Int) < (c.toNat : Int)))) && ((decide ((c.toNat : Int) < (48 : Int))) || (decide ((57 : Int) < (c.toNat : Int))))) := by
   cases ((decide (((c.toNat : Int)) < (97 : Int))) || (decide ((122 : Int) < (c.toNat : Int)))) <;> rfl
  rw [e, Option.bind_some]
  show (if mN c = true then _ else _) = _
  cases mN c <;> rfl
theorem wk {x : List UInt8} {k : Nat} (u : x.length < 2 ^ 62) (D : x.length + 1 ≤ k) : dW.f k x = some (nmB x) := by
 unfold dW.f nmB
 have := oH x u x.length 0 k (by omega) (by omega)
 rw [show ((0 : Nat) : Int) = 0 from rfl, List.drop_zero] at this
 rw [this]
 cases x.all fun c => !mN c <;> rfl
theorem xK {x : List UInt8} (h : nmB x = true) : x.length ≤ 32 := by
 unfold nmB at h
 simp at h
 omega
/-! ### What a disk is -/
abbrev FSt := List (List UInt8 × (List UInt8 × Int))
abbrev DS := FSt × List UInt8 × Int × Bool
def szF (fs : FSt) : Nat := (fs.map fun p => p.2.1.length).sum
structure gp (n : Nat) (fs : FSt) : Prop where
 nd : (fs.map (·.1)).Nodup
 sy : ∀ p ∈ fs, 0 ≤ p.2.2 ∧ p.2.2 ≤ (p.2.1.length : Int)
 nm : ∀ p ∈ fs, p.1.length ≤ 32
 sz : szF fs ≤ 16777216
 ln : fs.length ≤ n
theorem zq (n : Nat) : gp n [] := ⟨by simp, by simp, by simp, by simp [szF], by simp⟩
def bw (fs : FSt) (x : List UInt8) : List UInt8 × Int := (aU fs x).getD ([], 0)
theorem kN {fs : FSt} {x : List UInt8} (h : (aU fs x).isSome = true) : (x, bw fs x) ∈ fs := re _ _ _ (by rw [bw]; exact gu h)
theorem xL {fs : FSt} (h : (fs.map (·.1)).Nodup) {p : List UInt8 × (List UInt8 × Int)} (hp : p ∈ fs) : bw fs p.1 = p.2 := by
 rw [bw, nA fs p.1 p.2 h hp]; rfl
theorem oI : ∀ {fs : FSt} {p : List UInt8 × (List UInt8 × Int)}, p ∈ fs → p.2.1.length ≤ szF fs
 | [], _, h => by cases h
 | q :: l, p, h => by
  rcases List.mem_cons.1 h with rfl | h
  ·simp [szF]
  ·have := oI h
   simp only [szF, List.map_cons, List.sum_cons] at this ⊢; omega
/-! ### Sizes -/
def ld (fs : FSt) (x : List UInt8) : Nat := (bw fs x).1.length
theorem pG (fs : FSt) : ∀ (l : List (List UInt8)) (s : Nat), (∀ x ∈ l, (aU fs x).isSome = true) → s + (l.map (ld fs)).sum < 2 ^ 62 →
  gU (fun (s : Int) (x : List UInt8) (v : List UInt8 × Int) => some (IntKind.i64.wrap (s + (v.1.length : Int)), v)) l (s : Int) fs = some (((s + (l.map (ld fs)).sum : Nat) : Int), fs)
 | [], s, _, _ => by simp [gU]
 | x :: l, s, h, hb => by
  have G := h x (by simp)
  have D : aU fs x = some (bw fs x) := by rw [bw]; exact gu G
  simp only [List.map_cons, List.sum_cons] at hb ⊢
  have u : (bw fs x).1.length = ld fs x := rfl
  rw [gU, D, Option.bind_some]
  simp only [Option.bind_some]
  rw [ke D, w64 (by omega) (by omega)]
  have := pG fs l (s + ld fs x) (fun y I => h y (List.mem_cons_of_mem _ I)) (by omega)
  rw [show (s : Int) + ((bw fs x).1.length : Int) = ((s + ld fs x : Nat) : Int) by rw [u]; omega, this]
  congr 2
  omega
theorem wl {fs : FSt} (h : (fs.map (·.1)).Nodup) : ((fs.map (·.1)).map (ld fs)).sum = szF fs := by
 unfold szF
 rw [List.map_map]
 congr 1
 refine List.map_congr_left fun p hp => ?_
 simp only [Function.comp, ld, xL h hp]
theorem vg {fs : FSt} {x : List UInt8} (h : x ∈ fs.map (·.1)) : (aU fs x).isSome = true := (kL fs x).1 h
theorem xM {n : Nat} {fs : FSt} (h : gp n fs) (l : List UInt8) (a : Int) (d : Bool) : fP.f fs l a d = some (szF fs : Int) := by
 unfold fP.f mH jC
 have u := wl h.nd
 have G := h.sz
 have h1 : ∀ m, m.Perm (fs.map (·.1)) → gU (fun (s : Int) (x : List UInt8) (v : List UInt8 × Int) => (some (IntKind.i64.wrap (s + (v.1.length : Int)))).map fun I => (I, v)) m 0 fs = some ((szF fs : Int), fs) := fun m D => by
  have J : (m.map (ld fs)).sum = szF fs := by rw [← u]; exact (D.map _).sum_nat
  have := pG fs m 0 (fun x L => vg (D.mem_iff.1 L)) (by omega)
  rw [J, Nat.zero_add] at this
  exact this
 rw [if_pos ⟨h.nd, fun m D => by rw [h1 m (me D), h1 _ (List.Perm.refl _)]⟩, h1 _ (List.Perm.refl _)]
 rfl
/-! ### What single operations do -/
def fL (l : List UInt8) (a : Int) (d : Bool) : Bool × List UInt8 × Int × Bool := if a = 0 then (false, l, a, d) else (decide (IntKind.i64.wrap (a - 1) = 0), l, IntKind.i64.wrap (a - 1), decide (IntKind.i64.wrap (a - 1) = 0))
theorem mf (fs : FSt) (l : List UInt8) (a : Int) (d : Bool) : bR.f fs l a d = some (fL l a d) := by
 unfold bR.f fL; split <;> rfl
def kB (fs : FSt) (l : List UInt8) (a : Int) (d : Bool) (x : List UInt8) : Int × DS :=
 if d = true then (11, fs, l, a, d) else if nmB x = false then (7, fs, l, a, d) else if (aU fs x).isSome = true then (9, fs, l, a, d) else if (256 : Int) ≤ (fs.length : Int) then (10, fs, l, a, d)
 else if (fL l a d).1 = true then (11, fs, (fL l a d).2) else (0, aX fs x ([], 0), (fL l a d).2)
theorem vi (fs : FSt) (l : List UInt8) (a : Int) (d : Bool) (x : List UInt8) : cY.f fs l a d x = some (aU fs x).isSome := by
 unfold cY.f; cases (aU fs x).isSome <;> rfl
theorem vj (fs : FSt) (l : List UInt8) (a : Int) (d : Bool) (x : List UInt8) {k : Nat} (u : x.length < 2 ^ 62) (D : x.length + 1 ≤ k) : fk.f k fs l a d x = some (kB fs l a d x) := by
 unfold fk.f kB
 rw [wk u D, vi, mf]
 simp only [Option.bind_some]
 cases d <;> cases nmB x <;> cases (aU fs x).isSome <;> simp <;> (repeat' split) <;> rfl
def kC (fs : FSt) (l : List UInt8) (a : Int) (d : Bool) (x b : List UInt8) : Int × DS :=
 if (aU fs x).isSome = true then (if d = true then (11, fs, l, a, d) else if 16777216 - (szF fs : Int) < (b.length : Int) then (10, fs, l, a, d)
  else if (fL l a d).1 = true then (11, aX fs x ((bw fs x).1 ++ b.take (b.length / 2), (bw fs x).2), x, (fL l a d).2.2) else (0, aX fs x ((bw fs x).1 ++ b, (bw fs x).2), x, (fL l a d).2.2))
 else if d = true then (11, fs, l, a, d) else (8, fs, l, a, d)
theorem xN (b : List UInt8) (h : b.length < 2 ^ 62) : IntKind.i64.wrap (Int.tdiv (b.length : Int) 2) = ((b.length / 2 : Nat) : Int) := by
 have : Int.tdiv (b.length : Int) 2 = ((b.length / 2 : Nat) : Int) := by rw [Int.tdiv_eq_ediv_of_nonneg (by omega)]; omega
 rw [this, w64 (by omega) (by omega)]
theorem pH {n : Nat} {fs : FSt} (h : gp n fs) (l : List UInt8) (a : Int) (d : Bool) (x b : List UInt8) (I : b.length < 2 ^ 40) : ep.f fs l a d x b = some (kC fs l a d x b) := by
 unfold ep.f kC
 rw [xM h, mf]
 have u := h.sz
 simp only [Option.bind_some]
 by_cases hm : (aU fs x).isSome = true
 ·rw [if_pos hm, if_pos hm]
  cases d with
  | true => rfl
  | false =>
   have D : (bw fs x).1.length ≤ 16777216 := Nat.le_trans (oI (kN hm)) u
   rw [w64 (n := 16777216 - (szF fs : Int)) (by omega) (by omega), xN b (by omega)]
   simp only [Bool.false_eq_true, if_false]
   by_cases hs : 16777216 - (szF fs : Int) < (b.length : Int)
   ·rw [if_pos hs, if_pos hs]
   ·rw [if_neg hs, if_neg hs]
    by_cases hf : (fL l a false).1 = true
    ·rw [if_pos hf, if_pos hf, if_pos ⟨by omega, by omega, by omega⟩, Option.bind_some]
     have G : cut b (0 : Int) ((b.length / 2 : Nat) : Int) = b.take (b.length / 2) := by
      show (b.take ((b.length / 2 : Nat) : Int).toNat).drop 0 = _
      rw [Int.toNat_natCast, List.drop_zero]
     rw [G]
     show (if ((bw fs x).1.length + (b.take (b.length / 2)).length) * 1 ≤ 140737488355328 then _ else _) = _
     rw [if_pos (by simp only [List.length_take]; omega)]
     rfl
    ·rw [if_neg hf, if_neg hf, Option.bind_some]
     show (if ((bw fs x).1.length + b.length) * 1 ≤ 140737488355328 then _ else _) = _
     rw [if_pos (by omega)]
     rfl
 ·rw [if_neg hm, if_neg hm]
  split <;> rfl
def jV (fs : FSt) (l : List UInt8) (a : Int) (d : Bool) (x : List UInt8) : Int × DS :=
 if (aU fs x).isSome = true then (if d = true then (11, fs, l, a, d) else if (fL l a d).1 = true then (11, fs, (fL l a d).2) else (0, aX fs x ((bw fs x).1, ((bw fs x).1.length : Int)), (fL l a d).2))
 else if d = true then (11, fs, l, a, d) else (8, fs, l, a, d)
theorem lL (fs : FSt) (l : List UInt8) (a : Int) (d : Bool) (x : List UInt8) : cV.f fs l a d x = some (jV fs l a d x) := by
 unfold cV.f jV
 rw [mf]
 simp only [Option.bind_some]
 repeat' split
 all_goals first | rfl | simp_all
theorem ue (l : List UInt8) (a : Int) (d : Bool) : (fL l a d).2.1 = l := by unfold fL; split <;> rfl
def jq (fs : FSt) (l : List UInt8) (a : Int) (d : Bool) (x : List UInt8) : Int × DS :=
 if d = true then (11, fs, l, a, d) else if (aU fs x).isSome = false then (8, fs, l, a, d) else if (fL l a d).1 = true then (11, fs, (fL l a d).2) else (0, dM fs x, (if l = x then [] else l), (fL l a d).2.2)
theorem uU (fs : FSt) (l : List UInt8) (a : Int) (d : Bool) (x : List UInt8) : eC.f fs l a d x = some (jq fs l a d x) := by
 unfold eC.f jq
 rw [mf, vi]
 simp only [Option.bind_some]
 cases d <;> cases (aU fs x).isSome <;> simp only [Bool.not_true, Bool.not_false, if_true, if_false, Bool.false_eq_true, Bool.true_eq_false, reduceCtorEq]
 split
 ·rfl
 ·rw [ue]
  split <;> rfl
/-! ### A crash -/
section
variable {α β : Type} [DecidableEq α]
end
end Go.Proofs.YtndjkejhacfpdaaGreatDoor

namespace Go.Proofs.YtndjkejhacfpdaaGreatDoor
open Go.RowKit
theorem pO (p : List UInt8 × (List UInt8 × Int)) (fs : FSt) (x : List UInt8) : bw (p :: fs) x = if p.1 = x then p.2 else bw fs x := by
 unfold bw; rw [aU]; split <;> rfl
theorem jj (p : List UInt8 × (List UInt8 × Int)) (fs : FSt) : szF (p :: fs) = p.2.1.length + szF fs := by simp [szF]
theorem fS (x : List UInt8) (v : List UInt8 × Int) : ∀ fs : FSt, szF (aX fs x v) + (bw fs x).1.length = szF fs + v.1.length
 | [] => by simp [aX, szF, bw, aU]
 | p :: fs => by
  have u := fS x v fs
  rw [pO, aX]
  by_cases h : p.1 = x
  ·rw [if_pos h, if_pos h, jj, jj]; simp only; omega
  ·rw [if_neg h, if_neg h, jj, jj]; omega
theorem nR (x : List UInt8) : ∀ fs : FSt, szF (dM fs x) + (bw fs x).1.length = szF fs
 | [] => by simp [dM, szF, bw, aU]
 | p :: fs => by
  have u := nR x fs
  rw [pO, dM]
  by_cases h : p.1 = x
  ·rw [if_pos h, if_pos h, jj]; omega
  ·rw [if_neg h, if_neg h, jj, jj]; omega
theorem ml {n : Nat} {fs : FSt} (h : gp n fs) {x : List UInt8} {v : List UInt8 × Int} (u : x.length ≤ 32) (D : 0 ≤ v.2 ∧ v.2 ≤ (v.1.length : Int)) (G : szF (aX fs x v) ≤ 16777216) (I : (aX fs x v).length ≤ n) : gp n (aX fs x v) := by
 refine ⟨ub h.nd, fun p hp => ?_, fun p hp => ?_, G, I⟩
 ·rcases nT _ _ _ _ hp with rfl | hp
  ·exact D
  ·exact h.sy p hp
 ·rcases nT _ _ _ _ hp with rfl | hp
  ·exact u
  ·exact h.nm p hp
theorem wn {n : Nat} {fs : FSt} (h : gp n fs) (x : List UInt8) : gp n (dM fs x) := by
 have u := rc fs x
 refine ⟨(u.map _).nodup h.nd, fun p hp => h.sy p (u.subset hp), fun p hp => h.nm p (u.subset hp), ?_, Nat.le_trans u.length_le h.ln⟩
 have := nR x fs
 have := h.sz
 omega
theorem mP {n : Nat} {fs : FSt} (h : gp n fs) {x : List UInt8} (u : (aU fs x).isSome = true) : x.length ≤ 32 := h.nm _ (kN u)
theorem tg {n : Nat} {fs : FSt} (h : gp n fs) {x : List UInt8} (u : (aU fs x).isSome = true) : 0 ≤ (bw fs x).2 ∧ (bw fs x).2 ≤ ((bw fs x).1.length : Int) := h.sy _ (kN u)
theorem vr {fs : FSt} {x : List UInt8} (h : (aU fs x).isSome = false) : bw fs x = ([], 0) := by
 unfold bw; cases hm : aU fs x with
 | none => rfl
 | some v => rw [hm] at h; cases h
theorem ff {fs : FSt} {x : List UInt8} {v : List UInt8 × Int} (u : (aU fs x).isSome = true) : (aX fs x v).length = fs.length := by rw [fW, if_pos u]
theorem ui {fs : FSt} (h : gp 256 fs) (l : List UInt8) (a : Int) (d : Bool) (x : List UInt8) : gp 256 (kB fs l a d x).2.1 := by
 unfold kB
 repeat' split
 all_goals try exact h
 rename_i h1 u D J L
 have G := fS x ([], 0) fs
 have I := h.sz
 refine ml h (xK (by simpa using u)) (by simp) ?_ ?_
 ·simp only [List.length_nil] at G; omega
 ·have := fW fs x (([] : List UInt8), (0 : Int))
  rw [if_neg D] at this
  rw [this]; omega
theorem oK {n : Nat} {fs : FSt} (h : gp n fs) (l : List UInt8) (a : Int) (d : Bool) (x b : List UInt8) : gp n (kC fs l a d x b).2.1 := by
 unfold kC
 have G := h.sz
 repeat' split
 all_goals try exact h
 ·rename_i u hd I J
  have D := tg h u
  have h1 := fS x ((bw fs x).1 ++ b.take (b.length / 2), (bw fs x).2) fs
  simp only [List.length_append, List.length_take] at h1
  refine ml h (mP h u) ⟨D.1, ?_⟩ (by omega) (by rw [ff u]; exact h.ln)
  simp only [List.length_append, List.length_take]; omega
 ·rename_i u hd I J
  have D := tg h u
  have h1 := fS x ((bw fs x).1 ++ b, (bw fs x).2) fs
  simp only [List.length_append] at h1
  refine ml h (mP h u) ⟨D.1, ?_⟩ (by omega) (by rw [ff u]; exact h.ln)
  simp only [List.length_append]; omega
theorem kK {n : Nat} {fs : FSt} (h : gp n fs) (l : List UInt8) (a : Int) (d : Bool) (x : List UInt8) : gp n (jV fs l a d x).2.1 := by
 unfold jV
 have D := h.sz
 repeat' split
 all_goals try exact h
 rename_i u hd G
 have h1 := fS x ((bw fs x).1, ((bw fs x).1.length : Int)) fs
 simp only at h1
 exact ml h (mP h u) ⟨by simp, by simp⟩ (by omega) (by rw [ff u]; exact h.ln)
theorem ua {n : Nat} {fs : FSt} (h : gp n fs) (l : List UInt8) (a : Int) (d : Bool) (x : List UInt8) : gp n (jq fs l a d x).2.1 := by
 unfold jq
 repeat' split
 all_goals first | exact h | exact wn h x
/-! ### An operation -/
def d0 : DS := ([], [], 0, false)
/-! ### The files -/
theorem pP (fs : FSt) : (ez fs).length = fs.length := by rw [(kt fs).length_eq, List.length_map]
theorem th {n : Nat} {fs : FSt} (h : gp n fs) (u : n < 2 ^ 40) (l : List UInt8) (a : Int) (d : Bool) : fO.f fs l a d = some (ez fs) := by
 unfold fO.f gx.f cH.f
 have := h.ln
 rw [Option.bind_some, if_pos ⟨h.nd, by omega, fun p hp => by have := h.nm p hp; omega⟩]; rfl
theorem wo {x : List UInt8} (h : x.length < 2 ^ 40) : gn.f x = some x := by
 unfold gn.f
 rw [if_pos ⟨by omega, by omega, by omega⟩, if_pos (by simp; omega)]; rfl
/-! ### Whether files are the same -/
theorem pQ (x y : List UInt8) (G : x.length = y.length) (I : x.length < 2 ^ 62) : ∀ (d i k : Nat), i + d = x.length → d + 1 ≤ k → x.take i = y.take i → (orR (cb.l0 x y k (i : Int)) fun _ => some true) = some (decide (x = y))
 | d, i, 0, _, hk, _ => by omega
 | 0, i, k + 1, h, _, ht => by
  simp only [cb.l0]
  rw [if_neg (by omega)]
  rw [List.take_of_length_le (by omega), List.take_of_length_le (by omega)] at ht
  simp [orR, ht]
 | d + 1, i, k + 1, h, hk, ht => by
  have u : i < x.length := by omega
  have D : i < y.length := by omega
  simp only [cb.l0]
  rw [if_pos (by omega), if_pos (by omega), if_pos (by omega), wi1 (by omega)]
  simp only [Int.toNat_natCast, nU x 0 i u, nU y 0 i D]
  by_cases he : x[i] = y[i]
  ·rw [if_pos (by rw [he])]
   exact pQ x y G I d (i + 1) k (by omega) (by omega) (by rw [List.take_succ_eq_append_getElem u, List.take_succ_eq_append_getElem D, ht, he])
  ·rw [if_neg (by intro z; exact he (UInt8.toNat_inj.1 (by omega)))]
   have : x ≠ y := by rintro rfl; exact he rfl
   simp [orR, this]
theorem rG {k : Nat} {x y : List UInt8} (u : x.length < 2 ^ 62) (D : x.length + 1 ≤ k) : cb.f k x y = some (decide (x = y)) := by
 unfold cb.f
 by_cases h : x.length = y.length
 ·rw [if_pos (by omega)]
  exact pQ x y h u x.length 0 k (by omega) D rfl
 ·rw [if_neg (by omega)]
  have : x ≠ y := by rintro rfl; exact h rfl
  simp [this]
/-! ### Whether operations are few -/
end Go.Proofs.YtndjkejhacfpdaaGreatDoor

namespace Go.Proofs.YtndjkejhacfpdaaGreatDoor
open Go.RowKit Go.ChangeShapes Go.WideShapes Go.ChangeAt

def iP (W : World) : HA := fun h => ∀ i, i < W.heap.size → h i = W.heap[i]?
theorem vo (W : World) : Sat W ([] ++ [iP W]) W := ⟨rfl, rfl, rfl, Nat.le_refl _, jp (fun _ _ => rfl)⟩
theorem wm {W w : World} {l : List HA} (s : Sat W l w) (k : Nat) (D : l[k]? = some (iP W)) : Below W.heap.size W w := by
 obtain ⟨a, G, I⟩ := s.at D
 refine ⟨s.os, s.tape, s.output, s.size, fun i hi => ?_⟩
 have h1 := G i hi
 obtain ⟨o, u⟩ : ∃ o, W.heap[i]? = some o := ⟨_, Array.getElem?_eq_getElem hi⟩
 rw [u] at h1
 rw [I i o h1, u]
theorem uA {P : Program} {W : World} {f : FuncId} {args : List Value} {R Y : Type} {o : Option R} {val : R → Y → Value} {r : R}
  (h : Fn P W f args [] (iP W) o val (fun _ _ => [])) (D : o = some r) (G : ∀ y, val r y = .bool true) :
  Calls P f args.toArray W fun e u => e = .returned (.bool true) ∧ Below W.heap.size W u := by
 refine (h r D W (vo W)).mono ?_
 rintro e u ⟨y, rfl, s⟩
 exact ⟨by rw [G], wm s 0 rfl⟩
theorem qL {W : World} {x : Addr} {cs : List Value} (h : ∀ j v, cs[j]? = some v → W.cell? (x.add j) = some v) : Rd (iP W) (some x) cs := by
 cases cs with
 | nil => exact .inl rfl
 | cons v vs =>
  right
  have u := h 0 v rfl
  have D : x.spot = none := by
   have e : (x.add 0).spot = x.spot ∨ x.spot ≠ none := by cases hx : x.spot <;> simp [Addr.add, hx]
   refine Classical.byContradiction fun I => ?_
   obtain ⟨s, U⟩ := Option.ne_none_iff_exists'.1 I
   unfold World.cell? at u
   simp only [Addr.add, U] at u
   split at u <;> simp_all
  obtain ⟨b, off, sp⟩ := x
  simp only at D
  subst D
  have G : ∀ j, (⟨b, off, none⟩ : Addr).add j = ⟨b, off + j, none⟩ := fun j => by unfold Addr.add; split <;> simp_all
  simp only [G] at h
  refine ⟨b, off, rfl, fun g X => ?_⟩
  have u := h 0 v rfl
  unfold World.cell? at u
  simp only at u
  split at u
  ·rename_i c T fz J
   have L : b < W.heap.size := (Array.getElem?_eq_some_iff.1 J).1
   refine ⟨c, T, fz, by rw [X b L, J], fun j v hj => ?_⟩
   have := h j v hj
   simpa [World.cell?, J] using this
  ·simp at u
theorem tH {H : Type} {P : Program} {ts : List TypeId} {ds : List (DataW H)} (h : (DataW.weightsEach P ts ds).all (· ≤ reachBytes) = true) {j : Nat} {t : TypeId} {d : DataW H} (u : ts[j]? = some t) (hd : ds[j]? = some d) : ∀ n ∈ d.weights P t, n ≤ reachBytes := fun n D => by
 have := List.all_eq_true.1 h n (DataW.weights_mem_each u hd n D)
 simpa using this
theorem tK {H : Type} {enc : TypeId × Value → H} {P : Program} {W : World} {L : Bool} {t e : TypeId} {U : Nat} {cs : List Value} {x : DataW H × List MemPlace} (ht : P.underlying t = some (.slice e)) (he : P.underlying e = some (.int .u8)) (hc : P.cellsOf e = 1)
  (hB : P.bytesOf e = 1)
  (h : DataW.trod enc P W 0 (fun _ => true) L U t cs = some x) (X : ∀ n ∈ x.1.weights P t, n ≤ reachBytes) : ∃ a c l, cs = [.slice a l.length c] ∧ Rd (iP W) a (aB l) ∧ l.length ≤ c ∧ c ≤ maxLen ∧ l.length ≤ reachBytes := by
 rcases open_ints ht he hc h with ⟨D, _⟩ | ⟨x, l, c, J, D, _, hl, hm, hz, rfl, G, ab⟩
 ·exact ⟨none, 0, [], D, .inl rfl, Nat.le_refl _, Nat.zero_le _, Nat.zero_le _⟩
 ·have hz : J.length = c := by simpa using hz
  have u : ((J.take l).map dL).length = l := by simp; omega
  have ad : l ≤ reachBytes := by
   have := X (((lits (H := H) .u8 (J.take l)).length + (lits (H := H) .u8 (J.drop l)).length) * P.bytesOf e) (by simp [DataW.weights, ht])
   rw [hB] at this
   simp [lits] at this
   omega
  refine ⟨some x, c, (J.take l).map dL, by rw [D, u], qL ?_, by rw [u]; exact hl, hm, by rw [u]; exact ad⟩
  intro j v I
  unfold aB at I
  rw [List.getElem?_map, List.getElem?_map, List.getElem?_take] at I
  split at I
  ·rename_i bs
   obtain ⟨n, hn⟩ : ∃ n, J[j]? = some n := ⟨_, List.getElem?_eq_getElem (by omega)⟩
   rw [hn] at I
   simp only [Option.map_some, Option.some.injEq] at I
   rw [G j (by omega), ← I]
   have X := ab n (List.mem_of_getElem? hn)
   have al : 0 ≤ n ∧ n ≤ 255 := by simpa [Lit.wf, IntKind.min, IntKind.max, IntKind.signed, IntKind.bits] using X
   have hr : 0 ≤ n ∧ n < 256 := ⟨al.1, by omega⟩
   rw [ik hr.1 hr.2]
   simp [List.getD_eq_getElem?_getD, hn]
  ·simp at I
end Go.Proofs.YtndjkejhacfpdaaGreatDoor

namespace Go.Proofs.YtndjkejhacfpdaaGreatDoor
open Go.RowKit Go.ChangeShapes Go.WideShapes Go.ChangeAt
section
variable {H : Type} {enc : TypeId × Value → H} {P : Program} {W : World} {held : Bool} {α β : Type}
def nf (enc : TypeId × Value → H) (P : Program) (W : World) (held : Bool) (t : TypeId) (V : α → List Value → Prop) (D : α → Prop) : Prop :=
 ∀ u cs x, DataW.trod enc P W 0 (fun _ => true) held u t cs = some x → (∀ n ∈ x.1.weights P t, n ≤ reachBytes) → ∃ y, V y cs ∧ one cs ∧ cs.length = P.cellsOf t ∧ D y
theorem nf.map {t : TypeId} {V : α → List Value → Prop} {G : β → List Value → Prop} {I : α → Prop} {u : β → Prop} (f : α → β) (h : nf enc P W held t V I) (J : ∀ x r, V x r → G (f x) r) (L : ∀ x, I x → u (f x)) : nf enc P W held t G u := fun D cs x h1 U =>
 let ⟨y, a, b, c, d⟩ := h D cs x h1 U; ⟨f y, J _ _ a, b, c, L _ d⟩
theorem nf.mono {t : TypeId} {V G : α → List Value → Prop} {I u : α → Prop} (h : nf enc P W held t V I) (J : ∀ x r, V x r → G x r) (L : ∀ x, I x → u x) : nf enc P W held t G u := fun D cs x h1 U =>
 let ⟨y, a, b, c, d⟩ := h D cs x h1 U; ⟨y, J _ _ a, b, c, L _ d⟩
theorem lF {e : TypeId} : ∀ {ds : List (DataW H)} {d : DataW H}, d ∈ ds → ∀ n ∈ d.weights P e, n ∈ DataW.weightsAll P e ds
 | d' :: ds, d, h, n, hn => by
  simp only [DataW.weightsAll, List.mem_append]
  rcases List.mem_cons.1 h with rfl | h
  ·exact .inl hn
  ·exact .inr (lF h n hn)
theorem tL {W : World} {a : Addr} {n : Nat} {cs : List Value} (h : W.cells? 0 a n = some cs) : cs.length = n ∧ ∀ j v, cs[j]? = some v → W.cell? (a.add j) = some v := by
 unfold World.cells? at h
 rw [if_pos (Nat.zero_le _)] at h
 have u := mapM_some_length h
 have u : cs.length = n := by simpa using u
 refine ⟨u, fun j v G => ?_⟩
 have D : j < n := by have := (List.getElem?_eq_some_iff.1 G).1; omega
 have := mapM_some_get h j j (by simp [D])
 rw [this, G]
/-! Structs: their fields, one behind the other. -/
def tM (enc : TypeId × Value → H) (P : Program) (W : World) (held : Bool) (u : Nat) : List TypeId → List Value → List (DataW H × List MemPlace) → Prop
 | [], cs, xs => cs = [] ∧ xs = []
 | t :: ts, cs, xs => ∃ D c2 x r, cs = D ++ c2 ∧ xs = x :: r ∧ DataW.trod enc P W 0 (fun _ => true) held u t D = some x ∧ tM enc P W held u ts c2 r
def qk (P : Program) : Nat → List Field → Bool
 | _, [] => true
 | k, f :: fs => Nat.beq f.offset k && qk P (k + P.cellsOf f.type) fs
def qM (P : Program) : List Field → Nat
 | [] => 0
 | f :: fs => P.cellsOf f.type + qM P fs
theorem qN (u : Nat) : ∀ (fs : List Field) (k : Nat) (cs : List Value) (xs : List (DataW H × List MemPlace)), qk P k fs = true → cs.length = k + qM P fs → xs.length = fs.length →
  (∀ (i : Nat) (f : Field), fs[i]? = some f → DataW.trod enc P W 0 (fun _ => true) held u f.type ((cs.drop f.offset).take (P.cellsOf f.type)) = xs[i]?) → tM enc P W held u (fs.map (·.type)) (cs.drop k) xs
 | [], k, cs, xs, _, hl, hx, _ => by
  have : xs = [] := List.eq_nil_of_length_eq_zero (by simpa using hx)
  exact ⟨by rw [List.drop_of_length_le (by simp [qM] at hl; omega)], this⟩
 | f :: fs, k, cs, [], _, _, hx, _ => by simp at hx
 | f :: fs, k, cs, x :: xs, hlaid, hl, hx, h => by
  simp only [qk, Bool.and_eq_true] at hlaid
  have D : f.offset = k := Nat.eq_of_beq_eq_true hlaid.1
  simp only [qM] at hl
  have G := h 0 f rfl
  rw [D] at G
  refine ⟨(cs.drop k).take (P.cellsOf f.type), (cs.drop k).drop (P.cellsOf f.type), x, xs, (List.take_append_drop _ _).symm, rfl, by simpa using G, ?_⟩
  have := qN u fs (k + P.cellsOf f.type) cs xs hlaid.2 (by omega) (by simpa using hx) (fun i g I => by simpa using h (i + 1) g (by simpa using I))
  rw [List.drop_drop]
  exact this
end
end Go.Proofs.YtndjkejhacfpdaaGreatDoor

namespace Go.Proofs.YtndjkejhacfpdaaGreatDoor
open Go.RowKit Go.ChangeShapes Go.WideShapes Go.ChangeAt
class Mu (α : Type) where
 mu : α → Nat
instance : Mu Int := ⟨fun _ => 1⟩
instance : Mu Bool := ⟨fun _ => 1⟩
instance : Mu UInt8 := ⟨fun _ => 1⟩
instance {α β : Type} [Mu α] [Mu β] : Mu (α × β) := ⟨fun x => Mu.mu x.1 + Mu.mu x.2⟩
instance {α : Type} [Mu α] : Mu (List α) := ⟨fun l => (l.map Mu.mu).sum + 1⟩
theorem lE (x : Int) : Mu.mu x = 1 := rfl
theorem xk (x : Bool) : Mu.mu x = 1 := rfl
theorem gw {α β : Type} [Mu α] [Mu β] (x : α) (y : β) : Mu.mu (x, y) = Mu.mu x + Mu.mu y := rfl
theorem kz {α : Type} [Mu α] (l : List α) : Mu.mu l = (l.map Mu.mu).sum + 1 := rfl
theorem sJ {α : Type} [Mu α] (x : α) (l : List α) : Mu.mu (x :: l) = Mu.mu x + Mu.mu l := by simp [kz]; omega
theorem qJ (l : List UInt8) : Mu.mu l = l.length + 1 := by
 have : ∀ l : List UInt8, (l.map Mu.mu).sum = l.length := by
  intro l
  induction l with
  | nil => rfl
  | cons x l ih =>
   simp only [List.map_cons, List.sum_cons, ih, List.length_cons]
   show 1 + _ = _
   omega
 rw [kz, this]
theorem jK {H : Type} (d : DataW H) : 1 ≤ Rows.uptoBulk d := by
 cases d with
 | lit l => cases l <;> simp [Rows.uptoBulk]
 | nil => simp [Rows.uptoBulk]
 | ptr d => simp [Rows.uptoBulk]
 | slice elems spare => simp [Rows.uptoBulk]
 | agg parts => simp [Rows.uptoBulk]
 | iface t d => simp [Rows.uptoBulk]
 | map entries => simp [Rows.uptoBulk]
 | held h => simp [Rows.uptoBulk]
theorem qK {H : Type} : ∀ l : List (DataW H), l.length ≤ Rows.uptoBulkAll l
 | [] => by simp
 | d :: l => by have := qK l; have := jK d; simp [Rows.uptoBulkAll]; omega
section
variable {H : Type} {enc : TypeId × Value → H} {P : Program} {W : World} {held : Bool} {α β : Type} [Mu α] [Mu β]
def fX (enc : TypeId × Value → H) (P : Program) (W : World) (held : Bool) (t : TypeId) (V : α → List Value → Prop) (D : α → Prop) : Prop :=
 ∀ u cs x, DataW.trod enc P W 0 (fun _ => true) held u t cs = some x → (∀ n ∈ x.1.weights P t, n ≤ reachBytes) → ∃ y, V y cs ∧ one cs ∧ cs.length = P.cellsOf t ∧ D y ∧ Mu.mu y ≤ Rows.uptoBulk x.1
theorem fX.mono {t : TypeId} {V G : α → List Value → Prop} {I u : α → Prop} (h : fX enc P W held t V I) (J : ∀ x r, V x r → G x r) (L : ∀ x, I x → u x) : fX enc P W held t G u := fun D cs x h1 U =>
 let ⟨y, a, b, c, d⟩ := h D cs x h1 U; ⟨y, J _ _ a, b, c, L _ d.1, d.2⟩
theorem fX.map {α β : Type} [Mu α] [Mu β] {H : Type} {enc : TypeId × Value → H} {P : Program} {W : World} {held : Bool} {t : TypeId} {V : α → List Value → Prop} {G : β → List Value → Prop} {I : α → Prop} {u : β → Prop} (f : α → β) (h : fX enc P W held t V I) (J : ∀ x r, V x r → G (f x) r) (L : ∀ x, I x → u (f x)) (U : ∀ x, Mu.mu (f x) = Mu.mu x) : fX enc P W held t G u := fun D cs x h1 X =>
 let ⟨y, a, b, c, d⟩ := h D cs x h1 X; ⟨f y, J _ _ a, b, c, L _ d.1, by rw [U]; exact d.2⟩
theorem fU {t : TypeId} {k : IntKind} (D : P.underlying t = some (.int k)) (G : P.cellsOf t = 1) : fX enc P W held t (fun x r => r = [.int k x]) (okI k) := by
 intro u cs x h _
 cases u with
 | zero => simp [DataW.trod] at h
 | succ n =>
  unfold DataW.trod at h
  rw [D] at h
  split at h <;> simp_all
  rename_i I m
  obtain ⟨rfl, h1⟩ := h.1
  refine ⟨aP rfl, ?_, ?_⟩
  ·simpa [Lit.wf, okI] using h1
  ·first | exact jK _ | (rw [← h.2]; exact jK _)
theorem sj {t : TypeId} (D : P.underlying t = some .bool) (G : P.cellsOf t = 1) : fX enc P W held t (fun x r => r = [.bool x]) (fun _ => True) := by
 intro u cs x h _
 cases u with
 | zero => simp [DataW.trod] at h
 | succ n =>
  unfold DataW.trod at h
  rw [D] at h
  split at h <;> simp_all
  exact ⟨aP rfl, jK _⟩
theorem qv {t e : TypeId} (J : P.underlying t = some (.slice e)) (L : P.underlying e = some (.int .u8)) (U : P.cellsOf e = 1) (hB : P.bytesOf e = 1) (D : P.cellsOf t = 1) :
  fX enc P W held t (fun x r => ∃ a c, r = [.slice a x.length c] ∧ Rd (iP W) a (aB x) ∧ x.length ≤ c ∧ c ≤ maxLen) (fun x => x.length ≤ reachBytes) := by
 intro X cs x h hw
 obtain ⟨a, c, l, h1, h2, h3, h4, h5⟩ := tK J L U hB h hw
 refine ⟨l, ⟨a, c, h1, h2, h3, h4⟩, by rw [h1]; exact aP rfl, by rw [h1, D]; rfl, h5, ?_⟩
 rw [qJ]
 rcases open_ints J L U h with ⟨u, rfl⟩ | ⟨y, n, c', G, u, _, hl, hm, hz, rfl, I, a8⟩
 ·rw [h1] at u
  have : l.length = 0 := by simp only [List.cons.injEq, Value.slice.injEq] at u; exact u.1.2.1
  rw [this]
  exact jK _
 ·rw [h1] at u
  have e1 : l.length = n := by simp only [List.cons.injEq, Value.slice.injEq] at u; exact u.1.2.1
  have hz : G.length = c' := by simpa using hz
  have := qK (lits (H := H) .u8 (G.take n))
  have e2 : (lits (H := H) .u8 (G.take n)).length = n := by simp [lits]; omega
  simp only [Rows.uptoBulk]
  omega
theorem nz {t e : TypeId} {n B : Nat} {V : α → List Value → Prop} {Ok : α → Prop} (ht : P.underlying t = some (.slice e)) (hn : P.cellsOf e = n) (hB : P.bytesOf e = B) (U : P.cellsOf t = 1) (a8 : fX enc P W held e V Ok) :
  fX enc P W held t (fun (xs : List α) r => ∃ a c, r = [.slice a xs.length c] ∧ RdV (iP W) n V a xs ∧ xs.length ≤ c ∧ c ≤ maxLen) (fun xs => xs.length * B ≤ reachBytes ∧ ∀ y ∈ xs, Ok y) := by
 intro b5 cs x h hw
 rcases DataW.trod_slice ht h with ⟨I, _⟩ | ⟨a, len, cap, u, rest, m, _, rfl, rfl, hb, hl, hm, X, bc, _, _⟩
 ·exact ⟨[], ⟨none, 0, I, RdV.nil, Nat.le_refl _, Nat.zero_le _⟩, by rw [I]; exact aP rfl, by rw [I, U]; rfl, ⟨by simp, by simp⟩, by rw [kz]; exact jK _⟩
 ·subst hn
  have be : len * B ≤ reachBytes := by
   have := hw (((u.map (·.1)).length + (rest.map (·.1)).length) * P.bytesOf e) (by simp [DataW.weights, ht])
   rw [hB] at this
   simp only [List.length_map, X] at this
   exact Nat.le_trans (Nat.mul_le_mul_right _ (Nat.le_add_right _ _)) this
  have ab : ∀ i, i < len → ∃ y r, V y r ∧ one r ∧ r.length = P.cellsOf e ∧ (Ok y ∧ ∀ q, u[i]? = some q → Mu.mu y ≤ Rows.uptoBulk q.1) ∧ ∀ j v, r[j]? = some v → W.cell? (a.add (i * P.cellsOf e + j)) = some v := by
   intro i hi
   have h1 := bc i hi
   obtain ⟨q, L⟩ : ∃ q, u[i]? = some q := ⟨_, List.getElem?_eq_getElem (by omega)⟩
   rw [L] at h1
   obtain ⟨r, hr, br⟩ := Option.bind_eq_some_iff.1 h1
   obtain ⟨bs, b0⟩ := tL hr
   obtain ⟨y, v1, v2, v3, v4⟩ := a8 _ r q br (fun n hn => hw n (by
    simp only [DataW.weights, ht, List.mem_cons, List.mem_append]
    exact .inr (.inl (lF (List.mem_map_of_mem (List.mem_of_getElem? L)) n hn))))
   refine ⟨y, r, v1, v2, bs, ⟨v4.1, fun q' D => by rw [L] at D; cases D; exact v4.2⟩, fun j v G => ?_⟩
   have := b0 j v G
   have ad : (a.add (i * P.cellsOf e)).add j = a.add (i * P.cellsOf e + j) := by
    by_cases h1 : i * P.cellsOf e = 0 <;> by_cases h2 : j = 0 <;> simp [Addr.add, h1, h2, Nat.add_assoc]
   rwa [ad] at this
  have J : ∀ d i, i + d = len → ∃ xs rs, bP (P.cellsOf e) V xs rs ∧ xs.length = d ∧ ((∀ y ∈ xs, Ok y) ∧ (xs.map Mu.mu).sum ≤ Rows.uptoBulkAll ((u.drop i).map (·.1))) ∧ ∀ j v, rs.flatten[j]? = some v → W.cell? (a.add (i * P.cellsOf e + j)) = some v := by
   intro d
   induction d with
   | zero => intro i hi; exact ⟨[], [], trivial, rfl, ⟨by simp, by simp⟩, by simp⟩
   | succ d ih =>
    intro i hi
    obtain ⟨y, r, v1, v2, v3, v4, v5⟩ := ab i (by omega)
    obtain ⟨xs, rs, w1, w2, w3, w4⟩ := ih (i + 1) (by omega)
    refine ⟨y :: xs, r :: rs, ⟨⟨v3, v2, v1⟩, w1⟩, by simp [w2], ⟨?_, ?_⟩, fun j v G => ?_⟩
    ·intro z hz
     rcases List.mem_cons.1 hz with rfl | hz
     ·exact v4.1
     ·exact w3.1 z hz
    ·obtain ⟨q, L⟩ : ∃ q, u[i]? = some q := ⟨_, List.getElem?_eq_getElem (by omega)⟩
     have h1 := v4.2 q L
     have h2 := w3.2
     obtain ⟨hi', D⟩ := List.getElem?_eq_some_iff.1 L
     rw [List.drop_eq_getElem_cons hi', D]
     simp only [List.map_cons, List.sum_cons, Rows.uptoBulkAll]
     omega
    ·simp only [List.flatten_cons] at G
     by_cases hjl : j < r.length
     ·rw [List.getElem?_append_left hjl] at G; exact v5 j v G
     ·rw [List.getElem?_append_right (by omega)] at G
      have := w4 _ v G
      rw [v3, Nat.add_mul] at this
      have e1 : i * P.cellsOf e + 1 * P.cellsOf e + (j - P.cellsOf e) = i * P.cellsOf e + j := by omega
      rwa [e1] at this
  obtain ⟨xs, rs, w1, w2, w3, w4⟩ := J len 0 (by omega)
  refine ⟨xs, ⟨some a, cap, by rw [w2], ⟨rs, w1, qL fun j v G => ?_⟩, by rw [w2]; exact hl, hm⟩, aP rfl, by rw [U]; rfl, ⟨by rw [w2]; exact be, w3.1⟩, by have h2 := w3.2; simp only [List.drop_zero] at h2; rw [kz]; simp only [Rows.uptoBulk]; omega⟩
  have := w4 j v G
  simpa using this
def nc (enc : TypeId × Value → H) (P : Program) (W : World) (held : Bool) (ts : List TypeId) (V : α → List Value → Prop) (D : α → Prop) : Prop :=
 ∀ u cs xs, tM enc P W held u ts cs xs → (∀ n ∈ DataW.weightsEach P ts (xs.map (·.1)), n ≤ reachBytes) → ∃ y, V y cs ∧ one cs ∧ D y ∧ Mu.mu y ≤ Rows.uptoBulkAll (xs.map (·.1))
theorem jS {t : TypeId} {V : α → List Value → Prop} {u : α → Prop} (h : fX enc P W held t V u) : nc enc P W held [t] V u := by
 rintro fuel cs xs ⟨D, c2, x, r, rfl, rfl, h1, rfl, rfl⟩ hw
 obtain ⟨y, a, b, c, d⟩ := h fuel D x h1 (fun n G => hw n (by simp [DataW.weightsEach]; exact G))
 exact ⟨y, by simpa using a, by simpa using b, d.1, by simp only [List.map_cons, List.map_nil, Rows.uptoBulkAll]; exact d.2⟩
theorem eO {t : TypeId} {ts : List TypeId} {V : α → List Value → Prop} {I : α → Prop} {J : β → List Value → Prop} {u : β → Prop} (h : fX enc P W held t V I) (U : nc enc P W held ts J u) :
  nc enc P W held (t :: ts) (fun (x : α × β) cs => ∃ D c2, cs = D ++ c2 ∧ V x.1 D ∧ J x.2 c2) (fun x => I x.1 ∧ u x.2) := by
 rintro fuel cs xs ⟨D, c2, x, r, rfl, rfl, h1, X⟩ hw
 obtain ⟨y, a, b, c, d⟩ := h fuel D x h1 (fun n G => hw n (by simp only [List.map_cons, DataW.weightsEach, List.mem_append]; exact .inl G))
 obtain ⟨z, a2, b2, L⟩ := U fuel c2 r X (fun n G => hw n (by simp only [List.map_cons, DataW.weightsEach, List.mem_append]; exact .inr G))
 exact ⟨(y, z), ⟨D, c2, rfl, a, a2⟩, tP b b2, ⟨d.1, L.1⟩, by have h4 := d.2; have h5 := L.2; simp only [List.map_cons, Rows.uptoBulkAll, gw]; omega⟩
theorem ja {t : TypeId} {fs : Array Field} {V : α → List Value → Prop} {I : α → Prop} (J : P.underlying t = some (.struct fs)) (u : qk P 0 fs.toList = true) (L : qM P fs.toList = P.cellsOf t) {ts : List TypeId} (D : fs.toList.map (·.type) = ts) (h : nc enc P W held ts V I) : fX enc P W held t V I := by
 intro U cs x hx hw
 obtain ⟨xs, n, rfl, rfl, X, G, hf⟩ := DataW.trod_struct J hx
 have := qN n fs.toList 0 cs xs u (by rw [X]; omega) (by simpa using G) (fun i f hi => hf i f (by simpa using hi))
 rw [D] at this
 obtain ⟨y, a, b, c⟩ := h n cs xs (by simpa using this) (fun n hn => hw n (by simp only [DataW.weights, J, D]; exact hn))
 exact ⟨y, a, b, X, c.1, by have h4 := c.2; simp only [Rows.uptoBulk]; omega⟩
end
end Go.Proofs.YtndjkejhacfpdaaGreatDoor

namespace Go.Proofs.YtndjkejhacfpdaaGreatDoor
open Go.RowKit
end Go.Proofs.YtndjkejhacfpdaaGreatDoor

namespace Go.Proofs.YtndjkejhacfpdaaGreatDoor
open Go.RowKit
def inU (z : Int) : Prop := 0 ≤ z ∧ z < 4294967296
theorem fY (n : Int) (u : 0 ≤ n) (D : n < 2 ^ 32) : IntKind.u32.wrap n = n := by rw [IntKind.wrap_u32]; omega
theorem lA (b : BinOp) (m n : Int) : inU (bU b .u32 m n) := by
 unfold bU inU
 rw [IntKind.wrap_u32]
 omega
theorem zo {n : Int} (h : inU n) : bU .and .u32 n 1 = n % 2 := bits_mask .u32 32 (by decide) fY 1 (by decide) n h.1 h.2
theorem uB (m n : Int) : bU .or .u32 m n = bU .or .u32 n m := by simp only [bU, BitVec.or_comm]
theorem qx (i : Nat) {x y : Int} (u : 0 ≤ x) (J : x % 2 ^ i = 0) (D : x < 4294967296) (G : 0 ≤ y) (L : y < 2 ^ i) (I : y < 4294967296) : bU .or .u32 y x = x + y := by
 rw [uB]
 exact bits_join .u32 32 (by decide) fY i x y u J D G L I
def h1 (z : Int) : Int := if z % 2 = 1 then bU .xor .u32 (z / 2) 2197175160 else z / 2
def hN : Nat → Int → Int
 | 0, z => z
 | n + 1, z => hN n (h1 z)
theorem uC {z : Int} (h : inU z) : inU (h1 z) := by
 unfold h1
 split
 ·exact lA _ _ _
 ·have := h.1; have := h.2; unfold inU; omega
theorem qz : ∀ (n : Nat) {z : Int}, inU z → inU (hN n z)
 | 0, z, h => h
 | n + 1, z, h => qz n (uC h)
def lP (s : Int) (l : List UInt8) : Int := l.foldl (fun s c => hN 8 (bU .xor .u32 s (c.toNat : Int))) s
theorem nI : ∀ (l : List UInt8) {s : Int}, inU s → inU (lP s l)
 | [], s, h => h
 | c :: l, s, h => by
  show inU (lP (hN 8 (bU .xor .u32 s (c.toNat : Int))) l)
  exact nI l (qz 8 (lA _ _ _))
theorem qA (s : Int) (a b : List UInt8) : lP s (a ++ b) = lP (lP s a) b := by unfold lP; rw [List.foldl_append]
theorem wa {i n : Nat} (h : i + n < 2 ^ 62) : IntKind.i64.wrap ((i : Int) + (n : Int)) = ((i + n : Nat) : Int) := by rw [w64 (by omega) (by omega)]; simp
theorem ws1 {n : Nat} (h : n < 2 ^ 61) : IntKind.i64.wrap ((n : Int) + 1) = ((n + 1 : Nat) : Int) := by rw [w64 (by omega) (by omega)]; simp
theorem frG {l : List UInt8} {i : Nat} (h : i < l.length) : l.drop i = l.getD i 0 :: l.drop (i + 1) := by
 rw [List.getD_eq_getElem?_getD, List.getElem?_eq_getElem h]
 exact List.drop_eq_getElem_cons h
theorem oT : ∀ (k i : Nat) (z : Int), 8 - i < k → i ≤ 8 → inU z → ca.l1 k z (i : Int) = some (hN (8 - i) z)
 | 0, i, z, h, _, _ => by omega
 | k + 1, i, z, h, hi, hz => by
  rw [ca.l1]
  by_cases hlt : i < 8
  ·have D : Int.fdiv z (2 ^ (min (1 : Int).toNat IntKind.u32.bits)) = z / 2 := by
    show Int.fdiv z 2 = _
    rw [Int.fdiv_eq_ediv_of_nonneg _ (by decide)]
   have e : 8 - i = (8 - (i + 1)) + 1 := by omega
   have u := uC hz
   unfold h1 at u
   rw [if_pos (by omega), zo hz, D, ws1 (by omega), e]
   show _ = some (hN (8 - (i + 1)) (h1 z))
   unfold h1
   by_cases hb : z % 2 = 1
   ·rw [if_pos hb] at u
    rw [if_pos hb, if_pos hb, oT k (i + 1) _ (by omega) (by omega) u]
   ·rw [if_neg hb] at u
    rw [if_neg hb, if_neg hb, oT k (i + 1) _ (by omega) (by omega) u]
  ·rw [if_neg (by omega), show 8 - i = 0 by omega]
   rfl
theorem sH {x : List UInt8} (u : x.length < 2 ^ 40) : ∀ (k i : Nat) (z : Int), x.length - i + 9 < k → i ≤ x.length → inU z → ca.l0 x k z (i : Int) = some (lP z (x.drop i))
 | 0, i, z, h, _, _ => by omega
 | k + 1, i, z, h, hi, hz => by
  rw [ca.l0]
  by_cases hlt : i < x.length
  ·have D : ((x.getD i 0).toNat : Int) < 256 := by have := oU x i; omega
   rw [if_pos (by omega), if_pos (by omega), frG hlt]
   simp only [Int.toNat_natCast]
   rw [fY _ (by omega) (by omega), show (0 : Int) = ((0 : Nat) : Int) from rfl, oT k 0 _ (by omega) (by omega) (lA _ _ _), Option.bind_some, ws1 (by omega), sH u k (i + 1) _ (by omega) (by omega) (qz _ (lA _ _ _))]
   rfl
  ·rw [if_neg (by omega), List.drop_of_length_le (by omega)]
   rfl
theorem om {x : List UInt8} {z : Int} {k : Nat} (u : x.length < 2 ^ 40) (D : inU z) (G : x.length + 9 < k) : ca.f k z x = some (lP z x) := by
 unfold ca.f
 have := sH u k 0 z (by omega) (by omega) D
 rw [List.drop_zero] at this
 rw [show (0 : Int) = ((0 : Nat) : Int) from rfl, this]
 rfl
abbrev zp : Int := if IntKind.u32.signed then -1 else IntKind.u32.max
def lQ (l : List UInt8) : Int := bU .xor .u32 zp (lP 4294967295 l)
theorem vN (l : List UInt8) : inU (lQ l) := lA _ _ _
theorem tJ : inU 4294967295 := ⟨by decide, by decide⟩
def fJ (n : Int) : List UInt8 := [(dL (IntKind.u8.wrap n)), (dL (IntKind.u8.wrap (Int.fdiv n (2 ^ (min (8 : Int).toNat IntKind.u32.bits))))), (dL (IntKind.u8.wrap (Int.fdiv n (2 ^ (min (16 : Int).toNat IntKind.u32.bits))))), (dL (IntKind.u8.wrap (Int.fdiv n (2 ^ (min (24 : Int).toNat IntKind.u32.bits)))))]
theorem jb (n : Int) : 0 ≤ IntKind.u8.wrap n ∧ IntKind.u8.wrap n < 256 := by rw [IntKind.wrap_u8]; omega
theorem uD (n : Int) : gk.f n = some (fJ n) := by
 unfold gk.f
 rw [if_pos (jb _), if_pos (jb _), if_pos (jb _), if_pos (jb _)]
 rfl
theorem je (n : Int) : (fJ n).length = 4 := rfl
def frB (p : List UInt8) : List UInt8 := fJ (p.length : Int) ++ fJ (lQ (fJ (p.length : Int) ++ p)) ++ p
theorem kw (p : List UInt8) : (frB p).length = 8 + p.length := by simp [frB, je]; omega
theorem yU {u p : List UInt8} {k : Nat} (D : u.length ≤ 2 ^ 40) (hp : p.length ≤ 1048576) (G : p.length + 20 < k) : iG.f k u p = some (u ++ frB p) := by
 unfold iG.f
 rw [fY _ (by omega) (by omega), uD, Option.bind_some, om (by rw [je]; omega) tJ (by rw [je]; omega), Option.bind_some, om (by omega) (nI _ tJ) (by omega), Option.bind_some,
  if_pos (by rw [je]; omega), uD, Option.bind_some, if_pos (by rw [List.length_append, je, je]; omega), if_pos (by simp only [List.length_append, je]; omega), ← qA]
 simp only [frB, lQ, List.append_assoc]
theorem yV {p : List UInt8} {k : Nat} (u : p.length + 20 < k) : ib.f k p = some (if 1048576 < p.length then ([], 3) else (frB p, 0)) := by
 unfold ib.f
 by_cases h : 1048576 < p.length
 ·rw [if_pos (by omega), if_pos h]
 ·rw [if_neg (by omega), if_neg h, show (8 : Int) + (p.length : Int) = ((8 + p.length : Nat) : Int) by simp, w64 (by omega) (by omega), if_pos (by omega)]
  have : List.replicate (0 : Int).toNat (0 : UInt8) = [] := rfl
  rw [this, yU (by simp) (by omega) u]
  rfl
end Go.Proofs.YtndjkejhacfpdaaGreatDoor

namespace Go.Proofs.YtndjkejhacfpdaaGreatDoor
open Go.RowKit
def nb (l : List UInt8) (i : Nat) : Nat := (l.getD i 0).toNat
theorem kV (l : List UInt8) (i : Nat) : nb l i < 256 := oU l i
def gW (l : List UInt8) : Nat := nb l 0 + 256 * nb l 1 + 65536 * nb l 2 + 16777216 * nb l 3
theorem vU (l : List UInt8) : gW l < 4294967296 := by
 have := kV l 0; have := kV l 1; have := kV l 2; have := kV l 3
 unfold gW; omega
theorem uF {l : List UInt8} (h : 4 ≤ l.length) : gm.f l = some (gW l : Int) := by
 have u := kV l 0; have D := kV l 1; have G := kV l 2; have I := kV l 3
 unfold gm.f
 rw [if_pos (by omega), if_pos (by omega), if_pos (by omega), if_pos (by omega)]
 show some (bU .or .u32 (bU .or .u32 (bU .or .u32 (IntKind.u32.wrap ((nb l 0 : Nat) : Int)) (IntKind.u32.wrap ((IntKind.u32.wrap ((nb l 1 : Nat) : Int)) * 256))) (IntKind.u32.wrap ((IntKind.u32.wrap ((nb l 2 : Nat) : Int)) * 65536))) (IntKind.u32.wrap ((IntKind.u32.wrap ((nb l 3 : Nat) : Int)) * 16777216))) = _
 rw [fY ((nb l 0 : Nat) : Int) (by omega) (by omega), fY ((nb l 1 : Nat) : Int) (by omega) (by omega), fY ((nb l 2 : Nat) : Int) (by omega) (by omega), fY ((nb l 3 : Nat) : Int) (by omega) (by omega),
  fY (((nb l 1 : Nat) : Int) * 256) (by omega) (by omega), fY (((nb l 2 : Nat) : Int) * 65536) (by omega) (by omega), fY (((nb l 3 : Nat) : Int) * 16777216) (by omega) (by omega),
  qx 8 (x := ((nb l 1 : Nat) : Int) * 256) (y := ((nb l 0 : Nat) : Int)) (by omega) (by omega) (by omega) (by omega) (by omega) (by omega), qx 16 (x := ((nb l 2 : Nat) : Int) * 65536) (y := ((nb l 1 : Nat) : Int) * 256 + ((nb l 0 : Nat) : Int)) (by omega) (by omega) (by omega) (by omega) (by omega) (by omega), qx 24 (x := ((nb l 3 : Nat) : Int) * 16777216) (by omega) (by omega) (by omega) (by omega) (by omega) (by omega)]
 unfold gW
 congr 1
 try omega
theorem ou {n : Int} (u : 0 ≤ n) (h1 : n < 256) : ((dL n).toNat : Int) = n := ik u h1
theorem pu {n : Int} (h : inU n) (r : List UInt8) : ((gW (fJ n ++ r) : Nat) : Int) = n := by
 have I := h.1
 have J := h.2
 have u : Int.fdiv n (2 ^ (min (8 : Int).toNat IntKind.u32.bits)) = n / 256 := by show Int.fdiv n 256 = _; rw [Int.fdiv_eq_ediv_of_nonneg _ (by decide)]
 have D : Int.fdiv n (2 ^ (min (16 : Int).toNat IntKind.u32.bits)) = n / 65536 := by show Int.fdiv n 65536 = _; rw [Int.fdiv_eq_ediv_of_nonneg _ (by decide)]
 have G : Int.fdiv n (2 ^ (min (24 : Int).toNat IntKind.u32.bits)) = n / 16777216 := by show Int.fdiv n 16777216 = _; rw [Int.fdiv_eq_ediv_of_nonneg _ (by decide)]
 have L : ((nb (fJ n ++ r) 0 : Nat) : Int) = n % 256 := by
  show ((dL (IntKind.u8.wrap n)).toNat : Int) = _
  rw [ou (jb _).1 (jb _).2, IntKind.wrap_u8]
 have U : ((nb (fJ n ++ r) 1 : Nat) : Int) = n / 256 % 256 := by
  show ((dL (IntKind.u8.wrap (Int.fdiv n (2 ^ (min (8 : Int).toNat IntKind.u32.bits))))).toNat : Int) = _
  rw [ou (jb _).1 (jb _).2, IntKind.wrap_u8, u]
 have X : ((nb (fJ n ++ r) 2 : Nat) : Int) = n / 65536 % 256 := by
  show ((dL (IntKind.u8.wrap (Int.fdiv n (2 ^ (min (16 : Int).toNat IntKind.u32.bits))))).toNat : Int) = _
  rw [ou (jb _).1 (jb _).2, IntKind.wrap_u8, D]
 have e3 : ((nb (fJ n ++ r) 3 : Nat) : Int) = n / 16777216 % 256 := by
  show ((dL (IntKind.u8.wrap (Int.fdiv n (2 ^ (min (24 : Int).toNat IntKind.u32.bits))))).toNat : Int) = _
  rw [ou (jb _).1 (jb _).2, IntKind.wrap_u8, G]
 unfold gW
 omega
def tQ (r : List UInt8) : List UInt8 × Int × Int :=
 if r.length < 4 then ([], 0, 2)
 else if 1048576 < gW r then ([], 0, 3)
 else if r.length < 8 + gW r then ([], 0, 2)
 else if lQ (r.take 4 ++ (r.drop 8).take (gW r)) = (gW (r.drop 4) : Int) then ((r.drop 8).take (gW r), ((8 + gW r : Nat) : Int), 0)
 else ([], 0, 5)
theorem yW {b : List UInt8} {i k : Nat} (hb : b.length ≤ 2 ^ 40) (hi : i ≤ b.length) (hk : 1048600 < k) : gP.f k b (i : Int) = some (tQ (b.drop i)) := by
 obtain ⟨r, u⟩ : ∃ r, b.drop i = r := ⟨_, rfl⟩
 have G : r.length = b.length - i := by rw [← u]; simp
 unfold gP.f tQ
 rw [u]
 by_cases h4 : r.length < 4
 ·rw [if_pos (by rw [w64 (by omega) (by omega)]; simp; omega), if_pos h4]
 ·have I : cut b (i : Int) (b.length : Int) = r := by rw [uG, Int.toNat_natCast, u]
  rw [if_neg (by rw [w64 (by omega) (by omega)]; simp; omega), if_neg h4, if_pos (by omega), I, uF (by omega), Option.bind_some]
  have J := vU r
  obtain ⟨n, L⟩ : ∃ n, gW r = n := ⟨_, rfl⟩
  rw [L] at J ⊢
  rw [w64 (n := (n : Int)) (by omega) (by omega)]
  by_cases h1 : 1048576 < n
  ·rw [if_pos (by omega), if_pos h1]
  ·rw [if_neg (by omega), if_neg h1, show (8 : Int) + (n : Int) = ((8 + n : Nat) : Int) by simp, w64 (by omega) (by omega)]
   by_cases h2 : r.length < 8 + n
   ·rw [if_pos (by omega), if_pos h2]
   ·have U : cut r (0 : Int) (4 : Int) = r.take 4 := by simp [cut]
    have c2 : cut r (8 : Int) ((8 + n : Nat) : Int) = (r.drop 8).take n := yv r 8 n
    have X : cut r (4 : Int) (r.length : Int) = r.drop 4 := by rw [uG]; rfl
    have ab : (r.take 4).length = 4 := by simp; omega
    have D : ((r.drop 8).take n).length = n := by simp; omega
    rw [if_neg (by omega), if_neg h2, if_pos (by omega), if_pos (by omega), U, c2, om (by omega) tJ (by omega), Option.bind_some, om (by omega) (nI _ tJ) (by omega), Option.bind_some, if_pos (by omega), X, uF (by simp; omega), Option.bind_some, ← qA]
    show (if lQ (r.take 4 ++ (r.drop 8).take n) = (gW (r.drop 4) : Int) then _ else _) = _
    by_cases h3 : lQ (r.take 4 ++ (r.drop 8).take n) = (gW (r.drop 4) : Int)
    ·rw [if_pos h3, if_pos h3, if_pos (by omega), if_pos (by rw [D]; simp; omega)]
     rfl
    ·rw [if_neg h3, if_neg h3]
theorem xl {p : List UInt8} (hp : p.length ≤ 1048576) (r : List UInt8) : tQ (frB p ++ r) = (p, ((8 + p.length : Nat) : Int), 0) := by
 have h1 : gW (frB p ++ r) = p.length := by
  have := pu (n := (p.length : Int)) ⟨by omega, by omega⟩ (fJ (lQ (fJ (p.length : Int) ++ p)) ++ p ++ r)
  have e : fJ (p.length : Int) ++ (fJ (lQ (fJ (p.length : Int) ++ p)) ++ p ++ r) = frB p ++ r := by simp [frB]
  rw [e] at this
  omega
 have J : (frB p ++ r).length = 8 + p.length + r.length := by rw [List.length_append, kw]
 have u : (frB p ++ r).take 4 = fJ (p.length : Int) := by simp [frB, fJ]
 have D : (frB p ++ r).drop 4 = fJ (lQ (fJ (p.length : Int) ++ p)) ++ (p ++ r) := by simp [frB, fJ]
 have G : ((frB p ++ r).drop 8).take p.length = p := by simp [frB, fJ]
 have I := pu (vN (fJ (p.length : Int) ++ p)) (p ++ r)
 unfold tQ
 rw [h1, G, u, D, I, if_neg (by omega), if_neg (by omega), if_neg (by omega), if_pos rfl]
end Go.Proofs.YtndjkejhacfpdaaGreatDoor

namespace Go.Proofs.YtndjkejhacfpdaaGreatDoor
open Go.RowKit
theorem fD {α : Type} {l : List α} {i : Nat} {d : α} (h : i < l.length) : l.getD i d = l[i] := by
 rw [List.getD_eq_getElem?_getD, List.getElem?_eq_getElem h]; rfl
theorem vc {α : Type} {l : List α} {i : Nat} {d : α} (h : i < l.length) : l.drop i = l.getD i d :: l.drop (i + 1) := by
 rw [fD h]
 exact List.drop_eq_getElem_cons h
theorem yO {p : UInt8 → Bool} (h : ((List.range 256).all fun n => p (UInt8.ofNat n)) = true) (c : UInt8) : p c = true := by
 have := List.all_eq_true.1 h c.toNat (List.mem_range.2 (UInt8.toNat_lt c))
 simpa using this
theorem wn1 {n : Nat} (h : n < 2 ^ 61) : IntKind.i64.wrap ((n : Int) + 1) = ((n + 1 : Nat) : Int) := by rw [w64 (by omega) (by omega)]; simp
def dg (c : UInt8) : Prop := 48 ≤ c.toNat ∧ c.toNat ≤ 57
def jB (a : Nat) (l : List UInt8) : Nat := l.foldl (fun a c => a * 10 + (c.toNat - 48)) a
instance (c : UInt8) : Decidable (dg c) := inferInstanceAs (Decidable (48 ≤ c.toNat ∧ c.toNat ≤ 57))
theorem sn (a : Nat) (c : UInt8) (l : List UInt8) : jB a (c :: l) = jB (a * 10 + (c.toNat - 48)) l := by simp only [jB, List.foldl_cons]
theorem sB (a : Nat) (c : UInt8) (l : List UInt8) : jB a (l ++ [c]) = jB a l * 10 + (c.toNat - 48) := by simp [jB, List.foldl_append]
theorem xd {n : Nat} (h : n < 256) : (UInt8.ofNat n).toNat = n := by simp; omega
theorem sW : ∀ (k u : Nat), u < 10 ^ (k + 1) → (Lib.decDigits u).length ≤ k + 1
 | 0, u, h => by rw [Lib.decDigits, dif_pos (by simpa using h)]; simp
 | k + 1, u, h => by
  rw [Lib.decDigits]
  split
  ·simp
  ·have := sW k (u / 10) (by rw [Nat.pow_succ] at h; omega)
   simp; omega
theorem wj {n : Int} (h : 0 ≤ n) : Lib.itoa n = Lib.decDigits n.toNat := by unfold Lib.itoa; rw [if_neg (by omega)]
def pad : Nat → Nat → List UInt8
 | 0, _ => []
 | k + 1, n => pad k (n / 10) ++ [UInt8.ofNat (48 + n % 10)]
theorem lM : ∀ k n, (pad k n).length = k
 | 0, _ => rfl
 | k + 1, n => by rw [pad, List.length_append, lM k]; rfl
theorem rX : ∀ k, pad k 0 = Lib.repeatL [48] k
 | 0 => rfl
 | k + 1 => by
  have e : ∀ k, Lib.repeatL [48] k ++ [48] = Lib.repeatL [48] (k + 1) := fun k => by
   induction k with
   | zero => rfl
   | succ k ih => rw [Lib.repeatL, List.append_assoc, ih]; rfl
  rw [pad, show (0 : Nat) / 10 = 0 from rfl, rX k]
  exact e k
theorem sX : ∀ (k n : Nat), n < 10 ^ (k + 1) → Lib.repeatL [48] (k + 1 - (Lib.decDigits n).length) ++ Lib.decDigits n = pad (k + 1) n
 | k, n, h => by
  by_cases h10 : n < 10
  ·rw [Lib.decDigits, dif_pos h10, pad, show n / 10 = 0 by omega, show n % 10 = n by omega, rX]
   rfl
  ·rw [Lib.decDigits, dif_neg h10]
   cases k with
   | zero => exact absurd h (by simp; omega)
   | succ k =>
    have u := sX k (n / 10) (by rw [Nat.pow_succ] at h; omega)
    rw [pad, ← u, List.length_append]
    simp only [List.length_cons, List.length_nil]
    rw [show k + 1 + 1 - ((Lib.decDigits (n / 10)).length + (0 + 1)) = k + 1 - (Lib.decDigits (n / 10)).length by omega]
    simp
theorem rx : ∀ (k n : Nat) c, c ∈ pad k n → dg c
 | 0, _, c, h => by cases h
 | k + 1, n, c, h => by
  rw [pad] at h
  rcases List.mem_append.1 h with h | h
  ·exact rx k _ c h
  ·have e : (UInt8.ofNat (48 + n % 10)).toNat = 48 + n % 10 := xd (by omega)
   rw [List.mem_singleton.1 h, dg, e]; omega
theorem rv : ∀ (k n : Nat), n < 10 ^ k → jB 0 (pad k n) = n
 | 0, n, h => by simp at h; subst h; rfl
 | k + 1, n, h => by
  have e : (UInt8.ofNat (48 + n % 10)).toNat = 48 + n % 10 := xd (by omega)
  rw [pad, sB, rv k (n / 10) (by rw [Nat.pow_succ] at h; omega), e]
  omega
end Go.Proofs.YtndjkejhacfpdaaGreatDoor

namespace Go.Proofs.YtndjkejhacfpdaaGreatDoor
open Go.RowKit
abbrev rt : List UInt8 := [119, 97, 108, 45]
def aK (n : Nat) : List UInt8 := rt ++ pad 8 n
def lv (s : List UInt8) : Nat := if s.length = 12 ∧ s.take 4 = rt ∧ (∀ c, c ∈ s.drop 4 → dg c) then jB 0 (s.drop 4) else 0
instance (l : List UInt8) : Decidable (∀ c, c ∈ l → dg c) := inferInstanceAs (Decidable (∀ c ∈ l, dg c))
theorem ru (l : List UInt8) (G : l.length ≤ 8) : ∀ (k j : Nat), 8 - l.length - j < k → j ≤ 8 - l.length → fj.l0 k (Lib.repeatL [48] j ++ l) = some (Lib.repeatL [48] (8 - l.length) ++ l)
 | 0, j, h, _ => by omega
 | k + 1, j, h, hj => by
  have u : (Lib.repeatL [48] j).length = j := by rw [Lib.repeatL_length]; simp
  rw [fj.l0]
  by_cases hlt : j < 8 - l.length
  ·rw [if_pos (by rw [List.length_append, u]; omega), if_pos (by rw [List.length_append, u]; simp only [List.length_cons, List.length_nil]; omega)]
   have D := ru l G k (j + 1) (by omega) (by omega)
   rw [Lib.repeatL, List.append_assoc] at D
   exact D
  ·rw [if_neg (by rw [List.length_append, u]; omega), show j = 8 - l.length by omega]
theorem xI {n k : Nat} (D : 1 ≤ n) (h1 : n ≤ 99999999) (G : 10 ≤ k) : fj.f k (n : Int) = some (aK n, 0) := by
 have u := sW 7 n (by omega)
 have hp := sX 7 n (by omega)
 unfold fj.f
 have l0 := ru (Lib.decDigits n) (by omega) k 0 (by omega) (by omega)
 rw [if_neg (by simp; omega), gZ.f, if_pos (by omega), Option.bind_some, wj (by omega), Int.toNat_natCast]
 rw [show Lib.repeatL [48] 0 ++ Lib.decDigits n = Lib.decDigits n from rfl] at l0
 rw [l0, hp, Option.bind_some, if_pos (by rw [lM]; simp only [List.length_cons, List.length_nil]; omega)]
 rfl
theorem sY {s : List UInt8} (G : s.length = 12) : ∀ (k i n : Nat), 8 - i < k → i ≤ 8 → n < 10 ^ i →
  eu.l0 s k (n : Int) (i : Int) = some (if (∀ c, c ∈ (s.drop 4).drop i → dg c) then .inl ((jB n ((s.drop 4).drop i) : Nat) : Int) else .inr (0, false))
 | 0, i, n, h, _, _ => by omega
 | k + 1, i, n, hk, hi, hn => by
  rw [eu.l0]
  have I : cut s (4 : Int) (s.length : Int) = s.drop 4 := by unfold cut; simp
  have J : (s.drop 4).length = 8 := by simp; omega
  rw [I, J]
  by_cases hlt : i < 8
  ·have hm : n * 10 + 9 < 10 ^ 9 := by
    have : (10 : Nat) ^ i ≤ 10 ^ 7 := Nat.pow_le_pow_right (by omega) (by omega)
    omega
   have L : n * 10 < 10 ^ (i + 1) := by rw [Nat.pow_succ]; omega
   have D : (s.drop 4).drop i = (s.drop 4).getD i 0 :: (s.drop 4).drop (i + 1) := by
    have U := vc (l := s.drop 4) (d := (0 : UInt8)) (i := i) (by omega)
    exact U
   rw [if_pos (by omega), if_pos (by omega), D]
   simp only [Int.toNat_natCast]
   obtain ⟨c, X⟩ : ∃ c, (s.drop 4).getD i 0 = c := ⟨_, rfl⟩
   simp only [X]
   by_cases hd : dg c
   ·have d1 := hd.1
    have d2 := hd.2
    rw [if_neg (by simp; omega)]
    have e2 : IntKind.i64.wrap (IntKind.i64.wrap (10 * (n : Int)) + IntKind.i64.wrap (IntKind.u8.wrap (((c.toNat : Nat) : Int) - 48))) = ((n * 10 + (c.toNat - 48) : Nat) : Int) := by
     rw [w8 (by omega) (by omega), w64 (n := 10 * (n : Int)) (by omega) (by omega), w64 (n := ((c.toNat : Nat) : Int) - 48) (by omega) (by omega), w64 (by omega) (by omega)]
     omega
    rw [e2, wn1 (by omega), sY G k (i + 1) _ (by omega) (by omega) (by rw [Nat.pow_succ]; omega), sn]
    have e3 : (∀ d, d ∈ c :: (s.drop 4).drop (i + 1) → dg d) ↔ (∀ d, d ∈ (s.drop 4).drop (i + 1) → dg d) := ⟨fun h d u => h d (List.mem_cons_of_mem _ u), fun h d u => by
     rcases List.mem_cons.1 u with rfl | u
     ·exact hd
     ·exact h d u⟩
    simp only [e3]
   ·rw [if_pos (by
     unfold dg at hd
     simp only [Bool.or_eq_true, decide_eq_true_eq]
     omega), if_neg (fun h => hd (h c (by simp)))]
  ·rw [if_neg (by omega), List.drop_of_length_le (l := s.drop 4) (by omega), if_pos (fun c h => (by cases h))]
   rfl
theorem vd {s : List UInt8} {k : Nat} (G : s.length ≤ 2 ^ 40) (I : 10 ≤ k) : eu.f k s = some ((lv s : Int), decide (0 < lv s)) := by
 unfold eu.f lv
 by_cases hl : s.length = 12
 ·rw [if_pos (by omega), if_pos (by omega), Option.bind_some]
  have u : cut s (0 : Int) (4 : Int) = s.take 4 := by unfold cut; simp
  rw [u]
  by_cases hp : s.take 4 = rt
  ·have l0 := sY hl k 0 0 (by omega) (by omega) (by omega)
   rw [show ((0 : Nat) : Int) = (0 : Int) from rfl] at l0
   have D : (cut s (4 : Int) (s.length : Int)).length = 8 := by unfold cut; simp; omega
   rw [if_neg (by simp [hp]), if_pos (show 0 ≤ (4 : Int) ∧ (4 : Int) ≤ (s.length : Int) ∧ (s.length : Int) ≤ (s.length : Int) by omega), if_pos (by rw [D]; omega), l0]
   rw [List.drop_zero]
   by_cases hd : ∀ c, c ∈ s.drop 4 → dg c
   ·rw [if_pos hd, if_pos ⟨hl, hp, hd⟩]
    simp [orR]
   ·rw [if_neg hd, if_neg (fun h => hd h.2.2)]
    rfl
  ·rw [if_pos (by simp [hp]), if_neg (fun h => hp h.2.1)]
   rfl
 ·rw [if_neg (by omega), Option.bind_some, if_pos rfl, if_neg (fun h => hl h.1)]
  rfl
theorem kc (n : Nat) : (aK n).length = 12 := by simp [aK, lM]
theorem md {n : Nat} (h : n ≤ 99999999) : lv (aK n) = n := by
 have u : (aK n).take 4 = rt := by simp [aK]
 have D : (aK n).drop 4 = pad 8 n := by simp [aK]
 unfold lv
 rw [D, rv 8 n (by omega), if_pos ⟨kc n, u, fun c G => rx 8 n c G⟩]
end Go.Proofs.YtndjkejhacfpdaaGreatDoor

namespace Go.Proofs.YtndjkejhacfpdaaGreatDoor
open Go.RowKit
abbrev EnT := Int × Int × Int × List UInt8
abbrev HeT := Int × Int × Int × List UInt8 × Int
abbrev bO := Int × Int × Int × Int × Int × Int × Int × Int × Int × Int × List UInt8
def cF (r : bO) : List UInt8 :=
 aM r.1 ++ (if r.1 = 0 then aM r.2.1 else []) ++ (if r.1 = 0 ∨ r.1 = 1 then aM r.2.2.1 ++ aM r.2.2.2.1 ++ aM r.2.2.2.2.1 else []) ++ (if r.1 = 0 ∨ r.1 = 3 then aM r.2.2.2.2.2.1 ++ aM r.2.2.2.2.2.2.1 else []) ++
  (if r.1 = 2 then bB (txE r.2.2.2.2.2.2.2.1 r.2.2.2.2.2.2.2.2.1 r.2.2.2.2.2.2.2.2.2.1 r.2.2.2.2.2.2.2.2.2.2) else [])
structure OkR (r : bO) : Prop where
 kd : 0 ≤ r.1 ∧ r.1 ≤ 3
 nu : okN r.2.1
 t : okN r.2.2.1
 v : okN r.2.2.2.1
 c : okN r.2.2.2.2.1
 i : okN r.2.2.2.2.2.1
 m : okN r.2.2.2.2.2.2.1
 e : r.1 = 2 → iY r.2.2.2.2.2.2.2.1 r.2.2.2.2.2.2.2.2.1 r.2.2.2.2.2.2.2.2.2.1 r.2.2.2.2.2.2.2.2.2.2 = 0
theorem iF : bH.f 0 = some () := rfl
theorem pd (t i kd : Int) (d : List UInt8) : (txE t i kd d).length ≤ d.length + 36 := by
 have u := cP t; have D := cP i; have G := cP kd; have I := qS d
 unfold txE
 simp only [List.length_append]
 omega
theorem io (r : bO) : (cF r).length ≤ r.2.2.2.2.2.2.2.2.2.2.length + 120 := by
 have u := cP r.1; have D := cP r.2.1; have G := cP r.2.2.1; have I := cP r.2.2.2.1; have J := cP r.2.2.2.2.1; have L := cP r.2.2.2.2.2.1; have U := cP r.2.2.2.2.2.2.1
 have X := pd r.2.2.2.2.2.2.2.1 r.2.2.2.2.2.2.2.2.1 r.2.2.2.2.2.2.2.2.2.1 r.2.2.2.2.2.2.2.2.2.2
 have b8 := qS (txE r.2.2.2.2.2.2.2.1 r.2.2.2.2.2.2.2.2.1 r.2.2.2.2.2.2.2.2.2.1 r.2.2.2.2.2.2.2.2.2.2)
 unfold cF
 simp only [List.length_append]
 have e1 : (if r.1 = 0 then aM r.2.1 else []).length ≤ 9 := by split <;> first | omega | simp
 have e2 : (if r.1 = 0 ∨ r.1 = 1 then aM r.2.2.1 ++ aM r.2.2.2.1 ++ aM r.2.2.2.2.1 else []).length ≤ 27 := by split <;> first | (simp only [List.length_append]; omega) | simp
 have e3 : (if r.1 = 0 ∨ r.1 = 3 then aM r.2.2.2.2.2.1 ++ aM r.2.2.2.2.2.2.1 else []).length ≤ 18 := by split <;> first | (simp only [List.length_append]; omega) | simp
 have e4 : (if r.1 = 2 then bB (txE r.2.2.2.2.2.2.2.1 r.2.2.2.2.2.2.2.2.1 r.2.2.2.2.2.2.2.2.2.1 r.2.2.2.2.2.2.2.2.2.2) else []).length ≤ r.2.2.2.2.2.2.2.2.2.2.length + 45 := by split <;> first | omega | simp
 omega
theorem sL {r : bO} (h : OkR r) {k : Nat} (hk : 10000 ≤ k) : dS.f k r.1 r.2.1 r.2.2.1 r.2.2.2.1 r.2.2.2.2.1 r.2.2.2.2.2.1 r.2.2.2.2.2.2.1 r.2.2.2.2.2.2.2.1 r.2.2.2.2.2.2.2.2.1 r.2.2.2.2.2.2.2.2.2.1 r.2.2.2.2.2.2.2.2.2.2 = some (frB (cF r)) := by
 have J := io r
 obtain ⟨kd, nu, t, v, c, i, m, U, X, ek, ed⟩ := r
 obtain ⟨ad, L, ht, hv, hc, hi, hm, he⟩ := h
 simp only at ad L ht hv hc hi hm he J ⊢
 have b0 := cP kd; have b1 := cP nu; have b2 := cP t; have b3 := cP v; have b4 := cP c; have b5 := cP i; have b6 := cP m
 have u : 10 ≤ k := by omega
 have D : ∀ p : List UInt8, p.length ≤ 9000 → ((dF.f p 0).bind fun G => ((bH.f G.2).bind fun a8 => ((ib.f k G.1).bind fun I => ((bH.f I.2).bind fun bc => (some I.1))))) = some (frB p) := fun p hp => by
  rw [wD (by omega), Option.bind_some]
  simp only []
  rw [iF, Option.bind_some, yV (by omega), if_neg (by omega), Option.bind_some]
  simp only []
  rw [iF, Option.bind_some]
 unfold dS.f
 rw [show eS.f = some (([] : List UInt8), 0) from rfl, Option.bind_some]
 simp only []
 rw [wI u (by simp) (show okN kd by unfold okN; omega), Option.bind_some]
 simp only [List.nil_append]
 have a6 : kd = 0 ∨ kd = 1 ∨ kd = 2 ∨ kd = 3 := by omega
 rcases a6 with rfl | rfl | rfl | rfl
 ·rw [if_pos rfl, wI u (by omega) L]
  simp only [Option.bind_some]
  rw [if_pos (by decide), wI u (by first | omega | (simp only [List.length_append, List.length_nil]; omega)) ht, Option.bind_some, wI u (by first | omega | (simp only [List.length_append, List.length_nil]; omega)) hv, Option.bind_some, wI u (by first | omega | (simp only [List.length_append, List.length_nil]; omega)) hc]
  simp only [Option.bind_some]
  rw [if_pos (by decide), wI u (by first | omega | (simp only [List.length_append, List.length_nil]; omega)) hi, Option.bind_some, wI u (by first | omega | (simp only [List.length_append, List.length_nil]; omega)) hm]
  simp only [Option.bind_some]
  rw [if_neg (by decide)]
  simp only [Option.bind_some]
  rw [D _ (by first | omega | (simp only [List.length_append, List.length_nil]; omega))]
  unfold cF
  simp [List.append_assoc]
 ·rw [if_neg (by decide)]
  simp only [Option.bind_some]
  rw [if_pos (by decide), wI u (by first | omega | (simp only [List.length_append, List.length_nil]; omega)) ht, Option.bind_some, wI u (by first | omega | (simp only [List.length_append, List.length_nil]; omega)) hv, Option.bind_some, wI u (by first | omega | (simp only [List.length_append, List.length_nil]; omega)) hc]
  simp only [Option.bind_some]
  rw [if_neg (by decide)]
  simp only [Option.bind_some]
  rw [if_neg (by decide)]
  simp only [Option.bind_some]
  rw [D _ (by first | omega | (simp only [List.length_append, List.length_nil]; omega))]
  unfold cF
  simp [List.append_assoc]
 ·rw [if_neg (by decide)]
  simp only [Option.bind_some]
  rw [if_neg (by decide)]
  simp only [Option.bind_some]
  rw [if_neg (by decide)]
  simp only [Option.bind_some]
  have hE := he rfl
  have br := fC hE
  have b7 := pd U X ek ed
  have b8 := qS (txE U X ek ed)
  first | rw [if_pos rfl] | rw [if_pos trivial]
  rw [zb u]
  unfold wb
  rw [if_pos hE]
  simp only [Option.bind_some]
  rw [iF, Option.bind_some, wB u (by omega) (by omega) (by omega)]
  simp only [Option.bind_some]
  rw [D _ (by have := cP ((txE U X ek ed).length : Int); simp only [List.length_append]; omega)]
  unfold cF
  simp [List.append_assoc, bB]
 ·rw [if_neg (by decide)]
  simp only [Option.bind_some]
  rw [if_neg (by decide)]
  simp only [Option.bind_some]
  rw [if_pos (by decide), wI u (by omega) hi, Option.bind_some, wI u (by first | omega | (simp only [List.length_append, List.length_nil]; omega)) hm]
  simp only [Option.bind_some]
  rw [if_neg (by decide)]
  simp only [Option.bind_some]
  rw [D _ (by first | omega | (simp only [List.length_append, List.length_nil]; omega))]
  unfold cF
  simp [List.append_assoc]
end Go.Proofs.YtndjkejhacfpdaaGreatDoor

namespace Go.Proofs.YtndjkejhacfpdaaGreatDoor
open Go.RowKit
abbrev dzH : HeT := (0, 0, 0, [], 0)
abbrev St := Int × Int × Int × Int × Int × List HeT
structure dN (s : St) : Prop where
 t : okN s.1
 v : okN s.2.1
 c : okN s.2.2.1
 b : okN s.2.2.2.1
 bt : okN s.2.2.2.2.1
 idx : ∀ i, i < s.2.2.2.2.2.length → (s.2.2.2.2.2.getD i dzH).2.1 = s.2.2.2.1 + ((i + 1 : Nat) : Int)
 chk : ∀ e, e ∈ s.2.2.2.2.2 → iY e.1 e.2.1 e.2.2.1 e.2.2.2.1 = 0
theorem lI : dN (0, 0, 0, 0, 0, []) := ⟨⟨by decide, by decide⟩, ⟨by decide, by decide⟩, ⟨by decide, by decide⟩, ⟨by decide, by decide⟩, ⟨by decide, by decide⟩, fun i h => by simp at h, fun e h => by cases h⟩
def cC (s : St) : Int × Int := if 0 < s.2.2.2.2.2.length then ((s.2.2.2.2.2.getD (s.2.2.2.2.2.length - 1) dzH).2.1, (s.2.2.2.2.2.getD (s.2.2.2.2.2.length - 1) dzH).1) else (s.2.2.2.1, s.2.2.2.2.1)
theorem kZ {s : St} (h : dN s) : (cC s).1 = s.2.2.2.1 + (s.2.2.2.2.2.length : Int) := by
 unfold cC
 split
 ·rw [h.idx _ (by omega)]; omega
 ·simp; omega
theorem kI {l : List HeT} {i : Nat} (h : i < l.length) : l.getD i dzH ∈ l := by rw [fD h]; exact List.getElem_mem _
theorem lJ {s : St} (h : dN s) : s.2.2.2.1 + (s.2.2.2.2.2.length : Int) ≤ 4611686018427387904 := by
 by_cases hl : 0 < s.2.2.2.2.2.length
 ·have h1 := h.idx (s.2.2.2.2.2.length - 1) (by omega)
  have u := (fC (h.chk _ (kI (i := s.2.2.2.2.2.length - 1) (by omega)))).2.1
  have D := u.2
  rw [h1] at D
  omega
 ·have := h.b.2; omega
theorem mJ (fs : FSt) (la : List UInt8) (a : Int) (d : Bool) (most : Int) (sg : List Int) (sz : Int) (s : St) (u : Bool) (D : s.2.2.2.2.2.length < 2 ^ 40) : cx.f fs la a d most sg sz s.1 s.2.1 s.2.2.1 s.2.2.2.1 s.2.2.2.2.1 s.2.2.2.2.2 u = some (cC s) := by
 unfold cx.f cC
 by_cases h0 : 0 < s.2.2.2.2.2.length
 ·have e : (s.2.2.2.2.2.length : Int) - 1 = ((s.2.2.2.2.2.length - 1 : Nat) : Int) := by omega
  rw [if_pos (by omega), if_pos h0, e, w64 (by omega) (by omega), if_pos (by omega), Int.toNat_natCast]
 ·rw [if_neg (by omega), if_neg h0]
def fQ (s : St) (i m : Int) : Bool :=
 if i = s.2.2.2.1 then decide (m = s.2.2.2.2.1) else if s.2.2.2.1 < i ∧ i - s.2.2.2.1 ≤ (s.2.2.2.2.2.length : Int) then decide ((s.2.2.2.2.2.getD (i - s.2.2.2.1 - 1).toNat dzH).1 = m) else false
theorem qo (fs : FSt) (la : List UInt8) (a : Int) (d : Bool) (most : Int) (sg : List Int) (sz : Int) {s : St} (h : dN s) (u : Bool) {i : Int} (hi : okN i) (m : Int) : dr.f fs la a d most sg sz s.1 s.2.1 s.2.2.1 s.2.2.2.1 s.2.2.2.2.1 s.2.2.2.2.2 u i m = some (fQ s i m) := by
 have D := h.b
 unfold okN at D hi
 unfold dr.f fQ
 by_cases e : i = s.2.2.2.1
 ·rw [if_pos e, if_pos e]
 ·rw [if_neg e, if_neg e, w64 (n := i - s.2.2.2.1) (by omega) (by omega)]
  by_cases h2 : s.2.2.2.1 < i ∧ i - s.2.2.2.1 ≤ (s.2.2.2.2.2.length : Int)
  ·rw [if_pos (by simpa using h2), if_pos h2, w64 (by omega) (by omega), if_pos (by omega)]; rfl
  ·rw [if_neg (by simpa using h2), if_neg h2]; rfl
def cT (s : St) (r : bO) (sg : Int) : St :=
 if r.1 = 1 then (r.2.2.1, r.2.2.2.1, r.2.2.2.2.1, s.2.2.2.1, s.2.2.2.2.1, s.2.2.2.2.2)
 else if r.1 = 2 then
  (if s.2.2.2.1 + (s.2.2.2.2.2.length : Int) + 1 < r.2.2.2.2.2.2.2.2.1 then s
  else if r.2.2.2.2.2.2.2.2.1 ≤ s.2.2.2.1 then (s.1, s.2.1, s.2.2.1, r.2.2.2.2.2.2.2.2.1 - 1, 0, [(r.2.2.2.2.2.2.2.1, r.2.2.2.2.2.2.2.2.1, r.2.2.2.2.2.2.2.2.2.1, r.2.2.2.2.2.2.2.2.2.2, sg)])
  else (s.1, s.2.1, s.2.2.1, s.2.2.2.1, s.2.2.2.2.1, s.2.2.2.2.2.take (r.2.2.2.2.2.2.2.2.1 - s.2.2.2.1 - 1).toNat ++ [(r.2.2.2.2.2.2.2.1, r.2.2.2.2.2.2.2.2.1, r.2.2.2.2.2.2.2.2.2.1, r.2.2.2.2.2.2.2.2.2.2, sg)]))
 else if fQ s r.2.2.2.2.2.1 r.2.2.2.2.2.2.1 = true then s else (s.1, s.2.1, s.2.2.1, r.2.2.2.2.2.1, r.2.2.2.2.2.2.1, [])
theorem uP (l : List HeT) (n : Nat) : cut l (0 : Int) (n : Int) = l.take n := by unfold cut; simp
theorem yB (fs : FSt) (la : List UInt8) (a : Int) (d : Bool) (most : Int) (u : List Int) (sz : Int) {s : St} (h : dN s) (hl : s.2.2.2.2.2.length < 2 ^ 30) {r : bO} (D : OkR r) (h0 : r.1 ≠ 0) (sg : Int) :
  ∃ b, dD.f fs la a d most u sz s.1 s.2.1 s.2.2.1 s.2.2.2.1 s.2.2.2.2.1 s.2.2.2.2.2 false r.1 r.2.1 r.2.2.1 r.2.2.2.1 r.2.2.2.2.1 r.2.2.2.2.2.1 r.2.2.2.2.2.2.1 r.2.2.2.2.2.2.2.1 r.2.2.2.2.2.2.2.2.1 r.2.2.2.2.2.2.2.2.2.1 r.2.2.2.2.2.2.2.2.2.2 sg =
   some (b, most, u, sz, (cT s r sg).1, (cT s r sg).2.1, (cT s r sg).2.2.1, (cT s r sg).2.2.2.1, (cT s r sg).2.2.2.2.1, (cT s r sg).2.2.2.2.2, false) := by
 have hk := D.kd
 have J := h.b
 unfold okN at J
 unfold dD.f cT
 by_cases h1 : r.1 = 1
 ·rw [if_pos h1, if_pos h1]; exact ⟨true, rfl⟩
 rw [if_neg h1, if_neg h1]
 by_cases h2 : r.1 = 2
 ·rw [if_pos h2, if_pos h2, show df.f = some () from rfl, Option.bind_some]
  unfold fy.f
  have G := (fC (D.e h2)).2.1
  have L := G.1
  have U := G.2
  have I := lJ h
  rw [w64 (n := s.2.2.2.1 + (s.2.2.2.2.2.length : Int)) (by omega) (by omega), w64 (n := s.2.2.2.1 + (s.2.2.2.2.2.length : Int) + 1) (by omega) (by omega)]
  by_cases g1 : s.2.2.2.1 + (s.2.2.2.2.2.length : Int) + 1 < r.2.2.2.2.2.2.2.2.1
  ·rw [if_pos g1, if_pos g1]; exact ⟨false, rfl⟩
  ·rw [if_neg g1, if_neg g1]
   by_cases g2 : r.2.2.2.2.2.2.2.2.1 ≤ s.2.2.2.1
   ·rw [if_pos g2, if_pos g2, w64 (n := r.2.2.2.2.2.2.2.2.1 - 1) (by omega) (by omega)]
    simp only [Option.bind_some]
    rw [show r.2.2.2.2.2.2.2.2.1 - (r.2.2.2.2.2.2.2.2.1 - 1) = 1 by omega, show IntKind.i64.wrap (1 : Int) = 1 from by decide, show IntKind.i64.wrap ((1 : Int) - 1) = 0 from by decide, if_pos ⟨by omega, by omega, by simp⟩]
    have X : cut ([] : List HeT) (0 : Int) (0 : Int) = [] := rfl
    rw [X, if_pos (by simp)]
    exact ⟨true, rfl⟩
   ·rw [if_neg g2, if_neg g2]
    simp only [Option.bind_some]
    have e1 : IntKind.i64.wrap (IntKind.i64.wrap (r.2.2.2.2.2.2.2.2.1 - s.2.2.2.1) - 1) = (((r.2.2.2.2.2.2.2.2.1 - s.2.2.2.1 - 1).toNat : Nat) : Int) := by
     rw [w64 (n := r.2.2.2.2.2.2.2.2.1 - s.2.2.2.1) (by omega) (by omega), w64 (by omega) (by omega)]
     omega
    rw [e1, if_pos ⟨by omega, by omega, by omega⟩, uP, if_pos (by simp only [List.length_take, List.length_cons, List.length_nil]; omega)]
    exact ⟨true, rfl⟩
 rw [if_neg h2, if_neg h2, if_pos (by omega), show df.f = some () from rfl, Option.bind_some]
 unfold fA.f
 rw [qo fs la a d most u sz h false D.i, Option.bind_some]
 cases hh : fQ s r.2.2.2.2.2.1 r.2.2.2.2.2.2.1 with
 | true => exact ⟨true, rfl⟩
 | false => exact ⟨true, rfl⟩
theorem kb (l : List HeT) {i n : Nat} (h : i < n) : (l.take n).getD i dzH = l.getD i dzH := by
 simp only [List.getD_eq_getElem?_getD, List.getElem?_take, if_pos h]
theorem jo {s : St} (h : dN s) {r : bO} (G : OkR r) (h0 : r.1 ≠ 0) (sg : Int) : dN (cT s r sg) := by
 have hk := G.kd
 have U := h.b
 unfold okN at U
 unfold cT
 by_cases h1 : r.1 = 1
 ·rw [if_pos h1]; exact ⟨G.t, G.v, G.c, h.b, h.bt, h.idx, h.chk⟩
 rw [if_neg h1]
 by_cases h2 : r.1 = 2
 ·rw [if_pos h2]
  have I := G.e h2
  have L := (fC I).2.1
  have X := L.1
  have ab := L.2
  by_cases g1 : s.2.2.2.1 + (s.2.2.2.2.2.length : Int) + 1 < r.2.2.2.2.2.2.2.2.1
  ·rw [if_pos g1]; exact h
  ·rw [if_neg g1]
   by_cases g2 : r.2.2.2.2.2.2.2.2.1 ≤ s.2.2.2.1
   ·rw [if_pos g2]
    refine ⟨h.t, h.v, h.c, ⟨by show 0 ≤ r.2.2.2.2.2.2.2.2.1 - 1; omega, by show r.2.2.2.2.2.2.2.2.1 - 1 ≤ _; omega⟩, ⟨Int.le_refl 0, by show (0 : Int) ≤ _; omega⟩, fun i hi => ?_, fun e u => ?_⟩
    ·have : i = 0 := by simp at hi; omega
     subst this
     show r.2.2.2.2.2.2.2.2.1 = r.2.2.2.2.2.2.2.2.1 - 1 + ((0 + 1 : Nat) : Int)
     omega
    ·rw [List.mem_singleton.1 u]; exact I
   ·rw [if_neg g2]
    have D : (s.2.2.2.2.2.take (r.2.2.2.2.2.2.2.2.1 - s.2.2.2.1 - 1).toNat).length = (r.2.2.2.2.2.2.2.2.1 - s.2.2.2.1 - 1).toNat := by rw [List.length_take]; omega
    refine ⟨h.t, h.v, h.c, h.b, h.bt, fun i hi => ?_, fun e u => ?_⟩
    ·simp only [List.length_append, D, List.length_cons, List.length_nil] at hi
     by_cases hlt : i < (r.2.2.2.2.2.2.2.2.1 - s.2.2.2.1 - 1).toNat
     ·have J : (s.2.2.2.2.2.take (r.2.2.2.2.2.2.2.2.1 - s.2.2.2.1 - 1).toNat ++ [(r.2.2.2.2.2.2.2.1, r.2.2.2.2.2.2.2.2.1, r.2.2.2.2.2.2.2.2.2.1, r.2.2.2.2.2.2.2.2.2.2, sg)]).getD i dzH = s.2.2.2.2.2.getD i dzH := by
       rw [List.getD_eq_getElem?_getD, List.getElem?_append_left (by omega), ← List.getD_eq_getElem?_getD, kb _ hlt]
      simp only [J]
      exact h.idx i (by omega)
     ·have ei : i = (r.2.2.2.2.2.2.2.2.1 - s.2.2.2.1 - 1).toNat := by omega
      have J : (s.2.2.2.2.2.take (r.2.2.2.2.2.2.2.2.1 - s.2.2.2.1 - 1).toNat ++ [(r.2.2.2.2.2.2.2.1, r.2.2.2.2.2.2.2.2.1, r.2.2.2.2.2.2.2.2.2.1, r.2.2.2.2.2.2.2.2.2.2, sg)]).getD i dzH = (r.2.2.2.2.2.2.2.1, r.2.2.2.2.2.2.2.2.1, r.2.2.2.2.2.2.2.2.2.1, r.2.2.2.2.2.2.2.2.2.2, sg) := by
       rw [List.getD_eq_getElem?_getD, List.getElem?_append_right (by omega), D, ei, Nat.sub_self]; rfl
      simp only [J]
      omega
    ·rcases List.mem_append.1 u with u | u
     ·exact h.chk e (List.mem_of_mem_take u)
     ·rw [List.mem_singleton.1 u]; exact I
 rw [if_neg h2]
 split
 ·exact h
 ·exact ⟨h.t, h.v, h.c, G.i, G.m, fun i hi => by simp at hi, fun e u => by cases u⟩
theorem nQ (s : St) (r : bO) (sg : Int) : (cT s r sg).2.2.2.2.2.length ≤ s.2.2.2.2.2.length + 1 := by
 unfold cT
 split
 ·exact Nat.le_succ _
 split
 ·split
  ·exact Nat.le_succ _
  split
  ·simp
  ·simp only [List.length_append, List.length_take, List.length_cons, List.length_nil]; omega
 split
 ·exact Nat.le_succ _
 ·simp
/-! ### Which batches may be -/
def gB (t v c : Int) : Int := if ¬ (rg t 0 ∧ rg c 0) ∨ v < 0 ∨ 7 < v then 1 else if v ≠ 0 ∧ t = 0 then 4 else 0
theorem wc (t v c : Int) : dy.f t v c = some (gB t v c) := by
 unfold dy.f gB
 rw [pb, Option.bind_some]
 by_cases h1 : rg t 0
 ·rw [decide_eq_true h1]
  simp only [Bool.not_true, Bool.false_eq_true, if_false, pb, Option.bind_some]
  by_cases h2 : rg c 0
  ·rw [decide_eq_true h2]
   simp only [Bool.not_true, Bool.false_or]
   by_cases h3 : v < 0 ∨ 7 < v
   ·rw [if_pos (by simpa using h3), if_pos (c := ¬ (rg t 0 ∧ rg c 0) ∨ v < 0 ∨ 7 < v) (.inr h3)]
   ·rw [if_neg (c := ¬ (rg t 0 ∧ rg c 0) ∨ v < 0 ∨ 7 < v) (fun x => x.elim (fun y => y ⟨h1, h2⟩) h3), if_neg (by simpa using h3)]
    by_cases h5 : v ≠ 0 ∧ t = 0
    ·rw [if_pos (c := v ≠ 0 ∧ t = 0) h5, if_pos (by simpa using h5)]
    ·rw [if_neg (c := v ≠ 0 ∧ t = 0) h5, if_neg (by simpa using h5)]
  ·rw [decide_eq_false h2]
   simp only [Bool.not_false, Bool.true_or, if_true]
   rw [if_pos (.inl fun x => h2 x.2)]
 ·rw [decide_eq_false h1]
  simp only [Bool.not_false, if_true, Option.bind_some, Bool.true_or]
  rw [if_pos (.inl fun x => h1 x.1)]
theorem jM {t v c : Int} (h : gB t v c = 0) : okN t ∧ okN v ∧ okN c := by
 unfold gB at h
 split at h
 ·omega
 ·rename_i g
  have u : rg t 0 ∧ rg c 0 := Decidable.not_not.1 fun x => g (.inl x)
  have D : 0 ≤ v ∧ v ≤ 7 := by constructor <;> (apply Int.not_lt.1; intro x; exact g (.inr (by omega)))
  exact ⟨nk u.1 (by decide), ⟨by omega, by omega⟩, nk u.2 (by decide)⟩
abbrev BaT := Bool × Int × Int × Int × Int × Int × List EnT
def eI : List EnT → Int
 | [] => 0
 | e :: r => if iY e.1 e.2.1 e.2.2.1 e.2.2.2 = 0 then eI r else iY e.1 e.2.1 e.2.2.1 e.2.2.2
def lZ : Int → List EnT → Int
 | _, [] => 0
 | l, e :: r => if l + 1 < e.2.1 then 13 else lZ e.2.1 r
def gQ (s : St) (b : BaT) : Bool := !decide (b.2.2.2.2.1 = 0) && !fQ s b.2.2.2.2.1 b.2.2.2.2.2.1
def lq (b : BaT) : Prop := ((b.2.2.2.2.1 < 0 ∨ 4611686018427387904 < b.2.2.2.2.1) ∨ (b.2.2.2.2.2.1 < 0 ∨ 4611686018427387904 < b.2.2.2.2.2.1)) ∨ ¬ (b.2.2.2.2.1 = 0 ↔ b.2.2.2.2.2.1 = 0)
instance (b : BaT) : Decidable (lq b) := by unfold lq; exact inferInstance
def iu (s : St) (b : BaT) : Int :=
 if b.1 = true ∧ gB b.2.1 b.2.2.1 b.2.2.2.1 ≠ 0 then gB b.2.1 b.2.2.1 b.2.2.2.1
 else if lq b then 1
 else if eI b.2.2.2.2.2.2 ≠ 0 then eI b.2.2.2.2.2.2
 else lZ (if gQ s b = true then b.2.2.2.2.1 else (cC s).1) b.2.2.2.2.2.2
theorem qT (l : List EnT) (u : l.length < 2 ^ 40) : ∀ (k i : Nat), l.length - i < k → i ≤ l.length → bQ.l0 l k (i : Int) = some (if eI (l.drop i) = 0 then .inl () else .inr (eI (l.drop i)))
 | 0, i, h, _ => by omega
 | k + 1, i, h, hi => by
  rw [bQ.l0]
  by_cases hlt : i < l.length
  ·rw [if_pos (by omega), if_pos (by omega), cE, Option.bind_some, ws1 (by omega), qT l u k (i + 1) (by omega) (by omega), fR l bl hlt]
   simp only [eI, Int.toNat_natCast]
   by_cases hc : iY (l.getD i bl).1 (l.getD i bl).2.1 (l.getD i bl).2.2.1 (l.getD i bl).2.2.2 = 0
   ·simp only [hc, if_true]
   ·simp only [hc, if_false]
  ·rw [if_neg (by omega), List.drop_of_length_le (by omega)]; rfl
theorem qU (l : List EnT) (I : l.length < 2 ^ 40) (J : eI l = 0) : ∀ (k i : Nat) (z last : Int), l.length - i < k → i ≤ l.length → (0 ≤ last ∧ last ≤ 4611686018427387904) → eI (l.drop i) = 0 →
  bQ.l1 l k z last (i : Int) = some (if lZ last (l.drop i) = 0 then .inl () else .inr (lZ last (l.drop i)))
 | 0, i, z, last, h, _, _, _ => by omega
 | k + 1, i, z, last, h, hi, hla, hf => by
  rw [bQ.l1]
  by_cases hlt : i < l.length
  ·rw [fR l bl hlt] at hf ⊢
   simp only [eI] at hf
   split at hf
   ·rename_i u
    have G := (fC u).2.1
    have L := G.1
    have D := G.2
    rw [if_pos (by omega), if_pos (by omega), ws1 (by omega), w64 (n := last + 1) (by omega) (by omega)]
    simp only [lZ, Int.toNat_natCast]
    by_cases hg : last + 1 < (l.getD i bl).2.1
    ·simp only [if_pos hg]; rfl
    ·simp only [if_neg hg]
     exact qU l I J k (i + 1) _ _ (by omega) (by omega) ⟨by omega, D⟩ hf
   ·rename_i u
    exact absurd hf u
  ·rw [if_neg (by omega), List.drop_of_length_le (by omega)]; rfl
theorem xz (fs : FSt) (la : List UInt8) (a : Int) (d : Bool) (most : Int) (sg : List Int) (sz : Int) {s : St} (h : dN s) (I : Bool) (hl : s.2.2.2.2.2.length < 2 ^ 40) (b : BaT) (L : b.2.2.2.2.2.2.length < 2 ^ 40) {k : Nat} (hk : b.2.2.2.2.2.2.length < k) :
  bQ.f k fs la a d most sg sz s.1 s.2.1 s.2.2.1 s.2.2.2.1 s.2.2.2.2.1 s.2.2.2.2.2 I b.1 b.2.1 b.2.2.1 b.2.2.2.1 b.2.2.2.2.1 b.2.2.2.2.2.1 b.2.2.2.2.2.2 = some (iu s b) := by
 have U := qT b.2.2.2.2.2.2 L k 0 (by omega) (by omega)
 rw [List.drop_zero, show ((0 : Nat) : Int) = (0 : Int) from rfl] at U
 have u : ((((((decide (b.2.2.2.2.1 < (0 : Int))) || (decide ((4611686018427387904 : Int) < b.2.2.2.2.1))) || (decide (b.2.2.2.2.2.1 < (0 : Int)))) || (decide ((4611686018427387904 : Int) < b.2.2.2.2.2.1))) || (!((decide (b.2.2.2.2.1 = (0 : Int))) == (decide (b.2.2.2.2.2.1 = (0 : Int)))))) = true) ↔ lq b := by
  unfold lq
  by_cases x1 : b.2.2.2.2.1 = 0 <;> by_cases x2 : b.2.2.2.2.2.1 = 0 <;> simp [x1, x2] <;> omega
 unfold bQ.f iu
 have h1 : (if b.1 = true then ((dy.f b.2.1 b.2.2.1 b.2.2.2.1).bind fun D => (if D = (0 : Int) then (some (.inl ())) else (some (.inr D)))) else (some (.inl ())) : Option (Unit ⊕ Int)) = some (if b.1 = true ∧ gB b.2.1 b.2.2.1 b.2.2.2.1 ≠ 0 then .inr (gB b.2.1 b.2.2.1 b.2.2.2.1) else .inl ()) := by
  rw [wc]
  by_cases x : b.1 = true
  ·rw [if_pos x, Option.bind_some]
   by_cases y : gB b.2.1 b.2.2.1 b.2.2.2.1 = 0
   ·rw [if_pos y, if_neg (fun z => z.2 y)]
   ·rw [if_neg y, if_pos ⟨x, y⟩]
  ·rw [if_neg x, if_neg (fun z => x z.1)]
 rw [h1]
 by_cases g1 : b.1 = true ∧ gB b.2.1 b.2.2.1 b.2.2.2.1 ≠ 0
 ·rw [if_pos g1, if_pos g1]; rfl
 ·rw [if_neg g1, if_neg g1]
  simp only [orR]
  by_cases g2 : lq b
  ·rw [if_pos (u.2 g2), if_pos g2]
  ·rw [if_neg (fun x => g2 (u.1 x)), if_neg g2, U]
   have hi : okN b.2.2.2.2.1 := by
    unfold lq at g2
    exact ⟨by omega, by omega⟩
   by_cases g3 : eI b.2.2.2.2.2.2 = 0
   ·rw [if_pos g3, if_neg (c := eI b.2.2.2.2.2.2 ≠ 0) (fun x => x g3)]
    simp only [orR]
    rw [mJ fs la a d most sg sz s I hl, Option.bind_some]
    have hm : (((if ((!decide (b.2.2.2.2.1 = (0 : Int))) == true) = true then (dr.f fs la a d most sg sz s.1 s.2.1 s.2.2.1 s.2.2.2.1 s.2.2.2.2.1 s.2.2.2.2.2 I b.2.2.2.2.1 b.2.2.2.2.2.1) else some false).bind fun G => (if ((!decide (b.2.2.2.2.1 = (0 : Int))) && (!G)) = true then (some (b.2.2.2.2.1, b.2.2.2.2.1)) else (some (s.2.2.2.1, (cC s).1)))) : Option (Int × Int)) = some (if gQ s b = true then (b.2.2.2.2.1, b.2.2.2.2.1) else (s.2.2.2.1, (cC s).1)) := by
     rw [qo fs la a d most sg sz h I hi]
     unfold gQ
     by_cases x : b.2.2.2.2.1 = 0
     ·simp [x]
     ·cases fQ s b.2.2.2.2.1 b.2.2.2.2.2.1 <;> simp [x]
    rw [hm, Option.bind_some]
    have J : ∀ p : Int × Int, p = (if gQ s b = true then (b.2.2.2.2.1, b.2.2.2.2.1) else (s.2.2.2.1, (cC s).1)) → p.2 = (if gQ s b = true then b.2.2.2.2.1 else (cC s).1) ∧ 0 ≤ p.2 ∧ p.2 ≤ 4611686018427387904 := fun p hp => by
     have h3 := kZ h
     have h4 := lJ h
     have h5 := h.b
     unfold okN at h5 hi
     rw [hp]
     split
     ·exact ⟨rfl, hi.1, hi.2⟩
     ·exact ⟨rfl, by show 0 ≤ (cC s).1; omega, by show (cC s).1 ≤ _; omega⟩
    obtain ⟨p, hp⟩ : ∃ p, p = (if gQ s b = true then (b.2.2.2.2.1, b.2.2.2.2.1) else (s.2.2.2.1, (cC s).1)) := ⟨_, rfl⟩
    obtain ⟨p1, p2, p3⟩ := J p hp
    have X := qU b.2.2.2.2.2.2 L g3 k 0 p.1 p.2 (by omega) (by omega) ⟨p2, p3⟩ (by rw [List.drop_zero]; exact g3)
    rw [List.drop_zero, show ((0 : Nat) : Int) = (0 : Int) from rfl] at X
    rw [← hp, X, ← p1]
    by_cases hz : lZ p.2 b.2.2.2.2.2.2 = 0
    ·simp only [hz, if_true]
    ·simp only [hz, if_false]
   ·rw [if_neg g3, if_pos (c := eI b.2.2.2.2.2.2 ≠ 0) g3]
end Go.Proofs.YtndjkejhacfpdaaGreatDoor

namespace Go.Proofs.YtndjkejhacfpdaaGreatDoor
open Go.RowKit
/-! ### The records of a batch -/
def eF (e : EnT) : bO := (2, 0, 0, 0, 0, 0, 0, e.1, e.2.1, e.2.2.1, e.2.2.2)
def gc (s : St) (b : BaT) : List bO :=
 (if b.1 = true ∧ (b.2.1 ≠ s.1 ∨ b.2.2.1 ≠ s.2.1) then [(1, 0, b.2.1, b.2.2.1, s.2.2.1, 0, 0, 0, 0, 0, [])] else []) ++ (if gQ s b = true then [(3, 0, 0, 0, 0, b.2.2.2.2.1, b.2.2.2.2.2.1, 0, 0, 0, [])] else []) ++
  b.2.2.2.2.2.2.map eF ++ (if b.1 = true ∧ b.2.2.2.1 ≠ s.2.2.1 then [(1, 0, b.2.1, b.2.2.1, b.2.2.2.1, 0, 0, 0, 0, 0, [])] else [])
theorem sh {x : List UInt8} (h : x.length < 2 ^ 40) : cr.f x = some x := by
 unfold cr.f
 rw [if_pos (by simp; omega)]
 simp
theorem oR (l : List EnT) (u : l.length < 2 ^ 30) (hd : ∀ e, e ∈ l → e.2.2.2.length < 2 ^ 40) : ∀ (k i : Nat) (acc : List bO), l.length - i < k → i ≤ l.length → acc.length ≤ i + 10 → cw.l0 l k acc (i : Int) = some (acc ++ (l.drop i).map eF)
 | 0, i, acc, h, _, _ => by omega
 | k + 1, i, acc, h, hi, ha => by
  rw [cw.l0]
  by_cases hlt : i < l.length
  ·have D : l.getD i bl ∈ l := by rw [fD hlt]; exact List.getElem_mem _
   rw [if_pos (by omega), if_pos (by omega), Int.toNat_natCast, sh (hd _ D), Option.bind_some, if_pos (by simp only [List.length_cons, List.length_nil]; omega), ws1 (by omega), oR l u hd k (i + 1) _ (by omega) (by omega) (by simp; omega), fR l bl hlt]
   simp [eF]
  ·rw [if_neg (by omega), List.drop_of_length_le (by omega)]; simp
theorem vG (fs : FSt) (la : List UInt8) (a : Int) (d : Bool) (most : Int) (sg : List Int) (sz : Int) {s : St} (h : dN s) (G : Bool) (b : BaT) (hi : okN b.2.2.2.2.1) (hl : b.2.2.2.2.2.2.length < 2 ^ 30) (hd : ∀ e, e ∈ b.2.2.2.2.2.2 → e.2.2.2.length < 2 ^ 40) {k : Nat} (hk : b.2.2.2.2.2.2.length < k) :
  cw.f k fs la a d most sg sz s.1 s.2.1 s.2.2.1 s.2.2.2.1 s.2.2.2.2.1 s.2.2.2.2.2 G b.1 b.2.1 b.2.2.1 b.2.2.2.1 b.2.2.2.2.1 b.2.2.2.2.2.1 b.2.2.2.2.2.2 = some (gc s b) := by
 unfold cw.f gc
 have h1 : ((if b.1 = true then (some ((!decide (b.2.1 = s.1)) || (!decide (b.2.2.1 = s.2.1)))) else (some false)).bind fun I => (if I = true then (if ([((1 : Int), (0 : Int), b.2.1, b.2.2.1, s.2.2.1, (0 : Int), (0 : Int), (0 : Int), (0 : Int), (0 : Int), ([] : List UInt8))] : List bO).length * 104 ≤ 140737488355328 then (some ([((1 : Int), (0 : Int), b.2.1, b.2.2.1, s.2.2.1, (0 : Int), (0 : Int), (0 : Int), (0 : Int), (0 : Int), ([] : List UInt8))] : List bO)) else none) else (some ([] : List bO)))) = some (if b.1 = true ∧ (b.2.1 ≠ s.1 ∨ b.2.2.1 ≠ s.2.1) then [(1, 0, b.2.1, b.2.2.1, s.2.2.1, 0, 0, 0, 0, 0, [])] else []) := by
  rw [if_pos (c := ([((1 : Int), (0 : Int), b.2.1, b.2.2.1, s.2.2.1, (0 : Int), (0 : Int), (0 : Int), (0 : Int), (0 : Int), ([] : List UInt8))] : List bO).length * 104 ≤ 140737488355328) (by simp)]
  cases hb : b.1 with
  | false => simp
  | true => by_cases x : b.2.1 = s.1 <;> by_cases y : b.2.2.1 = s.2.1 <;> simp [x, y]
 rw [h1, Option.bind_some]
 obtain ⟨u, L⟩ : ∃ r : List bO, (if b.1 = true ∧ (b.2.1 ≠ s.1 ∨ b.2.2.1 ≠ s.2.1) then [(1, 0, b.2.1, b.2.2.1, s.2.2.1, 0, 0, 0, 0, 0, [])] else []) = r := ⟨_, rfl⟩
 have l1 : u.length ≤ 1 := by rw [← L]; split <;> simp
 rw [L]
 have h2 : ((if ((!decide (b.2.2.2.2.1 = (0 : Int))) == true) = true then (dr.f fs la a d most sg sz s.1 s.2.1 s.2.2.1 s.2.2.2.1 s.2.2.2.2.1 s.2.2.2.2.2 G b.2.2.2.2.1 b.2.2.2.2.2.1) else some false).bind fun D => (if ((!decide (b.2.2.2.2.1 = (0 : Int))) && (!D)) = true then (if (u.length + ([((3 : Int), (0 : Int), (0 : Int), (0 : Int), (0 : Int), b.2.2.2.2.1, b.2.2.2.2.2.1, (0 : Int), (0 : Int), (0 : Int), ([] : List UInt8))] : List bO).length) * 104 ≤ 140737488355328 then (some (u ++ ([((3 : Int), (0 : Int), (0 : Int), (0 : Int), (0 : Int), b.2.2.2.2.1, b.2.2.2.2.2.1, (0 : Int), (0 : Int), (0 : Int), ([] : List UInt8))] : List bO))) else none) else (some u))) = some (u ++ (if gQ s b = true then [(3, 0, 0, 0, 0, b.2.2.2.2.1, b.2.2.2.2.2.1, 0, 0, 0, [])] else [])) := by
  rw [if_pos (c := (u.length + ([((3 : Int), (0 : Int), (0 : Int), (0 : Int), (0 : Int), b.2.2.2.2.1, b.2.2.2.2.2.1, (0 : Int), (0 : Int), (0 : Int), ([] : List UInt8))] : List bO).length) * 104 ≤ 140737488355328) (by simp only [List.length_cons, List.length_nil]; omega), qo fs la a d most sg sz h G hi]
  unfold gQ
  by_cases x : b.2.2.2.2.1 = 0
  ·simp [x]
  ·cases fQ s b.2.2.2.2.1 b.2.2.2.2.2.1 <;> simp [x]
 rw [h2, Option.bind_some]
 obtain ⟨J, U⟩ : ∃ r : List bO, (if gQ s b = true then [(3, 0, 0, 0, 0, b.2.2.2.2.1, b.2.2.2.2.2.1, 0, 0, 0, [])] else []) = r := ⟨_, rfl⟩
 have l2 : J.length ≤ 1 := by rw [← U]; split <;> simp
 rw [U]
 have X := oR b.2.2.2.2.2.2 hl hd k 0 (u ++ J) (by omega) (by omega) (by simp; omega)
 rw [List.drop_zero, show ((0 : Nat) : Int) = (0 : Int) from rfl] at X
 rw [X, Option.bind_some]
 have al : (u ++ J ++ b.2.2.2.2.2.2.map eF).length < 2 ^ 31 := by simp; omega
 have hc : ((b.1 && (!decide (b.2.2.2.1 = s.2.2.1))) = true) ↔ (b.1 = true ∧ b.2.2.2.1 ≠ s.2.2.1) := by simp
 by_cases x : b.1 = true ∧ b.2.2.2.1 ≠ s.2.2.1
 ·rw [if_pos (hc.2 x), if_pos x, if_pos (by simp only [List.length_cons, List.length_nil]; omega)]
  rfl
 ·rw [if_neg (fun y => x (hc.1 y)), if_neg x, List.append_nil]
  rfl
theorem jE : ∀ {l : List EnT}, eI l = 0 → ∀ e, e ∈ l → iY e.1 e.2.1 e.2.2.1 e.2.2.2 = 0
 | [], _, e, he => by cases he
 | x :: l, h, e, he => by
  rw [eI] at h
  split at h
  ·rename_i u
   rcases List.mem_cons.1 he with rfl | he
   ·exact u
   ·exact jE h e he
  ·rename_i u
   exact absurd h u
theorem ft : okN 0 := ⟨by decide, by decide⟩
theorem mv {s : St} {b : BaT} (h : iu s b = 0) : (b.1 = true → gB b.2.1 b.2.2.1 b.2.2.2.1 = 0) ∧ ¬ lq b ∧ eI b.2.2.2.2.2.2 = 0 ∧ lZ (if gQ s b = true then b.2.2.2.2.1 else (cC s).1) b.2.2.2.2.2.2 = 0 := by
 unfold iu at h
 split at h
 ·rename_i g; exact absurd h g.2
 rename_i g
 split at h
 ·omega
 rename_i D
 split at h
 ·rename_i u; exact absurd h u
 rename_i u
 exact ⟨fun x => Decidable.not_not.1 fun y => g ⟨x, y⟩, D, Decidable.not_not.1 u, h⟩
theorem np {b : BaT} (h : ¬ lq b) : okN b.2.2.2.2.1 ∧ okN b.2.2.2.2.2.1 := by
 unfold lq at h
 exact ⟨⟨by omega, by omega⟩, ⟨by omega, by omega⟩⟩
theorem tw {s : St} (I : dN s) {b : BaT} (h : iu s b = 0) : ∀ r, r ∈ gc s b → OkR r ∧ r.1 ≠ 0 := by
 obtain ⟨h1, J, L, _⟩ := mv h
 have G := np J
 intro r u
 unfold gc at u
 rcases List.mem_append.1 u with u | u
 ·rcases List.mem_append.1 u with u | u
  ·rcases List.mem_append.1 u with u | u
   ·split at u
    ·rename_i g
     have D := jM (h1 g.1)
     rw [List.mem_singleton.1 u]
     exact ⟨⟨⟨by simp [eF], by simp [eF]⟩, ft, D.1, D.2.1, I.c, ft, ft, fun e => absurd e (by simp)⟩, by simp⟩
    ·cases u
   ·split at u
    ·rw [List.mem_singleton.1 u]
     exact ⟨⟨⟨by simp [eF], by simp [eF]⟩, ft, ft, ft, ft, G.1, G.2, fun e => absurd e (by simp)⟩, by simp⟩
    ·cases u
  ·obtain ⟨e, U, rfl⟩ := List.mem_map.1 u
   exact ⟨⟨⟨by simp [eF], by simp [eF]⟩, ft, ft, ft, ft, ft, ft, fun _ => jE L e U⟩, by simp [eF]⟩
 ·split at u
  ·rename_i g
   have D := jM (h1 g.1)
   rw [List.mem_singleton.1 u]
   exact ⟨⟨⟨by simp [eF], by simp [eF]⟩, ft, D.1, D.2.1, D.2.2, ft, ft, fun e => absurd e (by simp)⟩, by simp⟩
  ·cases u
/-! ### Their bytes -/
def eG : List bO → List UInt8
 | [] => []
 | r :: l => frB (cF r) ++ eG l
def fc (l : List bO) : Nat := (l.map fun r => r.2.2.2.2.2.2.2.2.2.2.length + 128).sum
theorem ly : ∀ l : List bO, (eG l).length ≤ fc l
 | [] => by simp [eG, fc]
 | r :: l => by
  have u := ly l
  have h1 := io r
  have D := kw (cF r)
  simp only [eG, fc, List.map_cons, List.sum_cons, List.length_append] at u ⊢
  omega
theorem qa (l : List bO) (G : l.length < 2 ^ 40) (I : fc l < 2 ^ 40) (D : ∀ r, r ∈ l → OkR r) : ∀ (k i : Nat) (acc : List UInt8), l.length - i + 10000 < k → i ≤ l.length → acc.length + fc (l.drop i) < 2 ^ 41 → bA.l0 l k acc (i : Int) = some (acc ++ eG (l.drop i))
 | 0, i, acc, h, _, _ => by omega
 | k + 1, i, acc, h, hi, ha => by
  rw [bA.l0]
  by_cases hlt : i < l.length
  ·have J : l.getD i aT ∈ l := by rw [fD hlt]; exact List.getElem_mem _
   have u := fR l aT hlt
   have h1 := io (l.getD i aT)
   have U := kw (cF (l.getD i aT))
   have L : fc (l.drop i) = (l.getD i aT).2.2.2.2.2.2.2.2.2.2.length + 128 + fc (l.drop (i + 1)) := by rw [u]; simp [fc]
   rw [if_pos (by omega), if_pos (by omega), Int.toNat_natCast, sL (D _ J) (by omega), Option.bind_some, if_pos (by omega), ws1 (by omega), qa l G I D k (i + 1) _ (by omega) (by omega) (by rw [List.length_append]; omega), u, eG, List.append_assoc]
  ·rw [if_neg (by omega), List.drop_of_length_le (by omega), eG, List.append_nil]
/-! ### A segment that is begun -/
theorem nr (l : List UInt8) : ¬ (fL l 0 false).1 = true := Bool.false_ne_true
theorem jG {fs : FSt} {x : List UInt8} {v : List UInt8 × Int} (h : aU fs x = some v) : bw fs x = v := by unfold bw; rw [h]; rfl
theorem si {fs : FSt} {l x : List UInt8} (u : nmB x = true) (D : aU fs x = none) (G : fs.length < 256) : kB fs l 0 false x = (0, aX fs x ([], 0), l, 0, false) := by
 unfold kB
 rw [if_neg Bool.false_ne_true, if_neg (by rw [u]; decide), if_neg (by rw [D]; decide), if_neg (by omega), if_neg (nr _)]
 rfl
theorem oc {fs : FSt} {l x b : List UInt8} {v : List UInt8 × Int} (u : aU fs x = some v) (D : szF fs + b.length ≤ 16777216) : kC fs l 0 false x b = (0, aX fs x (v.1 ++ b, v.2), x, 0, false) := by
 unfold kC
 rw [jG u, if_pos (by rw [u]; rfl), if_neg Bool.false_ne_true, if_neg (by omega), if_neg (nr _)]
 rfl
theorem jz {fs : FSt} {l x : List UInt8} {v : List UInt8 × Int} (u : aU fs x = some v) : jV fs l 0 false x = (0, aX fs x (v.1, (v.1.length : Int)), l, 0, false) := by
 unfold jV
 rw [jG u, if_pos (by rw [u]; rfl), if_neg Bool.false_ne_true, if_neg (nr _)]
 rfl
theorem ra {fs : FSt} {l x : List UInt8} (u : (aU fs x).isSome = true) : jq fs l 0 false x = (0, dM fs x, (if l = x then [] else l), 0, false) := by
 unfold jq
 rw [if_neg Bool.false_ne_true, if_neg (by rw [u]; decide), if_neg (nr _)]
 rfl
theorem qb (n : Nat) : nmB (aK n) = true := by
 have hd : ∀ c, dg c → mN c = false := fun c u => by
  have := yO (p := fun c => !(decide (48 ≤ c.toNat) && decide (c.toNat ≤ 57)) || !mN c) (by decide +kernel) c
  simp only [decide_eq_true u.1, decide_eq_true u.2, Bool.and_self, Bool.not_true, Bool.false_or, Bool.not_eq_true'] at this
  exact this
 unfold nmB
 rw [Bool.and_eq_true, List.all_eq_true]
 constructor
 ·intro c u
  rcases List.mem_append.1 u with u | u
  ·have : (rt.all fun c => !mN c) = true := by decide +kernel
   exact List.all_eq_true.1 this c u
  ·rw [hd c (rx 8 n c u)]; rfl
 ·rw [kc]; rfl
def dh (n : Nat) (s : St) : bO := (0, (n : Int), s.1, s.2.1, s.2.2.1, (cC s).1, (cC s).2, 0, 0, 0, [])
theorem kf {s : St} (h : dN s) : okN (cC s).1 ∧ okN (cC s).2 := by
 have h1 := kZ h
 have D := lJ h
 have u := h.b
 unfold okN at u ⊢
 refine ⟨by omega, ?_⟩
 unfold cC
 split
 ·have := (fC (h.chk _ (kI (i := s.2.2.2.2.2.length - 1) (by omega)))).1
  have a := this.1
  have b := this.2
  simp only
  omega
 ·exact h.bt
theorem rQ {n : Nat} (u : n ≤ 99999999) {s : St} (h : dN s) : OkR (dh n s) := ⟨⟨by simp [dh], by simp [dh]⟩, ⟨by show 0 ≤ (n : Int); omega, by show (n : Int) ≤ _; omega⟩, h.t, h.v, h.c, (kf h).1, (kf h).2, fun e => absurd e (by simp [dh])⟩
def hJ (fs : FSt) (n : Nat) (b : List UInt8) : FSt := aX (aX (aX fs (aK n) ([], 0)) (aK n) ([] ++ b, 0)) (aK n) ([] ++ b, ((([] ++ b : List UInt8)).length : Int))
theorem kO (fs : FSt) (n : Nat) (b x : List UInt8) : aU (hJ fs n b) x = if x = aK n then some (b, (b.length : Int)) else aU fs x := by
 unfold hJ
 rw [dR, dR, dR]
 by_cases h : x = aK n
 ·rw [if_pos h.symm, if_pos h]; rfl
 ·rw [if_neg (fun e => h e.symm), if_neg (fun e => h e.symm), if_neg (fun e => h e.symm), if_neg h]
theorem iA {n k : Nat} (u : 1 ≤ n) (h1 : n ≤ 99999999) (D : 10 ≤ k) : cD.f k (n : Int) = some (aK n) := by
 unfold cD.f
 rw [xI u h1 D, Option.bind_some]
 simp only []
 rw [iF, Option.bind_some]
theorem ns {fs : FSt} (hi : gp 256 fs) (hl : fs.length < 256) (hz : szF fs + 200 ≤ 16777216) {la : List UInt8} {most : Int} {sg : List Int} (an : sg.length < 2 ^ 40) {sz : Int} {s : St} (hs : dN s) (a6 : s.2.2.2.2.2.length < 2 ^ 30) {n : Nat} (h0 : 1 ≤ n) (h1 : n ≤ 99999999) (I : aU fs (aK n) = none) {k : Nat} (hk : 20000 ≤ k) :
  dO.f k fs la 0 false most sg sz s.1 s.2.1 s.2.2.1 s.2.2.2.1 s.2.2.2.2.1 s.2.2.2.2.2 false (n : Int) = some (hJ fs n (frB (cF (dh n s))), aK n, 0, false, most, sg ++ [(n : Int)], ((frB (cF (dh n s))).length : Int), s.1, s.2.1, s.2.2.1, s.2.2.2.1, s.2.2.2.2.1, s.2.2.2.2.2, false) ∧
   gp 256 (hJ fs n (frB (cF (dh n s)))) ∧ (hJ fs n (frB (cF (dh n s)))).length = fs.length + 1 ∧ szF (hJ fs n (frB (cF (dh n s)))) ≤ szF fs + (frB (cF (dh n s))).length ∧ (frB (cF (dh n s))).length ≤ 128 := by
 have hr := rQ h1 hs
 have a8 := io (dh n s)
 have J := kw (cF (dh n s))
 have bc : (dh n s).2.2.2.2.2.2.2.2.2.2.length = 0 := rfl
 have u := sL hr (k := k) (by omega)
 obtain ⟨b, eb⟩ : ∃ b, frB (cF (dh n s)) = b := ⟨_, rfl⟩
 rw [eb] at u J ⊢
 have L := ui hi la 0 false (aK n)
 rw [si (qb n) I hl] at L
 have U : aU (aX fs (aK n) ([], 0)) (aK n) = some ([], 0) := by rw [dR, if_pos rfl]
 have z1 := fS (aK n) (([], 0) : List UInt8 × Int) fs
 rw [vr (by rw [I]; rfl)] at z1
 have l1 := fW fs (aK n) (([], 0) : List UInt8 × Int)
 rw [I] at l1
 simp only [Option.isSome_none, Bool.false_eq_true, if_false, List.length_nil, Nat.add_zero] at l1 z1
 have i2 := oK L la 0 false (aK n) b
 have ha := oc (l := la) (b := b) U (by omega)
 simp only at i2
 rw [ha] at i2
 have X : aU (aX (aX fs (aK n) ([], 0)) (aK n) ([] ++ b, 0)) (aK n) = some ([] ++ b, 0) := by rw [dR, if_pos rfl]
 have z2 := fS (aK n) (([] ++ b, 0) : List UInt8 × Int) (aX fs (aK n) ([], 0))
 rw [jG U] at z2
 have l2 := fW (aX fs (aK n) ([], 0)) (aK n) (([] ++ b, 0) : List UInt8 × Int)
 rw [U] at l2
 simp only [Option.isSome_some, if_true, List.length_nil, Nat.add_zero] at l2 z2
 have i3 := kK i2 (aK n) 0 false (aK n)
 have D := jz (l := aK n) X
 simp only at i3
 rw [D] at i3
 have z3 := fS (aK n) (([] ++ b, ((([] ++ b : List UInt8)).length : Int)) : List UInt8 × Int) (aX (aX fs (aK n) ([], 0)) (aK n) ([] ++ b, 0))
 rw [jG X] at z3
 have l3 := fW (aX (aX fs (aK n) ([], 0)) (aK n) ([] ++ b, 0)) (aK n) (([] ++ b, ((([] ++ b : List UInt8)).length : Int)) : List UInt8 × Int)
 rw [X] at l3
 simp only [Option.isSome_some, if_true] at l3
 refine ⟨?_, i3, ?_, ?_, by omega⟩
 ·unfold dO.f
  rw [iA h0 h1 (by omega), Option.bind_some, vj _ _ _ _ _ (by rw [kc]; omega) (by rw [kc]; omega), si (qb n) I hl, Option.bind_some]
  simp only []
  rw [iF, Option.bind_some]
  unfold fH.f
  rw [mJ _ _ _ _ _ _ _ s _ (by omega), Option.bind_some]
  have G : dS.f k (0 : Int) (n : Int) s.1 s.2.1 s.2.2.1 (cC s).1 (cC s).2 (0 : Int) (0 : Int) (0 : Int) ([] : List UInt8) = some b := u
  rw [G, Option.bind_some, iA h0 h1 (by omega), Option.bind_some, pH L _ _ _ _ _ (by omega), ha, Option.bind_some]
  simp only []
  rw [iF, Option.bind_some, Option.bind_some, lL, D, Option.bind_some]
  simp only []
  rw [iF, Option.bind_some, if_pos (by simp only [List.length_cons, List.length_nil]; omega), Option.bind_some]
  rfl
 ·unfold hJ; omega
 ·unfold hJ; simp only [List.nil_append] at z2 z3 ⊢; omega
end Go.Proofs.YtndjkejhacfpdaaGreatDoor

namespace Go.Proofs.YtndjkejhacfpdaaGreatDoor
open Go.RowKit
def cg (s0 m : Nat) : List Int := (List.range' s0 (m + 1)).map fun n : Nat => (n : Int)
theorem dm (s0 m : Nat) : (cg s0 m).length = m + 1 := by simp [cg]
theorem ip {s0 m i : Nat} (h : i ≤ m) : (cg s0 m).getD i 0 = ((s0 + i : Nat) : Int) := by
 unfold cg
 rw [List.getD_eq_getElem?_getD, List.getElem?_map, List.getElem?_range' (by omega)]
 simp
theorem vH (s0 m : Nat) : cg s0 m ++ [((s0 + m + 1 : Nat) : Int)] = cg s0 (m + 1) := by
 unfold cg
 rw [List.range'_1_concat (n := m + 1), List.map_append]
 simp [Nat.add_assoc]
theorem uV (s0 m : Nat) : cg s0 (m + 1) = (s0 : Int) :: cg (s0 + 1) m := by
 unfold cg
 rw [List.range'_succ, List.map_cons]
theorem js (s0 m : Nat) (h : m < 2 ^ 40) : (cg s0 m).getD (IntKind.i64.wrap (((cg s0 m).length : Int) - 1)).toNat 0 = ((s0 + m : Nat) : Int) := by
 have e : ((cg s0 m).length : Int) - 1 = (m : Int) := by rw [dm]; omega
 rw [e, w64 (by omega) (by omega), Int.toNat_natCast, ip (Nat.le_refl _)]
structure Wl where
 fs : FSt
 la : List UInt8
 most : Int
 s0 : Nat
 m : Nat
 size : Nat
 st : St
def Wl.last (w : Wl) : Nat := w.s0 + w.m
abbrev WT := FSt × List UInt8 × Int × Bool × Int × List Int × Int × Int × Int × Int × Int × Int × List HeT × Bool
def Wl.tp (w : Wl) : WT := (w.fs, w.la, 0, false, w.most, cg w.s0 w.m, (w.size : Int), w.st.1, w.st.2.1, w.st.2.2.1, w.st.2.2.2.1, w.st.2.2.2.2.1, w.st.2.2.2.2.2, false)
structure WOk (T N Z L : Nat) (w : Wl) : Prop where
 inv : gp 256 w.fs
 num : w.fs.length ≤ N
 siz : szF w.fs ≤ Z
 s1 : 1 ≤ w.s0
 top : w.s0 + w.m ≤ T
 has : ∀ n, w.s0 ≤ n → n ≤ w.s0 + w.m → (aU w.fs (aK n)).isSome = true
 non : ∀ n, w.s0 + w.m < n → n ≤ 99999999 → aU w.fs (aK n) = none
 st : dN w.st
 len : w.st.2.2.2.2.2.length ≤ L
 sz : w.size ≤ Z
theorem fG {m n : Nat} (u : m ≤ 99999999) (D : n ≤ 99999999) (h : aK m = aK n) : m = n := by rw [← md u, h, md D]
def cQ (s : St) (rs : List bO) (sg : Int) : St := rs.foldl (fun s r => cT s r sg) s
theorem kQ {sg : Int} : ∀ {rs : List bO} {s : St}, dN s → (∀ r, r ∈ rs → OkR r ∧ r.1 ≠ 0) → dN (cQ s rs sg)
 | [], s, h, _ => h
 | r :: rs, s, h, hr => kQ (rs := rs) (jo h (hr r (by simp)).1 (hr r (by simp)).2 sg) fun x u => hr x (by simp [u])
theorem ll {sg : Int} : ∀ (rs : List bO) (s : St), (cQ s rs sg).2.2.2.2.2.length ≤ s.2.2.2.2.2.length + rs.length
 | [], s => Nat.le_refl _
 | r :: rs, s => by
  have h1 := ll rs (cT s r sg) (sg := sg)
  have u := nQ s r sg
  show (cQ (cT s r sg) rs sg).2.2.2.2.2.length ≤ _
  rw [List.length_cons]
  omega
theorem tx (p : WT) (q : FSt × List UInt8 × Int × Bool) (rs : List bO) (J : rs.length < 2 ^ 29) (I : ∀ r, r ∈ rs → OkR r ∧ r.1 ≠ 0) {sg : Int} (D : p.2.2.2.2.2.1.getD (IntKind.i64.wrap ((p.2.2.2.2.2.1.length : Int) - 1)).toNat 0 = sg) (most : Int) (u : List Int) (sz : Int) : ∀ (k i : Nat) (s : St), rs.length - i < k → i ≤ rs.length → dN s → s.2.2.2.2.2.length + (rs.length - i) < 2 ^ 30 →
  bA.l1 p rs q k (i : Int) most u sz s.1 s.2.1 s.2.2.1 s.2.2.2.1 s.2.2.2.2.1 s.2.2.2.2.2 false = some (q.1, q.2.1, q.2.2.1, q.2.2.2, most, u, sz, (cQ s (rs.drop i) sg).1, (cQ s (rs.drop i) sg).2.1, (cQ s (rs.drop i) sg).2.2.1, (cQ s (rs.drop i) sg).2.2.2.1, (cQ s (rs.drop i) sg).2.2.2.2.1, (cQ s (rs.drop i) sg).2.2.2.2.2, false)
 | 0, i, s, h, _, _, _ => by omega
 | k + 1, i, s, h, hi, hs, hl => by
  rw [bA.l1]
  by_cases hlt : i < rs.length
  ·have L : rs.getD i aT ∈ rs := by rw [fD hlt]; exact List.getElem_mem _
   have G := I _ L
   obtain ⟨c, U⟩ := yB q.1 q.2.1 q.2.2.1 q.2.2.2 most u sz hs (by omega) G.1 G.2 sg
   have X := nQ s (rs.getD i aT) sg
   rw [if_pos (by omega), if_pos (by omega), Int.toNat_natCast, D, U, Option.bind_some, ws1 (by omega)]
   simp only []
   rw [tx p q rs J I D most u sz k (i + 1) (cT s (rs.getD i aT) sg) (by omega) (by omega) (jo hs G.1 G.2 sg) (by omega), fR rs aT hlt]
   rfl
  ·rw [if_neg (by omega), List.drop_of_length_le (by omega)]
   rfl
def jd (w : Wl) : Wl :=
 if w.most ≤ (w.size : Int) then { w with fs := hJ (aX w.fs (aK w.last) ((bw w.fs (aK w.last)).1, ((bw w.fs (aK w.last)).1.length : Int))) (w.last + 1) (frB (cF (dh (w.last + 1) w.st))), la := aK (w.last + 1), m := w.m + 1, size := (frB (cF (dh (w.last + 1) w.st))).length }
 else w
def jF (w : Wl) (rs : List bO) : Wl :=
 { w with fs := if 0 < rs.length then aX w.fs (aK w.last) ((bw w.fs (aK w.last)).1 ++ eG rs, (bw w.fs (aK w.last)).2) else w.fs, la := if 0 < rs.length then aK w.last else w.la, size := w.size + (eG rs).length, st := cQ w.st rs (w.last : Int) }
def kP (w : Wl) (b : BaT) : Wl := jF (jd w) (gc (jd w).st b)
theorem jr {fs : FSt} {x : List UInt8} (h : (aU fs x).isSome = true) : aU fs x = some (bw fs x) := by
 obtain ⟨v, u⟩ := Option.isSome_iff_exists.1 h
 rw [u, jG u]
theorem pi (w : Wl) : (jd w).st = w.st := by unfold jd; split <;> rfl
theorem ph {T N Z L : Nat} {w : Wl} (h : WOk T N Z L w) (hT : T < 99999999) (hN : N < 256) (hZ : Z + 200 ≤ 16777216) (hL : L < 2 ^ 30) : WOk (T + 1) (N + 1) (Z + 128) L (jd w) := by
 have I := h.num
 have J := h.siz
 have U := h.top
 have X := jr (h.has w.last (by unfold Wl.last; omega) (Nat.le_refl _))
 unfold jd
 by_cases hc : w.most ≤ (w.size : Int)
 ·rw [if_pos hc]
  have D := kK h.inv w.la 0 false (aK w.last)
  rw [jz X] at D
  have z1 := fS (aK w.last) ((bw w.fs (aK w.last)).1, ((bw w.fs (aK w.last)).1.length : Int)) w.fs
  have l1 := ff (v := ((bw w.fs (aK w.last)).1, ((bw w.fs (aK w.last)).1.length : Int))) (h.has w.last (by unfold Wl.last; omega) (Nat.le_refl _))
  have G : ∀ n, w.s0 + w.m < n → n ≤ 99999999 → aU (aX w.fs (aK w.last) ((bw w.fs (aK w.last)).1, ((bw w.fs (aK w.last)).1.length : Int))) (aK n) = none := fun n h1 u => by
   rw [dR, if_neg (fun e => by have := fG (by unfold Wl.last; omega) u e; unfold Wl.last at this; omega), h.non n h1 u]
  simp only at D z1
  obtain ⟨_, b2, b3, b4, b5⟩ := ns (la := w.la) (most := w.most) (sg := []) (sz := 0) (k := 20000) D (by omega) (by omega) (by simp) h.st (by have := h.len; have := lJ h.st; have := h.st.b; omega) (n := w.last + 1) (by omega) (by unfold Wl.last; omega) (G _ (by unfold Wl.last; omega) (by unfold Wl.last; omega)) (Nat.le_refl _)
  refine ⟨b2, by simp only; omega, by simp only; omega, h.s1, by simp only; omega, fun n h1 u => ?_, fun n h1 u => ?_, h.st, h.len, by simp only; omega⟩
  ·simp only at h1 u ⊢
   rw [kO]
   split
   ·rfl
   ·rw [dR]
    split
    ·rfl
    ·rename_i g1 g2
     refine h.has n h1 ?_
     by_cases e : n = w.last + 1
     ·exact absurd (congrArg aK e) g1
     ·unfold Wl.last at e; omega
  ·simp only at h1 u ⊢
   rw [kO, if_neg (fun e => by have := fG u (by unfold Wl.last; omega) e; unfold Wl.last at this; omega), G n (by omega) u]
 ·rw [if_neg hc]
  exact ⟨h.inv, by omega, by omega, h.s1, by omega, h.has, h.non, h.st, h.len, by have := h.sz; omega⟩
theorem yS {T N Z L : Nat} {w : Wl} (h : WOk T N Z L w) (hT : T ≤ 99999999) {rs : List bO} (D : ∀ r, r ∈ rs → OkR r ∧ r.1 ≠ 0) (hZ : Z + fc rs ≤ 16777216) : WOk T N (Z + fc rs) (L + rs.length) (jF w rs) := by
 have J := jr (h.has w.last (by unfold Wl.last; omega) (Nat.le_refl _))
 have U := ly rs
 have X := h.siz
 have ab := h.sz
 have ad := ll (sg := (w.last : Int)) rs w.st
 have af := h.len
 unfold jF
 by_cases hc : 0 < rs.length
 ·simp only [if_pos hc]
  have G := oK h.inv w.la 0 false (aK w.last) (eG rs)
  rw [oc J (by omega)] at G
  have z1 := fS (aK w.last) ((bw w.fs (aK w.last)).1 ++ eG rs, (bw w.fs (aK w.last)).2) w.fs
  have l1 := ff (v := ((bw w.fs (aK w.last)).1 ++ eG rs, (bw w.fs (aK w.last)).2)) (h.has w.last (by unfold Wl.last; omega) (Nat.le_refl _))
  simp only [List.length_append] at z1
  have I := h.num
  refine ⟨G, by simp only; omega, by simp only; omega, h.s1, h.top, fun n h1 u => ?_, fun n h1 u => ?_, kQ h.st D, by simp only; omega, by simp only; omega⟩
  ·simp only at h1 u ⊢
   rw [dR]
   split
   ·rfl
   ·exact h.has n h1 u
  ·simp only at h1 u ⊢
   have an := h.top
   rw [dR, if_neg (fun e => by have := fG (by unfold Wl.last; omega) u e; unfold Wl.last at this; omega)]
   exact h.non n h1 u
 ·simp only [if_neg hc]
  exact ⟨h.inv, h.num, by simp only; omega, h.s1, h.top, h.has, h.non, kQ h.st D, by simp only; omega, by simp only; omega⟩
theorem vI {T N Z L : Nat} {w : Wl} (h : WOk T N Z L w) (hT : T < 99999990) (hN : N < 256) {b : BaT} (hc : iu w.st b = 0) (hZ : Z + 200 + fc (gc w.st b) ≤ 16777216) (hL : L + (gc w.st b).length < 2 ^ 29) (hb : b.2.2.2.2.2.2.length < 2 ^ 28) (hd : ∀ e, e ∈ b.2.2.2.2.2.2 → e.2.2.2.length < 2 ^ 40) (hm : w.m < 2 ^ 30) {k : Nat} (hk : 30000 + b.2.2.2.2.2.2.length + (gc w.st b).length ≤ k) :
  bA.f k w.tp.1 w.tp.2.1 w.tp.2.2.1 w.tp.2.2.2.1 w.tp.2.2.2.2.1 w.tp.2.2.2.2.2.1 w.tp.2.2.2.2.2.2.1 w.tp.2.2.2.2.2.2.2.1 w.tp.2.2.2.2.2.2.2.2.1 w.tp.2.2.2.2.2.2.2.2.2.1 w.tp.2.2.2.2.2.2.2.2.2.2.1 w.tp.2.2.2.2.2.2.2.2.2.2.2.1 w.tp.2.2.2.2.2.2.2.2.2.2.2.2.1 w.tp.2.2.2.2.2.2.2.2.2.2.2.2.2 b.1 b.2.1 b.2.2.1 b.2.2.2.1 b.2.2.2.2.1 b.2.2.2.2.2.1 b.2.2.2.2.2.2 = some (kP w b).tp := by
 have b3 := h.num
 have b4 := h.siz
 have b5 := h.top
 have hs := jr (h.has w.last (by unfold Wl.last; omega) (Nat.le_refl _))
 have D := ph h (by omega) hN (by omega) (by omega)
 have I := tw h.st hc
 have an := (np (mv hc).2.1).1
 have be := h.len
 -- the segment
 have e1 : ((if w.most ≤ (w.size : Int) then (if 0 ≤ IntKind.i64.wrap (((cg w.s0 w.m).length : Int) - 1) ∧ IntKind.i64.wrap (((cg w.s0 w.m).length : Int) - 1) < ((cg w.s0 w.m).length : Int) then ((cD.f k ((cg w.s0 w.m).getD (IntKind.i64.wrap (((cg w.s0 w.m).length : Int) - 1)).toNat (0 : Int))).bind fun X => ((cV.f w.fs w.la 0 false X).bind fun G => ((bH.f G.1).bind fun br => ((dO.f k G.2.1 G.2.2.1 G.2.2.2.1 G.2.2.2.2 w.most (cg w.s0 w.m) (w.size : Int) w.st.1 w.st.2.1 w.st.2.2.1 w.st.2.2.2.1 w.st.2.2.2.2.1 w.st.2.2.2.2.2 false (IntKind.i64.wrap (((cg w.s0 w.m).getD (IntKind.i64.wrap (((cg w.s0 w.m).length : Int) - 1)).toNat (0 : Int)) + 1))).bind fun u => (some (u.1, u.2.1, u.2.2.1, u.2.2.2.1, u.2.2.2.2.1, u.2.2.2.2.2.1, u.2.2.2.2.2.2.1, u.2.2.2.2.2.2.2.1, u.2.2.2.2.2.2.2.2.1, u.2.2.2.2.2.2.2.2.2.1, u.2.2.2.2.2.2.2.2.2.2.1, u.2.2.2.2.2.2.2.2.2.2.2.1, u.2.2.2.2.2.2.2.2.2.2.2.2.1, u.2.2.2.2.2.2.2.2.2.2.2.2.2)))))) else none) else (some (w.fs, w.la, 0, false, w.most, cg w.s0 w.m, (w.size : Int), w.st.1, w.st.2.1, w.st.2.2.1, w.st.2.2.2.1, w.st.2.2.2.2.1, w.st.2.2.2.2.2, false))) : Option WT) = some (jd w).tp := by
  unfold jd
  by_cases hcm : w.most ≤ (w.size : Int)
  ·have i1 := kK h.inv w.la 0 false (aK w.last)
   rw [jz hs] at i1
   have z1 := fS (aK w.last) ((bw w.fs (aK w.last)).1, ((bw w.fs (aK w.last)).1.length : Int)) w.fs
   have l1 := ff (v := ((bw w.fs (aK w.last)).1, ((bw w.fs (aK w.last)).1.length : Int))) (h.has w.last (by unfold Wl.last; omega) (Nat.le_refl _))
   simp only at i1 z1
   obtain ⟨b1, _⟩ := ns (la := w.la) (most := w.most) (sg := cg w.s0 w.m) (sz := (w.size : Int)) (k := k) i1 (by omega) (by omega) (by rw [dm]; omega) h.st (by omega) (n := w.last + 1) (by omega) (by unfold Wl.last; omega) (by
    rw [dR, if_neg (fun e => by have := fG (by unfold Wl.last; omega) (by unfold Wl.last; omega) e; omega)]
    exact h.non _ (by unfold Wl.last; omega) (by unfold Wl.last; omega)) (by omega)
   have U : IntKind.i64.wrap (((cg w.s0 w.m).length : Int) - 1) = (w.m : Int) := by rw [dm, w64 (by omega) (by omega)]; omega
   rw [if_pos hcm, if_pos hcm, js _ _ (by omega), U, if_pos (by rw [dm]; omega), show ((w.s0 + w.m : Nat) : Int) = (w.last : Int) from rfl, iA (by have := h.s1; unfold Wl.last; omega) (by unfold Wl.last; omega) (by omega), Option.bind_some, lL, jz hs, Option.bind_some]
   simp only []
   rw [iF, Option.bind_some, ws1 (by unfold Wl.last; omega), b1, Option.bind_some]
   unfold Wl.tp
   simp only []
   rw [show (w.last + 1 : Nat) = w.s0 + w.m + 1 from rfl, vH]
  ·rw [if_neg hcm, if_neg hcm]; rfl
 unfold bA.f
 show Option.bind (if w.most ≤ (w.size : Int) then _ else _) _ = _
 rw [show Wl.tp w = (w.fs, w.la, 0, false, w.most, cg w.s0 w.m, (w.size : Int), w.st.1, w.st.2.1, w.st.2.2.1, w.st.2.2.2.1, w.st.2.2.2.2.1, w.st.2.2.2.2.2, false) from rfl]
 simp only []
 rw [e1, Option.bind_some]
 have J := pi w
 unfold kP
 rw [J]
 obtain ⟨v, ev⟩ : ∃ v, jd w = v := ⟨_, rfl⟩
 rw [ev] at D J ⊢
 have b9 : v.m ≤ w.m + 1 := by rw [← ev]; unfold jd; split <;> simp
 have cd := D.top
 have ch := D.siz
 have c0 := D.sz
 have a6 := jr (D.has v.last (by unfold Wl.last; omega) (Nat.le_refl _))
 have U : IntKind.i64.wrap (((cg v.s0 v.m).length : Int) - 1) = (v.m : Int) := by rw [dm, w64 (by omega) (by omega)]; omega
 have ab := vG v.fs v.la 0 false v.most (cg v.s0 v.m) (v.size : Int) D.st false b an (by omega) hd (k := k) (by omega)
 rw [J] at ab
 have a7 := ly (gc w.st b)
 unfold Wl.tp
 simp only []
 rw [J, ab, U, if_pos (by rw [dm]; omega), Option.bind_some]
 obtain ⟨rs, er⟩ : ∃ rs, gc w.st b = rs := ⟨_, rfl⟩
 rw [er] at I hZ hL hk a7 ⊢
 have ad := qa rs (by omega) (by omega) (fun r hr => (I r hr).1) k 0 [] (by omega) (by omega) (by simp; omega)
 rw [List.drop_zero, List.nil_append, show ((0 : Nat) : Int) = (0 : Int) from rfl] at ad
 rw [ad, Option.bind_some]
 have af := js v.s0 v.m (by omega)
 rw [U] at af
 rw [af, show ((v.s0 + v.m : Nat) : Int) = (v.last : Int) from rfl, iA (by have := D.s1; unfold Wl.last; omega) (by unfold Wl.last; omega) (by omega), Option.bind_some, pH D.inv _ _ _ _ _ (by omega), oc a6 (by omega), Option.bind_some]
 simp only []
 rw [iF, Option.bind_some]
 have hq : ((if (0 : Int) < (rs.length : Int) then (some (aX v.fs (aK v.last) ((bw v.fs (aK v.last)).1 ++ eG rs, (bw v.fs (aK v.last)).2), aK v.last, 0, false)) else (some (v.fs, v.la, 0, false))) : Option (FSt × List UInt8 × Int × Bool)) = some ((jF v rs).fs, (jF v rs).la, 0, false) := by
  unfold jF
  by_cases hp : 0 < rs.length
  ·simp only [if_pos hp, if_pos (show (0 : Int) < (rs.length : Int) by omega)]
  ·simp only [if_neg hp, if_neg (show ¬ (0 : Int) < (rs.length : Int) by omega)]
 rw [hq, Option.bind_some]
 have al := tx (v.fs, v.la, 0, false, v.most, cg v.s0 v.m, (v.size : Int), w.st.1, w.st.2.1, w.st.2.2.1, w.st.2.2.2.1, w.st.2.2.2.2.1, w.st.2.2.2.2.2, false) ((jF v rs).fs, (jF v rs).la, 0, false) rs (by omega) I (sg := (v.last : Int)) (by simp only []; exact js v.s0 v.m (by omega)) v.most (cg v.s0 v.m) (((v.size + (eG rs).length : Nat)) : Int) k 0 w.st (by omega) (by omega) h.st (by omega)
 rw [List.drop_zero, show ((0 : Nat) : Int) = (0 : Int) from rfl] at al
 rw [show IntKind.i64.wrap ((v.size : Int) + ((eG rs).length : Int)) = ((v.size + (eG rs).length : Nat) : Int) by rw [w64 (by omega) (by omega)]; omega, al]
 unfold jF
 rw [J]
def nZ (w : Wl) (b : BaT) : Wl := if iu w.st b = 0 then kP w b else w
theorem wF {T N Z L : Nat} {w : Wl} (h : WOk T N Z L w) (I : T < 99999990) (hN : N < 256) {b : BaT} (J : Z + 200 + fc (gc w.st b) ≤ 16777216) (U : L + (gc w.st b).length < 2 ^ 29) (X : b.2.2.2.2.2.2.length < 2 ^ 28) (hd : ∀ e, e ∈ b.2.2.2.2.2.2 → e.2.2.2.length < 2 ^ 40) (hm : w.m < 2 ^ 30) {k : Nat} (hk : 30000 + b.2.2.2.2.2.2.length + (gc w.st b).length ≤ k) :
  dE.f k w.tp.1 w.tp.2.1 w.tp.2.2.1 w.tp.2.2.2.1 w.tp.2.2.2.2.1 w.tp.2.2.2.2.2.1 w.tp.2.2.2.2.2.2.1 w.tp.2.2.2.2.2.2.2.1 w.tp.2.2.2.2.2.2.2.2.1 w.tp.2.2.2.2.2.2.2.2.2.1 w.tp.2.2.2.2.2.2.2.2.2.2.1 w.tp.2.2.2.2.2.2.2.2.2.2.2.1 w.tp.2.2.2.2.2.2.2.2.2.2.2.2.1 w.tp.2.2.2.2.2.2.2.2.2.2.2.2.2 b.1 b.2.1 b.2.2.1 b.2.2.2.1 b.2.2.2.2.1 b.2.2.2.2.2.1 b.2.2.2.2.2.2 = some (iu w.st b, (nZ w b).tp) := by
 have G := h.len
 have D := xz w.fs w.la 0 false w.most (cg w.s0 w.m) (w.size : Int) h.st false (by omega) b (by omega) (k := k) (by omega)
 unfold dE.f nZ
 rw [if_neg (show ¬ w.tp.2.2.2.2.2.2.2.2.2.2.2.2.2 = true from Bool.false_ne_true)]
 have u : bQ.f k w.tp.1 w.tp.2.1 w.tp.2.2.1 w.tp.2.2.2.1 w.tp.2.2.2.2.1 w.tp.2.2.2.2.2.1 w.tp.2.2.2.2.2.2.1 w.tp.2.2.2.2.2.2.2.1 w.tp.2.2.2.2.2.2.2.2.1 w.tp.2.2.2.2.2.2.2.2.2.1 w.tp.2.2.2.2.2.2.2.2.2.2.1 w.tp.2.2.2.2.2.2.2.2.2.2.2.1 w.tp.2.2.2.2.2.2.2.2.2.2.2.2.1 w.tp.2.2.2.2.2.2.2.2.2.2.2.2.2 b.1 b.2.1 b.2.2.1 b.2.2.2.1 b.2.2.2.2.1 b.2.2.2.2.2.1 b.2.2.2.2.2.2 = some (iu w.st b) := D
 rw [u, Option.bind_some]
 by_cases hc : iu w.st b = 0
 ·rw [if_pos hc, if_pos hc]
  unfold de.f
  rw [vI h I hN hc J U X hd hm hk, Option.bind_some, Option.bind_some, hc]
 ·rw [if_neg hc, if_neg hc]
end Go.Proofs.YtndjkejhacfpdaaGreatDoor

namespace Go.Proofs.YtndjkejhacfpdaaGreatDoor
open Go.RowKit
def st0 : St := (0, 0, 0, 0, 0, [])
def gd (fs : FSt) (most : Int) : Wl := { fs := hJ fs 1 (frB (cF (dh 1 st0))), la := aK 1, most := most, s0 := 1, m := 0, size := (frB (cF (dh 1 st0))).length, st := st0 }
theorem od (fs : FSt) (h : ∀ x, x ∈ ez fs → lv x = 0) {n : Nat} (h1 : 1 ≤ n) (u : n ≤ 99999999) : aU fs (aK n) = none := by
 cases hv : aU fs (aK n) with
 | none => rfl
 | some v =>
  have D : aK n ∈ ez fs := (kt fs).mem_iff.2 ((kL fs _).2 (by rw [hv]; rfl))
  have := h _ D
  rw [md u] at this
  omega
theorem tz {s : List (List UInt8)} (u : ∀ x, x ∈ s → x.length ≤ 2 ^ 40 ∧ lv x = 0) (G : s.length < 2 ^ 40) : ∀ (k i : Nat), s.length - i + 10 < k → i ≤ s.length → bD.l0 s k (i : Int) [] = some []
 | 0, i, h, _ => by omega
 | k + 1, i, h, hi => by
  rw [bD.l0]
  by_cases hlt : i < s.length
  ·have I : s.getD i [] ∈ s := by rw [fD hlt]; exact List.getElem_mem hlt
   have D := u _ I
   rw [if_pos (by omega), if_pos (by omega), Int.toNat_natCast, vd D.1 (by omega), Option.bind_some, D.2]
   simp only [Nat.lt_irrefl, decide_false, Bool.false_eq_true, if_false]
   rw [ws1 (by omega)]
   exact tz u G k (i + 1) (by omega) (by omega)
  ·rw [if_neg (by omega)]
theorem wG {fs : FSt} {N Z : Nat} (hi : gp 256 fs) (I : fs.length ≤ N) (hN : N < 256) (J : szF fs ≤ Z) (L : Z + 200 ≤ 16777216) (D : ∀ x, x ∈ ez fs → lv x = 0) (most : Int) : WOk 1 (N + 1) (Z + 128) 0 (gd fs most) := by
 obtain ⟨_, G, U, X, b5⟩ := ns (la := []) (most := 0) (sg := []) (sz := 0) (k := 20000) hi (by omega) (by omega) (by simp) (s := st0) lI (by simp [st0]) (n := 1) (by omega) (by omega) (od fs D (by omega) (by omega)) (Nat.le_refl _)
 refine ⟨G, by show (hJ fs 1 _).length ≤ _; omega, by show szF (hJ fs 1 _) ≤ _; omega, Nat.le_refl _, Nat.le_refl _, fun n h1 u => ?_, fun n h1 u => ?_, lI, Nat.le_refl _, by show (frB (cF (dh 1 st0))).length ≤ _; omega⟩
 ·have : n = 1 := by simp only [gd] at h1 u; omega
  subst this
  show (aU (hJ fs 1 _) (aK 1)).isSome = true
  rw [kO, if_pos rfl]; rfl
 ·simp only [gd] at h1
  show aU (hJ fs 1 _) (aK n) = none
  rw [kO, if_neg (fun e => by have := fG u (by omega) e; omega), od fs D (by omega) u]
theorem yR {fs : FSt} {N Z : Nat} (hi : gp 256 fs) (hl : fs.length ≤ N) (hN : N < 256) (hz : szF fs ≤ Z) (hZ : Z + 200 ≤ 16777216) (D : ∀ x, x ∈ ez fs → lv x = 0) (J : ∀ x, x ∈ ez fs → x.length ≤ 2 ^ 40) (la : List UInt8) {most : Int} (h1 : 64 ≤ most) (h2 : most ≤ 1048576) {k : Nat} (L : 30000 ≤ k) :
  bD.f k fs la 0 false most = some (true, (gd fs most).tp.2.2.2.2.1, (gd fs most).tp.2.2.2.2.2.1, (gd fs most).tp.2.2.2.2.2.2.1, (gd fs most).tp.2.2.2.2.2.2.2.1, (gd fs most).tp.2.2.2.2.2.2.2.2.1, (gd fs most).tp.2.2.2.2.2.2.2.2.2.1, (gd fs most).tp.2.2.2.2.2.2.2.2.2.2.1, (gd fs most).tp.2.2.2.2.2.2.2.2.2.2.2.1, (gd fs most).tp.2.2.2.2.2.2.2.2.2.2.2.2.1, (gd fs most).tp.2.2.2.2.2.2.2.2.2.2.2.2.2, false, 0, (gd fs most).tp.1, (gd fs most).tp.2.1, (gd fs most).tp.2.2.1, (gd fs most).tp.2.2.2.1) := by
 have U := pP fs
 obtain ⟨X, _⟩ := ns (la := la) (most := most) (sg := []) (sz := 0) (k := k) hi (by omega) (by omega) (by simp) (s := st0) lI (by simp [st0]) (n := 1) (by omega) (by omega) (od fs D (by omega) (by omega)) (by omega)
 have G := tz (s := ez fs) (fun x I => ⟨J x I, D x I⟩) (by omega) k 0 (by omega) (by omega)
 rw [show ((0 : Nat) : Int) = (0 : Int) from rfl] at G
 unfold bD.f
 rw [if_neg (by simp; omega), th hi (by decide), Option.bind_some, G, Option.bind_some]
 rw [if_pos (show ((([] : List Int).length : Nat) : Int) = 0 from rfl)]
 have u : dO.f k fs la 0 false most ([] : List Int) (0 : Int) (0 : Int) (0 : Int) (0 : Int) (0 : Int) (0 : Int) ([] : List HeT) false (1 : Int) = _ := X
 rw [u, Option.bind_some]
 rfl
/-! ### What it tells -/
def mT (h : HeT) : EnT := (h.1, h.2.1, h.2.2.1, h.2.2.2.1)
theorem tA (l : List HeT) (u : l.length < 2 ^ 30) (hd : ∀ e, e ∈ l → e.2.2.2.1.length < 2 ^ 40) : ∀ (k i : Nat) (acc : List EnT), l.length - i < k → i ≤ l.length → acc.length ≤ i → cU.l0 l k (i : Int) acc = some (acc ++ (l.drop i).map mT)
 | 0, i, acc, h, _, _ => by omega
 | k + 1, i, acc, h, hi, ha => by
  rw [cU.l0]
  by_cases hlt : i < l.length
  ·have D : l.getD i au ∈ l := by rw [fD hlt]; exact List.getElem_mem _
   rw [if_pos (by omega), if_pos (by omega), Int.toNat_natCast, sh (hd _ D), Option.bind_some, if_pos (by simp only [List.length_cons, List.length_nil]; omega), ws1 (by omega), tA l u hd k (i + 1) _ (by omega) (by omega) (by simp; omega), fR l au hlt]
   simp [mT]
  ·rw [if_neg (by omega), List.drop_of_length_le (by omega)]; simp
theorem wO {s : St} (h : dN s) : ∀ e, e ∈ s.2.2.2.2.2 → e.2.2.2.1.length < 2 ^ 40 := fun e u => by
 have := (fC (h.chk e u)).2.2.2.1
 omega
theorem vC {T N Z L : Nat} {w : Wl} (h : WOk T N Z L w) (u : L < 2 ^ 30) {k : Nat} (D : L < k) :
  eh.f k w.tp.1 w.tp.2.1 w.tp.2.2.1 w.tp.2.2.2.1 w.tp.2.2.2.2.1 w.tp.2.2.2.2.2.1 w.tp.2.2.2.2.2.2.1 w.tp.2.2.2.2.2.2.2.1 w.tp.2.2.2.2.2.2.2.2.1 w.tp.2.2.2.2.2.2.2.2.2.1 w.tp.2.2.2.2.2.2.2.2.2.2.1 w.tp.2.2.2.2.2.2.2.2.2.2.2.1 w.tp.2.2.2.2.2.2.2.2.2.2.2.2.1 w.tp.2.2.2.2.2.2.2.2.2.2.2.2.2 = some (w.st.1, w.st.2.1, w.st.2.2.1, w.st.2.2.2.1, w.st.2.2.2.2.1, w.st.2.2.2.2.2.map mT) := by
 have G := h.len
 unfold eh.f cU.f
 have v := tA w.st.2.2.2.2.2 (by omega) (wO h.st) k 0 [] (by omega) (by omega) (by simp)
 rw [List.drop_zero, List.nil_append, show ((0 : Nat) : Int) = (0 : Int) from rfl] at v
 rw [show w.tp.2.2.2.2.2.2.2.2.2.2.2.2.1 = w.st.2.2.2.2.2 from rfl, v, Option.bind_some, Option.bind_some]
 rfl
theorem qc (x : List EnT) (u : x.length < 2 ^ 40) {M : Nat} (hd : ∀ e, e ∈ x → e.2.2.2.length < M) (D : M < 2 ^ 40) : ∀ (k i : Nat), x.length - i + M < k → i ≤ x.length → bZ.l0 x x k (i : Int) = some (.inl ())
 | 0, i, h, _ => by omega
 | k + 1, i, h, hi => by
  rw [bZ.l0]
  by_cases hlt : i < x.length
  ·have G : x.getD i bl ∈ x := by rw [fD hlt]; exact List.getElem_mem _
   have I := hd _ G
   rw [if_pos (by omega), if_pos (by omega), if_pos (by omega), Int.toNat_natCast]
   unfold fo.f
   rw [rG (by omega) (by omega), Option.bind_some, Option.bind_some, ws1 (by omega)]
   simp only [decide_true, Bool.and_self, Bool.not_true, Bool.false_eq_true, if_false]
   exact qc x u hd D k (i + 1) (by omega) (by omega)
  ·rw [if_neg (by omega)]
theorem wH (x : List EnT) (u : x.length < 2 ^ 40) {M : Nat} (hd : ∀ e, e ∈ x → e.2.2.2.length < M) (D : M < 2 ^ 40) {k : Nat} (G : x.length + M < k) : bZ.f k x x = some true := by
 have h := qc x u hd D k 0 (by omega) (by omega)
 rw [show ((0 : Nat) : Int) = (0 : Int) from rfl] at h
 unfold bZ.f
 rw [if_pos rfl, h]
 rfl
/-! ### What a batch adds to -/
def gT (l : List EnT) : Nat := (l.map fun e => e.2.2.2.length).sum
theorem mi (e : EnT) (l : List EnT) : gT (e :: l) = e.2.2.2.length + gT l := by simp [gT]
theorem qd : ∀ l : List EnT, fc (l.map eF) = gT l + 128 * l.length
 | [] => by simp [fc, gT]
 | e :: l => by
  have u := qd l
  have : (eF e).2.2.2.2.2.2.2.2.2.2 = e.2.2.2 := rfl
  simp only [fc, List.map_cons, List.sum_cons, this] at u ⊢
  rw [mi, List.length_cons]
  omega
theorem mX (a b : List bO) : fc (a ++ b) = fc a + fc b := by simp [fc]
theorem vA (s : St) (b : BaT) : fc (gc s b) ≤ gT b.2.2.2.2.2.2 + 128 * b.2.2.2.2.2.2.length + 384 ∧ (gc s b).length ≤ b.2.2.2.2.2.2.length + 3 := by
 unfold gc
 constructor
 ·rw [mX, mX, mX, qd]
  have h1 : fc (if b.1 = true ∧ (b.2.1 ≠ s.1 ∨ b.2.2.1 ≠ s.2.1) then [(1, 0, b.2.1, b.2.2.1, s.2.2.1, 0, 0, 0, 0, 0, [])] else []) ≤ 128 := by split <;> simp [fc]
  have u : fc (if gQ s b = true then [(3, 0, 0, 0, 0, b.2.2.2.2.1, b.2.2.2.2.2.1, 0, 0, 0, [])] else []) ≤ 128 := by split <;> simp [fc]
  have D : fc (if b.1 = true ∧ b.2.2.2.1 ≠ s.2.2.1 then [(1, 0, b.2.1, b.2.2.1, b.2.2.2.1, 0, 0, 0, 0, 0, [])] else []) ≤ 128 := by split <;> simp [fc]
  omega
 ·simp only [List.length_append, List.length_map]
  have h1 : (if b.1 = true ∧ (b.2.1 ≠ s.1 ∨ b.2.2.1 ≠ s.2.1) then [((1, 0, b.2.1, b.2.2.1, s.2.2.1, 0, 0, 0, 0, 0, []) : bO)] else []).length ≤ 1 := by split <;> simp
  have u : (if gQ s b = true then [((3, 0, 0, 0, 0, b.2.2.2.2.1, b.2.2.2.2.2.1, 0, 0, 0, []) : bO)] else []).length ≤ 1 := by split <;> simp
  have D : (if b.1 = true ∧ b.2.2.2.1 ≠ s.2.2.1 then [((1, 0, b.2.1, b.2.2.1, b.2.2.2.1, 0, 0, 0, 0, 0, []) : bO)] else []).length ≤ 1 := by split <;> simp
  omega
theorem iO {T N Z L u D G I : Nat} {w : Wl} (h : WOk T N Z L w) (h1 : T ≤ u) (U : N ≤ D) (J : Z ≤ G) (X : L ≤ I) : WOk u D G I w :=
 ⟨h.inv, Nat.le_trans h.num U, Nat.le_trans h.siz J, h.s1, Nat.le_trans h.top h1, h.has, h.non, h.st, Nat.le_trans h.len X, Nat.le_trans h.sz J⟩
theorem yQ {T N Z L : Nat} {w : Wl} (h : WOk T N Z L w) (I : T < 99999990) (hN : N < 256) {b : BaT} (J : Z + 600 + gT b.2.2.2.2.2.2 + 128 * b.2.2.2.2.2.2.length ≤ 16777216) (D : L < 2 ^ 30) : WOk (T + 1) (N + 1) (Z + 512 + gT b.2.2.2.2.2.2 + 128 * b.2.2.2.2.2.2.length) (L + b.2.2.2.2.2.2.length + 3) (nZ w b) := by
 have U := vA w.st b
 unfold nZ
 split
 ·rename_i G
  have h1 := ph h (by omega) hN (by omega) D
  have u := tw h.st G
  unfold kP
  rw [pi]
  exact iO (yS h1 (by omega) u (by omega)) (Nat.le_refl _) (Nat.le_refl _) (by omega) (by omega)
 ·exact iO h (by omega) (by omega) (by omega) (by omega)
end Go.Proofs.YtndjkejhacfpdaaGreatDoor

namespace Go.Proofs.YtndjkejhacfpdaaGreatDoor
open Go.RowKit
def ji (s0 m : Nat) : List (List UInt8) := (List.range' s0 (m + 1)).map aK
theorem jN (s0 m : Nat) : (ji s0 m).length = m + 1 := by simp [ji]
theorem qW {s0 m i : Nat} (h : i ≤ m) : (ji s0 m).getD i [] = aK (s0 + i) := by
 unfold ji
 rw [List.getD_eq_getElem?_getD, List.getElem?_map, List.getElem?_range' (by omega)]
 simp
theorem sN {s0 m : Nat} (h1 : 1 ≤ s0) (u : s0 + m ≤ 99999999) : ∀ (k i : Nat) (acc : List (List UInt8)), m + 1 - i + 10 < k → i ≤ m + 1 → acc.length ≤ i → bC.l0 (cg s0 m) k acc (i : Int) = some (acc ++ (ji s0 m).drop i)
 | 0, i, acc, h, _, _ => by omega
 | k + 1, i, acc, h, hi, ha => by
  rw [bC.l0, dm]
  by_cases hlt : i < m + 1
  ·rw [if_pos (by omega), if_pos (by omega), Int.toNat_natCast, ip (by omega), iA (by omega) (by omega) (by omega), Option.bind_some, if_pos (by simp only [List.length_cons, List.length_nil]; omega), ws1 (by omega), sN h1 u k (i + 1) _ (by omega) (by omega) (by simp; omega), fR (ji s0 m) [] (i := i) (by rw [jN]; exact hlt), qW (by omega)]
   simp
  ·rw [if_neg (by omega), List.drop_of_length_le (by rw [jN]; omega)]; simp
theorem uR {T N Z L : Nat} {w : Wl} (h : WOk T N Z L w) (u : T ≤ 99999999) {k : Nat} (D : T + 20 < k) :
  bC.f k w.tp.1 w.tp.2.1 w.tp.2.2.1 w.tp.2.2.2.1 w.tp.2.2.2.2.1 w.tp.2.2.2.2.2.1 w.tp.2.2.2.2.2.2.1 w.tp.2.2.2.2.2.2.2.1 w.tp.2.2.2.2.2.2.2.2.1 w.tp.2.2.2.2.2.2.2.2.2.1 w.tp.2.2.2.2.2.2.2.2.2.2.1 w.tp.2.2.2.2.2.2.2.2.2.2.2.1 w.tp.2.2.2.2.2.2.2.2.2.2.2.2.1 w.tp.2.2.2.2.2.2.2.2.2.2.2.2.2 = some (ji w.s0 w.m) := by
 have h1 := h.s1
 have G := h.top
 have s := sN (s0 := w.s0) (m := w.m) h1 (by omega) k 0 [] (by omega) (by omega) (by simp)
 rw [List.drop_zero, List.nil_append, show ((0 : Nat) : Int) = (0 : Int) from rfl] at s
 unfold bC.f
 rw [show w.tp.2.2.2.2.2.1 = cg w.s0 w.m from rfl, s, Option.bind_some]
theorem pz (x : List (List UInt8)) (u : x.length < 2 ^ 40) : ∀ (k i : Nat), x.length - i < k → i ≤ x.length → cn.l0 x x k (i : Int) = some (.inl ())
 | 0, i, h, _ => by omega
 | k + 1, i, h, hi => by
  rw [cn.l0]
  by_cases hlt : i < x.length
  ·rw [if_pos (by omega), if_pos (by omega), if_pos (by omega), if_pos rfl, ws1 (by omega)]
   exact pz x u k (i + 1) (by omega) (by omega)
  ·rw [if_neg (by omega)]
theorem wd (x : List (List UInt8)) (u : x.length < 2 ^ 40) {k : Nat} (D : x.length < k) : cn.f k x x = some true := by
 have h := pz x u k 0 (by omega) (by omega)
 rw [show ((0 : Nat) : Int) = (0 : Int) from rfl] at h
 unfold cn.f
 rw [if_pos rfl, h]
 rfl
theorem sO {T N Z L : Nat} {w : Wl} (h : WOk T N Z L w) (D : L < 2 ^ 40) :
  dA.f w.tp.1 w.tp.2.1 w.tp.2.2.1 w.tp.2.2.2.1 w.tp.2.2.2.2.1 w.tp.2.2.2.2.2.1 w.tp.2.2.2.2.2.2.1 w.tp.2.2.2.2.2.2.2.1 w.tp.2.2.2.2.2.2.2.2.1 w.tp.2.2.2.2.2.2.2.2.2.1 w.tp.2.2.2.2.2.2.2.2.2.2.1 w.tp.2.2.2.2.2.2.2.2.2.2.2.1 w.tp.2.2.2.2.2.2.2.2.2.2.2.2.1 w.tp.2.2.2.2.2.2.2.2.2.2.2.2.2 = some (cC w.st) := by
 have G := h.len
 unfold dA.f
 have := mJ w.fs w.la 0 false w.most (cg w.s0 w.m) (w.size : Int) w.st false (by omega)
 exact (congrArg (fun o => Option.bind o fun u => some (u.1, u.2)) this).trans rfl
/-! ### Few operations -/
abbrev OpW := Int × Int × Bool × Int × Int × Int × Int × Int × List EnT
abbrev iq : OpW := ((0 : Int), (0 : Int), false, (0 : Int), (0 : Int), (0 : Int), (0 : Int), (0 : Int), ([] : List EnT))
def OpW.es (o : OpW) : List EnT := o.2.2.2.2.2.2.2.2
def ls (l : List EnT) : Nat := (l.map fun e => min e.2.2.2.length 20000 + 1).sum
theorem pA (e : EnT) (l : List EnT) : ls (e :: l) = min e.2.2.2.length 20000 + 1 + ls l := by simp [ls]
theorem sP : ∀ l : List EnT, l.length ≤ ls l ∧ ls l ≤ 20001 * l.length
 | [] => by simp [ls]
 | e :: l => by
  have u := sP l
  rw [pA, List.length_cons]
  omega
theorem sQ : ∀ x : List OpW, (x.map fun o => (OpW.es o).length).sum ≤ (x.map fun o => ls (OpW.es o)).sum
 | [] => Nat.le_refl _
 | o :: x => by
  have u := sQ x
  have := (sP (OpW.es o)).1
  simp only [List.map_cons, List.sum_cons]
  omega
theorem qX (x : List OpW) (X : x.length < 2 ^ 40) {j : Nat} (L : j < x.length) (z : Int) (hd : ∀ o, o ∈ x → ∀ e, e ∈ OpW.es o → e.2.2.2.length < 2 ^ 40) (u : (OpW.es (x.getD j iq)).length < 2 ^ 40) : ∀ (k i n : Nat), 200 - i < k → i ≤ 200 → n + 20001 * (200 - i) < 2 ^ 50 → ∃ r : Nat, bE.l1 x (z, (j : Int)) k (n : Int) (i : Int) = some (r : Int) ∧ r ≤ n + 20001 * (200 - i) ∧ ((OpW.es (x.getD j iq)).length ≤ 200 → r = n + ls ((OpW.es (x.getD j iq)).drop i))
 | 0, i, n, h, _, _ => by omega
 | k + 1, i, n, h, hi, hn => by
  rw [bE.l1, if_pos (show 0 ≤ (z, (j : Int)).2 ∧ (z, (j : Int)).2 < (x.length : Int) from ⟨by show 0 ≤ (j : Int); omega, by show (j : Int) < _; omega⟩)]
  have hm : x.getD j iq ∈ x := by rw [fD L]; exact List.getElem_mem _
  simp only [Int.toNat_natCast]
  have I : (x.getD j iq).2.2.2.2.2.2.2.2 = OpW.es (x.getD j iq) := rfl
  simp only [I]
  have D := hd _ hm
  obtain ⟨l, G⟩ : ∃ l, OpW.es (x.getD j iq) = l := ⟨_, rfl⟩
  simp only [G] at u D ⊢
  by_cases hc : i < l.length ∧ i < 200
  ·have J : l.getD i bl ∈ l := by rw [fD hc.1]; exact List.getElem_mem _
   have ad := D _ J
   rw [if_pos (by simp; omega), if_pos ⟨by omega, by omega⟩, if_pos (by omega), ws1 (by omega)]
   have e1 : IntKind.i64.wrap (IntKind.i64.wrap ((n : Int) + (min (((l.getD i bl).2.2.2).length : Int) (20000 : Int))) + 1) = ((n + (min (l.getD i bl).2.2.2.length 20000 + 1) : Nat) : Int) := by
    rw [w64 (n := (n : Int) + min (((l.getD i bl).2.2.2).length : Int) 20000) (by omega) (by omega), w64 (by omega) (by omega)]
    omega
   rw [e1]
   obtain ⟨r, r1, r2, r3⟩ := qX x X L z hd (by rw [G]; exact u) k (i + 1) (n + (min (l.getD i bl).2.2.2.length 20000 + 1)) (by omega) (by omega) (by omega)
   refine ⟨r, r1, by omega, fun U => ?_⟩
   have := r3 (by rw [G]; exact U)
   rw [G] at this
   rw [this, fR l bl hc.1, pA]
   omega
  ·rw [if_neg (by simp; omega)]
   refine ⟨n, rfl, by omega, fun U => ?_⟩
   rw [List.drop_of_length_le (by omega)]
   simp [ls]
theorem qY (x : List OpW) (U : x.length < 2 ^ 40) (hd : ∀ o, o ∈ x → ∀ e, e ∈ OpW.es o → e.2.2.2.length < 2 ^ 40) (u : ∀ o, o ∈ x → (OpW.es o).length < 2 ^ 40) : ∀ (k i n : Nat), 200 - i + 300 < k → i ≤ 200 → n + 5000000 * (200 - i) < 2 ^ 50 → ∃ r : Int ⊕ Bool, bE.l0 x k (n : Int) (i : Int) = some r ∧ ∀ v, r = .inl v → x.length ≤ 200 → v = ((n + ((x.drop i).map fun o => ls (OpW.es o)).sum : Nat) : Int) ∧ ∀ o, o ∈ x.drop i → (OpW.es o).length ≤ 200
 | 0, i, n, h, _, _ => by omega
 | k + 1, i, n, h, hi, hn => by
  rw [bE.l0]
  by_cases hc : i < x.length ∧ i < 200
  ·have hm : x.getD i iq ∈ x := by rw [fD hc.1]; exact List.getElem_mem _
   obtain ⟨r, X, r2, r3⟩ := qX x U hc.1 (n : Int) hd (u _ hm) k 0 n (by omega) (by omega) (by omega)
   rw [show ((0 : Nat) : Int) = (0 : Int) from rfl] at X
   rw [if_pos (by simp; omega), X, Option.bind_some, if_pos (by omega)]
   have J : (x.getD (i : Int).toNat iq).2.2.2.2.2.2.2.2 = OpW.es (x.getD i iq) := by rw [Int.toNat_natCast]; rfl
   have D : (x.getD (i : Int).toNat ((0 : Int), (0 : Int), false, (0 : Int), (0 : Int), (0 : Int), (0 : Int), (0 : Int), ([] : List EnT))).2.2.2.2.2.2.2.2 = OpW.es (x.getD i iq) := J
   by_cases h2 : (OpW.es (x.getD i iq)).length ≤ 200
   ·rw [if_neg (by rw [D]; omega)]
    simp only [orR]
    rw [ws1 (by omega)]
    have hr := r3 h2
    rw [List.drop_zero] at hr
    obtain ⟨q, q1, q2⟩ := qY x U hd u k (i + 1) r (by omega) (by omega) (by omega)
    refine ⟨q, q1, fun v G I => ?_⟩
    obtain ⟨q3, q4⟩ := q2 v G I
    rw [fR x iq hc.1, List.map_cons, List.sum_cons]
    refine ⟨by rw [q3, hr]; congr 1; omega, fun o L => ?_⟩
    rcases List.mem_cons.1 L with rfl | L
    ·exact h2
    ·exact q4 o L
   ·rw [if_pos (by rw [D]; omega)]
    simp only [orR]
    exact ⟨_, rfl, fun v G => by cases G⟩
  ·rw [if_neg (by simp; omega)]
   refine ⟨_, rfl, fun v G I => ?_⟩
   cases G
   rw [List.drop_of_length_le (by omega)]
   simp
theorem xA (x : List OpW) (I : x.length < 2 ^ 40) (hd : ∀ o, o ∈ x → ∀ e, e ∈ OpW.es o → e.2.2.2.length < 2 ^ 40) (u : ∀ o, o ∈ x → (OpW.es o).length < 2 ^ 40) {k : Nat} (X : 1000 ≤ k) : ∃ b, bE.f k x = some b ∧ (b = true → x.length ≤ 200 ∧ (x.map fun o => (OpW.es o).length).sum ≤ 20000) := by
 obtain ⟨r, G, J⟩ := qY x I hd u k 0 0 (by omega) (by omega) (by omega)
 rw [show ((0 : Nat) : Int) = (0 : Int) from rfl] at G
 unfold bE.f
 rw [G]
 cases r with
 | inr b =>
  cases b with
  | false => exact ⟨false, rfl, fun h => by cases h⟩
  | true => exact ⟨true, rfl, fun _ => by
    exfalso
    have key : ∀ (k i : Nat) (z : Int), bE.l0 x k z (i : Int) ≠ some (.inr true) := by
     intro k
     induction k with
     | zero => intro i z h; simp [bE.l0] at h
     | succ k ih =>
      intro i z h
      rw [bE.l0] at h
      split at h
      ·cases D : bE.l1 x (z, (i : Int)) k z 0 with
       | none => rw [D] at h; simp [orR] at h
       | some v =>
        rw [D, Option.bind_some] at h
        split at h
        ·split at h
         ·simp [orR] at h
         ·simp only [orR] at h
          by_cases hb : i < 2 ^ 40
          ·rw [ws1 (by omega)] at h
           exact ih _ _ h
          ·rename_i g _ _
           simp at g
           omega
        ·simp [orR] at h
      ·simp at h
    exact key _ 0 0 G⟩
 | inl v =>
  simp only [orR]
  refine ⟨_, rfl, fun h => ?_⟩
  simp only [Bool.and_eq_true, decide_eq_true_eq] at h
  have D : x.length ≤ 200 := by omega
  obtain ⟨L, _⟩ := J v rfl D
  rw [List.drop_zero] at L
  refine ⟨D, ?_⟩
  have U := sQ x
  omega
/-! ### Compact -/
def lK (s : St) (sg i : Int) : Bool := s.2.2.2.2.2.any fun h => decide (h.2.2.2.2 = sg) && decide (i < h.2.1)
theorem qZ (l : List HeT) (u : l.length < 2 ^ 40) (sg i : Int) : ∀ (k j : Nat), l.length - j < k → j ≤ l.length → ∃ r : Unit ⊕ Int, bk.l0 l sg i k (j : Int) = some r ∧ ((∃ v, r = .inr v ∧ 0 ≤ v ∧ ((l.drop j).any fun h => decide (h.2.2.2.2 = sg) && decide (i < h.2.1)) = true) ∨ (r = .inl () ∧ ((l.drop j).any fun h => decide (h.2.2.2.2 = sg) && decide (i < h.2.1)) = false))
 | 0, j, h, _ => by omega
 | k + 1, j, h, hj => by
  rw [bk.l0]
  by_cases hlt : j < l.length
  ·rw [if_pos (by omega), if_pos (by omega), fR l au hlt]
   unfold fE.f
   simp only [Int.toNat_natCast, Option.bind_some, List.any_cons]
   by_cases hc : (decide ((l.getD j au).2.2.2.2 = sg) && decide (i < (l.getD j au).2.1)) = true
   ·rw [if_pos hc]
    exact ⟨_, rfl, .inl ⟨_, rfl, by omega, by rw [hc]; rfl⟩⟩
   ·rw [if_neg hc, ws1 (by omega)]
    rw [Bool.not_eq_true] at hc
    rw [hc, Bool.false_or]
    exact qZ l u sg i k (j + 1) (by omega) (by omega)
  ·rw [if_neg (by omega), List.drop_of_length_le (by omega)]
   exact ⟨_, rfl, .inr ⟨rfl, rfl⟩⟩
theorem xB (fs : FSt) (la : List UInt8) (a : Int) (d : Bool) (most : Int) (u : List Int) (sz : Int) (s : St) (I : s.2.2.2.2.2.length < 2 ^ 40) (J : Bool) (sg i : Int) {k : Nat} (L : s.2.2.2.2.2.length < k) : eH.f k fs la a d most u sz s.1 s.2.1 s.2.2.1 s.2.2.2.1 s.2.2.2.2.1 s.2.2.2.2.2 J sg i = some (lK s sg i) := by
 obtain ⟨r, D, G⟩ := qZ s.2.2.2.2.2 I sg i k 0 (by omega) (by omega)
 rw [show ((0 : Nat) : Int) = (0 : Int) from rfl] at D
 rw [List.drop_zero] at G
 unfold eH.f bN.f bk.f lK
 rw [D]
 rcases G with ⟨v, rfl, v0, h⟩ | ⟨rfl, h⟩
 ·rw [h]; simp [orR, v0]
 ·rw [h]; rfl
def eX : List HeT → Int → Nat
 | [], _ => 0
 | h :: l, sg => if h.2.2.2.2 = sg then eX l sg + 1 else 0
theorem lH : ∀ (l : List HeT) (sg : Int), eX l sg ≤ l.length
 | [], _ => Nat.le_refl _
 | h :: l, sg => by
  have := lH l sg
  rw [eX, List.length_cons]
  split <;> omega
theorem nP : ∀ (l : List HeT) (sg : Int) (i : Nat), i < eX l sg → (l.getD i dzH).2.2.2.2 = sg
 | [], _, i, h => by simp [eX] at h
 | x :: l, sg, i, h => by
  rw [eX] at h
  split at h
  ·rename_i u
   cases i with
   | zero => exact u
   | succ i =>
    have := nP l sg i (by omega)
    simpa using this
  ·omega
theorem sR (l : List HeT) (u : l.length < 2 ^ 40) (sg : Int) : ∀ (k j : Nat), l.length - j < k → j ≤ l.length → cy.l0 l sg k (j : Int) = some ((j + eX (l.drop j) sg : Nat) : Int)
 | 0, j, h, _ => by omega
 | k + 1, j, h, hj => by
  rw [cy.l0]
  by_cases hlt : j < l.length
  ·rw [if_pos (by omega), if_pos (by omega), Option.bind_some, fR l au hlt, eX]
   simp only [Int.toNat_natCast, decide_eq_true_eq]
   by_cases hc : (l.getD j au).2.2.2.2 = sg
   ·rw [if_pos hc, if_pos hc, ws1 (by omega), sR l u sg k (j + 1) (by omega) (by omega)]
    congr 2; omega
   ·rw [if_neg hc, if_neg hc]; rfl
  ·rw [if_neg (by omega), List.drop_of_length_le (by omega), Option.bind_some, if_neg Bool.false_ne_true]
   simp [eX]
def eK (s : St) (g : Nat) : St := (s.1, s.2.1, s.2.2.1, if 0 < g then (s.2.2.2.2.2.getD (g - 1) dzH).2.1 else s.2.2.2.1, if 0 < g then (s.2.2.2.2.2.getD (g - 1) dzH).1 else s.2.2.2.2.1, s.2.2.2.2.2.drop g)
theorem we {x : List HeT} (h : x.length < 2 ^ 40) : dX.f x = some x := by
 unfold dX.f
 rw [if_pos (by simp; omega)]
 simp
theorem yD (fs : FSt) (la : List UInt8) (a : Int) (d : Bool) (most : Int) (u : List Int) (sz : Int) (s : St) (I : s.2.2.2.2.2.length < 2 ^ 40) (D : Bool) (sg : Int) {k : Nat} (X : s.2.2.2.2.2.length < k) :
  cy.f k fs la a d most u sz s.1 s.2.1 s.2.2.1 s.2.2.2.1 s.2.2.2.2.1 s.2.2.2.2.2 D sg = some (most, u, sz, (eK s (eX s.2.2.2.2.2 sg)).1, (eK s (eX s.2.2.2.2.2 sg)).2.1, (eK s (eX s.2.2.2.2.2 sg)).2.2.1, (eK s (eX s.2.2.2.2.2 sg)).2.2.2.1, (eK s (eX s.2.2.2.2.2 sg)).2.2.2.2.1, (eK s (eX s.2.2.2.2.2 sg)).2.2.2.2.2, D) := by
 have hp := lH s.2.2.2.2.2 sg
 have G := sR s.2.2.2.2.2 I sg k 0 (by omega) (by omega)
 rw [List.drop_zero, Nat.zero_add, show ((0 : Nat) : Int) = (0 : Int) from rfl] at G
 unfold cy.f eK
 rw [G, Option.bind_some]
 obtain ⟨g, J⟩ : ∃ g, eX s.2.2.2.2.2 sg = g := ⟨_, rfl⟩
 rw [J] at hp ⊢
 by_cases hg : 0 < g
 ·have L : IntKind.i64.wrap ((g : Int) - 1) = ((g - 1 : Nat) : Int) := by rw [w64 (by omega) (by omega)]; omega
  have U : cut s.2.2.2.2.2 (g : Int) (s.2.2.2.2.2.length : Int) = s.2.2.2.2.2.drop g := by unfold cut; simp
  rw [if_pos (by omega), L, if_pos (by omega), if_pos (by omega), U, we (by simp; omega), Option.bind_some, Int.toNat_natCast, if_pos hg, if_pos hg]
 ·rw [if_neg (by omega), if_neg hg, if_neg hg, show g = 0 by omega, List.drop_zero]
theorem nO {s : St} (h : dN s) {g : Nat} (X : g ≤ s.2.2.2.2.2.length) : dN (eK s g) ∧ (eK s g).2.2.2.1 = s.2.2.2.1 + (g : Int) ∧ cC (eK s g) = cC s := by
 have u : (eK s g).2.2.2.1 = s.2.2.2.1 + (g : Int) := by
  unfold eK
  simp only
  split
  ·rw [h.idx _ (by omega)]; omega
  ·omega
 have I := lJ h
 have D := h.b
 unfold okN at D
 refine ⟨⟨h.t, h.v, h.c, ⟨by rw [u]; omega, by rw [u]; omega⟩, ?_, fun i hi => ?_, fun e J => h.chk e (List.mem_of_mem_drop J)⟩, u, ?_⟩
 ·unfold eK
  simp only
  split
  ·have := (fC (h.chk _ (kI (i := g - 1) (by omega)))).1
   exact ⟨by have := this.1; omega, this.2⟩
  ·exact h.bt
 ·rw [u]
  have hi' : i + g < s.2.2.2.2.2.length := by
   have : i < (s.2.2.2.2.2.drop g).length := hi
   rw [List.length_drop] at this; omega
  have G : (s.2.2.2.2.2.drop g).getD i dzH = s.2.2.2.2.2.getD (g + i) dzH := by simp only [List.getD_eq_getElem?_getD, List.getElem?_drop]
  show ((s.2.2.2.2.2.drop g).getD i dzH).2.1 = _
  rw [G, h.idx _ (by omega)]
  omega
 ·unfold cC
  have L : (eK s g).2.2.2.2.2 = s.2.2.2.2.2.drop g := rfl
  rw [L, List.length_drop]
  by_cases hlt : g < s.2.2.2.2.2.length
  ·have G : (s.2.2.2.2.2.drop g).getD (s.2.2.2.2.2.length - g - 1) dzH = s.2.2.2.2.2.getD (s.2.2.2.2.2.length - 1) dzH := by
    simp only [List.getD_eq_getElem?_getD, List.getElem?_drop]
    congr 2; omega
   rw [if_pos (by omega), if_pos (by omega), G]
  ·have U : g = s.2.2.2.2.2.length := by omega
   rw [if_neg (by omega)]
   by_cases h0 : 0 < s.2.2.2.2.2.length
   ·rw [if_pos h0]
    unfold eK
    simp only
    rw [if_pos (by omega), if_pos (by omega), U]
   ·rw [if_neg h0]
    unfold eK
    simp only
    rw [if_neg (by omega), if_neg (by omega)]
def jc (w : Wl) : Wl := { w with fs := dM w.fs (aK w.s0), la := if w.la = aK w.s0 then [] else w.la, s0 := w.s0 + 1, m := w.m - 1, st := eK w.st (eX w.st.2.2.2.2.2 (w.s0 : Int)) }
theorem wg {T N Z L : Nat} {w : Wl} (h : WOk T N Z L w) (U : T ≤ 99999999) (X : 0 < w.m) : WOk T N Z L (jc w) := by
 have G := h.s1
 have I := h.top
 have hi := ua h.inv w.la 0 false (aK w.s0)
 have D := h.has w.s0 (Nat.le_refl _) (by omega)
 rw [ra D] at hi
 have hz := nR (aK w.s0) w.fs
 have hl := nS w.fs (aK w.s0) D
 have hn := h.num
 have hs := h.siz
 have hd := nO h.st (lH w.st.2.2.2.2.2 (w.s0 : Int))
 have J := h.len
 refine ⟨hi, by show (dM _ _).length ≤ _; omega, by show szF (dM _ _) ≤ _; omega, by show 1 ≤ w.s0 + 1; omega, by show w.s0 + 1 + (w.m - 1) ≤ T; omega, fun n h1 u => ?_, fun n h1 u => ?_, hd.1, ?_, h.sz⟩
 ·simp only [jc] at h1 u
  show (aU (dM w.fs (aK w.s0)) (aK n)).isSome = true
  rw [lc _ _ _ h.inv.nd, if_neg (fun e => by have := fG (by omega) (by omega) e; omega)]
  exact h.has n (by omega) (by omega)
 ·simp only [jc] at h1
  show aU (dM w.fs (aK w.s0)) (aK n) = none
  rw [lc _ _ _ h.inv.nd, if_neg (fun e => by have := fG (by omega) u e; omega)]
  exact h.non n (by omega) u
 ·show (w.st.2.2.2.2.2.drop _).length ≤ L
  rw [List.length_drop]; omega
structure Cmp (w v : Wl) (n : Nat) (i : Int) : Prop where
 s0 : v.s0 = w.s0 + n
 m : v.m + n = w.m
 tvc : v.st.1 = w.st.1 ∧ v.st.2.1 = w.st.2.1 ∧ v.st.2.2.1 = w.st.2.2.1
 la : cC v.st = cC w.st
 es : ∃ g, g ≤ w.st.2.2.2.2.2.length ∧ v.st.2.2.2.2.2 = w.st.2.2.2.2.2.drop g ∧ v.st.2.2.2.1 = w.st.2.2.2.1 + (g : Int)
 bd : v.st.2.2.2.1 ≤ max i w.st.2.2.2.1
theorem uS {w : Wl} (h : dN w.st) (I : 0 < w.m) {i : Int} (G : lK w.st (w.s0 : Int) i = false) : Cmp w (jc w) 1 i := by
 have hp := lH w.st.2.2.2.2.2 (w.s0 : Int)
 have hd := nO h hp
 refine ⟨rfl, by show w.m - 1 + 1 = w.m; omega, ⟨rfl, rfl, rfl⟩, hd.2.2, ⟨_, hp, rfl, hd.2.1⟩, ?_⟩
 show (eK w.st (eX w.st.2.2.2.2.2 (w.s0 : Int))).2.2.2.1 ≤ _
 by_cases h0 : 0 < eX w.st.2.2.2.2.2 (w.s0 : Int)
 ·have D := nP w.st.2.2.2.2.2 (w.s0 : Int) (eX w.st.2.2.2.2.2 (w.s0 : Int) - 1) (by omega)
  have u := kI (l := w.st.2.2.2.2.2) (i := eX w.st.2.2.2.2.2 (w.s0 : Int) - 1) (by omega)
  unfold lK at G
  have := List.any_eq_false.1 G _ u
  simp only [D, decide_true, Bool.true_and, decide_eq_true_eq] at this
  unfold eK
  simp only
  rw [if_pos h0]
  omega
 ·unfold eK
  simp only
  rw [if_neg h0]
  omega
theorem uT {w u v : Wl} {a b : Nat} {i : Int} (h1 : Cmp w u a i) (D : Cmp u v b i) : Cmp w v (a + b) i := by
 obtain ⟨g, X, G, I⟩ := h1.es
 obtain ⟨k, J, L, U⟩ := D.es
 have b1 := h1.bd
 have b2 := D.bd
 refine ⟨by rw [D.s0, h1.s0]; omega, by have := h1.m; have := D.m; omega, ⟨D.tvc.1.trans h1.tvc.1, D.tvc.2.1.trans h1.tvc.2.1, D.tvc.2.2.trans h1.tvc.2.2⟩, D.la.trans h1.la, ⟨g + k, ?_, ?_, ?_⟩, by omega⟩
 ·rw [G, List.length_drop] at J; omega
 ·rw [L, G, List.drop_drop]
 ·rw [U, I]; omega
theorem rb {w : Wl} {i : Int} : Cmp w w 0 i := ⟨rfl, rfl, ⟨rfl, rfl, rfl⟩, rfl, ⟨0, Nat.zero_le _, rfl, by simp⟩, by omega⟩
theorem oD {P : Wl → Prop} {T N Z L : Nat} (hT : T ≤ 99999999) (hL : L < 2 ^ 40) (hP : ∀ u, WOk T N Z L u → 0 < u.m → P u → P (jc u)) (i : Int) : ∀ (k n : Nat) (w : Wl), w.m + L + 20 < k → n + w.m < 2 ^ 40 → WOk T N Z L w →
  ∃ (v : Wl) (j : Nat), ci.l0 i k w.tp.1 w.tp.2.1 w.tp.2.2.1 w.tp.2.2.2.1 w.tp.2.2.2.2.1 w.tp.2.2.2.2.2.1 w.tp.2.2.2.2.2.2.1 w.tp.2.2.2.2.2.2.2.1 w.tp.2.2.2.2.2.2.2.2.1 w.tp.2.2.2.2.2.2.2.2.2.1 w.tp.2.2.2.2.2.2.2.2.2.2.1 w.tp.2.2.2.2.2.2.2.2.2.2.2.1 w.tp.2.2.2.2.2.2.2.2.2.2.2.2.1 w.tp.2.2.2.2.2.2.2.2.2.2.2.2.2 (n : Int) =
   some (v.tp.1, v.tp.2.1, v.tp.2.2.1, v.tp.2.2.2.1, v.tp.2.2.2.2.1, v.tp.2.2.2.2.2.1, v.tp.2.2.2.2.2.2.1, v.tp.2.2.2.2.2.2.2.1, v.tp.2.2.2.2.2.2.2.2.1, v.tp.2.2.2.2.2.2.2.2.2.1, v.tp.2.2.2.2.2.2.2.2.2.2.1, v.tp.2.2.2.2.2.2.2.2.2.2.2.1, v.tp.2.2.2.2.2.2.2.2.2.2.2.2.1, v.tp.2.2.2.2.2.2.2.2.2.2.2.2.2, ((n + j : Nat) : Int)) ∧ WOk T N Z L v ∧ Cmp w v j i ∧ (P w → P v)
 | 0, n, w, h, _, _ => by omega
 | k + 1, n, w, hk, hn, hw => by
  have a6 := hw.len
  have J := hw.s1
  have a7 := hw.top
  have U : (cg w.s0 w.m).getD (0 : Int).toNat 0 = (w.s0 : Int) := by
   have := ip (s0 := w.s0) (m := w.m) (i := 0) (Nat.zero_le _)
   exact this
  rw [ci.l0]
  rw [show w.tp.2.2.2.2.2.1 = cg w.s0 w.m from rfl, dm, U]
  by_cases hm : 0 < w.m
  ·have X := xB w.fs w.la 0 false w.most (cg w.s0 w.m) (w.size : Int) w.st (by omega) false (w.s0 : Int) i (k := k) (by omega)
   have D : eH.f k w.tp.1 w.tp.2.1 w.tp.2.2.1 w.tp.2.2.2.1 w.tp.2.2.2.2.1 (cg w.s0 w.m) w.tp.2.2.2.2.2.2.1 w.tp.2.2.2.2.2.2.2.1 w.tp.2.2.2.2.2.2.2.2.1 w.tp.2.2.2.2.2.2.2.2.2.1 w.tp.2.2.2.2.2.2.2.2.2.2.1 w.tp.2.2.2.2.2.2.2.2.2.2.2.1 w.tp.2.2.2.2.2.2.2.2.2.2.2.2.1 w.tp.2.2.2.2.2.2.2.2.2.2.2.2.2 (w.s0 : Int) i = some (lK w.st (w.s0 : Int) i) := X
   rw [if_pos (show (1 : Int) < ((w.m + 1 : Nat) : Int) by omega), if_pos (show 0 ≤ (0 : Int) ∧ (0 : Int) < ((w.m + 1 : Nat) : Int) by omega), D, Option.bind_some, Option.bind_some]
   cases hnd : lK w.st (w.s0 : Int) i with
   | true =>
    rw [if_neg (by decide)]
    exact ⟨w, 0, rfl, hw, rb, id⟩
   | false =>
    have hh := hw.has w.s0 (Nat.le_refl _) (by omega)
    have ab := wg hw hT hm
    have ad := uS hw.st hm hnd
    rw [if_pos (show (!false) = true from rfl), if_pos (show 0 ≤ (0 : Int) ∧ (0 : Int) < ((w.m + 1 : Nat) : Int) by omega), iA J (by omega) (by omega), Option.bind_some, uU, show jq w.tp.1 w.tp.2.1 w.tp.2.2.1 w.tp.2.2.2.1 (aK w.s0) = jq w.fs w.la 0 false (aK w.s0) from rfl, ra hh, Option.bind_some]
    simp only []
    rw [iF, Option.bind_some]
    have af := yD (dM w.fs (aK w.s0)) (if w.la = aK w.s0 then [] else w.la) 0 false w.most (cg w.s0 w.m) (w.size : Int) w.st (by omega) false (w.s0 : Int) (k := k) (by omega)
    have G : cy.f k (dM w.fs (aK w.s0)) (if w.la = aK w.s0 then [] else w.la) 0 false w.tp.2.2.2.2.1 (cg w.s0 w.m) w.tp.2.2.2.2.2.2.1 w.tp.2.2.2.2.2.2.2.1 w.tp.2.2.2.2.2.2.2.2.1 w.tp.2.2.2.2.2.2.2.2.2.1 w.tp.2.2.2.2.2.2.2.2.2.2.1 w.tp.2.2.2.2.2.2.2.2.2.2.2.1 w.tp.2.2.2.2.2.2.2.2.2.2.2.2.1 w.tp.2.2.2.2.2.2.2.2.2.2.2.2.2 (w.s0 : Int) = _ := af
    rw [G, Option.bind_some]
    simp only []
    rw [dm, if_pos (by omega), ws1 (by omega)]
    try rw [if_pos (show 0 ≤ (1 : Int) ∧ (1 : Int) ≤ ((w.m + 1 : Nat) : Int) ∧ ((w.m + 1 : Nat) : Int) ≤ ((w.m + 1 : Nat) : Int) by omega)]
    have I : cut (cg w.s0 w.m) (1 : Int) ((w.m + 1 : Nat) : Int) = cg (w.s0 + 1) (w.m - 1) := by
     obtain ⟨q, hq⟩ : ∃ q, w.m = q + 1 := ⟨w.m - 1, by omega⟩
     rw [hq, Nat.add_sub_cancel]
     unfold cut
     rw [Int.toNat_natCast, List.take_of_length_le (by rw [dm]; omega), uV]
     rfl
    rw [I]
    obtain ⟨v, j, v1, v2, v3, v4⟩ := oD (P := P) hT hL hP i k (n + 1) (jc w) (by show w.m - 1 + L + 20 < k; omega) (by show n + 1 + (w.m - 1) < _; omega) ab
    refine ⟨v, 1 + j, ?_, v2, uT ad v3, fun x => v4 (hP w hw hm x)⟩
    rw [show n + (1 + j) = n + 1 + j by omega]
    exact v1
  ·rw [if_neg (show ¬ (1 : Int) < ((w.m + 1 : Nat) : Int) by omega), Option.bind_some, if_neg Bool.false_ne_true]
   exact ⟨w, 0, rfl, hw, rb, id⟩
def dn (w : Wl) : Wl := { w with fs := aX w.fs (aK w.last) ((bw w.fs (aK w.last)).1, ((bw w.fs (aK w.last)).1.length : Int)) }
theorem uW {P : Wl → Prop} {T N Z L : Nat} {w : Wl} (h : WOk T N Z L w) (hT : T ≤ 99999999) (hL : L < 2 ^ 30) (hP : ∀ u, WOk T N Z L u → 0 < u.m → P u → P (jc u)) (i : Int) {k : Nat} (hk : T + L + 40 < k) :
  ∃ (v : Wl) (j : Nat) (c : Int), eY.f k w.tp.1 w.tp.2.1 w.tp.2.2.1 w.tp.2.2.2.1 w.tp.2.2.2.2.1 w.tp.2.2.2.2.2.1 w.tp.2.2.2.2.2.2.1 w.tp.2.2.2.2.2.2.2.1 w.tp.2.2.2.2.2.2.2.2.1 w.tp.2.2.2.2.2.2.2.2.2.1 w.tp.2.2.2.2.2.2.2.2.2.2.1 w.tp.2.2.2.2.2.2.2.2.2.2.2.1 w.tp.2.2.2.2.2.2.2.2.2.2.2.2.1 w.tp.2.2.2.2.2.2.2.2.2.2.2.2.2 i =
   some ((j : Int), c, v.tp.1, v.tp.2.1, v.tp.2.2.1, v.tp.2.2.2.1, v.tp.2.2.2.2.1, v.tp.2.2.2.2.2.1, v.tp.2.2.2.2.2.2.1, v.tp.2.2.2.2.2.2.2.1, v.tp.2.2.2.2.2.2.2.2.1, v.tp.2.2.2.2.2.2.2.2.2.1, v.tp.2.2.2.2.2.2.2.2.2.2.1, v.tp.2.2.2.2.2.2.2.2.2.2.2.1, v.tp.2.2.2.2.2.2.2.2.2.2.2.2.1, v.tp.2.2.2.2.2.2.2.2.2.2.2.2.2) ∧ WOk T N Z L v ∧ (P w → P (dn w) → P v) ∧
   ((i < 0 ∨ (cC w.st).1 < i) ∧ c = 1 ∧ j = 0 ∧ v = w ∨ ¬ (i < 0 ∨ (cC w.st).1 < i) ∧ c = 0 ∧ Cmp w v j i) := by
 have a7 := h.len
 have a8 := h.top
 have bc := h.s1
 have U := mJ w.fs w.la 0 false w.most (cg w.s0 w.m) (w.size : Int) w.st false (by omega)
 have G : cx.f w.tp.1 w.tp.2.1 w.tp.2.2.1 w.tp.2.2.2.1 w.tp.2.2.2.2.1 w.tp.2.2.2.2.2.1 w.tp.2.2.2.2.2.2.1 w.tp.2.2.2.2.2.2.2.1 w.tp.2.2.2.2.2.2.2.2.1 w.tp.2.2.2.2.2.2.2.2.2.1 w.tp.2.2.2.2.2.2.2.2.2.2.1 w.tp.2.2.2.2.2.2.2.2.2.2.2.1 w.tp.2.2.2.2.2.2.2.2.2.2.2.2.1 w.tp.2.2.2.2.2.2.2.2.2.2.2.2.2 = some (cC w.st) := U
 unfold eY.f
 rw [if_neg (show ¬ w.tp.2.2.2.2.2.2.2.2.2.2.2.2.2 = true from Bool.false_ne_true), G, Option.bind_some]
 by_cases hi : i < 0 ∨ (cC w.st).1 < i
 ·rw [if_pos (by simpa using hi)]
  exact ⟨w, 0, 1, rfl, h, fun x _ => x, .inl ⟨hi, rfl, rfl, rfl⟩⟩
 ·rw [if_neg (by simpa using hi)]
  have hs := jr (h.has w.last (by unfold Wl.last; omega) (Nat.le_refl _))
  have X := kK h.inv w.la 0 false (aK w.last)
  rw [jz hs] at X
  have z1 := fS (aK w.last) ((bw w.fs (aK w.last)).1, ((bw w.fs (aK w.last)).1.length : Int)) w.fs
  have l1 := ff (v := ((bw w.fs (aK w.last)).1, ((bw w.fs (aK w.last)).1.length : Int))) (h.has w.last (by unfold Wl.last; omega) (Nat.le_refl _))
  have af := h.num
  have al := h.siz
  simp only at X z1
  have hu : WOk T N Z L (dn w) := by
   unfold dn
   refine ⟨X, by simp only; omega, by simp only; omega, h.s1, h.top, fun n h1 D => ?_, fun n h1 D => ?_, h.st, h.len, h.sz⟩
   ·simp only at h1 D ⊢
    rw [dR]
    split
    ·rfl
    ·exact h.has n h1 D
   ·simp only at h1 D ⊢
    rw [dR, if_neg (fun e => by have := fG (by unfold Wl.last; omega) D e; unfold Wl.last at this; omega)]
    exact h.non n h1 D
  obtain ⟨v, j, v1, v2, v3, v4⟩ := oD (P := P) hT (by omega) hP i k 0 (dn w) (by show w.m + L + 20 < k; omega) (by show 0 + w.m < _; omega) hu
  rw [Nat.zero_add, show ((0 : Nat) : Int) = (0 : Int) from rfl] at v1
  have I : IntKind.i64.wrap (((cg w.s0 w.m).length : Int) - 1) = (w.m : Int) := by rw [dm, w64 (by omega) (by omega)]; omega
  refine ⟨v, j, 0, ?_, v2, fun _ x => v4 x, .inr ⟨hi, rfl, ⟨v3.s0, v3.m, v3.tvc, v3.la, v3.es, v3.bd⟩⟩⟩
  unfold db.f ci.f
  have J := js w.s0 w.m (by omega)
  rw [I] at J
  rw [show w.tp.2.2.2.2.2.1 = cg w.s0 w.m from rfl, I, J, if_pos (by rw [dm]; omega), show ((w.s0 + w.m : Nat) : Int) = (w.last : Int) from rfl, iA (by unfold Wl.last; omega) (by unfold Wl.last; omega) (by omega), Option.bind_some, lL, show jV w.tp.1 w.tp.2.1 w.tp.2.2.1 w.tp.2.2.2.1 (aK w.last) = jV w.fs w.la 0 false (aK w.last) from rfl, jz hs, Option.bind_some]
  simp only []
  rw [iF, Option.bind_some]
  have ab : ci.l0 i k (aX w.fs (aK w.last) ((bw w.fs (aK w.last)).1, ((bw w.fs (aK w.last)).1.length : Int))) w.la 0 false w.tp.2.2.2.2.1 (cg w.s0 w.m) w.tp.2.2.2.2.2.2.1 w.tp.2.2.2.2.2.2.2.1 w.tp.2.2.2.2.2.2.2.2.1 w.tp.2.2.2.2.2.2.2.2.2.1 w.tp.2.2.2.2.2.2.2.2.2.2.1 w.tp.2.2.2.2.2.2.2.2.2.2.2.1 w.tp.2.2.2.2.2.2.2.2.2.2.2.2.1 w.tp.2.2.2.2.2.2.2.2.2.2.2.2.2 (0 : Int) = _ := v1
  rw [ab, Option.bind_some, Option.bind_some]
  rfl
end Go.Proofs.YtndjkejhacfpdaaGreatDoor

namespace Go.Proofs.YtndjkejhacfpdaaGreatDoor
open Go.RowKit
def fa : List (List UInt8) → List UInt8
 | [] => []
 | p :: l => frB p ++ fa l
theorem rM : ∀ a b : List (List UInt8), fa (a ++ b) = fa a ++ fa b
 | [], b => rfl
 | p :: a, b => by rw [List.cons_append, fa, fa, rM a b, List.append_assoc]
theorem nD : ∀ l : List bO, eG l = fa (l.map cF)
 | [] => rfl
 | r :: l => by rw [eG, List.map_cons, fa, nD l]
def okP (ps : List (List UInt8)) : Prop := ∀ p, p ∈ ps → p.length ≤ 1048576
theorem mm : ∀ ps : List (List UInt8), 8 * ps.length ≤ (fa ps).length
 | [] => by simp [fa]
 | p :: l => by
  have u := mm l
  have := kw p
  rw [fa, List.length_append, List.length_cons]
  omega
abbrev xc : (Int × List (List UInt8)) → (Int × List UInt8) → Option (Int × List (List UInt8)) := fun (D : Int × List (List UInt8)) (u : Int × List UInt8) => if (D.2.length + ([u.2] : List (List UInt8)).length) * 24 ≤ 140737488355328 then (some (IntKind.i64.wrap ((IntKind.i64.wrap (u.1 + 8)) + (u.2.length : Int)), D.2 ++ ([u.2] : List (List UInt8)))) else none
theorem vt (b : List UInt8) (L : b.length ≤ 2 ^ 40) : ∀ (ps : List (List UInt8)) (k i : Nat) (u : List (List UInt8)), okP ps → i + (fa ps).length = b.length → b.drop i = fa ps → u.length ≤ i → ps.length + 1048700 < k →
  cZ.l0 xc b k (i : Int) ((i : Int), u) = some ((b.length : Int), u ++ ps)
 | [], k, i, u, _, h1, _, _, hk => by
  obtain ⟨q, rfl⟩ : ∃ q, k = q + 1 := ⟨k - 1, by omega⟩
  simp only [fa, List.length_nil, Nat.add_zero] at h1
  rw [cZ.l0, if_neg (by omega), h1, List.append_nil]
 | p :: ps, k, i, u, hp, h1, h2, ho, hk => by
  obtain ⟨q, rfl⟩ : ∃ q, k = q + 1 := ⟨k - 1, by omega⟩
  have G := hp p (by simp)
  have D := kw p
  have I : (fa (p :: ps)).length = (8 + p.length) + (fa ps).length := by rw [fa, List.length_append, D]
  rw [I] at h1
  rw [fa] at h2
  rw [List.length_cons] at hk
  have U := yW (b := b) (i := i) (k := q) L (by omega) (by omega)
  rw [h2, xl G] at U
  rw [cZ.l0, if_pos (by omega), U, Option.bind_some]
  simp only []
  first | rw [if_pos rfl] | rw [if_pos trivial]
  have J : xc ((i : Int), u) ((i : Int), p) = some (((i + (8 + p.length) : Nat) : Int), u ++ [p]) := by
   show (if (u.length + 1) * 24 ≤ 140737488355328 then some (IntKind.i64.wrap (IntKind.i64.wrap ((i : Int) + 8) + (p.length : Int)), u ++ [p]) else none) = _
   rw [if_pos (by omega), w64 (n := (i : Int) + 8) (by omega) (by omega), w64 (by omega) (by omega)]
   congr 2
   omega
  rw [J, Option.bind_some, Option.bind_some]
  simp only [Bool.false_eq_true, if_false]
  rw [wa (by omega)]
  have hd : b.drop (i + (8 + p.length)) = fa ps := by
   rw [← List.drop_drop, h2, ← D, List.drop_left]
  rw [vt b L ps q (i + (8 + p.length)) (u ++ [p]) (fun x X => hp x (by simp [X])) (by omega) hd (by rw [List.length_append]; simp only [List.length_cons, List.length_nil]; omega) (by omega)]
  simp
theorem zg {ps : List (List UInt8)} (hp : okP ps) (u : (fa ps).length ≤ 2 ^ 30) {k : Nat} (D : 2 ^ 30 + 1048700 < k) : iL.f k (fa ps) = some (ps, ((fa ps).length : Int), 0) := by
 have G := mm ps
 have h := vt (fa ps) (by omega) ps k 0 [] hp (by omega) rfl (by simp) (by omega)
 rw [show ((0 : Nat) : Int) = (0 : Int) from rfl, List.nil_append] at h
 unfold iL.f
 rw [show iB.f = some () from rfl, Option.bind_some]
 unfold cZ.f
 rw [show cZ.l0 _ (fa ps) k 0 (0, ([] : List (List UInt8))) = some (((fa ps).length : Int), ps) from h, Option.bind_some, if_pos rfl]
abbrev yJ : List UInt8 := [111, 116, 104, 101, 114]
structure zw (M : Int) (w : Wl) : Prop where
 mo : w.most = M
 fr : ∀ n, w.s0 ≤ n → n ≤ w.last → ∃ ps, okP ps ∧ (bw w.fs (aK n)).1 = fa ps
 big : ∀ n, w.s0 ≤ n → n < w.last → M ≤ ((bw w.fs (aK n)).1.length : Int)
 sz : (bw w.fs (aK w.last)).1.length = w.size
 len : w.fs.length = w.m + 2
 oth : ∃ z, aU w.fs yJ = some ([1, 2], z)
theorem rO (fs : FSt) (x : List UInt8) (v : List UInt8 × Int) (y : List UInt8) : bw (aX fs x v) y = if x = y then v else bw fs y := by
 unfold bw
 rw [dR]
 split <;> rfl
theorem mn (fs : FSt) (n : Nat) (b x : List UInt8) : bw (hJ fs n b) x = if x = aK n then (b, (b.length : Int)) else bw fs x := by
 unfold bw
 rw [kO]
 split <;> rfl
theorem ti {r : bO} (h : OkR r) (hd : r.2.2.2.2.2.2.2.2.2.2.length ≤ 4096 ∨ r.1 = 2) : (cF r).length ≤ 1048576 := by
 have h1 := io r
 rcases hd with hd | hd
 ·omega
 ·have := (fC (h.e hd)).2.2.2.1
  omega
/-! ### Sync, Bytes -/
theorem tj {T N Z L : Nat} {w : Wl} (h : WOk T N Z L w) (U : T ≤ 99999999) {k : Nat} (X : 20 ≤ k) : dY.f k w.tp.1 w.tp.2.1 w.tp.2.2.1 w.tp.2.2.2.1 w.tp.2.2.2.2.1 w.tp.2.2.2.2.2.1 w.tp.2.2.2.2.2.2.1 w.tp.2.2.2.2.2.2.2.1 w.tp.2.2.2.2.2.2.2.2.1 w.tp.2.2.2.2.2.2.2.2.2.1 w.tp.2.2.2.2.2.2.2.2.2.2.1 w.tp.2.2.2.2.2.2.2.2.2.2.2.1 w.tp.2.2.2.2.2.2.2.2.2.2.2.2.1 w.tp.2.2.2.2.2.2.2.2.2.2.2.2.2 = some (0, (dn w).fs, (dn w).la, 0, false) := by
 have G := h.top
 have I := h.s1
 have J := jr (h.has w.last (by unfold Wl.last; omega) (Nat.le_refl _))
 have u : IntKind.i64.wrap (((cg w.s0 w.m).length : Int) - 1) = (w.m : Int) := by rw [dm, w64 (by omega) (by omega)]; omega
 have D := js w.s0 w.m (by omega)
 rw [u] at D
 unfold dY.f dq.f fM.f
 rw [if_neg (show ¬ w.tp.2.2.2.2.2.2.2.2.2.2.2.2.2 = true from Bool.false_ne_true), show w.tp.2.2.2.2.2.1 = cg w.s0 w.m from rfl, u, D, if_pos (by rw [dm]; omega), show ((w.s0 + w.m : Nat) : Int) = (w.last : Int) from rfl, iA (by unfold Wl.last; omega) (by unfold Wl.last; omega) (by omega), Option.bind_some, lL, show jV w.tp.1 w.tp.2.1 w.tp.2.2.1 w.tp.2.2.2.1 (aK w.last) = jV w.fs w.la 0 false (aK w.last) from rfl, jz J, Option.bind_some]
 simp only []
 rw [iF, Option.bind_some, Option.bind_some, Option.bind_some]
 rfl
theorem rP {T N Z L : Nat} {w : Wl} (h : WOk T N Z L w) (hT : T ≤ 99999999) : WOk T N Z L (dn w) := by
 have J := h.top
 have U := jr (h.has w.last (by unfold Wl.last; omega) (Nat.le_refl _))
 have D := kK h.inv w.la 0 false (aK w.last)
 rw [jz U] at D
 have X := fS (aK w.last) ((bw w.fs (aK w.last)).1, ((bw w.fs (aK w.last)).1.length : Int)) w.fs
 have l1 := ff (v := ((bw w.fs (aK w.last)).1, ((bw w.fs (aK w.last)).1.length : Int))) (h.has w.last (by unfold Wl.last; omega) (Nat.le_refl _))
 have G := h.num
 have I := h.siz
 simp only at D X
 unfold dn
 refine ⟨D, by simp only; omega, by simp only; omega, h.s1, h.top, fun n h1 u => ?_, fun n h1 u => ?_, h.st, h.len, h.sz⟩
 ·simp only at h1 u ⊢
  rw [dR]
  split
  ·rfl
  ·exact h.has n h1 u
 ·simp only at h1 u ⊢
  rw [dR, if_neg (fun e => by have := fG (by unfold Wl.last; omega) u e; unfold Wl.last at this; omega)]
  exact h.non n h1 u
theorem xS {T N Z L : Nat} {w : Wl} (h : WOk T N Z L w) {n : Nat} (h1 : w.s0 ≤ n) (D : n ≤ w.last) : eR.f w.fs w.la 0 false (aK n) = some ((bw w.fs (aK n)).1, 0) := by
 have u := h.has n h1 D
 have G := Nat.le_trans (oI (kN u)) h.inv.sz
 simp only at G
 unfold eR.f
 rw [if_pos u]
 have : gn.f (bw w.fs (aK n)).1 = some (bw w.fs (aK n)).1 := wo (by omega)
 show (gn.f (bw w.fs (aK n)).1).bind _ = _
 rw [this]
 rfl
end Go.Proofs.YtndjkejhacfpdaaGreatDoor

namespace Go.Proofs.YtndjkejhacfpdaaGreatDoor
open Go.RowKit
/-! ### Two stories that agree -/
structure Jn (N : Int) (M P : St) : Prop where
 tvc : P.1 = M.1 ∧ P.2.1 = M.2.1 ∧ P.2.2.1 = M.2.2.1
 la : cC P = cC M
 lb : ∃ d : Nat, P.2.2.2.1 = M.2.2.2.1 + (d : Int) ∧ d ≤ M.2.2.2.2.2.length ∧ P.2.2.2.2.2 = M.2.2.2.2.2.drop d ∧ (∀ i, i < d → (M.2.2.2.2.2.getD i dzH).2.2.2.2 < N) ∧ (∀ i, d ≤ i → i < M.2.2.2.2.2.length → N ≤ (M.2.2.2.2.2.getD i dzH).2.2.2.2)
 ts : ∀ i m, 0 < m → fQ P i m = true → fQ M i m = true
theorem uN {N : Int} {M P : St} (h : Jn N M P) : P.2.2.2.1 + (P.2.2.2.2.2.length : Int) = M.2.2.2.1 + (M.2.2.2.2.2.length : Int) := by
 obtain ⟨d, h1, D, u, _⟩ := h.lb
 rw [h1, u, List.length_drop]
 omega
theorem jn (l : List HeT) (d i : Nat) : (l.drop d).getD i dzH = l.getD (d + i) dzH := by
 simp only [List.getD_eq_getElem?_getD, List.getElem?_drop]
theorem kX {a b : List HeT} {i : Nat} (h : i < a.length) : (a ++ b).getD i dzH = a.getD i dzH := by
 rw [List.getD_eq_getElem?_getD, List.getElem?_append_left h, ← List.getD_eq_getElem?_getD]
theorem nj {a : List HeT} {e : HeT} {i : Nat} (h : i = a.length) : (a ++ [e]).getD i dzH = e := by
 rw [List.getD_eq_getElem?_getD, List.getElem?_append_right (by omega), h, Nat.sub_self]
 rfl
theorem sK {s : St} {i m : Int} (h : fQ s i m = true) : s.2.2.2.1 ≤ i ∧ i ≤ s.2.2.2.1 + (s.2.2.2.2.2.length : Int) := by
 unfold fQ at h
 split at h
 ·omega
 ·split at h
  ·omega
  ·cases h
theorem nN {t v c b bt : Int} {es : List HeT} {e : HeT} {x : Int} (h1 : b < x) (D : x ≤ b + (es.length : Int) + 1) (i m : Int) :
  fQ (t, v, c, b, bt, es.take (x - b - 1).toNat ++ [e]) i m = if i < x then fQ (t, v, c, b, bt, es) i m else if i = x then decide (e.1 = m) else false := by
 have u : (es.take (x - b - 1).toNat).length = (x - b - 1).toNat := by rw [List.length_take]; omega
 unfold fQ
 simp only
 by_cases hi : i = b
 ·rw [if_pos hi, if_pos hi, if_pos (by omega)]
 ·rw [if_neg hi, if_neg hi, List.length_append, u]
  simp only [List.length_cons, List.length_nil]
  by_cases hx : i < x
  ·rw [if_pos hx]
   by_cases hb : b < i
   ·rw [if_pos (by omega), if_pos (by omega), kX (by omega), kb _ (by omega)]
   ·rw [if_neg (by omega), if_neg (by omega)]
  ·rw [if_neg hx]
   by_cases he : i = x
   ·rw [if_pos he, if_pos (by omega), nj (by omega)]
   ·rw [if_neg he, if_neg (by omega)]
theorem xu {t v c b : Int} {e : HeT} (i m : Int) : fQ (t, v, c, b, 0, [e]) i m = if i = b then decide (m = 0) else if i = b + 1 then decide (e.1 = m) else false := by
 unfold fQ
 simp only [List.length_cons, List.length_nil]
 by_cases hi : i = b
 ·rw [if_pos hi, if_pos hi]
 ·rw [if_neg hi, if_neg hi]
  by_cases h2 : i = b + 1
  ·rw [if_pos h2, if_pos (by omega), show (i - b - 1).toNat = 0 by omega]
   rfl
  ·rw [if_neg h2, if_neg (by omega)]
theorem kY {t v c b bt : Int} {es : List HeT} {e : HeT} : cC (t, v, c, b, bt, es ++ [e]) = (e.2.1, e.1) := by
 unfold cC
 simp only [List.length_append, List.length_cons, List.length_nil]
 rw [if_pos (by omega), nj (by omega)]
def okT (s : St) (r : bO) : Prop := r.1 = 2 → r.2.2.2.2.2.2.2.2.1 ≤ s.2.2.2.1 + (s.2.2.2.2.2.length : Int) + 1
theorem yz {N sg : Int} {M P : St} (hM : dN M) (hP : dN P) (h : Jn N M P) (hs : N ≤ sg) {r : bO} (hr : OkR r) (h0 : r.1 ≠ 0) (hk : r.1 = 3 → 0 < r.2.2.2.2.2.2.1 ∧ fQ M r.2.2.2.2.2.1 r.2.2.2.2.2.2.1 = false) (hg : okT M r) : Jn N (cT M r sg) (cT P r sg) := by
 have J := uN h
 obtain ⟨⟨t1, t2, t3⟩, ad, ⟨d, d1, d2, d3, X, d5⟩, G⟩ := h
 obtain ⟨Mt, Mv, Mc, Mb, Mbt, Me⟩ := M
 obtain ⟨Pt, Pv, Pc, Pb, Pbt, Pe⟩ := P
 simp only at t1 t2 t3 d1 d2 d3 X d5 J
 subst t1 t2 t3
 have b5 := hr.kd
 unfold cT
 by_cases h1 : r.1 = 1
 ·rw [if_pos h1, if_pos h1]
  exact ⟨⟨rfl, rfl, rfl⟩, ad, ⟨d, d1, d2, d3, X, d5⟩, G⟩
 rw [if_neg h1, if_neg h1]
 by_cases h2 : r.1 = 2
 ·rw [if_pos h2, if_pos h2]
  have hx := (fC (hr.e h2)).2.1
  have a1 := hx.1
  have D := hg h2
  have a6 := hM.b.1
  simp only at D a6 ⊢
  obtain ⟨x, ex⟩ : ∃ x, r.2.2.2.2.2.2.2.2.1 = x := ⟨_, rfl⟩
  rw [ex] at a1 D ⊢
  obtain ⟨e, ee⟩ : ∃ e : HeT, (r.2.2.2.2.2.2.2.1, x, r.2.2.2.2.2.2.2.2.2.1, r.2.2.2.2.2.2.2.2.2.2, sg) = e := ⟨_, rfl⟩
  have L : e.2.2.2.2 = sg := by rw [← ee]
  rw [ee, if_neg (show ¬ (Mb + (Me.length : Int) + 1 < x) by omega), if_neg (show ¬ (Pb + (Pe.length : Int) + 1 < x) by omega)]
  by_cases g1 : x ≤ Mb
  ·rw [if_pos g1, if_pos (show x ≤ Pb by omega)]
   exact ⟨⟨rfl, rfl, rfl⟩, rfl, ⟨0, by simp, by simp, rfl, fun i hi => by omega, fun i _ hi => by
    have : i = 0 := by simp at hi; omega
    subst this
    show N ≤ e.2.2.2.2
    omega⟩, fun i m _ u => u⟩
  ·rw [if_neg g1]
   have hl : (Me.take (x - Mb - 1).toNat).length = (x - Mb - 1).toNat := by rw [List.length_take]; omega
   by_cases g2 : x ≤ Pb
   ·rw [if_pos g2]
    refine ⟨⟨rfl, rfl, rfl⟩, ?_, ⟨(x - Mb - 1).toNat, by simp only; omega, by simp only [List.length_append, hl]; omega, ?_, fun i hi => ?_, fun i U I => ?_⟩, fun i m hm u => ?_⟩
    ·rw [kY]; rfl
    ·simp only
     rw [List.drop_append_of_le_length (by omega), List.drop_of_length_le (by omega)]
     rfl
    ·simp only
     rw [kX (by omega), kb _ hi]
     exact X i (by omega)
    ·simp only [List.length_append, hl, List.length_cons, List.length_nil] at I ⊢
     rw [nj (by omega), L]
     exact hs
    ·rw [xu] at u
     rw [nN (by omega) (by omega)]
     by_cases q1 : i = x - 1
     ·rw [if_pos q1] at u
      simp only [decide_eq_true_eq] at u
      omega
     ·rw [if_neg q1] at u
      by_cases q2 : i = x - 1 + 1
      ·rw [if_pos q2] at u
       rw [if_neg (by omega), if_pos (by omega)]
       exact u
      ·rw [if_neg q2] at u
       cases u
   ·rw [if_neg g2]
    have a7 : (Pe.take (x - Pb - 1).toNat) = (Me.take (x - Mb - 1).toNat).drop d := by
     rw [d3, List.drop_take]
     congr 1
     omega
    refine ⟨⟨rfl, rfl, rfl⟩, ?_, ⟨d, d1, by simp only [List.length_append, hl]; omega, ?_, fun i hi => ?_, fun i U I => ?_⟩, fun i m hm u => ?_⟩
    ·rw [kY, kY]
    ·simp only
     rw [a7, List.drop_append_of_le_length (by omega)]
    ·simp only
     rw [kX (by omega), kb _ (by omega)]
     exact X i hi
    ·simp only [List.length_append, hl, List.length_cons, List.length_nil] at I ⊢
     by_cases q : i < (x - Mb - 1).toNat
     ·rw [kX (by omega), kb _ q]
      exact d5 i U (by omega)
     ·rw [nj (by omega), L]
      exact hs
    ·rw [nN (by omega) (by omega)] at u
     rw [nN (by omega) (by omega)]
     by_cases q1 : i < x
     ·rw [if_pos q1] at u ⊢
      exact G i m hm u
     ·rw [if_neg q1] at u ⊢
      exact u
 rw [if_neg h2, if_neg h2]
 obtain ⟨k1, k2⟩ := hk (by omega)
 have k3 : fQ (Pt, Pv, Pc, Pb, Pbt, Pe) r.2.2.2.2.2.1 r.2.2.2.2.2.2.1 = false := by
  rw [Bool.eq_false_iff]
  intro hc
  have := G _ _ k1 hc
  rw [k2] at this
  cases this
 rw [k2, k3]
 simp only [Bool.false_eq_true, if_false]
 exact ⟨⟨rfl, rfl, rfl⟩, rfl, ⟨0, by simp, by simp, rfl, fun i hi => by omega, fun i _ hi => by simp at hi⟩, fun i m _ u => u⟩
theorem yA {N sg : Int} {M P : St} (hM : dN M) (h : Jn N M P) (hs : sg < N) : Jn N (eK M (eX M.2.2.2.2.2 sg)) P := by
 have hp := lH M.2.2.2.2.2 sg
 have hd := nO hM hp
 obtain ⟨t, G, ⟨d, X, d2, d3, d4, d5⟩, I⟩ := h
 have J : eX M.2.2.2.2.2 sg ≤ d := by
  rcases Nat.lt_or_ge d (eX M.2.2.2.2.2 sg) with hlt | hge
  ·have e1 := nP M.2.2.2.2.2 sg d hlt
   have e2 := d5 d (Nat.le_refl _) (by omega)
   omega
  ·exact hge
 obtain ⟨g, eg⟩ : ∃ g, eX M.2.2.2.2.2 sg = g := ⟨_, rfl⟩
 rw [eg] at hp hd J ⊢
 have u : (eK M g).2.2.2.2.2 = M.2.2.2.2.2.drop g := rfl
 refine ⟨t, by rw [G, hd.2.2], ⟨d - g, by rw [X, hd.2.1]; omega, by rw [u, List.length_drop]; omega, by rw [u, List.drop_drop, d3]; congr 1; omega, fun i hi => ?_, fun i a6 L => ?_⟩, fun i m hm hh => ?_⟩
 ·rw [u, jn]
  exact d4 (g + i) (by omega)
 ·rw [u, List.length_drop] at L
  rw [u, jn]
  exact d5 (g + i) (by omega) (by omega)
 ·have D := sK hh
  have h1 := I i m hm hh
  have a8 : P.2.2.2.2.2.length + d = M.2.2.2.2.2.length := by rw [d3, List.length_drop]; omega
  rw [X] at D
  by_cases h0 : g = 0
  ·subst h0
   unfold eK
   simp only [Nat.lt_irrefl, if_false, List.drop_zero]
   exact h1
  ·have hb : (eK M g).2.2.2.1 = M.2.2.2.1 + (g : Int) := hd.2.1
   have U : (eK M g).2.2.2.2.1 = (M.2.2.2.2.2.getD (g - 1) dzH).1 := by
    unfold eK
    simp only
    rw [if_pos (by omega)]
   unfold fQ at h1 ⊢
   rw [u, hb, U, List.length_drop]
   by_cases q : i = M.2.2.2.1 + (g : Int)
   ·rw [if_pos q]
    rw [if_neg (by omega), if_pos (by omega), show (i - M.2.2.2.1 - 1).toNat = g - 1 by omega] at h1
    simp only [decide_eq_true_eq] at h1 ⊢
    exact h1.symm
   ·rw [if_neg q, if_pos (by omega), jn]
    rw [if_neg (by omega), if_pos (by omega)] at h1
    rw [show g + (i - (M.2.2.2.1 + (g : Int)) - 1).toNat = (i - M.2.2.2.1 - 1).toNat by omega]
    exact h1
theorem yZ {N : Int} {M P : St} (h : Jn N M P) (u : ∀ i, i < M.2.2.2.2.2.length → N ≤ (M.2.2.2.2.2.getD i dzH).2.2.2.2) : P.2.2.2.1 = M.2.2.2.1 ∧ P.2.2.2.2.2 = M.2.2.2.2.2 := by
 obtain ⟨t, D, ⟨d, G, U, I, J, X⟩, L⟩ := h
 have hd : d = 0 := by
  rcases Nat.eq_zero_or_pos d with h0 | h0
  ·exact h0
  ·have e1 := J 0 h0
   have e2 := u 0 (by omega)
   omega
 subst hd
 exact ⟨by rw [G]; simp, by rw [I, List.drop_zero]⟩
end Go.Proofs.YtndjkejhacfpdaaGreatDoor

/- Texts that lead to the law WalRecovers: G, Pl1, PlWire, PlWire2, PlGen, PlRd, PlWt, PlCd, PlCd2, PlCd3, PlMap, PlDk0, PlDk1, Rw, Rw2, Rw3, PlDkF, PlFr, PlFr2, PlNm, PlWl1, PlWl2, PlWl3. Conditions: as each says. -/
import Derived.Test.YtndjkejhacfpdaaGreatDoorM6
import Derived.Laws.BitsLemmas
import Derived.SizedLaws
import Derived.Test.YtndjkejhacfpdaaGreatDoorRows
import Derived.ProofKit
import Derived.OpenShut
import Derived.ShutString
import Derived.ChangeOld
import Derived.Deep.CondSized
import Derived.JoinedCond
import Derived.Lib.ItoaMem
import Derived.Lib.Repeat
import Derived.Lib.SlTrimSet
set_option linter.unusedVariables false
set_option linter.unusedSimpArgs false
set_option linter.unusedSectionVars false
namespace Go.Proofs.YtndjkejhacfpdaaGreatDoor
open Go.RowKit _root_.Go.Proofs.Tryz
set_option maxRecDepth 20000
set_option maxHeartbeats 20000000
def eC.f (k : Nat) (c : List ((List UInt8) × (List UInt8 × Int))) (d : List UInt8) (e : Int) (g : Bool) (h : Int) (i : List Int) (j l m n o p : Int) (q : List (aP)) (b : Bool) (r s : Int) : Option (Int × (List ((List UInt8) × (List UInt8 × Int))) × List UInt8 × Int × Bool × Int × List Int × Int × Int × Int × Int × Int × Int × (List (aP)) × Bool × Int) := (cR.f k c d e g h i j l m n o p q b r s).bind fun a => (if a.1 = 0 then (some (0, a.2.1, a.2.2.1, a.2.2.2.1, a.2.2.2.2.1, a.2.2.2.2.2.1, a.2.2.2.2.2.2.1, a.2.2.2.2.2.2.2.1, a.2.2.2.2.2.2.2.2.1, a.2.2.2.2.2.2.2.2.2.1, a.2.2.2.2.2.2.2.2.2.2.1, a.2.2.2.2.2.2.2.2.2.2.2.1, a.2.2.2.2.2.2.2.2.2.2.2.2.1, a.2.2.2.2.2.2.2.2.2.2.2.2.2.1, a.2.2.2.2.2.2.2.2.2.2.2.2.2.2.1, a.2.2.2.2.2.2.2.2.2.2.2.2.2.2.2)) else (some (a.1, a.2.1, a.2.2.1, a.2.2.2.1, a.2.2.2.2.1, a.2.2.2.2.2.1, a.2.2.2.2.2.2.1, a.2.2.2.2.2.2.2.1, a.2.2.2.2.2.2.2.2.1, a.2.2.2.2.2.2.2.2.2.1, a.2.2.2.2.2.2.2.2.2.2.1, a.2.2.2.2.2.2.2.2.2.2.2.1, a.2.2.2.2.2.2.2.2.2.2.2.2.1, a.2.2.2.2.2.2.2.2.2.2.2.2.2.1, true, a.2.2.2.2.2.2.2.2.2.2.2.2.2.2.2)))
theorem eC.calls (W : World) (F : HA) (k h j o : Nat) (p : Kps) (z : List (Lb × (Lb × Int))) (ab : Lb) (ad : Int) (af : Bool) (ag : Int) (q : Option Addr) (s : Nat) (l : List Int) (al an az a0 a1 a2 : Int) (t : Option Addr) (u : Nat) (m : List aP) (v : HA) (w : Bool) (a4 a5 : Nat) (n : Int) (a6 : Nat) (a3 : Int) (hgl : Glb Tryz.prog F) :
    Fn Tryz.prog W 49 [Pt h, .func (.func 62) #[] #[Pt a4, Pt a5, Pt a6]] [W0 j o ab ad af, ax (au o aB ar p) ak p z, W7 h j ag l al an az a0 a1 a2 m w q s t u, ah 3 1 (V3 tt) q l s, ah 144 5 (ba v) t m u, v, obj a4 36 [Pt h], obj a5 3 [Iv n], obj a6 3 [Iv a3]] F (eC.f k z ab ad af ag l al an az a0 a1 a2 m w n a3) (fun r (y : Nat × Kps × Option Addr × Nat × Option Addr × Nat × HA) => Iv r.1) (fun r y => [W11 j y.1 r.2.2, ax (au y.1 aB ar y.2.1) ak y.2.1 r.2.1, W14 h j r.q4.2 y.2.2.1 y.2.2.2.1 y.q4.1 y.q4.2.1, ah 3 1 (V3 tt) y.2.2.1 r.q4.2.2.1 y.2.2.2.1, ah 144 5 (ba y.q4.2.2) y.q4.1 r.q8.q4.2.1 y.q4.2.1, y.q4.2.2, obj a4 36 [Pt h], obj a5 3 [Iv n], obj a6 3 [Iv r.q8.q4.2.2.2]]) := by
 unfold eC.f
 refine lZ 8 Tryz.func49 O Tryz.ntmps49 O (sr (oE (cH O O O) O ?_))
 intro a7
 refine oE (bX O jG O) O ?_
 intro x
 refine nx (vq (jj O O O) O (lz (cap := [Pt a7, Pt x]) O O O O O O O (nx (oM O (bk 5 O (fun be a9 => (bk 6 O (fun br bc => (aj (fun e bd => ?_))))))))))
 refine nV (iY (vs := []) (cap := [Pt a4, Pt a5, Pt a6]) (A := [W0 j o ab ad af, ax (au o aB ar p) ak p z, W7 h j ag l al an az a0 a1 a2 m w q s t u, ah 3 1 (V3 tt) q l s, ah 144 5 (ba v) t m u, v, obj a4 36 [Pt h], obj a5 3 [Iv n], obj a6 3 [Iv a3]]) O O O O O O call62 (.sel 2 O (.sel 2 O (.sel 2 O (.sel' 2 O (ah.mk a9) (.sel' 2 O (ah.mk bc) (.sel 2 O (.sel 2 O (.sel 2 O (.sel 2 O (.s O (.s O (.s O .n)))))))))))) (cR.calls _ _ k a4 h j o p z ab ad af ag q s l al an az a0 a1 a2 t u m v w a5 n a6 a3 (hgl.lend 2 O)) bd O) O O O (fun a8 g => ?_) (fun a8 g => ?_)
 refine kF ?_
 exact rH (vs := [Iv e.1]) 81 [Pt a7, Pt x] (A := [obj a7 36 [Pt h], W14 h j e.q4.2 g.2.2.1 g.2.2.2.1 g.q4.1 g.q4.2.1, obj x 23 [Iv 0]]) (A' := [obj a7 36 [Pt h], W7 h j e.q4.2.1 e.q4.2.2.1 e.q4.2.2.2.1 e.q8.1 e.q8.2.1 e.q8.2.2.1 e.q8.2.2.2.1 e.q8.q4.1 e.q8.q4.2.1 true g.2.2.1 g.2.2.2.1 g.q4.1 g.q4.2.1, obj x 23 [Iv e.1]]) (rst := [W11 j g.1 e.2.2, ax (au g.1 aB ar g.2.1) ak g.2.1 e.2.1, ah 3 1 (V3 tt) g.2.2.1 e.q4.2.2.1 g.2.2.2.1, ah 144 5 (ba g.q4.2.2) g.q4.1 e.q8.q4.2.1 g.q4.2.1, g.q4.2.2, obj a4 36 [Pt h], obj a5 3 [Iv n], obj a6 3 [Iv e.q8.q4.2.2.2], F]) (fM.recd a7 x h (Pt j) (Iv e.q4.2.1) (.slice g.2.2.1 e.q4.2.2.1.length g.2.2.2.1) (Iv e.q4.2.2.2.1) (Iv e.q8.1) (Iv e.q8.2.1) (Iv e.q8.2.2.1) (Iv e.q8.2.2.2.1) (Iv e.q8.q4.1) (.slice g.q4.1 e.q8.q4.2.1.length g.q4.2.1) e.q8.q4.2.2.1 e.1 a8) call81 g O (.k (.c (.i (.a (.a (.a (.a (.a (.a (.a (.a (.a .n)))))))))))) ⟨⟨x, O, gz eX (.obj 2 O O)⟩, trivial⟩ O (.d (.d (.b (.c (.c (.c (.c (.c (.c (.c .n))))))))))
 refine nx (bg (aI 9 O O O cT O O (aM (by rfl)) O O) O O ?_)
 intro _
 refine oT (ay ?_)
 exact lR (vs := [Iv 0]) 81 [Pt a7, Pt x] (fM.quiet a7 x) call81 g O ⟨⟨x, O, gz eX (.obj 9 O O)⟩, trivial⟩ O (.a (.a (.a (.a (.a (.a (.a (.a (.a (.c .n))))))))))

def gD.f (k : Nat) (c : List ((List UInt8) × (List UInt8 × Int))) (d : List UInt8) (e : Int) (g : Bool) (h : Int) (i : List Int) (j l m n o p : Int) (q : List (aP)) (b : Bool) (x1 : Int) : Option (Int × Int × (List ((List UInt8) × (List UInt8 × Int))) × List UInt8 × Int × Bool × Int × List Int × Int × Int × Int × Int × Int × Int × (List (aP)) × Bool) := if b = true then (some (0, 11, c, d, e, g, h, i, j, l, m, n, o, p, q, b)) else ((dr.f c d e g h i j l m n o p q b).bind fun r => (if ((decide (x1 < (0 : Int))) || (decide (r.1 < x1))) = true then (some (0, 1, c, d, e, g, h, i, j, l, m, n, o, p, q, b)) else ((eC.f k c d e g h i j l m n o p q b x1 (0 : Int)).bind fun a => (if a.1 = (0 : Int) then (some (a.2.2.2.2.2.2.2.2.2.2.2.2.2.2.2, 0, a.2.1, a.2.2.1, a.2.2.2.1, a.2.2.2.2.1, a.2.2.2.2.2.1, a.2.2.2.2.2.2.1, a.2.2.2.2.2.2.2.1, a.2.2.2.2.2.2.2.2.1, a.2.2.2.2.2.2.2.2.2.1, a.2.2.2.2.2.2.2.2.2.2.1, a.2.2.2.2.2.2.2.2.2.2.2.1, a.2.2.2.2.2.2.2.2.2.2.2.2.1, a.2.2.2.2.2.2.2.2.2.2.2.2.2.1, a.2.2.2.2.2.2.2.2.2.2.2.2.2.2.1)) else (some (0, a.1, a.2.1, a.2.2.1, a.2.2.2.1, a.2.2.2.2.1, a.2.2.2.2.2.1, a.2.2.2.2.2.2.1, a.2.2.2.2.2.2.2.1, a.2.2.2.2.2.2.2.2.1, a.2.2.2.2.2.2.2.2.2.1, a.2.2.2.2.2.2.2.2.2.2.1, a.2.2.2.2.2.2.2.2.2.2.2.1, a.2.2.2.2.2.2.2.2.2.2.2.2.1, a.2.2.2.2.2.2.2.2.2.2.2.2.2.1, a.2.2.2.2.2.2.2.2.2.2.2.2.2.2.1))))))
theorem gD.calls (W : World) (F : HA) (k an az g : Nat) (i : Kps) (t : List (Lb × (Lb × Int))) (u : Lb) (v : Int) (w : Bool) (x : Int) (j : Option Addr) (l : Nat) (o : List Int) (z ab ad af ag al : Int) (m : Option Addr) (n : Nat) (p : List aP) (s : HA) (q : Bool) (x1 : Int) (hgl : Glb Tryz.prog F) :
    Fn Tryz.prog W 24 [Pt an, Iv x1] [W0 az g u v w, ax (au g aB ar i) ak i t, W7 an az x o z ab ad af ag al p q j l m n, ah 3 1 (V3 tt) j o l, ah 144 5 (ba s) m p n, s] F (gD.f k t u v w x o z ab ad af ag al p q x1) (fun r (y : Nat × Kps × Option Addr × Nat × Option Addr × Nat × HA) => .tuple #[Iv r.1, Iv r.2.1]) (fun r y => [W11 az y.1 r.2.2.2, ax (au y.1 aB ar y.2.1) ak y.2.1 r.2.2.1, W12 an az r.q4.2.2 y.2.2.1 y.2.2.2.1 y.q4.1 y.q4.2.1, ah 3 1 (V3 tt) y.2.2.1 r.q4.2.2.2.1 y.2.2.2.1, ah 144 5 (ba y.q4.2.2) y.q4.1 r.q8.q4.2.2.1 y.q4.2.1, y.q4.2.2]) := by
 unfold gD.f
 refine aX 35 Tryz.func24 O Tryz.ntmps24 O (sr (oE (cH O O O) O ?_))
 intro a5
 refine oE (cH O O O) O ?_
 intro a3
 refine oA O (oA O (oT (ap (sr (vq (oL O bb 1 O) O (oN O (vq (oF O av O cM O) O (vq (oL O dY 4 O) O (oT ?_)))))))))
 refine bm O (fun ch => ?_) (fun cs => ?_)
 refine sr (oA O (oA O (oT (ay (aY ?_)))))
 exact aJ (g, i, j, l, m, n, s) O O O (.c (.c (.c (.c (.c (.c (.c .n)))))))
 refine aA (ai (sr (vq (oL O bb 1 O) O (oN O (vq (oF O av O fb O) O (bk 5 O (fun b3 a0 => (bk 6 O (fun b4 a1 => (aj (fun a6 a7 => (bw 5 O (fun bs a8 a9 bt => (bw 6 O (fun bc bd be b0 => (oE (oC (vs := [.pointer (some ⟨an, 4, none⟩)]) (cap := []) (A := [W0 az g u v w, ax (au g aB ar i) ak i t, W7 an az x o z ab ad af ag al p q j l m n]) O call61 (.c (.c (.c (.a (.a (.a (.a (.a (.a .n))))))))) (dr.calls _ _ an az g i t u v w x j l o z ab ad af ag al m n p q ((Rd.asV a0 bs).up (Up.lend 2 O) (fun _ _ h => h)) a8 a9 ((Rd.asV a1 bc).up (Up.lend 3 O) (ba.up (Up.lend 4 O))) bd be) a7) O ?_))))))))))))))))
 intro b5
 refine oM O (vq (bY O O O) O (vq (bY O O O) O (oA O (oA O (oT (ap (sr (vq (oL O ae 3 O) O (vq (dG O O O) O (oM O (ao (b := decide (x1 < (0 : Int))) (fun b1 => RQ.sub (E' := [(3, Pt a3)]) ⟨O, trivial⟩ (oL O ae 3 O)) O O O O O (ao (b := decide (x1 < (0 : Int))) (fun b2 => RQ.sub (E' := [(6, Iv a6.1)]) ⟨O, trivial⟩ (am O O)) O O O O O (ao (b := decide (x1 < (0 : Int))) (fun a4 => RQ.sub (E' := [(24, Iv x1), (25, Iv a6.1)]) ⟨aN O a4, aN O a4, trivial⟩ (dO O O O)) O O O O O (vq (ik O O O) O (oT ?_)))))))))))))))
 refine bm O (fun b6 => ?_) (fun b7 => ?_)
 refine sr (oA O (oA O (oT (ay (aY ?_)))))
 exact aJ (g, i, j, l, m, n, s) O O O (.a (.a (.a (.sel' 2 O (ah.mk a0) (.sel' 2 O (ah.mk a1) (.c (.c .n)))))))
 refine aA (ai (sr (oE (bX O zeroValue3 O) O ?_)))
 intro a2
 refine bg (aI 0 O O O aa O O (aM (by rfl)) O O) O O ?_
 intro _
 refine nx (vq (oL O bb 5 O) O (vq (jj O O O) O (aj (fun b8 br => (oE (oC (vs := [Pt an, .func (.func 62) #[] #[Pt a5, Pt a3, Pt a2]]) (cap := []) (A := [W0 az g u v w, ax (au g aB ar i) ak i t, W7 an az x o z ab ad af ag al p q j l m n, ah 3 1 (V3 tt) j o l, ah 144 5 (ba s) m p n, s, obj a5 36 [Pt an], obj a3 3 [Iv x1], obj a2 3 [Iv 0]]) O call49 (.b (.b (.b (.sel' 3 O (ah.mk a0) (.sel' 3 O (ah.mk a1) (.d (.c (.b (.a (.a .n)))))))))) (eC.calls _ _ k an az g i t u v w x j l o z ab ad af ag al m n p s q a5 a3 x1 a2 (0 : Int) (hgl.lend 0 O)) br) O ?_)))))
 intro e
 refine oA O (oT (ap (sr (oM O (vq (ej O O O) O (oT ?_))))))
 refine eN O (fun b9 => ?_) (fun cd => ?_)
 refine aA (ai (sr (vq (oL O ae 8 O) O (oA O (oA O (oT (ay ?_)))))))
 exact aJ e O O O (.a (.a (.a (.a (.a (.a (.d .n)))))))
 refine sr (oM O (oA O (oA O (oT (ay (aY ?_))))))
 exact aJ e O O O (.a (.a (.a (.a (.a (.a (.d .n)))))))

def bn.l1 (b : (List (dE)) × Int × Int × (List ((List UInt8) × (List UInt8 × Int))) × List UInt8 × Int × Bool) (c : Int × Int × Int × Int × Int × (List (aV))) : Nat → Int → Int → Int → Int → Int → List Int → List (List UInt8) → Option ((Unit) ⊕ (Bool))
  | 0, _, _, _, _, _, _, _ => none
  | k + 1, a, e, g, h, i, j, l => if a ≤ (b.1.length : Int) then ((if b.2.1 ≤ a then ((cJ.f k e g h i j l c.1 c.2.1 c.2.2.1 c.2.2.2.1 c.2.2.2.2.1 c.2.2.2.2.2 b.2.2.1).bind fun m => (some m)) else (some false)).bind fun n => (if n = true then (some (.inr true)) else (if a < (b.1.length : Int) then (if 0 ≤ a ∧ a < (b.1.length : Int) then ((fY.f e g h i j l ((b.1.getD a.toNat io).1) ((b.1.getD a.toNat io).2.1) ((b.1.getD a.toNat io).2.2.1) ((b.1.getD a.toNat io).2.2.2.1) ((b.1.getD a.toNat io).2.2.2.2.1) ((b.1.getD a.toNat io).2.2.2.2.2.1) ((b.1.getD a.toNat io).2.2.2.2.2.2.1) ((b.1.getD a.toNat io).2.2.2.2.2.2.2.1) ((b.1.getD a.toNat io).2.2.2.2.2.2.2.2.1) ((b.1.getD a.toNat io).2.2.2.2.2.2.2.2.2)).bind fun d => (bn.l1 b c k (IntKind.i64.wrap (a + 1)) d.1 d.2.1 d.2.2.1 d.2.2.2.1 d.2.2.2.2.1 d.2.2.2.2.2)) else none) else (bn.l1 b c k (IntKind.i64.wrap (a + 1)) e g h i j l)))) else (some (.inl ()))
def bn.l0 (x1 : List (Int × Int × Bool × Int × Int × Int × Int × Int × (List (aV)))) (x2 x3 : Int) : Nat → List (dE) → Int → Int → Int → Int → List Int → Int → Int → Int → Int → Int → Int → List (aP) → Bool → List ((List UInt8) × (List UInt8 × Int)) → List UInt8 → Int → Bool → Option ((List (dE)) × Int × Int × (List ((List UInt8) × (List UInt8 × Int))) × List UInt8 × Int × Bool)
  | 0, _, _, _, _, _, _, _, _, _, _, _, _, _, _, _, _, _, _ => none
  | k + 1, g, m, i, d, n, j, o, p, q, r, s, t, l, u, h, w, x, y => if d < (x1.length : Int) then ((if d = x3 then ((jV.f h w x y x2).bind fun z => (some (z.1, z.2.1, z.2.2))) else (some (w, x, y))).bind fun e => ((eY.f h e.1 e.2.1 e.2.2).bind fun a7 => (if a7 = true then (some (g, m, i, h, e.1, e.2.1, e.2.2)) else (if 0 ≤ d ∧ d < (x1.length : Int) then (if (x1.getD d.toNat ((0 : Int), (0 : Int), false, (0 : Int), (0 : Int), (0 : Int), (0 : Int), (0 : Int), ([] : List (aV)))).1 = (0 : Int) then ((gI.f k h e.1 e.2.1 e.2.2 n j o p q r s t l u).bind fun v => ((cj.f k h e.1 e.2.1 e.2.2 n j o p q r s t l u).bind fun a8 => ((gl.f k h e.1 e.2.1 e.2.2 n j o p q r s t l u ((x1.getD d.toNat ((0 : Int), (0 : Int), false, (0 : Int), (0 : Int), (0 : Int), (0 : Int), (0 : Int), ([] : List (aV)))).2.2.1) ((x1.getD d.toNat ((0 : Int), (0 : Int), false, (0 : Int), (0 : Int), (0 : Int), (0 : Int), (0 : Int), ([] : List (aV)))).2.2.2.1) ((x1.getD d.toNat ((0 : Int), (0 : Int), false, (0 : Int), (0 : Int), (0 : Int), (0 : Int), (0 : Int), ([] : List (aV)))).2.2.2.2.1) ((x1.getD d.toNat ((0 : Int), (0 : Int), false, (0 : Int), (0 : Int), (0 : Int), (0 : Int), (0 : Int), ([] : List (aV)))).2.2.2.2.2.1) ((x1.getD d.toNat ((0 : Int), (0 : Int), false, (0 : Int), (0 : Int), (0 : Int), (0 : Int), (0 : Int), ([] : List (aV)))).2.2.2.2.2.2.1) ((x1.getD d.toNat ((0 : Int), (0 : Int), false, (0 : Int), (0 : Int), (0 : Int), (0 : Int), (0 : Int), ([] : List (aV)))).2.2.2.2.2.2.2.1) ((x1.getD d.toNat ((0 : Int), (0 : Int), false, (0 : Int), (0 : Int), (0 : Int), (0 : Int), (0 : Int), ([] : List (aV)))).2.2.2.2.2.2.2.2)).bind fun a => (((cu.f a.1).bind fun ag => ((if ag = (0 : Int) then ((cj.f k a.2.1 a.2.2.1 a.2.2.2.1 a.2.2.2.2.1 a.2.2.2.2.2.1 a.2.2.2.2.2.2.1 a.2.2.2.2.2.2.2.1 a.2.2.2.2.2.2.2.2.1 a.2.2.2.2.2.2.2.2.2.1 a.2.2.2.2.2.2.2.2.2.2.1 a.2.2.2.2.2.2.2.2.2.2.2.1 a.2.2.2.2.2.2.2.2.2.2.2.2.1 a.2.2.2.2.2.2.2.2.2.2.2.2.2.1 a.2.2.2.2.2.2.2.2.2.2.2.2.2.2).bind fun al => (some (decide ((a8.length : Int) < (al.length : Int))))) else (some false)).bind fun an => (if an = true then (some (g.length : Int)) else (some m)))).bind fun ab => ((cu.f a.1).bind fun az => ((if az = (0 : Int) then (some true) else ((eY.f a.2.1 a.2.2.1 a.2.2.2.1 a.2.2.2.2.1).bind fun a0 => (some a0))).bind fun a1 => (if a1 = true then ((cS.f k v.1 v.2.1 v.2.2.1 v.2.2.2.1 v.2.2.2.2.1 v.2.2.2.2.2 ((x1.getD d.toNat ((0 : Int), (0 : Int), false, (0 : Int), (0 : Int), (0 : Int), (0 : Int), (0 : Int), ([] : List (aV)))).2.2.1) ((x1.getD d.toNat ((0 : Int), (0 : Int), false, (0 : Int), (0 : Int), (0 : Int), (0 : Int), (0 : Int), ([] : List (aV)))).2.2.2.1) ((x1.getD d.toNat ((0 : Int), (0 : Int), false, (0 : Int), (0 : Int), (0 : Int), (0 : Int), (0 : Int), ([] : List (aV)))).2.2.2.2.1) ((x1.getD d.toNat ((0 : Int), (0 : Int), false, (0 : Int), (0 : Int), (0 : Int), (0 : Int), (0 : Int), ([] : List (aV)))).2.2.2.2.2.1) ((x1.getD d.toNat ((0 : Int), (0 : Int), false, (0 : Int), (0 : Int), (0 : Int), (0 : Int), (0 : Int), ([] : List (aV)))).2.2.2.2.2.2.1) ((x1.getD d.toNat ((0 : Int), (0 : Int), false, (0 : Int), (0 : Int), (0 : Int), (0 : Int), (0 : Int), ([] : List (aV)))).2.2.2.2.2.2.2.1) ((x1.getD d.toNat ((0 : Int), (0 : Int), false, (0 : Int), (0 : Int), (0 : Int), (0 : Int), (0 : Int), ([] : List (aV)))).2.2.2.2.2.2.2.2)).bind fun ad => (if (g.length + ad.length) * 96 ≤ 140737488355328 then (bn.l0 x1 x2 x3 k (g ++ ad) ab i (IntKind.i64.wrap (d + 1)) a.2.2.2.2.2.1 a.2.2.2.2.2.2.1 a.2.2.2.2.2.2.2.1 a.2.2.2.2.2.2.2.2.1 a.2.2.2.2.2.2.2.2.2.1 a.2.2.2.2.2.2.2.2.2.2.1 a.2.2.2.2.2.2.2.2.2.2.2.1 a.2.2.2.2.2.2.2.2.2.2.2.2.1 a.2.2.2.2.2.2.2.2.2.2.2.2.2.1 a.2.2.2.2.2.2.2.2.2.2.2.2.2.2 a.2.1 a.2.2.1 a.2.2.2.1 a.2.2.2.2.1) else none)) else (bn.l0 x1 x2 x3 k g ab i (IntKind.i64.wrap (d + 1)) a.2.2.2.2.2.1 a.2.2.2.2.2.2.1 a.2.2.2.2.2.2.2.1 a.2.2.2.2.2.2.2.2.1 a.2.2.2.2.2.2.2.2.2.1 a.2.2.2.2.2.2.2.2.2.2.1 a.2.2.2.2.2.2.2.2.2.2.2.1 a.2.2.2.2.2.2.2.2.2.2.2.2.1 a.2.2.2.2.2.2.2.2.2.2.2.2.2.1 a.2.2.2.2.2.2.2.2.2.2.2.2.2.2 a.2.1 a.2.2.1 a.2.2.2.1 a.2.2.2.2.1)))))))) else (if (x1.getD d.toNat ((0 : Int), (0 : Int), false, (0 : Int), (0 : Int), (0 : Int), (0 : Int), (0 : Int), ([] : List (aV)))).1 = (1 : Int) then ((gS.f k h e.1 e.2.1 e.2.2 n j o p q r s t l u).bind fun c => ((cu.f c.1).bind fun a2 => (if a2 = (0 : Int) then (bn.l0 x1 x2 x3 k g (g.length : Int) i (IntKind.i64.wrap (d + 1)) c.2.2.2.2.2.1 j c.2.2.2.2.2.2.1 c.2.2.2.2.2.2.2.1 c.2.2.2.2.2.2.2.2.1 c.2.2.2.2.2.2.2.2.2.1 c.2.2.2.2.2.2.2.2.2.2.1 c.2.2.2.2.2.2.2.2.2.2.2.1 l c.2.2.2.2.2.2.2.2.2.2.2.2 c.2.1 c.2.2.1 c.2.2.2.1 c.2.2.2.2.1) else (bn.l0 x1 x2 x3 k g m i (IntKind.i64.wrap (d + 1)) c.2.2.2.2.2.1 j c.2.2.2.2.2.2.1 c.2.2.2.2.2.2.2.1 c.2.2.2.2.2.2.2.2.1 c.2.2.2.2.2.2.2.2.2.1 c.2.2.2.2.2.2.2.2.2.2.1 c.2.2.2.2.2.2.2.2.2.2.2.1 l c.2.2.2.2.2.2.2.2.2.2.2.2 c.2.1 c.2.2.1 c.2.2.2.1 c.2.2.2.2.1)))) else (if (x1.getD d.toNat ((0 : Int), (0 : Int), false, (0 : Int), (0 : Int), (0 : Int), (0 : Int), (0 : Int), ([] : List (aV)))).1 = (2 : Int) then ((gD.f k h e.1 e.2.1 e.2.2 n j o p q r s t l u ((x1.getD d.toNat ((0 : Int), (0 : Int), false, (0 : Int), (0 : Int), (0 : Int), (0 : Int), (0 : Int), ([] : List (aV)))).2.1)).bind fun b => (((cu.f b.2.1).bind fun a3 => (if a3 = (0 : Int) then (some (g.length : Int)) else (some m))).bind fun af => ((cu.f b.2.1).bind fun a4 => ((if a4 = (0 : Int) then (some true) else ((eY.f b.2.2.1 b.2.2.2.1 b.2.2.2.2.1 b.2.2.2.2.2.1).bind fun a5 => (some a5))).bind fun a6 => (if a6 = true then (bn.l0 x1 x2 x3 k g af (max i ((x1.getD d.toNat ((0 : Int), (0 : Int), false, (0 : Int), (0 : Int), (0 : Int), (0 : Int), (0 : Int), ([] : List (aV)))).2.1)) (IntKind.i64.wrap (d + 1)) b.2.2.2.2.2.2.1 b.2.2.2.2.2.2.2.1 b.2.2.2.2.2.2.2.2.1 b.2.2.2.2.2.2.2.2.2.1 b.2.2.2.2.2.2.2.2.2.2.1 b.2.2.2.2.2.2.2.2.2.2.2.1 b.2.2.2.2.2.2.2.2.2.2.2.2.1 b.2.2.2.2.2.2.2.2.2.2.2.2.2.1 b.2.2.2.2.2.2.2.2.2.2.2.2.2.2.1 b.2.2.2.2.2.2.2.2.2.2.2.2.2.2.2 b.2.2.1 b.2.2.2.1 b.2.2.2.2.1 b.2.2.2.2.2.1) else (bn.l0 x1 x2 x3 k g af i (IntKind.i64.wrap (d + 1)) b.2.2.2.2.2.2.1 b.2.2.2.2.2.2.2.1 b.2.2.2.2.2.2.2.2.1 b.2.2.2.2.2.2.2.2.2.1 b.2.2.2.2.2.2.2.2.2.2.1 b.2.2.2.2.2.2.2.2.2.2.2.1 b.2.2.2.2.2.2.2.2.2.2.2.2.1 b.2.2.2.2.2.2.2.2.2.2.2.2.2.1 b.2.2.2.2.2.2.2.2.2.2.2.2.2.2.1 b.2.2.2.2.2.2.2.2.2.2.2.2.2.2.2 b.2.2.1 b.2.2.2.1 b.2.2.2.2.1 b.2.2.2.2.2.1)))))) else (bn.l0 x1 x2 x3 k g m i (IntKind.i64.wrap (d + 1)) n j o p q r s t l u h e.1 e.2.1 e.2.2)))) else none)))) else (some (g, m, i, h, w, x, y))
def bn.f (k : Nat) (x0 : Int) (x1 : List (Int × Int × Bool × Int × Int × Int × Int × Int × (List (aV)))) (x2 x3 x4 : Int) : Option (Bool) := (iC.f k).bind fun i => ((ca.f k x1).bind fun l => (if ((((!i) || (!l)) || (decide (x0 < (64 : Int)))) || (decide ((1048576 : Int) < x0))) = true then (some i) else ((kY.f).bind fun e => ((bS.f k e.1 e.2.1 e.2.2.1 e.2.2.2 x0).bind fun b => (if b.1 = true then ((cu.f b.2.2.2.2.2.2.2.2.2.2.2.2.1).bind fun j => (if j = (0 : Int) then ((bn.l0 x1 x2 x3 k ([] : List (dE)) 0 0 0 b.2.1 b.2.2.1 b.2.2.2.1 b.2.2.2.2.1 b.2.2.2.2.2.1 b.2.2.2.2.2.2.1 b.2.2.2.2.2.2.2.1 b.2.2.2.2.2.2.2.2.1 b.2.2.2.2.2.2.2.2.2.1 b.2.2.2.2.2.2.2.2.2.2.1 b.2.2.2.2.2.2.2.2.2.2.2.2.2.1 b.2.2.2.2.2.2.2.2.2.2.2.2.2.2.1 b.2.2.2.2.2.2.2.2.2.2.2.2.2.2.2.1 b.2.2.2.2.2.2.2.2.2.2.2.2.2.2.2.2).bind fun d => ((iy.f d.2.2.2.1 d.2.2.2.2.1 d.2.2.2.2.2.1 d.2.2.2.2.2.2 x4).bind fun c => ((bS.f k c.1 c.2.1 c.2.2.1 c.2.2.2 x0).bind fun a => (if a.1 = true then ((cu.f a.2.2.2.2.2.2.2.2.2.2.2.2.1).bind fun g => (if g = (0 : Int) then ((gI.f k a.2.2.2.2.2.2.2.2.2.2.2.2.2.1 a.2.2.2.2.2.2.2.2.2.2.2.2.2.2.1 a.2.2.2.2.2.2.2.2.2.2.2.2.2.2.2.1 a.2.2.2.2.2.2.2.2.2.2.2.2.2.2.2.2 a.2.1 a.2.2.1 a.2.2.2.1 a.2.2.2.2.1 a.2.2.2.2.2.1 a.2.2.2.2.2.2.1 a.2.2.2.2.2.2.2.1 a.2.2.2.2.2.2.2.2.1 a.2.2.2.2.2.2.2.2.2.1 a.2.2.2.2.2.2.2.2.2.2.1).bind fun h => (orR (bn.l1 d h k 0 0 0 0 0 ([] : List Int) ([] : List (List UInt8))) fun m => (some false))) else (some false))) else (some false))))) else (some false))) else (some false))))))
theorem bn.calls (W : World) (F : HA) (k : Nat) (x0 : Int) (a1 : Option Addr) (c1 : Nat) (x1 : List (Int × Int × Bool × Int × Int × Int × Int × Int × (List aV))) (x2 x3 x4 : Int) (h1 : RdV F 9 (V56 F) a1 x1) (h2 : x1.length ≤ c1) (h3 : c1 ≤ maxLen) (hgl : Glb Tryz.prog F) :
    Fn Tryz.prog W 8 [Iv x0, .slice a1 x1.length c1, Iv x2, Iv x3, Iv x4] [] F (bn.f k x0 x1 x2 x3 x4) (fun r (y : Unit) => .bool r) (fun r y => []) := by
 unfold bn.f
 refine aX 205 Tryz.func8 O Tryz.ntmps8 O (sr (oA O (nx (aj (fun b3 hX => (oE (oC (vs := []) (cap := []) (A := []) O call9 (.a .n) (iC.calls _ _ k (hgl.lend 0 O)) hX) O ?_))))))
 intro p8
 refine oA O (nx (oM O (aj (fun b4 hY => (oE (oC (vs := [.slice a1 x1.length c1]) (cap := []) (A := []) O call20 (.a .n) (ca.calls _ _ k a1 c1 x1 (h1.up (Up.lend 0 O) (V56.up (Up.lend 0 O))) h2 h3) hY) O ?_)))))
 intro p9
 refine oA O (oT (ap (sr (oM O (vq (iB O O) O (oM O (ao (b := !b3) (fun h4 => RQ.sub (E' := [(12, .bool b4)]) ⟨O, trivial⟩ (am O O)) O O O O O (ao (b := !b3) (fun d4 => RQ.sub (E' := [(41, .bool b4)]) ⟨aN O d4, trivial⟩ (iB O O)) O O O O O (vq (ik O O O) O (oM O (ao (b := (!b3) || (!b4)) (fun h5 => RQ.sub (E' := [(0, Iv x0)]) ⟨O, trivial⟩ (am O O)) O O O O O (ao (b := (!b3) || (!b4)) (fun d5 => RQ.sub (E' := [(45, Iv x0)]) ⟨aN O d5, trivial⟩ (dG O O O)) O O O O O (vq (ik O O O) O (oM O (ao (b := ((!b3) || (!b4)) || (decide (x0 < (64 : Int)))) (fun h6 => RQ.sub (E' := [(0, Iv x0)]) ⟨O, trivial⟩ (am O O)) O O O O O (ao (b := ((!b3) || (!b4)) || (decide (x0 < (64 : Int)))) (fun d6 => RQ.sub (E' := [(49, Iv x0)]) ⟨aN O d6, trivial⟩ (dO O O O)) O O O O O (vq (ik O O O) O (oT ?_))))))))))))))))))
 refine bm O (fun q0 => ?_) (fun q1 => ?_)
 refine sr (oM O (oA O (oT (ay (aY ?_)))))
 exact aJ () O O O (.a .n)
 refine aA (ai (sr (aj (fun bc hs => (oE (oC (vs := []) (cap := []) (A := []) O call16 (.a .n) (kY.calls _ _ ) hs) O ?_)))))
 intro q
 refine oA O (nx (oM O (oM O (aj (fun a3 c7 => ?_)))))
 refine mD (fun b5 => ?_) (fun b5 => ?_)
 refine oE (oC (vs := [Pt q.1, Iv x0]) (cap := []) (A := [W1 q.1 q.2.1 bc.2, ax (au q.2.1 aB ar q.2.2) ak q.2.2 bc.1]) O call15 (.a (.a (.a .n))) (bS.callsT _ _ k q.1 q.2.1 q.2.2 bc.1 bc.2.1 bc.2.2.1 bc.2.2.2 x0 (hgl.lend 0 O)) (nM c7 b5)) O ?_
 intro ab
 refine oM O (vq (bY O O O) O (vq (bY O O O) O (vq (bY O O O) O (oA O (oA O (oA O (oT (ap (sr (oM O (vq (pC O O O jq) O (oM O (aK (am O O) O O O O O O (aj (fun o4 ht => (gj (oC (vs := [Iv a3.2.2.2.2.2.2.2.2.2.2.2.2.1]) (cap := []) (A := []) O jk (.a (.a (.a (.a (.a (.a (.a .n))))))) (cu.calls _ _ a3.2.2.2.2.2.2.2.2.2.2.2.2.1 ) ht) O O O O O O ?_))))))))))))))))
 intro o5
 refine aK (ej O O O) O O O O O O (vq (bZ O O O O O) O (oT ?_))
 refine eN O (fun o6 => ?_) (fun o7 => ?_)
 refine aA (ai (sr (oA O (nx (oA O (nx (oA O (oT ?_))))))))
 refine bP (S := (List dE) × Int × Int × (List (Lb × (Lb × Int))) × Lb × Int × Bool) (Option Addr × Nat × Nat × Kps) (fun s y => [(0, Iv x0), (4, Iv x4), (13, Pt q.1), (17, .slice y.1 s.1.length y.2.1), (18, Iv s.2.1), (19, Iv s.2.2.1)]) (fun s y => [W1 q.1 y.2.2.1 s.2.2.2.2, ah 84 10 (V84 F) y.1 s.1 y.2.1, ax (au y.2.2.1 aB ar y.2.2.2) ak y.2.2.2 s.2.2.2.1, F]) ?_ ?_
 refine sr (oA O (oT (aZ ?_)))
 refine da (S := (List dE) × Int × Int × Int × Int × List Int × Int × Int × Int × Int × Int × Int × (List aP) × Bool × (List (Lb × (Lb × Int))) × Lb × Int × Bool) (Option Addr × Nat × Option Addr × Nat × HA × Option Addr × Nat × Nat × Kps) (fun k s => bn.l0 x1 x2 x3 k s.1 s.2.1 s.2.2.1 s.2.2.2.1 s.2.2.2.2.1 s.2.2.2.2.2.1 s.2.2.2.2.2.2.1 s.2.2.2.2.2.2.2.1 s.2.2.2.2.2.2.2.2.1 s.2.2.2.2.2.2.2.2.2.1 s.2.2.2.2.2.2.2.2.2.2.1 s.2.2.2.2.2.2.2.2.2.2.2.1 s.2.2.2.2.2.2.2.2.2.2.2.2.1 s.2.2.2.2.2.2.2.2.2.2.2.2.2.1 s.2.2.2.2.2.2.2.2.2.2.2.2.2.2.1 s.2.2.2.2.2.2.2.2.2.2.2.2.2.2.2.1 s.2.2.2.2.2.2.2.2.2.2.2.2.2.2.2.2.1 s.2.2.2.2.2.2.2.2.2.2.2.2.2.2.2.2.2) (fun s y => [(0, Iv x0), (1, .slice a1 x1.length c1), (2, Iv x2), (3, Iv x3), (4, Iv x4), (13, Pt q.1), (14, Pt ab.1), (17, .slice y.1 s.1.length y.2.1), (18, Iv s.2.1), (19, Iv s.2.2.1), (20, Iv s.2.2.2.1)]) (fun s y => [W14 ab.1 q.1 s.2.2.2.2 y.2.2.1 y.2.2.2.1 y.2.2.2.2.2.1 y.2.2.2.2.2.2.1, W1 q.1 y.2.2.2.2.2.2.2.1 s.2.2.2.2.2.2.2.2.2.2.2.2.2.2.2, ah 84 10 (V84 F) y.1 s.1 y.2.1, ah 3 1 (V3 tt) y.2.2.1 s.2.2.2.2.2.1 y.2.2.2.1, ah 144 5 (ba y.2.2.2.2.1) y.2.2.2.2.2.1 s.2.2.2.2.2.2.2.2.2.2.2.2.1 y.2.2.2.2.2.2.1, ax (au y.2.2.2.2.2.2.2.1 aB ar y.2.2.2.2.2.2.2.2) ak y.2.2.2.2.2.2.2.2 s.2.2.2.2.2.2.2.2.2.2.2.2.2.2.1, y.2.2.2.2.1, F]) (fun _ => by rw [bn.l0]) ?_ k (([] : List dE), 0, 0, 0, a3.2.1, a3.2.2.1, a3.2.2.2.1, a3.2.2.2.2.1, a3.2.2.2.2.2.1, a3.2.2.2.2.2.2.1, a3.2.2.2.2.2.2.2.1, a3.2.2.2.2.2.2.2.2.1, a3.2.2.2.2.2.2.2.2.2.1, a3.2.2.2.2.2.2.2.2.2.2.1, a3.2.2.2.2.2.2.2.2.2.2.2.2.2) (none, 0, ab.2.1, ab.2.2.1, ab.2.2.2.2.2.1, ab.2.2.2.1, ab.2.2.2.2.1, ab.2.2.2.2.2.2) ⟨O, O, O, O, O, O, O, O, O, O, O, trivial⟩ (.a (.d (.rowV_nil (.a (.a (.b (.a (.a .n))))))))
 intro k l m
 refine dW (by rw [bn.l0]) (ap (sr (oM O (oM O (vq (bL O O O iE) O (vq (dG O O O) O (oT ?_)))))))
 refine bu O (fun o8 => ?_) (fun o9 => ?_)
 refine aA (ai (ap (aZ ?_)))
 refine bP (S := Lb × Int × Bool) Unit (fun s y => [(0, Iv x0), (1, .slice a1 x1.length c1), (2, Iv x2), (3, Iv x3), (4, Iv x4), (13, Pt q.1), (14, Pt ab.1), (17, .slice m.1 l.1.length m.2.1), (18, Iv l.2.1), (19, Iv l.2.2.1), (20, Iv l.2.2.2.1)]) (fun s y => [W1 q.1 m.2.2.2.2.2.2.2.1 s, W14 ab.1 q.1 l.2.2.2.2 m.2.2.1 m.2.2.2.1 m.2.2.2.2.2.1 m.2.2.2.2.2.2.1, ah 84 10 (V84 F) m.1 l.1 m.2.1, ax (au m.2.2.2.2.2.2.2.1 aB ar m.2.2.2.2.2.2.2.2) ak m.2.2.2.2.2.2.2.2 l.2.2.2.2.2.2.2.2.2.2.2.2.2.2.1, ah 3 1 (V3 tt) m.2.2.1 l.2.2.2.2.2.1 m.2.2.2.1, ah 144 5 (ba m.2.2.2.2.1) m.2.2.2.2.2.1 l.2.2.2.2.2.2.2.2.2.2.2.2.1 m.2.2.2.2.2.2.1, m.2.2.2.2.1, F]) ?_ ?_
 refine sr (oM O (oM O (vq (cr O O O) O (oT ?_))))
 refine bu O (fun pa => ?_) (fun pj => ?_)
 refine aG (oM O (oM O (aj (fun c6 hu => (oE (oC (vs := [Pt q.1, Iv x2]) (cap := []) (A := [W1 q.1 m.q4.2.2.2.1 l.q8.q4.2.2.2, ax (au m.q4.2.2.2.1 aB ar m.q8) ak m.q8 l.q8.q4.2.2.1]) O call33 (.b (.e (.a (.a (.a (.a (.a (.a .n)))))))) (jV.calls _ _ q.1 m.2.2.2.2.2.2.2.1 m.2.2.2.2.2.2.2.2 l.2.2.2.2.2.2.2.2.2.2.2.2.2.2.1 l.2.2.2.2.2.2.2.2.2.2.2.2.2.2.2.1 l.2.2.2.2.2.2.2.2.2.2.2.2.2.2.2.2.1 l.2.2.2.2.2.2.2.2.2.2.2.2.2.2.2.2.2 x2 ) hu) O ?_)))))
 intro pl
 refine aw ?_
 exact aF (s := c6) () ⟨O, O, O, O, O, O, O, O, O, O, O, trivial⟩ (.a (.b (.b (.a (.a (.a (.a (.a .n))))))))
 refine aA ?_
 exact aF (s := l.2.2.2.2.2.2.2.2.2.2.2.2.2.2.2) () ⟨O, O, O, O, O, O, O, O, O, O, O, trivial⟩ (.b (.a (.a (.c (.a (.a (.a (.a .n))))))))
 intro x ps
 refine ap (sr (oM O (aj (fun py hv => (oE (oC (vs := [Pt q.1]) (cap := []) (A := [W1 q.1 m.q4.2.2.2.1 x, ax (au m.q4.2.2.2.1 aB ar m.q8) ak m.q8 l.q8.q4.2.2.1]) O call34 (.a (.c (.a (.a (.a (.a (.a (.a .n)))))))) (eY.calls _ _ q.1 m.2.2.2.2.2.2.2.1 m.2.2.2.2.2.2.2.2 l.2.2.2.2.2.2.2.2.2.2.2.2.2.2.1 x.1 x.2.1 x.2.2 ) hv) O ?_)))))
 intro p0
 refine oT ?_
 refine bm O (fun p1 => ?_) (fun p2 => ?_)
 refine dt (cK (zm O (cK (cU (cN ?_)))))
 exact aF (s := (l.1, l.2.1, l.2.2.1, l.2.2.2.2.2.2.2.2.2.2.2.2.2.2.1, x)) (m.1, m.2.1, m.2.2.2.2.2.2.2) ⟨O, O, O, O, O, O, trivial⟩ (.a (.c (.a (.e .n))))
 refine aA (ai (sr (oM O (oM O (bo (fun c8 => ?_))))))
 obtain ⟨p3, k8, p4, hw, hx, h7, hcell64v⟩ := RdV.pos h1 (Up.refl _) rfl (i := l.2.2.2.1.toNat) (by omega) ((0 : Int), (0 : Int), false, (0 : Int), (0 : Int), (0 : Int), (0 : Int), (0 : Int), ([] : List aV))
 obtain ⟨a6, a7, rfl, ⟨c9, ds, dz⟩⟩ := hx
 refine vq (dM O O O hw iE sizeOf56 c8.1 c8.2) O (vq (cw O O isAgg56 sizeOf56 O (fun j v hj => hcell64v 7 O j v hj)) O (oE (bX O zeroValue56 O) O ?_))
 intro a9
 refine bg (aI 0 O O O sizeOf56 O O (aM (by rfl)) O O) O O ?_
 intro _
 refine cl (H' := [W21 a9 (x1.getD l.2.2.2.1.toNat ((0 : Int), (0 : Int), false, (0 : Int), (0 : Int), (0 : Int), (0 : Int), (0 : Int), ([] : List aV))) a6 a7, W1 q.1 m.2.2.2.2.2.2.2.1 x, ax (au m.2.2.2.2.2.2.2.1 aB ar m.2.2.2.2.2.2.2.2) ak m.2.2.2.2.2.2.2.2 l.2.2.2.2.2.2.2.2.2.2.2.2.2.2.1, W14 ab.1 q.1 l.2.2.2.2 m.2.2.1 m.2.2.2.1 m.2.2.2.2.2.1 m.2.2.2.2.2.2.1, ah 84 10 (V84 F) m.1 l.1 m.2.1, ah 3 1 (V3 tt) m.2.2.1 l.2.2.2.2.2.1 m.2.2.2.1, ah 144 5 (ba m.2.2.2.2.1) m.2.2.2.2.2.1 l.2.2.2.2.2.2.2.2.2.2.2.2.1 m.2.2.2.2.2.2.1, m.2.2.2.2.1, F]) (Ent.refl _) (nx (vq (oF O gW O aa O) O (vq (oL O ae 0 O) O (oT (aZ (sr (vq (cr O O O) O (oA O (oT ?_)))))))))
 refine bu O (fun p5 => ?_) (fun p6 => ?_)
 refine sr (oM O (bk 5 O (fun hy b6 => (bk 6 O (fun hz b7 => (aj (fun ad hA => (bw 5 O (fun hB hC hE k9 => (bw 6 O (fun hF hG hH la => (oE (oC (vs := [Pt ab.1]) (cap := []) (A := [W1 q.1 m.q4.2.2.2.1 x, ax (au m.q4.2.2.2.1 aB ar m.q8) ak m.q8 l.q8.q4.2.2.1, W14 ab.1 q.1 l.q4 m.2.2.1 m.2.2.2.1 m.q4.2.1 m.q4.2.2.1]) O call18 (.b (.b (.b (.a (.a (.a (.a (.a (.a .n))))))))) (gI.calls _ _ k ab.1 q.1 m.2.2.2.2.2.2.2.1 m.2.2.2.2.2.2.2.2 l.2.2.2.2.2.2.2.2.2.2.2.2.2.2.1 x.1 x.2.1 x.2.2 l.2.2.2.2.1 m.2.2.1 m.2.2.2.1 l.2.2.2.2.2.1 l.2.2.2.2.2.2.1 l.2.2.2.2.2.2.2.1 l.2.2.2.2.2.2.2.2.1 l.2.2.2.2.2.2.2.2.2.1 l.2.2.2.2.2.2.2.2.2.2.1 l.2.2.2.2.2.2.2.2.2.2.2.1 m.2.2.2.2.2.1 m.2.2.2.2.2.2.1 l.2.2.2.2.2.2.2.2.2.2.2.2.1 l.2.2.2.2.2.2.2.2.2.2.2.2.2.1 ((Rd.asV b6 hB).up (Up.lend 2 O) (fun _ _ h => h)) hC hE ((Rd.asV b7 hF).up (Up.lend 3 O) (ba.up (Up.lend 4 O))) hG hH) hA) O ?_))))))))))))
 intro an
 refine oE (bX O iW O) O ?_
 intro be
 refine bg (aI 0 O O O fy O O (aM (by rfl)) O O) O O ?_
 intro _
 refine cl (H' := [W10 be ad an.1 an.2.1, ah 35 4 (V35 an.2.2) an.1 ad.2.2.2.2.2 an.2.1, an.2.2, W1 q.1 m.2.2.2.2.2.2.2.1 x, ax (au m.2.2.2.2.2.2.2.1 aB ar m.2.2.2.2.2.2.2.2) ak m.2.2.2.2.2.2.2.2 l.2.2.2.2.2.2.2.2.2.2.2.2.2.2.1, W14 ab.1 q.1 l.2.2.2.2 m.2.2.1 m.2.2.2.1 m.2.2.2.2.2.1 m.2.2.2.2.2.2.1, W21 a9 (x1.getD l.2.2.2.1.toNat ((0 : Int), (0 : Int), false, (0 : Int), (0 : Int), (0 : Int), (0 : Int), (0 : Int), ([] : List aV))) a6 a7, ah 84 10 (V84 F) m.1 l.1 m.2.1, Row 3 1 m.2.2.1 l.2.2.2.2.2.1.length m.2.2.2.1 hy.flatten, Row 144 5 m.2.2.2.2.2.1 l.2.2.2.2.2.2.2.2.2.2.2.2.1.length m.2.2.2.2.2.2.1 hz.flatten, m.2.2.2.2.1, F]) (Ent.refl _) (nx (oM O (aj (fun hZ hI => (bw 8 O (fun hK hL hM lb => (bw 9 O (fun hO hP hR ld => (oE (oC (vs := [Pt ab.1]) (cap := []) (A := [W1 q.1 m.q4.2.2.2.1 x, ax (au m.q4.2.2.2.1 aB ar m.q8) ak m.q8 l.q8.q4.2.2.1, W14 ab.1 q.1 l.q4 m.2.2.1 m.2.2.2.1 m.q4.2.1 m.q4.2.2.1]) O call25 (.d (.d (.d (.a (.a (.a (.a (.a (.a (.a (.a (.a .n)))))))))))) (cj.calls _ _ k ab.1 q.1 m.2.2.2.2.2.2.2.1 m.2.2.2.2.2.2.2.2 l.2.2.2.2.2.2.2.2.2.2.2.2.2.2.1 x.1 x.2.1 x.2.2 l.2.2.2.2.1 m.2.2.1 m.2.2.2.1 l.2.2.2.2.2.1 l.2.2.2.2.2.2.1 l.2.2.2.2.2.2.2.1 l.2.2.2.2.2.2.2.2.1 l.2.2.2.2.2.2.2.2.2.1 l.2.2.2.2.2.2.2.2.2.2.1 l.2.2.2.2.2.2.2.2.2.2.2.1 m.2.2.2.2.2.1 m.2.2.2.2.2.2.1 l.2.2.2.2.2.2.2.2.2.2.2.2.1 l.2.2.2.2.2.2.2.2.2.2.2.2.2.1 ((Rd.asV b6 hK).up (Up.lend 5 O) (fun _ _ h => h)) hL hM ((Rd.asV b7 hO).up (Up.lend 6 O) (ba.up (Up.lend 7 O))) hP hR (hgl.lend 8 O)) hI) O ?_)))))))))
 intro p7
 refine vq (bL O O O fT) O (oA O (nx (oM O (vq (oF O gW O ia O) O (vq (cw (vs := [.bool ((x1.getD l.2.2.2.1.toNat ((0 : Int), (0 : Int), false, (0 : Int), (0 : Int), (0 : Int), (0 : Int), (0 : Int), ([] : List aV))).2.2.1), Iv ((x1.getD l.2.2.2.1.toNat ((0 : Int), (0 : Int), false, (0 : Int), (0 : Int), (0 : Int), (0 : Int), (0 : Int), ([] : List aV))).2.2.2.1), Iv ((x1.getD l.2.2.2.1.toNat ((0 : Int), (0 : Int), false, (0 : Int), (0 : Int), (0 : Int), (0 : Int), (0 : Int), ([] : List aV))).2.2.2.2.1), Iv ((x1.getD l.2.2.2.1.toNat ((0 : Int), (0 : Int), false, (0 : Int), (0 : Int), (0 : Int), (0 : Int), (0 : Int), ([] : List aV))).2.2.2.2.2.1), Iv ((x1.getD l.2.2.2.1.toNat ((0 : Int), (0 : Int), false, (0 : Int), (0 : Int), (0 : Int), (0 : Int), (0 : Int), ([] : List aV))).2.2.2.2.2.2.1), Iv ((x1.getD l.2.2.2.1.toNat ((0 : Int), (0 : Int), false, (0 : Int), (0 : Int), (0 : Int), (0 : Int), (0 : Int), ([] : List aV))).2.2.2.2.2.2.2.1), .slice a6 (((x1.getD l.2.2.2.1.toNat ((0 : Int), (0 : Int), false, (0 : Int), (0 : Int), (0 : Int), (0 : Int), (0 : Int), ([] : List aV))).2.2.2.2.2.2.2.2).length) a7]) O O isAgg45 ia O (dc 7 O (cL O))) O (aj (fun n d7 => (oE (kQ (vs := [Pt ab.1, .agg #[.bool ((x1.getD l.2.2.2.1.toNat ((0 : Int), (0 : Int), false, (0 : Int), (0 : Int), (0 : Int), (0 : Int), (0 : Int), ([] : List aV))).2.2.1), Iv ((x1.getD l.2.2.2.1.toNat ((0 : Int), (0 : Int), false, (0 : Int), (0 : Int), (0 : Int), (0 : Int), (0 : Int), ([] : List aV))).2.2.2.1), Iv ((x1.getD l.2.2.2.1.toNat ((0 : Int), (0 : Int), false, (0 : Int), (0 : Int), (0 : Int), (0 : Int), (0 : Int), ([] : List aV))).2.2.2.2.1), Iv ((x1.getD l.2.2.2.1.toNat ((0 : Int), (0 : Int), false, (0 : Int), (0 : Int), (0 : Int), (0 : Int), (0 : Int), ([] : List aV))).2.2.2.2.2.1), Iv ((x1.getD l.2.2.2.1.toNat ((0 : Int), (0 : Int), false, (0 : Int), (0 : Int), (0 : Int), (0 : Int), (0 : Int), ([] : List aV))).2.2.2.2.2.2.1), Iv ((x1.getD l.2.2.2.1.toNat ((0 : Int), (0 : Int), false, (0 : Int), (0 : Int), (0 : Int), (0 : Int), (0 : Int), ([] : List aV))).2.2.2.2.2.2.2.1), .slice a6 (((x1.getD l.2.2.2.1.toNat ((0 : Int), (0 : Int), false, (0 : Int), (0 : Int), (0 : Int), (0 : Int), (0 : Int), ([] : List aV))).2.2.2.2.2.2.2.2).length) a7]]) (cap := []) (A := [W1 q.1 m.q4.2.2.2.1 x, ax (au m.q4.2.2.2.1 aB ar m.q8) ak m.q8 l.q8.q4.2.2.1, W14 ab.1 q.1 l.q4 m.2.2.1 m.2.2.2.1 m.q4.2.1 m.q4.2.2.1, ah 3 1 (V3 tt) m.2.2.1 l.q4.2.1 m.2.2.2.1, ah 144 5 (ba m.q4.1) m.q4.2.1 l.q8.q4.1 m.q4.2.2.1, m.q4.1]) O O O O O O call17 (.b (.b (.b (.sel' 6 O (ah.mk b6) (.sel' 6 O (ah.mk b7) (.g (.a (.a (.a (.a (.a (.a (.a .n))))))))))))) (gl.calls _ _ k ab.1 q.1 m.2.2.2.2.2.2.2.1 m.2.2.2.2.2.2.2.2 l.2.2.2.2.2.2.2.2.2.2.2.2.2.2.1 x.1 x.2.1 x.2.2 l.2.2.2.2.1 m.2.2.1 m.2.2.2.1 l.2.2.2.2.2.1 l.2.2.2.2.2.2.1 l.2.2.2.2.2.2.2.1 l.2.2.2.2.2.2.2.2.1 l.2.2.2.2.2.2.2.2.2.1 l.2.2.2.2.2.2.2.2.2.2.1 l.2.2.2.2.2.2.2.2.2.2.2.1 m.2.2.2.2.2.1 m.2.2.2.2.2.2.1 l.2.2.2.2.2.2.2.2.2.2.2.2.1 m.2.2.2.2.1 l.2.2.2.2.2.2.2.2.2.2.2.2.2.1 ((x1.getD l.2.2.2.1.toNat ((0 : Int), (0 : Int), false, (0 : Int), (0 : Int), (0 : Int), (0 : Int), (0 : Int), ([] : List aV))).2.2.1) ((x1.getD l.2.2.2.1.toNat ((0 : Int), (0 : Int), false, (0 : Int), (0 : Int), (0 : Int), (0 : Int), (0 : Int), ([] : List aV))).2.2.2.1) ((x1.getD l.2.2.2.1.toNat ((0 : Int), (0 : Int), false, (0 : Int), (0 : Int), (0 : Int), (0 : Int), (0 : Int), ([] : List aV))).2.2.2.2.1) ((x1.getD l.2.2.2.1.toNat ((0 : Int), (0 : Int), false, (0 : Int), (0 : Int), (0 : Int), (0 : Int), (0 : Int), ([] : List aV))).2.2.2.2.2.1) ((x1.getD l.2.2.2.1.toNat ((0 : Int), (0 : Int), false, (0 : Int), (0 : Int), (0 : Int), (0 : Int), (0 : Int), ([] : List aV))).2.2.2.2.2.2.1) ((x1.getD l.2.2.2.1.toNat ((0 : Int), (0 : Int), false, (0 : Int), (0 : Int), (0 : Int), (0 : Int), (0 : Int), ([] : List aV))).2.2.2.2.2.2.2.1) a6 a7 ((x1.getD l.2.2.2.1.toNat ((0 : Int), (0 : Int), false, (0 : Int), (0 : Int), (0 : Int), (0 : Int), (0 : Int), ([] : List aV))).2.2.2.2.2.2.2.2) (c9.up (Up.lend 6 O) (V35.up (Up.lend 6 O))) ds dz (hgl.lend 6 O)) d7) O ?_))))))))
 intro o
 refine oA O (oT ?_)
 refine bP (S := Int) Unit (fun s y => [(0, Iv x0), (1, .slice a1 x1.length c1), (2, Iv x2), (3, Iv x3), (4, Iv x4), (13, Pt q.1), (14, Pt ab.1), (17, .slice m.1 l.1.length m.2.1), (18, Iv s), (19, Iv l.2.2.1), (20, Iv l.2.2.2.1), (21, Pt a9), (22, Pt be), (24, Iv n.1)]) (fun s y => [W11 q.1 o.1 n.2.2, W12 ab.1 q.1 n.2.2.2.2.2 o.2.2.1 o.2.2.2.1 o.2.2.2.2.1 o.2.2.2.2.2.1, W10 be ad an.1 an.2.1, W21 a9 (x1.getD l.2.2.2.1.toNat ((0 : Int), (0 : Int), false, (0 : Int), (0 : Int), (0 : Int), (0 : Int), (0 : Int), ([] : List aV))) a6 a7, ah 84 10 (V84 F) m.1 l.1 m.2.1, ax (au o.1 aB ar o.2.1) ak o.2.1 n.2.1, ah 3 1 (V3 tt) o.2.2.1 n.2.2.2.2.2.2.1 o.2.2.2.1, ah 144 5 (ba o.2.2.2.2.2.2) o.2.2.2.2.1 n.2.2.2.2.2.2.2.2.2.2.2.2.2.1 o.2.2.2.2.2.1, ah 35 4 (V35 an.2.2) an.1 ad.2.2.2.2.2 an.2.1, o.2.2.2.2.2.2, an.2.2, F]) ?_ ?_
 refine sr (oM O (aj (fun lg d8 => (oE (oC (vs := [Iv n.1]) (cap := []) (A := []) O jk (.a (.a (.a (.a (.a (.a (.a (.a (.a (.a (.a (.a (.a .n))))))))))))) (cu.calls _ _ n.1 ) d8) O ?_))))
 intro li
 refine vq (cr O O O) O (oM O ?_)
 refine eG 6 (S := Bool) Unit (fun s y => [(0, Iv x0), (1, .slice a1 x1.length c1), (2, Iv x2), (3, Iv x3), (4, Iv x4), (13, Pt q.1), (14, Pt ab.1), (17, .slice m.1 l.1.length m.2.1), (18, Iv l.2.1), (19, Iv l.2.2.1), (20, Iv l.2.2.2.1), (21, Pt a9), (22, Pt be), (24, Iv n.1), (108, .bool s)]) (fun s y => [W11 q.1 o.1 n.2.2, W12 ab.1 q.1 n.2.2.2.2.2 o.2.2.1 o.2.2.2.1 o.2.2.2.2.1 o.2.2.2.2.2.1, W10 be ad an.1 an.2.1, W21 a9 (x1.getD l.2.2.2.1.toNat ((0 : Int), (0 : Int), false, (0 : Int), (0 : Int), (0 : Int), (0 : Int), (0 : Int), ([] : List aV))) a6 a7, ah 84 10 (V84 F) m.1 l.1 m.2.1, ax (au o.1 aB ar o.2.1) ak o.2.1 n.2.1, ah 3 1 (V3 tt) o.2.2.1 n.2.2.2.2.2.2.1 o.2.2.2.1, ah 144 5 (ba o.2.2.2.2.2.2) o.2.2.2.2.1 n.2.2.2.2.2.2.2.2.2.2.2.2.2.1 o.2.2.2.2.2.1, ah 35 4 (V35 an.2.2) an.1 ad.2.2.2.2.2 an.2.1, o.2.2.2.2.2.2, an.2.2, F]) ?_ ?_
 refine iD (fun d9 => ?_) (fun ea => ?_)
 rw [d9]
 refine aK (am O O) O O O O O O (bk 3 O (fun h8 cd => (bk 4 O (fun h9 ch => (aj (fun hS eb => (bw 3 O (fun ec ed ee ih => (bw 4 O (fun ef eg ei it => (gj (oC (vs := [Pt ab.1]) (cap := []) (A := [W11 q.1 o.1 n.2.2, ax (au o.1 aB ar o.2.1) ak o.2.1 n.2.1, W12 ab.1 q.1 n.q4.2 o.2.2.1 o.2.2.2.1 o.q4.1 o.q4.2.1]) O call25 (.a (.a (.a (.a (.a (.a (.a (.a (.a (.a (.a (.a (.a .n))))))))))))) (cj.calls _ _ k ab.1 q.1 o.1 o.2.1 n.2.1 n.2.2.1 n.2.2.2.1 n.2.2.2.2.1 n.2.2.2.2.2.1 o.2.2.1 o.2.2.2.1 n.2.2.2.2.2.2.1 n.2.2.2.2.2.2.2.1 n.2.2.2.2.2.2.2.2.1 n.2.2.2.2.2.2.2.2.2.1 n.2.2.2.2.2.2.2.2.2.2.1 n.2.2.2.2.2.2.2.2.2.2.2.1 n.2.2.2.2.2.2.2.2.2.2.2.2.1 o.2.2.2.2.1 o.2.2.2.2.2.1 n.2.2.2.2.2.2.2.2.2.2.2.2.2.1 n.2.2.2.2.2.2.2.2.2.2.2.2.2.2 ((Rd.asV cd ec).up (Up.lend 0 O) (fun _ _ h => h)) ed ee ((Rd.asV ch ef).up (Up.lend 1 O) (ba.up (Up.lend 2 O))) eg ei (hgl.lend 9 O)) eb) O O O O O O ?_)))))))))))
 intro lj
 refine aK (bL O O O fT) O O O O O O (aK (am O O) O O O O O O (aK (dO O O O) O O O O O O (vq (bZ O O O O O) O (aw ?_))))
 exact aF (s := decide ((hZ.length : Int) < (hS.length : Int))) () ⟨O, O, O, O, O, O, O, O, O, O, O, O, O, O, O, trivial⟩ (.b (.c (.g (.i (.i (.b (.sel' 1 O (ah.mk cd) (.sel' 1 O (ah.mk ch) (.d (.b (.c (.c .n))))))))))))
 rw [ea]
 refine oS O (oS O (oS O (oS O (oS O (vq (bZ O O O O O) O (aw ?_))))))
 exact aF (s := false) () ⟨O, O, O, O, O, O, O, O, O, O, O, O, O, O, O, trivial⟩ (.a (.b (.f (.h (.h (.a (.a (.a (.c (.a (.b (.b .n))))))))))))
 intro ln lo
 refine oT ?_
 refine bm O (fun lp => ?_) (fun lr => ?_)
 refine aG (oM O (vq (bL O O O cC) O (oA O (aw ?_))))
 exact aF (s := (l.1.length : Int)) () ⟨O, O, O, O, O, O, O, O, O, O, O, O, O, O, trivial⟩ (.a (.a (.a (.a (.a (.a (.a (.a (.a (.a (.a (.a .n))))))))))))
 refine aA ?_
 exact aF (s := l.2.1) () ⟨O, O, O, O, O, O, O, O, O, O, O, O, O, O, trivial⟩ (.a (.a (.a (.a (.a (.a (.a (.a (.a (.a (.a (.a .n))))))))))))
 intro b8 l2
 refine sr (oM O (aj (fun l3 ek => (oE (oC (vs := [Iv n.1]) (cap := []) (A := []) O jk (.a (.a (.a (.a (.a (.a (.a (.a (.a (.a (.a (.a .n)))))))))))) (cu.calls _ _ n.1 ) ek) O ?_))))
 intro l4
 refine vq (cr O O O) O (oM O ?_)
 refine eG 3 (S := Bool) Unit (fun s y => [(0, Iv x0), (1, .slice a1 x1.length c1), (2, Iv x2), (3, Iv x3), (4, Iv x4), (13, Pt q.1), (14, Pt ab.1), (17, .slice m.1 l.1.length m.2.1), (18, Iv b8), (19, Iv l.2.2.1), (20, Iv l.2.2.2.1), (21, Pt a9), (22, Pt be), (117, .bool s)]) (fun s y => [W11 q.1 o.1 n.2.2, W12 ab.1 q.1 n.2.2.2.2.2 o.2.2.1 o.2.2.2.1 o.2.2.2.2.1 o.2.2.2.2.2.1, W10 be ad an.1 an.2.1, W21 a9 (x1.getD l.2.2.2.1.toNat ((0 : Int), (0 : Int), false, (0 : Int), (0 : Int), (0 : Int), (0 : Int), (0 : Int), ([] : List aV))) a6 a7, ah 84 10 (V84 F) m.1 l.1 m.2.1, ax (au o.1 aB ar o.2.1) ak o.2.1 n.2.1, ah 3 1 (V3 tt) o.2.2.1 n.2.2.2.2.2.2.1 o.2.2.2.1, ah 144 5 (ba o.2.2.2.2.2.2) o.2.2.2.2.1 n.2.2.2.2.2.2.2.2.2.2.2.2.2.1 o.2.2.2.2.2.1, ah 35 4 (V35 an.2.2) an.1 ad.2.2.2.2.2 an.2.1, o.2.2.2.2.2.2, an.2.2, F]) ?_ ?_
 refine iD (fun el => ?_) (fun em => ?_)
 rw [el]
 refine oS O (oS O (vq (bZ O O O O O) O (aw ?_)))
 exact aF (s := true) () ⟨O, O, O, O, O, O, O, O, O, O, O, O, O, O, trivial⟩ (.a (.a (.a (.a (.a (.a (.a (.a (.a (.a (.a (.a .n))))))))))))
 rw [em]
 refine aK (am O O) O O O O O O (aj (fun hT en => (gj (oC (vs := [Pt q.1]) (cap := []) (A := [W11 q.1 o.1 n.2.2, ax (au o.1 aB ar o.2.1) ak o.2.1 n.2.1]) O call34 (.a (.e (.a (.a (.a (.a (.a (.a (.a (.a (.a (.a .n)))))))))))) (eY.calls _ _ q.1 o.1 o.2.1 n.2.1 n.2.2.1 n.2.2.2.1 n.2.2.2.2.1 ) en) O O O O O O ?_)))
 intro l5
 refine vq (bZ O O O O O) O (aw ?_)
 exact aF (s := hT) () ⟨O, O, O, O, O, O, O, O, O, O, O, O, O, O, trivial⟩ (.a (.b (.b (.b (.b (.a (.a (.a (.a (.a (.a (.a .n))))))))))))
 intro l6 l7
 refine oT ?_
 refine bm O (fun l8 => ?_) (fun l9 => ?_)
 refine aG (oM O (vq (cF 2 O O jz fy O O) O (vq (oF O gW O ia O) O (vq (cw (vs := [.bool ((x1.getD l.2.2.2.1.toNat ((0 : Int), (0 : Int), false, (0 : Int), (0 : Int), (0 : Int), (0 : Int), (0 : Int), ([] : List aV))).2.2.1), Iv ((x1.getD l.2.2.2.1.toNat ((0 : Int), (0 : Int), false, (0 : Int), (0 : Int), (0 : Int), (0 : Int), (0 : Int), ([] : List aV))).2.2.2.1), Iv ((x1.getD l.2.2.2.1.toNat ((0 : Int), (0 : Int), false, (0 : Int), (0 : Int), (0 : Int), (0 : Int), (0 : Int), ([] : List aV))).2.2.2.2.1), Iv ((x1.getD l.2.2.2.1.toNat ((0 : Int), (0 : Int), false, (0 : Int), (0 : Int), (0 : Int), (0 : Int), (0 : Int), ([] : List aV))).2.2.2.2.2.1), Iv ((x1.getD l.2.2.2.1.toNat ((0 : Int), (0 : Int), false, (0 : Int), (0 : Int), (0 : Int), (0 : Int), (0 : Int), ([] : List aV))).2.2.2.2.2.2.1), Iv ((x1.getD l.2.2.2.1.toNat ((0 : Int), (0 : Int), false, (0 : Int), (0 : Int), (0 : Int), (0 : Int), (0 : Int), ([] : List aV))).2.2.2.2.2.2.2.1), .slice a6 (((x1.getD l.2.2.2.1.toNat ((0 : Int), (0 : Int), false, (0 : Int), (0 : Int), (0 : Int), (0 : Int), (0 : Int), ([] : List aV))).2.2.2.2.2.2.2.2).length) a7]) O O isAgg45 ia O (dc 3 O (cL O))) O (bk 8 O (fun jg er => (aj (fun hU es => (oE (kQ (vs := [.agg #[Iv ad.1, Iv ad.2.1, Iv ad.2.2.1, Iv ad.2.2.2.1, Iv ad.2.2.2.2.1, .slice an.1 ad.2.2.2.2.2.length an.2.1], .agg #[.bool ((x1.getD l.2.2.2.1.toNat ((0 : Int), (0 : Int), false, (0 : Int), (0 : Int), (0 : Int), (0 : Int), (0 : Int), ([] : List aV))).2.2.1), Iv ((x1.getD l.2.2.2.1.toNat ((0 : Int), (0 : Int), false, (0 : Int), (0 : Int), (0 : Int), (0 : Int), (0 : Int), ([] : List aV))).2.2.2.1), Iv ((x1.getD l.2.2.2.1.toNat ((0 : Int), (0 : Int), false, (0 : Int), (0 : Int), (0 : Int), (0 : Int), (0 : Int), ([] : List aV))).2.2.2.2.1), Iv ((x1.getD l.2.2.2.1.toNat ((0 : Int), (0 : Int), false, (0 : Int), (0 : Int), (0 : Int), (0 : Int), (0 : Int), ([] : List aV))).2.2.2.2.2.1), Iv ((x1.getD l.2.2.2.1.toNat ((0 : Int), (0 : Int), false, (0 : Int), (0 : Int), (0 : Int), (0 : Int), (0 : Int), ([] : List aV))).2.2.2.2.2.2.1), Iv ((x1.getD l.2.2.2.1.toNat ((0 : Int), (0 : Int), false, (0 : Int), (0 : Int), (0 : Int), (0 : Int), (0 : Int), ([] : List aV))).2.2.2.2.2.2.2.1), .slice a6 (((x1.getD l.2.2.2.1.toNat ((0 : Int), (0 : Int), false, (0 : Int), (0 : Int), (0 : Int), (0 : Int), (0 : Int), ([] : List aV))).2.2.2.2.2.2.2.2).length) a7]]) (cap := []) (A := [ah 35 4 (V35 an.2.2) an.1 ad.q4.2 an.2.1, an.2.2]) O O O O O O call35 (.sel' 8 O (ah.mk er) (.j (.a (.a (.a (.a (.a (.a (.a (.a (.a (.a .n)))))))))))) (cS.calls _ _ _ (Up.lend 9 O) k ad.1 ad.2.1 ad.2.2.1 ad.2.2.2.1 ad.2.2.2.2.1 an.1 an.2.1 ad.2.2.2.2.2 an.2.2 ((x1.getD l.2.2.2.1.toNat ((0 : Int), (0 : Int), false, (0 : Int), (0 : Int), (0 : Int), (0 : Int), (0 : Int), ([] : List aV))).2.2.1) ((x1.getD l.2.2.2.1.toNat ((0 : Int), (0 : Int), false, (0 : Int), (0 : Int), (0 : Int), (0 : Int), (0 : Int), ([] : List aV))).2.2.2.1) ((x1.getD l.2.2.2.1.toNat ((0 : Int), (0 : Int), false, (0 : Int), (0 : Int), (0 : Int), (0 : Int), (0 : Int), ([] : List aV))).2.2.2.2.1) ((x1.getD l.2.2.2.1.toNat ((0 : Int), (0 : Int), false, (0 : Int), (0 : Int), (0 : Int), (0 : Int), (0 : Int), ([] : List aV))).2.2.2.2.2.1) ((x1.getD l.2.2.2.1.toNat ((0 : Int), (0 : Int), false, (0 : Int), (0 : Int), (0 : Int), (0 : Int), (0 : Int), ([] : List aV))).2.2.2.2.2.2.1) ((x1.getD l.2.2.2.1.toNat ((0 : Int), (0 : Int), false, (0 : Int), (0 : Int), (0 : Int), (0 : Int), (0 : Int), ([] : List aV))).2.2.2.2.2.2.2.1) a6 a7 ((x1.getD l.2.2.2.1.toNat ((0 : Int), (0 : Int), false, (0 : Int), (0 : Int), (0 : Int), (0 : Int), (0 : Int), ([] : List aV))).2.2.2.2.2.2.2.2) c9 ds dz) es) O ?_)))))))))
 intro mo
 refine bk 5 O (fun j0 et => (bk 0 O (fun j1 ex => (bo (fun eA => (oE (eV 5 O O O cC jZ O et (hQ.row ex 0 O) eA) O ?_))))))
 intro d1
 refine oA O (aw (bz (bz (ai (aG (oM O (vq (cn O O O) O (oA O (aw ?_)))))))))
 exact bT (s := (l.1 ++ hU, b8, l.2.2.1, IntKind.i64.wrap (l.2.2.2.1 + 1), n.2.2.2.2.2.1, n.2.2.2.2.2.2.1, n.2.2.2.2.2.2.2.1, n.2.2.2.2.2.2.2.2.1, n.2.2.2.2.2.2.2.2.2.1, n.2.2.2.2.2.2.2.2.2.2.1, n.2.2.2.2.2.2.2.2.2.2.2.1, n.2.2.2.2.2.2.2.2.2.2.2.2.1, n.2.2.2.2.2.2.2.2.2.2.2.2.2.1, n.2.2.2.2.2.2.2.2.2.2.2.2.2.2, n.2.1, n.2.2.1, n.2.2.2.1, n.2.2.2.2.1)) (d1.1, d1.2, o.2.2.1, o.2.2.2.1, o.2.2.2.2.2.2, o.2.2.2.2.1, o.2.2.2.2.2.1, o.1, o.2.1) ⟨O, O, O, O, O, O, O, O, O, O, O, trivial⟩ (.c (.b (.d (.e (.e (.d (.d (.d .n))))))))
 refine aA (bz (bz (ai (aG (oM O (vq (cn O O O) O (oA O (aw ?_))))))))
 exact bT (s := (l.1, b8, l.2.2.1, IntKind.i64.wrap (l.2.2.2.1 + 1), n.2.2.2.2.2.1, n.2.2.2.2.2.2.1, n.2.2.2.2.2.2.2.1, n.2.2.2.2.2.2.2.2.1, n.2.2.2.2.2.2.2.2.2.1, n.2.2.2.2.2.2.2.2.2.2.1, n.2.2.2.2.2.2.2.2.2.2.2.1, n.2.2.2.2.2.2.2.2.2.2.2.2.1, n.2.2.2.2.2.2.2.2.2.2.2.2.2.1, n.2.2.2.2.2.2.2.2.2.2.2.2.2.2, n.2.1, n.2.2.1, n.2.2.2.1, n.2.2.2.2.1)) (m.1, m.2.1, o.2.2.1, o.2.2.2.1, o.2.2.2.2.2.2, o.2.2.2.2.1, o.2.2.2.2.2.1, o.1, o.2.1) ⟨O, O, O, O, O, O, O, O, O, O, O, trivial⟩ (.b (.a (.c (.d (.d (.c (.d (.e .n))))))))
 refine sr (vq (cr O O O) O (oA O (oT ?_)))
 refine bu O (fun ms => ?_) (fun mu => ?_)
 refine sr (oM O (bk 5 O (fun j2 b0 => (bk 6 O (fun j3 b1 => (aj (fun az eB => (bw 5 O (fun eD eF e0 j4 => (bw 6 O (fun e1 e2 e3 j5 => (oE (oC (vs := [Pt ab.1]) (cap := []) (A := [W1 q.1 m.q4.2.2.2.1 x, ax (au m.q4.2.2.2.1 aB ar m.q8) ak m.q8 l.q8.q4.2.2.1, W14 ab.1 q.1 l.q4 m.2.2.1 m.2.2.2.1 m.q4.2.1 m.q4.2.2.1]) O call23 (.b (.b (.b (.a (.a (.a (.a (.a (.a .n))))))))) (gS.calls _ _ k ab.1 q.1 m.2.2.2.2.2.2.2.1 m.2.2.2.2.2.2.2.2 l.2.2.2.2.2.2.2.2.2.2.2.2.2.2.1 x.1 x.2.1 x.2.2 l.2.2.2.2.1 m.2.2.1 m.2.2.2.1 l.2.2.2.2.2.1 l.2.2.2.2.2.2.1 l.2.2.2.2.2.2.2.1 l.2.2.2.2.2.2.2.2.1 l.2.2.2.2.2.2.2.2.2.1 l.2.2.2.2.2.2.2.2.2.2.1 l.2.2.2.2.2.2.2.2.2.2.2.1 m.2.2.2.2.2.1 m.2.2.2.2.2.2.1 l.2.2.2.2.2.2.2.2.2.2.2.2.1 l.2.2.2.2.2.2.2.2.2.2.2.2.2.1 ((Rd.asV b0 eD).up (Up.lend 2 O) (fun _ _ h => h)) eF e0 ((Rd.asV b1 e1).up (Up.lend 3 O) (ba.up (Up.lend 4 O))) e2 e3 (hgl.lend 5 O)) eB) O ?_))))))))))))
 intro bs
 refine oA O (nx (oM O (aj (fun mx e4 => (oE (oC (vs := [Iv az.1]) (cap := []) (A := []) O jk (.a (.a (.a (.a (.a (.a (.a (.a (.a .n))))))))) (cu.calls _ _ az.1 ) e4) O ?_)))))
 intro my
 refine vq (cr O O O) O (oT ?_)
 refine bu O (fun m0 => ?_) (fun m1 => ?_)
 refine aG (oM O (vq (bL O O O cC) O (oA O (aw (bz (bz (ai (aG (oM O (vq (cn O O O) O (oA O (aw ?_))))))))))))
 exact bT (s := (l.1, (l.1.length : Int), l.2.2.1, IntKind.i64.wrap (l.2.2.2.1 + 1), az.2.2.2.2.2.1, l.2.2.2.2.2.1, az.2.2.2.2.2.2.1, az.2.2.2.2.2.2.2.1, az.2.2.2.2.2.2.2.2.1, az.2.2.2.2.2.2.2.2.2.1, az.2.2.2.2.2.2.2.2.2.2.1, az.2.2.2.2.2.2.2.2.2.2.2.1, l.2.2.2.2.2.2.2.2.2.2.2.2.1, az.2.2.2.2.2.2.2.2.2.2.2.2, az.2.1, az.2.2.1, az.2.2.2.1, az.2.2.2.2.1)) (m.1, m.2.1, m.2.2.1, m.2.2.2.1, m.2.2.2.2.1, m.2.2.2.2.2.1, m.2.2.2.2.2.2.1, bs) ⟨O, O, O, O, O, O, O, O, O, O, O, trivial⟩ (.c (.a (.c (.sel' 2 O (ah.mk b0) (.sel' 2 O (ah.mk b1) (.a (.b (.b .n))))))))
 refine aA (bz (bz (ai (aG (oM O (vq (cn O O O) O (oA O (aw ?_))))))))
 exact bT (s := (l.1, l.2.1, l.2.2.1, IntKind.i64.wrap (l.2.2.2.1 + 1), az.2.2.2.2.2.1, l.2.2.2.2.2.1, az.2.2.2.2.2.2.1, az.2.2.2.2.2.2.2.1, az.2.2.2.2.2.2.2.2.1, az.2.2.2.2.2.2.2.2.2.1, az.2.2.2.2.2.2.2.2.2.2.1, az.2.2.2.2.2.2.2.2.2.2.2.1, l.2.2.2.2.2.2.2.2.2.2.2.2.1, az.2.2.2.2.2.2.2.2.2.2.2.2, az.2.1, az.2.2.1, az.2.2.2.1, az.2.2.2.2.1)) (m.1, m.2.1, m.2.2.1, m.2.2.2.1, m.2.2.2.2.1, m.2.2.2.2.2.1, m.2.2.2.2.2.2.1, bs) ⟨O, O, O, O, O, O, O, O, O, O, O, trivial⟩ (.c (.a (.c (.sel' 2 O (ah.mk b0) (.sel' 2 O (ah.mk b1) (.a (.b (.b .n))))))))
 refine sr (vq (cr O O O) O (oA O (oT ?_)))
 refine bu O (fun m2 => ?_) (fun m3 => ?_)
 refine sr (oM O (vq (oF O gW O aa O) O (vq (oL O ae 0 O) O (bk 5 O (fun j6 e5 => (bk 6 O (fun j7 e6 => (aj (fun p e7 => (oE (kQ (vs := [Pt ab.1, Iv ((x1.getD l.2.2.2.1.toNat ((0 : Int), (0 : Int), false, (0 : Int), (0 : Int), (0 : Int), (0 : Int), (0 : Int), ([] : List aV))).2.1)]) (cap := []) (A := [W1 q.1 m.q4.2.2.2.1 x, ax (au m.q4.2.2.2.1 aB ar m.q8) ak m.q8 l.q8.q4.2.2.1, W14 ab.1 q.1 l.q4 m.2.2.1 m.2.2.2.1 m.q4.2.1 m.q4.2.2.1, ah 3 1 (V3 tt) m.2.2.1 l.q4.2.1 m.2.2.2.1, ah 144 5 (ba m.q4.1) m.q4.2.1 l.q8.q4.1 m.q4.2.2.1, m.q4.1]) O O O O O O call24 (.b (.b (.b (.sel' 2 O (ah.mk e5) (.sel' 2 O (ah.mk e6) (.c (.a (.a (.a .n))))))))) (gD.calls _ _ k ab.1 q.1 m.2.2.2.2.2.2.2.1 m.2.2.2.2.2.2.2.2 l.2.2.2.2.2.2.2.2.2.2.2.2.2.2.1 x.1 x.2.1 x.2.2 l.2.2.2.2.1 m.2.2.1 m.2.2.2.1 l.2.2.2.2.2.1 l.2.2.2.2.2.2.1 l.2.2.2.2.2.2.2.1 l.2.2.2.2.2.2.2.2.1 l.2.2.2.2.2.2.2.2.2.1 l.2.2.2.2.2.2.2.2.2.2.1 l.2.2.2.2.2.2.2.2.2.2.2.1 m.2.2.2.2.2.1 m.2.2.2.2.2.2.1 l.2.2.2.2.2.2.2.2.2.2.2.2.1 m.2.2.2.2.1 l.2.2.2.2.2.2.2.2.2.2.2.2.2.1 ((x1.getD l.2.2.2.1.toNat ((0 : Int), (0 : Int), false, (0 : Int), (0 : Int), (0 : Int), (0 : Int), (0 : Int), ([] : List aV))).2.1) (hgl.lend 2 O)) e7) O ?_))))))))))
 intro u
 refine oM O (vq (bY O O O) O (vq (bY O O O) O (oA O (oA O (oT ?_)))))
 refine bP (S := Int) Unit (fun s y => [(0, Iv x0), (1, .slice a1 x1.length c1), (2, Iv x2), (3, Iv x3), (4, Iv x4), (13, Pt q.1), (14, Pt ab.1), (17, .slice m.1 l.1.length m.2.1), (18, Iv s), (19, Iv l.2.2.1), (20, Iv l.2.2.2.1), (21, Pt a9), (27, Iv p.2.1)]) (fun s y => [W11 q.1 u.1 p.2.2.2, W12 ab.1 q.1 p.2.2.2.2.2.2 u.2.2.1 u.2.2.2.1 u.2.2.2.2.1 u.2.2.2.2.2.1, W21 a9 (x1.getD l.2.2.2.1.toNat ((0 : Int), (0 : Int), false, (0 : Int), (0 : Int), (0 : Int), (0 : Int), (0 : Int), ([] : List aV))) a6 a7, ah 84 10 (V84 F) m.1 l.1 m.2.1, ax (au u.1 aB ar u.2.1) ak u.2.1 p.2.2.1, ah 3 1 (V3 tt) u.2.2.1 p.2.2.2.2.2.2.2.1 u.2.2.2.1, ah 144 5 (ba u.2.2.2.2.2.2) u.2.2.2.2.1 p.2.2.2.2.2.2.2.2.2.2.2.2.2.2.1 u.2.2.2.2.2.1, u.2.2.2.2.2.2, F]) ?_ ?_
 refine sr (oM O (aj (fun m4 e8 => (oE (oC (vs := [Iv p.2.1]) (cap := []) (A := []) O jk (.a (.a (.a (.a (.a (.a (.a (.a (.a .n))))))))) (cu.calls _ _ p.2.1 ) e8) O ?_))))
 intro m5
 refine vq (cr O O O) O (oT ?_)
 refine bu O (fun m6 => ?_) (fun m7 => ?_)
 refine aG (oM O (vq (bL O O O cC) O (oA O (aw ?_))))
 exact aF (s := (l.1.length : Int)) () ⟨O, O, O, O, O, O, O, O, O, O, O, O, O, trivial⟩ (.a (.b (.e (.e (.a (.a (.a (.a (.a .n)))))))))
 refine aA ?_
 exact aF (s := l.2.1) () ⟨O, O, O, O, O, O, O, O, O, O, O, O, O, trivial⟩ (.a (.b (.e (.e (.a (.a (.a (.a (.a .n)))))))))
 intro b9 m8
 refine sr (oM O (aj (fun m9 e9 => (oE (oC (vs := [Iv p.2.1]) (cap := []) (A := []) O jk (.a (.a (.a (.a (.a (.a (.a (.a (.a .n))))))))) (cu.calls _ _ p.2.1 ) e9) O ?_))))
 intro nd
 refine vq (cr O O O) O (oM O ?_)
 refine eG 3 (S := Bool) Unit (fun s y => [(0, Iv x0), (1, .slice a1 x1.length c1), (2, Iv x2), (3, Iv x3), (4, Iv x4), (13, Pt q.1), (14, Pt ab.1), (17, .slice m.1 l.1.length m.2.1), (18, Iv b9), (19, Iv l.2.2.1), (20, Iv l.2.2.2.1), (21, Pt a9), (153, .bool s)]) (fun s y => [W11 q.1 u.1 p.2.2.2, W12 ab.1 q.1 p.2.2.2.2.2.2 u.2.2.1 u.2.2.2.1 u.2.2.2.2.1 u.2.2.2.2.2.1, W21 a9 (x1.getD l.2.2.2.1.toNat ((0 : Int), (0 : Int), false, (0 : Int), (0 : Int), (0 : Int), (0 : Int), (0 : Int), ([] : List aV))) a6 a7, ah 84 10 (V84 F) m.1 l.1 m.2.1, ax (au u.1 aB ar u.2.1) ak u.2.1 p.2.2.1, ah 3 1 (V3 tt) u.2.2.1 p.2.2.2.2.2.2.2.1 u.2.2.2.1, ah 144 5 (ba u.2.2.2.2.2.2) u.2.2.2.2.1 p.2.2.2.2.2.2.2.2.2.2.2.2.2.2.1 u.2.2.2.2.2.1, u.2.2.2.2.2.2, F]) ?_ ?_
 refine iD (fun fl => ?_) (fun fn => ?_)
 rw [fl]
 refine oS O (oS O (vq (bZ O O O O O) O (aw ?_)))
 exact aF (s := true) () ⟨O, O, O, O, O, O, O, O, O, O, O, O, O, trivial⟩ (.a (.a (.a (.a (.a (.a (.a (.a (.a .n)))))))))
 rw [fn]
 refine aK (am O O) O O O O O O (aj (fun hV fp => (gj (oC (vs := [Pt q.1]) (cap := []) (A := [W11 q.1 u.1 p.2.2.2, ax (au u.1 aB ar u.2.1) ak u.2.1 p.2.2.1]) O call34 (.a (.d (.a (.a (.a (.a (.a (.a (.a .n))))))))) (eY.calls _ _ q.1 u.1 u.2.1 p.2.2.1 p.2.2.2.1 p.2.2.2.2.1 p.2.2.2.2.2.1 ) fp) O O O O O O ?_)))
 intro nm
 refine vq (bZ O O O O O) O (aw ?_)
 exact aF (s := hV) () ⟨O, O, O, O, O, O, O, O, O, O, O, O, O, trivial⟩ (.a (.b (.b (.b (.a (.a (.a (.a (.a .n)))))))))
 intro nn no
 refine oT ?_
 refine bm O (fun nu => ?_) (fun n0 => ?_)
 refine aG (oM O (vq (oF O gW O aa O) O (vq (oL O ae 2 O) O (vq (qJ O O O) O (oA O (aw (bz (bz (ai (aG (oM O (vq (cn O O O) O (oA O (aw ?_))))))))))))))
 exact bT (s := (l.1, b9, max l.2.2.1 ((x1.getD l.2.2.2.1.toNat ((0 : Int), (0 : Int), false, (0 : Int), (0 : Int), (0 : Int), (0 : Int), (0 : Int), ([] : List aV))).2.1), IntKind.i64.wrap (l.2.2.2.1 + 1), p.2.2.2.2.2.2.1, p.2.2.2.2.2.2.2.1, p.2.2.2.2.2.2.2.2.1, p.2.2.2.2.2.2.2.2.2.1, p.2.2.2.2.2.2.2.2.2.2.1, p.2.2.2.2.2.2.2.2.2.2.2.1, p.2.2.2.2.2.2.2.2.2.2.2.2.1, p.2.2.2.2.2.2.2.2.2.2.2.2.2.1, p.2.2.2.2.2.2.2.2.2.2.2.2.2.2.1, p.2.2.2.2.2.2.2.2.2.2.2.2.2.2.2, p.2.2.1, p.2.2.2.1, p.2.2.2.2.1, p.2.2.2.2.2.1)) (m.1, m.2.1, u.2.2.1, u.2.2.2.1, u.2.2.2.2.2.2, u.2.2.2.2.1, u.2.2.2.2.2.1, u.1, u.2.1) ⟨O, O, O, O, O, O, O, O, O, O, O, trivial⟩ (.b (.a (.b (.c (.c (.b (.b (.b .n))))))))
 refine aA (bz (bz (ai (aG (oM O (vq (cn O O O) O (oA O (aw ?_))))))))
 exact bT (s := (l.1, b9, l.2.2.1, IntKind.i64.wrap (l.2.2.2.1 + 1), p.2.2.2.2.2.2.1, p.2.2.2.2.2.2.2.1, p.2.2.2.2.2.2.2.2.1, p.2.2.2.2.2.2.2.2.2.1, p.2.2.2.2.2.2.2.2.2.2.1, p.2.2.2.2.2.2.2.2.2.2.2.1, p.2.2.2.2.2.2.2.2.2.2.2.2.1, p.2.2.2.2.2.2.2.2.2.2.2.2.2.1, p.2.2.2.2.2.2.2.2.2.2.2.2.2.2.1, p.2.2.2.2.2.2.2.2.2.2.2.2.2.2.2, p.2.2.1, p.2.2.2.1, p.2.2.2.2.1, p.2.2.2.2.2.1)) (m.1, m.2.1, u.2.2.1, u.2.2.2.1, u.2.2.2.2.2.2, u.2.2.2.2.1, u.2.2.2.2.2.1, u.1, u.2.1) ⟨O, O, O, O, O, O, O, O, O, O, O, trivial⟩ (.b (.a (.b (.c (.c (.b (.b (.b .n))))))))
 refine aA (bz (bz (ai (aG (oM O (vq (cn O O O) O (oA O (aw ?_))))))))
 exact bT (s := (l.1, l.2.1, l.2.2.1, IntKind.i64.wrap (l.2.2.2.1 + 1), l.2.2.2.2.1, l.2.2.2.2.2.1, l.2.2.2.2.2.2.1, l.2.2.2.2.2.2.2.1, l.2.2.2.2.2.2.2.2.1, l.2.2.2.2.2.2.2.2.2.1, l.2.2.2.2.2.2.2.2.2.2.1, l.2.2.2.2.2.2.2.2.2.2.2.1, l.2.2.2.2.2.2.2.2.2.2.2.2.1, l.2.2.2.2.2.2.2.2.2.2.2.2.2.1, l.2.2.2.2.2.2.2.2.2.2.2.2.2.2.1, x)) m ⟨O, O, O, O, O, O, O, O, O, O, O, trivial⟩ (.d (.b (.c (.c (.c (.b (.b (.b .n))))))))
 refine dt (cK (cU (cN ?_)))
 exact aF (s := (l.1, l.2.1, l.2.2.1, l.2.2.2.2.2.2.2.2.2.2.2.2.2.2)) (m.1, m.2.1, m.2.2.2.2.2.2.2) ⟨O, O, O, O, O, O, trivial⟩ (.b (.b (.d (.e .n))))
 intro ag a4
 refine sr (oM O (oM O (aj (fun a2 fr => (oE (oC (vs := [Pt q.1, Iv x4]) (cap := []) (A := [W1 q.1 a4.2.2.1 ag.q4, ax (au a4.2.2.1 aB ar a4.2.2.2) ak a4.2.2.2 ag.2.2.2.1]) O call36 (.a (.b (.a (.a .n)))) (iy.calls _ _ q.1 a4.2.2.1 a4.2.2.2 ag.2.2.2.1 ag.2.2.2.2.1 ag.2.2.2.2.2.1 ag.2.2.2.2.2.2 x4 ) fr) O ?_)))))
 intro a5
 refine nx (oM O (oM O (aj (fun w cs => ?_))))
 refine mD (fun b2 => ?_) (fun b2 => ?_)
 refine oE (oC (vs := [Pt q.1, Iv x0]) (cap := []) (A := [W1 q.1 a5.1 a2.2, ax (au a5.1 aB ar a5.2) ak a5.2 a2.1]) O call15 (.a (.a (.a (.a .n)))) (bS.callsT _ _ k q.1 a5.1 a5.2 a2.1 a2.2.1 a2.2.2.1 a2.2.2.2 x0 (hgl.lend 1 O)) (nM cs b2)) O ?_
 intro al
 refine oM O (vq (bY O O O) O (vq (bY O O O) O (vq (bY O O O) O (oA O (oA O (oA O (oT (ap (sr (oM O (vq (pC O O O jq) O (oM O (aK (am O O) O O O O O O (aj (fun n1 fs => (gj (oC (vs := [Iv w.2.2.2.2.2.2.2.2.2.2.2.2.1]) (cap := []) (A := []) O jk (.a (.a (.a (.a (.a (.a (.a (.a .n)))))))) (cu.calls _ _ w.2.2.2.2.2.2.2.2.2.2.2.2.1 ) fs) O O O O O O ?_))))))))))))))))
 intro n2
 refine aK (ej O O O) O O O O O O (vq (bZ O O O O O) O (oT ?_))
 refine eN O (fun n3 => ?_) (fun n4 => ?_)
 refine aA (ai (sr (oM O (bk 1 O (fun ft fz => (bk 2 O (fun go gs => (aj (fun z gy => (bw 1 O (fun g0 g1 g2 j8 => (bw 2 O (fun g3 g4 g5 j9 => (oE (oC (vs := [Pt al.1]) (cap := []) (A := [W1 q.1 al.q4.2.2.1 w.q8.q4.2.2, ax (au al.q4.2.2.1 aB ar al.q4.2.2.2) ak al.q4.2.2.2 w.q8.q4.2.1, W14 al.1 q.1 w.2 al.2.1 al.2.2.1 al.2.2.2.1 al.q4.1]) O call18 (.e (.e (.a (.a (.a (.a (.a (.a .n)))))))) (gI.calls _ _ k al.1 q.1 al.2.2.2.2.2.2.1 al.2.2.2.2.2.2.2 w.2.2.2.2.2.2.2.2.2.2.2.2.2.1 w.2.2.2.2.2.2.2.2.2.2.2.2.2.2.1 w.2.2.2.2.2.2.2.2.2.2.2.2.2.2.2.1 w.2.2.2.2.2.2.2.2.2.2.2.2.2.2.2.2 w.2.1 al.2.1 al.2.2.1 w.2.2.1 w.2.2.2.1 w.2.2.2.2.1 w.2.2.2.2.2.1 w.2.2.2.2.2.2.1 w.2.2.2.2.2.2.2.1 w.2.2.2.2.2.2.2.2.1 al.2.2.2.1 al.2.2.2.2.1 w.2.2.2.2.2.2.2.2.2.1 w.2.2.2.2.2.2.2.2.2.2.1 ((Rd.asV fz g0).up (Up.lend 0 O) (fun _ _ h => h)) g1 g2 ((Rd.asV gs g3).up (Up.lend 1 O) (ba.up (Up.lend 2 O))) g4 g5) gy) O ?_))))))))))))))
 intro a0
 refine oE (bX O iW O) O ?_
 intro br
 refine bg (aI 0 O O O fy O O (aM (by rfl)) O O) O O ?_
 intro _
 refine cl (H' := [W10 br z a0.1 a0.2.1, ah 35 4 (V35 a0.2.2) a0.1 z.2.2.2.2.2 a0.2.1, a0.2.2, W1 q.1 al.2.2.2.2.2.2.1 w.2.2.2.2.2.2.2.2.2.2.2.2.2.2, ax (au al.2.2.2.2.2.2.1 aB ar al.2.2.2.2.2.2.2) ak al.2.2.2.2.2.2.2 w.2.2.2.2.2.2.2.2.2.2.2.2.2.1, W14 al.1 q.1 w.2 al.2.1 al.2.2.1 al.2.2.2.1 al.2.2.2.2.1, Row 3 1 al.2.1 w.2.2.1.length al.2.2.1 ft.flatten, Row 144 5 al.2.2.2.1 w.2.2.2.2.2.2.2.2.2.1.length al.2.2.2.2.1 go.flatten, al.2.2.2.2.2.1, ah 84 10 (V84 F) a4.1 ag.1 a4.2.1, F]) (Ent.refl _) (nx (vq (cW (v := .agg #[Iv 0, Iv 0, Iv 0, Iv 0, .slice none 0 0, .slice none 0 0]) O O (fun _ => by kernel_rfl)) O (oE (cH O O O) O ?_)))
 intro a8
 refine oA O (oT ?_)
 refine iA (S := Unit) Unit (fun s y => []) (fun s y => [F]) ?_ ?_
 refine sr (oA O (oT (aZ ?_)))
 refine da (S := Int × Int × Int × Int × Int × List Int × List Lb) (Option Addr × Nat × Option Addr × Nat) (fun k s => bn.l1 ag z k s.1 s.2.1 s.2.2.1 s.2.2.2.1 s.2.2.2.2.1 s.2.2.2.2.2.1 s.2.2.2.2.2.2) (fun s y => [(17, .slice a4.1 ag.1.length a4.2.1), (18, Iv ag.2.1), (19, Iv ag.2.2.1), (31, Pt br), (32, Pt a8), (33, Iv s.1)]) (fun s y => [W5 a8 s.2 y.1 y.2.1 y.2.2.1 y.2.2.2, W10 br z a0.1 a0.2.1, ah 84 10 (V84 F) a4.1 ag.1 a4.2.1, ah 3 1 (V3 tt) y.1 s.2.2.2.2.2.1 y.2.1, ah 33 1 (V33 F) y.2.2.1 s.2.2.2.2.2.2 y.2.2.2, ah 35 4 (V35 a0.2.2) a0.1 z.2.2.2.2.2 a0.2.1, a0.2.2, F]) (fun _ => by rw [bn.l1]) ?_ k (0, 0, 0, 0, 0, ([] : List Int), ([] : List Lb)) (none, 0, none, 0) ⟨O, O, O, O, O, O, trivial⟩ (.a (.a (.i (.rowV_nil (.rowV_nil (.a (.a (.g .n))))))))
 intro k t af
 refine dW (by rw [bn.l1]) (ap (sr (oM O (oM O (vq (bL O O O cC) O (vq (lv O O O) O (oT ?_)))))))
 refine bu O (fun n5 => ?_) (fun n6 => ?_)
 refine aA (ai (ap (aZ (sr (oM O (oM O (vq (lw O O O) O (oM O ?_))))))))
 refine eG 5 (S := Bool) Unit (fun s y => [(17, .slice a4.1 ag.1.length a4.2.1), (18, Iv ag.2.1), (19, Iv ag.2.2.1), (31, Pt br), (32, Pt a8), (33, Iv t.1), (193, .bool s)]) (fun s y => [W5 a8 t.2 af.1 af.2.1 af.2.2.1 af.2.2.2, W10 br z a0.1 a0.2.1, ah 84 10 (V84 F) a4.1 ag.1 a4.2.1, ah 3 1 (V3 tt) af.1 t.2.2.2.2.2.1 af.2.1, ah 33 1 (V33 F) af.2.2.1 t.2.2.2.2.2.2 af.2.2.2, ah 35 4 (V35 a0.2.2) a0.1 z.2.2.2.2.2 a0.2.1, a0.2.2, F]) ?_ ?_
 refine iD (fun g6 => ?_) (fun g7 => ?_)
 rw [g6]
 refine aK (am O O) O O O O O O (aK (cF 1 O O jz fy O O) O O O O O O (aK (am O O) O O O O O O (bk 3 O (fun kd c0 => (bk 4 O (fun kl c2 => (bk 5 O (fun k0 c3 => (aj (fun hW g8 => (bw 3 O (fun g9 ha hb k1 => (bw 4 O (fun hc he hf k2 => (bw 5 O (fun hg hh hi k3 => (gj (oC (vs := [Pt a8, .agg #[Iv z.1, Iv z.2.1, Iv z.2.2.1, Iv z.2.2.2.1, Iv z.2.2.2.2.1, .slice a0.1 z.2.2.2.2.2.length a0.2.1], Iv ag.2.2.1]) (cap := []) (A := [W5 a8 t.2 af.1 af.2.1 af.2.2.1 af.2.2.2]) O call37 (.a (.a (.a (.a (.a (.a (.a (.a .n)))))))) (cJ.calls _ _ k a8 t.2.1 t.2.2.1 t.2.2.2.1 t.2.2.2.2.1 af.1 af.2.1 t.2.2.2.2.2.1 af.2.2.1 af.2.2.2 t.2.2.2.2.2.2 z.1 z.2.1 z.2.2.1 z.2.2.2.1 z.2.2.2.2.1 a0.1 a0.2.1 z.2.2.2.2.2 ag.2.2.1 ((Rd.asV c0 g9).up (Up.lend 2 O) (fun _ _ h => h)) ha hb ((Rd.asV c2 hc).up (Up.lend 3 O) (V33.up (Up.lend 6 O))) he hf ((Rd.asV c3 hg).up (Up.lend 4 O) (V35.up (Up.lend 5 O))) hh hi) g8) O O O O O O ?_)))))))))))))))))
 intro n7
 refine vq (bZ O O O O O) O (aw ?_)
 exact aF (s := hW) () ⟨O, O, O, O, O, O, O, trivial⟩ (.a (.a (.a (.sel' 0 O (ah.mk c0) (.sel' 0 O (ah.mk c2) (.sel' 0 O (ah.mk c3) (.a (.a .n))))))))
 rw [g7]
 refine oS O (oS O (oS O (oS O (vq (bZ O O O O O) O (aw ?_)))))
 exact aF (s := false) () ⟨O, O, O, O, O, O, O, trivial⟩ (.a (.a (.a (.a (.a (.a (.a (.a .n))))))))
 intro n8 n9
 refine oA O (oT (ap (sr (oM O (oT ?_)))))
 refine bm O (fun oa => ?_) (fun og => ?_)
 refine sr (oA O (oT (ay (aY (bI (aY (ij (bI (gP ?_)))))))))
 exact aJ () O O O (.h .n)
 refine aA (ai (sr (oM O (oM O (vq (bL O O O cC) O (vq (dG O O O) O (oT ?_)))))))
 refine bu O (fun ok => ?_) (fun ol => ?_)
 refine aG (oM O (oM O (oM O (bk 2 O (fun k4 c4 => (bo (fun c5 => (gv 2 O c4 O (i := t.1.toNat) (by omega) io (fun op k5 os hk hl h0 hcell282v => ?_)))))))))
 obtain ⟨d2, d3, rfl, ⟨hm, hn, ho⟩⟩ := hl
 refine vq (dM O O O hk cC sizeOf84 c5.1 c5.2) O (vq (cw O O isAgg84 sizeOf84 O (fun j v hj => hcell282v 2 O j v hj)) O (bk 3 O (fun k6 hp => (bk 4 O (fun k7 hq => (aj (fun bd hr => (oE (oC (vs := [Pt a8, .agg #[Iv ((ag.1.getD t.1.toNat io).1), Iv ((ag.1.getD t.1.toNat io).2.1), Iv ((ag.1.getD t.1.toNat io).2.2.1), Iv ((ag.1.getD t.1.toNat io).2.2.2.1), Iv ((ag.1.getD t.1.toNat io).2.2.2.2.1), Iv ((ag.1.getD t.1.toNat io).2.2.2.2.2.1), Iv ((ag.1.getD t.1.toNat io).2.2.2.2.2.2.1), Iv ((ag.1.getD t.1.toNat io).2.2.2.2.2.2.2.1), Iv ((ag.1.getD t.1.toNat io).2.2.2.2.2.2.2.2.1), .slice d2 (((ag.1.getD t.1.toNat io).2.2.2.2.2.2.2.2.2).length) d3]]) (cap := []) (A := [W5 a8 t.2 af.1 af.2.1 af.2.2.1 af.2.2.2, ah 3 1 (V3 tt) af.1 t.q4.2.1 af.2.1, ah 33 1 (V33 F) af.2.2.1 t.q4.2.2 af.2.2.2]) O call38 (.a (.sel' 2 O (ah.mk hp) (.sel' 2 O (ah.mk hq) (.a (.a (.a (.a (.a .n)))))))) (fY.calls _ _ _ (Up.lend 4 O) a8 t.2.1 t.2.2.1 t.2.2.2.1 t.2.2.2.2.1 af.1 af.2.1 t.2.2.2.2.2.1 af.2.2.1 af.2.2.2 t.2.2.2.2.2.2 ((ag.1.getD t.1.toNat io).1) ((ag.1.getD t.1.toNat io).2.1) ((ag.1.getD t.1.toNat io).2.2.1) ((ag.1.getD t.1.toNat io).2.2.2.1) ((ag.1.getD t.1.toNat io).2.2.2.2.1) ((ag.1.getD t.1.toNat io).2.2.2.2.2.1) ((ag.1.getD t.1.toNat io).2.2.2.2.2.2.1) ((ag.1.getD t.1.toNat io).2.2.2.2.2.2.2.1) ((ag.1.getD t.1.toNat io).2.2.2.2.2.2.2.2.1) d2 d3 ((ag.1.getD t.1.toNat io).2.2.2.2.2.2.2.2.2) hm hn ho) hr) O ?_))))))))
 intro bt
 refine aw (bz (ai (aG (oM O (vq (cn O O O) O (oA O (aw ?_)))))))
 exact bT (s := (IntKind.i64.wrap (t.1 + 1), bd)) bt ⟨O, O, O, O, O, O, trivial⟩ (.a (.c (.sel' 2 O (ah.mk c4) (.a (.a (.a (.a (.a .n))))))))
 refine aA (bz (ai (aG (oM O (vq (cn O O O) O (oA O (aw ?_)))))))
 exact bT (s := (IntKind.i64.wrap (t.1 + 1), t.2)) af ⟨O, O, O, O, O, O, trivial⟩ (.a (.a (.a (.a (.a (.a (.a (.a .n))))))))
 refine dt (cK (cU (cN ?_)))
 exact gx (s := ()) () trivial (.h .n)
 intro o0 o1
 refine sr (oA O (oT (ay ?_)))
 exact aJ () O O O (.a .n)
 refine sr (oA O (oT (ay (aY ?_))))
 exact aJ () O O O (.h .n)
 refine oE (oC (vs := [Pt q.1, Iv x0]) (cap := []) (A := [W1 q.1 a5.1 a2.2, ax (au a5.1 aB ar a5.2) ak a5.2 a2.1]) O call15 (.a (.a (.a (.a .n)))) (bS.callsN _ _ k q.1 a5.1 a5.2 a2.1 a2.2.1 a2.2.2.1 a2.2.2.2 x0 (hgl.lend 1 O)) (nM cs (eq_false_of_ne_true b2))) O ?_
 intro o2
 refine oM O (vq (bY O O O) O (vq (bY O O O) O (vq (bY O O O) O (oA O (oA O (oA O (oT (ap (sr (oM O (vq (nT O O O jq) O (oM O (oS O (oS O (oS O (vq (bZ O O O O O) O (oT (ix O (sr (oA O (oT (ay (aY ?_)))))))))))))))))))))))
 exact aJ () O O O (.d .n)
 refine sr (oA O (oT (ay (aY ?_))))
 exact aJ () O O O (.g .n)
 refine oE (oC (vs := [Pt q.1, Iv x0]) (cap := []) (A := [W1 q.1 q.2.1 bc.2, ax (au q.2.1 aB ar q.2.2) ak q.2.2 bc.1]) O call15 (.a (.a (.a .n))) (bS.callsN _ _ k q.1 q.2.1 q.2.2 bc.1 bc.2.1 bc.2.2.1 bc.2.2.2 x0 (hgl.lend 0 O)) (nM c7 (eq_false_of_ne_true b5))) O ?_
 intro o3
 refine oM O (vq (bY O O O) O (vq (bY O O O) O (vq (bY O O O) O (oA O (oA O (oA O (oT (ap (sr (oM O (vq (nT O O O jq) O (oM O (oS O (oS O (oS O (vq (bZ O O O O O) O (oT (ix O (sr (oA O (oT (ay (aY ?_)))))))))))))))))))))))
 exact aJ () O O O (.c .n)
end Go.Proofs.YtndjkejhacfpdaaGreatDoor

namespace Go.Proofs.YtndjkejhacfpdaaGreatDoor
open Go.RowKit

theorem w64 {n : Int} (u : -9223372036854775808 ≤ n) (h1 : n ≤ 9223372036854775807) : IntKind.i64.wrap n = n := by rw [IntKind.wrap_i64]; omega
theorem w8 {n : Int} (u : 0 ≤ n) (h1 : n < 256) : IntKind.u8.wrap n = n := by rw [IntKind.wrap_u8]; omega
theorem qw (n : Int) (u : 0 ≤ n) (D : n < 2 ^ 63) : IntKind.i64.wrap n = n := by rw [IntKind.wrap_i64]; omega
theorem Ci {n : Int} (u : 0 ≤ n) (h1 : n < 2 ^ 63) : df .and .i64 n 127 = n % 128 := bits_mask .i64 63 (by decide) qw 7 (by decide) n u h1
theorem BP {n : Int} (u : 0 ≤ n) (h1 : n < 256) : df .and .u8 n 127 = n % 128 := bits_mask .u8 8 (by decide) wraps_u8 7 (by decide) n u h1
theorem CZ {n : Int} (u : 0 ≤ n) (h1 : n < 128) : df .or .i64 n 128 = n + 128 := by
 obtain ⟨a, rfl⟩ := Int.eq_ofNat_of_zero_le u
 have D : a < 128 := by omega
 have e := (bits_nat .i64 63 (by decide) qw a 128 (by omega) (by decide)).2
 show bits .or .i64 (a : Int) ((128 : Nat) : Int) = _
 rw [e]
 have I := Nat.two_pow_add_eq_or_of_lt (i := 7) (b := a) D 1
 have : a ||| 128 = 128 + a := by rw [Nat.or_comm]; simpa using I.symm
 rw [this]; omega
theorem Cg (n : Nat) : Int.fdiv (n : Int) (2 ^ (min (7 : Int).toNat IntKind.i64.bits)) = ((n / 128 : Nat) : Int) := by
 show Int.fdiv (n : Int) 128 = _
 rw [Int.fdiv_eq_ediv_of_nonneg _ (by decide)]
 simp
theorem yQ (b : UInt8) : hJ (b.toNat : Int) = b := by simp [hJ]
theorem sS (l : List UInt8) (i : Nat) : (l.getD i 0).toNat < 256 := UInt8.toNat_lt _

def sv (n : Nat) : List UInt8 := if h : n < 128 then [UInt8.ofNat n] else UInt8.ofNat (n % 128 + 128) :: sv (n / 128)
theorem qG {n : Nat} (h : n < 128) : sv n = [UInt8.ofNat n] := by rw [sv]; simp [h]
theorem uv {n : Nat} (h : 128 ≤ n) : sv n = UInt8.ofNat (n % 128 + 128) :: sv (n / 128) := by rw [sv]; simp [Nat.not_lt.2 h]
theorem Bf (n : Nat) : sv n ≠ [] := by rw [sv]; split <;> simp
theorem qc (n : Nat) : 0 < (sv n).length := List.length_pos_iff.2 (Bf n)
theorem zx : ∀ (j n : Nat), n < 128 ^ (j + 1) → (sv n).length ≤ j + 1
 | 0, n, h => by rw [qG (by simpa using h)]; simp
 | j + 1, n, h => by
  by_cases hn : n < 128
  ·rw [qG hn]; simp
  ·rw [uv (by omega)]
   have := zx j (n / 128) (by rw [Nat.pow_succ] at h; exact Nat.div_lt_of_lt_mul (by rw [Nat.mul_comm]; exact h))
   simp; omega
theorem sv9 {n : Nat} (h : n < 2 ^ 63) : (sv n).length ≤ 9 := zx 8 n (by omega)
def fI : List UInt8 → Nat
 | [] => 0
 | b :: l => if 128 ≤ b.toNat then fI l + 1 else 0
def oi : Nat → List UInt8 → Nat
 | 0, l => (l.getD 0 0).toNat % 128
 | k + 1, l => (l.getD 0 0).toNat % 128 + 128 * oi k (l.drop 1)
theorem xv : ∀ l : List UInt8, fI l ≤ l.length
 | [] => Nat.le_refl _
 | b :: l => by simp only [fI]; have := xv l; split <;> simp <;> omega
theorem tR : ∀ (l : List UInt8) (i : Nat), i < fI l → 128 ≤ (l.getD i 0).toNat
 | [], i, h => by simp [fI] at h
 | b :: l, i, h => by
  simp only [fI] at h
  split at h
  ·cases i with
   | zero => simpa
   | succ i => simpa using tR l i (by omega)
  ·omega
theorem tS : ∀ (l : List UInt8), fI l < l.length → (l.getD (fI l) 0).toNat < 128
 | [], h => by simp [fI] at h
 | b :: l, h => by
  simp only [fI] at h ⊢
  split
  ·rename_i u; rw [if_pos u] at h; simpa using tS l (by simpa using h)
  ·simp; omega
def dec (l : List UInt8) : Int × Int × Int :=
 if l = [] then (0, 0, 2) else
 if 9 ≤ fI l then (0, 0, 4) else
 if l.length ≤ fI l then (0, 0, 2) else
 if 0 < fI l ∧ (l.getD (fI l) 0).toNat = 0 then (0, 0, 4) else
 if 2 ^ 62 < oi (fI l) l then (0, 0, 1) else (((oi (fI l) l : Nat) : Int), ((fI l + 1 : Nat) : Int), (0 : Int))
theorem xw : ∀ (n : Nat) (r : List UInt8), fI (sv n ++ r) + 1 = (sv n).length ∧ oi (fI (sv n ++ r)) (sv n ++ r) = n ∧ (n ≠ 0 → ((sv n ++ r).getD (fI (sv n ++ r)) 0).toNat ≠ 0)
 | n, r => by
  by_cases hn : n < 128
  ·rw [qG hn]
   have e : (UInt8.ofNat n).toNat = n := by rw [UInt8.toNat_ofNat']; omega
   have : ¬ 128 ≤ (UInt8.ofNat n).toNat := by rw [e]; omega
   have h1 : fI ([UInt8.ofNat n] ++ r) = 0 := by show (if 128 ≤ (UInt8.ofNat n).toNat then _ else _) = 0; rw [if_neg this]
   rw [h1]
   refine ⟨rfl, ?_, fun h => ?_⟩
   ·simp only [oi, List.singleton_append, List.getD_cons_zero, e]; omega
   ·simp only [List.singleton_append, List.getD_cons_zero, e]; exact h
  ·rw [uv (by omega)]
   have e : (UInt8.ofNat (n % 128 + 128)).toNat = n % 128 + 128 := by rw [UInt8.toNat_ofNat']; omega
   have u := xw (n / 128) r
   have h1 : fI (UInt8.ofNat (n % 128 + 128) :: sv (n / 128) ++ r) = fI (sv (n / 128) ++ r) + 1 := by
    show (if 128 ≤ (UInt8.ofNat (n % 128 + 128)).toNat then _ else _) = _
    rw [if_pos (by omega)]; rfl
   rw [h1]
   refine ⟨by simp [u.1], ?_, fun h => ?_⟩
   ·simp only [oi, List.cons_append, List.getD_cons_zero, List.drop_succ_cons, List.drop_zero, e, u.2.1]; omega
   ·simp only [List.cons_append, List.getD_cons_succ]; exact u.2.2 (by omega)
 termination_by n => n
theorem CF {n : Nat} (h : n ≤ 2 ^ 62) (r : List UInt8) : dec (sv n ++ r) = (((n : Nat) : Int), (((sv n).length : Nat) : Int), (0 : Int)) := by
 obtain ⟨h1, u, D⟩ := xw n r
 have I := sv9 (n := n) (by omega)
 have hp := qc n
 unfold dec
 rw [if_neg (fun e => Bf n (List.append_eq_nil_iff.1 e).1), if_neg (by omega), if_neg (by rw [List.length_append]; omega), if_neg, if_neg (by omega)]
 ·rw [u, h1]
 ·rintro ⟨x, y⟩
  by_cases hn : n = 0
  ·subst hn; have J : (sv 0).length = 1 := by rw [qG (by decide)]; rfl
   omega
  ·exact D hn y
end Go.Proofs.YtndjkejhacfpdaaGreatDoor

namespace Go.Proofs.YtndjkejhacfpdaaGreatDoor
open Go.RowKit

theorem tv : ∀ (j n c k : Nat), n < 128 ^ (j + 1) → j + 1 ≤ k → c + j < 1000 → gr.l0 k (n : Int) (c : Int) = some (((c + ((sv n).length - 1) : Nat)) : Int)
 | j, n, c, 0, _, hk, _ => by omega
 | j, n, c, k + 1, h, hk, hc => by
  simp only [gr.l0]
  by_cases hn : n < 128
  ·rw [if_neg (by omega), qG hn]; simp
  ·rw [if_pos (by omega), Cg]
   cases j with
   | zero => simp at h; omega
   | succ j =>
    rw [w64 (by omega) (by omega)]
    have := tv j (n / 128) (c + 1) k (by rw [Nat.pow_succ] at h; exact Nat.div_lt_of_lt_mul (by rw [Nat.mul_comm]; exact h)) (by omega) (by omega)
    have e : ((c : Int) + 1) = ((c + 1 : Nat) : Int) := by simp
    rw [e, this, uv (n := n) (by omega)]
    have := qc (n / 128)
    simp only [List.length_cons, Option.some.injEq, Int.ofNat_inj]
    omega
def okN (x : Int) : Prop := 0 ≤ x ∧ x ≤ 4611686018427387904
instance (x : Int) : Decidable (okN x) := by unfold okN; exact inferInstance
def uw (x : Int) : Int := if okN x then ((sv x.toNat).length : Nat) else 0
theorem tw (x : Int) : ((decide (x < (0 : Int))) || (decide ((4611686018427387904 : Int) < x))) = true ↔ ¬ okN x := by
 unfold okN; simp; omega
theorem uF {k : Nat} (u : 10 ≤ k) (x : Int) : gr.f k x = some (uw x) := by
 unfold gr.f uw
 by_cases h : okN x
 ·rw [if_neg (by rw [tw]; simpa using h), if_pos h]
  obtain ⟨n, rfl⟩ := Int.eq_ofNat_of_zero_le h.1
  have D : n ≤ 4611686018427387904 := by have := h.2; omega
  have := tv 8 n 1 k (by omega) (by omega) (by omega)
  have e : ((1 : Nat) : Int) = 1 := rfl
  rw [e] at this
  rw [this]
  have := qc n
  simp; omega
 ·rw [if_pos ((tw x).2 h), if_neg h]
/-! The bytes, one by one. -/
theorem Ch {n : Nat} (u : n < 2 ^ 63) : IntKind.u8.wrap (df .or .i64 (df .and .i64 (n : Int) 127) 128) = ((n % 128 + 128 : Nat) : Int) := by
 rw [Ci (by omega) (by omega), CZ (by omega) (by omega), w8 (by omega) (by omega)]
 simp
theorem qX {S : Type} (u : S → Int → Option S) : ∀ (j n : Nat) (s : S) (k : Nat), n < 128 ^ (j + 1) → j + 1 ≤ k → n < 2 ^ 63 → ((eE.l0 u k (n : Int) s).bind fun r => u r.2 (IntKind.u8.wrap r.1)) = ou u s ((sv n).map fun b => (b.toNat : Int))
 | j, n, s, 0, _, hk, _ => by omega
 | j, n, s, k + 1, h, hk, hs => by
  simp only [eE.l0]
  by_cases hn : n < 128
  ·rw [if_neg (by omega), qG hn]
   have e : (UInt8.ofNat n).toNat = n := by rw [UInt8.toNat_ofNat']; omega
   simp only [Option.bind_some, List.map_cons, List.map_nil, ou, e]
   rw [w8 (by omega) (by omega)]
   cases u s (n : Int) <;> rfl
  ·rw [if_pos (by omega), Cg, Ch hs, uv (by omega)]
   have e : (UInt8.ofNat (n % 128 + 128)).toNat = n % 128 + 128 := by rw [UInt8.toNat_ofNat']; omega
   simp only [List.map_cons, ou, e]
   cases j with
   | zero => simp at h; omega
   | succ j =>
    cases u s ((n % 128 + 128 : Nat) : Int) with
    | none => rfl
    | some s' => exact qX u j (n / 128) s' k (by rw [Nat.pow_succ] at h; exact Nat.div_lt_of_lt_mul (by rw [Nat.mul_comm]; exact h)) (by omega) (by omega)
theorem yP {S : Type} {k : Nat} (I : 10 ≤ k) (u : S → Int → Option S) (s : S) {n : Nat} (D : n < 2 ^ 63) : eE.f k u s (n : Int) = ou u s ((sv n).map fun b => (b.toNat : Int)) := by
 rw [← qX u 8 n s k (by omega) (by omega) D]
 unfold eE.f
 congr 1
 funext r
 cases u r.2 (IntKind.u8.wrap r.1) <;> rfl
def uG (s : List UInt8) (x : Int) : Option (List UInt8) := if 0 ≤ x ∧ x < 256 then (if (s.length + ([(hJ x)] : List UInt8).length) * 1 ≤ 140737488355328 then (some (s ++ ([(hJ x)] : List UInt8))) else none) else none
theorem wV : ∀ (l s : List UInt8), s.length + l.length ≤ 140737488355328 → ou uG s (l.map fun b => (b.toNat : Int)) = some (s ++ l)
 | [], s, _ => by simp [ou]
 | b :: l, s, h => by
  have u := UInt8.toNat_lt b
  simp only [List.length_cons] at h
  simp only [List.map_cons, ou, uG]
  rw [if_pos (by omega), if_pos (by simp; omega)]
  simp only [Option.bind_some, yQ]
  rw [wV l (s ++ [b]) (by simp; omega)]
  simp
def bf (x : Int) : List UInt8 := if okN x then sv x.toNat else []
def erV (x : Int) : Int := if okN x then 0 else 1
theorem rZ (x : Int) : uw x = 0 ↔ ¬ okN x := by
 unfold uw
 have := qc x.toNat
 split
 ·rename_i h; simp only [h, not_true_eq_false, iff_false]; omega
 ·rename_i h; simp [h]
/-! Two byte lists. -/
end Go.Proofs.YtndjkejhacfpdaaGreatDoor

namespace Go.Proofs.YtndjkejhacfpdaaGreatDoor
open Go.RowKit

def iM : Nat → List UInt8 → Nat
 | 0, _ => 0
 | i + 1, l => iM i l + (l.getD i 0).toNat % 128 * 128 ^ i
theorem wy : ∀ (i : Nat) (l : List UInt8), iM i l < 128 ^ i
 | 0, l => by simp [iM]
 | i + 1, l => by
  have := wy i l
  have u := Nat.mod_lt (l.getD i 0).toNat (show 128 > 0 by decide)
  simp only [iM]
  rw [Nat.pow_succ]
  have D : (l.getD i 0).toNat % 128 * 128 ^ i ≤ 127 * 128 ^ i := Nat.mul_le_mul_right _ (by omega)
  omega
theorem sO : ∀ (i : Nat) (b : UInt8) (l : List UInt8), iM (i + 1) (b :: l) = b.toNat % 128 + 128 * iM i l
 | 0, b, l => by simp [iM]
 | i + 1, b, l => by
  rw [iM, sO i b l, iM]
  simp only [List.getD_cons_succ]
  rw [Nat.pow_succ, Nat.mul_add, Nat.add_assoc]
  congr 2
  rw [Nat.mul_comm (128 ^ i) 128, ← Nat.mul_assoc, ← Nat.mul_assoc, Nat.mul_comm _ 128]
theorem ur : ∀ (k : Nat) (l : List UInt8), oi k l = iM (k + 1) l
 | 0, l => by simp [oi, iM]
 | k + 1, [] => by
  have z : ∀ k, oi k ([] : List UInt8) = 0 := by
   intro k; induction k with
   | zero => rfl
   | succ k ih => simp [oi, ih]
  have z2 : ∀ k, iM k ([] : List UInt8) = 0 := by
   intro k; induction k with
   | zero => rfl
   | succ k ih => simp [iM, ih]
  rw [z, z2]
 | k + 1, b :: l => by
  rw [sO, oi, ur k]
  simp
theorem zZ (l : List UInt8) (p i : Nat) : l.getD (p + i) 0 = (l.drop p).getD i 0 := by simp [List.getD_eq_getElem?_getD, List.getElem?_drop]
theorem Cf {n c i : Nat} (u : n < 128 ^ i) (J : c < 128) (hi : i ≤ 8) : df .or .i64 (n : Int) ((c * 128 ^ i : Nat) : Int) = ((n + c * 128 ^ i : Nat) : Int) := by
 have hp : (128 : Nat) ^ i = 2 ^ (7 * i) := by rw [Nat.pow_mul]
 have D : (128 : Nat) ^ i ≤ 128 ^ 8 := Nat.pow_le_pow_right (by decide) hi
 have I : c * 128 ^ i ≤ 127 * 128 ^ i := Nat.mul_le_mul_right _ (by omega)
 have e := (bits_nat .i64 63 (by decide) qw n (c * 128 ^ i) (by omega) (by omega)).2
 show bits .or .i64 _ _ = _
 rw [e, Nat.or_comm, Nat.mul_comm, hp, ← Nat.two_pow_add_eq_or_of_lt (by rw [← hp]; exact u) c, Nat.add_comm]
theorem A4 {c i : Nat} (hc : c < 256) (hi : i ≤ 8) : IntKind.i64.wrap ((IntKind.i64.wrap (df .and .u8 (c : Int) 127)) * 2 ^ (min (IntKind.i64.wrap (7 * (i : Int))).toNat IntKind.i64.bits)) = ((c % 128 * 128 ^ i : Nat) : Int) := by
 have u : IntKind.i64.wrap (7 * (i : Int)) = ((7 * i : Nat) : Int) := by rw [w64 (by omega) (by omega)]; simp
 have D : df .and .u8 (c : Int) 127 = ((c % 128 : Nat) : Int) := by rw [BP (by omega) (by omega)]; simp
 have I : min ((7 * i : Nat) : Int).toNat IntKind.i64.bits = 7 * i := by
  show min ((7 * i : Nat) : Int).toNat 64 = 7 * i
  simp; omega
 have hp : (128 : Nat) ^ i = 2 ^ (7 * i) := by rw [Nat.pow_mul]
 have J : (128 : Nat) ^ i ≤ 128 ^ 8 := Nat.pow_le_pow_right (by decide) hi
 have U : c % 128 * 128 ^ i ≤ 127 * 128 ^ i := Nat.mul_le_mul_right _ (by omega)
 rw [u, D, I, w64 (n := ((c % 128 : Nat) : Int)) (by omega) (by omega)]
 have X : ((c % 128 : Nat) : Int) * 2 ^ (7 * i) = ((c % 128 * 128 ^ i : Nat) : Int) := by rw [hp]; simp
 rw [X, w64 (by omega) (by omega)]
theorem pX {l : List UInt8} {i : Nat} (hi : fI l = i) (I : i < 9) (u : i < l.length) :
  dec l = if 0 < i ∧ (l.getD i 0).toNat = 0 then (0, 0, 4) else if 2 ^ 62 < iM (i + 1) l then (0, 0, 1) else (((iM (i + 1) l : Nat) : Int), ((i + 1 : Nat) : Int), (0 : Int)) := by
 have D : l ≠ [] := by rintro rfl; simp at u
 unfold dec
 rw [if_neg D, hi, if_neg (by omega), if_neg (by omega), ur]
theorem wo {l : List UInt8} (D : 9 ≤ fI l) : dec l = (0, 0, 4) := by
 have u : l ≠ [] := by rintro rfl; simp [fI] at D
 unfold dec
 rw [if_neg u, if_pos D]
theorem uj {l : List UInt8} (D : fI l < 9) (u : l.length ≤ fI l) : dec l = (0, 0, 2) := by
 unfold dec
 by_cases hne : l = []
 ·rw [if_pos hne]
 ·rw [if_neg hne, if_neg (by omega), if_pos u]
def mt (b : List UInt8) (u : Int) : Int × Int × Int := if u < 0 ∨ (b.length : Int) ≤ u then (0, 0, 2) else dec (b.drop u.toNat)
theorem wz (b : List UInt8) (x : Int) : ((decide (x < (0 : Int))) || (decide ((b.length : Int) ≤ x))) = true ↔ (x < 0 ∨ (b.length : Int) ≤ x) := by simp
theorem wA (b : List UInt8) (p : Nat) (hp : p < b.length) (hb : b.length < 2 ^ 62) : ∀ (d i k : Nat), i + d = 9 → d + 1 ≤ k → i ≤ fI (b.drop p) →
  (orR (gU.l0 b (p : Int) k ((iM i (b.drop p) : Nat) : Int) (i : Int)) fun _ => some ((0 : Int), (0 : Int), (4 : Int))) = some (dec (b.drop p))
 | d, i, 0, _, hk, _ => by omega
 | 0, i, k + 1, hd, hk, hl => by
  have u : b.drop p ≠ [] := by intro e; have := congrArg List.length e; simp at this; omega
  simp only [gU.l0]
  rw [if_neg (by omega)]
  simp only [orR, Option.some.injEq]
  unfold dec
  rw [if_neg u, if_pos (by omega)]
 | d + 1, i, k + 1, hd, hk, hl => by
  have u : b.drop p ≠ [] := by intro e; have := congrArg List.length e; simp at this; omega
  have ad : (b.drop p).length = b.length - p := by simp
  have an := xv (b.drop p)
  simp only [gU.l0]
  rw [if_pos (by omega)]
  by_cases hend : b.length - p ≤ i
  ·rw [w64 (n := (b.length : Int) - (p : Int)) (by omega) (by omega), if_pos (by omega)]
   simp only [orR, Option.some.injEq]
   unfold dec
   rw [if_neg u, if_neg (by omega), if_pos (by omega)]
  ·have J : IntKind.i64.wrap ((p : Int) + (i : Int)) = ((p + i : Nat) : Int) := by rw [w64 (by omega) (by omega)]; simp
   have e7 : IntKind.i64.wrap (7 * (i : Int)) = ((7 * i : Nat) : Int) := by rw [w64 (by omega) (by omega)]; simp
   have U : IntKind.i64.wrap ((i : Int) + 1) = ((i + 1 : Nat) : Int) := by rw [w64 (by omega) (by omega)]; simp
   have hc := sS (b.drop p) i
   have X := wy i (b.drop p)
   have ab := A4 (c := ((b.drop p).getD i 0).toNat) (i := i) hc (by omega)
   have I := Cf (c := ((b.drop p).getD i 0).toNat % 128) (i := i) X (Nat.mod_lt _ (by decide)) (by omega)
   have D : iM i (b.drop p) + ((b.drop p).getD i 0).toNat % 128 * 128 ^ i = iM (i + 1) (b.drop p) := rfl
   rw [D] at I
   rw [w64 (n := (b.length : Int) - (p : Int)) (by omega) (by omega), if_neg (by omega)]
   rw [J, if_pos (by omega)]
   rw [if_pos (by rw [e7]; omega)]
   simp only [Int.toNat_natCast, zZ]
   rw [ab, I, U]
   by_cases hcont : 128 ≤ ((b.drop p).getD i 0).toNat
   ·rw [if_pos (by omega)]
    refine wA b p hp hb d (i + 1) k (by omega) (by omega) ?_
    refine Classical.byContradiction fun hx => ?_
    have hi : fI (b.drop p) = i := by omega
    have := tS (b.drop p) (by omega)
    rw [hi] at this
    omega
   ·have hi : fI (b.drop p) = i := by
     refine Nat.le_antisymm (Nat.not_lt.1 fun hx => ?_) hl
     exact hcont (tR _ i hx)
    rw [pX hi (by omega) (by omega), if_neg (by omega)]
    by_cases hz : 0 < i ∧ ((b.drop p).getD i 0).toNat = 0
    ·rw [if_pos (by simp only [Bool.and_eq_true, decide_eq_true_eq]; omega), if_pos hz]
     rfl
    ·rw [if_neg (by simp only [Bool.and_eq_true, decide_eq_true_eq]; omega), if_neg hz]
     by_cases hbig : 2 ^ 62 < iM (i + 1) (b.drop p)
     ·rw [if_pos (by omega), if_pos hbig]; rfl
     ·rw [if_neg (by omega), if_neg hbig]; rfl
theorem wQ {k : Nat} (u : 10 ≤ k) {b : List UInt8} (D : b.length < 2 ^ 62) (x : Int) : gU.f k b x = some (mt b x) := by
 unfold gU.f mt
 by_cases h : x < 0 ∨ (b.length : Int) ≤ x
 ·rw [if_pos ((wz b x).2 h), if_pos h]
 ·rw [if_neg (by rw [wz]; exact h), if_neg h]
  obtain ⟨p, rfl⟩ := Int.eq_ofNat_of_zero_le (show 0 ≤ x by omega)
  exact wA b p (by omega) D 9 0 k (by omega) u (Nat.zero_le _)
end Go.Proofs.YtndjkejhacfpdaaGreatDoor

namespace Go.Proofs.YtndjkejhacfpdaaGreatDoor
open Go.RowKit
theorem eh (x : Int) : (bf x).length ≤ 9 := by
 unfold bf
 split
 ·rename_i h; have := h.2; exact sv9 (by omega)
 ·simp
theorem tQ (x : Int) : erV x = 0 ↔ okN x := by unfold erV; split <;> simp_all
theorem CU {l : List UInt8} (h : (dec l).2.2 = 0) : ∃ i, fI l = i ∧ i < 9 ∧ i < l.length ∧ ¬ (0 < i ∧ (l.getD i 0).toNat = 0) ∧ iM (i + 1) l ≤ 2 ^ 62 ∧ dec l = (((iM (i + 1) l : Nat) : Int), ((i + 1 : Nat) : Int), (0 : Int)) := by
 by_cases h9 : 9 ≤ fI l
 ·rw [wo h9] at h; simp at h
 by_cases hs : l.length ≤ fI l
 ·rw [uj (by omega) hs] at h; simp at h
 rw [pX rfl (by omega) (by omega)] at h
 by_cases hz : 0 < fI l ∧ (l.getD (fI l) 0).toNat = 0
 ·rw [if_pos hz] at h; simp at h
 rw [if_neg hz] at h
 by_cases hb : 2 ^ 62 < iM (fI l + 1) l
 ·rw [if_pos hb] at h; simp at h
 refine ⟨fI l, rfl, by omega, by omega, hz, by omega, ?_⟩
 rw [pX rfl (by omega) (by omega), if_neg hz, if_neg hb]
theorem B5 {l : List UInt8} (h : ¬ (dec l).2.2 = 0) : (dec l).1 = 0 ∧ (dec l).2.1 = 0 := by
 by_cases h9 : 9 ≤ fI l
 ·rw [wo h9]; exact ⟨rfl, rfl⟩
 by_cases hs : l.length ≤ fI l
 ·rw [uj (by omega) hs]; exact ⟨rfl, rfl⟩
 rw [pX rfl (by omega) (by omega)] at h ⊢
 by_cases hz : 0 < fI l ∧ (l.getD (fI l) 0).toNat = 0
 ·rw [if_pos hz]; exact ⟨rfl, rfl⟩
 rw [if_neg hz] at h ⊢
 by_cases hb : 2 ^ 62 < iM (fI l + 1) l
 ·rw [if_pos hb]; exact ⟨rfl, rfl⟩
 ·rw [if_neg hb] at h; exact absurd rfl h
theorem Cq (l : List UInt8) (p n : Nat) : cut l (p : Int) ((p + n : Nat) : Int) = (l.drop p).take n := by
 simp only [cut, Int.toNat_natCast]
 rw [List.drop_take]
 congr 1
 omega
end Go.Proofs.YtndjkejhacfpdaaGreatDoor

namespace Go.Proofs.YtndjkejhacfpdaaGreatDoor
open Go.RowKit
theorem qv {x : List UInt8} (h : x.length ≤ 140737488355328) : iH.f x = some x := by
 unfold iH.f
 rw [if_pos (by omega)]
 simp [mX]
/-! ### The reader -/
theorem AV {b : List UInt8} {p : Nat} (h : (mt b (p : Int)).2.2 = 0) : ∃ n j : Nat, mt b (p : Int) = ((n : Int), (j : Int), 0) ∧ 1 ≤ j ∧ p + j ≤ b.length ∧ n ≤ 2 ^ 62 := by
 unfold mt at h ⊢
 by_cases hat : (p : Int) < 0 ∨ (b.length : Int) ≤ (p : Int)
 ·rw [if_pos hat] at h; simp at h
 ·rw [if_neg hat] at h ⊢
  obtain ⟨i, hi, I, u, J, D, hd⟩ := CU h
  simp only [Int.toNat_natCast, List.length_drop] at u D hd ⊢
  exact ⟨_, _, hd, by omega, by omega, D⟩
theorem zW {b : List UInt8} {p : Int} (h : ¬ (mt b p).2.2 = 0) : (mt b p).1 = 0 ∧ (mt b p).2.1 = 0 := by
 unfold mt at h ⊢
 by_cases hat : p < 0 ∨ (b.length : Int) ≤ p
 ·rw [if_pos hat]; exact ⟨rfl, rfl⟩
 ·rw [if_neg hat] at h ⊢; exact B5 h
def jP (b : List UInt8) (p : Nat) (e : Int) : Int × Int × Int := if e = 0 then mt b (p : Int) else (0, 0, e)
theorem tn {b : List UInt8} {p : Nat} {e : Int} (h : (jP b p e).2.2 = 0) : ∃ n j : Nat, jP b p e = ((n : Int), (j : Int), 0) ∧ 1 ≤ j ∧ p + j ≤ b.length ∧ n ≤ 2 ^ 62 := by
 unfold jP at h ⊢
 by_cases he : e = 0
 ·rw [if_pos he] at h ⊢; exact AV h
 ·rw [if_neg he] at h; exact absurd h he
theorem ww {b : List UInt8} {p : Nat} {e : Int} (h : ¬ (jP b p e).2.2 = 0) : (jP b p e).1 = 0 ∧ (jP b p e).2.1 = 0 := by
 unfold jP at h ⊢
 by_cases he : e = 0
 ·rw [if_pos he] at h ⊢; exact zW h
 ·rw [if_neg he]; exact ⟨rfl, rfl⟩
theorem xS {k : Nat} (D : 12 ≤ k) {b : List UInt8} (u : b.length < 2 ^ 62) (p : Nat) (e : Int) :
  gf.f k b (p : Int) e = some ((jP b p e).1, (jP b p e).2.1, decide ((jP b p e).2.2 = 0), (p : Int), (jP b p e).2.2) := by
 unfold gf.f jP
 by_cases he : e = 0
 ·rw [if_pos he, if_pos he, wQ (by omega) u]; rfl
 ·rw [if_neg he, if_neg he]; simp [he]
def nC (b : List UInt8) (p : Nat) (e : Int) : Nat := p + (jP b p e).2.1.toNat
theorem xn {b : List UInt8} {p : Nat} {e : Int} (hp : p ≤ b.length) : nC b p e ≤ b.length := by
 unfold nC
 by_cases h : (jP b p e).2.2 = 0
 ·obtain ⟨n, j, hd, h1, u, D⟩ := tn h
  rw [hd]; simpa using u
 ·rw [(ww h).2]; simpa using hp
theorem BK {k : Nat} (D : 12 ≤ k) {b : List UInt8} (I : b.length < 2 ^ 62) (p : Nat) (e : Int) (hp : p ≤ b.length) :
  cc.f k b (p : Int) e = some ((jP b p e).1, ((nC b p e : Nat) : Int), (jP b p e).2.2) := by
 unfold cc.f nC
 rw [xS D I]
 simp only [Option.bind_some]
 by_cases h : (jP b p e).2.2 = 0
 ·obtain ⟨n, j, hd, h1, u, J⟩ := tn h
  rw [hd]
  simp only [decide_true, Bool.not_true, Bool.false_eq_true, if_false, Int.toNat_natCast]
  rw [w64 (by omega) (by omega)]
  simp
 ·obtain ⟨h1, u⟩ := ww h
  rw [if_pos (by simp [h]), h1, u]
  rfl
def kv (b : List UInt8) (p : Nat) (e : Int) (most : Int) : List UInt8 × Nat × Int :=
 let d := jP b p e
 if d.2.2 = 0 then
  if max most 0 < d.1 then ([], p, 3) else
  if (b.length : Int) - (nC b p e : Nat) < d.1 then ([], p, 2) else ((b.drop (nC b p e)).take d.1.toNat, nC b p e + d.1.toNat, 0)
 else ([], p, d.2.2)
theorem zp {k : Nat} (u : 12 ≤ k) {b : List UInt8} (X : b.length < 2 ^ 47) (p : Nat) (e most : Int) (hp : p ≤ b.length) :
  fe.f k b (p : Int) e most = some ((kv b p e most).1, (((kv b p e most).2.1 : Nat) : Int), (kv b p e most).2.2) := by
 unfold fe.f kv nC
 rw [xS u (by omega)]
 simp only [Option.bind_some]
 by_cases h : (jP b p e).2.2 = 0
 ·obtain ⟨n, j, hd, h1, h2, h3⟩ := tn h
  rw [hd]
  simp only [decide_true, Bool.not_true, Bool.false_eq_true, if_false, if_true, Int.toNat_natCast]
  by_cases hn : max most 0 < (n : Int)
  ·rw [if_pos hn, if_pos hn]
  ·rw [if_neg hn, if_neg hn]
   have D : IntKind.i64.wrap ((b.length : Int) - (p : Int)) = (b.length : Int) - (p : Int) := w64 (by omega) (by omega)
   have I : IntKind.i64.wrap (((b.length : Int) - (p : Int)) - (j : Int)) = (b.length : Int) - ((p + j : Nat) : Int) := by rw [w64 (by omega) (by omega)]; omega
   have J : IntKind.i64.wrap ((p : Int) + (j : Int)) = ((p + j : Nat) : Int) := by rw [w64 (by omega) (by omega)]; simp
   rw [D, I]
   by_cases hs : (b.length : Int) - ((p + j : Nat) : Int) < (n : Int)
   ·rw [if_pos hs, if_pos hs]
   ·have U : IntKind.i64.wrap (((p + j : Nat) : Int) + (n : Int)) = ((p + j + n : Nat) : Int) := by rw [w64 (by omega) (by omega)]; simp
    rw [if_neg hs, if_neg hs, J, U, if_pos (by omega), Cq, qv (by rw [List.length_take, List.length_drop]; omega)]
    rfl
 ·rw [if_pos (by simp [h])]; simp [h]
theorem zr {b : List UInt8} {p : Nat} {e most : Int} (hp : p ≤ b.length) : (kv b p e most).2.1 ≤ b.length ∧ (kv b p e most).1.length ≤ b.length := by
 unfold kv
 simp only []
 have := xn (e := e) hp
 split
 ·split
  ·exact ⟨hp, by simp⟩
  ·split
   ·exact ⟨hp, by simp⟩
   ·rename_i h1 u D
    refine ⟨by simp only []; omega, ?_⟩
    simp only [List.length_take, List.length_drop]; omega
 ·exact ⟨hp, by simp⟩
end Go.Proofs.YtndjkejhacfpdaaGreatDoor

namespace Go.Proofs.YtndjkejhacfpdaaGreatDoor
open Go.RowKit
def vF (b : List UInt8) (e x : Int) : List UInt8 × Int := if e = 0 then (b ++ bf x, erV x) else (b, e)
def sC (b : List UInt8) (e : Int) (l : List UInt8) (most : Int) : List UInt8 × Int :=
 if e = 0 then (if max most 0 < (l.length : Int) then (b, 3) else (b ++ bf (l.length : Int) ++ l, 0)) else (b, e)
theorem xm {k : Nat} (u : 10 ≤ k) {b : List UInt8} (D : b.length + 9 ≤ 140737488355328) (e x : Int) : bU.f k b e x = some (vF b e x) := by
 unfold bU.f vF
 by_cases he : e = 0
 ·rw [if_pos he, if_pos he, uF u, Option.bind_some]
  unfold bf erV
  by_cases h : okN x
  ·obtain ⟨n, rfl⟩ := Int.eq_ofNat_of_zero_le h.1
   have I : n ≤ 4611686018427387904 := by have := h.2; omega
   have J := sv9 (n := n) (by omega)
   rw [if_neg (by rw [rZ]; simpa using h), if_pos h, if_pos h]
   show ((eE.f k uG b (n : Int)).bind _) = _
   rw [yP u _ _ (by omega), wV _ _ (by omega), he]
   rfl
  ·rw [if_pos ((rZ x).2 h), if_neg h, if_neg h]; simp
 ·rw [if_neg he, if_neg he]
theorem Cb {l : List UInt8} (h : l.length < 2 ^ 47) : okN (l.length : Int) := ⟨by omega, by omega⟩
theorem zo {k : Nat} (u : 10 ≤ k) {b l : List UInt8} (I : b.length + 9 + l.length < 140737488355328) (e most : Int) : fA.f k b e l most = some (sC b e l most) := by
 unfold fA.f sC
 by_cases he : e = 0
 ·by_cases hm : max most 0 < (l.length : Int)
  ·rw [if_pos (by simp [he]; omega), if_pos he, if_pos hm]; rfl
  ·have D := Cb (l := l) (by omega)
   have J := eh (l.length : Int)
   rw [if_neg (by simp; omega), if_pos he, if_neg hm, Option.bind_some, if_pos he, xm u (by omega), Option.bind_some]
   unfold vF
   rw [if_pos he, (tQ _).2 D]
   simp only []
   rw [if_pos (by rw [List.length_append]; omega)]
 ·rw [if_neg (by simp [he]), if_neg he, Option.bind_some, if_neg he]
def uC (b : List UInt8) (e : Int) : List UInt8 × Int := if e = 0 then (b, 0) else ([], e)
theorem Ax {b : List UInt8} (u : b.length ≤ 140737488355328) (e : Int) : fq.f b e = some (uC b e) := by
 unfold fq.f uC
 by_cases he : e = 0
 ·rw [if_pos he, if_pos he, qv u]; rfl
 ·rw [if_neg he, if_neg he]
end Go.Proofs.YtndjkejhacfpdaaGreatDoor

namespace Go.Proofs.YtndjkejhacfpdaaGreatDoor
open Go.RowKit
def rg (x l : Int) : Prop := l ≤ x ∧ x ≤ 4611686018427387904
instance (x l : Int) : Decidable (rg x l) := by unfold rg; infer_instance
theorem qT {x l : Int} (h : rg x l) (u : 0 ≤ l) : okN x := ⟨Int.le_trans u h.1, h.2⟩
theorem ta (x l : Int) : dF.f x l = some (decide (rg x l)) := by
 have : (decide (l ≤ x) && decide (x ≤ 4611686018427387904)) = decide (rg x l) := by rw [Bool.eq_iff_iff, Bool.and_eq_true, decide_eq_true_iff, decide_eq_true_iff, decide_eq_true_iff]; rfl
 unfold dF.f; rw [this]
/-! ### Checks -/
def lG (t i kd : Int) (d : List UInt8) : Int := if ¬ (rg t 1 ∧ rg i 1) then 1 else if kd ≠ 0 ∧ kd ≠ 1 then 6 else if 4096 < (d.length : Int) then 3 else if kd = 0 ∧ 0 < (d.length : Int) then 4 else 0
def Bb (i t : Int) (d : List UInt8) : Prop := (i = 0 ∧ t = 0) ∧ (d.length : Int) = 0
instance (i t : Int) (d : List UInt8) : Decidable (Bb i t d) := by unfold Bb; infer_instance
theorem cE (t i kd : Int) (d : List UInt8) : ce.f t i kd d = some (lG t i kd d) := by
 unfold ce.f lG
 simp only [ta, Option.bind_some]
 by_cases h1 : rg t 1 <;> by_cases h2 : rg i 1 <;> simp [h1, h2]
 by_cases h3 : kd = 0 <;> by_cases h4 : kd = 1 <;> simp [h3, h4] <;> (repeat' split) <;> simp_all <;> omega
end Go.Proofs.YtndjkejhacfpdaaGreatDoor

namespace Go.Proofs.YtndjkejhacfpdaaGreatDoor
open Go.RowKit
theorem C8 {x : Int} (h : okN x) (b : List UInt8) : vF b 0 x = (b ++ bf x, 0) := by unfold vF; rw [if_pos rfl, (tQ x).2 h]
theorem BJ {d : List UInt8} {m : Int} (h : (d.length : Int) ≤ m) (b : List UInt8) : sC b 0 d m = (b ++ bf (d.length : Int) ++ d, 0) := by
 unfold sC; rw [if_pos rfl, if_neg (by omega)]
theorem CE (b : List UInt8) : uC b 0 = (b, 0) := by unfold uC; rw [if_pos rfl]
theorem wI {k : Nat} (u : 10 ≤ k) {b : List UInt8} (D : b.length ≤ 100000000) {x : Int} (h : okN x) : bU.f k b 0 x = some (b ++ bf x, 0) := by
 rw [xm u (by omega), C8 h]
theorem wB {k : Nat} (u : 10 ≤ k) {b d : List UInt8} (D : b.length ≤ 100000000) {m : Int} (h : (d.length : Int) ≤ m) (hd : d.length ≤ 100000000) : fA.f k b 0 d m = some (b ++ bf (d.length : Int) ++ d, 0) := by
 rw [zo u (by omega), BJ h]
theorem wD {b : List UInt8} (u : b.length ≤ 100000000) : fq.f b 0 = some (b, 0) := by rw [Ax (by omega), CE]
/-! ### Texts -/
def bB (d : List UInt8) : List UInt8 := bf (d.length : Int) ++ d
theorem vo (d : List UInt8) : (bB d).length ≤ 9 + d.length := by unfold bB; have := eh (d.length : Int); rw [List.length_append]; omega
def txE (t i kd : Int) (d : List UInt8) : List UInt8 := bf t ++ (bf i ++ (bf kd ++ bB d))
theorem gY {t i kd : Int} {d : List UInt8} (h : lG t i kd d = 0) : rg t 1 ∧ rg i 1 ∧ (kd = 0 ∨ kd = 1) ∧ (d.length : Int) ≤ 4096 ∧ (kd = 0 → d = []) := by
 unfold lG at h
 split at h
 ·omega
 ·split at h
  ·omega
  ·split at h
   ·omega
   ·split at h
    ·omega
    ·rename_i h1 u D I
     have h1 := Classical.not_not.1 h1
     refine ⟨h1.1, h1.2, by omega, by omega, fun e => ?_⟩
     exact List.eq_nil_of_length_eq_zero (by omega)
def As (c : Int) (t : List UInt8) : List UInt8 × Int := if c = 0 then (t, 0) else ([], c)
theorem C7 {k : Nat} (u : 10 ≤ k) (t i kd : Int) (d : List UInt8) : gQ.f k t i kd d = some (As (lG t i kd d) (txE t i kd d)) := by
 unfold gQ.f eZ.f gX.f As
 rw [cE, Option.bind_some]
 by_cases h : lG t i kd d = 0
 ·obtain ⟨h1, D, J, I, _⟩ := gY h
  have U := eh t; have X := eh i; have b3 := eh kd; have b4 := eh (d.length : Int)
  rw [if_pos h, if_pos h, show gL.f = some ([], 0) from rfl]
  simp only [Option.bind_some]
  rw [wI u (by simp) (qT h1 (by decide)), Option.bind_some, wI u (by simp; omega) (qT D (by decide)), Option.bind_some, wI u (by simp; omega) (by unfold okN; omega), Option.bind_some, wB u (by simp; omega) I (by omega), Option.bind_some]
  simp only [Option.bind_some]
  rw [wD (by simp; omega)]
  simp [txE, bB]
 ·rw [if_neg h, if_neg h]; rfl
end Go.Proofs.YtndjkejhacfpdaaGreatDoor

namespace Go.Proofs.YtndjkejhacfpdaaGreatDoor
open Go.RowKit
def rI (b : List UInt8) (p : Nat) (e : Int) : Int × Nat × Int := ((jP b p e).1, nC b p e, (jP b p e).2.2)
def vG (b : List UInt8) (p : Nat) (e : Int) : Int := if e = 0 ∧ p < b.length then 3 else e
theorem yx {b : List UInt8} {p : Nat} {e : Int} (hp : p ≤ b.length) : (rI b p e).2.1 ≤ b.length := xn hp
theorem cI {k : Nat} (hk : 12 ≤ k) {b : List UInt8} (hb : b.length ≤ 100000000) {p : Nat} (hp : p ≤ b.length) (e : Int) : cc.f k b (p : Int) e = some ((rI b p e).1, (((rI b p e).2.1 : Nat) : Int), (rI b p e).2.2) := BK hk (by omega) p e hp
theorem cB {k : Nat} (hk : 12 ≤ k) {b : List UInt8} (hb : b.length ≤ 100000000) {p : Nat} (hp : p ≤ b.length) (e most : Int) : fe.f k b (p : Int) e most = some ((kv b p e most).1, (((kv b p e most).2.1 : Nat) : Int), (kv b p e most).2.2) := zp hk (by omega) p e most hp
theorem vH {b : List UInt8} (hb : b.length ≤ 100000000) : gO.f b = some (b, ((0 : Nat) : Int), 0) := by unfold gO.f; rw [qv (by omega)]; rfl
theorem BL {b : List UInt8} (hb : b.length ≤ 100000000) {p : Nat} (hp : p ≤ b.length) : IntKind.i64.wrap ((b.length : Int) - (p : Int)) = (b.length : Int) - (p : Int) := w64 (by omega) (by omega)
theorem Bd {b : List UInt8} (hb : b.length ≤ 100000000) {p : Nat} (hp : p ≤ b.length) (e : Int) : cf.f b (p : Int) e = some (vG b p e) := by
 unfold cf.f dV.f vG
 simp only [BL hb hp, Option.bind_some]
 by_cases h1 : e = 0 <;> by_cases h2 : p < b.length <;> simp [h1, h2] <;> (repeat' split) <;> first | rfl | omega
/-! ### What is read of any bytes -/
def vI (e c : Int) : Int := if e = 0 then c else e
def vJ (b : List UInt8) : Int × Int × Int × List UInt8 × Int :=
 let a := rI b 0 0; let i := rI b a.2.1 a.2.2; let kd := rI b i.2.1 i.2.2; let d := kv b kd.2.1 kd.2.2 4096
 let e := vI (vG b d.2.1 d.2.2) (lG a.1 i.1 kd.1 d.1); if e = 0 then (a.1, i.1, kd.1, d.1, 0) else (0, 0, 0, [], e)
theorem zq {e c : Int} : (if e = 0 then some c else some e) = some (vI e c) := by unfold vI; split <;> rfl
section
variable {k : Nat} (hk : 12 ≤ k) {b : List UInt8} (hb : b.length ≤ 100000000)
include hk hb
theorem C9 : gT.f k b = some (vJ b) := by
 have u : (0 : Nat) ≤ b.length := Nat.zero_le _
 have D := yx (e := 0) u; have I := yx (e := (rI b 0 0).2.2) D; have J := yx (e := (rI b (rI b 0 0).2.1 (rI b 0 0).2.2).2.2) I
 unfold gT.f fv.f
 rw [vH hb, Option.bind_some]; simp only []
 rw [cI hk hb u, Option.bind_some]; simp only []
 rw [cI hk hb D, Option.bind_some]; simp only []
 rw [cI hk hb I, Option.bind_some]; simp only []
 rw [cB hk hb J, Option.bind_some]; simp only []
 rw [Bd hb (zr J).1, Option.bind_some, cE]; simp only [Option.bind_some, zq]
 unfold vJ; simp only []
 split <;> rfl
end
/-! ### What is read of a text -/
theorem xo {b pre r : List UInt8} {x : Int} (h : b = pre ++ (bf x ++ r)) (u : okN x) : jP b pre.length 0 = (x, (((bf x).length : Nat) : Int), (0 : Int)) := by
 subst h
 obtain ⟨n, rfl⟩ := Int.eq_ofNat_of_zero_le u.1
 have D : n ≤ 2 ^ 62 := by have := u.2; omega
 have hb : bf (n : Int) = sv n := by unfold bf; rw [if_pos u]; rfl
 have hp := qc n
 unfold jP mt
 rw [if_pos rfl, hb, if_neg (by rw [List.length_append, List.length_append]; omega), Int.toNat_natCast, List.drop_left']
 ·exact CF D r
 ·rfl
theorem uD {b pre r : List UInt8} {x : Int} (h : b = pre ++ (bf x ++ r)) (u : okN x) : rI b pre.length 0 = (x, (pre ++ bf x).length, 0) := by
 unfold rI nC
 rw [xo h u]; simp
theorem Be {b pre r d : List UInt8} {most : Int} (h : b = pre ++ (bB d ++ r)) (hd : (d.length : Int) ≤ most) (J : d.length ≤ 100000000) : kv b pre.length 0 most = (d, (pre ++ bB d).length, 0) := by
 have u : okN (d.length : Int) := ⟨by omega, by omega⟩
 have h' : b = pre ++ (bf (d.length : Int) ++ (d ++ r)) := by rw [h]; simp [bB]
 have e := xo h' u
 have D : nC b pre.length 0 = pre.length + (bf (d.length : Int)).length := by unfold nC; rw [e]; rfl
 unfold kv
 rw [e, D]
 simp only [if_true, Int.toNat_natCast]
 rw [if_neg (by omega), if_neg (by rw [h']; simp only [List.length_append]; omega)]
 have I : b.drop (pre.length + (bf (d.length : Int)).length) = d ++ r := by
  rw [h', ← List.append_assoc, List.drop_left']; simp
 rw [I, List.take_left' rfl]
 simp [bB, Nat.add_assoc]
theorem xp {b pre r : List UInt8} (h : b = pre ++ r) : vG b pre.length 0 = if r = [] then 0 else 3 := by
 subst h
 unfold vG
 by_cases hr : r = []
 ·subst hr; simp
 ·have : 0 < r.length := List.length_pos_iff.2 hr
  rw [if_pos ⟨rfl, by rw [List.length_append]; omega⟩, if_neg hr]
theorem Da {r : List UInt8} : vI (if r = [] then 0 else 3) 0 = if r = [] then 0 else 3 := by unfold vI; split <;> simp_all
theorem BM {t i kd : Int} {d : List UInt8} (h : lG t i kd d = 0) (r : List UInt8) : vJ (txE t i kd d ++ r) = if r = [] then (t, i, kd, d, 0) else (0, 0, 0, [], 3) := by
 obtain ⟨h1, u, h3, D, _⟩ := gY h
 generalize hb : txE t i kd d ++ r = b
 have I := uD (b := b) (pre := []) (r := bf i ++ (bf kd ++ bB d) ++ r) (x := t) (by rw [← hb]; simp [txE]) (qT h1 (by decide))
 have J := uD (b := b) (pre := [] ++ bf t) (r := bf kd ++ bB d ++ r) (x := i) (by rw [← hb]; simp [txE]) (qT u (by decide))
 have U := uD (b := b) (pre := [] ++ bf t ++ bf i) (r := bB d ++ r) (x := kd) (by rw [← hb]; simp [txE]) (by unfold okN; omega)
 have X := Be (b := b) (pre := [] ++ bf t ++ bf i ++ bf kd) (r := r) (d := d) (most := 4096) (by rw [← hb]; simp [txE]) D (by omega)
 have e5 := xp (b := b) (pre := [] ++ bf t ++ bf i ++ bf kd ++ bB d) (r := r) (by rw [← hb]; simp [txE])
 unfold vJ
 rw [show (0 : Nat) = ([] : List UInt8).length from rfl, I]; simp only []
 rw [J]; simp only []
 rw [U]; simp only []
 rw [X]; simp only []
 rw [e5, h, Da]
 by_cases hr : r = [] <;> simp [hr]
end Go.Proofs.YtndjkejhacfpdaaGreatDoor

namespace Go.Proofs.YtndjkejhacfpdaaGreatDoor
open Go.RowKit
section
variable {α β : Type} [DecidableEq α]
theorem eU : ∀ (l : List (α × β)) (x : α) (y : β) (z : α), aW (bE l x y) z = if x = z then some y else aW l z
 | [], x, y, z => by simp [bE, aW]
 | p :: l, x, y, z => by
  by_cases h : p.1 = x
  ·by_cases hz : x = z <;> simp [bE, aW, h, hz]
  ·by_cases hz : p.1 = z
   ·have u : x ≠ z := fun e => h (hz.trans e.symm)
    subst hz
    simp [bE, aW, h, u]
   ·simp [bE, aW, h, hz, eU l x y z]
theorem tM : ∀ (l : List (α × β)) (x : α) (y : β), (bE l x y).map (·.1) = if x ∈ l.map (·.1) then l.map (·.1) else l.map (·.1) ++ [x]
 | [], x, y => by simp [bE]
 | p :: l, x, y => by
  by_cases h : p.1 = x
  ·simp [bE, h]
  ·have u := tM l x y
   have h' : ¬ x = p.1 := fun e => h e.symm
   by_cases hm : x ∈ l.map (·.1)
   ·rw [if_pos hm] at u; rw [if_pos (by simp only [List.map_cons]; exact List.mem_cons_of_mem _ hm)]; simp [bE, h, u]
   ·rw [if_neg hm] at u; rw [if_neg (by rw [List.map_cons, List.mem_cons]; rintro (e | e); exact h' e; exact hm e)]; simp [bE, h, u]
theorem pP {l : List (α × β)} {x : α} {y : β} (h : (l.map (·.1)).Nodup) : ((bE l x y).map (·.1)).Nodup := by
 rw [tM]
 split
 ·exact h
 ·rename_i D
  exact List.nodup_append.2 ⟨h, by simp, fun a I b u => by simp at u; subst u; exact fun e => D (e ▸ I)⟩
theorem rG : ∀ (l : List (α × β)) (x : α) (y : β) (e : α × β), e ∈ bE l x y → e = (x, y) ∨ e ∈ l
 | [], x, y, e, h => by simp [bE] at h; exact .inl h
 | p :: l, x, y, e, h => by
  by_cases hp : p.1 = x
  ·simp only [bE, if_pos hp, List.mem_cons] at h
   rcases h with h | h
   ·exact .inl h
   ·exact .inr (List.mem_cons_of_mem _ h)
  ·simp only [bE, if_neg hp, List.mem_cons] at h
   rcases h with h | h
   ·exact .inr (h ▸ List.mem_cons_self)
   ·rcases rG l x y e h with h | h
    ·exact .inl h
    ·exact .inr (List.mem_cons_of_mem _ h)
theorem iw : ∀ (l : List (α × β)) (x : α) (y : β), (bE l x y).length = if (aW l x).isSome then l.length else l.length + 1
 | [], x, y => by simp [bE, aW]
 | p :: l, x, y => by
  by_cases h : p.1 = x
  ·simp [bE, aW, h]
  ·simp only [bE, aW, if_neg h, List.length_cons, iw l x y]; split <;> rfl
theorem vA : ∀ (l : List (α × β)) (x : α), (fj l x).Sublist l
 | [], x => by simp [fj]
 | p :: l, x => by
  by_cases h : p.1 = x
  ·simp only [fj, if_pos h]; exact List.sublist_cons_self _ _
  ·simp only [fj, if_neg h]; exact (vA l x).cons_cons p
theorem vB : ∀ (l : List (α × β)) (x : α) (y : β), aW l x = some y → (x, y) ∈ l
 | [], x, y, h => by simp [aW] at h
 | p :: l, x, y, h => by
  by_cases hp : p.1 = x
  ·simp only [aW, if_pos hp, Option.some.injEq] at h; subst hp; subst h; exact List.mem_cons_self
  ·simp only [aW, if_neg hp] at h; exact List.mem_cons_of_mem _ (vB l x y h)
theorem oh : ∀ (l : List (α × β)) (x : α), x ∈ l.map (·.1) ↔ (aW l x).isSome = true
 | [], x => by simp [aW]
 | p :: l, x => by
  by_cases hp : p.1 = x
  ·simp [aW, hp]
  ·have h' : ¬ x = p.1 := fun e => hp e.symm
   rw [List.map_cons, List.mem_cons, oh l x]; simp [aW, hp, h']
theorem oU : ∀ (l : List (α × β)) (x : α) (y : β), (l.map (·.1)).Nodup → (x, y) ∈ l → aW l x = some y
 | [], x, y, _, h => by simp at h
 | p :: l, x, y, hn, h => by
  rw [List.map_cons, List.nodup_cons] at hn
  rcases List.mem_cons.1 h with h | h
  ·subst h; simp [aW]
  ·have : p.1 ≠ x := fun e => hn.1 (e ▸ List.mem_map_of_mem (f := (·.1)) h)
   simp only [aW, if_neg this]; exact oU l x y hn.2 h
theorem mf : ∀ (l : List (α × β)) (x z : α), (l.map (·.1)).Nodup → aW (fj l x) z = if x = z then none else aW l z
 | [], x, z, _ => by simp [fj, aW]
 | p :: l, x, z, hn => by
  rw [List.map_cons, List.nodup_cons] at hn
  by_cases h : p.1 = x
  ·simp only [fj, if_pos h]
   by_cases hz : x = z
   ·rw [if_pos hz]
    cases hm : aW l z with
    | none => rfl
    | some y => exact absurd (by rw [h, hz]; exact (oh l z).2 (by rw [hm]; rfl)) hn.1
   ·have : ¬ p.1 = z := fun e => hz (h.symm.trans e)
    rw [if_neg hz]; simp only [aW, if_neg this]
  ·simp only [fj, if_neg h]
   by_cases hp : p.1 = z
   ·have : ¬ x = z := fun e => h (hp.trans e.symm)
    rw [if_neg this]; simp only [aW, if_pos hp]
   ·simp only [aW, if_neg hp]; exact mf l x z hn.2
theorem rF : ∀ (l : List (α × β)) (x : α), (aW l x).isSome = true → (fj l x).length + 1 = l.length
 | [], x, h => by simp [aW] at h
 | p :: l, x, h => by
  by_cases hp : p.1 = x
  ·simp [fj, hp]
  ·simp only [aW, if_neg hp] at h
   simp only [fj, if_neg hp, List.length_cons, rF l x h]
end
theorem vC {β : Type} (kvs : List (List UInt8 × β)) : (gb kvs).Pairwise (· ≤ ·) := by
 have := List.pairwise_mergeSort (le := fun x y : List UInt8 => decide (x ≤ y)) (fun a b c h1 u => by simp only [decide_eq_true_eq] at *; exact List.le_trans h1 u) (fun a b => by simp only [Bool.or_eq_true, decide_eq_true_eq]; exact List.le_total a b) (kvs.map (·.1))
 exact this.imp fun h => of_decide_eq_true h
theorem nI {β : Type} (kvs : List (List UInt8 × β)) : (gb kvs).Perm (kvs.map (·.1)) := List.mergeSort_perm _ _
theorem vD {β : Type} {kvs : List (List UInt8 × β)} (h : (kvs.map (·.1)).Nodup) : (gb kvs).Pairwise (· < ·) := by
 have h1 := vC kvs
 have u : (gb kvs).Nodup := (nI kvs).nodup_iff.2 h
 refine (h1.and u).imp fun {a b} ⟨x, y⟩ => ?_
 rcases List.le_iff_lt_or_eq.1 x with h | h
 ·exact h
 ·exact absurd h y
theorem tP : ∀ {l m : List (List UInt8)}, l.Pairwise (· < ·) → m.Pairwise (· < ·) → (∀ x, x ∈ l ↔ x ∈ m) → l = m
 | [], [], _, _, _ => rfl
 | [], b :: m, _, _, h => absurd ((h b).2 (by simp)) (by simp)
 | a :: l, [], _, _, h => absurd ((h a).1 (by simp)) (by simp)
 | a :: l, b :: m, hl, hm, h => by
  have D := List.pairwise_cons.1 hl
  have I := List.pairwise_cons.1 hm
  have hab : a = b := by
   have h1 := (h a).1 (by simp)
   have J := (h b).2 (by simp)
   simp only [List.mem_cons] at h1 J
   rcases h1 with h1 | h1
   ·exact h1
   ·rcases J with J | J
    ·exact J.symm
    ·exact absurd (D.1 b J) (List.lt_asymm (I.1 a h1))
  subst hab
  refine congrArg _ (tP D.2 I.2 fun x => ?_)
  have U := h x
  simp only [List.mem_cons] at U
  constructor
  ·intro u
   rcases U.1 (.inr u) with e | e
   ·subst e; exact absurd (D.1 x u) (List.lt_irrefl _)
   ·exact e
  ·intro u
   rcases U.2 (.inr u) with e | e
   ·subst e; exact absurd (I.1 x u) (List.lt_irrefl _)
   ·exact e
end Go.Proofs.YtndjkejhacfpdaaGreatDoor

namespace Go.Proofs.YtndjkejhacfpdaaGreatDoor
open Go.RowKit
theorem rK {α : Type} (l : List α) (d : α) (i : Nat) (h : i < l.length) : l.getD i d = l[i] := by simp [List.getD_eq_getElem?_getD, List.getElem?_eq_getElem h]
theorem iP {α : Type} (l : List α) (d : α) {i : Nat} (h : i < l.length) : l.drop i = l.getD i d :: l.drop (i + 1) := by rw [rK _ _ _ h]; exact List.drop_eq_getElem_cons h
theorem wi1 {i : Nat} (h : i < 2 ^ 62) : IntKind.i64.wrap ((i : Int) + 1) = ((i + 1 : Nat) : Int) := by rw [w64 (by omega) (by omega)]; simp
/-! ### Names -/
def qx (c : UInt8) : Bool := ((((decide (((c.toNat : Int)) < (97 : Int))) || (decide ((122 : Int) < (c.toNat : Int)))) && ((decide ((c.toNat : Int) < (48 : Int))) || (decide ((57 : Int) < (c.toNat : Int))))) && (!decide ((c.toNat : Int) = (45 : Int)))) && (!decide ((c.toNat : Int) = (46 : Int)))
def nmB (x : List UInt8) : Bool := (x.all fun c => !qx c) && (decide ((0 : Int) < (x.length : Int)) && decide ((x.length : Int) ≤ (32 : Int)))
theorem sD (x : List UInt8) (u : x.length < 2 ^ 62) : ∀ (d i k : Nat), i + d = x.length → d + 1 ≤ k → fP.l0 x k (i : Int) = some (if (x.drop i).all (fun c => !qx c) then .inl () else .inr false)
 | d, i, 0, _, hk => by omega
 | 0, i, k + 1, h, _ => by
  simp only [fP.l0]
  rw [if_neg (by omega), List.drop_of_length_le (by omega)]; rfl
 | d + 1, i, k + 1, h, hk => by
  simp only [fP.l0]
  rw [if_pos (by omega), if_pos (by omega), wi1 (by omega), sD x u d (i + 1) k (by omega) (by omega), iP x 0 (i := i) (by omega)]
  simp only [Int.toNat_natCast, List.all_cons]
  obtain ⟨c, D⟩ : ∃ c, x.getD i 0 = c := ⟨_, rfl⟩
  simp only [D]
  have e : ((if ((decide (((c.toNat : Int)) < (97 : Int))) || (decide ((122 : Int) < (c.toNat : Int)))) = true then (some ((decide ((c.toNat : Int) < (48 : Int))) || (decide ((57 : Int) < (c.toNat : Int))))) else (some false)) : Option Bool) = some (((decide (((c.toNat : Int)) < (97 : Int))) || (decide ((122 : Int) < (c.toNat : Int)))) && ((decide ((c.toNat : Int) < (48 : Int))) || (decide ((57 : Int) < (c.toNat : Int))))) := by
   cases ((decide (((c.toNat : Int)) < (97 : Int))) || (decide ((122 : Int) < (c.toNat : Int)))) <;> rfl
  rw [e, Option.bind_some]
  show (if qx c = true then _ else _) = _
  cases qx c <;> rfl
theorem Az {x : List UInt8} {k : Nat} (u : x.length < 2 ^ 62) (D : x.length + 1 ≤ k) : fP.f k x = some (nmB x) := by
 unfold fP.f nmB
 have := sD x u x.length 0 k (by omega) (by omega)
 rw [show ((0 : Nat) : Int) = 0 from rfl, List.drop_zero] at this
 rw [this]
 cases x.all fun c => !qx c <;> rfl
theorem BQ {x : List UInt8} (h : nmB x = true) : x.length ≤ 32 := by
 unfold nmB at h
 simp at h
 omega
/-! ### What a disk is -/
abbrev FSt := List (List UInt8 × (List UInt8 × Int))
abbrev DS := FSt × List UInt8 × Int × Bool
def szF (fs : FSt) : Nat := (fs.map fun p => p.2.1.length).sum
structure gg (n : Nat) (fs : FSt) : Prop where
 nd : (fs.map (·.1)).Nodup
 sy : ∀ p ∈ fs, 0 ≤ p.2.2 ∧ p.2.2 ≤ (p.2.1.length : Int)
 nm : ∀ p ∈ fs, p.1.length ≤ 32
 sz : szF fs ≤ 16777216
 ln : fs.length ≤ n
theorem Dn (n : Nat) : gg n [] := ⟨by simp, by simp, by simp, by simp [szF], by simp⟩
def bv (fs : FSt) (x : List UInt8) : List UInt8 × Int := (aW fs x).getD ([], 0)
theorem ko {fs : FSt} {x : List UInt8} (h : (aW fs x).isSome = true) : (x, bv fs x) ∈ fs := vB _ _ _ (by rw [bv]; exact jn h)
theorem BR {fs : FSt} (h : (fs.map (·.1)).Nodup) {p : List UInt8 × (List UInt8 × Int)} (hp : p ∈ fs) : bv fs p.1 = p.2 := by
 rw [bv, oU fs p.1 p.2 h hp]; rfl
theorem oj : ∀ {fs : FSt} {p : List UInt8 × (List UInt8 × Int)}, p ∈ fs → p.2.1.length ≤ szF fs
 | [], _, h => by cases h
 | q :: l, p, h => by
  rcases List.mem_cons.1 h with rfl | h
  ·simp [szF]
  ·have := oj h
   simp only [szF, List.map_cons, List.sum_cons] at this ⊢; omega
/-! ### Sizes -/
def oH (fs : FSt) (x : List UInt8) : Nat := (bv fs x).1.length
theorem tT (fs : FSt) : ∀ (l : List (List UInt8)) (s : Nat), (∀ x ∈ l, (aW fs x).isSome = true) → s + (l.map (oH fs)).sum < 2 ^ 62 →
  jx (fun (s : Int) (x : List UInt8) (v : List UInt8 × Int) => some (IntKind.i64.wrap (s + (v.1.length : Int)), v)) l (s : Int) fs = some (((s + (l.map (oH fs)).sum : Nat) : Int), fs)
 | [], s, _, _ => by simp [jx]
 | x :: l, s, h, hb => by
  have I := h x (by simp)
  have D : aW fs x = some (bv fs x) := by rw [bv]; exact jn I
  simp only [List.map_cons, List.sum_cons] at hb ⊢
  have u : (bv fs x).1.length = oH fs x := rfl
  rw [jx, D, Option.bind_some]
  simp only [Option.bind_some]
  rw [nq D, w64 (by omega) (by omega)]
  have := tT fs l (s + oH fs x) (fun y J => h y (List.mem_cons_of_mem _ J)) (by omega)
  rw [show (s : Int) + ((bv fs x).1.length : Int) = ((s + oH fs x : Nat) : Int) by rw [u]; omega, this]
  congr 2
  omega
theorem AA {fs : FSt} (h : (fs.map (·.1)).Nodup) : ((fs.map (·.1)).map (oH fs)).sum = szF fs := by
 unfold szF
 rw [List.map_map]
 congr 1
 refine List.map_congr_left fun p hp => ?_
 simp only [Function.comp, oH, BR h hp]
theorem tU {fs : FSt} {x : List UInt8} (h : x ∈ fs.map (·.1)) : (aW fs x).isSome = true := (oh fs x).1 h
theorem BS {n : Nat} {fs : FSt} (h : gg n fs) (l : List UInt8) (a : Int) (d : Bool) : jb.f fs l a d = some (szF fs : Int) := by
 unfold jb.f qq kW
 have u := AA h.nd
 have I := h.sz
 have h1 : ∀ m, m.Perm (fs.map (·.1)) → jx (fun (s : Int) (x : List UInt8) (v : List UInt8 × Int) => (some (IntKind.i64.wrap (s + (v.1.length : Int)))).map fun J => (J, v)) m 0 fs = some ((szF fs : Int), fs) := fun m D => by
  have U : (m.map (oH fs)).sum = szF fs := by rw [← u]; exact (D.map _).sum_nat
  have := tT fs m 0 (fun x X => tU (D.mem_iff.1 X)) (by omega)
  rw [U, Nat.zero_add] at this
  exact this
 rw [if_pos ⟨h.nd, fun m D => by rw [h1 m (nJ D), h1 _ (List.Perm.refl _)]⟩, h1 _ (List.Perm.refl _)]
 rfl
/-! ### What single operations do -/
def gB (l : List UInt8) (a : Int) (d : Bool) : Bool × List UInt8 × Int × Bool := if a = 0 then (false, l, a, d) else (decide (IntKind.i64.wrap (a - 1) = 0), l, IntKind.i64.wrap (a - 1), decide (IntKind.i64.wrap (a - 1) = 0))
theorem om (fs : FSt) (l : List UInt8) (a : Int) (d : Bool) : cD.f fs l a d = some (gB l a d) := by
 unfold cD.f gB; split <;> rfl
def ma (fs : FSt) (l : List UInt8) (a : Int) (d : Bool) (x : List UInt8) : Int × DS :=
 if d = true then (11, fs, l, a, d) else if nmB x = false then (7, fs, l, a, d) else if (aW fs x).isSome = true then (9, fs, l, a, d) else if (256 : Int) ≤ (fs.length : Int) then (10, fs, l, a, d)
 else if (gB l a d).1 = true then (11, fs, (gB l a d).2) else (0, bE fs x ([], 0), (gB l a d).2)
theorem zy (fs : FSt) (l : List UInt8) (a : Int) (d : Bool) (x : List UInt8) : eH.f fs l a d x = some (aW fs x).isSome := by
 unfold eH.f; cases (aW fs x).isSome <;> rfl
theorem tE (fs : FSt) (l : List UInt8) (a : Int) (d : Bool) (x : List UInt8) {k : Nat} (u : x.length < 2 ^ 62) (D : x.length + 1 ≤ k) : fZ.f k fs l a d x = some (ma fs l a d x) := by
 unfold fZ.f ma
 rw [Az u D, zy, om]
 simp only [Option.bind_some]
 cases d <;> cases nmB x <;> cases (aW fs x).isSome <;> simp <;> (repeat' split) <;> rfl
def mb (fs : FSt) (l : List UInt8) (a : Int) (d : Bool) (x b : List UInt8) : Int × DS :=
 if (aW fs x).isSome = true then (if d = true then (11, fs, l, a, d) else if 16777216 - (szF fs : Int) < (b.length : Int) then (10, fs, l, a, d)
  else if (gB l a d).1 = true then (11, bE fs x ((bv fs x).1 ++ b.take (b.length / 2), (bv fs x).2), x, (gB l a d).2.2) else (0, bE fs x ((bv fs x).1 ++ b, (bv fs x).2), x, (gB l a d).2.2))
 else if d = true then (11, fs, l, a, d) else (8, fs, l, a, d)
theorem BT (b : List UInt8) (h : b.length < 2 ^ 62) : IntKind.i64.wrap (Int.tdiv (b.length : Int) 2) = ((b.length / 2 : Nat) : Int) := by
 have : Int.tdiv (b.length : Int) 2 = ((b.length / 2 : Nat) : Int) := by rw [Int.tdiv_eq_ediv_of_nonneg (by omega)]; omega
 rw [this, w64 (by omega) (by omega)]
theorem qo {n : Nat} {fs : FSt} (h : gg n fs) (l : List UInt8) (a : Int) (d : Bool) (x b : List UInt8) (J : b.length < 2 ^ 40) : eO.f fs l a d x b = some (mb fs l a d x b) := by
 unfold eO.f mb
 rw [BS h, om]
 have u := h.sz
 simp only [Option.bind_some]
 by_cases hm : (aW fs x).isSome = true
 ·rw [if_pos hm, if_pos hm]
  cases d with
  | true => rfl
  | false =>
   have D : (bv fs x).1.length ≤ 16777216 := Nat.le_trans (oj (ko hm)) u
   rw [w64 (n := 16777216 - (szF fs : Int)) (by omega) (by omega), BT b (by omega)]
   simp only [Bool.false_eq_true, if_false]
   by_cases hs : 16777216 - (szF fs : Int) < (b.length : Int)
   ·rw [if_pos hs, if_pos hs]
   ·rw [if_neg hs, if_neg hs]
    by_cases hf : (gB l a false).1 = true
    ·rw [if_pos hf, if_pos hf, if_pos ⟨by omega, by omega, by omega⟩, Option.bind_some]
     have I : cut b (0 : Int) ((b.length / 2 : Nat) : Int) = b.take (b.length / 2) := by
      show (b.take ((b.length / 2 : Nat) : Int).toNat).drop 0 = _
      rw [Int.toNat_natCast, List.drop_zero]
     rw [I]
     show (if ((bv fs x).1.length + (b.take (b.length / 2)).length) * 1 ≤ 140737488355328 then _ else _) = _
     rw [if_pos (by simp only [List.length_take]; omega)]
     rfl
    ·rw [if_neg hf, if_neg hf, Option.bind_some]
     show (if ((bv fs x).1.length + b.length) * 1 ≤ 140737488355328 then _ else _) = _
     rw [if_pos (by omega)]
     rfl
 ·rw [if_neg hm, if_neg hm]
  split <;> rfl
def oy (fs : FSt) (l : List UInt8) (a : Int) (d : Bool) (x : List UInt8) : Int × DS :=
 if (aW fs x).isSome = true then (if d = true then (11, fs, l, a, d) else if (gB l a d).1 = true then (11, fs, (gB l a d).2) else (0, bE fs x ((bv fs x).1, ((bv fs x).1.length : Int)), (gB l a d).2))
 else if d = true then (11, fs, l, a, d) else (8, fs, l, a, d)
theorem nR (fs : FSt) (l : List UInt8) (a : Int) (d : Bool) (x : List UInt8) : cX.f fs l a d x = some (oy fs l a d x) := by
 unfold cX.f oy
 rw [om]
 simp only [Option.bind_some]
 repeat' split
 all_goals first | rfl | simp_all
def AB (fs : FSt) (l : List UInt8) (a : Int) (d : Bool) (x : List UInt8) (n : Int) : Int × DS :=
 if (aW fs x).isSome = true then (if d = true then (11, fs, l, a, d) else if n < 0 ∨ ((bv fs x).1.length : Int) < n then (1, fs, l, a, d) else if (gB l a d).1 = true then (11, fs, (gB l a d).2) else (0, bE fs x ((bv fs x).1.take n.toNat, min (bv fs x).2 n), (gB l a d).2))
 else if d = true then (11, fs, l, a, d) else (8, fs, l, a, d)
theorem CG (fs : FSt) (l : List UInt8) (a : Int) (d : Bool) (x : List UInt8) (n : Int) : iR.f fs l a d x n = some (AB fs l a d x n) := by
 unfold iR.f AB
 have D : (aW fs x).getD (([] : List UInt8), (0 : Int)) = bv fs x := rfl
 rw [om]
 simp only [D]
 simp only [Option.bind_some]
 by_cases hm : (aW fs x).isSome = true
 ·rw [if_pos hm, if_pos hm]
  cases d with
  | true => rfl
  | false =>
   simp only [Bool.false_eq_true, if_false]
   by_cases hn : n < 0 ∨ ((bv fs x).1.length : Int) < n
   ·rw [if_pos hn, if_pos (by rcases hn with h | h <;> simp [h])]
   ·have u : ¬ ((decide (n < (0 : Int))) || (decide (((bv fs x).1.length : Int) < n))) = true := by simpa using hn
    rw [if_neg hn, if_neg u]
    split
    ·rfl
    ·have I : 0 ≤ (0 : Int) ∧ (0 : Int) ≤ n ∧ n ≤ ((bv fs x).1.length : Int) := ⟨by omega, by omega, by omega⟩
     refine (if_pos I).trans ?_
     have J : cut (bv fs x).1 (0 : Int) n = (bv fs x).1.take n.toNat := by simp [cut]
     show some (0, bE fs x (cut (bv fs x).1 (0 : Int) n, min (bv fs x).2 n), _) = _
     rw [J]
 ·rw [if_neg hm, if_neg hm]
  split <;> rfl
theorem yz (l : List UInt8) (a : Int) (d : Bool) : (gB l a d).2.1 = l := by unfold gB; split <;> rfl
def mc (fs : FSt) (l : List UInt8) (a : Int) (d : Bool) (x : List UInt8) : Int × DS :=
 if d = true then (11, fs, l, a, d) else if (aW fs x).isSome = false then (8, fs, l, a, d) else if (gB l a d).1 = true then (11, fs, (gB l a d).2) else (0, fj fs x, (if l = x then [] else l), (gB l a d).2.2)
theorem tV (fs : FSt) (l : List UInt8) (a : Int) (d : Bool) (x : List UInt8) : gd.f fs l a d x = some (mc fs l a d x) := by
 unfold gd.f mc
 rw [om, zy]
 simp only [Option.bind_some]
 cases d <;> cases (aW fs x).isSome <;> simp only [Bool.not_true, Bool.not_false, if_true, if_false, Bool.false_eq_true, Bool.true_eq_false, reduceCtorEq]
 split
 ·rfl
 ·rw [yz]
  split <;> rfl
/-! ### A crash -/
def crN (l : List UInt8) (keep : Int) (x : List UInt8) (v : List UInt8 × Int) : Int := if x = l then v.2 + min (max keep 0) ((v.1.length : Int) - v.2) else v.2
def crF (l : List UInt8) (keep : Int) (x : List UInt8) (v : List UInt8 × Int) : List UInt8 × Int := (v.1.take (crN l keep x v).toNat, crN l keep x v)
def iL (fs : FSt) (l : List UInt8) (keep : Int) : FSt := fs.map fun p => (p.1, crF l keep p.1 p.2)
section
variable {α β : Type} [DecidableEq α]
theorem vO {x : α} {u : β} : ∀ {kvs : List (α × β)}, (kvs.map (·.1)).Nodup → (aW kvs x).isSome = true → bE kvs x u = kvs.map fun p => if p.1 = x then (p.1, u) else p
 | [], _, h => by simp [aW] at h
 | p :: l, hn, h => by
  rw [List.map_cons, List.nodup_cons] at hn
  rw [aW] at h
  rw [bE, List.map_cons]
  by_cases hp : p.1 = x
  ·rw [if_pos hp, if_pos hp, hp]
   congr 1
   refine (List.map_id l).symm.trans (List.map_congr_left fun q D => ?_)
   rw [if_neg (fun e => hn.1 (by rw [hp, ← e]; exact List.mem_map.2 ⟨q, D, rfl⟩))]; rfl
  ·rw [if_neg hp] at h
   rw [if_neg hp, if_neg hp, vO hn.2 h]
theorem vP {u : Unit → α → β → Option (Unit × β)} {g : α → β → β} : ∀ (l : List α) (kvs : List (α × β)), (kvs.map (·.1)).Nodup → l.Nodup → (∀ x ∈ l, ∃ v, aW kvs x = some v ∧ u () x v = some ((), g x v)) →
  jx u l () kvs = some ((), kvs.map fun p => if p.1 ∈ l then (p.1, g p.1 p.2) else p)
 | [], kvs, _, _, _ => by simp [jx]
 | x :: l, kvs, hn, hl, h => by
  obtain ⟨v, D, X⟩ := h x (by simp)
  rw [List.nodup_cons] at hl
  rw [jx, D, Option.bind_some, X, Option.bind_some]
  have hx : (aW kvs x).isSome = true := by rw [D]; rfl
  have hk : ((bE kvs x (g x v)).map (·.1)).Nodup := pP hn
  rw [vP l (bE kvs x (g x v)) hk hl.2 (fun y U => by
   obtain ⟨w, hw, I⟩ := h y (List.mem_cons_of_mem _ U)
   refine ⟨w, ?_, I⟩
   rw [eU, if_neg (fun e => hl.1 (by rw [e]; exact U))]; exact hw)]
  congr 2
  rw [vO hn hx, List.map_map]
  refine List.map_congr_left fun p hp => ?_
  simp only [Function.comp]
  by_cases hpx : p.1 = x
  ·have J : p.2 = v := by
    have h1 := oU kvs p.1 p.2 hn hp
    rw [hpx, D] at h1
    exact (Option.some.inj h1).symm
   rw [if_pos hpx]
   simp only [hpx, hl.1, if_false, List.mem_cons_self, if_true, J]
  ·rw [if_neg hpx]
   simp only [List.mem_cons, hpx, false_or]
end
theorem sE {l : List UInt8} {keep : Int} {x : List UInt8} {v : List UInt8 × Int} (h : 0 ≤ v.2 ∧ v.2 ≤ (v.1.length : Int)) : 0 ≤ crN l keep x v ∧ crN l keep x v ≤ (v.1.length : Int) ∧ v.2 ≤ crN l keep x v := by
 unfold crN
 split <;> omega
theorem AC {n : Nat} {fs : FSt} (h : gg n fs) (l : List UInt8) (a : Int) (d : Bool) (keep : Int) : iy.f fs l a d keep = some (iL fs l keep, [], 0, false) := by
 unfold iy.f kW
 have h1 : ∀ m, m.Perm (fs.map (·.1)) → jx (fun (al : Unit) (ad : List UInt8) (D : List UInt8 × Int) => (if ad = l then (some (IntKind.i64.wrap (D.2 + (min (max keep (0 : Int)) (IntKind.i64.wrap ((D.1.length : Int) - D.2)))))) else (some D.2)).bind fun u => (if 0 ≤ u ∧ u ≤ (D.1.length : Int) then (some ((), (List.take u.toNat D.1, u))) else none)) m () fs = some ((), iL fs l keep) := fun m X => by
  rw [vP (g := crF l keep) m fs h.nd (X.nodup_iff.2 h.nd) fun x hx => ?_]
  ·congr 2
   refine List.map_congr_left fun p hp => ?_
   rw [if_pos (X.mem_iff.2 (List.mem_map.2 ⟨p, hp, rfl⟩))]
  ·have I := tU (X.mem_iff.1 hx)
   have J := ko I
   have U := h.sy _ J
   have ab : (bv fs x).1.length ≤ 16777216 := Nat.le_trans (oj J) h.sz
   simp only at U
   refine ⟨bv fs x, by rw [bv]; exact jn I, ?_⟩
   generalize bv fs x = v at U ab
   have e : ((if x = l then (some (IntKind.i64.wrap (v.2 + (min (max keep (0 : Int)) (IntKind.i64.wrap ((v.1.length : Int) - v.2)))))) else (some v.2)) : Option Int) = some (crN l keep x v) := by
    unfold crN
    split
    ·rw [w64 (n := (v.1.length : Int) - v.2) (by omega) (by omega), w64 (by omega) (by omega)]
    ·rfl
   rw [e, Option.bind_some]
   have hb := sE (l := l) (keep := keep) (x := x) U
   rw [if_pos ⟨hb.1, hb.2.1⟩]; rfl
 rw [if_pos ⟨h.nd, fun m X => by rw [h1 m (nJ X), h1 _ (List.Perm.refl _)]⟩, h1 _ (List.Perm.refl _)]
 rfl
end Go.Proofs.YtndjkejhacfpdaaGreatDoor

namespace Go.Proofs.YtndjkejhacfpdaaGreatDoor
open Go.RowKit
theorem ue (p : List UInt8 × (List UInt8 × Int)) (fs : FSt) (x : List UInt8) : bv (p :: fs) x = if p.1 = x then p.2 else bv fs x := by
 unfold bv; rw [aW]; split <;> rfl
theorem kK (p : List UInt8 × (List UInt8 × Int)) (fs : FSt) : szF (p :: fs) = p.2.1.length + szF fs := by simp [szF]
theorem im (x : List UInt8) (v : List UInt8 × Int) : ∀ fs : FSt, szF (bE fs x v) + (bv fs x).1.length = szF fs + v.1.length
 | [] => by simp [bE, szF, bv, aW]
 | p :: fs => by
  have u := im x v fs
  rw [ue, bE]
  by_cases h : p.1 = x
  ·rw [if_pos h, if_pos h, kK, kK]; simp only; omega
  ·rw [if_neg h, if_neg h, kK, kK]; omega
theorem rE (x : List UInt8) : ∀ fs : FSt, szF (fj fs x) + (bv fs x).1.length = szF fs
 | [] => by simp [fj, szF, bv, aW]
 | p :: fs => by
  have u := rE x fs
  rw [ue, fj]
  by_cases h : p.1 = x
  ·rw [if_pos h, if_pos h, kK]; omega
  ·rw [if_neg h, if_neg h, kK, kK]; omega
theorem mP {n : Nat} {fs : FSt} (h : gg n fs) {x : List UInt8} {v : List UInt8 × Int} (u : x.length ≤ 32) (D : 0 ≤ v.2 ∧ v.2 ≤ (v.1.length : Int)) (I : szF (bE fs x v) ≤ 16777216) (J : (bE fs x v).length ≤ n) : gg n (bE fs x v) := by
 refine ⟨pP h.nd, fun p hp => ?_, fun p hp => ?_, I, J⟩
 ·rcases rG _ _ _ _ hp with rfl | hp
  ·exact D
  ·exact h.sy p hp
 ·rcases rG _ _ _ _ hp with rfl | hp
  ·exact u
  ·exact h.nm p hp
theorem AH {n : Nat} {fs : FSt} (h : gg n fs) (x : List UInt8) : gg n (fj fs x) := by
 have u := vA fs x
 refine ⟨(u.map _).nodup h.nd, fun p hp => h.sy p (u.subset hp), fun p hp => h.nm p (u.subset hp), ?_, Nat.le_trans u.length_le h.ln⟩
 have := rE x fs
 have := h.sz
 omega
theorem uf (l : List UInt8) (keep : Int) : ∀ fs : FSt, szF (iL fs l keep) ≤ szF fs
 | [] => Nat.le_refl _
 | p :: fs => by
  have u := uf l keep fs
  rw [iL, List.map_cons, kK, kK]
  have e : (crF l keep p.1 p.2).1.length ≤ p.2.1.length := by simp only [crF, List.length_take]; omega
  have : szF (fs.map fun p => (p.1, crF l keep p.1 p.2)) ≤ szF fs := u
  simp only
  omega
theorem yG (fs : FSt) (l : List UInt8) (keep : Int) : (iL fs l keep).map (·.1) = fs.map (·.1) := by
 rw [iL, List.map_map]; rfl
theorem zM {n : Nat} {fs : FSt} (h : gg n fs) (l : List UInt8) (keep : Int) : gg n (iL fs l keep) := by
 refine ⟨by rw [yG]; exact h.nd, fun p hp => ?_, fun p hp => ?_, Nat.le_trans (uf l keep fs) h.sz, by rw [iL, List.length_map]; exact h.ln⟩
 ·obtain ⟨q, u, rfl⟩ := List.mem_map.1 hp
  have := sE (l := l) (keep := keep) (x := q.1) (h.sy q u)
  simp only [crF, List.length_take]
  omega
 ·obtain ⟨q, u, rfl⟩ := List.mem_map.1 hp
  exact h.nm q u
theorem qz {n : Nat} {fs : FSt} (h : gg n fs) {x : List UInt8} (u : (aW fs x).isSome = true) : x.length ≤ 32 := h.nm _ (ko u)
theorem xI {n : Nat} {fs : FSt} (h : gg n fs) {x : List UInt8} (u : (aW fs x).isSome = true) : 0 ≤ (bv fs x).2 ∧ (bv fs x).2 ≤ ((bv fs x).1.length : Int) := h.sy _ (ko u)
theorem ql {fs : FSt} {x : List UInt8} (h : (aW fs x).isSome = false) : bv fs x = ([], 0) := by
 unfold bv; cases hm : aW fs x with
 | none => rfl
 | some v => rw [hm] at h; cases h
theorem ic {fs : FSt} {x : List UInt8} {v : List UInt8 × Int} (u : (aW fs x).isSome = true) : (bE fs x v).length = fs.length := by rw [iw, if_pos u]
theorem sm {fs : FSt} (h : gg 256 fs) (l : List UInt8) (a : Int) (d : Bool) (x : List UInt8) : gg 256 (ma fs l a d x).2.1 := by
 unfold ma
 repeat' split
 all_goals try exact h
 rename_i h1 u D U X
 have I := im x ([], 0) fs
 have J := h.sz
 refine mP h (BQ (by simpa using u)) (by simp) ?_ ?_
 ·simp only [List.length_nil] at I; omega
 ·have := iw fs x (([] : List UInt8), (0 : Int))
  rw [if_neg D] at this
  rw [this]; omega
theorem sH {n : Nat} {fs : FSt} (h : gg n fs) (l : List UInt8) (a : Int) (d : Bool) (x b : List UInt8) : gg n (mb fs l a d x b).2.1 := by
 unfold mb
 have I := h.sz
 repeat' split
 all_goals try exact h
 ·rename_i u hd J U
  have D := xI h u
  have h1 := im x ((bv fs x).1 ++ b.take (b.length / 2), (bv fs x).2) fs
  simp only [List.length_append, List.length_take] at h1
  refine mP h (qz h u) ⟨D.1, ?_⟩ (by omega) (by rw [ic u]; exact h.ln)
  simp only [List.length_append, List.length_take]; omega
 ·rename_i u hd J U
  have D := xI h u
  have h1 := im x ((bv fs x).1 ++ b, (bv fs x).2) fs
  simp only [List.length_append] at h1
  refine mP h (qz h u) ⟨D.1, ?_⟩ (by omega) (by rw [ic u]; exact h.ln)
  simp only [List.length_append]; omega
theorem pO {n : Nat} {fs : FSt} (h : gg n fs) (l : List UInt8) (a : Int) (d : Bool) (x : List UInt8) : gg n (oy fs l a d x).2.1 := by
 unfold oy
 have D := h.sz
 repeat' split
 all_goals try exact h
 rename_i u hd I
 have h1 := im x ((bv fs x).1, ((bv fs x).1.length : Int)) fs
 simp only at h1
 exact mP h (qz h u) ⟨by simp, by simp⟩ (by omega) (by rw [ic u]; exact h.ln)
theorem yq {n : Nat} {fs : FSt} (h : gg n fs) (l : List UInt8) (a : Int) (d : Bool) (x : List UInt8) : gg n (mc fs l a d x).2.1 := by
 unfold mc
 repeat' split
 all_goals first | exact h | exact AH h x
/-! ### An operation -/
def d0 : DS := ([], [], 0, false)
/-! ### The files -/
theorem ug (fs : FSt) : (gb fs).length = fs.length := by rw [(nI fs).length_eq, List.length_map]
theorem xC {n : Nat} {fs : FSt} (h : gg n fs) (u : n < 2 ^ 40) (l : List UInt8) (a : Int) (d : Bool) : ja.f fs l a d = some (gb fs) := by
 unfold ja.f jI.f dQ.f
 have := h.ln
 rw [Option.bind_some, if_pos ⟨h.nd, by omega, fun p hp => by have := h.nm p hp; omega⟩]; rfl
theorem vY {x : List UInt8} (h : x.length < 2 ^ 40) : jC.f x = some x := by
 unfold jC.f
 rw [if_pos ⟨by omega, by omega, by omega⟩, if_pos (by simp; omega)]; rfl
/-! ### Whether files are the same -/
theorem uh (x y : List UInt8) (I : x.length = y.length) (J : x.length < 2 ^ 62) : ∀ (d i k : Nat), i + d = x.length → d + 1 ≤ k → x.take i = y.take i → (orR (cY.l0 x y k (i : Int)) fun _ => some true) = some (decide (x = y))
 | d, i, 0, _, hk, _ => by omega
 | 0, i, k + 1, h, _, ht => by
  simp only [cY.l0]
  rw [if_neg (by omega)]
  rw [List.take_of_length_le (by omega), List.take_of_length_le (by omega)] at ht
  simp [orR, ht]
 | d + 1, i, k + 1, h, hk, ht => by
  have u : i < x.length := by omega
  have D : i < y.length := by omega
  simp only [cY.l0]
  rw [if_pos (by omega), if_pos (by omega), if_pos (by omega), wi1 (by omega)]
  simp only [Int.toNat_natCast, rK x 0 i u, rK y 0 i D]
  by_cases he : x[i] = y[i]
  ·rw [if_pos (by rw [he])]
   exact uh x y I J d (i + 1) k (by omega) (by omega) (by rw [List.take_succ_eq_append_getElem u, List.take_succ_eq_append_getElem D, ht, he])
  ·rw [if_neg (by intro z; exact he (UInt8.toNat_inj.1 (by omega)))]
   have : x ≠ y := by rintro rfl; exact he rfl
   simp [orR, this]
theorem wg {k : Nat} {x y : List UInt8} (u : x.length < 2 ^ 62) (D : x.length + 1 ≤ k) : cY.f k x y = some (decide (x = y)) := by
 unfold cY.f
 by_cases h : x.length = y.length
 ·rw [if_pos (by omega)]
  exact uh x y h u x.length 0 k (by omega) D rfl
 ·rw [if_neg (by omega)]
  have : x ≠ y := by rintro rfl; exact h rfl
  simp [this]
/-! ### Whether operations are few -/
end Go.Proofs.YtndjkejhacfpdaaGreatDoor

namespace Go.Proofs.YtndjkejhacfpdaaGreatDoor
open Go.RowKit Go.ChangeShapes Go.WideShapes Go.ChangeAt

def lA (W : World) : HA := fun h => ∀ i, i < W.heap.size → h i = W.heap[i]?
theorem zB (W : World) : Sat W ([] ++ [lA W]) W := ⟨rfl, rfl, rfl, Nat.le_refl _, me (fun _ _ => rfl)⟩
theorem AD {W w : World} {l : List HA} (s : Sat W l w) (k : Nat) (D : l[k]? = some (lA W)) : Below W.heap.size W w := by
 obtain ⟨a, I, J⟩ := s.at D
 refine ⟨s.os, s.tape, s.output, s.size, fun i hi => ?_⟩
 have h1 := I i hi
 obtain ⟨o, u⟩ : ∃ o, W.heap[i]? = some o := ⟨_, Array.getElem?_eq_getElem hi⟩
 rw [u] at h1
 rw [J i o h1, u]
theorem zn {P : Program} {W : World} {f : FuncId} {args : List Value} {R Y : Type} {o : Option R} {val : R → Y → Value} {r : R}
  (h : Fn P W f args [] (lA W) o val (fun _ _ => [])) (D : o = some r) (I : ∀ y, val r y = .bool true) :
  Calls P f args.toArray W fun e u => e = .returned (.bool true) ∧ Below W.heap.size W u := by
 refine (h r D W (zB W)).mono ?_
 rintro e u ⟨y, rfl, s⟩
 exact ⟨by rw [I], AD s 0 rfl⟩
theorem vb {W : World} {x : Addr} {cs : List Value} (h : ∀ j v, cs[j]? = some v → W.cell? (x.add j) = some v) : Rd (lA W) (some x) cs := by
 cases cs with
 | nil => exact .inl rfl
 | cons v vs =>
  right
  have u := h 0 v rfl
  have D : x.spot = none := by
   have e : (x.add 0).spot = x.spot ∨ x.spot ≠ none := by cases hx : x.spot <;> simp [Addr.add, hx]
   refine Classical.byContradiction fun J => ?_
   obtain ⟨s, hs⟩ := Option.ne_none_iff_exists'.1 J
   unfold World.cell? at u
   simp only [Addr.add, hs] at u
   split at u <;> simp_all
  obtain ⟨b, off, sp⟩ := x
  simp only at D
  subst D
  have I : ∀ j, (⟨b, off, none⟩ : Addr).add j = ⟨b, off + j, none⟩ := fun j => by unfold Addr.add; split <;> simp_all
  simp only [I] at h
  refine ⟨b, off, rfl, fun g hg => ?_⟩
  have u := h 0 v rfl
  unfold World.cell? at u
  simp only at u
  split at u
  ·rename_i c T fz U
   have X : b < W.heap.size := (Array.getElem?_eq_some_iff.1 U).1
   refine ⟨c, T, fz, by rw [hg b X, U], fun j v hj => ?_⟩
   have := h j v hj
   simpa [World.cell?, U] using this
  ·simp at u
theorem yw {H : Type} {P : Program} {ts : List TypeId} {ds : List (DataW H)} (h : (DataW.weightsEach P ts ds).all (· ≤ reachBytes) = true) {j : Nat} {t : TypeId} {d : DataW H} (u : ts[j]? = some t) (hd : ds[j]? = some d) : ∀ n ∈ d.weights P t, n ≤ reachBytes := fun n D => by
 have := List.all_eq_true.1 h n (DataW.weights_mem_each u hd n D)
 simpa using this
theorem ye {H : Type} {enc : TypeId × Value → H} {P : Program} {W : World} {X : Bool} {t e : TypeId} {ab : Nat} {cs : List Value} {x : DataW H × List MemPlace} (ht : P.underlying t = some (.slice e)) (he : P.underlying e = some (.int .u8)) (hc : P.cellsOf e = 1)
  (hB : P.bytesOf e = 1)
  (h : DataW.trod enc P W 0 (fun _ => true) X ab t cs = some x) (hw : ∀ n ∈ x.1.weights P t, n ≤ reachBytes) : ∃ a c l, cs = [.slice a l.length c] ∧ Rd (lA W) a (aL l) ∧ l.length ≤ c ∧ c ≤ maxLen ∧ l.length ≤ reachBytes := by
 rcases open_ints ht he hc h with ⟨D, _⟩ | ⟨x, l, c, U, D, _, hl, hm, hz, rfl, I, af⟩
 ·exact ⟨none, 0, [], D, .inl rfl, Nat.le_refl _, Nat.zero_le _, Nat.zero_le _⟩
 ·have hz : U.length = c := by simpa using hz
  have u : ((U.take l).map hJ).length = l := by simp; omega
  have al : l ≤ reachBytes := by
   have := hw (((lits (H := H) .u8 (U.take l)).length + (lits (H := H) .u8 (U.drop l)).length) * P.bytesOf e) (by simp [DataW.weights, ht])
   rw [hB] at this
   simp [lits] at this
   omega
  refine ⟨some x, c, (U.take l).map hJ, by rw [D, u], vb ?_, by rw [u]; exact hl, hm, by rw [u]; exact al⟩
  intro j v J
  unfold aL at J
  rw [List.getElem?_map, List.getElem?_map, List.getElem?_take] at J
  split at J
  ·rename_i b2
   obtain ⟨n, hn⟩ : ∃ n, U[j]? = some n := ⟨_, List.getElem?_eq_getElem (by omega)⟩
   rw [hn] at J
   simp only [Option.map_some, Option.some.injEq] at J
   rw [I j (by omega), ← J]
   have hw := af n (List.mem_of_getElem? hn)
   have a1 : 0 ≤ n ∧ n ≤ 255 := by simpa [Lit.wf, IntKind.min, IntKind.max, IntKind.signed, IntKind.bits] using hw
   have hr : 0 ≤ n ∧ n < 256 := ⟨a1.1, by omega⟩
   rw [kG hr.1 hr.2]
   simp [List.getD_eq_getElem?_getD, hn]
  ·simp at J
end Go.Proofs.YtndjkejhacfpdaaGreatDoor

namespace Go.Proofs.YtndjkejhacfpdaaGreatDoor
open Go.RowKit Go.ChangeShapes Go.WideShapes Go.ChangeAt
section
variable {H : Type} {enc : TypeId × Value → H} {P : Program} {W : World} {held : Bool} {α β : Type}
def qN (enc : TypeId × Value → H) (P : Program) (W : World) (held : Bool) (t : TypeId) (V : α → List Value → Prop) (D : α → Prop) : Prop :=
 ∀ u cs x, DataW.trod enc P W 0 (fun _ => true) held u t cs = some x → (∀ n ∈ x.1.weights P t, n ≤ reachBytes) → ∃ y, V y cs ∧ one cs ∧ cs.length = P.cellsOf t ∧ D y
theorem qN.map {t : TypeId} {V : α → List Value → Prop} {I : β → List Value → Prop} {J : α → Prop} {u : β → Prop} (f : α → β) (h : qN enc P W held t V J) (U : ∀ x r, V x r → I (f x) r) (X : ∀ x, J x → u (f x)) : qN enc P W held t I u := fun D cs x h1 h2 =>
 let ⟨y, a, b, c, d⟩ := h D cs x h1 h2; ⟨f y, U _ _ a, b, c, X _ d⟩
theorem qN.mono {t : TypeId} {V I : α → List Value → Prop} {J u : α → Prop} (h : qN enc P W held t V J) (U : ∀ x r, V x r → I x r) (X : ∀ x, J x → u x) : qN enc P W held t I u := fun D cs x h1 h2 =>
 let ⟨y, a, b, c, d⟩ := h D cs x h1 h2; ⟨y, U _ _ a, b, c, X _ d⟩
theorem pf {e : TypeId} : ∀ {ds : List (DataW H)} {d : DataW H}, d ∈ ds → ∀ n ∈ d.weights P e, n ∈ DataW.weightsAll P e ds
 | d' :: ds, d, h, n, hn => by
  simp only [DataW.weightsAll, List.mem_append]
  rcases List.mem_cons.1 h with rfl | h
  ·exact .inl hn
  ·exact .inr (pf h n hn)
theorem yf {W : World} {a : Addr} {n : Nat} {cs : List Value} (h : W.cells? 0 a n = some cs) : cs.length = n ∧ ∀ j v, cs[j]? = some v → W.cell? (a.add j) = some v := by
 unfold World.cells? at h
 rw [if_pos (Nat.zero_le _)] at h
 have u := mapM_some_length h
 have u : cs.length = n := by simpa using u
 refine ⟨u, fun j v I => ?_⟩
 have D : j < n := by have := (List.getElem?_eq_some_iff.1 I).1; omega
 have := mapM_some_get h j j (by simp [D])
 rw [this, I]
/-! Structs: their fields, one behind the other. -/
def yg (enc : TypeId × Value → H) (P : Program) (W : World) (held : Bool) (u : Nat) : List TypeId → List Value → List (DataW H × List MemPlace) → Prop
 | [], cs, xs => cs = [] ∧ xs = []
 | t :: ts, cs, xs => ∃ D c2 x r, cs = D ++ c2 ∧ xs = x :: r ∧ DataW.trod enc P W 0 (fun _ => true) held u t D = some x ∧ yg enc P W held u ts c2 r
def uy (P : Program) : Nat → List Field → Bool
 | _, [] => true
 | k, f :: fs => Nat.beq f.offset k && uy P (k + P.cellsOf f.type) fs
def vc (P : Program) : List Field → Nat
 | [] => 0
 | f :: fs => P.cellsOf f.type + vc P fs
theorem vd (u : Nat) : ∀ (fs : List Field) (k : Nat) (cs : List Value) (xs : List (DataW H × List MemPlace)), uy P k fs = true → cs.length = k + vc P fs → xs.length = fs.length →
  (∀ (i : Nat) (f : Field), fs[i]? = some f → DataW.trod enc P W 0 (fun _ => true) held u f.type ((cs.drop f.offset).take (P.cellsOf f.type)) = xs[i]?) → yg enc P W held u (fs.map (·.type)) (cs.drop k) xs
 | [], k, cs, xs, _, hl, hx, _ => by
  have : xs = [] := List.eq_nil_of_length_eq_zero (by simpa using hx)
  exact ⟨by rw [List.drop_of_length_le (by simp [vc] at hl; omega)], this⟩
 | f :: fs, k, cs, [], _, _, hx, _ => by simp at hx
 | f :: fs, k, cs, x :: xs, hlaid, hl, hx, h => by
  simp only [uy, Bool.and_eq_true] at hlaid
  have D : f.offset = k := Nat.eq_of_beq_eq_true hlaid.1
  simp only [vc] at hl
  have I := h 0 f rfl
  rw [D] at I
  refine ⟨(cs.drop k).take (P.cellsOf f.type), (cs.drop k).drop (P.cellsOf f.type), x, xs, (List.take_append_drop _ _).symm, rfl, by simpa using I, ?_⟩
  have := vd u fs (k + P.cellsOf f.type) cs xs hlaid.2 (by omega) (by simpa using hx) (fun i g J => by simpa using h (i + 1) g (by simpa using J))
  rw [List.drop_drop]
  exact this
end
end Go.Proofs.YtndjkejhacfpdaaGreatDoor

namespace Go.Proofs.YtndjkejhacfpdaaGreatDoor
open Go.RowKit Go.ChangeShapes Go.WideShapes Go.ChangeAt
class Mu (α : Type) where
 mu : α → Nat
instance : Mu Int := ⟨fun _ => 1⟩
instance : Mu Bool := ⟨fun _ => 1⟩
instance : Mu UInt8 := ⟨fun _ => 1⟩
instance {α β : Type} [Mu α] [Mu β] : Mu (α × β) := ⟨fun x => Mu.mu x.1 + Mu.mu x.2⟩
instance {α : Type} [Mu α] : Mu (List α) := ⟨fun l => (l.map Mu.mu).sum + 1⟩
theorem pe (x : Int) : Mu.mu x = 1 := rfl
theorem Bv (x : Bool) : Mu.mu x = 1 := rfl
theorem jH {α β : Type} [Mu α] [Mu β] (x : α) (y : β) : Mu.mu (x, y) = Mu.mu x + Mu.mu y := rfl
theorem nQ {α : Type} [Mu α] (l : List α) : Mu.mu l = (l.map Mu.mu).sum + 1 := rfl
theorem xb {α : Type} [Mu α] (x : α) (l : List α) : Mu.mu (x :: l) = Mu.mu x + Mu.mu l := by simp [nQ]; omega
theorem uX (l : List UInt8) : Mu.mu l = l.length + 1 := by
 have : ∀ l : List UInt8, (l.map Mu.mu).sum = l.length := by
  intro l
  induction l with
  | nil => rfl
  | cons x l ih =>
   simp only [List.map_cons, List.sum_cons, ih, List.length_cons]
   show 1 + _ = _
   omega
 rw [nQ, this]
theorem mG {H : Type} (d : DataW H) : 1 ≤ Rows.uptoBulk d := by
 cases d with
 | lit l => cases l <;> simp [Rows.uptoBulk]
 | nil => simp [Rows.uptoBulk]
 | ptr d => simp [Rows.uptoBulk]
 | slice elems spare => simp [Rows.uptoBulk]
 | agg parts => simp [Rows.uptoBulk]
 | iface t d => simp [Rows.uptoBulk]
 | map entries => simp [Rows.uptoBulk]
 | held h => simp [Rows.uptoBulk]
theorem uY {H : Type} : ∀ l : List (DataW H), l.length ≤ Rows.uptoBulkAll l
 | [] => by simp
 | d :: l => by have := uY l; have := mG d; simp [Rows.uptoBulkAll]; omega
section
variable {H : Type} {enc : TypeId × Value → H} {P : Program} {W : World} {held : Bool} {α β : Type} [Mu α] [Mu β]
def jl (enc : TypeId × Value → H) (P : Program) (W : World) (held : Bool) (t : TypeId) (V : α → List Value → Prop) (D : α → Prop) : Prop :=
 ∀ u cs x, DataW.trod enc P W 0 (fun _ => true) held u t cs = some x → (∀ n ∈ x.1.weights P t, n ≤ reachBytes) → ∃ y, V y cs ∧ one cs ∧ cs.length = P.cellsOf t ∧ D y ∧ Mu.mu y ≤ Rows.uptoBulk x.1
theorem jl.mono {t : TypeId} {V I : α → List Value → Prop} {J u : α → Prop} (h : jl enc P W held t V J) (U : ∀ x r, V x r → I x r) (X : ∀ x, J x → u x) : jl enc P W held t I u := fun D cs x h1 h2 =>
 let ⟨y, a, b, c, d⟩ := h D cs x h1 h2; ⟨y, U _ _ a, b, c, X _ d.1, d.2⟩
theorem jl.map {α β : Type} [Mu α] [Mu β] {H : Type} {enc : TypeId × Value → H} {P : Program} {W : World} {held : Bool} {t : TypeId} {V : α → List Value → Prop} {I : β → List Value → Prop} {J : α → Prop} {u : β → Prop} (f : α → β) (h : jl enc P W held t V J) (U : ∀ x r, V x r → I (f x) r) (X : ∀ x, J x → u (f x)) (hM : ∀ x, Mu.mu (f x) = Mu.mu x) : jl enc P W held t I u := fun D cs x h1 h2 =>
 let ⟨y, a, b, c, d⟩ := h D cs x h1 h2; ⟨f y, U _ _ a, b, c, X _ d.1, by rw [hM]; exact d.2⟩
theorem jd {t : TypeId} {k : IntKind} (D : P.underlying t = some (.int k)) (I : P.cellsOf t = 1) : jl enc P W held t (fun x r => r = [.int k x]) (okI k) := by
 intro u cs x h _
 cases u with
 | zero => simp [DataW.trod] at h
 | succ n =>
  unfold DataW.trod at h
  rw [D] at h
  split at h <;> simp_all
  rename_i J m
  obtain ⟨rfl, h1⟩ := h.1
  refine ⟨aM rfl, ?_, ?_⟩
  ·simpa [Lit.wf, okI] using h1
  ·first | exact mG _ | (rw [← h.2]; exact mG _)
theorem wF {t : TypeId} (D : P.underlying t = some .bool) (I : P.cellsOf t = 1) : jl enc P W held t (fun x r => r = [.bool x]) (fun _ => True) := by
 intro u cs x h _
 cases u with
 | zero => simp [DataW.trod] at h
 | succ n =>
  unfold DataW.trod at h
  rw [D] at h
  split at h <;> simp_all
  exact ⟨aM rfl, mG _⟩
theorem uZ {t e : TypeId} (U : P.underlying t = some (.slice e)) (X : P.underlying e = some (.int .u8)) (hc : P.cellsOf e = 1) (hB : P.bytesOf e = 1) (D : P.cellsOf t = 1) :
  jl enc P W held t (fun x r => ∃ a c, r = [.slice a x.length c] ∧ Rd (lA W) a (aL x) ∧ x.length ≤ c ∧ c ≤ maxLen) (fun x => x.length ≤ reachBytes) := by
 intro ad cs x h hw
 obtain ⟨a, c, l, h1, h2, h3, h4, h5⟩ := ye U X hc hB h hw
 refine ⟨l, ⟨a, c, h1, h2, h3, h4⟩, by rw [h1]; exact aM rfl, by rw [h1, D]; rfl, h5, ?_⟩
 rw [uX]
 rcases open_ints U X hc h with ⟨u, rfl⟩ | ⟨y, n, c', I, u, _, hl, hm, hz, rfl, J, be⟩
 ·rw [h1] at u
  have : l.length = 0 := by simp only [List.cons.injEq, Value.slice.injEq] at u; exact u.1.2.1
  rw [this]
  exact mG _
 ·rw [h1] at u
  have e1 : l.length = n := by simp only [List.cons.injEq, Value.slice.injEq] at u; exact u.1.2.1
  have hz : I.length = c' := by simpa using hz
  have := uY (lits (H := H) .u8 (I.take n))
  have e2 : (lits (H := H) .u8 (I.take n)).length = n := by simp [lits]; omega
  simp only [Rows.uptoBulk]
  omega
theorem qZ {t e : TypeId} {n B : Nat} {V : α → List Value → Prop} {Ok : α → Prop} (ht : P.underlying t = some (.slice e)) (hn : P.cellsOf e = n) (hB : P.bytesOf e = B) (ab : P.cellsOf t = 1) (be : jl enc P W held e V Ok) :
  jl enc P W held t (fun (xs : List α) r => ∃ a c, r = [.slice a xs.length c] ∧ RdV (lA W) n V a xs ∧ xs.length ≤ c ∧ c ≤ maxLen) (fun xs => xs.length * B ≤ reachBytes ∧ ∀ y ∈ xs, Ok y) := by
 intro b8 cs x h hw
 rcases DataW.trod_slice ht h with ⟨J, _⟩ | ⟨a, len, cap, u, rest, m, _, rfl, rfl, hb, hl, hm, ad, br, _, _⟩
 ·exact ⟨[], ⟨none, 0, J, RdV.nil, Nat.le_refl _, Nat.zero_le _⟩, by rw [J]; exact aM rfl, by rw [J, ab]; rfl, ⟨by simp, by simp⟩, by rw [nQ]; exact mG _⟩
 ·subst hn
  have b0 : len * B ≤ reachBytes := by
   have := hw (((u.map (·.1)).length + (rest.map (·.1)).length) * P.bytesOf e) (by simp [DataW.weights, ht])
   rw [hB] at this
   simp only [List.length_map, ad] at this
   exact Nat.le_trans (Nat.mul_le_mul_right _ (Nat.le_add_right _ _)) this
  have af : ∀ i, i < len → ∃ y r, V y r ∧ one r ∧ r.length = P.cellsOf e ∧ (Ok y ∧ ∀ q, u[i]? = some q → Mu.mu y ≤ Rows.uptoBulk q.1) ∧ ∀ j v, r[j]? = some v → W.cell? (a.add (i * P.cellsOf e + j)) = some v := by
   intro i hi
   have h1 := br i hi
   obtain ⟨q, X⟩ : ∃ q, u[i]? = some q := ⟨_, List.getElem?_eq_getElem (by omega)⟩
   rw [X] at h1
   obtain ⟨r, hr, b1⟩ := Option.bind_eq_some_iff.1 h1
   obtain ⟨b2, b3⟩ := yf hr
   obtain ⟨y, v1, v2, v3, v4⟩ := be _ r q b1 (fun n hn => hw n (by
    simp only [DataW.weights, ht, List.mem_cons, List.mem_append]
    exact .inr (.inl (pf (List.mem_map_of_mem (List.mem_of_getElem? X)) n hn))))
   refine ⟨y, r, v1, v2, b2, ⟨v4.1, fun q' D => by rw [X] at D; cases D; exact v4.2⟩, fun j v I => ?_⟩
   have := b3 j v I
   have al : (a.add (i * P.cellsOf e)).add j = a.add (i * P.cellsOf e + j) := by
    by_cases h1 : i * P.cellsOf e = 0 <;> by_cases h2 : j = 0 <;> simp [Addr.add, h1, h2, Nat.add_assoc]
   rwa [al] at this
  have U : ∀ d i, i + d = len → ∃ xs rs, bW (P.cellsOf e) V xs rs ∧ xs.length = d ∧ ((∀ y ∈ xs, Ok y) ∧ (xs.map Mu.mu).sum ≤ Rows.uptoBulkAll ((u.drop i).map (·.1))) ∧ ∀ j v, rs.flatten[j]? = some v → W.cell? (a.add (i * P.cellsOf e + j)) = some v := by
   intro d
   induction d with
   | zero => intro i hi; exact ⟨[], [], trivial, rfl, ⟨by simp, by simp⟩, by simp⟩
   | succ d ih =>
    intro i hi
    obtain ⟨y, r, v1, v2, v3, v4, v5⟩ := af i (by omega)
    obtain ⟨xs, rs, w1, w2, w3, w4⟩ := ih (i + 1) (by omega)
    refine ⟨y :: xs, r :: rs, ⟨⟨v3, v2, v1⟩, w1⟩, by simp [w2], ⟨?_, ?_⟩, fun j v I => ?_⟩
    ·intro z hz
     rcases List.mem_cons.1 hz with rfl | hz
     ·exact v4.1
     ·exact w3.1 z hz
    ·obtain ⟨q, X⟩ : ∃ q, u[i]? = some q := ⟨_, List.getElem?_eq_getElem (by omega)⟩
     have h1 := v4.2 q X
     have h2 := w3.2
     obtain ⟨hi', D⟩ := List.getElem?_eq_some_iff.1 X
     rw [List.drop_eq_getElem_cons hi', D]
     simp only [List.map_cons, List.sum_cons, Rows.uptoBulkAll]
     omega
    ·simp only [List.flatten_cons] at I
     by_cases hjl : j < r.length
     ·rw [List.getElem?_append_left hjl] at I; exact v5 j v I
     ·rw [List.getElem?_append_right (by omega)] at I
      have := w4 _ v I
      rw [v3, Nat.add_mul] at this
      have e1 : i * P.cellsOf e + 1 * P.cellsOf e + (j - P.cellsOf e) = i * P.cellsOf e + j := by omega
      rwa [e1] at this
  obtain ⟨xs, rs, w1, w2, w3, w4⟩ := U len 0 (by omega)
  refine ⟨xs, ⟨some a, cap, by rw [w2], ⟨rs, w1, vb fun j v I => ?_⟩, by rw [w2]; exact hl, hm⟩, aM rfl, by rw [ab]; rfl, ⟨by rw [w2]; exact b0, w3.1⟩, by have h2 := w3.2; simp only [List.drop_zero] at h2; rw [nQ]; simp only [Rows.uptoBulk]; omega⟩
  have := w4 j v I
  simpa using this
def qM (enc : TypeId × Value → H) (P : Program) (W : World) (held : Bool) (ts : List TypeId) (V : α → List Value → Prop) (D : α → Prop) : Prop :=
 ∀ u cs xs, yg enc P W held u ts cs xs → (∀ n ∈ DataW.weightsEach P ts (xs.map (·.1)), n ≤ reachBytes) → ∃ y, V y cs ∧ one cs ∧ D y ∧ Mu.mu y ≤ Rows.uptoBulkAll (xs.map (·.1))
theorem mV {t : TypeId} {V : α → List Value → Prop} {u : α → Prop} (h : jl enc P W held t V u) : qM enc P W held [t] V u := by
 rintro fuel cs xs ⟨D, c2, x, r, rfl, rfl, h1, rfl, rfl⟩ hw
 obtain ⟨y, a, b, c, d⟩ := h fuel D x h1 (fun n I => hw n (by simp [DataW.weightsEach]; exact I))
 exact ⟨y, by simpa using a, by simpa using b, d.1, by simp only [List.map_cons, List.map_nil, Rows.uptoBulkAll]; exact d.2⟩
theorem gA {t : TypeId} {ts : List TypeId} {V : α → List Value → Prop} {J : α → Prop} {U : β → List Value → Prop} {u : β → Prop} (h : jl enc P W held t V J) (h2 : qM enc P W held ts U u) :
  qM enc P W held (t :: ts) (fun (x : α × β) cs => ∃ D c2, cs = D ++ c2 ∧ V x.1 D ∧ U x.2 c2) (fun x => J x.1 ∧ u x.2) := by
 rintro fuel cs xs ⟨D, c2, x, r, rfl, rfl, h1, h3⟩ hw
 obtain ⟨y, a, b, c, d⟩ := h fuel D x h1 (fun n I => hw n (by simp only [List.map_cons, DataW.weightsEach, List.mem_append]; exact .inl I))
 obtain ⟨z, a2, b2, X⟩ := h2 fuel c2 r h3 (fun n I => hw n (by simp only [List.map_cons, DataW.weightsEach, List.mem_append]; exact .inr I))
 exact ⟨(y, z), ⟨D, c2, rfl, a, a2⟩, yh b b2, ⟨d.1, X.1⟩, by have h4 := d.2; have h5 := X.2; simp only [List.map_cons, Rows.uptoBulkAll, jH]; omega⟩
theorem lM {t : TypeId} {fs : Array Field} {V : α → List Value → Prop} {J : α → Prop} (U : P.underlying t = some (.struct fs)) (u : uy P 0 fs.toList = true) (X : vc P fs.toList = P.cellsOf t) {ts : List TypeId} (D : fs.toList.map (·.type) = ts) (h : qM enc P W held ts V J) : jl enc P W held t V J := by
 intro ab cs x hx hw
 obtain ⟨xs, n, rfl, rfl, hl, I, hf⟩ := DataW.trod_struct U hx
 have := vd n fs.toList 0 cs xs u (by rw [hl]; omega) (by simpa using I) (fun i f hi => hf i f (by simpa using hi))
 rw [D] at this
 obtain ⟨y, a, b, c⟩ := h n cs xs (by simpa using this) (fun n hn => hw n (by simp only [DataW.weights, U, D]; exact hn))
 exact ⟨y, a, b, hl, c.1, by have h4 := c.2; simp only [Rows.uptoBulk]; omega⟩
end
end Go.Proofs.YtndjkejhacfpdaaGreatDoor

namespace Go.Proofs.YtndjkejhacfpdaaGreatDoor
open Go.RowKit
end Go.Proofs.YtndjkejhacfpdaaGreatDoor

namespace Go.Proofs.YtndjkejhacfpdaaGreatDoor
open Go.RowKit
def inU (z : Int) : Prop := 0 ≤ z ∧ z < 4294967296
theorem jh (n : Int) (u : 0 ≤ n) (D : n < 2 ^ 32) : IntKind.u32.wrap n = n := by rw [IntKind.wrap_u32]; omega
theorem oY (b : BinOp) (m n : Int) : inU (df b .u32 m n) := by
 unfold df inU
 rw [IntKind.wrap_u32]
 omega
theorem Di {n : Int} (h : inU n) : df .and .u32 n 1 = n % 2 := bits_mask .u32 32 (by decide) jh 1 (by decide) n h.1 h.2
theorem yT (m n : Int) : df .or .u32 m n = df .or .u32 n m := by simp only [df, BitVec.or_comm]
theorem uM (i : Nat) {x y : Int} (u : 0 ≤ x) (U : x % 2 ^ i = 0) (D : x < 4294967296) (I : 0 ≤ y) (X : y < 2 ^ i) (J : y < 4294967296) : df .or .u32 y x = x + y := by
 rw [yT]
 exact bits_join .u32 32 (by decide) jh i x y u U D I X J
def h1 (z : Int) : Int := if z % 2 = 1 then df .xor .u32 (z / 2) 2197175160 else z / 2
def hN : Nat → Int → Int
 | 0, z => z
 | n + 1, z => hN n (h1 z)
theorem yU {z : Int} (h : inU z) : inU (h1 z) := by
 unfold h1
 split
 ·exact oY _ _ _
 ·have := h.1; have := h.2; unfold inU; omega
theorem uN : ∀ (n : Nat) {z : Int}, inU z → inU (hN n z)
 | 0, z, h => h
 | n + 1, z, h => uN n (yU h)
def pw (s : Int) (l : List UInt8) : Int := l.foldl (fun s c => hN 8 (df .xor .u32 s (c.toNat : Int))) s
theorem rn : ∀ (l : List UInt8) {s : Int}, inU s → inU (pw s l)
 | [], s, h => h
 | c :: l, s, h => by
  show inU (pw (hN 8 (df .xor .u32 s (c.toNat : Int))) l)
  exact rn l (uN 8 (oY _ _ _))
theorem uO (s : Int) (a b : List UInt8) : pw s (a ++ b) = pw (pw s a) b := by unfold pw; rw [List.foldl_append]
theorem wa {i n : Nat} (h : i + n < 2 ^ 62) : IntKind.i64.wrap ((i : Int) + (n : Int)) = ((i + n : Nat) : Int) := by rw [w64 (by omega) (by omega)]; simp
theorem ws1 {n : Nat} (h : n < 2 ^ 61) : IntKind.i64.wrap ((n : Int) + 1) = ((n + 1 : Nat) : Int) := by rw [w64 (by omega) (by omega)]; simp
theorem frG {l : List UInt8} {i : Nat} (h : i < l.length) : l.drop i = l.getD i 0 :: l.drop (i + 1) := by
 rw [List.getD_eq_getElem?_getD, List.getElem?_eq_getElem h]
 exact List.drop_eq_getElem_cons h
theorem sR : ∀ (k i : Nat) (z : Int), 8 - i < k → i ≤ 8 → inU z → cV.l1 k z (i : Int) = some (hN (8 - i) z)
 | 0, i, z, h, _, _ => by omega
 | k + 1, i, z, h, hi, hz => by
  rw [cV.l1]
  by_cases hlt : i < 8
  ·have D : Int.fdiv z (2 ^ (min (1 : Int).toNat IntKind.u32.bits)) = z / 2 := by
    show Int.fdiv z 2 = _
    rw [Int.fdiv_eq_ediv_of_nonneg _ (by decide)]
   have e : 8 - i = (8 - (i + 1)) + 1 := by omega
   have u := yU hz
   unfold h1 at u
   rw [if_pos (by omega), Di hz, D, ws1 (by omega), e]
   show _ = some (hN (8 - (i + 1)) (h1 z))
   unfold h1
   by_cases hb : z % 2 = 1
   ·rw [if_pos hb] at u
    rw [if_pos hb, if_pos hb, sR k (i + 1) _ (by omega) (by omega) u]
   ·rw [if_neg hb] at u
    rw [if_neg hb, if_neg hb, sR k (i + 1) _ (by omega) (by omega) u]
  ·rw [if_neg (by omega), show 8 - i = 0 by omega]
   rfl
theorem wY {x : List UInt8} (u : x.length < 2 ^ 40) : ∀ (k i : Nat) (z : Int), x.length - i + 9 < k → i ≤ x.length → inU z → cV.l0 x k z (i : Int) = some (pw z (x.drop i))
 | 0, i, z, h, _, _ => by omega
 | k + 1, i, z, h, hi, hz => by
  rw [cV.l0]
  by_cases hlt : i < x.length
  ·have D : ((x.getD i 0).toNat : Int) < 256 := by have := sS x i; omega
   rw [if_pos (by omega), if_pos (by omega), frG hlt]
   simp only [Int.toNat_natCast]
   rw [jh _ (by omega) (by omega), show (0 : Int) = ((0 : Nat) : Int) from rfl, sR k 0 _ (by omega) (by omega) (oY _ _ _), Option.bind_some, ws1 (by omega), wY u k (i + 1) _ (by omega) (by omega) (uN _ (oY _ _ _))]
   rfl
  ·rw [if_neg (by omega), List.drop_of_length_le (by omega)]
   rfl
theorem sd {x : List UInt8} {z : Int} {k : Nat} (u : x.length < 2 ^ 40) (D : inU z) (I : x.length + 9 < k) : cV.f k z x = some (pw z x) := by
 unfold cV.f
 have := wY u k 0 z (by omega) (by omega) D
 rw [List.drop_zero] at this
 rw [show (0 : Int) = ((0 : Nat) : Int) from rfl, this]
 rfl
abbrev Dj : Int := if IntKind.u32.signed then -1 else IntKind.u32.max
def nU (l : List UInt8) : Int := df .xor .u32 Dj (pw 4294967295 l)
theorem Ae (l : List UInt8) : inU (nU l) := oY _ _ _
theorem ya : inU 4294967295 := ⟨by decide, by decide⟩
def gH (n : Int) : List UInt8 := [(hJ (IntKind.u8.wrap n)), (hJ (IntKind.u8.wrap (Int.fdiv n (2 ^ (min (8 : Int).toNat IntKind.u32.bits))))), (hJ (IntKind.u8.wrap (Int.fdiv n (2 ^ (min (16 : Int).toNat IntKind.u32.bits))))), (hJ (IntKind.u8.wrap (Int.fdiv n (2 ^ (min (24 : Int).toNat IntKind.u32.bits)))))]
theorem lL (n : Int) : 0 ≤ IntKind.u8.wrap n ∧ IntKind.u8.wrap n < 256 := by rw [IntKind.wrap_u8]; omega
theorem yV (n : Int) : jy.f n = some (gH n) := by
 unfold jy.f
 rw [if_pos (lL _), if_pos (lL _), if_pos (lL _), if_pos (lL _)]
 rfl
theorem lP (n : Int) : (gH n).length = 4 := rfl
def frB (p : List UInt8) : List UInt8 := gH (p.length : Int) ++ gH (nU (gH (p.length : Int) ++ p)) ++ p
theorem kP (p : List UInt8) : (frB p).length = 8 + p.length := by simp [frB, lP]; omega
theorem C0 {u p : List UInt8} {k : Nat} (D : u.length ≤ 2 ^ 40) (hp : p.length ≤ 1048576) (I : p.length + 20 < k) : kV.f k u p = some (u ++ frB p) := by
 unfold kV.f
 rw [jh _ (by omega) (by omega), yV, Option.bind_some, sd (by rw [lP]; omega) ya (by rw [lP]; omega), Option.bind_some, sd (by omega) (rn _ ya) (by omega), Option.bind_some,
  if_pos (by rw [lP]; omega), yV, Option.bind_some, if_pos (by rw [List.length_append, lP, lP]; omega), if_pos (by simp only [List.length_append, lP]; omega), ← uO]
 simp only [frB, nU, List.append_assoc]
theorem C1 {p : List UInt8} {k : Nat} (u : p.length + 20 < k) : kz.f k p = some (if 1048576 < p.length then ([], 3) else (frB p, 0)) := by
 unfold kz.f
 by_cases h : 1048576 < p.length
 ·rw [if_pos (by omega), if_pos h]
 ·rw [if_neg (by omega), if_neg h, show (8 : Int) + (p.length : Int) = ((8 + p.length : Nat) : Int) by simp, w64 (by omega) (by omega), if_pos (by omega)]
  have : List.replicate (0 : Int).toNat (0 : UInt8) = [] := rfl
  rw [this, C0 (by simp) (by omega) u]
  rfl
end Go.Proofs.YtndjkejhacfpdaaGreatDoor

namespace Go.Proofs.YtndjkejhacfpdaaGreatDoor
open Go.RowKit
def nb (l : List UInt8) (i : Nat) : Nat := (l.getD i 0).toNat
theorem ow (l : List UInt8) (i : Nat) : nb l i < 256 := sS l i
def jr (l : List UInt8) : Nat := nb l 0 + 256 * nb l 1 + 65536 * nb l 2 + 16777216 * nb l 3
theorem Ak (l : List UInt8) : jr l < 4294967296 := by
 have := ow l 0; have := ow l 1; have := ow l 2; have := ow l 3
 unfold jr; omega
theorem yZ {l : List UInt8} (h : 4 ≤ l.length) : jB.f l = some (jr l : Int) := by
 have u := ow l 0; have D := ow l 1; have I := ow l 2; have J := ow l 3
 unfold jB.f
 rw [if_pos (by omega), if_pos (by omega), if_pos (by omega), if_pos (by omega)]
 show some (df .or .u32 (df .or .u32 (df .or .u32 (IntKind.u32.wrap ((nb l 0 : Nat) : Int)) (IntKind.u32.wrap ((IntKind.u32.wrap ((nb l 1 : Nat) : Int)) * 256))) (IntKind.u32.wrap ((IntKind.u32.wrap ((nb l 2 : Nat) : Int)) * 65536))) (IntKind.u32.wrap ((IntKind.u32.wrap ((nb l 3 : Nat) : Int)) * 16777216))) = _
 rw [jh ((nb l 0 : Nat) : Int) (by omega) (by omega), jh ((nb l 1 : Nat) : Int) (by omega) (by omega), jh ((nb l 2 : Nat) : Int) (by omega) (by omega), jh ((nb l 3 : Nat) : Int) (by omega) (by omega),
  jh (((nb l 1 : Nat) : Int) * 256) (by omega) (by omega), jh (((nb l 2 : Nat) : Int) * 65536) (by omega) (by omega), jh (((nb l 3 : Nat) : Int) * 16777216) (by omega) (by omega),
  uM 8 (x := ((nb l 1 : Nat) : Int) * 256) (y := ((nb l 0 : Nat) : Int)) (by omega) (by omega) (by omega) (by omega) (by omega) (by omega), uM 16 (x := ((nb l 2 : Nat) : Int) * 65536) (y := ((nb l 1 : Nat) : Int) * 256 + ((nb l 0 : Nat) : Int)) (by omega) (by omega) (by omega) (by omega) (by omega) (by omega), uM 24 (x := ((nb l 3 : Nat) : Int) * 16777216) (by omega) (by omega) (by omega) (by omega) (by omega) (by omega)]
 unfold jr
 congr 1
 try omega
theorem sj {n : Int} (u : 0 ≤ n) (h1 : n < 256) : ((hJ n).toNat : Int) = n := kG u h1
theorem qk {n : Int} (h : inU n) (r : List UInt8) : ((jr (gH n ++ r) : Nat) : Int) = n := by
 have J := h.1
 have U := h.2
 have u : Int.fdiv n (2 ^ (min (8 : Int).toNat IntKind.u32.bits)) = n / 256 := by show Int.fdiv n 256 = _; rw [Int.fdiv_eq_ediv_of_nonneg _ (by decide)]
 have D : Int.fdiv n (2 ^ (min (16 : Int).toNat IntKind.u32.bits)) = n / 65536 := by show Int.fdiv n 65536 = _; rw [Int.fdiv_eq_ediv_of_nonneg _ (by decide)]
 have I : Int.fdiv n (2 ^ (min (24 : Int).toNat IntKind.u32.bits)) = n / 16777216 := by show Int.fdiv n 16777216 = _; rw [Int.fdiv_eq_ediv_of_nonneg _ (by decide)]
 have X : ((nb (gH n ++ r) 0 : Nat) : Int) = n % 256 := by
  show ((hJ (IntKind.u8.wrap n)).toNat : Int) = _
  rw [sj (lL _).1 (lL _).2, IntKind.wrap_u8]
 have e1 : ((nb (gH n ++ r) 1 : Nat) : Int) = n / 256 % 256 := by
  show ((hJ (IntKind.u8.wrap (Int.fdiv n (2 ^ (min (8 : Int).toNat IntKind.u32.bits))))).toNat : Int) = _
  rw [sj (lL _).1 (lL _).2, IntKind.wrap_u8, u]
 have e2 : ((nb (gH n ++ r) 2 : Nat) : Int) = n / 65536 % 256 := by
  show ((hJ (IntKind.u8.wrap (Int.fdiv n (2 ^ (min (16 : Int).toNat IntKind.u32.bits))))).toNat : Int) = _
  rw [sj (lL _).1 (lL _).2, IntKind.wrap_u8, D]
 have e3 : ((nb (gH n ++ r) 3 : Nat) : Int) = n / 16777216 % 256 := by
  show ((hJ (IntKind.u8.wrap (Int.fdiv n (2 ^ (min (24 : Int).toNat IntKind.u32.bits))))).toNat : Int) = _
  rw [sj (lL _).1 (lL _).2, IntKind.wrap_u8, I]
 unfold jr
 omega
def mH (r : List UInt8) : List UInt8 × Int × Int :=
 if r.length < 4 then ([], 0, 2)
 else if 1048576 < jr r then ([], 0, 3)
 else if r.length < 8 + jr r then ([], 0, 2)
 else if nU (r.take 4 ++ (r.drop 8).take (jr r)) = (jr (r.drop 4) : Int) then ((r.drop 8).take (jr r), ((8 + jr r : Nat) : Int), 0)
 else ([], 0, 5)
theorem yi {b : List UInt8} {i k : Nat} (hb : b.length ≤ 2 ^ 40) (hi : i ≤ b.length) (hk : 1048600 < k) : ka.f k b (i : Int) = some (mH (b.drop i)) := by
 obtain ⟨r, u⟩ : ∃ r, b.drop i = r := ⟨_, rfl⟩
 have I : r.length = b.length - i := by rw [← u]; simp
 unfold ka.f mH
 rw [u]
 by_cases h4 : r.length < 4
 ·rw [if_pos (by rw [w64 (by omega) (by omega)]; simp; omega), if_pos h4]
 ·have J : cut b (i : Int) (b.length : Int) = r := by rw [za, Int.toNat_natCast, u]
  rw [if_neg (by rw [w64 (by omega) (by omega)]; simp; omega), if_neg h4, if_pos (by omega), J, yZ (by omega), Option.bind_some]
  have U := Ak r
  obtain ⟨n, en⟩ : ∃ n, jr r = n := ⟨_, rfl⟩
  rw [en] at U ⊢
  rw [w64 (n := (n : Int)) (by omega) (by omega)]
  by_cases h1 : 1048576 < n
  ·rw [if_pos (by omega), if_pos h1]
  ·rw [if_neg (by omega), if_neg h1, show (8 : Int) + (n : Int) = ((8 + n : Nat) : Int) by simp, w64 (by omega) (by omega)]
   by_cases h2 : r.length < 8 + n
   ·rw [if_pos (by omega), if_pos h2]
   ·have X : cut r (0 : Int) (4 : Int) = r.take 4 := by simp [cut]
    have c2 : cut r (8 : Int) ((8 + n : Nat) : Int) = (r.drop 8).take n := Cq r 8 n
    have c3 : cut r (4 : Int) (r.length : Int) = r.drop 4 := by rw [za]; rfl
    have ad : (r.take 4).length = 4 := by simp; omega
    have D : ((r.drop 8).take n).length = n := by simp; omega
    rw [if_neg (by omega), if_neg h2, if_pos (by omega), if_pos (by omega), X, c2, sd (by omega) ya (by omega), Option.bind_some, sd (by omega) (rn _ ya) (by omega), Option.bind_some, if_pos (by omega), c3, yZ (by simp; omega), Option.bind_some, ← uO]
    show (if nU (r.take 4 ++ (r.drop 8).take n) = (jr (r.drop 4) : Int) then _ else _) = _
    by_cases h3 : nU (r.take 4 ++ (r.drop 8).take n) = (jr (r.drop 4) : Int)
    ·rw [if_pos h3, if_pos h3, if_pos (by omega), if_pos (by rw [D]; simp; omega)]
     rfl
    ·rw [if_neg h3, if_neg h3]
theorem Bw {p : List UInt8} (hp : p.length ≤ 1048576) (r : List UInt8) : mH (frB p ++ r) = (p, ((8 + p.length : Nat) : Int), 0) := by
 have h1 : jr (frB p ++ r) = p.length := by
  have := qk (n := (p.length : Int)) ⟨by omega, by omega⟩ (gH (nU (gH (p.length : Int) ++ p)) ++ p ++ r)
  have e : gH (p.length : Int) ++ (gH (nU (gH (p.length : Int) ++ p)) ++ p ++ r) = frB p ++ r := by simp [frB]
  rw [e] at this
  omega
 have U : (frB p ++ r).length = 8 + p.length + r.length := by rw [List.length_append, kP]
 have u : (frB p ++ r).take 4 = gH (p.length : Int) := by simp [frB, gH]
 have D : (frB p ++ r).drop 4 = gH (nU (gH (p.length : Int) ++ p)) ++ (p ++ r) := by simp [frB, gH]
 have I : ((frB p ++ r).drop 8).take p.length = p := by simp [frB, gH]
 have J := qk (Ae (gH (p.length : Int) ++ p)) (p ++ r)
 unfold mH
 rw [h1, I, u, D, J, if_neg (by omega), if_neg (by omega), if_neg (by omega), if_pos rfl]
end Go.Proofs.YtndjkejhacfpdaaGreatDoor

namespace Go.Proofs.YtndjkejhacfpdaaGreatDoor
open Go.RowKit
theorem gi {α : Type} {l : List α} {i : Nat} {d : α} (h : i < l.length) : l.getD i d = l[i] := by
 rw [List.getD_eq_getElem?_getD, List.getElem?_eq_getElem h]; rfl
theorem zt {α : Type} {l : List α} {i : Nat} {d : α} (h : i < l.length) : l.drop i = l.getD i d :: l.drop (i + 1) := by
 rw [gi h]
 exact List.drop_eq_getElem_cons h
theorem CY {p : UInt8 → Bool} (h : ((List.range 256).all fun n => p (UInt8.ofNat n)) = true) (c : UInt8) : p c = true := by
 have := List.all_eq_true.1 h c.toNat (List.mem_range.2 (UInt8.toNat_lt c))
 simpa using this
theorem wn1 {n : Nat} (h : n < 2 ^ 61) : IntKind.i64.wrap ((n : Int) + 1) = ((n + 1 : Nat) : Int) := by rw [w64 (by omega) (by omega)]; simp
def dg (c : UInt8) : Prop := 48 ≤ c.toNat ∧ c.toNat ≤ 57
def mv (a : Nat) (l : List UInt8) : Nat := l.foldl (fun a c => a * 10 + (c.toNat - 48)) a
instance (c : UInt8) : Decidable (dg c) := inferInstanceAs (Decidable (48 ≤ c.toNat ∧ c.toNat ≤ 57))
theorem wJ (a : Nat) (c : UInt8) (l : List UInt8) : mv a (c :: l) = mv (a * 10 + (c.toNat - 48)) l := by simp only [mv, List.foldl_cons]
theorem wR (a : Nat) (c : UInt8) (l : List UInt8) : mv a (l ++ [c]) = mv a l * 10 + (c.toNat - 48) := by simp [mv, List.foldl_append]
theorem Bo {n : Nat} (h : n < 256) : (UInt8.ofNat n).toNat = n := by simp; omega
theorem xq : ∀ (k u : Nat), u < 10 ^ (k + 1) → (Lib.decDigits u).length ≤ k + 1
 | 0, u, h => by rw [Lib.decDigits, dif_pos (by simpa using h)]; simp
 | k + 1, u, h => by
  rw [Lib.decDigits]
  split
  ·simp
  ·have := xq k (u / 10) (by rw [Nat.pow_succ] at h; omega)
   simp; omega
theorem Ay {n : Int} (h : 0 ≤ n) : Lib.itoa n = Lib.decDigits n.toNat := by unfold Lib.itoa; rw [if_neg (by omega)]
def pad : Nat → Nat → List UInt8
 | 0, _ => []
 | k + 1, n => pad k (n / 10) ++ [UInt8.ofNat (48 + n % 10)]
theorem pm : ∀ k n, (pad k n).length = k
 | 0, _ => rfl
 | k + 1, n => by rw [pad, List.length_append, pm k]; rfl
theorem wx : ∀ k, pad k 0 = Lib.repeatL [48] k
 | 0 => rfl
 | k + 1 => by
  have e : ∀ k, Lib.repeatL [48] k ++ [48] = Lib.repeatL [48] (k + 1) := fun k => by
   induction k with
   | zero => rfl
   | succ k ih => rw [Lib.repeatL, List.append_assoc, ih]; rfl
  rw [pad, show (0 : Nat) / 10 = 0 from rfl, wx k]
  exact e k
theorem xr : ∀ (k n : Nat), n < 10 ^ (k + 1) → Lib.repeatL [48] (k + 1 - (Lib.decDigits n).length) ++ Lib.decDigits n = pad (k + 1) n
 | k, n, h => by
  by_cases h10 : n < 10
  ·rw [Lib.decDigits, dif_pos h10, pad, show n / 10 = 0 by omega, show n % 10 = n by omega, wx]
   rfl
  ·rw [Lib.decDigits, dif_neg h10]
   cases k with
   | zero => exact absurd h (by simp; omega)
   | succ k =>
    have u := xr k (n / 10) (by rw [Nat.pow_succ] at h; omega)
    rw [pad, ← u, List.length_append]
    simp only [List.length_cons, List.length_nil]
    rw [show k + 1 + 1 - ((Lib.decDigits (n / 10)).length + (0 + 1)) = k + 1 - (Lib.decDigits (n / 10)).length by omega]
    simp
theorem vN : ∀ (k n : Nat) c, c ∈ pad k n → dg c
 | 0, _, c, h => by cases h
 | k + 1, n, c, h => by
  rw [pad] at h
  rcases List.mem_append.1 h with h | h
  ·exact vN k _ c h
  ·have e : (UInt8.ofNat (48 + n % 10)).toNat = 48 + n % 10 := Bo (by omega)
   rw [List.mem_singleton.1 h, dg, e]; omega
theorem vM : ∀ (k n : Nat), n < 10 ^ k → mv 0 (pad k n) = n
 | 0, n, h => by simp at h; subst h; rfl
 | k + 1, n, h => by
  have e : (UInt8.ofNat (48 + n % 10)).toNat = 48 + n % 10 := Bo (by omega)
  rw [pad, wR, vM k (n / 10) (by rw [Nat.pow_succ] at h; omega), e]
  omega
end Go.Proofs.YtndjkejhacfpdaaGreatDoor

namespace Go.Proofs.YtndjkejhacfpdaaGreatDoor
open Go.RowKit
abbrev vK : List UInt8 := [119, 97, 108, 45]
def aE (n : Nat) : List UInt8 := vK ++ pad 8 n
def oV (s : List UInt8) : Nat := if s.length = 12 ∧ s.take 4 = vK ∧ (∀ c, c ∈ s.drop 4 → dg c) then mv 0 (s.drop 4) else 0
instance (l : List UInt8) : Decidable (∀ c, c ∈ l → dg c) := inferInstanceAs (Decidable (∀ c ∈ l, dg c))
theorem vL (l : List UInt8) (I : l.length ≤ 8) : ∀ (k j : Nat), 8 - l.length - j < k → j ≤ 8 - l.length → ip.l0 k (Lib.repeatL [48] j ++ l) = some (Lib.repeatL [48] (8 - l.length) ++ l)
 | 0, j, h, _ => by omega
 | k + 1, j, h, hj => by
  have u : (Lib.repeatL [48] j).length = j := by rw [Lib.repeatL_length]; simp
  rw [ip.l0]
  by_cases hlt : j < 8 - l.length
  ·rw [if_pos (by rw [List.length_append, u]; omega), if_pos (by rw [List.length_append, u]; simp only [List.length_cons, List.length_nil]; omega)]
   have D := vL l I k (j + 1) (by omega) (by omega)
   rw [Lib.repeatL, List.append_assoc] at D
   exact D
  ·rw [if_neg (by rw [List.length_append, u]; omega), show j = 8 - l.length by omega]
theorem BO {n k : Nat} (D : 1 ≤ n) (h1 : n ≤ 99999999) (I : 10 ≤ k) : ip.f k (n : Int) = some (aE n, 0) := by
 have u := xq 7 n (by omega)
 have hp := xr 7 n (by omega)
 unfold ip.f
 have l0 := vL (Lib.decDigits n) (by omega) k 0 (by omega) (by omega)
 rw [if_neg (by simp; omega), kt.f, if_pos (by omega), Option.bind_some, Ay (by omega), Int.toNat_natCast]
 rw [show Lib.repeatL [48] 0 ++ Lib.decDigits n = Lib.decDigits n from rfl] at l0
 rw [l0, hp, Option.bind_some, if_pos (by rw [pm]; simp only [List.length_cons, List.length_nil]; omega)]
 rfl
theorem xu {s : List UInt8} (I : s.length = 12) : ∀ (k i n : Nat), 8 - i < k → i ≤ 8 → n < 10 ^ i →
  gc.l0 s k (n : Int) (i : Int) = some (if (∀ c, c ∈ (s.drop 4).drop i → dg c) then .inl ((mv n ((s.drop 4).drop i) : Nat) : Int) else .inr (0, false))
 | 0, i, n, h, _, _ => by omega
 | k + 1, i, n, hk, hi, hn => by
  rw [gc.l0]
  have J : cut s (4 : Int) (s.length : Int) = s.drop 4 := by unfold cut; simp
  have U : (s.drop 4).length = 8 := by simp; omega
  rw [J, U]
  by_cases hlt : i < 8
  ·have hm : n * 10 + 9 < 10 ^ 9 := by
    have : (10 : Nat) ^ i ≤ 10 ^ 7 := Nat.pow_le_pow_right (by omega) (by omega)
    omega
   have X : n * 10 < 10 ^ (i + 1) := by rw [Nat.pow_succ]; omega
   have D : (s.drop 4).drop i = (s.drop 4).getD i 0 :: (s.drop 4).drop (i + 1) := by
    have h2 := zt (l := s.drop 4) (d := (0 : UInt8)) (i := i) (by omega)
    exact h2
   rw [if_pos (by omega), if_pos (by omega), D]
   simp only [Int.toNat_natCast]
   obtain ⟨c, hc⟩ : ∃ c, (s.drop 4).getD i 0 = c := ⟨_, rfl⟩
   simp only [hc]
   by_cases hd : dg c
   ·have d1 := hd.1
    have d2 := hd.2
    rw [if_neg (by simp; omega)]
    have e2 : IntKind.i64.wrap (IntKind.i64.wrap (10 * (n : Int)) + IntKind.i64.wrap (IntKind.u8.wrap (((c.toNat : Nat) : Int) - 48))) = ((n * 10 + (c.toNat - 48) : Nat) : Int) := by
     rw [w8 (by omega) (by omega), w64 (n := 10 * (n : Int)) (by omega) (by omega), w64 (n := ((c.toNat : Nat) : Int) - 48) (by omega) (by omega), w64 (by omega) (by omega)]
     omega
    rw [e2, wn1 (by omega), xu I k (i + 1) _ (by omega) (by omega) (by rw [Nat.pow_succ]; omega), wJ]
    have e3 : (∀ d, d ∈ c :: (s.drop 4).drop (i + 1) → dg d) ↔ (∀ d, d ∈ (s.drop 4).drop (i + 1) → dg d) := ⟨fun h d u => h d (List.mem_cons_of_mem _ u), fun h d u => by
     rcases List.mem_cons.1 u with rfl | u
     ·exact hd
     ·exact h d u⟩
    simp only [e3]
   ·rw [if_pos (by
     unfold dg at hd
     simp only [Bool.or_eq_true, decide_eq_true_eq]
     omega), if_neg (fun h => hd (h c (by simp)))]
  ·rw [if_neg (by omega), List.drop_of_length_le (l := s.drop 4) (by omega), if_pos (fun c h => (by cases h))]
   rfl
theorem zu {s : List UInt8} {k : Nat} (I : s.length ≤ 2 ^ 40) (J : 10 ≤ k) : gc.f k s = some ((oV s : Int), decide (0 < oV s)) := by
 unfold gc.f oV
 by_cases hl : s.length = 12
 ·rw [if_pos (by omega), if_pos (by omega), Option.bind_some]
  have u : cut s (0 : Int) (4 : Int) = s.take 4 := by unfold cut; simp
  rw [u]
  by_cases hp : s.take 4 = vK
  ·have l0 := xu hl k 0 0 (by omega) (by omega) (by omega)
   rw [show ((0 : Nat) : Int) = (0 : Int) from rfl] at l0
   have D : (cut s (4 : Int) (s.length : Int)).length = 8 := by unfold cut; simp; omega
   rw [if_neg (by simp [hp]), if_pos (show 0 ≤ (4 : Int) ∧ (4 : Int) ≤ (s.length : Int) ∧ (s.length : Int) ≤ (s.length : Int) by omega), if_pos (by rw [D]; omega), l0]
   rw [List.drop_zero]
   by_cases hd : ∀ c, c ∈ s.drop 4 → dg c
   ·rw [if_pos hd, if_pos ⟨hl, hp, hd⟩]
    simp [orR]
   ·rw [if_neg hd, if_neg (fun h => hd h.2.2)]
    rfl
  ·rw [if_pos (by simp [hp]), if_neg (fun h => hp h.2.1)]
   rfl
 ·rw [if_neg (by omega), Option.bind_some, if_pos rfl, if_neg (fun h => hl h.1)]
  rfl
theorem kc (n : Nat) : (aE n).length = 12 := by simp [aE, pm]
theorem pQ {n : Nat} (h : n ≤ 99999999) : oV (aE n) = n := by
 have u : (aE n).take 4 = vK := by simp [aE]
 have D : (aE n).drop 4 = pad 8 n := by simp [aE]
 unfold oV
 rw [D, vM 8 n (by omega), if_pos ⟨kc n, u, fun c I => vN 8 n c I⟩]
end Go.Proofs.YtndjkejhacfpdaaGreatDoor

namespace Go.Proofs.YtndjkejhacfpdaaGreatDoor
open Go.RowKit
abbrev EnT := Int × Int × Int × List UInt8
abbrev HeT := Int × Int × Int × List UInt8 × Int
abbrev bx := Int × Int × Int × Int × Int × Int × Int × Int × Int × Int × List UInt8
def cb (r : bx) : List UInt8 :=
 bf r.1 ++ (if r.1 = 0 then bf r.2.1 else []) ++ (if r.1 = 0 ∨ r.1 = 1 then bf r.2.2.1 ++ bf r.2.2.2.1 ++ bf r.2.2.2.2.1 else []) ++ (if r.1 = 0 ∨ r.1 = 3 then bf r.2.2.2.2.2.1 ++ bf r.2.2.2.2.2.2.1 else []) ++
  (if r.1 = 2 then bB (txE r.2.2.2.2.2.2.2.1 r.2.2.2.2.2.2.2.2.1 r.2.2.2.2.2.2.2.2.2.1 r.2.2.2.2.2.2.2.2.2.2) else [])
structure OkR (r : bx) : Prop where
 kd : 0 ≤ r.1 ∧ r.1 ≤ 3
 nu : okN r.2.1
 t : okN r.2.2.1
 v : okN r.2.2.2.1
 c : okN r.2.2.2.2.1
 i : okN r.2.2.2.2.2.1
 m : okN r.2.2.2.2.2.2.1
 e : r.1 = 2 → lG r.2.2.2.2.2.2.2.1 r.2.2.2.2.2.2.2.2.1 r.2.2.2.2.2.2.2.2.2.1 r.2.2.2.2.2.2.2.2.2.2 = 0
theorem lO : cm.f 0 = some () := rfl
theorem tc (t i kd : Int) (d : List UInt8) : (txE t i kd d).length ≤ d.length + 36 := by
 have u := eh t; have D := eh i; have I := eh kd; have J := vo d
 unfold txE
 simp only [List.length_append]
 omega
theorem jM (r : bx) : (cb r).length ≤ r.2.2.2.2.2.2.2.2.2.2.length + 120 := by
 have u := eh r.1; have D := eh r.2.1; have I := eh r.2.2.1; have J := eh r.2.2.2.1; have U := eh r.2.2.2.2.1; have X := eh r.2.2.2.2.2.1; have b6 := eh r.2.2.2.2.2.2.1
 have b7 := tc r.2.2.2.2.2.2.2.1 r.2.2.2.2.2.2.2.2.1 r.2.2.2.2.2.2.2.2.2.1 r.2.2.2.2.2.2.2.2.2.2
 have b8 := vo (txE r.2.2.2.2.2.2.2.1 r.2.2.2.2.2.2.2.2.1 r.2.2.2.2.2.2.2.2.2.1 r.2.2.2.2.2.2.2.2.2.2)
 unfold cb
 simp only [List.length_append]
 have e1 : (if r.1 = 0 then bf r.2.1 else []).length ≤ 9 := by split <;> first | omega | simp
 have e2 : (if r.1 = 0 ∨ r.1 = 1 then bf r.2.2.1 ++ bf r.2.2.2.1 ++ bf r.2.2.2.2.1 else []).length ≤ 27 := by split <;> first | (simp only [List.length_append]; omega) | simp
 have e3 : (if r.1 = 0 ∨ r.1 = 3 then bf r.2.2.2.2.2.1 ++ bf r.2.2.2.2.2.2.1 else []).length ≤ 18 := by split <;> first | (simp only [List.length_append]; omega) | simp
 have e4 : (if r.1 = 2 then bB (txE r.2.2.2.2.2.2.2.1 r.2.2.2.2.2.2.2.2.1 r.2.2.2.2.2.2.2.2.2.1 r.2.2.2.2.2.2.2.2.2.2) else []).length ≤ r.2.2.2.2.2.2.2.2.2.2.length + 45 := by split <;> first | omega | simp
 omega
theorem sX {r : bx} (h : OkR r) {k : Nat} (hk : 10000 ≤ k) : dT.f k r.1 r.2.1 r.2.2.1 r.2.2.2.1 r.2.2.2.2.1 r.2.2.2.2.2.1 r.2.2.2.2.2.2.1 r.2.2.2.2.2.2.2.1 r.2.2.2.2.2.2.2.2.1 r.2.2.2.2.2.2.2.2.2.1 r.2.2.2.2.2.2.2.2.2.2 = some (frB (cb r)) := by
 have J := jM r
 obtain ⟨kd, nu, t, v, c, i, m, X, ei, ek, ed⟩ := r
 obtain ⟨af, U, ht, hv, hc, hi, hm, he⟩ := h
 simp only at af U ht hv hc hi hm he J ⊢
 have b0 := eh kd; have b1 := eh nu; have b2 := eh t; have b3 := eh v; have b4 := eh c; have b5 := eh i; have b6 := eh m
 have u : 10 ≤ k := by omega
 have fin : ∀ p : List UInt8, p.length ≤ 9000 → ((fq.f p 0).bind fun D => ((cm.f D.2).bind fun bc => ((kz.f k D.1).bind fun I => ((cm.f I.2).bind fun be => (some I.1))))) = some (frB p) := fun p hp => by
  rw [wD (by omega), Option.bind_some]
  simp only []
  rw [lO, Option.bind_some, C1 (by omega), if_neg (by omega), Option.bind_some]
  simp only []
  rw [lO, Option.bind_some]
 unfold dT.f
 rw [show gL.f = some (([] : List UInt8), 0) from rfl, Option.bind_some]
 simp only []
 rw [wI u (by simp) (show okN kd by unfold okN; omega), Option.bind_some]
 simp only [List.nil_append]
 have a7 : kd = 0 ∨ kd = 1 ∨ kd = 2 ∨ kd = 3 := by omega
 rcases a7 with rfl | rfl | rfl | rfl
 ·rw [if_pos rfl, wI u (by omega) U]
  simp only [Option.bind_some]
  rw [if_pos (by decide), wI u (by first | omega | (simp only [List.length_append, List.length_nil]; omega)) ht, Option.bind_some, wI u (by first | omega | (simp only [List.length_append, List.length_nil]; omega)) hv, Option.bind_some, wI u (by first | omega | (simp only [List.length_append, List.length_nil]; omega)) hc]
  simp only [Option.bind_some]
  rw [if_pos (by decide), wI u (by first | omega | (simp only [List.length_append, List.length_nil]; omega)) hi, Option.bind_some, wI u (by first | omega | (simp only [List.length_append, List.length_nil]; omega)) hm]
  simp only [Option.bind_some]
  rw [if_neg (by decide)]
  simp only [Option.bind_some]
  rw [fin _ (by first | omega | (simp only [List.length_append, List.length_nil]; omega))]
  unfold cb
  simp [List.append_assoc]
 ·rw [if_neg (by decide)]
  simp only [Option.bind_some]
  rw [if_pos (by decide), wI u (by first | omega | (simp only [List.length_append, List.length_nil]; omega)) ht, Option.bind_some, wI u (by first | omega | (simp only [List.length_append, List.length_nil]; omega)) hv, Option.bind_some, wI u (by first | omega | (simp only [List.length_append, List.length_nil]; omega)) hc]
  simp only [Option.bind_some]
  rw [if_neg (by decide)]
  simp only [Option.bind_some]
  rw [if_neg (by decide)]
  simp only [Option.bind_some]
  rw [fin _ (by first | omega | (simp only [List.length_append, List.length_nil]; omega))]
  unfold cb
  simp [List.append_assoc]
 ·rw [if_neg (by decide)]
  simp only [Option.bind_some]
  rw [if_neg (by decide)]
  simp only [Option.bind_some]
  rw [if_neg (by decide)]
  simp only [Option.bind_some]
  have hE := he rfl
  have b9 := gY hE
  have b7 := tc X ei ek ed
  have b8 := vo (txE X ei ek ed)
  first | rw [if_pos rfl] | rw [if_pos trivial]
  rw [C7 u]
  unfold As
  rw [if_pos hE]
  simp only [Option.bind_some]
  rw [lO, Option.bind_some, wB u (by omega) (by omega) (by omega)]
  simp only [Option.bind_some]
  rw [fin _ (by have := eh ((txE X ei ek ed).length : Int); simp only [List.length_append]; omega)]
  unfold cb
  simp [List.append_assoc, bB]
 ·rw [if_neg (by decide)]
  simp only [Option.bind_some]
  rw [if_neg (by decide)]
  simp only [Option.bind_some]
  rw [if_pos (by decide), wI u (by omega) hi, Option.bind_some, wI u (by first | omega | (simp only [List.length_append, List.length_nil]; omega)) hm]
  simp only [Option.bind_some]
  rw [if_neg (by decide)]
  simp only [Option.bind_some]
  rw [fin _ (by first | omega | (simp only [List.length_append, List.length_nil]; omega))]
  unfold cb
  simp [List.append_assoc]
end Go.Proofs.YtndjkejhacfpdaaGreatDoor

namespace Go.Proofs.YtndjkejhacfpdaaGreatDoor
open Go.RowKit
abbrev dzH : HeT := (0, 0, 0, [], 0)
abbrev St := Int × Int × Int × Int × Int × List HeT
structure dw (s : St) : Prop where
 t : okN s.1
 v : okN s.2.1
 c : okN s.2.2.1
 b : okN s.2.2.2.1
 bt : okN s.2.2.2.2.1
 idx : ∀ i, i < s.2.2.2.2.2.length → (s.2.2.2.2.2.getD i dzH).2.1 = s.2.2.2.1 + ((i + 1 : Nat) : Int)
 chk : ∀ e, e ∈ s.2.2.2.2.2 → lG e.1 e.2.1 e.2.2.1 e.2.2.2.1 = 0
theorem ob : dw (0, 0, 0, 0, 0, []) := ⟨⟨by decide, by decide⟩, ⟨by decide, by decide⟩, ⟨by decide, by decide⟩, ⟨by decide, by decide⟩, ⟨by decide, by decide⟩, fun i h => by simp at h, fun e h => by cases h⟩
def ep (s : St) : Int × Int := if 0 < s.2.2.2.2.2.length then ((s.2.2.2.2.2.getD (s.2.2.2.2.2.length - 1) dzH).2.1, (s.2.2.2.2.2.getD (s.2.2.2.2.2.length - 1) dzH).1) else (s.2.2.2.1, s.2.2.2.2.1)
theorem oG {s : St} (h : dw s) : (ep s).1 = s.2.2.2.1 + (s.2.2.2.2.2.length : Int) := by
 unfold ep
 split
 ·rw [h.idx _ (by omega)]; omega
 ·simp; omega
theorem mJ {l : List HeT} {i : Nat} (h : i < l.length) : l.getD i dzH ∈ l := by rw [gi h]; exact List.getElem_mem _
theorem nl {s : St} (h : dw s) : s.2.2.2.1 + (s.2.2.2.2.2.length : Int) ≤ 4611686018427387904 := by
 by_cases hl : 0 < s.2.2.2.2.2.length
 ·have h1 := h.idx (s.2.2.2.2.2.length - 1) (by omega)
  have u := (gY (h.chk _ (mJ (i := s.2.2.2.2.2.length - 1) (by omega)))).2.1
  have D := u.2
  rw [h1] at D
  omega
 ·have := h.b.2; omega
theorem qn (fs : FSt) (la : List UInt8) (a : Int) (d : Bool) (most : Int) (sg : List Int) (sz : Int) (s : St) (u : Bool) (D : s.2.2.2.2.2.length < 2 ^ 40) : dr.f fs la a d most sg sz s.1 s.2.1 s.2.2.1 s.2.2.2.1 s.2.2.2.2.1 s.2.2.2.2.2 u = some (ep s) := by
 unfold dr.f ep
 by_cases h0 : 0 < s.2.2.2.2.2.length
 ·have e : (s.2.2.2.2.2.length : Int) - 1 = ((s.2.2.2.2.2.length - 1 : Nat) : Int) := by omega
  rw [if_pos (by omega), if_pos h0, e, w64 (by omega) (by omega), if_pos (by omega), Int.toNat_natCast]
 ·rw [if_neg (by omega), if_neg h0]
def iq (s : St) (i m : Int) : Bool :=
 if i = s.2.2.2.1 then decide (m = s.2.2.2.2.1) else if s.2.2.2.1 < i ∧ i - s.2.2.2.1 ≤ (s.2.2.2.2.2.length : Int) then decide ((s.2.2.2.2.2.getD (i - s.2.2.2.1 - 1).toNat dzH).1 = m) else false
theorem uB (fs : FSt) (la : List UInt8) (a : Int) (d : Bool) (most : Int) (sg : List Int) (sz : Int) {s : St} (h : dw s) (u : Bool) {i : Int} (hi : okN i) (m : Int) : fa.f fs la a d most sg sz s.1 s.2.1 s.2.2.1 s.2.2.2.1 s.2.2.2.2.1 s.2.2.2.2.2 u i m = some (iq s i m) := by
 have D := h.b
 unfold okN at D hi
 unfold fa.f iq
 by_cases e : i = s.2.2.2.1
 ·rw [if_pos e, if_pos e]
 ·rw [if_neg e, if_neg e, w64 (n := i - s.2.2.2.1) (by omega) (by omega)]
  by_cases h2 : s.2.2.2.1 < i ∧ i - s.2.2.2.1 ≤ (s.2.2.2.2.2.length : Int)
  ·rw [if_pos (by simpa using h2), if_pos h2, w64 (by omega) (by omega), if_pos (by omega)]; rfl
  ·rw [if_neg (by simpa using h2), if_neg h2]; rfl
def dP (s : St) (r : bx) (sg : Int) : St :=
 if r.1 = 1 then (r.2.2.1, r.2.2.2.1, r.2.2.2.2.1, s.2.2.2.1, s.2.2.2.2.1, s.2.2.2.2.2)
 else if r.1 = 2 then
  (if s.2.2.2.1 + (s.2.2.2.2.2.length : Int) + 1 < r.2.2.2.2.2.2.2.2.1 then s
  else if r.2.2.2.2.2.2.2.2.1 ≤ s.2.2.2.1 then (s.1, s.2.1, s.2.2.1, r.2.2.2.2.2.2.2.2.1 - 1, 0, [(r.2.2.2.2.2.2.2.1, r.2.2.2.2.2.2.2.2.1, r.2.2.2.2.2.2.2.2.2.1, r.2.2.2.2.2.2.2.2.2.2, sg)])
  else (s.1, s.2.1, s.2.2.1, s.2.2.2.1, s.2.2.2.2.1, s.2.2.2.2.2.take (r.2.2.2.2.2.2.2.2.1 - s.2.2.2.1 - 1).toNat ++ [(r.2.2.2.2.2.2.2.1, r.2.2.2.2.2.2.2.2.1, r.2.2.2.2.2.2.2.2.2.1, r.2.2.2.2.2.2.2.2.2.2, sg)]))
 else if iq s r.2.2.2.2.2.1 r.2.2.2.2.2.2.1 = true then s else (s.1, s.2.1, s.2.2.1, r.2.2.2.2.2.1, r.2.2.2.2.2.2.1, [])
theorem zi (l : List HeT) (n : Nat) : cut l (0 : Int) (n : Int) = l.take n := by unfold cut; simp
theorem Cy (fs : FSt) (la : List UInt8) (a : Int) (d : Bool) (most : Int) (u : List Int) (sz : Int) {s : St} (h : dw s) (hl : s.2.2.2.2.2.length < 2 ^ 30) {r : bx} (D : OkR r) (h0 : r.1 ≠ 0) (sg : Int) :
  ∃ b, eQ.f fs la a d most u sz s.1 s.2.1 s.2.2.1 s.2.2.2.1 s.2.2.2.2.1 s.2.2.2.2.2 false r.1 r.2.1 r.2.2.1 r.2.2.2.1 r.2.2.2.2.1 r.2.2.2.2.2.1 r.2.2.2.2.2.2.1 r.2.2.2.2.2.2.2.1 r.2.2.2.2.2.2.2.2.1 r.2.2.2.2.2.2.2.2.2.1 r.2.2.2.2.2.2.2.2.2.2 sg =
   some (b, most, u, sz, (dP s r sg).1, (dP s r sg).2.1, (dP s r sg).2.2.1, (dP s r sg).2.2.2.1, (dP s r sg).2.2.2.2.1, (dP s r sg).2.2.2.2.2, false) := by
 have hk := D.kd
 have U := h.b
 unfold okN at U
 unfold eQ.f dP
 by_cases h1 : r.1 = 1
 ·rw [if_pos h1, if_pos h1]; exact ⟨true, rfl⟩
 rw [if_neg h1, if_neg h1]
 by_cases h2 : r.1 = 2
 ·rw [if_pos h2, if_pos h2, show eS.f = some () from rfl, Option.bind_some]
  unfold iI.f
  have I := (gY (D.e h2)).2.1
  have X := I.1
  have ab := I.2
  have J := nl h
  rw [w64 (n := s.2.2.2.1 + (s.2.2.2.2.2.length : Int)) (by omega) (by omega), w64 (n := s.2.2.2.1 + (s.2.2.2.2.2.length : Int) + 1) (by omega) (by omega)]
  by_cases g1 : s.2.2.2.1 + (s.2.2.2.2.2.length : Int) + 1 < r.2.2.2.2.2.2.2.2.1
  ·rw [if_pos g1, if_pos g1]; exact ⟨false, rfl⟩
  ·rw [if_neg g1, if_neg g1]
   by_cases g2 : r.2.2.2.2.2.2.2.2.1 ≤ s.2.2.2.1
   ·rw [if_pos g2, if_pos g2, w64 (n := r.2.2.2.2.2.2.2.2.1 - 1) (by omega) (by omega)]
    simp only [Option.bind_some]
    rw [show r.2.2.2.2.2.2.2.2.1 - (r.2.2.2.2.2.2.2.2.1 - 1) = 1 by omega, show IntKind.i64.wrap (1 : Int) = 1 from by decide, show IntKind.i64.wrap ((1 : Int) - 1) = 0 from by decide, if_pos ⟨by omega, by omega, by simp⟩]
    have ec : cut ([] : List HeT) (0 : Int) (0 : Int) = [] := rfl
    rw [ec, if_pos (by simp)]
    exact ⟨true, rfl⟩
   ·rw [if_neg g2, if_neg g2]
    simp only [Option.bind_some]
    have e1 : IntKind.i64.wrap (IntKind.i64.wrap (r.2.2.2.2.2.2.2.2.1 - s.2.2.2.1) - 1) = (((r.2.2.2.2.2.2.2.2.1 - s.2.2.2.1 - 1).toNat : Nat) : Int) := by
     rw [w64 (n := r.2.2.2.2.2.2.2.2.1 - s.2.2.2.1) (by omega) (by omega), w64 (by omega) (by omega)]
     omega
    rw [e1, if_pos ⟨by omega, by omega, by omega⟩, zi, if_pos (by simp only [List.length_take, List.length_cons, List.length_nil]; omega)]
    exact ⟨true, rfl⟩
 rw [if_neg h2, if_neg h2, if_pos (by omega), show eS.f = some () from rfl, Option.bind_some]
 unfold iJ.f
 rw [uB fs la a d most u sz h false D.i, Option.bind_some]
 cases hh : iq s r.2.2.2.2.2.1 r.2.2.2.2.2.2.1 with
 | true => exact ⟨true, rfl⟩
 | false => exact ⟨true, rfl⟩
theorem nk (l : List HeT) {i n : Nat} (h : i < n) : (l.take n).getD i dzH = l.getD i dzH := by
 simp only [List.getD_eq_getElem?_getD, List.getElem?_take, if_pos h]
theorem kf {s : St} (h : dw s) {r : bx} (I : OkR r) (h0 : r.1 ≠ 0) (sg : Int) : dw (dP s r sg) := by
 have hk := I.kd
 have hb := h.b
 unfold okN at hb
 unfold dP
 by_cases h1 : r.1 = 1
 ·rw [if_pos h1]; exact ⟨I.t, I.v, I.c, h.b, h.bt, h.idx, h.chk⟩
 rw [if_neg h1]
 by_cases h2 : r.1 = 2
 ·rw [if_pos h2]
  have J := I.e h2
  have X := (gY J).2.1
  have ad := X.1
  have af := X.2
  by_cases g1 : s.2.2.2.1 + (s.2.2.2.2.2.length : Int) + 1 < r.2.2.2.2.2.2.2.2.1
  ·rw [if_pos g1]; exact h
  ·rw [if_neg g1]
   by_cases g2 : r.2.2.2.2.2.2.2.2.1 ≤ s.2.2.2.1
   ·rw [if_pos g2]
    refine ⟨h.t, h.v, h.c, ⟨by show 0 ≤ r.2.2.2.2.2.2.2.2.1 - 1; omega, by show r.2.2.2.2.2.2.2.2.1 - 1 ≤ _; omega⟩, ⟨Int.le_refl 0, by show (0 : Int) ≤ _; omega⟩, fun i hi => ?_, fun e u => ?_⟩
    ·have : i = 0 := by simp at hi; omega
     subst this
     show r.2.2.2.2.2.2.2.2.1 = r.2.2.2.2.2.2.2.2.1 - 1 + ((0 + 1 : Nat) : Int)
     omega
    ·rw [List.mem_singleton.1 u]; exact J
   ·rw [if_neg g2]
    have D : (s.2.2.2.2.2.take (r.2.2.2.2.2.2.2.2.1 - s.2.2.2.1 - 1).toNat).length = (r.2.2.2.2.2.2.2.2.1 - s.2.2.2.1 - 1).toNat := by rw [List.length_take]; omega
    refine ⟨h.t, h.v, h.c, h.b, h.bt, fun i hi => ?_, fun e u => ?_⟩
    ·simp only [List.length_append, D, List.length_cons, List.length_nil] at hi
     by_cases hlt : i < (r.2.2.2.2.2.2.2.2.1 - s.2.2.2.1 - 1).toNat
     ·have U : (s.2.2.2.2.2.take (r.2.2.2.2.2.2.2.2.1 - s.2.2.2.1 - 1).toNat ++ [(r.2.2.2.2.2.2.2.1, r.2.2.2.2.2.2.2.2.1, r.2.2.2.2.2.2.2.2.2.1, r.2.2.2.2.2.2.2.2.2.2, sg)]).getD i dzH = s.2.2.2.2.2.getD i dzH := by
       rw [List.getD_eq_getElem?_getD, List.getElem?_append_left (by omega), ← List.getD_eq_getElem?_getD, nk _ hlt]
      simp only [U]
      exact h.idx i (by omega)
     ·have ei : i = (r.2.2.2.2.2.2.2.2.1 - s.2.2.2.1 - 1).toNat := by omega
      have U : (s.2.2.2.2.2.take (r.2.2.2.2.2.2.2.2.1 - s.2.2.2.1 - 1).toNat ++ [(r.2.2.2.2.2.2.2.1, r.2.2.2.2.2.2.2.2.1, r.2.2.2.2.2.2.2.2.2.1, r.2.2.2.2.2.2.2.2.2.2, sg)]).getD i dzH = (r.2.2.2.2.2.2.2.1, r.2.2.2.2.2.2.2.2.1, r.2.2.2.2.2.2.2.2.2.1, r.2.2.2.2.2.2.2.2.2.2, sg) := by
       rw [List.getD_eq_getElem?_getD, List.getElem?_append_right (by omega), D, ei, Nat.sub_self]; rfl
      simp only [U]
      omega
    ·rcases List.mem_append.1 u with u | u
     ·exact h.chk e (List.mem_of_mem_take u)
     ·rw [List.mem_singleton.1 u]; exact J
 rw [if_neg h2]
 split
 ·exact h
 ·exact ⟨h.t, h.v, h.c, I.i, I.m, fun i hi => by simp at hi, fun e u => by cases u⟩
theorem rD (s : St) (r : bx) (sg : Int) : (dP s r sg).2.2.2.2.2.length ≤ s.2.2.2.2.2.length + 1 := by
 unfold dP
 split
 ·exact Nat.le_succ _
 split
 ·split
  ·exact Nat.le_succ _
  split
  ·simp
  ·simp only [List.length_append, List.length_take, List.length_cons, List.length_nil]; omega
 split
 ·exact Nat.le_succ _
 ·simp
/-! ### Which batches may be -/
def iK (t v c : Int) : Int := if ¬ (rg t 0 ∧ rg c 0) ∨ v < 0 ∨ 7 < v then 1 else if v ≠ 0 ∧ t = 0 then 4 else 0
theorem At (t v c : Int) : fh.f t v c = some (iK t v c) := by
 unfold fh.f iK
 rw [ta, Option.bind_some]
 by_cases h1 : rg t 0
 ·rw [decide_eq_true h1]
  simp only [Bool.not_true, Bool.false_eq_true, if_false, ta, Option.bind_some]
  by_cases h2 : rg c 0
  ·rw [decide_eq_true h2]
   simp only [Bool.not_true, Bool.false_or]
   by_cases h3 : v < 0 ∨ 7 < v
   ·rw [if_pos (by simpa using h3), if_pos (c := ¬ (rg t 0 ∧ rg c 0) ∨ v < 0 ∨ 7 < v) (.inr h3)]
   ·rw [if_neg (c := ¬ (rg t 0 ∧ rg c 0) ∨ v < 0 ∨ 7 < v) (fun x => x.elim (fun y => y ⟨h1, h2⟩) h3), if_neg (by simpa using h3)]
    by_cases h5 : v ≠ 0 ∧ t = 0
    ·rw [if_pos (c := v ≠ 0 ∧ t = 0) h5, if_pos (by simpa using h5)]
    ·rw [if_neg (c := v ≠ 0 ∧ t = 0) h5, if_neg (by simpa using h5)]
  ·rw [decide_eq_false h2]
   simp only [Bool.not_false, Bool.true_or, if_true]
   rw [if_pos (.inl fun x => h2 x.2)]
 ·rw [decide_eq_false h1]
  simp only [Bool.not_false, if_true, Option.bind_some, Bool.true_or]
  rw [if_pos (.inl fun x => h1 x.1)]
theorem mK {t v c : Int} (h : iK t v c = 0) : okN t ∧ okN v ∧ okN c := by
 unfold iK at h
 split at h
 ·omega
 ·rename_i g
  have u : rg t 0 ∧ rg c 0 := Decidable.not_not.1 fun x => g (.inl x)
  have D : 0 ≤ v ∧ v ≤ 7 := by constructor <;> (apply Int.not_lt.1; intro x; exact g (.inr (by omega)))
  exact ⟨qT u.1 (by decide), ⟨by omega, by omega⟩, qT u.2 (by decide)⟩
abbrev BaT := Bool × Int × Int × Int × Int × Int × List EnT
def gk : List EnT → Int
 | [] => 0
 | e :: r => if lG e.1 e.2.1 e.2.2.1 e.2.2.2 = 0 then gk r else lG e.1 e.2.1 e.2.2.1 e.2.2.2
def pL : Int → List EnT → Int
 | _, [] => 0
 | l, e :: r => if l + 1 < e.2.1 then 13 else pL e.2.1 r
def jt (s : St) (b : BaT) : Bool := !decide (b.2.2.2.2.1 = 0) && !iq s b.2.2.2.2.1 b.2.2.2.2.2.1
def oc (b : BaT) : Prop := ((b.2.2.2.2.1 < 0 ∨ 4611686018427387904 < b.2.2.2.2.1) ∨ (b.2.2.2.2.2.1 < 0 ∨ 4611686018427387904 < b.2.2.2.2.2.1)) ∨ ¬ (b.2.2.2.2.1 = 0 ↔ b.2.2.2.2.2.1 = 0)
instance (b : BaT) : Decidable (oc b) := by unfold oc; exact inferInstance
def jo (s : St) (b : BaT) : Int :=
 if b.1 = true ∧ iK b.2.1 b.2.2.1 b.2.2.2.1 ≠ 0 then iK b.2.1 b.2.2.1 b.2.2.2.1
 else if oc b then 1
 else if gk b.2.2.2.2.2.2 ≠ 0 then gk b.2.2.2.2.2.2
 else pL (if jt s b = true then b.2.2.2.2.1 else (ep s).1) b.2.2.2.2.2.2
theorem vp (l : List EnT) (u : l.length < 2 ^ 40) : ∀ (k i : Nat), l.length - i < k → i ≤ l.length → ck.l0 l k (i : Int) = some (if gk (l.drop i) = 0 then .inl () else .inr (gk (l.drop i)))
 | 0, i, h, _ => by omega
 | k + 1, i, h, hi => by
  rw [ck.l0]
  by_cases hlt : i < l.length
  ·rw [if_pos (by omega), if_pos (by omega), cE, Option.bind_some, ws1 (by omega), vp l u k (i + 1) (by omega) (by omega), iP l bh hlt]
   simp only [gk, Int.toNat_natCast]
   by_cases hc : lG (l.getD i bh).1 (l.getD i bh).2.1 (l.getD i bh).2.2.1 (l.getD i bh).2.2.2 = 0
   ·simp only [hc, if_true]
   ·simp only [hc, if_false]
  ·rw [if_neg (by omega), List.drop_of_length_le (by omega)]; rfl
theorem vr (l : List EnT) (J : l.length < 2 ^ 40) (U : gk l = 0) : ∀ (k i : Nat) (z last : Int), l.length - i < k → i ≤ l.length → (0 ≤ last ∧ last ≤ 4611686018427387904) → gk (l.drop i) = 0 →
  ck.l1 l k z last (i : Int) = some (if pL last (l.drop i) = 0 then .inl () else .inr (pL last (l.drop i)))
 | 0, i, z, last, h, _, _, _ => by omega
 | k + 1, i, z, last, h, hi, hla, hf => by
  rw [ck.l1]
  by_cases hlt : i < l.length
  ·rw [iP l bh hlt] at hf ⊢
   simp only [gk] at hf
   split at hf
   ·rename_i u
    have I := (gY u).2.1
    have X := I.1
    have D := I.2
    rw [if_pos (by omega), if_pos (by omega), ws1 (by omega), w64 (n := last + 1) (by omega) (by omega)]
    simp only [pL, Int.toNat_natCast]
    by_cases hg : last + 1 < (l.getD i bh).2.1
    ·simp only [if_pos hg]; rfl
    ·simp only [if_neg hg]
     exact vr l J U k (i + 1) _ _ (by omega) (by omega) ⟨by omega, D⟩ hf
   ·rename_i u
    exact absurd hf u
  ·rw [if_neg (by omega), List.drop_of_length_le (by omega)]; rfl
theorem BE (fs : FSt) (la : List UInt8) (a : Int) (d : Bool) (most : Int) (sg : List Int) (sz : Int) {s : St} (h : dw s) (J : Bool) (hl : s.2.2.2.2.2.length < 2 ^ 40) (b : BaT) (X : b.2.2.2.2.2.2.length < 2 ^ 40) {k : Nat} (hk : b.2.2.2.2.2.2.length < k) :
  ck.f k fs la a d most sg sz s.1 s.2.1 s.2.2.1 s.2.2.2.1 s.2.2.2.2.1 s.2.2.2.2.2 J b.1 b.2.1 b.2.2.1 b.2.2.2.1 b.2.2.2.2.1 b.2.2.2.2.2.1 b.2.2.2.2.2.2 = some (jo s b) := by
 have c0 := vp b.2.2.2.2.2.2 X k 0 (by omega) (by omega)
 rw [List.drop_zero, show ((0 : Nat) : Int) = (0 : Int) from rfl] at c0
 have u : ((((((decide (b.2.2.2.2.1 < (0 : Int))) || (decide ((4611686018427387904 : Int) < b.2.2.2.2.1))) || (decide (b.2.2.2.2.2.1 < (0 : Int)))) || (decide ((4611686018427387904 : Int) < b.2.2.2.2.2.1))) || (!((decide (b.2.2.2.2.1 = (0 : Int))) == (decide (b.2.2.2.2.2.1 = (0 : Int)))))) = true) ↔ oc b := by
  unfold oc
  by_cases x1 : b.2.2.2.2.1 = 0 <;> by_cases x2 : b.2.2.2.2.2.1 = 0 <;> simp [x1, x2] <;> omega
 unfold ck.f jo
 have h1 : (if b.1 = true then ((fh.f b.2.1 b.2.2.1 b.2.2.2.1).bind fun D => (if D = (0 : Int) then (some (.inl ())) else (some (.inr D)))) else (some (.inl ())) : Option (Unit ⊕ Int)) = some (if b.1 = true ∧ iK b.2.1 b.2.2.1 b.2.2.2.1 ≠ 0 then .inr (iK b.2.1 b.2.2.1 b.2.2.2.1) else .inl ()) := by
  rw [At]
  by_cases x : b.1 = true
  ·rw [if_pos x, Option.bind_some]
   by_cases y : iK b.2.1 b.2.2.1 b.2.2.2.1 = 0
   ·rw [if_pos y, if_neg (fun z => z.2 y)]
   ·rw [if_neg y, if_pos ⟨x, y⟩]
  ·rw [if_neg x, if_neg (fun z => x z.1)]
 rw [h1]
 by_cases g1 : b.1 = true ∧ iK b.2.1 b.2.2.1 b.2.2.2.1 ≠ 0
 ·rw [if_pos g1, if_pos g1]; rfl
 ·rw [if_neg g1, if_neg g1]
  simp only [orR]
  by_cases g2 : oc b
  ·rw [if_pos (u.2 g2), if_pos g2]
  ·rw [if_neg (fun x => g2 (u.1 x)), if_neg g2, c0]
   have hi : okN b.2.2.2.2.1 := by
    unfold oc at g2
    exact ⟨by omega, by omega⟩
   by_cases g3 : gk b.2.2.2.2.2.2 = 0
   ·rw [if_pos g3, if_neg (c := gk b.2.2.2.2.2.2 ≠ 0) (fun x => x g3)]
    simp only [orR]
    rw [qn fs la a d most sg sz s J hl, Option.bind_some]
    have hm : (((if ((!decide (b.2.2.2.2.1 = (0 : Int))) == true) = true then (fa.f fs la a d most sg sz s.1 s.2.1 s.2.2.1 s.2.2.2.1 s.2.2.2.2.1 s.2.2.2.2.2 J b.2.2.2.2.1 b.2.2.2.2.2.1) else some false).bind fun I => (if ((!decide (b.2.2.2.2.1 = (0 : Int))) && (!I)) = true then (some (b.2.2.2.2.1, b.2.2.2.2.1)) else (some (s.2.2.2.1, (ep s).1)))) : Option (Int × Int)) = some (if jt s b = true then (b.2.2.2.2.1, b.2.2.2.2.1) else (s.2.2.2.1, (ep s).1)) := by
     rw [uB fs la a d most sg sz h J hi]
     unfold jt
     by_cases x : b.2.2.2.2.1 = 0
     ·simp [x]
     ·cases iq s b.2.2.2.2.1 b.2.2.2.2.2.1 <;> simp [x]
    rw [hm, Option.bind_some]
    have U : ∀ p : Int × Int, p = (if jt s b = true then (b.2.2.2.2.1, b.2.2.2.2.1) else (s.2.2.2.1, (ep s).1)) → p.2 = (if jt s b = true then b.2.2.2.2.1 else (ep s).1) ∧ 0 ≤ p.2 ∧ p.2 ≤ 4611686018427387904 := fun p hp => by
     have h3 := oG h
     have h4 := nl h
     have h5 := h.b
     unfold okN at h5 hi
     rw [hp]
     split
     ·exact ⟨rfl, hi.1, hi.2⟩
     ·exact ⟨rfl, by show 0 ≤ (ep s).1; omega, by show (ep s).1 ≤ _; omega⟩
    obtain ⟨p, hp⟩ : ∃ p, p = (if jt s b = true then (b.2.2.2.2.1, b.2.2.2.2.1) else (s.2.2.2.1, (ep s).1)) := ⟨_, rfl⟩
    obtain ⟨p1, p2, p3⟩ := U p hp
    have c1 := vr b.2.2.2.2.2.2 X g3 k 0 p.1 p.2 (by omega) (by omega) ⟨p2, p3⟩ (by rw [List.drop_zero]; exact g3)
    rw [List.drop_zero, show ((0 : Nat) : Int) = (0 : Int) from rfl] at c1
    rw [← hp, c1, ← p1]
    by_cases hz : pL p.2 b.2.2.2.2.2.2 = 0
    ·simp only [hz, if_true]
    ·simp only [hz, if_false]
   ·rw [if_neg g3, if_pos (c := gk b.2.2.2.2.2.2 ≠ 0) g3]
end Go.Proofs.YtndjkejhacfpdaaGreatDoor

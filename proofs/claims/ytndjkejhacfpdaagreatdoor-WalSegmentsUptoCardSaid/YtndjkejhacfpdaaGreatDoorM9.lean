/- Texts that lead to the law WalSegments: G7, G, Pl1, PlWire, PlWire2, PlGen, PlRd, PlWt, PlCd, PlCd2, PlCd3, PlMap, PlDk0, PlDk1, Rw, Rw2. Conditions: as each says. -/
import Derived.Test.YtndjkejhacfpdaaGreatDoorM8
import Derived.Laws.BitsLemmas
import Derived.SizedLaws
import Derived.Test.YtndjkejhacfpdaaGreatDoorRows
import Derived.ProofKit
import Derived.OpenShut
import Derived.ShutString
import Derived.ChangeOld
set_option linter.unusedVariables false
set_option linter.unusedSimpArgs false
set_option linter.unusedSectionVars false
namespace Go.Proofs.YtndjkejhacfpdaaGreatDoor
open Go.RowKit _root_.Go.Proofs.Tryz
set_option maxRecDepth 20000
set_option maxHeartbeats 20000000
def eT.f (e : Int) (a : Int) (g : Int) (h : List UInt8) (b : Int) (c : Int) (d : Int) : Option (Bool) := some ((decide (b = c)) && (decide (d < a)))
theorem eT.calls (W : World) (F : HA) (i : Int) (g : Int) (j : Int) (k : Option Addr) (h : Nat) (d : Lb) (c : Int) (b1 : Nat) (a : Int) (b2 : Nat) (e : Int) (s : Rd F k (ax d)) (p : d.length ≤ h) (q : h ≤ maxLen) :
    Fn Tryz.prog W 91 [.agg #[Iv i, Iv g, Iv j, .slice k d.length h, Iv c], Pt b1, Pt b2] [obj b1 3 [Iv a], obj b2 3 [Iv e]] F (eT.f i g j d c a e) (fun (r : Bool) (y : Unit) => .bool r) (fun r y => [obj b1 3 [Iv a], obj b2 3 [Iv e]]) := by
 unfold eT.f
 refine aO 16 Tryz.func91 O Tryz.ntmps91 O (sr (ah (cl O O O) O O O ?_))
 intro l
 refine va O O (nx (vq (ar O O underlying144 O O sizeOf3 O) O (vq (ag O O isAgg3 (.obj 0 O O)) O (vq (ag O O isAgg3 (.obj 1 O O)) O (vq (bS O O O) O (vm O O (aw (b := decide (c = a)) (fun t => RQ.sub (E' := [(3, Pt l)]) ⟨O, trivial⟩ (ar O O underlying144 O O sizeOf35 O)) O O O O O (aw (b := decide (c = a)) (fun n => RQ.sub (E' := [(10, Pt l)]) ⟨aH O n, trivial⟩ (ar O O underlying35 O O sizeOf3 O)) O O O O O (aw (b := decide (c = a)) (fun o => RQ.sub (E' := [(11, .pointer (some ⟨l, 1, none⟩))]) ⟨aH O o, trivial⟩ (ag O O isAgg3 (.obj 0 O O))) O O O O O (aw (b := decide (c = a)) (fun u => RQ.sub (E' := [(2, Pt b2)]) ⟨O, trivial⟩ (ag O O isAgg3 (.obj 2 O O))) O O O O O (aw (b := decide (c = a)) (fun m => RQ.sub (E' := [(12, Iv g), (13, Iv e)]) ⟨aH O m, aH O m, trivial⟩ (cC O O O)) O O O O O (vq (dF O O O) O (va O O (ae (aa (aA ?_))))))))))))))))
 exact aE () O O O (.sel 1 O (.sel 1 O (.sel 1 O .n)))

def ba.l0 (x0 : List (aF)) (b : Int) (c : Int) : Nat → Int → Option ((Unit) ⊕ (Int))
  | 0, _ => none
  | k + 1, a => if a < (x0.length : Int) then (if 0 ≤ a ∧ a < (x0.length : Int) then ((eT.f ((x0.getD a.toNat aI).1) ((x0.getD a.toNat aI).2.1) ((x0.getD a.toNat aI).2.2.1) ((x0.getD a.toNat aI).2.2.2.1) ((x0.getD a.toNat aI).2.2.2.2) b c).bind fun d => (if d = true then (some (.inr a)) else (ba.l0 x0 b c k (IntKind.i64.wrap (a + 1))))) else none) else (some (.inl ()))
def ba.f (k : Nat) (x0 : List (aF)) (a : Int) (b : Int) : Option (Int) := orR (ba.l0 x0 a b k 0) fun c => (some (-1))
theorem ba.calls (W : World) (F : HA) (k : Nat) (a0 : Option Addr) (c0 : Nat) (x0 : List (aF)) (d : Nat) (a : Int) (e : Nat) (b : Int) (h0 : RdV F 5 (aM F) a0 x0) (al : x0.length ≤ c0) (an : c0 ≤ maxLen) :
    Fn Tryz.prog W 115 [.slice a0 x0.length c0, .func (.func 91) #[] #[Pt d, Pt e]] [obj d 3 [Iv a], obj e 3 [Iv b]] F (ba.f k x0 a b) (fun (r : Int) (y : Unit) => Iv r) (fun r y => [obj d 3 [Iv a], obj e 3 [Iv b]]) := by
 unfold ba.f
 refine aO 19 Tryz.func115 O Tryz.ntmps115 O (sr (va O O (ae (aa ?_))))
 refine fc (S := Unit) (Unit) (fun s y => []) (fun s y => [obj d 3 [Iv a], obj e 3 [Iv b], F]) ?_ ?_
 refine sr (vm O O (vq (bC O O O underlying87) O (vm O O (ae (aa (aU ?_))))))
 refine cx (S := Int) (Unit) (fun k s => ba.l0 x0 a b k s) (fun s y => [(0, .slice a0 x0.length c0), (1, .func (.func 91) #[] #[Pt d, Pt e]), (7, Iv (x0.length : Int)), (8, Iv s)]) (fun s y => [obj d 3 [Iv a], obj e 3 [Iv b], F]) (fun _ => by rw [ba.l0]) ?_ k 0 () ⟨O, O, O, O, trivial⟩ (.s O (.s O (.s O .n)))
 intro k c az
 refine cU (by rw [ba.l0]) (sr (vq (cD O O O) O (ae (aa (ay ?_)))))
 refine bk O (fun a1 => ?_) (fun a2 => ?_)
 refine aB (aa (ay (aU (sr (vm O O (va O O (nx (vm O O (vm O O (vm O O (bb (fun g => ?_))))))))))))
 obtain ⟨a3, w, x, m, n, u, hcell15v⟩ := RdV.pos h0 (Up.refl _) rfl (i := c.toNat) (by omega) aI
 obtain ⟨h, l, rfl, ⟨o, p, q⟩⟩ := n
 refine vq (cP O O O m underlying87 sizeOf144 g.1 g.2) O (vq (dk O O isAgg144 sizeOf144 O (fun j v hj => hcell15v 2 O j v hj)) O (av (fun z t => (ah (au (vs := [.agg #[Iv ((x0.getD c.toNat aI).1), Iv ((x0.getD c.toNat aI).2.1), Iv ((x0.getD c.toNat aI).2.2.1), .slice h (((x0.getD c.toNat aI).2.2.2.1).length) l, Iv ((x0.getD c.toNat aI).2.2.2.2)]]) (cap := [Pt d, Pt e]) (A := [obj d 3 [Iv a], obj e 3 [Iv b]]) (rst := [F]) O O O O O O call91 (.s O (.s O (.s O .n))) (eT.calls _ _ ((x0.getD c.toNat aI).1) ((x0.getD c.toNat aI).2.1) ((x0.getD c.toNat aI).2.2.1) h l ((x0.getD c.toNat aI).2.2.2.1) ((x0.getD c.toNat aI).2.2.2.2) d a e b (o.lend 0 O) p q) t) O O O ?_))))
 intro ab
 refine ae (aa ?_)
 refine aX O (fun ad => ?_) (fun af => ?_)
 refine sr (vm O O (va O O (ae (aa (aA (bi (aN (eH (bi (dP ?_))))))))))
 exact aE () O O O (.s O (.s O (.s O .n)))
 refine aB (bq (aa (aK (vq (ca O O O) O (vm O O (ae ?_))))))
 exact bV (s := IntKind.i64.wrap (c + 1)) () ⟨O, O, O, O, trivial⟩ (.s O (.s O (.s O .n)))
 refine cL (cp (cw (cq ?_)))
 exact eR (s := ()) () trivial (.s O (.s O (.s O .n)))
 intro a4 a5
 refine sr (va O O (ae (aa (aA ?_))))
 exact aE () O O O (.s O (.s O (.s O .n)))

def bH.f (k : Nat) (x0 : List (aF)) (a : Int) (b : Int) : Option (Bool) := (ba.f k x0 a b).bind fun c => (some (decide ((0 : Int) ≤ c)))
theorem bH.calls (W : World) (F : HA) (k : Nat) (a0 : Option Addr) (c0 : Nat) (x0 : List (aF)) (c : Nat) (a : Int) (d : Nat) (b : Int) (h0 : RdV F 5 (aM F) a0 x0) (g : x0.length ≤ c0) (h : c0 ≤ maxLen) :
    Fn Tryz.prog W 90 [.slice a0 x0.length c0, .func (.func 91) #[] #[Pt c, Pt d]] [obj c 3 [Iv a], obj d 3 [Iv b]] F (bH.f k x0 a b) (fun (r : Bool) (y : Unit) => .bool r) (fun r y => [obj c 3 [Iv a], obj d 3 [Iv b]]) := by
 unfold bH.f
 refine aO 9 Tryz.func90 O Tryz.ntmps90 O (sr (va O O (nx (vm O O (vm O O (av (fun i e => (ah (au (vs := [.slice a0 x0.length c0, .func (.func 91) #[] #[Pt c, Pt d]]) (cap := []) (A := [obj c 3 [Iv a], obj d 3 [Iv b]]) (rst := [F]) O O O O O O call115 (.s O (.s O (.s O .n))) (ba.calls _ _ k a0 c0 x0 c a d b (h0.up (Up.lend 0 O) (aM.up (Up.lend 0 O))) g h) e) O O O ?_))))))))
 intro j
 refine vq (jH O O O) O (va O O (ae (aa (aA ?_))))
 exact aE () O O O (.s O (.s O (.s O .n)))

def iL.f (k : Nat) (c : Int) (d : Int) (e : Int) (g : Int) (h : Int) (a : List (aF)) (x1 : Int) (x2 : Int) : Option (Bool) := (bH.f k a x1 x2).bind fun b => (some b)
theorem iL.calls (W : World) (F : HA) (k : Nat) (b0 : Nat) (d : Int) (e : Int) (g : Int) (h : Int) (i : Int) (c : Option Addr) (b : Nat) (a : List (aF)) (x1 : Int) (x2 : Int) (o : RdV F 5 (aM F) c a) (m : a.length ≤ b) (n : b ≤ maxLen) :
    Fn Tryz.prog W 63 [Pt b0, Iv x1, Iv x2] [obj b0 89 [Iv d, Iv e, Iv g, Iv h, Iv i, .slice c a.length b]] F (iL.f k d e g h i a x1 x2) (fun (r : Bool) (y : Unit) => .bool r) (fun r y => [obj b0 89 [Iv d, Iv e, Iv g, Iv h, Iv i, .slice c a.length b]]) := by
 unfold iL.f
 refine aO 13 Tryz.func63 O Tryz.ntmps63 O (sr (ah (cl O O O) O O O ?_))
 intro j
 refine ah (cl O O O) O O O ?_
 intro l
 refine va O O (nx (vm O O (vn O O (vq (ar O O underlying89 O O sizeOf87 O) O (vq (ag O O isAgg87 (.obj 2 O O)) O (vq (gl O O O) O (av (fun q p => (ah (au (vs := [.slice c a.length b, .func (.func 91) #[] #[Pt j, Pt l]]) (cap := []) (A := [obj j 3 [Iv x1], obj l 3 [Iv x2]]) (rst := [obj b0 89 [Iv d, Iv e, Iv g, Iv h, Iv i, .slice c a.length b], F]) O O O O O O call90 (.sel 1 O (.s O (.s O (.s O .n)))) (bH.calls _ _ k c b a j x1 l x2 (o.up (Up.lend 1 O) (aM.up (Up.lend 1 O))) m n) p) O O O ?_)))))))))
 intro s
 refine va O O (ae (aa (aA ?_)))
 exact aE () O O O (.sel 2 O (.sel 2 O .n))

def dC.f (x0 : List (aF)) : Option ((List (aF))) := if (([] : List (aF)).length + x0.length) * 56 ≤ 140737488355328 then (some (([] : List (aF)) ++ x0)) else none
theorem dC.calls (W : World) (F : HA) (G : HA) (hG : Up G F) (a0 : Option Addr) (c0 : Nat) (x0 : List (aF)) (h0 : RdV G 5 (aM G) a0 x0) (e : x0.length ≤ c0) (g : c0 ≤ maxLen) :
    Fn Tryz.prog W 92 [.slice a0 x0.length c0] [] F (dC.f x0) (fun (r : (List (aF))) (y : Option Addr × Nat) => .slice y.1 r.length y.2) (fun r y => [am 144 5 (aM G) y.1 r y.2]) := by
 unfold dC.f
 refine aO 8 Tryz.func92 O Tryz.ntmps92 O ?_
 rcases a0 with _ | p0
 have hx : x0 = [] := pQ rfl h0
 subst hx
 refine cU (o' := some ([] : List (aF))) (by simp) (sr (va O O (ae (aa (ay (sr (vm O O (vq (mE O O underlying87) O (ae (aa (fJ O (sr (va O O (ae (aa (aA (aN ?_)))))))))))))))))
 exact aE (none, 0) O O O (.rowV_nil (.s O .n))
 refine sr (va O O (ae (aa (ay (sr (vm O O (vq (mF O O underlying87) O (ae (aa (fE O (aB (aa (sr (ah (pK (α := Int × Int × Int × Lb × Int) (V := (aM G)) O underlying87 kC) O O O ?_))))))))))))))
 intro i
 refine vm O O (bg 0 O (fun d b => (bb (fun c => ?_))))
 refine ah (fg 0 O O O underlying87 kC O b ((h0.up hG (fun _ _ h => h)).rds 0 O) c) O O O ?_
 intro a
 refine va O O (ae (aa (aA ?_)))
 exact aE (a.1, a.2) O O O (.s O (.s O .n))

def eh.l0 (b : List (aF)) (x1 : Int) : Nat → Int → Option (Int)
  | 0, _ => none
  | k + 1, a => (if a < (b.length : Int) then (if 0 ≤ a ∧ a < (b.length : Int) then (some (decide ((b.getD a.toNat aI).2.2.2.2 = x1))) else none) else (some false)).bind fun c => (if c = true then (eh.l0 b x1 k (IntKind.i64.wrap (a + 1))) else (some a))
def eh.f (k : Nat) (c : Int) (d : Int) (e : Int) (g : Int) (h : Int) (a : List (aF)) (x1 : Int) : Option (Int × Int × Int × Int × Int × (List (aF))) := (eh.l0 a x1 k 0).bind fun b => (if (0 : Int) < b then (if 0 ≤ IntKind.i64.wrap (b - 1) ∧ IntKind.i64.wrap (b - 1) < (a.length : Int) then (if 0 ≤ b ∧ b ≤ (a.length : Int) ∧ (a.length : Int) ≤ (a.length : Int) then ((dC.f (cut a b (a.length : Int))).bind fun i => (some (c, d, e, (a.getD (IntKind.i64.wrap (b - 1)).toNat aI).2.1, (a.getD (IntKind.i64.wrap (b - 1)).toNat aI).1, i))) else none) else none) else (some (c, d, e, g, h, a)))
theorem eh.calls (W : World) (F : HA) (k : Nat) (b0 : Nat) (h : Int) (n : Int) (p : Int) (x : Int) (w : Int) (c : Option Addr) (d : Nat) (a : List (aF)) (e : HA) (x1 : Int)  :
    Fn Tryz.prog W 65 [Pt b0, Iv x1] [obj b0 89 [Iv h, Iv n, Iv p, Iv x, Iv w, .slice c a.length d], am 144 5 (aM e) c a d, e] F (eh.f k h n p x w a x1) (fun (r : Int × Int × Int × Int × Int × (List (aF))) (y : Option Addr × Nat × HA) => .tuple #[]) (fun r y => [obj b0 89 [Iv r.1, Iv r.2.1, Iv r.2.2.1, Iv r.2.2.2.1, Iv r.2.2.2.2.1, .slice y.1 r.2.2.2.2.2.length y.2.1], am 144 5 (aM (y.2.2)) y.1 r.2.2.2.2.2 y.2.1, y.2.2]) := by
 unfold eh.f
 refine aO 58 Tryz.func65 O Tryz.ntmps65 O (sr (va O O (ae (aa ?_))))
 refine bK (S := Int) (Unit) (fun s y => [(0, Pt b0), (4, Iv s)]) (fun s y => [obj b0 89 [Iv h, Iv n, Iv p, Iv x, Iv w, .slice c a.length d], am 144 5 (aM (e)) c a d, e, F]) ?_ ?_
 refine aU ?_
 refine cx (S := Int) (Unit) (fun k s => eh.l0 a x1 k s) (fun s y => [(0, Pt b0), (1, Iv x1), (4, Iv s)]) (fun s y => [obj b0 89 [Iv h, Iv n, Iv p, Iv x, Iv w, .slice c a.length d], am 144 5 (aM (e)) c a d, e, F]) (fun _ => by rw [eh.l0]) ?_ k 0 () ⟨O, O, O, trivial⟩ (.s O (.s O (.s O (.s O .n))))
 intro k ad d1
 refine cU (by rw [eh.l0]) (ay (sr (vm O O (vm O O (vn O O (vq (ar O O underlying89 O O sizeOf87 O) O (vq (ag O O isAgg87 (.obj 0 O O)) O (vq (bC O O O underlying87) O (vq (cD O O O) O (vm O O ?_))))))))))
 refine da 11 (S := Bool) (Unit) (fun s y => [(0, Pt b0), (1, Iv x1), (4, Iv ad), (24, .bool s)]) (fun s y => [obj b0 89 [Iv h, Iv n, Iv p, Iv x, Iv w, .slice c a.length d], am 144 5 (aM (e)) c a d, e, F]) ?_ ?_
 refine iJ (fun a5 => ?_) (fun a6 => ?_)
 rw [a5]
 refine aJ (aY O O) O O O O O O (aJ (aW O O) O O O O O O (aJ (ar O O underlying89 O O sizeOf87 O) O O O O O O (aJ (ag O O isAgg87 (.obj 0 O O)) O O O O O O (aJ (aY O O) O O O O O O (bg 1 O (fun b5 af => (bb (fun a1 => (dT 1 O af O (i := ad.toNat) (by omega) aI (fun d2 c1 c2 a7 a8 b3 hcell15v => ?_))))))))))
 obtain ⟨c3, c4, rfl, ⟨b6, b7, b8⟩⟩ := a8
 refine aJ (cP O O O a7 underlying87 sizeOf144 a1.1 a1.2) O O O O O O (aJ (ar O O underlying144 O O sizeOf3 O) O O O O O O (aJ (ag O O isAgg3 (hcell15v 1 O 4 _ O)) O O O O O O (aJ (aY O O) O O O O O O (aJ (bS O O O) O O O O O O (vq (bP O O O O O) O (ae ?_))))))
 exact aG (s := decide ((a.getD ad.toNat aI).2.2.2.2 = x1)) () ⟨O, O, O, O, trivial⟩ (.s O (.sel' 0 O (am.mk af) (.s O (.s O .n))))
 rw [a6]
 refine aC O O O O O O (aC O O O O O O (aC O O O O O O (aC O O O O O O (aC O O O O O O (aC O O O O O O (aC O O O O O O (aC O O O O O O (aC O O O O O O (aC O O O O O O (vq (bP O O O O O) O (ae ?_)))))))))))
 exact aG (s := false) () ⟨O, O, O, O, trivial⟩ (.s O (.s O (.s O (.s O .n))))
 intro d3 d4
 refine ae (aa ?_)
 refine aX O (fun c5 => ?_) (fun c6 => ?_)
 refine aB (aa (aU (aK (vm O O (vq (ca O O O) O (va O O (ae (bq ?_))))))))
 exact bV (s := IntKind.i64.wrap (ad + 1)) () ⟨O, O, O, trivial⟩ (.s O (.s O (.s O (.s O .n))))
 refine cL (cp (cw (cq ?_)))
 exact aG (s := ad) () ⟨O, O, trivial⟩ (.s O (.s O (.s O (.s O .n))))
 intro b d5
 refine sr (vm O O (vq (cC O O O) O (ae (aa ?_))))
 refine bk O (fun c7 => ?_) (fun c8 => ?_)
 refine sr (vm O O (vn O O (vq (ar O O underlying89 O O sizeOf87 O) O (vq (ag O O isAgg87 (.obj 0 O O)) O (vm O O (vq (cW O O O) O (bg 1 O (fun g al => (bb (fun an => (dT 1 O al O (i := (IntKind.i64.wrap (b - 1)).toNat) (by omega) aI (fun c9 b9 dl a9 bc b4 hcell36v => ?_))))))))))))
 obtain ⟨t, u, rfl, ⟨cd, ch, cs⟩⟩ := bc
 refine vq (cP O O O a9 underlying87 sizeOf144 an.1 an.2) O (vq (ar O O underlying144 O O sizeOf35 O) O (vq (dk (vs := [Iv ((a.getD (IntKind.i64.wrap (b - 1)).toNat aI).1), Iv ((a.getD (IntKind.i64.wrap (b - 1)).toNat aI).2.1), Iv ((a.getD (IntKind.i64.wrap (b - 1)).toNat aI).2.2.1), .slice t (((a.getD (IntKind.i64.wrap (b - 1)).toNat aI).2.2.2.1).length) u]) O O isAgg35 sizeOf35 O (fun j v hj => iE (hcell36v 1 O (0 + j) v (dA (off := 0) O j v hj)))) O (ah (cn O zeroValue35 O) O O O ?_)))
 intro q
 refine bf (aL 0 O O O sizeOf35 O O (aS (by rfl)) O O) O O ?_
 intro _
 refine ae (aa (ay ?_))
 refine bh (Γ := Unit) () [[], [], [], [2], [], [4], [0, 2, 3], [0, 2, 3, 6], [0, 2, 3, 6, 7], rL 9, rL 10, rL 11] [8, 11] [0, 1, 2, 3, 4, 5, 6, 7, 9, 10] (fun i => [[0], [0, 1], [0], [0], [0, 1], [0, 1], [0], [0], [], [1], [1], []].getD i []) (fun i => [[], [], [], [], [], [], [], [], rL 8, [], [], rL 11].getD i []) (fun γ i => [Pt b0, Pt b0, .pointer (some ⟨q, 1, none⟩), Iv ((a.getD (IntKind.i64.wrap (b - 1)).toNat aI).2.1), Pt q, Iv ((a.getD (IntKind.i64.wrap (b - 1)).toNat aI).1), Pt b0, .pointer (some ⟨b0, 3, none⟩), undef, Pt b0, .pointer (some ⟨b0, 4, none⟩), undef].getD i undef) (fun j γ => [[obj q 35 [Iv ((a.getD (IntKind.i64.wrap (b - 1)).toNat aI).1), Iv ((a.getD (IntKind.i64.wrap (b - 1)).toNat aI).2.1), Iv ((a.getD (IntKind.i64.wrap (b - 1)).toNat aI).2.2.1), .slice t (((a.getD (IntKind.i64.wrap (b - 1)).toNat aI).2.2.2.1).length) u], obj b0 89 [Iv h, Iv n, Iv p, Iv x, Iv w, .slice c a.length d], Row 144 5 c a.length d g.flatten, e, F], [obj q 35 [Iv ((a.getD (IntKind.i64.wrap (b - 1)).toNat aI).1), Iv ((a.getD (IntKind.i64.wrap (b - 1)).toNat aI).2.1), Iv ((a.getD (IntKind.i64.wrap (b - 1)).toNat aI).2.2.1), .slice t (((a.getD (IntKind.i64.wrap (b - 1)).toNat aI).2.2.2.1).length) u], obj b0 89 [Iv h, Iv n, Iv p, Iv ((a.getD (IntKind.i64.wrap (b - 1)).toNat aI).2.1), Iv w, .slice c a.length d], Row 144 5 c a.length d g.flatten, e, F], [obj q 35 [Iv ((a.getD (IntKind.i64.wrap (b - 1)).toNat aI).1), Iv ((a.getD (IntKind.i64.wrap (b - 1)).toNat aI).2.1), Iv ((a.getD (IntKind.i64.wrap (b - 1)).toNat aI).2.2.1), .slice t (((a.getD (IntKind.i64.wrap (b - 1)).toNat aI).2.2.2.1).length) u], obj b0 89 [Iv h, Iv n, Iv p, Iv ((a.getD (IntKind.i64.wrap (b - 1)).toNat aI).2.1), Iv ((a.getD (IntKind.i64.wrap (b - 1)).toNat aI).1), .slice c a.length d], Row 144 5 c a.length d g.flatten, e, F]].getD j []) (fun γ => [(0, Pt b0), (4, Iv b)]) mixed (by decide) (by decide) (by decide) (by decide) (by decide) (by decide) (by decide) 58 O (by decide) (by decide) (by decide) (Ent.refl _) ?_ ?_ (fun _ => ⟨O, O, trivial⟩) ?_
 exact (aq O (fun γ => qm O (.o (s := 0) O (by decide) .nil) O) (ac (fun γ => (ac (qm O (.o (s := 0) O (by decide) .nil) O) (ac (qm O (.o (s := 0) O (by decide) .nil) O) zA))) (aq O (fun γ => qp O O (.o (s := 5) O (by decide) .nil) (ar O O underlying35 O O sizeOf3 O) O) (aq O (fun γ => qp O O (.v 2 O O .nil) (ag O O isAgg3 (.obj 0 O O)) O) (ac (fun γ => (ac (qp O O (.o (s := 5) O (by decide) .nil) (ar O O underlying35 O O sizeOf3 O) O) (ac (qp O O (.o (s := 5) O (by decide) .nil) (ar O O underlying35 O O sizeOf3 O) O) zA))) (ac (fun γ => (ac (qp O O (.v 4 O O .nil) (ag O O isAgg3 (.obj 0 O O)) O) (ac (qp O O (.v 4 O O .nil) (ag O O isAgg3 (.obj 0 O O)) O) zA))) (aq O (fun γ => qp O O (.v 0 O O .nil) (aW O O) O) (aq O (fun γ => qp O O (.v 6 O O .nil) (ar O O underlying89 O O sizeOf3 O) O) (aq O (fun γ => qp O O (.v 1 O O .nil) (aW O O) O) (aq O (fun γ => qp O O (.v 9 O O .nil) (ar O O underlying89 O O sizeOf3 O) O) zA))))))))))
 exact (ac (fun γ => eo (Z := Unit) (fun z => ()) O O (.v 3 O O (.v 7 O O .nil)) (aL 1 O O O sizeOf3 O O (aS (by rfl)) O O) (fun _ => ⟨O, O, O, O, O, O, O, O, trivial⟩) (fun _ => .inl O) (fun z => Ent.refl _)) (ac (fun γ => eo (Z := Unit) (fun z => ()) O O (.v 5 O O (.v 10 O O .nil)) (aL 1 O O O sizeOf3 O O (aS (by rfl)) O O) (fun _ => ⟨O, O, O, O, O, O, O, O, O, O, O, trivial⟩) (fun _ => .inl O) (fun z => Ent.refl _)) zA))
 intro ds
 refine aa (aK (vm O O (vm O O (vn O O (vq (ar O O underlying89 O O sizeOf87 O) O (vq (ag O O isAgg87 (.obj 1 O O)) O (vm O O (bj 2 O (fun bd az be c0 => (cr (H' := [aT [Row 144 5 c a.length d g.flatten, e], obj q 35 [Iv ((a.getD (IntKind.i64.wrap (b - 1)).toNat aI).1), Iv ((a.getD (IntKind.i64.wrap (b - 1)).toNat aI).2.1), Iv ((a.getD (IntKind.i64.wrap (b - 1)).toNat aI).2.2.1), .slice t (((a.getD (IntKind.i64.wrap (b - 1)).toNat aI).2.2.2.1).length) u], obj b0 89 [Iv h, Iv n, Iv p, Iv ((a.getD (IntKind.i64.wrap (b - 1)).toNat aI).2.1), Iv ((a.getD (IntKind.i64.wrap (b - 1)).toNat aI).1), .slice c a.length d], F]) (Ent.trans (m := [Row 144 5 c a.length d g.flatten, e, obj q 35 [Iv ((a.getD (IntKind.i64.wrap (b - 1)).toNat aI).1), Iv ((a.getD (IntKind.i64.wrap (b - 1)).toNat aI).2.1), Iv ((a.getD (IntKind.i64.wrap (b - 1)).toNat aI).2.2.1), .slice t (((a.getD (IntKind.i64.wrap (b - 1)).toNat aI).2.2.2.1).length) u], obj b0 89 [Iv h, Iv n, Iv p, Iv ((a.getD (IntKind.i64.wrap (b - 1)).toNat aI).2.1), Iv ((a.getD (IntKind.i64.wrap (b - 1)).toNat aI).1), .slice c a.length d], F]) (.sel 2 O (.sel 2 O (.s O (.s O (.s O .n))))) (gQ [Row 144 5 c a.length d g.flatten, e] _)) (bb (fun a0 => ?_))))))))))))
 obtain ⟨a2, a3, br, bs, bt, b1⟩ := hQ (lo := b) (hi := (a.length : Int)) (Rd.asV (al.mono (aM.up (Up.lend (l := [Row 144 5 c a.length d g.flatten, e]) 1 rfl))) (Rd.lend (l := [Row 144 5 c a.length d g.flatten, e]) bd 0 rfl)) az a0
 refine vq (gr (l := a) (lo' := b) (hi' := (a.length : Int)) O O O O underlying87 sizeOf144 (.inl ⟨O, O⟩) (.inr ⟨_, O⟩) a0 az br) O (av (fun a4 b2 => (ah (au (vs := [.slice a2 ((cut a b (a.length : Int)).length) a3]) (cap := []) (A := []) (rst := [aT [Row 144 5 c a.length d g.flatten, e], obj q 35 [Iv ((a.getD (IntKind.i64.wrap (b - 1)).toNat aI).1), Iv ((a.getD (IntKind.i64.wrap (b - 1)).toNat aI).2.1), Iv ((a.getD (IntKind.i64.wrap (b - 1)).toNat aI).2.2.1), .slice t (((a.getD (IntKind.i64.wrap (b - 1)).toNat aI).2.2.2.1).length) u], obj b0 89 [Iv h, Iv n, Iv p, Iv ((a.getD (IntKind.i64.wrap (b - 1)).toNat aI).2.1), Iv ((a.getD (IntKind.i64.wrap (b - 1)).toNat aI).1), .slice c a.length d], F]) O O O O O O call92 (.s O (.s O (.s O (.s O .n)))) (dC.calls _ _ _ (Up.lend 0 O) a2 a3 (cut a b (a.length : Int)) bs bt (Nat.le_trans b1 be)) b2) O O O ?_)))
 intro ab
 refine vn O O (vq (ar O O underlying89 O O sizeOf87 O) O (bf (aL 3 O O O sizeOf87 O O (aS (by rfl)) O O) O O ?_))
 intro _
 refine cr (H' := [am 144 5 (aM (aT [Row 144 5 c a.length d g.flatten, e])) ab.1 a4 ab.2, aT [Row 144 5 c a.length d g.flatten, e], obj q 35 [Iv ((a.getD (IntKind.i64.wrap (b - 1)).toNat aI).1), Iv ((a.getD (IntKind.i64.wrap (b - 1)).toNat aI).2.1), Iv ((a.getD (IntKind.i64.wrap (b - 1)).toNat aI).2.2.1), .slice t (((a.getD (IntKind.i64.wrap (b - 1)).toNat aI).2.2.2.1).length) u], obj b0 89 [Iv h, Iv n, Iv p, Iv ((a.getD (IntKind.i64.wrap (b - 1)).toNat aI).2.1), Iv ((a.getD (IntKind.i64.wrap (b - 1)).toNat aI).1), .slice ab.1 a4.length ab.2], F]) (Ent.refl _) (ae ?_)
 exact fm (ab.1, ab.2, aT [Row 144 5 c a.length d g.flatten, e]) O O O (.sel 3 O (.s O (.s O (.sel 1 O .n))))
 refine aB ?_
 exact fm (c, d, e) O O O (.s O (.s O (.s O (.s O .n))))

def bW.l0 (x0 : List UInt8) (x1 : List UInt8) : Nat → Int → Option ((Unit) ⊕ (Bool))
  | 0, _ => none
  | k + 1, a => if a < (x0.length : Int) then (if 0 ≤ a ∧ a < (x0.length : Int) then (if 0 ≤ a ∧ a < (x1.length : Int) then (if ((x0.getD a.toNat 0).toNat : Int) = ((x1.getD a.toNat 0).toNat : Int) then (bW.l0 x0 x1 k (IntKind.i64.wrap (a + 1))) else (some (.inr false))) else none) else none) else (some (.inl ()))
def bW.f (k : Nat) (x0 : List UInt8) (x1 : List UInt8) : Option (Bool) := if (x0.length : Int) = (x1.length : Int) then (orR (bW.l0 x0 x1 k 0) fun a => (some true)) else (some false)
theorem bW.calls (W : World) (F : HA) (k : Nat) (a0 : Option Addr) (c0 : Nat) (x0 : Lb) (a1 : Option Addr) (c1 : Nat) (x1 : Lb) (h0 : Rd F a0 (ax x0)) (t : x0.length ≤ c0) (u : c0 ≤ maxLen) (h1 : Rd F a1 (ax x1)) (w : x1.length ≤ c1) (x : c1 ≤ maxLen) :
    Fn Tryz.prog W 30 [.slice a0 x0.length c0, .slice a1 x1.length c1] [] F (bW.f k x0 x1) (fun (r : Bool) (y : Unit) => .bool r) (fun r y => []) := by
 unfold bW.f
 refine aO 26 Tryz.func30 O Tryz.ntmps30 O (sr (va O O (ae (aa (ay (sr (vm O O (vq (bC O O O underlying33) O (vm O O (vq (bC O O O underlying33) O (vq (cS O O O) O (ae (aa ?_)))))))))))))
 refine di O (fun z => ?_) (fun ab => ?_)
 refine aB (aa ?_)
 refine fc (S := Unit) (Unit) (fun s y => []) (fun s y => [F]) ?_ ?_
 refine sr (va O O (ae (aa (aU ?_))))
 refine cx (S := Int) (Unit) (fun k s => bW.l0 x0 x1 k s) (fun s y => [(0, .slice a0 x0.length c0), (1, .slice a1 x1.length c1), (5, Iv s)]) (fun s y => [F]) (fun _ => by rw [bW.l0]) ?_ k 0 () ⟨O, O, O, trivial⟩ (.s O .n)
 intro k a ad
 refine cU (by rw [bW.l0]) (ay (sr (vm O O (vm O O (vq (bC O O O underlying33) O (vq (cD O O O) O (ae (aa ?_))))))))
 refine bk O (fun af => ?_) (fun al => ?_)
 refine aB (aa (ay (aU (ay (cN (fun b => ?_))))))
 obtain ⟨l, g, c⟩ := h0.pos (gX (j := a.toNat) (by omega))
 refine cN (fun d => ?_)
 obtain ⟨m, h, e⟩ := h1.pos (gX (j := a.toNat) (by omega))
 refine bh (Γ := Unit) () [[], [], [0, 1], [0, 1, 2], [], [], [4, 5], [4, 5, 6], rL 8] [] [0, 1, 2, 3, 4, 5, 6, 7, 8] (fun i => [[0], [0], [0], [0], [0], [0], [0], [0], [0]].getD i []) (fun i => [[], [], [], [], [], [], [], [], []].getD i []) (fun γ i => [.slice a0 x0.length c0, Iv a, .pointer (some ⟨l, g + a.toNat, none⟩), .int .u8 ((x0.getD a.toNat 0).toNat : Int), .slice a1 x1.length c1, Iv a, .pointer (some ⟨m, h + a.toNat, none⟩), .int .u8 ((x1.getD a.toNat 0).toNat : Int), .bool (!decide (((x0.getD a.toNat 0).toNat : Int) = ((x1.getD a.toNat 0).toNat : Int)))].getD i undef) (fun j γ => [[F]].getD j []) (fun γ => [(0, .slice a0 x0.length c0), (1, .slice a1 x1.length c1), (5, Iv a), (25, .bool (!decide (((x0.getD a.toNat 0).toNat : Int) = ((x1.getD a.toNat 0).toNat : Int))))]) mixed (by decide) (by decide) (by decide) (by decide) (by decide) (by decide) (by decide) 26 O (by decide) (by decide) (by decide) (Ent.refl _) ?_ ?_ (fun _ => ⟨O, O, O, O, trivial⟩) ?_
 exact (aq O (fun γ => qm O (.o (s := 0) O (by decide) .nil) O) (aq O (fun γ => qm O (.o (s := 5) O (by decide) .nil) O) (aq O (fun γ => qp O O (.v 0 O O (.v 1 O O .nil)) (iH O O O c underlying33 sizeOf5 b.1 b.2) O) (aq O (fun γ => qp O O (.v 2 O O .nil) (ag O O isAgg5 (h0.cell 0 O c (gw (by omega)))) O) (aq O (fun γ => qm O (.o (s := 1) O (by decide) .nil) O) (aq O (fun γ => qm O (.o (s := 5) O (by decide) .nil) O) (aq O (fun γ => qp O O (.v 4 O O (.v 5 O O .nil)) (iH O O O e underlying33 sizeOf5 d.1 d.2) O) (aq O (fun γ => qp O O (.v 6 O O .nil) (ag O O isAgg5 (h1.cell 0 O e (gw (by omega)))) O) (aq O (fun γ => qp O O (.v 3 O O (.v 7 O O .nil)) (cS O O O) O) zA)))))))))
 exact zA
 intro n
 refine aa ?_
 refine di O (fun p => ?_) (fun q => ?_)
 refine aB (bq (aa (aK (vm O O (vq (ca O O O) O (va O O (ae ?_)))))))
 exact bV (s := IntKind.i64.wrap (a + 1)) () ⟨O, O, O, trivial⟩ (.s O .n)
 refine sr (va O O (ae (aa (aA (bi (aN (eH (bi (dP ?_)))))))))
 exact aE () O O O (.s O .n)
 refine cL (cp (cw (cq ?_)))
 exact eR (s := ()) () trivial (.s O .n)
 intro an az
 refine sr (va O O (ae (aa (aA ?_))))
 exact aE () O O O (.s O .n)
 refine sr (va O O (ae (aa (aA (aN ?_)))))
 exact aE () O O O (.s O .n)

def dO.f (k : Nat) (d : List ((List UInt8) × (List UInt8 × Int))) (e : List UInt8) (g : Int) (h : Bool) (i : Int) (j : List Int) (l : Int) (m : Int) (n : Int) (o : Int) (p : Int) (q : Int) (a : List (aF)) (b : Bool) (x1 : Int) (x2 : Int) : Option (Bool) := (bH.f k a x1 x2).bind fun c => (some c)
theorem dO.calls (W : World) (F : HA) (k : Nat) (z : Nat) (x : Nat) (c : Nat) (d : Kps) (j : List (Lb × (Lb × Int))) (l : Lb) (m : Int) (n : Bool) (o : Int) (p : Option Addr) (h : Nat) (e : List Int) (q : Int) (s : Int) (t : Int) (u : Int) (v : Int) (w : Int) (g : Option Addr) (b : Nat) (a : List (aF)) (i : Bool) (x1 : Int) (x2 : Int) (a2 : RdV F 1 (V3 tt) p e) (a0 : e.length ≤ h) (a1 : h ≤ maxLen) (an : RdV F 5 (aM F) g a) (ab : a.length ≤ b) (ad : b ≤ maxLen) :
    Fn Tryz.prog W 63 [.pointer (some ⟨z, 4, none⟩), Iv x1, Iv x2] [obj x 97 [.map (some c), str l, Iv m, .bool n], ao (aj c ap ak d) ai d j, obj z 91 [Pt x, Iv o, .slice p e.length h, Iv q, Iv s, Iv t, Iv u, Iv v, Iv w, .slice g a.length b, .bool i]] F (dO.f k j l m n o e q s t u v w a i x1 x2) (fun (r : Bool) (y : Unit) => .bool r) (fun r y => [obj x 97 [.map (some c), str l, Iv m, .bool n], ao (aj c ap ak d) ai d j, obj z 91 [Pt x, Iv o, .slice p e.length h, Iv q, Iv s, Iv t, Iv u, Iv v, Iv w, .slice g a.length b, .bool i]]) := by
 unfold dO.f
 refine aO 13 Tryz.func63 O Tryz.ntmps63 O (sr (ah (cl O O O) O O O ?_))
 intro af
 refine ah (cl O O O) O O O ?_
 intro al
 refine va O O (nx (vm O O (vn O O (vq (ar O O underlying89 O O sizeOf87 O) O (vq (ag O O isAgg87 (.obj 4 O O)) O (vq (gl O O O) O (av (fun a3 az => (ah (au (vs := [.slice g a.length b, .func (.func 91) #[] #[Pt af, Pt al]]) (cap := []) (A := [obj af 3 [Iv x1], obj al 3 [Iv x2]]) (rst := [obj x 97 [.map (some c), str l, Iv m, .bool n], ao (aj c ap ak d) ai d j, obj z 91 [Pt x, Iv o, .slice p e.length h, Iv q, Iv s, Iv t, Iv u, Iv v, Iv w, .slice g a.length b, .bool i], F]) O O O O O O call90 (.sel 1 O (.s O (.s O (.s O (.s O (.s O .n)))))) (bH.calls _ _ k g b a af x1 al x2 (an.up (Up.lend 3 O) (aM.up (Up.lend 3 O))) ab ad) az) O O O ?_)))))))))
 intro a4
 refine va O O (ae (aa (aA ?_)))
 exact aE () O O O (.sel 2 O (.sel 2 O (.sel 2 O (.sel 2 O .n))))

def ci.l0 (a : List (aF)) (x1 : Int) : Nat → Int → Option (Int)
  | 0, _ => none
  | k + 1, b => (if b < (a.length : Int) then (if 0 ≤ b ∧ b < (a.length : Int) then (some (decide ((a.getD b.toNat aI).2.2.2.2 = x1))) else none) else (some false)).bind fun c => (if c = true then (ci.l0 a x1 k (IntKind.i64.wrap (b + 1))) else (some b))
def ci.f (k : Nat) (o : List ((List UInt8) × (List UInt8 × Int))) (p : List UInt8) (q : Int) (r : Bool) (d : Int) (e : List Int) (g : Int) (h : Int) (i : Int) (j : Int) (l : Int) (m : Int) (a : List (aF)) (c : Bool) (x1 : Int) : Option (Int × List Int × Int × Int × Int × Int × Int × Int × (List (aF)) × Bool) := (ci.l0 a x1 k 0).bind fun b => (if (0 : Int) < b then (if 0 ≤ IntKind.i64.wrap (b - 1) ∧ IntKind.i64.wrap (b - 1) < (a.length : Int) then (if 0 ≤ b ∧ b ≤ (a.length : Int) ∧ (a.length : Int) ≤ (a.length : Int) then ((dC.f (cut a b (a.length : Int))).bind fun n => (some (d, e, g, h, i, j, (a.getD (IntKind.i64.wrap (b - 1)).toNat aI).2.1, (a.getD (IntKind.i64.wrap (b - 1)).toNat aI).1, n, c))) else none) else none) else (some (d, e, g, h, i, j, l, m, a, c)))
theorem ci.calls (W : World) (F : HA) (k : Nat) (w : Nat) (u : Nat) (e : Nat) (g : Kps) (x : List (Lb × (Lb × Int))) (ab : Lb) (ad : Int) (af : Bool) (al : Int) (h : Option Addr) (n : Nat) (p : List Int) (an : Int) (az : Int) (a0 : Int) (a1 : Int) (a8 : Int) (a3 : Int) (c : Option Addr) (d : Nat) (a : List (aF)) (q : HA) (t : Bool) (x1 : Int)  :
    Fn Tryz.prog W 65 [.pointer (some ⟨w, 4, none⟩), Iv x1] [obj u 97 [.map (some e), str ab, Iv ad, .bool af], ao (aj e ap ak g) ai g x, obj w 91 [Pt u, Iv al, .slice h p.length n, Iv an, Iv az, Iv a0, Iv a1, Iv a8, Iv a3, .slice c a.length d, .bool t], am 3 1 (V3 tt) h p n, am 144 5 (aM q) c a d, q] F (ci.f k x ab ad af al p an az a0 a1 a8 a3 a t x1) (fun (r : Int × List Int × Int × Int × Int × Int × Int × Int × (List (aF)) × Bool) (y : Option Addr × Nat × Option Addr × Nat × HA) => .tuple #[]) (fun r y => [obj u 97 [.map (some e), str ab, Iv ad, .bool af], ao (aj e ap ak g) ai g x, obj w 91 [Pt u, Iv r.1, .slice y.1 r.2.1.length y.2.1, Iv r.2.2.1, Iv r.2.2.2.1, Iv r.2.2.2.2.1, Iv r.2.2.2.2.2.1, Iv r.2.2.2.2.2.2.1, Iv r.2.2.2.2.2.2.2.1, .slice y.2.2.1 r.2.2.2.2.2.2.2.2.1.length y.2.2.2.1, .bool r.2.2.2.2.2.2.2.2.2], am 3 1 (V3 tt) y.1 r.2.1 y.2.1, am 144 5 (aM (y.2.2.2.2)) y.2.2.1 r.2.2.2.2.2.2.2.2.1 y.2.2.2.1, y.2.2.2.2]) := by
 unfold ci.f
 refine aO 58 Tryz.func65 O Tryz.ntmps65 O (sr (va O O (ae (aa ?_))))
 refine bK (S := Int) (Unit) (fun s y => [(0, .pointer (some ⟨w, 4, none⟩)), (4, Iv s)]) (fun s y => [obj u 97 [.map (some e), str ab, Iv ad, .bool af], obj w 91 [Pt u, Iv al, .slice h p.length n, Iv an, Iv az, Iv a0, Iv a1, Iv a8, Iv a3, .slice c a.length d, .bool t], ao (aj e ap ak g) ai g x, am 3 1 (V3 tt) h p n, am 144 5 (aM (q)) c a d, q, F]) ?_ ?_
 refine aU ?_
 refine cx (S := Int) (Unit) (fun k s => ci.l0 a x1 k s) (fun s y => [(0, .pointer (some ⟨w, 4, none⟩)), (1, Iv x1), (4, Iv s)]) (fun s y => [obj u 97 [.map (some e), str ab, Iv ad, .bool af], obj w 91 [Pt u, Iv al, .slice h p.length n, Iv an, Iv az, Iv a0, Iv a1, Iv a8, Iv a3, .slice c a.length d, .bool t], ao (aj e ap ak g) ai g x, am 3 1 (V3 tt) h p n, am 144 5 (aM (q)) c a d, q, F]) (fun _ => by rw [ci.l0]) ?_ k 0 () ⟨O, O, O, trivial⟩ (.s O (.sel 1 O (.s O (.s O (.s O (.s O (.s O .n)))))))
 intro k bc ei
 refine cU (by rw [ci.l0]) (ay (sr (vm O O (vm O O (vn O O (vq (ar O O underlying89 O O sizeOf87 O) O (vq (ag O O isAgg87 (.obj 1 O O)) O (vq (bC O O O underlying87) O (vq (cD O O O) O (vm O O ?_))))))))))
 refine da 11 (S := Bool) (Unit) (fun s y => [(0, .pointer (some ⟨w, 4, none⟩)), (1, Iv x1), (4, Iv bc), (24, .bool s)]) (fun s y => [obj u 97 [.map (some e), str ab, Iv ad, .bool af], obj w 91 [Pt u, Iv al, .slice h p.length n, Iv an, Iv az, Iv a0, Iv a1, Iv a8, Iv a3, .slice c a.length d, .bool t], ao (aj e ap ak g) ai g x, am 3 1 (V3 tt) h p n, am 144 5 (aM (q)) c a d, q, F]) ?_ ?_
 refine iJ (fun b4 => ?_) (fun b5 => ?_)
 rw [b4]
 refine aJ (aY O O) O O O O O O (aJ (aW O O) O O O O O O (aJ (ar O O underlying89 O O sizeOf87 O) O O O O O O (aJ (ag O O isAgg87 (.obj 1 O O)) O O O O O O (aJ (aY O O) O O O O O O (bg 4 O (fun c7 bd => (bb (fun b0 => (dT 4 O bd O (i := bc.toNat) (by omega) aI (fun ek d5 d6 b6 b7 c5 hcell15v => ?_))))))))))
 obtain ⟨d7, d8, rfl, ⟨c8, c9, dl⟩⟩ := b7
 refine aJ (cP O O O b6 underlying87 sizeOf144 b0.1 b0.2) O O O O O O (aJ (ar O O underlying144 O O sizeOf3 O) O O O O O O (aJ (ag O O isAgg3 (hcell15v 4 O 4 _ O)) O O O O O O (aJ (aY O O) O O O O O O (aJ (bS O O O) O O O O O O (vq (bP O O O O O) O (ae ?_))))))
 exact aG (s := decide ((a.getD bc.toNat aI).2.2.2.2 = x1)) () ⟨O, O, O, O, trivial⟩ (.s O (.s O (.s O (.s O (.sel' 0 O (am.mk bd) (.s O (.s O .n)))))))
 rw [b5]
 refine aC O O O O O O (aC O O O O O O (aC O O O O O O (aC O O O O O O (aC O O O O O O (aC O O O O O O (aC O O O O O O (aC O O O O O O (aC O O O O O O (aC O O O O O O (vq (bP O O O O O) O (ae ?_)))))))))))
 exact aG (s := false) () ⟨O, O, O, O, trivial⟩ (.s O (.s O (.s O (.s O (.s O (.s O (.s O .n)))))))
 intro el em
 refine ae (aa ?_)
 refine aX O (fun d9 => ?_) (fun ea => ?_)
 refine aB (aa (aU (aK (vm O O (vq (ca O O O) O (va O O (ae (bq ?_))))))))
 exact bV (s := IntKind.i64.wrap (bc + 1)) () ⟨O, O, O, trivial⟩ (.s O (.s O (.s O (.s O (.s O (.s O (.s O .n)))))))
 refine cL (cp (cw (cq ?_)))
 exact aG (s := bc) () ⟨O, O, trivial⟩ (.s O (.s O (.s O (.s O (.s O (.s O (.s O .n)))))))
 intro b en
 refine sr (vm O O (vq (cC O O O) O (ae (aa ?_))))
 refine bk O (fun eb => ?_) (fun ec => ?_)
 refine sr (vm O O (vn O O (vq (ar O O underlying89 O O sizeOf87 O) O (vq (ag O O isAgg87 (.obj 1 O O)) O (vm O O (vq (cW O O O) O (bg 4 O (fun a2 be => (bb (fun br => (dT 4 O be O (i := (IntKind.i64.wrap (b - 1)).toNat) (by omega) aI (fun ed ds ef b8 b9 c6 hcell36v => ?_))))))))))))
 obtain ⟨a6, a7, rfl, ⟨d1, d2, d3⟩⟩ := b9
 refine vq (cP O O O b8 underlying87 sizeOf144 br.1 br.2) O (vq (ar O O underlying144 O O sizeOf35 O) O (vq (dk (vs := [Iv ((a.getD (IntKind.i64.wrap (b - 1)).toNat aI).1), Iv ((a.getD (IntKind.i64.wrap (b - 1)).toNat aI).2.1), Iv ((a.getD (IntKind.i64.wrap (b - 1)).toNat aI).2.2.1), .slice a6 (((a.getD (IntKind.i64.wrap (b - 1)).toNat aI).2.2.2.1).length) a7]) O O isAgg35 sizeOf35 O (fun j v hj => iE (hcell36v 4 O (0 + j) v (dA (off := 0) O j v hj)))) O (ah (cn O zeroValue35 O) O O O ?_)))
 intro a4
 refine bf (aL 0 O O O sizeOf35 O O (aS (by rfl)) O O) O O ?_
 intro _
 refine ae (aa (ay (bm 4 O (fun a5 cd => ?_))))
 refine bh (Γ := Unit) () [[], [], [], [2], [], [4], [0, 2, 3], [0, 2, 3, 6], [0, 2, 3, 6, 7], rL 9, rL 10, rL 11] [8, 11] [0, 1, 2, 3, 4, 5, 6, 7, 9, 10] (fun i => [[0], [0, 1], [0], [0], [0, 1], [0, 1], [0], [0], [], [1], [1], []].getD i []) (fun i => [[], [], [], [], [], [], [], [], rL 8, [], [], rL 11].getD i []) (fun γ i => [.pointer (some ⟨w, 4, none⟩), .pointer (some ⟨w, 4, none⟩), .pointer (some ⟨a4, 1, none⟩), Iv ((a.getD (IntKind.i64.wrap (b - 1)).toNat aI).2.1), Pt a4, Iv ((a.getD (IntKind.i64.wrap (b - 1)).toNat aI).1), .pointer (some ⟨w, 4, none⟩), .pointer (some ⟨w, 7, none⟩), undef, .pointer (some ⟨w, 4, none⟩), .pointer (some ⟨w, 8, none⟩), undef].getD i undef) (fun j γ => [[obj a4 35 [Iv ((a.getD (IntKind.i64.wrap (b - 1)).toNat aI).1), Iv ((a.getD (IntKind.i64.wrap (b - 1)).toNat aI).2.1), Iv ((a.getD (IntKind.i64.wrap (b - 1)).toNat aI).2.2.1), .slice a6 (((a.getD (IntKind.i64.wrap (b - 1)).toNat aI).2.2.2.1).length) a7], obj u 97 [.map (some e), str ab, Iv ad, .bool af], obj w 91 [Pt u, Iv al, .slice h p.length n, Iv an, Iv az, Iv a0, Iv a1, Iv a8, Iv a3, .slice c a.length d, .bool t], ao (aj e ap ak g) ai g x, Row 3 1 h p.length n a5.flatten, Row 144 5 c a.length d a2.flatten, q, F], [obj a4 35 [Iv ((a.getD (IntKind.i64.wrap (b - 1)).toNat aI).1), Iv ((a.getD (IntKind.i64.wrap (b - 1)).toNat aI).2.1), Iv ((a.getD (IntKind.i64.wrap (b - 1)).toNat aI).2.2.1), .slice a6 (((a.getD (IntKind.i64.wrap (b - 1)).toNat aI).2.2.2.1).length) a7], obj u 97 [.map (some e), str ab, Iv ad, .bool af], obj w 91 [Pt u, Iv al, .slice h p.length n, Iv an, Iv az, Iv a0, Iv a1, Iv ((a.getD (IntKind.i64.wrap (b - 1)).toNat aI).2.1), Iv a3, .slice c a.length d, .bool t], ao (aj e ap ak g) ai g x, Row 3 1 h p.length n a5.flatten, Row 144 5 c a.length d a2.flatten, q, F], [obj a4 35 [Iv ((a.getD (IntKind.i64.wrap (b - 1)).toNat aI).1), Iv ((a.getD (IntKind.i64.wrap (b - 1)).toNat aI).2.1), Iv ((a.getD (IntKind.i64.wrap (b - 1)).toNat aI).2.2.1), .slice a6 (((a.getD (IntKind.i64.wrap (b - 1)).toNat aI).2.2.2.1).length) a7], obj u 97 [.map (some e), str ab, Iv ad, .bool af], obj w 91 [Pt u, Iv al, .slice h p.length n, Iv an, Iv az, Iv a0, Iv a1, Iv ((a.getD (IntKind.i64.wrap (b - 1)).toNat aI).2.1), Iv ((a.getD (IntKind.i64.wrap (b - 1)).toNat aI).1), .slice c a.length d, .bool t], ao (aj e ap ak g) ai g x, Row 3 1 h p.length n a5.flatten, Row 144 5 c a.length d a2.flatten, q, F]].getD j []) (fun γ => [(0, .pointer (some ⟨w, 4, none⟩)), (4, Iv b)]) mixed (by decide) (by decide) (by decide) (by decide) (by decide) (by decide) (by decide) 58 O (by decide) (by decide) (by decide) (Ent.refl _) ?_ ?_ (fun _ => ⟨O, O, trivial⟩) ?_
 exact (aq O (fun γ => qm O (.o (s := 0) O (by decide) .nil) O) (ac (fun γ => (ac (qm O (.o (s := 0) O (by decide) .nil) O) (ac (qm O (.o (s := 0) O (by decide) .nil) O) zA))) (aq O (fun γ => qp O O (.o (s := 5) O (by decide) .nil) (ar O O underlying35 O O sizeOf3 O) O) (aq O (fun γ => qp O O (.v 2 O O .nil) (ag O O isAgg3 (.obj 0 O O)) O) (ac (fun γ => (ac (qp O O (.o (s := 5) O (by decide) .nil) (ar O O underlying35 O O sizeOf3 O) O) (ac (qp O O (.o (s := 5) O (by decide) .nil) (ar O O underlying35 O O sizeOf3 O) O) zA))) (ac (fun γ => (ac (qp O O (.v 4 O O .nil) (ag O O isAgg3 (.obj 0 O O)) O) (ac (qp O O (.v 4 O O .nil) (ag O O isAgg3 (.obj 0 O O)) O) zA))) (aq O (fun γ => qp O O (.v 0 O O .nil) (aW O O) O) (aq O (fun γ => qp O O (.v 6 O O .nil) (ar O O underlying89 O O sizeOf3 O) O) (aq O (fun γ => qp O O (.v 1 O O .nil) (aW O O) O) (aq O (fun γ => qp O O (.v 9 O O .nil) (ar O O underlying89 O O sizeOf3 O) O) zA))))))))))
 exact (ac (fun γ => eo (Z := Unit) (fun z => ()) O O (.v 3 O O (.v 7 O O .nil)) (aL 2 O O O sizeOf3 O O (aS (by rfl)) O O) (fun _ => ⟨O, O, O, O, O, O, O, O, trivial⟩) (fun _ => .inl O) (fun z => Ent.refl _)) (ac (fun γ => eo (Z := Unit) (fun z => ()) O O (.v 5 O O (.v 10 O O .nil)) (aL 2 O O O sizeOf3 O O (aS (by rfl)) O O) (fun _ => ⟨O, O, O, O, O, O, O, O, O, O, O, trivial⟩) (fun _ => .inl O) (fun z => Ent.refl _)) zA))
 intro eg
 refine aa (aK (vm O O (vm O O (vn O O (vq (ar O O underlying89 O O sizeOf87 O) O (vq (ag O O isAgg87 (.obj 2 O O)) O (vm O O (bj 5 O (fun ch bs cs d4 => (cr (H' := [aT [Row 144 5 c a.length d a2.flatten, q], obj a4 35 [Iv ((a.getD (IntKind.i64.wrap (b - 1)).toNat aI).1), Iv ((a.getD (IntKind.i64.wrap (b - 1)).toNat aI).2.1), Iv ((a.getD (IntKind.i64.wrap (b - 1)).toNat aI).2.2.1), .slice a6 (((a.getD (IntKind.i64.wrap (b - 1)).toNat aI).2.2.2.1).length) a7], obj u 97 [.map (some e), str ab, Iv ad, .bool af], obj w 91 [Pt u, Iv al, .slice h p.length n, Iv an, Iv az, Iv a0, Iv a1, Iv ((a.getD (IntKind.i64.wrap (b - 1)).toNat aI).2.1), Iv ((a.getD (IntKind.i64.wrap (b - 1)).toNat aI).1), .slice c a.length d, .bool t], ao (aj e ap ak g) ai g x, Row 3 1 h p.length n a5.flatten, F]) (Ent.trans (m := [Row 144 5 c a.length d a2.flatten, q, obj a4 35 [Iv ((a.getD (IntKind.i64.wrap (b - 1)).toNat aI).1), Iv ((a.getD (IntKind.i64.wrap (b - 1)).toNat aI).2.1), Iv ((a.getD (IntKind.i64.wrap (b - 1)).toNat aI).2.2.1), .slice a6 (((a.getD (IntKind.i64.wrap (b - 1)).toNat aI).2.2.2.1).length) a7], obj u 97 [.map (some e), str ab, Iv ad, .bool af], obj w 91 [Pt u, Iv al, .slice h p.length n, Iv an, Iv az, Iv a0, Iv a1, Iv ((a.getD (IntKind.i64.wrap (b - 1)).toNat aI).2.1), Iv ((a.getD (IntKind.i64.wrap (b - 1)).toNat aI).1), .slice c a.length d, .bool t], ao (aj e ap ak g) ai g x, Row 3 1 h p.length n a5.flatten, F]) (.sel 5 O (.sel 5 O (.s O (.s O (.s O (.s O (.s O (.s O .n)))))))) (gQ [Row 144 5 c a.length d a2.flatten, q] _)) (bb (fun bt => ?_))))))))))))
 obtain ⟨b1, b2, c0, c1, c2, c3⟩ := hQ (lo := b) (hi := (a.length : Int)) (Rd.asV (be.mono (aM.up (Up.lend (l := [Row 144 5 c a.length d a2.flatten, q]) 1 rfl))) (Rd.lend (l := [Row 144 5 c a.length d a2.flatten, q]) ch 0 rfl)) bs bt
 refine vq (gr (l := a) (lo' := b) (hi' := (a.length : Int)) O O O O underlying87 sizeOf144 (.inl ⟨O, O⟩) (.inr ⟨_, O⟩) bt bs c0) O (av (fun b3 c4 => (ah (au (vs := [.slice b1 ((cut a b (a.length : Int)).length) b2]) (cap := []) (A := []) (rst := [aT [Row 144 5 c a.length d a2.flatten, q], obj a4 35 [Iv ((a.getD (IntKind.i64.wrap (b - 1)).toNat aI).1), Iv ((a.getD (IntKind.i64.wrap (b - 1)).toNat aI).2.1), Iv ((a.getD (IntKind.i64.wrap (b - 1)).toNat aI).2.2.1), .slice a6 (((a.getD (IntKind.i64.wrap (b - 1)).toNat aI).2.2.2.1).length) a7], obj u 97 [.map (some e), str ab, Iv ad, .bool af], obj w 91 [Pt u, Iv al, .slice h p.length n, Iv an, Iv az, Iv a0, Iv a1, Iv ((a.getD (IntKind.i64.wrap (b - 1)).toNat aI).2.1), Iv ((a.getD (IntKind.i64.wrap (b - 1)).toNat aI).1), .slice c a.length d, .bool t], ao (aj e ap ak g) ai g x, Row 3 1 h p.length n a5.flatten, F]) O O O O O O call92 (.s O (.s O (.s O (.s O (.s O (.s O (.s O .n))))))) (dC.calls _ _ _ (Up.lend 0 O) b1 b2 (cut a b (a.length : Int)) c1 c2 (Nat.le_trans c3 cs)) c4) O O O ?_)))
 intro a9
 refine vn O O (vq (ar O O underlying89 O O sizeOf87 O) O (bf (aL 4 O O O sizeOf87 O O (aS (by rfl)) O O) O O ?_))
 intro _
 refine cr (H' := [am 144 5 (aM (aT [Row 144 5 c a.length d a2.flatten, q])) a9.1 b3 a9.2, aT [Row 144 5 c a.length d a2.flatten, q], obj a4 35 [Iv ((a.getD (IntKind.i64.wrap (b - 1)).toNat aI).1), Iv ((a.getD (IntKind.i64.wrap (b - 1)).toNat aI).2.1), Iv ((a.getD (IntKind.i64.wrap (b - 1)).toNat aI).2.2.1), .slice a6 (((a.getD (IntKind.i64.wrap (b - 1)).toNat aI).2.2.2.1).length) a7], obj u 97 [.map (some e), str ab, Iv ad, .bool af], obj w 91 [Pt u, Iv al, .slice h p.length n, Iv an, Iv az, Iv a0, Iv a1, Iv ((a.getD (IntKind.i64.wrap (b - 1)).toNat aI).2.1), Iv ((a.getD (IntKind.i64.wrap (b - 1)).toNat aI).1), .slice a9.1 b3.length a9.2, .bool t], ao (aj e ap ak g) ai g x, Row 3 1 h p.length n a5.flatten, F]) (Ent.refl _) (ae ?_)
 exact fm (h, n, a9.1, a9.2, aT [Row 144 5 c a.length d a2.flatten, q]) O O O (.sel 3 O (.sel 4 O (.sel 3 O (.sel' 3 O (am.mk cd) (.s O (.s O (.sel 1 O .n)))))))
 refine aB ?_
 exact fm (h, n, c, d, q) O O O (.s O (.sel 1 O (.s O (.s O (.s O (.s O (.s O .n)))))))

def bY.l0 (s : Int) : Nat → List ((List UInt8) × (List UInt8 × Int)) → List UInt8 → Int → Bool → Int → List Int → Int → Int → Int → Int → Int → Int → List (aF) → Bool → Int → Option ((List ((List UInt8) × (List UInt8 × Int))) × List UInt8 × Int × Bool × Int × List Int × Int × Int × Int × Int × Int × Int × (List (aF)) × Bool × Int)
  | 0, _, _, _, _, _, _, _, _, _, _, _, _, _, _, _ => none
  | k + 1, d, e, g, h, i, b, j, l, m, n, o, p, q, r, t => (if (1 : Int) < (b.length : Int) then (if 0 ≤ (0 : Int) ∧ (0 : Int) < (b.length : Int) then ((dO.f k d e g h i b j l m n o p q r (b.getD (0 : Int).toNat (0 : Int)) s).bind fun u => (some (!u))) else none) else (some false)).bind fun v => (if v = true then (if 0 ≤ (0 : Int) ∧ (0 : Int) < (b.length : Int) then ((cm.f k (b.getD (0 : Int).toNat (0 : Int))).bind fun w => ((dL.f d e g h w).bind fun c => ((bz.f c.1).bind fun x => (if 0 ≤ (0 : Int) ∧ (0 : Int) < (b.length : Int) then ((ci.f k c.2.1 c.2.2.1 c.2.2.2.1 c.2.2.2.2 i b j l m n o p q r (b.getD (0 : Int).toNat (0 : Int))).bind fun a => (if 0 ≤ (1 : Int) ∧ (1 : Int) ≤ (a.2.1.length : Int) ∧ (a.2.1.length : Int) ≤ (a.2.1.length : Int) then (bY.l0 s k c.2.1 c.2.2.1 c.2.2.2.1 c.2.2.2.2 a.1 (cut a.2.1 (1 : Int) (a.2.1.length : Int)) a.2.2.1 a.2.2.2.1 a.2.2.2.2.1 a.2.2.2.2.2.1 a.2.2.2.2.2.2.1 a.2.2.2.2.2.2.2.1 a.2.2.2.2.2.2.2.2.1 a.2.2.2.2.2.2.2.2.2 (IntKind.i64.wrap (t + 1))) else none)) else none)))) else none) else (some (d, e, g, h, i, b, j, l, m, n, o, p, q, r, t)))
def bY.f (k : Nat) (d : List ((List UInt8) × (List UInt8 × Int))) (e : List UInt8) (g : Int) (h : Bool) (i : Int) (a : List Int) (j : Int) (l : Int) (m : Int) (n : Int) (o : Int) (p : Int) (q : List (aF)) (c : Bool) (r : Int) (s : Int) : Option ((List ((List UInt8) × (List UInt8 × Int))) × List UInt8 × Int × Bool × Int × List Int × Int × Int × Int × Int × Int × Int × (List (aF)) × Bool × Int) := if 0 ≤ IntKind.i64.wrap ((a.length : Int) - 1) ∧ IntKind.i64.wrap ((a.length : Int) - 1) < (a.length : Int) then ((cm.f k (a.getD (IntKind.i64.wrap ((a.length : Int) - 1)).toNat (0 : Int))).bind fun t => ((cB.f d e g h t).bind fun b => ((bz.f b.1).bind fun u => (bY.l0 r k b.2.1 b.2.2.1 b.2.2.2.1 b.2.2.2.2 i a j l m n o p q c s)))) else none
theorem bY.calls (W : World) (F : HA) (k : Nat) (q : Nat) (c : Nat) (e : Nat) (a1 : Nat) (a2 : Kps) (bs : List (Lb × (Lb × Int))) (bt : Lb) (b0 : Int) (b1 : Bool) (a3 : Int) (w : Option Addr) (x : Nat) (n : List Int) (a4 : Int) (a5 : Int) (a6 : Int) (a7 : Int) (a8 : Int) (a9 : Int) (al : Option Addr) (an : Nat) (af : List (aF)) (bc : HA) (a0 : Bool) (t : Nat) (m : Int) (u : Nat) (bd : Int) (hgl : Glb Tryz.prog F) :
    Fn Tryz.prog W 62 [Pt q, Pt t, Pt u] [obj e 97 [.map (some a1), str bt, Iv b0, .bool b1], ao (aj a1 ap ak a2) ai a2 bs, obj c 91 [Pt e, Iv a3, .slice w n.length x, Iv a4, Iv a5, Iv a6, Iv a7, Iv a8, Iv a9, .slice al af.length an, .bool a0], am 3 1 (V3 tt) w n x, am 144 5 (aM bc) al af an, bc, obj q 36 [Pt c], obj t 3 [Iv m], obj u 3 [Iv bd]] F (bY.f k bs bt b0 b1 a3 n a4 a5 a6 a7 a8 a9 af a0 m bd) (fun (r : (List (Lb × (Lb × Int))) × Lb × Int × Bool × Int × List Int × Int × Int × Int × Int × Int × Int × (List (aF)) × Bool × Int) (y : Nat × Kps × Option Addr × Nat × Option Addr × Nat × HA) => .tuple #[]) (fun r y => [obj e 97 [.map (some y.1), str r.2.1, Iv r.2.2.1, .bool r.2.2.2.1], ao (aj y.1 ap ak y.2.1) ai y.2.1 r.1, obj c 91 [Pt e, Iv r.2.2.2.2.1, .slice y.2.2.1 r.2.2.2.2.2.1.length y.2.2.2.1, Iv r.2.2.2.2.2.2.1, Iv r.2.2.2.2.2.2.2.1, Iv r.2.2.2.2.2.2.2.2.1, Iv r.2.2.2.2.2.2.2.2.2.1, Iv r.2.2.2.2.2.2.2.2.2.2.1, Iv r.2.2.2.2.2.2.2.2.2.2.2.1, .slice y.2.2.2.2.1 r.2.2.2.2.2.2.2.2.2.2.2.2.1.length y.2.2.2.2.2.1, .bool r.2.2.2.2.2.2.2.2.2.2.2.2.2.1], am 3 1 (V3 tt) y.2.2.1 r.2.2.2.2.2.1 y.2.2.2.1, am 144 5 (aM (y.2.2.2.2.2.2)) y.2.2.2.2.1 r.2.2.2.2.2.2.2.2.2.2.2.2.1 y.2.2.2.2.2.1, y.2.2.2.2.2.2, obj q 36 [Pt c], obj t 3 [Iv m], obj u 3 [Iv r.2.2.2.2.2.2.2.2.2.2.2.2.2.2]]) := by
 unfold bY.f
 refine aO 75 Tryz.func62 O Tryz.ntmps62 O (ay (bm 3 O (fun b2 dl => (bm 4 O (fun b3 e6 => (cN (fun ds => (gv 3 O dl O (i := (IntKind.i64.wrap ((n.length : Int) - 1)).toNat) (by omega) (0 : Int) (fun fp e7 hj e8 d7 fr hcell12v => ?_)))))))))
 obtain rfl := d7
 refine bo (fun c4 d8 => (bo (fun az d9 => (bo (fun g6 ea => ?_)))))
 refine bh (Γ := (Nat × Kps)) (0, ([] : Kps)) [[], [0], [0, 1], [0, 1, 2], [], [4], [4, 5], [4, 5, 6], [], [8], [8, 9], [8, 9, 10], [8, 9, 10, 11], [8, 9, 10, 11, 12], [4, 5, 6, 7, 8, 9, 10, 11, 12, 13], [4, 5, 6, 7, 8, 9, 10, 11, 12, 13, 14], [4, 5, 6, 7, 8, 9, 10, 11, 12, 13, 14, 15], rL 17, rL 18] [16, 17, 18] [0, 1, 2, 3, 4, 5, 6, 7, 8, 9, 10, 11, 12, 13, 14, 15] (fun i => [[0, 1], [0, 1], [0, 1], [0, 1], [0], [0], [0], [0], [0], [0], [0], [0], [0], [0], [0], [0], [], [], []].getD i []) (fun i => [[], [], [], [], [], [], [], [], [], [], [], [], [], [], [], [], rL 16, rL 17, rL 18].getD i []) (fun γ i => [Pt c, Pt c, Pt c, Pt e, Pt c, Pt c, .pointer (some ⟨c, 2, none⟩), .slice w n.length x, Pt c, Pt c, .pointer (some ⟨c, 2, none⟩), .slice w n.length x, Iv (n.length : Int), Iv (IntKind.i64.wrap ((n.length : Int) - 1)), .pointer (some ⟨fp, e7 + (IntKind.i64.wrap ((n.length : Int) - 1)).toNat * 1, none⟩), Iv (n.getD (IntKind.i64.wrap ((n.length : Int) - 1)).toNat (0 : Int)), str c4, Iv az.1, .tuple #[]].getD i undef) (fun j γ => [[obj e 97 [.map (some a1), str bt, Iv b0, .bool b1], ao (aj a1 ap ak a2) ai a2 bs, obj c 91 [Pt e, Iv a3, .slice w n.length x, Iv a4, Iv a5, Iv a6, Iv a7, Iv a8, Iv a9, .slice al af.length an, .bool a0], Row 3 1 w n.length x b2.flatten, Row 144 5 al af.length an b3.flatten, bc, obj q 36 [Pt c], obj t 3 [Iv m], obj u 3 [Iv bd], F], [obj e 97 [.map (some a1), str bt, Iv b0, .bool b1], ao (aj a1 ap ak a2) ai a2 bs, obj c 91 [Pt e, Iv a3, .slice w n.length x, Iv a4, Iv a5, Iv a6, Iv a7, Iv a8, Iv a9, .slice al af.length an, .bool a0], Row 3 1 w n.length x b2.flatten, Row 144 5 al af.length an b3.flatten, bc, obj q 36 [Pt c], obj t 3 [Iv m], obj u 3 [Iv bd], F], [obj e 97 [.map (some γ.1), str az.2.2.1, Iv az.2.2.2.1, .bool az.2.2.2.2], ao (aj γ.1 ap ak γ.2) ai γ.2 az.2.1, obj c 91 [Pt e, Iv a3, .slice w n.length x, Iv a4, Iv a5, Iv a6, Iv a7, Iv a8, Iv a9, .slice al af.length an, .bool a0], Row 3 1 w n.length x b2.flatten, Row 144 5 al af.length an b3.flatten, bc, obj q 36 [Pt c], obj t 3 [Iv m], obj u 3 [Iv bd], F], [obj e 97 [.map (some γ.1), str az.2.2.1, Iv az.2.2.2.1, .bool az.2.2.2.2], ao (aj γ.1 ap ak γ.2) ai γ.2 az.2.1, obj c 91 [Pt e, Iv a3, .slice w n.length x, Iv a4, Iv a5, Iv a6, Iv a7, Iv a8, Iv a9, .slice al af.length an, .bool a0], Row 3 1 w n.length x b2.flatten, Row 144 5 al af.length an b3.flatten, bc, obj q 36 [Pt c], obj t 3 [Iv m], obj u 3 [Iv bd], F]].getD j []) (fun γ => [(0, Pt q), (1, Pt t), (2, Pt u)]) mixed (by decide) (by decide) (by decide) (by decide) (by decide) (by decide) (by decide) 75 O (by decide) (by decide) (by decide) (Ent.refl _) ?_ ?_ (fun _ => ⟨O, O, O, trivial⟩) ?_
 exact (ac (fun γ => (ac (qp O O (.o (s := 0) O (by decide) .nil) (ag O O isAgg36 (.obj 6 O O)) O) (ac (qp O O (.o (s := 0) O (by decide) .nil) (ag O O isAgg36 (.obj 6 O O)) O) zA))) (ac (fun γ => (ac (qp O O (.v 0 O O .nil) (aW O O) O) (ac (qp O O (.v 0 O O .nil) (aW O O) O) zA))) (ac (fun γ => (ac (qp O O (.v 1 O O .nil) (ar O O underlying91 O O sizeOf39 O) O) (ac (qp O O (.v 1 O O .nil) (ar O O underlying91 O O sizeOf39 O) O) zA))) (ac (fun γ => (ac (qp O O (.v 2 O O .nil) (ag O O isAgg39 (.obj 2 O O)) O) (ac (qp O O (.v 2 O O .nil) (ag O O isAgg39 (.obj 2 O O)) O) zA))) (aq O (fun γ => qp O O (.o (s := 0) O (by decide) .nil) (ag O O isAgg36 (.obj 6 O O)) O) (aq O (fun γ => qp O O (.v 4 O O .nil) (aW O O) O) (aq O (fun γ => qp O O (.v 5 O O .nil) (ar O O underlying91 O O sizeOf78 O) O) (aq O (fun γ => qp O O (.v 6 O O .nil) (ag O O isAgg78 (.obj 2 O O)) O) (aq O (fun γ => qp O O (.o (s := 0) O (by decide) .nil) (ag O O isAgg36 (.obj 6 O O)) O) (aq O (fun γ => qp O O (.v 8 O O .nil) (aW O O) O) (aq O (fun γ => qp O O (.v 9 O O .nil) (ar O O underlying91 O O sizeOf78 O) O) (aq O (fun γ => qp O O (.v 10 O O .nil) (ag O O isAgg78 (.obj 2 O O)) O) (aq O (fun γ => qp O O (.v 11 O O .nil) (bC O O O underlying78) O) (aq O (fun γ => qp O O (.v 12 O O .nil) (cW O O O) O) (aq O (fun γ => qp O O (.v 7 O O (.v 13 O O .nil)) (cP O O O e8 underlying78 sizeOf3 ds.1 ds.2) O) (aq O (fun γ => qp O O (.v 14 O O .nil) (ag O O isAgg3 (hcell12v 3 O 0 _ O)) O) zA))))))))))))))))
 exact (ac (fun γ => eo (Z := Unit) (fun z => γ) O O (.v 15 O O .nil) (au (val := fun (r : Lb) (y : Unit) => str r) (B := fun _ _ => []) (vs := [Iv (n.getD (IntKind.i64.wrap ((n.length : Int) - 1)).toNat (0 : Int))]) (cap := []) (A := []) (rst := [obj e 97 [.map (some a1), str bt, Iv b0, .bool b1], ao (aj a1 ap ak a2) ai a2 bs, obj c 91 [Pt e, Iv a3, .slice w n.length x, Iv a4, Iv a5, Iv a6, Iv a7, Iv a8, Iv a9, .slice al af.length an, .bool a0], Row 3 1 w n.length x b2.flatten, Row 144 5 al af.length an b3.flatten, bc, obj q 36 [Pt c], obj t 3 [Iv m], obj u 3 [Iv bd], F]) O O O O O O call47 (.s O (.s O (.s O (.s O (.s O (.s O (.s O (.s O (.s O (.s O .n)))))))))) (cm.calls _ _ k (n.getD (IntKind.i64.wrap ((n.length : Int) - 1)).toNat (0 : Int)) (hgl.lend 9 O)) d8) (fun _ => ⟨O, O, O, O, O, O, O, O, O, O, O, O, O, O, O, O, trivial⟩) (fun _ => .inr O) (fun z => Ent.refl _)) (ac (fun γ => eo (Z := Nat × Kps) (fun z => z) O O (.v 3 O O (.v 16 O O .nil)) (au (vs := [Pt e, str c4]) (cap := []) (A := [obj e 97 [.map (some a1), str bt, Iv b0, .bool b1], ao (aj a1 ap ak a2) ai a2 bs]) (rst := [obj c 91 [Pt e, Iv a3, .slice w n.length x, Iv a4, Iv a5, Iv a6, Iv a7, Iv a8, Iv a9, .slice al af.length an, .bool a0], Row 3 1 w n.length x b2.flatten, Row 144 5 al af.length an b3.flatten, bc, obj q 36 [Pt c], obj t 3 [Iv m], obj u 3 [Iv bd], F]) O O O O O O call46 (.s O (.s O (.s O (.s O (.s O (.s O (.s O (.s O (.s O (.s O .n)))))))))) (cB.calls _ _ e a1 a2 bs bt b0 b1 c4 ) d9) (fun _ => ⟨O, O, O, O, O, O, O, O, O, O, O, O, O, O, O, O, O, trivial⟩) (fun _ => .inr O) (fun z => Ent.refl _)) (ac (fun γ => eo (Z := Unit) (fun z => γ) O O (.v 17 O O .nil) (au (vs := [Iv az.1]) (cap := []) (A := []) (rst := [obj e 97 [.map (some γ.1), str az.2.2.1, Iv az.2.2.2.1, .bool az.2.2.2.2], ao (aj γ.1 ap ak γ.2) ai γ.2 az.2.1, obj c 91 [Pt e, Iv a3, .slice w n.length x, Iv a4, Iv a5, Iv a6, Iv a7, Iv a8, Iv a9, .slice al af.length an, .bool a0], Row 3 1 w n.length x b2.flatten, Row 144 5 al af.length an b3.flatten, bc, obj q 36 [Pt c], obj t 3 [Iv m], obj u 3 [Iv bd], F]) O O O O O O call43 (.s O (.s O (.s O (.s O (.s O (.s O (.s O (.s O (.s O (.s O .n)))))))))) (bz.calls _ _ az.1 ) ea) (fun _ => ⟨O, O, O, O, O, O, O, O, O, O, O, O, O, O, O, O, O, O, trivial⟩) (fun _ => .inr O) (fun z => Ent.refl _)) zA)))
 intro d1
 refine aa (aU ?_)
 refine cx (S := (List (Lb × (Lb × Int))) × Lb × Int × Bool × Int × List Int × Int × Int × Int × Int × Int × Int × (List (aF)) × Bool × Int) (Nat × Kps × Option Addr × Nat × HA × Option Addr × Nat) (fun k s => bY.l0 m k s.1 s.2.1 s.2.2.1 s.2.2.2.1 s.2.2.2.2.1 s.2.2.2.2.2.1 s.2.2.2.2.2.2.1 s.2.2.2.2.2.2.2.1 s.2.2.2.2.2.2.2.2.1 s.2.2.2.2.2.2.2.2.2.1 s.2.2.2.2.2.2.2.2.2.2.1 s.2.2.2.2.2.2.2.2.2.2.2.1 s.2.2.2.2.2.2.2.2.2.2.2.2.1 s.2.2.2.2.2.2.2.2.2.2.2.2.2.1 s.2.2.2.2.2.2.2.2.2.2.2.2.2.2) (fun s y => [(0, Pt q), (1, Pt t), (2, Pt u)]) (fun s y => [obj e 97 [.map (some y.1), str s.2.1, Iv s.2.2.1, .bool s.2.2.2.1], obj c 91 [Pt e, Iv s.2.2.2.2.1, .slice y.2.2.1 s.2.2.2.2.2.1.length y.2.2.2.1, Iv s.2.2.2.2.2.2.1, Iv s.2.2.2.2.2.2.2.1, Iv s.2.2.2.2.2.2.2.2.1, Iv s.2.2.2.2.2.2.2.2.2.1, Iv s.2.2.2.2.2.2.2.2.2.2.1, Iv s.2.2.2.2.2.2.2.2.2.2.2.1, .slice y.2.2.2.2.2.1 s.2.2.2.2.2.2.2.2.2.2.2.2.1.length y.2.2.2.2.2.2, .bool s.2.2.2.2.2.2.2.2.2.2.2.2.2.1], obj q 36 [Pt c], obj t 3 [Iv m], obj u 3 [Iv s.2.2.2.2.2.2.2.2.2.2.2.2.2.2], ao (aj y.1 ap ak y.2.1) ai y.2.1 s.1, am 3 1 (V3 tt) y.2.2.1 s.2.2.2.2.2.1 y.2.2.2.1, am 144 5 (aM (y.2.2.2.2.1)) y.2.2.2.2.2.1 s.2.2.2.2.2.2.2.2.2.2.2.2.1 y.2.2.2.2.2.2, y.2.2.2.2.1, F]) (fun _ => by rw [bY.l0]) ?_ k (az.2.1, az.2.2.1, az.2.2.2.1, az.2.2.2.2, a3, n, a4, a5, a6, a7, a8, a9, af, a0, bd) (d1.1, d1.2, w, x, bc, al, an) ⟨O, O, O, trivial⟩ (.s O (.sel 1 O (.sel 4 O (.sel 4 O (.sel 4 O (.s O (.sel' 0 O (am.mk dl) (.sel' 0 O (am.mk e6) (.s O (.s O .n))))))))))
 intro k a b
 refine cU (by rw [bY.l0]) (ay ?_)
 refine bK (S := Bool) (Unit) (fun s y => [(0, Pt q), (1, Pt t), (2, Pt u), (41, .bool s)]) (fun s y => [obj e 97 [.map (some b.1), str a.2.1, Iv a.2.2.1, .bool a.2.2.2.1], obj c 91 [Pt e, Iv a.2.2.2.2.1, .slice b.2.2.1 a.2.2.2.2.2.1.length b.2.2.2.1, Iv a.2.2.2.2.2.2.1, Iv a.2.2.2.2.2.2.2.1, Iv a.2.2.2.2.2.2.2.2.1, Iv a.2.2.2.2.2.2.2.2.2.1, Iv a.2.2.2.2.2.2.2.2.2.2.1, Iv a.2.2.2.2.2.2.2.2.2.2.2.1, .slice b.2.2.2.2.2.1 a.2.2.2.2.2.2.2.2.2.2.2.2.1.length b.2.2.2.2.2.2, .bool a.2.2.2.2.2.2.2.2.2.2.2.2.2.1], obj q 36 [Pt c], obj t 3 [Iv m], obj u 3 [Iv a.2.2.2.2.2.2.2.2.2.2.2.2.2.2], ao (aj b.1 ap ak b.2.1) ai b.2.1 a.1, am 3 1 (V3 tt) b.2.2.1 a.2.2.2.2.2.1 b.2.2.2.1, am 144 5 (aM (b.2.2.2.2.1)) b.2.2.2.2.2.1 a.2.2.2.2.2.2.2.2.2.2.2.2.1 b.2.2.2.2.2.2, b.2.2.2.2.1, F]) ?_ ?_
 refine bm 6 O (fun cd b5 => (bm 7 O (fun ch cs => ?_)))
 refine fx (fun p => ?_) (fun p => ?_)
 refine cN (fun c6 => (gv 6 O b5 O (i := (0 : Int).toNat) (by omega) (0 : Int) (fun d2 c7 g7 eb ec fs hcell54v => ?_)))
 obtain rfl := ec
 refine bo (fun b4 ed => ?_)
 refine bh (Γ := Unit) () [[], [0], [0, 1], [0, 1, 2], rL 4, rL 5, rL 6, rL 7, rL 8, rL 9, rL 7, [0, 1, 2, 3, 4, 5, 6, 10], [0, 1, 2, 3, 4, 5, 6, 10, 11], [0, 1, 2, 3, 4, 5, 6, 10, 11, 12], [0, 1, 2, 3, 4, 5, 6, 10, 11, 12, 13], [0, 1, 2, 3, 4, 5, 6, 10, 11, 12, 13, 14], rL 7, rL 17, rL 18, rL 19] [] [0, 1, 2, 3, 4, 5, 6, 7, 8, 9, 10, 11, 12, 13, 14, 15, 16, 17, 18, 19] (fun i => [[0], [0], [0], [0], [0], [0], [0], [0], [0], [0], [0], [0], [0], [0], [0], [0], [0], [0], [0], [0]].getD i []) (fun i => [[], [], [], [], [], [], [], [], [], [], [], [], [], [], [], [], [], [], [], []].getD i []) (fun γ i => [Pt c, Pt c, .pointer (some ⟨c, 2, none⟩), .slice b.2.2.1 a.2.2.2.2.2.1.length b.2.2.2.1, Iv (a.2.2.2.2.2.1.length : Int), .bool (decide ((1 : Int) < (a.2.2.2.2.2.1.length : Int))), .bool (decide ((1 : Int) < (a.2.2.2.2.2.1.length : Int))), Pt c, Pt c, .pointer (some ⟨c, 4, none⟩), Pt c, Pt c, .pointer (some ⟨c, 2, none⟩), .slice b.2.2.1 a.2.2.2.2.2.1.length b.2.2.2.1, .pointer (some ⟨d2, c7 + (0 : Int).toNat * 1, none⟩), Iv (a.2.2.2.2.2.1.getD (0 : Int).toNat (0 : Int)), Iv m, .bool b4, .bool (!b4), .bool (!b4)].getD i undef) (fun j γ => [[obj e 97 [.map (some b.1), str a.2.1, Iv a.2.2.1, .bool a.2.2.2.1], obj c 91 [Pt e, Iv a.2.2.2.2.1, .slice b.2.2.1 a.2.2.2.2.2.1.length b.2.2.2.1, Iv a.2.2.2.2.2.2.1, Iv a.2.2.2.2.2.2.2.1, Iv a.2.2.2.2.2.2.2.2.1, Iv a.2.2.2.2.2.2.2.2.2.1, Iv a.2.2.2.2.2.2.2.2.2.2.1, Iv a.2.2.2.2.2.2.2.2.2.2.2.1, .slice b.2.2.2.2.2.1 a.2.2.2.2.2.2.2.2.2.2.2.2.1.length b.2.2.2.2.2.2, .bool a.2.2.2.2.2.2.2.2.2.2.2.2.2.1], obj q 36 [Pt c], obj t 3 [Iv m], obj u 3 [Iv a.2.2.2.2.2.2.2.2.2.2.2.2.2.2], ao (aj b.1 ap ak b.2.1) ai b.2.1 a.1, Row 3 1 b.2.2.1 a.2.2.2.2.2.1.length b.2.2.2.1 cd.flatten, Row 144 5 b.2.2.2.2.2.1 a.2.2.2.2.2.2.2.2.2.2.2.2.1.length b.2.2.2.2.2.2 ch.flatten, b.2.2.2.2.1, F]].getD j []) (fun γ => [(0, Pt q), (1, Pt t), (2, Pt u), (29, Pt c), (30, Pt c), (31, .pointer (some ⟨c, 4, none⟩)), (32, Pt c), (33, Pt c), (34, .pointer (some ⟨c, 2, none⟩)), (35, .slice b.2.2.1 a.2.2.2.2.2.1.length b.2.2.2.1), (36, .pointer (some ⟨d2, c7 + (0 : Int).toNat * 1, none⟩)), (37, Iv (a.2.2.2.2.2.1.getD (0 : Int).toNat (0 : Int))), (38, Iv m), (39, .bool b4), (40, .bool (!b4)), (41, .bool (!b4))]) mixed (by decide) (by decide) (by decide) (by decide) (by decide) (by decide) (by decide) 75 O (by decide) (by decide) (by decide) (Ent.refl _) ?_ ?_ (fun _ => ⟨O, O, O, O, O, O, O, O, O, O, O, O, O, O, O, O, trivial⟩) ?_
 exact (aq O (fun γ => qp O O (.o (s := 0) O (by decide) .nil) (ag O O isAgg36 (.obj 2 O O)) O) (aq O (fun γ => qp O O (.v 0 O O .nil) (aW O O) O) (aq O (fun γ => qp O O (.v 1 O O .nil) (ar O O underlying91 O O sizeOf78 O) O) (aq O (fun γ => qp O O (.v 2 O O .nil) (ag O O isAgg78 (.obj 1 O O)) O) (aq O (fun γ => qp O O (.v 3 O O .nil) (bC O O O underlying78) O) (aq O (fun γ => qp O O (.v 4 O O .nil) (cC O O O) O) (aq O (fun γ => qm O (.v 5 O O .nil) O) (aq O (fun γ => qy O O (.o (s := 0) O (by decide) (.v 6 O O .nil)) O O (bD (decide_eq_true p)) (ag O O isAgg36 (.obj 2 O O)) O) (aq O (fun γ => qy O O (.v 6 O O (.v 7 O O .nil)) O O (bD (decide_eq_true p)) (aW O O) O) (aq O (fun γ => qy O O (.v 6 O O (.v 8 O O .nil)) O O (bD (decide_eq_true p)) (ar O O underlying91 O O sizeOf89 O) O) (aq O (fun γ => qy O O (.o (s := 0) O (by decide) (.v 6 O O .nil)) O O (bD (decide_eq_true p)) (ag O O isAgg36 (.obj 2 O O)) O) (aq O (fun γ => qy O O (.v 6 O O (.v 10 O O .nil)) O O (bD (decide_eq_true p)) (aW O O) O) (aq O (fun γ => qy O O (.v 6 O O (.v 11 O O .nil)) O O (bD (decide_eq_true p)) (ar O O underlying91 O O sizeOf78 O) O) (aq O (fun γ => qy O O (.v 6 O O (.v 12 O O .nil)) O O (bD (decide_eq_true p)) (ag O O isAgg78 (.obj 1 O O)) O) (aq O (fun γ => qy O O (.v 6 O O (.v 13 O O .nil)) O O (bD (decide_eq_true p)) (cP O O O eb underlying78 sizeOf3 c6.1 c6.2) O) (aq O (fun γ => qy O O (.v 6 O O (.v 14 O O .nil)) O O (bD (decide_eq_true p)) (ag O O isAgg3 (hcell54v 6 O 0 _ O)) O) (aq O (fun γ => qy O O (.o (s := 1) O (by decide) (.v 6 O O .nil)) O O (bD (decide_eq_true p)) (ag O O isAgg3 (.obj 3 O O)) O) (aq O (fun γ => qy O O (.v 6 O O (.v 9 O O (.v 15 O O (.v 16 O O .nil)))) O O (bD (decide_eq_true p)) (RE.rq (RE.lend 6 O (fun ef eg ei g3 => RE.lend 7 O (fun ek el em g4 => au (vs := [.pointer (some ⟨c, 4, none⟩), Iv (a.2.2.2.2.2.1.getD (0 : Int).toNat (0 : Int)), Iv m]) (cap := []) (A := [obj e 97 [.map (some b.1), str a.2.1, Iv a.2.2.1, .bool a.2.2.2.1], ao (aj b.1 ap ak b.2.1) ai b.2.1 a.1, obj c 91 [Pt e, Iv a.2.2.2.2.1, .slice b.2.2.1 a.2.2.2.2.2.1.length b.2.2.2.1, Iv a.2.2.2.2.2.2.1, Iv a.2.2.2.2.2.2.2.1, Iv a.2.2.2.2.2.2.2.2.1, Iv a.2.2.2.2.2.2.2.2.2.1, Iv a.2.2.2.2.2.2.2.2.2.2.1, Iv a.2.2.2.2.2.2.2.2.2.2.2.1, .slice b.2.2.2.2.2.1 a.2.2.2.2.2.2.2.2.2.2.2.2.1.length b.2.2.2.2.2.2, .bool a.2.2.2.2.2.2.2.2.2.2.2.2.2.1]]) (rst := [obj q 36 [Pt c], obj t 3 [Iv m], obj u 3 [Iv a.2.2.2.2.2.2.2.2.2.2.2.2.2.2], Row 3 1 b.2.2.1 a.2.2.2.2.2.1.length b.2.2.2.1 cd.flatten, Row 144 5 b.2.2.2.2.2.1 a.2.2.2.2.2.2.2.2.2.2.2.2.1.length b.2.2.2.2.2.2 ch.flatten, b.2.2.2.2.1, F]) O O O O O O call63 (.s O (.sel 4 O (.s O (.s O (.s O (.s O (.s O (.s O (.s O (.s O .n)))))))))) (dO.calls _ _ k c e b.1 b.2.1 a.1 a.2.1 a.2.2.1 a.2.2.2.1 a.2.2.2.2.1 b.2.2.1 b.2.2.2.1 a.2.2.2.2.2.1 a.2.2.2.2.2.2.1 a.2.2.2.2.2.2.2.1 a.2.2.2.2.2.2.2.2.1 a.2.2.2.2.2.2.2.2.2.1 a.2.2.2.2.2.2.2.2.2.2.1 a.2.2.2.2.2.2.2.2.2.2.2.1 b.2.2.2.2.2.1 b.2.2.2.2.2.2 a.2.2.2.2.2.2.2.2.2.2.2.2.1 a.2.2.2.2.2.2.2.2.2.2.2.2.2.1 (a.2.2.2.2.2.1.getD (0 : Int).toNat (0 : Int)) m ((Rd.asV b5 ef).up (Up.lend 3 O) (fun _ _ h => h)) eg ei ((Rd.asV cs ek).up (Up.lend 4 O) (aM.up (Up.lend 5 O))) el em) ed))) (fun _ => by rfl) (fun _ => by exact ((.s O (.sel 1 O (.sel 1 O (.sel 1 O (.sel 1 O (.s O (.s O (.s O (.s O (.s O .n))))))))))))) O) (aq O (fun γ => qy O O (.v 6 O O (.v 17 O O .nil)) O O (bD (decide_eq_true p)) (fh O O) O) (aq O (fun γ => qp O O (.v 6 O O (.v 18 O O .nil)) (bP O O O O (lS (decide_eq_true p) _ _)) O) zA))))))))))))))))))))
 exact zA
 intro g8
 exact aG (s := !b4) () ⟨O, O, O, O, trivial⟩ (.s O (.s O (.s O (.s O (.s O (.s O (.sel' 0 O (am.mk b5) (.sel' 0 O (am.mk cs) (.s O (.s O .n))))))))))
 refine bh (Γ := Unit) () [[], [0], [0, 1], [0, 1, 2], rL 4, rL 5, rL 6, rL 7, rL 8, rL 9, rL 7, [0, 1, 2, 3, 4, 5, 6, 10], [0, 1, 2, 3, 4, 5, 6, 10, 11], [0, 1, 2, 3, 4, 5, 6, 10, 11, 12], [0, 1, 2, 3, 4, 5, 6, 10, 11, 12, 13], [0, 1, 2, 3, 4, 5, 6, 10, 11, 12, 13, 14], rL 7, rL 17, rL 18, rL 19] [] [0, 1, 2, 3, 4, 5, 6, 7, 8, 9, 10, 11, 12, 13, 14, 15, 16, 17, 18, 19] (fun i => [[0], [0], [0], [0], [0], [0], [0], [0], [0], [0], [0], [0], [0], [0], [0], [0], [0], [0], [0], [0]].getD i []) (fun i => [[], [], [], [], [], [], [], [], [], [], [], [], [], [], [], [], [], [], [], []].getD i []) (fun γ i => [Pt c, Pt c, .pointer (some ⟨c, 2, none⟩), .slice b.2.2.1 a.2.2.2.2.2.1.length b.2.2.2.1, Iv (a.2.2.2.2.2.1.length : Int), .bool (decide ((1 : Int) < (a.2.2.2.2.2.1.length : Int))), .bool (decide ((1 : Int) < (a.2.2.2.2.2.1.length : Int))), undef, undef, undef, undef, undef, undef, undef, undef, undef, undef, undef, undef, .bool false].getD i undef) (fun j γ => [[obj e 97 [.map (some b.1), str a.2.1, Iv a.2.2.1, .bool a.2.2.2.1], obj c 91 [Pt e, Iv a.2.2.2.2.1, .slice b.2.2.1 a.2.2.2.2.2.1.length b.2.2.2.1, Iv a.2.2.2.2.2.2.1, Iv a.2.2.2.2.2.2.2.1, Iv a.2.2.2.2.2.2.2.2.1, Iv a.2.2.2.2.2.2.2.2.2.1, Iv a.2.2.2.2.2.2.2.2.2.2.1, Iv a.2.2.2.2.2.2.2.2.2.2.2.1, .slice b.2.2.2.2.2.1 a.2.2.2.2.2.2.2.2.2.2.2.2.1.length b.2.2.2.2.2.2, .bool a.2.2.2.2.2.2.2.2.2.2.2.2.2.1], obj q 36 [Pt c], obj t 3 [Iv m], obj u 3 [Iv a.2.2.2.2.2.2.2.2.2.2.2.2.2.2], ao (aj b.1 ap ak b.2.1) ai b.2.1 a.1, Row 3 1 b.2.2.1 a.2.2.2.2.2.1.length b.2.2.2.1 cd.flatten, Row 144 5 b.2.2.2.2.2.1 a.2.2.2.2.2.2.2.2.2.2.2.2.1.length b.2.2.2.2.2.2 ch.flatten, b.2.2.2.2.1, F]].getD j []) (fun γ => [(0, Pt q), (1, Pt t), (2, Pt u), (29, undef), (30, undef), (31, undef), (32, undef), (33, undef), (34, undef), (35, undef), (36, undef), (37, undef), (38, undef), (39, undef), (40, undef), (41, .bool false)]) mixed (by decide) (by decide) (by decide) (by decide) (by decide) (by decide) (by decide) 75 O (by decide) (by decide) (by decide) (Ent.refl _) ?_ ?_ (fun _ => ⟨O, O, O, O, O, O, O, O, O, O, O, O, O, O, O, O, trivial⟩) ?_
 exact (aq O (fun γ => qp O O (.o (s := 0) O (by decide) .nil) (ag O O isAgg36 (.obj 2 O O)) O) (aq O (fun γ => qp O O (.v 0 O O .nil) (aW O O) O) (aq O (fun γ => qp O O (.v 1 O O .nil) (ar O O underlying91 O O sizeOf78 O) O) (aq O (fun γ => qp O O (.v 2 O O .nil) (ag O O isAgg78 (.obj 1 O O)) O) (aq O (fun γ => qp O O (.v 3 O O .nil) (bC O O O underlying78) O) (aq O (fun γ => qp O O (.v 4 O O .nil) (cC O O O) O) (aq O (fun γ => qm O (.v 5 O O .nil) O) (aq O (fun γ => qn O O (.o (s := 0) O (by decide) (.v 6 O O .nil)) O O (bE (decide_eq_false p)) O) (aq O (fun γ => qn O O (.v 6 O O (.v 7 O O .nil)) O O (bE (decide_eq_false p)) O) (aq O (fun γ => qn O O (.v 6 O O (.v 8 O O .nil)) O O (bE (decide_eq_false p)) O) (aq O (fun γ => qn O O (.o (s := 0) O (by decide) (.v 6 O O .nil)) O O (bE (decide_eq_false p)) O) (aq O (fun γ => qn O O (.v 6 O O (.v 10 O O .nil)) O O (bE (decide_eq_false p)) O) (aq O (fun γ => qn O O (.v 6 O O (.v 11 O O .nil)) O O (bE (decide_eq_false p)) O) (aq O (fun γ => qn O O (.v 6 O O (.v 12 O O .nil)) O O (bE (decide_eq_false p)) O) (aq O (fun γ => qn O O (.v 6 O O (.v 13 O O .nil)) O O (bE (decide_eq_false p)) O) (aq O (fun γ => qn O O (.v 6 O O (.v 14 O O .nil)) O O (bE (decide_eq_false p)) O) (aq O (fun γ => qn O O (.o (s := 1) O (by decide) (.v 6 O O .nil)) O O (bE (decide_eq_false p)) O) (aq O (fun γ => qn O O (.v 6 O O (.v 9 O O (.v 15 O O (.v 16 O O .nil)))) O O (bE (decide_eq_false p)) O) (aq O (fun γ => qn O O (.v 6 O O (.v 17 O O .nil)) O O (bE (decide_eq_false p)) O) (aq O (fun γ => qp O O (.v 6 O O (.v 18 O O .nil)) (bP O O O O (mY (decide_eq_false p) _ _)) O) zA))))))))))))))))))))
 exact zA
 intro g9
 exact aG (s := false) () ⟨O, O, O, O, trivial⟩ (.s O (.s O (.s O (.s O (.s O (.s O (.sel' 0 O (am.mk b5) (.sel' 0 O (am.mk cs) (.s O (.s O .n))))))))))
 intro ha hb
 refine aX O (fun hc => ?_) (fun he => ?_)
 refine aB (aa (aU (ay (bm 6 O (fun be c0 => (bm 7 O (fun br en => (cN (fun c8 => (gv 6 O c0 O (i := (0 : Int).toNat) (by omega) (0 : Int) (fun e9 er hf es et fz hcell81v => ?_)))))))))))
 obtain rfl := et
 refine bo (fun c5 e0 => (bo (fun g e1 => (bo (fun hg e2 => ?_)))))
 refine bh (Γ := (Nat × Kps)) (0, ([] : Kps)) [[], [0], [0, 1], [0, 1, 2], [], [4], [4, 5], [4, 5, 6], [4, 5, 6, 7], [4, 5, 6, 7, 8], [4, 5, 6, 7, 8, 9], rL 11, rL 12] [10, 11, 12] [0, 1, 2, 3, 4, 5, 6, 7, 8, 9] (fun i => [[0, 1], [0, 1], [0, 1], [0, 1], [0], [0], [0], [0], [0], [0], [], [], []].getD i []) (fun i => [[], [], [], [], [], [], [], [], [], [], rL 10, rL 11, rL 12].getD i []) (fun γ i => [Pt c, Pt c, Pt c, Pt e, Pt c, Pt c, .pointer (some ⟨c, 2, none⟩), .slice b.2.2.1 a.2.2.2.2.2.1.length b.2.2.2.1, .pointer (some ⟨e9, er + (0 : Int).toNat * 1, none⟩), Iv (a.2.2.2.2.2.1.getD (0 : Int).toNat (0 : Int)), str c5, Iv g.1, .tuple #[]].getD i undef) (fun j γ => [[obj e 97 [.map (some b.1), str a.2.1, Iv a.2.2.1, .bool a.2.2.2.1], obj c 91 [Pt e, Iv a.2.2.2.2.1, .slice b.2.2.1 a.2.2.2.2.2.1.length b.2.2.2.1, Iv a.2.2.2.2.2.2.1, Iv a.2.2.2.2.2.2.2.1, Iv a.2.2.2.2.2.2.2.2.1, Iv a.2.2.2.2.2.2.2.2.2.1, Iv a.2.2.2.2.2.2.2.2.2.2.1, Iv a.2.2.2.2.2.2.2.2.2.2.2.1, .slice b.2.2.2.2.2.1 a.2.2.2.2.2.2.2.2.2.2.2.2.1.length b.2.2.2.2.2.2, .bool a.2.2.2.2.2.2.2.2.2.2.2.2.2.1], obj q 36 [Pt c], obj t 3 [Iv m], obj u 3 [Iv a.2.2.2.2.2.2.2.2.2.2.2.2.2.2], ao (aj b.1 ap ak b.2.1) ai b.2.1 a.1, Row 3 1 b.2.2.1 a.2.2.2.2.2.1.length b.2.2.2.1 be.flatten, Row 144 5 b.2.2.2.2.2.1 a.2.2.2.2.2.2.2.2.2.2.2.2.1.length b.2.2.2.2.2.2 br.flatten, b.2.2.2.2.1, F], [obj e 97 [.map (some b.1), str a.2.1, Iv a.2.2.1, .bool a.2.2.2.1], obj c 91 [Pt e, Iv a.2.2.2.2.1, .slice b.2.2.1 a.2.2.2.2.2.1.length b.2.2.2.1, Iv a.2.2.2.2.2.2.1, Iv a.2.2.2.2.2.2.2.1, Iv a.2.2.2.2.2.2.2.2.1, Iv a.2.2.2.2.2.2.2.2.2.1, Iv a.2.2.2.2.2.2.2.2.2.2.1, Iv a.2.2.2.2.2.2.2.2.2.2.2.1, .slice b.2.2.2.2.2.1 a.2.2.2.2.2.2.2.2.2.2.2.2.1.length b.2.2.2.2.2.2, .bool a.2.2.2.2.2.2.2.2.2.2.2.2.2.1], obj q 36 [Pt c], obj t 3 [Iv m], obj u 3 [Iv a.2.2.2.2.2.2.2.2.2.2.2.2.2.2], ao (aj b.1 ap ak b.2.1) ai b.2.1 a.1, Row 3 1 b.2.2.1 a.2.2.2.2.2.1.length b.2.2.2.1 be.flatten, Row 144 5 b.2.2.2.2.2.1 a.2.2.2.2.2.2.2.2.2.2.2.2.1.length b.2.2.2.2.2.2 br.flatten, b.2.2.2.2.1, F], [obj e 97 [.map (some γ.1), str g.2.2.1, Iv g.2.2.2.1, .bool g.2.2.2.2], ao (aj γ.1 ap ak γ.2) ai γ.2 g.2.1, obj c 91 [Pt e, Iv a.2.2.2.2.1, .slice b.2.2.1 a.2.2.2.2.2.1.length b.2.2.2.1, Iv a.2.2.2.2.2.2.1, Iv a.2.2.2.2.2.2.2.1, Iv a.2.2.2.2.2.2.2.2.1, Iv a.2.2.2.2.2.2.2.2.2.1, Iv a.2.2.2.2.2.2.2.2.2.2.1, Iv a.2.2.2.2.2.2.2.2.2.2.2.1, .slice b.2.2.2.2.2.1 a.2.2.2.2.2.2.2.2.2.2.2.2.1.length b.2.2.2.2.2.2, .bool a.2.2.2.2.2.2.2.2.2.2.2.2.2.1], obj q 36 [Pt c], obj t 3 [Iv m], obj u 3 [Iv a.2.2.2.2.2.2.2.2.2.2.2.2.2.2], Row 3 1 b.2.2.1 a.2.2.2.2.2.1.length b.2.2.2.1 be.flatten, Row 144 5 b.2.2.2.2.2.1 a.2.2.2.2.2.2.2.2.2.2.2.2.1.length b.2.2.2.2.2.2 br.flatten, b.2.2.2.2.1, F], [obj e 97 [.map (some γ.1), str g.2.2.1, Iv g.2.2.2.1, .bool g.2.2.2.2], ao (aj γ.1 ap ak γ.2) ai γ.2 g.2.1, obj c 91 [Pt e, Iv a.2.2.2.2.1, .slice b.2.2.1 a.2.2.2.2.2.1.length b.2.2.2.1, Iv a.2.2.2.2.2.2.1, Iv a.2.2.2.2.2.2.2.1, Iv a.2.2.2.2.2.2.2.2.1, Iv a.2.2.2.2.2.2.2.2.2.1, Iv a.2.2.2.2.2.2.2.2.2.2.1, Iv a.2.2.2.2.2.2.2.2.2.2.2.1, .slice b.2.2.2.2.2.1 a.2.2.2.2.2.2.2.2.2.2.2.2.1.length b.2.2.2.2.2.2, .bool a.2.2.2.2.2.2.2.2.2.2.2.2.2.1], obj q 36 [Pt c], obj t 3 [Iv m], obj u 3 [Iv a.2.2.2.2.2.2.2.2.2.2.2.2.2.2], Row 3 1 b.2.2.1 a.2.2.2.2.2.1.length b.2.2.2.1 be.flatten, Row 144 5 b.2.2.2.2.2.1 a.2.2.2.2.2.2.2.2.2.2.2.2.1.length b.2.2.2.2.2.2 br.flatten, b.2.2.2.2.1, F]].getD j []) (fun γ => [(0, Pt q), (1, Pt t), (2, Pt u)]) mixed (by decide) (by decide) (by decide) (by decide) (by decide) (by decide) (by decide) 75 O (by decide) (by decide) (by decide) (Ent.refl _) ?_ ?_ (fun _ => ⟨O, O, O, trivial⟩) ?_
 exact (ac (fun γ => (ac (qp O O (.o (s := 0) O (by decide) .nil) (ag O O isAgg36 (.obj 2 O O)) O) (ac (qp O O (.o (s := 0) O (by decide) .nil) (ag O O isAgg36 (.obj 2 O O)) O) zA))) (ac (fun γ => (ac (qp O O (.v 0 O O .nil) (aW O O) O) (ac (qp O O (.v 0 O O .nil) (aW O O) O) zA))) (ac (fun γ => (ac (qp O O (.v 1 O O .nil) (ar O O underlying91 O O sizeOf39 O) O) (ac (qp O O (.v 1 O O .nil) (ar O O underlying91 O O sizeOf39 O) O) zA))) (ac (fun γ => (ac (qp O O (.v 2 O O .nil) (ag O O isAgg39 (.obj 1 O O)) O) (ac (qp O O (.v 2 O O .nil) (ag O O isAgg39 (.obj 1 O O)) O) zA))) (aq O (fun γ => qp O O (.o (s := 0) O (by decide) .nil) (ag O O isAgg36 (.obj 2 O O)) O) (aq O (fun γ => qp O O (.v 4 O O .nil) (aW O O) O) (aq O (fun γ => qp O O (.v 5 O O .nil) (ar O O underlying91 O O sizeOf78 O) O) (aq O (fun γ => qp O O (.v 6 O O .nil) (ag O O isAgg78 (.obj 1 O O)) O) (aq O (fun γ => qp O O (.v 7 O O .nil) (cP O O O es underlying78 sizeOf3 c8.1 c8.2) O) (aq O (fun γ => qp O O (.v 8 O O .nil) (ag O O isAgg3 (hcell81v 6 O 0 _ O)) O) zA))))))))))
 exact (ac (fun γ => eo (Z := Unit) (fun z => γ) O O (.v 9 O O .nil) (au (val := fun (r : Lb) (y : Unit) => str r) (B := fun _ _ => []) (vs := [Iv (a.2.2.2.2.2.1.getD (0 : Int).toNat (0 : Int))]) (cap := []) (A := []) (rst := [obj e 97 [.map (some b.1), str a.2.1, Iv a.2.2.1, .bool a.2.2.2.1], obj c 91 [Pt e, Iv a.2.2.2.2.1, .slice b.2.2.1 a.2.2.2.2.2.1.length b.2.2.2.1, Iv a.2.2.2.2.2.2.1, Iv a.2.2.2.2.2.2.2.1, Iv a.2.2.2.2.2.2.2.2.1, Iv a.2.2.2.2.2.2.2.2.2.1, Iv a.2.2.2.2.2.2.2.2.2.2.1, Iv a.2.2.2.2.2.2.2.2.2.2.2.1, .slice b.2.2.2.2.2.1 a.2.2.2.2.2.2.2.2.2.2.2.2.1.length b.2.2.2.2.2.2, .bool a.2.2.2.2.2.2.2.2.2.2.2.2.2.1], obj q 36 [Pt c], obj t 3 [Iv m], obj u 3 [Iv a.2.2.2.2.2.2.2.2.2.2.2.2.2.2], ao (aj b.1 ap ak b.2.1) ai b.2.1 a.1, Row 3 1 b.2.2.1 a.2.2.2.2.2.1.length b.2.2.2.1 be.flatten, Row 144 5 b.2.2.2.2.2.1 a.2.2.2.2.2.2.2.2.2.2.2.2.1.length b.2.2.2.2.2.2 br.flatten, b.2.2.2.2.1, F]) O O O O O O call47 (.s O (.s O (.s O (.s O (.s O (.s O (.s O (.s O (.s O (.s O .n)))))))))) (cm.calls _ _ k (a.2.2.2.2.2.1.getD (0 : Int).toNat (0 : Int)) (hgl.lend 9 O)) e0) (fun _ => ⟨O, O, O, O, O, O, O, O, O, O, trivial⟩) (fun _ => .inr O) (fun z => Ent.refl _)) (ac (fun γ => eo (Z := Nat × Kps) (fun z => z) O O (.v 3 O O (.v 10 O O .nil)) (au (vs := [Pt e, str c5]) (cap := []) (A := [obj e 97 [.map (some b.1), str a.2.1, Iv a.2.2.1, .bool a.2.2.2.1], ao (aj b.1 ap ak b.2.1) ai b.2.1 a.1]) (rst := [obj c 91 [Pt e, Iv a.2.2.2.2.1, .slice b.2.2.1 a.2.2.2.2.2.1.length b.2.2.2.1, Iv a.2.2.2.2.2.2.1, Iv a.2.2.2.2.2.2.2.1, Iv a.2.2.2.2.2.2.2.2.1, Iv a.2.2.2.2.2.2.2.2.2.1, Iv a.2.2.2.2.2.2.2.2.2.2.1, Iv a.2.2.2.2.2.2.2.2.2.2.2.1, .slice b.2.2.2.2.2.1 a.2.2.2.2.2.2.2.2.2.2.2.2.1.length b.2.2.2.2.2.2, .bool a.2.2.2.2.2.2.2.2.2.2.2.2.2.1], obj q 36 [Pt c], obj t 3 [Iv m], obj u 3 [Iv a.2.2.2.2.2.2.2.2.2.2.2.2.2.2], Row 3 1 b.2.2.1 a.2.2.2.2.2.1.length b.2.2.2.1 be.flatten, Row 144 5 b.2.2.2.2.2.1 a.2.2.2.2.2.2.2.2.2.2.2.2.1.length b.2.2.2.2.2.2 br.flatten, b.2.2.2.2.1, F]) O O O O O O call64 (.s O (.sel 4 O (.s O (.s O (.s O (.s O (.s O (.s O (.s O (.s O .n)))))))))) (dL.calls _ _ e b.1 b.2.1 a.1 a.2.1 a.2.2.1 a.2.2.2.1 c5 ) e1) (fun _ => ⟨O, O, O, O, O, O, O, O, O, O, O, trivial⟩) (fun _ => .inr O) (fun z => Ent.refl _)) (ac (fun γ => eo (Z := Unit) (fun z => γ) O O (.v 11 O O .nil) (au (vs := [Iv g.1]) (cap := []) (A := []) (rst := [obj e 97 [.map (some γ.1), str g.2.2.1, Iv g.2.2.2.1, .bool g.2.2.2.2], ao (aj γ.1 ap ak γ.2) ai γ.2 g.2.1, obj c 91 [Pt e, Iv a.2.2.2.2.1, .slice b.2.2.1 a.2.2.2.2.2.1.length b.2.2.2.1, Iv a.2.2.2.2.2.2.1, Iv a.2.2.2.2.2.2.2.1, Iv a.2.2.2.2.2.2.2.2.1, Iv a.2.2.2.2.2.2.2.2.2.1, Iv a.2.2.2.2.2.2.2.2.2.2.1, Iv a.2.2.2.2.2.2.2.2.2.2.2.1, .slice b.2.2.2.2.2.1 a.2.2.2.2.2.2.2.2.2.2.2.2.1.length b.2.2.2.2.2.2, .bool a.2.2.2.2.2.2.2.2.2.2.2.2.2.1], obj q 36 [Pt c], obj t 3 [Iv m], obj u 3 [Iv a.2.2.2.2.2.2.2.2.2.2.2.2.2.2], Row 3 1 b.2.2.1 a.2.2.2.2.2.1.length b.2.2.2.1 be.flatten, Row 144 5 b.2.2.2.2.2.1 a.2.2.2.2.2.2.2.2.2.2.2.2.1.length b.2.2.2.2.2.2 br.flatten, b.2.2.2.2.1, F]) O O O O O O call43 (.s O (.s O (.s O (.s O (.s O (.s O (.s O (.s O (.s O (.s O .n)))))))))) (bz.calls _ _ g.1 ) e2) (fun _ => ⟨O, O, O, O, O, O, O, O, O, O, O, O, trivial⟩) (fun _ => .inr O) (fun z => Ent.refl _)) zA)))
 intro ab
 refine aa (ay (cN (fun c9 => (gv 6 O c0 O (i := (0 : Int).toNat) (by omega) (0 : Int) (fun fn e3 hh e4 e5 go hcell99v => ?_)))))
 obtain rfl := e5
 refine bo (fun d d3 => ?_)
 refine bh (Γ := (Option Addr × Nat × Option Addr × Nat × HA)) (none, 0, none, 0, tt) [[], [0], [0, 1], [], [3], [3, 4], [3, 4, 5], [3, 4, 5, 6], [3, 4, 5, 6, 7], rL 9] [9] [0, 1, 2, 3, 4, 5, 6, 7, 8] (fun i => [[0], [0], [0], [0], [0], [0], [0], [0], [0], []].getD i []) (fun i => [[], [], [], [], [], [], [], [], [], rL 9].getD i []) (fun γ i => [Pt c, Pt c, .pointer (some ⟨c, 4, none⟩), Pt c, Pt c, .pointer (some ⟨c, 2, none⟩), .slice b.2.2.1 a.2.2.2.2.2.1.length b.2.2.2.1, .pointer (some ⟨fn, e3 + (0 : Int).toNat * 1, none⟩), Iv (a.2.2.2.2.2.1.getD (0 : Int).toNat (0 : Int)), .tuple #[]].getD i undef) (fun j γ => [[obj e 97 [.map (some ab.1), str g.2.2.1, Iv g.2.2.2.1, .bool g.2.2.2.2], ao (aj ab.1 ap ak ab.2) ai ab.2 g.2.1, obj c 91 [Pt e, Iv a.2.2.2.2.1, .slice b.2.2.1 a.2.2.2.2.2.1.length b.2.2.2.1, Iv a.2.2.2.2.2.2.1, Iv a.2.2.2.2.2.2.2.1, Iv a.2.2.2.2.2.2.2.2.1, Iv a.2.2.2.2.2.2.2.2.2.1, Iv a.2.2.2.2.2.2.2.2.2.2.1, Iv a.2.2.2.2.2.2.2.2.2.2.2.1, .slice b.2.2.2.2.2.1 a.2.2.2.2.2.2.2.2.2.2.2.2.1.length b.2.2.2.2.2.2, .bool a.2.2.2.2.2.2.2.2.2.2.2.2.2.1], obj q 36 [Pt c], obj t 3 [Iv m], obj u 3 [Iv a.2.2.2.2.2.2.2.2.2.2.2.2.2.2], Row 3 1 b.2.2.1 a.2.2.2.2.2.1.length b.2.2.2.1 be.flatten, Row 144 5 b.2.2.2.2.2.1 a.2.2.2.2.2.2.2.2.2.2.2.2.1.length b.2.2.2.2.2.2 br.flatten, b.2.2.2.2.1, F], [obj e 97 [.map (some ab.1), str g.2.2.1, Iv g.2.2.2.1, .bool g.2.2.2.2], ao (aj ab.1 ap ak ab.2) ai ab.2 g.2.1, obj c 91 [Pt e, Iv d.1, .slice γ.1 d.2.1.length γ.2.1, Iv d.2.2.1, Iv d.2.2.2.1, Iv d.2.2.2.2.1, Iv d.2.2.2.2.2.1, Iv d.2.2.2.2.2.2.1, Iv d.2.2.2.2.2.2.2.1, .slice γ.2.2.1 d.2.2.2.2.2.2.2.2.1.length γ.2.2.2.1, .bool d.2.2.2.2.2.2.2.2.2], am 3 1 (V3 tt) γ.1 d.2.1 γ.2.1, am 144 5 (aM (γ.2.2.2.2)) γ.2.2.1 d.2.2.2.2.2.2.2.2.1 γ.2.2.2.1, γ.2.2.2.2, obj q 36 [Pt c], obj t 3 [Iv m], obj u 3 [Iv a.2.2.2.2.2.2.2.2.2.2.2.2.2.2], F]].getD j []) (fun γ => [(0, Pt q), (1, Pt t), (2, Pt u)]) mixed (by decide) (by decide) (by decide) (by decide) (by decide) (by decide) (by decide) 75 O (by decide) (by decide) (by decide) (Ent.refl _) ?_ ?_ (fun _ => ⟨O, O, O, trivial⟩) ?_
 exact (aq O (fun γ => qp O O (.o (s := 0) O (by decide) .nil) (ag O O isAgg36 (.obj 3 O O)) O) (aq O (fun γ => qp O O (.v 0 O O .nil) (aW O O) O) (aq O (fun γ => qp O O (.v 1 O O .nil) (ar O O underlying91 O O sizeOf89 O) O) (aq O (fun γ => qp O O (.o (s := 0) O (by decide) .nil) (ag O O isAgg36 (.obj 3 O O)) O) (aq O (fun γ => qp O O (.v 3 O O .nil) (aW O O) O) (aq O (fun γ => qp O O (.v 4 O O .nil) (ar O O underlying91 O O sizeOf78 O) O) (aq O (fun γ => qp O O (.v 5 O O .nil) (ag O O isAgg78 (.obj 2 O O)) O) (aq O (fun γ => qp O O (.v 6 O O .nil) (cP O O O e4 underlying78 sizeOf3 c9.1 c9.2) O) (aq O (fun γ => qp O O (.v 7 O O .nil) (ag O O isAgg3 (hcell99v 6 O 0 _ O)) O) zA)))))))))
 exact (ac (fun γ => eo (Z := Option Addr × Nat × Option Addr × Nat × HA) (fun z => z) O O (.v 2 O O (.v 8 O O .nil)) (au (vs := [.pointer (some ⟨c, 4, none⟩), Iv (a.2.2.2.2.2.1.getD (0 : Int).toNat (0 : Int))]) (cap := []) (A := [obj e 97 [.map (some ab.1), str g.2.2.1, Iv g.2.2.2.1, .bool g.2.2.2.2], ao (aj ab.1 ap ak ab.2) ai ab.2 g.2.1, obj c 91 [Pt e, Iv a.2.2.2.2.1, .slice b.2.2.1 a.2.2.2.2.2.1.length b.2.2.2.1, Iv a.2.2.2.2.2.2.1, Iv a.2.2.2.2.2.2.2.1, Iv a.2.2.2.2.2.2.2.2.1, Iv a.2.2.2.2.2.2.2.2.2.1, Iv a.2.2.2.2.2.2.2.2.2.2.1, Iv a.2.2.2.2.2.2.2.2.2.2.2.1, .slice b.2.2.2.2.2.1 a.2.2.2.2.2.2.2.2.2.2.2.2.1.length b.2.2.2.2.2.2, .bool a.2.2.2.2.2.2.2.2.2.2.2.2.2.1], am 3 1 (V3 tt) b.2.2.1 a.2.2.2.2.2.1 b.2.2.2.1, am 144 5 (aM (b.2.2.2.2.1)) b.2.2.2.2.2.1 a.2.2.2.2.2.2.2.2.2.2.2.2.1 b.2.2.2.2.2.2, b.2.2.2.2.1]) (rst := [obj q 36 [Pt c], obj t 3 [Iv m], obj u 3 [Iv a.2.2.2.2.2.2.2.2.2.2.2.2.2.2], F]) O O O O O O call65 (.s O (.s O (.s O (.sel' 3 O (am.mk c0) (.sel' 3 O (am.mk en) (.sel 3 O (.s O (.s O (.s O (.s O .n)))))))))) (ci.calls _ _ k c e ab.1 ab.2 g.2.1 g.2.2.1 g.2.2.2.1 g.2.2.2.2 a.2.2.2.2.1 b.2.2.1 b.2.2.2.1 a.2.2.2.2.2.1 a.2.2.2.2.2.2.1 a.2.2.2.2.2.2.2.1 a.2.2.2.2.2.2.2.2.1 a.2.2.2.2.2.2.2.2.2.1 a.2.2.2.2.2.2.2.2.2.2.1 a.2.2.2.2.2.2.2.2.2.2.2.1 b.2.2.2.2.2.1 b.2.2.2.2.2.2 a.2.2.2.2.2.2.2.2.2.2.2.2.1 b.2.2.2.2.1 a.2.2.2.2.2.2.2.2.2.2.2.2.2.1 (a.2.2.2.2.2.1.getD (0 : Int).toNat (0 : Int)) ) d3) (fun _ => ⟨O, O, O, O, O, O, O, O, O, trivial⟩) (fun _ => .inr O) (fun z => Ent.refl _)) zA)
 intro ad
 refine aa (ay (bm 3 O (fun d4 c1 => (bm 4 O (fun c2 d5 => (ir 3 O (fun d6 b8 gs gy => (cN (fun b9 => ?_)))))))))
 obtain ⟨b6, b7, c3, g0, g1, g2⟩ := hQ (lo := (1 : Int)) (hi := (d.2.1.length : Int)) (Rd.asV c1 d6) b8 b9
 refine bh (Γ := Unit) () [[], [], [1], [1, 2], [1, 2, 3], [1, 2, 3, 4], rL 6, rL 7, rL 8] [8] [0, 1, 2, 3, 4, 5, 6, 7] (fun i => [[0], [0], [0], [0], [0], [0], [0], [0], []].getD i []) (fun i => [[], [], [], [], [], [], [], [], rL 8].getD i []) (fun γ i => [Pt c, Pt c, Pt c, .pointer (some ⟨c, 2, none⟩), .slice ad.1 d.2.1.length ad.2.1, .slice b6 ((cut d.2.1 (1 : Int) (d.2.1.length : Int)).length) b7, Pt c, .pointer (some ⟨c, 2, none⟩), undef].getD i undef) (fun j γ => [[obj e 97 [.map (some ab.1), str g.2.2.1, Iv g.2.2.2.1, .bool g.2.2.2.2], ao (aj ab.1 ap ak ab.2) ai ab.2 g.2.1, obj c 91 [Pt e, Iv d.1, .slice ad.1 d.2.1.length ad.2.1, Iv d.2.2.1, Iv d.2.2.2.1, Iv d.2.2.2.2.1, Iv d.2.2.2.2.2.1, Iv d.2.2.2.2.2.2.1, Iv d.2.2.2.2.2.2.2.1, .slice ad.2.2.1 d.2.2.2.2.2.2.2.2.1.length ad.2.2.2.1, .bool d.2.2.2.2.2.2.2.2.2], Row 3 1 ad.1 d.2.1.length ad.2.1 d4.flatten, Row 144 5 ad.2.2.1 d.2.2.2.2.2.2.2.2.1.length ad.2.2.2.1 c2.flatten, ad.2.2.2.2, obj q 36 [Pt c], obj t 3 [Iv m], obj u 3 [Iv a.2.2.2.2.2.2.2.2.2.2.2.2.2.2], F], [obj e 97 [.map (some ab.1), str g.2.2.1, Iv g.2.2.2.1, .bool g.2.2.2.2], ao (aj ab.1 ap ak ab.2) ai ab.2 g.2.1, obj c 91 [Pt e, Iv d.1, .slice b6 ((cut d.2.1 (1 : Int) (d.2.1.length : Int)).length) b7, Iv d.2.2.1, Iv d.2.2.2.1, Iv d.2.2.2.2.1, Iv d.2.2.2.2.2.1, Iv d.2.2.2.2.2.2.1, Iv d.2.2.2.2.2.2.2.1, .slice ad.2.2.1 d.2.2.2.2.2.2.2.2.1.length ad.2.2.2.1, .bool d.2.2.2.2.2.2.2.2.2], am 3 1 (V3 tt) b6 (cut d.2.1 (1 : Int) (d.2.1.length : Int)) b7, Row 144 5 ad.2.2.1 d.2.2.2.2.2.2.2.2.1.length ad.2.2.2.1 c2.flatten, ad.2.2.2.2, obj q 36 [Pt c], obj t 3 [Iv m], obj u 3 [Iv a.2.2.2.2.2.2.2.2.2.2.2.2.2.2], F]].getD j []) (fun γ => [(0, Pt q), (1, Pt t), (2, Pt u)]) mixed (by decide) (by decide) (by decide) (by decide) (by decide) (by decide) (by decide) 75 O (by decide) (by decide) (by decide) (Ent.refl _) ?_ ?_ (fun _ => ⟨O, O, O, trivial⟩) ?_
 exact (aq O (fun γ => qp O O (.o (s := 0) O (by decide) .nil) (ag O O isAgg36 (.obj 6 O O)) O) (aq O (fun γ => qp O O (.o (s := 0) O (by decide) .nil) (ag O O isAgg36 (.obj 6 O O)) O) (aq O (fun γ => qp O O (.v 1 O O .nil) (aW O O) O) (aq O (fun γ => qp O O (.v 2 O O .nil) (ar O O underlying91 O O sizeOf78 O) O) (aq O (fun γ => qp O O (.v 3 O O .nil) (ag O O isAgg78 (.obj 2 O O)) O) (aq O (fun γ => qp O O (.v 4 O O .nil) (gr (l := d.2.1) (lo' := (1 : Int)) (hi' := (d.2.1.length : Int)) O O O O underlying78 sizeOf3 (.inl ⟨O, O⟩) (.inr ⟨_, O⟩) b9 b8 c3) O) (aq O (fun γ => qp O O (.v 0 O O .nil) (aW O O) O) (aq O (fun γ => qp O O (.v 6 O O .nil) (ar O O underlying91 O O sizeOf78 O) O) zA))))))))
 exact (ac (fun γ => eo (Z := Unit) (fun z => ()) O O (.v 5 O O (.v 7 O O .nil)) (RE.ent (Ent.cutV 3 O c1 c3 b9 b8) (aL 2 O O O sizeOf78 O O (aS (by rfl)) O O)) (fun _ => ⟨O, O, O, O, O, O, O, O, trivial⟩) (fun _ => .inl O) (fun z => Ent.refl _)) zA)
 intro g5
 refine aa (aK (vq (ag O O isAgg3 (.obj 8 O O)) O (vq (ca O O O) O (bf (aL 8 O O O sizeOf3 O O (aS (by rfl)) O O) O O ?_))))
 intro _
 refine ae (bq ?_)
 exact bV (s := (g.2.1, g.2.2.1, g.2.2.2.1, g.2.2.2.2, d.1, cut d.2.1 (1 : Int) (d.2.1.length : Int), d.2.2.1, d.2.2.2.1, d.2.2.2.2.1, d.2.2.2.2.2.1, d.2.2.2.2.2.2.1, d.2.2.2.2.2.2.2.1, d.2.2.2.2.2.2.2.2.1, d.2.2.2.2.2.2.2.2.2, IntKind.i64.wrap (a.2.2.2.2.2.2.2.2.2.2.2.2.2.2 + 1))) (ab.1, ab.2, b6, b7, ad.2.2.2.2, ad.2.2.1, ad.2.2.2.1) ⟨O, O, O, trivial⟩ (.s O (.sel 1 O (.sel 4 O (.sel 4 O (.sel 4 O (.s O (.s O (.sel' 0 O (am.mk d5) (.s O (.s O .n))))))))))
 refine cL (cp (cw (cq ?_)))
 exact fm (b.1, b.2.1, b.2.2.1, b.2.2.2.1, b.2.2.2.2.2.1, b.2.2.2.2.2.2, b.2.2.2.2.1) O O O (.s O (.sel 4 O (.s O (.sel 3 O (.sel 3 O (.sel 3 O (.s O (.s O (.s O (.s O .n))))))))))

def cJ.f (k : Nat) (c : List ((List UInt8) × (List UInt8 × Int))) (d : List UInt8) (e : Int) (g : Bool) (h : Int) (i : List Int) (j : Int) (l : Int) (m : Int) (n : Int) (o : Int) (p : Int) (q : List (aF)) (b : Bool) (r : Int) (s : Int) : Option (Int × (List ((List UInt8) × (List UInt8 × Int))) × List UInt8 × Int × Bool × Int × List Int × Int × Int × Int × Int × Int × Int × (List (aF)) × Bool × Int) := (bY.f k c d e g h i j l m n o p q b r s).bind fun a => (some (0, a.1, a.2.1, a.2.2.1, a.2.2.2.1, a.2.2.2.2.1, a.2.2.2.2.2.1, a.2.2.2.2.2.2.1, a.2.2.2.2.2.2.2.1, a.2.2.2.2.2.2.2.2.1, a.2.2.2.2.2.2.2.2.2.1, a.2.2.2.2.2.2.2.2.2.2.1, a.2.2.2.2.2.2.2.2.2.2.2.1, a.2.2.2.2.2.2.2.2.2.2.2.2.1, a.2.2.2.2.2.2.2.2.2.2.2.2.2.1, a.2.2.2.2.2.2.2.2.2.2.2.2.2.2))
theorem cJ.calls (W : World) (F : HA) (k : Nat) (c : Nat) (af : Nat) (d : Nat) (e : Kps) (o : List (Lb × (Lb × Int))) (p : Lb) (q : Int) (s : Bool) (t : Int) (g : Option Addr) (h : Nat) (a : List Int) (u : Int) (v : Int) (w : Int) (x : Int) (z : Int) (ab : Int) (i : Option Addr) (j : Nat) (b : List (aF)) (l : HA) (m : Bool) (an : Nat) (az : Nat) (n : Int) (a0 : Nat) (ad : Int) (hgl : Glb Tryz.prog F) :
    Fn Tryz.prog W 49 [Pt c, .func (.func 62) #[] #[Pt an, Pt az, Pt a0]] [obj af 97 [.map (some d), str p, Iv q, .bool s], ao (aj d ap ak e) ai e o, obj c 91 [Pt af, Iv t, .slice g a.length h, Iv u, Iv v, Iv w, Iv x, Iv z, Iv ab, .slice i b.length j, .bool m], am 3 1 (V3 tt) g a h, am 144 5 (aM l) i b j, l, obj an 36 [Pt c], obj az 3 [Iv n], obj a0 3 [Iv ad]] F (cJ.f k o p q s t a u v w x z ab b m n ad) (fun (r : Int × (List (Lb × (Lb × Int))) × Lb × Int × Bool × Int × List Int × Int × Int × Int × Int × Int × Int × (List (aF)) × Bool × Int) (y : Nat × Kps × Option Addr × Nat × Option Addr × Nat × HA) => Iv r.1) (fun r y => [obj af 97 [.map (some y.1), str r.2.2.1, Iv r.2.2.2.1, .bool r.q4.1], ao (aj y.1 ap ak y.2.1) ai y.2.1 r.2.1, obj c 91 [Pt af, Iv r.q4.2.1, .slice y.2.2.1 r.q4.2.2.1.length y.2.2.2.1, Iv r.q4.2.2.2.1, Iv r.q8.1, Iv r.q8.2.1, Iv r.q8.2.2.1, Iv r.q8.2.2.2.1, Iv r.q8.q4.1, .slice y.q4.1 r.q8.q4.2.1.length y.q4.2.1, .bool r.q8.q4.2.2.1], am 3 1 (V3 tt) y.2.2.1 r.q4.2.2.1 y.2.2.2.1, am 144 5 (aM (y.q4.2.2)) y.q4.1 r.q8.q4.2.1 y.q4.2.1, y.q4.2.2, obj an 36 [Pt c], obj az 3 [Iv n], obj a0 3 [Iv r.q8.q4.2.2.2]]) := by
 unfold cJ.f
 refine kj 8 Tryz.func49 O Tryz.ntmps49 O (sr (ah (cl O O O) O O O ?_))
 intro a2
 refine ah (cn O zeroValue23 O) O O O ?_
 intro a1
 refine nx (vq (gl O O O) O (jI (cap := [Pt a2, Pt a1]) O O O O O O O (nx (vm O O (bg 5 O (fun a6 a3 => (bg 6 O (fun a7 a4 => (av (fun a8 a5 => (ah (au (vs := []) (cap := [Pt an, Pt az, Pt a0]) (A := [obj af 97 [.map (some d), str p, Iv q, .bool s], ao (aj d ap ak e) ai e o, obj c 91 [Pt af, Iv t, .slice g a.length h, Iv u, Iv v, Iv w, Iv x, Iv z, Iv ab, .slice i b.length j, .bool m], am 3 1 (V3 tt) g a h, am 144 5 (aM l) i b j, l, obj an 36 [Pt c], obj az 3 [Iv n], obj a0 3 [Iv ad]]) (rst := [obj a1 23 [Iv 0], obj a2 36 [Pt c], F]) O O O O O O call62 (.sel 2 O (.sel 2 O (.sel 2 O (.sel' 2 O (am.mk a3) (.sel' 2 O (am.mk a4) (.sel 2 O (.sel 2 O (.sel 2 O (.sel 2 O (.s O (.s O (.s O .n)))))))))))) (bY.calls _ _ k an c af d e o p q s t g h a u v w x z ab i j b l m az n a0 ad (hgl.lend 2 O)) a5) O O O ?_)))))))))))
 intro al
 refine nx (bf (aL 9 O O O sizeOf23 O O (aS (by rfl)) O O) O O ?_)
 intro _
 refine ae (aa (aA ?_))
 exact ka (vs := [Iv 0]) 81 [Pt a2, Pt a1] (ic.quiet a2 a1) call81 (al.1, al.2.1, al.2.2.1, al.2.2.2.1, al.q4.1, al.q4.2.1, al.q4.2.2) O ⟨⟨a1, O, fw isAgg23 (.obj 9 O O)⟩, trivial⟩ O (.s O (.s O (.s O (.s O (.s O (.s O (.s O (.s O (.s O (.sel 2 O .n))))))))))

def ej.f (k : Nat) (c : List ((List UInt8) × (List UInt8 × Int))) (d : List UInt8) (e : Int) (g : Bool) (h : Int) (i : List Int) (j : Int) (l : Int) (m : Int) (n : Int) (o : Int) (p : Int) (q : List (aF)) (b : Bool) (x1 : Int) : Option (Int × Int × (List ((List UInt8) × (List UInt8 × Int))) × List UInt8 × Int × Bool × Int × List Int × Int × Int × Int × Int × Int × Int × (List (aF)) × Bool) := if b = true then (some (0, 11, c, d, e, g, h, i, j, l, m, n, o, p, q, b)) else ((cg.f c d e g h i j l m n o p q b).bind fun r => (if ((decide (x1 < (0 : Int))) || (decide (r.1 < x1))) = true then (some (0, 1, c, d, e, g, h, i, j, l, m, n, o, p, q, b)) else ((cJ.f k c d e g h i j l m n o p q b x1 (0 : Int)).bind fun a => (if a.1 = (0 : Int) then (some (a.2.2.2.2.2.2.2.2.2.2.2.2.2.2.2, 0, a.2.1, a.2.2.1, a.2.2.2.1, a.2.2.2.2.1, a.2.2.2.2.2.1, a.2.2.2.2.2.2.1, a.2.2.2.2.2.2.2.1, a.2.2.2.2.2.2.2.2.1, a.2.2.2.2.2.2.2.2.2.1, a.2.2.2.2.2.2.2.2.2.2.1, a.2.2.2.2.2.2.2.2.2.2.2.1, a.2.2.2.2.2.2.2.2.2.2.2.2.1, a.2.2.2.2.2.2.2.2.2.2.2.2.2.1, a.2.2.2.2.2.2.2.2.2.2.2.2.2.2.1)) else (some (0, a.1, a.2.1, a.2.2.1, a.2.2.2.1, a.2.2.2.2.1, a.2.2.2.2.2.1, a.2.2.2.2.2.2.1, a.2.2.2.2.2.2.2.1, a.2.2.2.2.2.2.2.2.1, a.2.2.2.2.2.2.2.2.2.1, a.2.2.2.2.2.2.2.2.2.2.1, a.2.2.2.2.2.2.2.2.2.2.2.1, a.2.2.2.2.2.2.2.2.2.2.2.2.1, a.2.2.2.2.2.2.2.2.2.2.2.2.2.1, a.2.2.2.2.2.2.2.2.2.2.2.2.2.2.1))))))
theorem ej.calls (W : World) (F : HA) (k : Nat) (p : Nat) (al : Nat) (c : Nat) (d : Kps) (q : List (Lb × (Lb × Int))) (s : Lb) (t : Int) (u : Bool) (v : Int) (e : Option Addr) (g : Nat) (l : List Int) (w : Int) (x : Int) (z : Int) (ab : Int) (ad : Int) (af : Int) (i : Option Addr) (j : Nat) (m : List (aF)) (n : HA) (o : Bool) (x1 : Int) (hgl : Glb Tryz.prog F) :
    Fn Tryz.prog W 24 [Pt p, Iv x1] [obj al 97 [.map (some c), str s, Iv t, .bool u], ao (aj c ap ak d) ai d q, obj p 91 [Pt al, Iv v, .slice e l.length g, Iv w, Iv x, Iv z, Iv ab, Iv ad, Iv af, .slice i m.length j, .bool o], am 3 1 (V3 tt) e l g, am 144 5 (aM n) i m j, n] F (ej.f k q s t u v l w x z ab ad af m o x1) (fun (r : Int × Int × (List (Lb × (Lb × Int))) × Lb × Int × Bool × Int × List Int × Int × Int × Int × Int × Int × Int × (List (aF)) × Bool) (y : Nat × Kps × Option Addr × Nat × Option Addr × Nat × HA) => .tuple #[Iv r.1, Iv r.2.1]) (fun r y => [obj al 97 [.map (some y.1), str r.2.2.2.1, Iv r.q4.1, .bool r.q4.2.1], ao (aj y.1 ap ak y.2.1) ai y.2.1 r.2.2.1, obj p 91 [Pt al, Iv r.q4.2.2.1, .slice y.2.2.1 r.q4.2.2.2.1.length y.2.2.2.1, Iv r.q8.1, Iv r.q8.2.1, Iv r.q8.2.2.1, Iv r.q8.2.2.2.1, Iv r.q8.q4.1, Iv r.q8.q4.2.1, .slice y.q4.1 r.q8.q4.2.2.1.length y.q4.2.1, .bool r.q8.q4.2.2.2], am 3 1 (V3 tt) y.2.2.1 r.q4.2.2.2.1 y.2.2.2.1, am 144 5 (aM (y.q4.2.2)) y.q4.1 r.q8.q4.2.2.1 y.q4.2.1, y.q4.2.2]) := by
 unfold ej.f
 refine aO 35 Tryz.func24 O Tryz.ntmps24 O (sr (ah (cl O O O) O O O ?_))
 intro a2
 refine ah (cl O O O) O O O ?_
 intro an
 refine va O O (va O O (ae (aa (ay (sr (vq (ag O O isAgg36 (.obj 1 O O)) O (vn O O (vq (ar O O underlying91 O O sizeOf4 O) O (vq (ag O O isAgg4 (.obj 4 O O)) O (ae (aa ?_)))))))))))
 refine aX O (fun b9 => ?_) (fun cd => ?_)
 refine sr (va O O (va O O (ae (aa (aA (aN ?_))))))
 exact aE (c, d, e, g, i, j, n) O O O (.sel 2 O (.sel 2 O (.sel 2 O (.sel 2 O (.sel 2 O (.sel 2 O (.sel 2 O .n)))))))
 refine aB (aa (sr (vq (ag O O isAgg36 (.obj 1 O O)) O (vn O O (vq (ar O O underlying91 O O sizeOf89 O) O (bg 5 O (fun be az => (bg 6 O (fun br a0 => (av (fun a4 a5 => (bj 5 O (fun bs a6 a7 bt => (bj 6 O (fun a8 a9 bc b0 => (ah (au (vs := [.pointer (some ⟨p, 4, none⟩)]) (cap := []) (A := [obj al 97 [.map (some c), str s, Iv t, .bool u], ao (aj c ap ak d) ai d q, obj p 91 [Pt al, Iv v, .slice e l.length g, Iv w, Iv x, Iv z, Iv ab, Iv ad, Iv af, .slice i m.length j, .bool o]]) (rst := [obj an 3 [Iv x1], obj a2 36 [Pt p], Row 3 1 e l.length g be.flatten, Row 144 5 i m.length j br.flatten, n, F]) O O O O O O call61 (.sel 2 O (.sel 2 O (.sel 2 O (.s O (.s O (.s O (.s O (.s O (.s O .n))))))))) (cg.calls _ _ p al c d q s t u v e g l w x z ab ad af i j m o ((Rd.asV az bs).up (Up.lend 2 O) (fun _ _ h => h)) a6 a7 ((Rd.asV a0 a8).up (Up.lend 3 O) (aM.up (Up.lend 4 O))) a9 bc) a5) O O O ?_))))))))))))))))
 intro b3
 refine vm O O (vq (bF O O O) O (vq (bF O O O) O (va O O (va O O (ae (aa (ay (sr (vq (ag O O isAgg3 (.obj 3 O O)) O (vq (cD O O O) O (vm O O (aw (b := decide (x1 < (0 : Int))) (fun b1 => RQ.sub (E' := [(3, Pt an)]) ⟨O, trivial⟩ (ag O O isAgg3 (.obj 3 O O))) O O O O O (aw (b := decide (x1 < (0 : Int))) (fun b2 => RQ.sub (E' := [(6, Iv a4.1)]) ⟨O, trivial⟩ (aY O O)) O O O O O (aw (b := decide (x1 < (0 : Int))) (fun a3 => RQ.sub (E' := [(24, Iv x1), (25, Iv a4.1)]) ⟨aH O a3, aH O a3, trivial⟩ (cC O O O)) O O O O O (vq (fb O O O) O (ae (aa ?_)))))))))))))))))
 refine aX O (fun b4 => ?_) (fun b5 => ?_)
 refine sr (va O O (va O O (ae (aa (aA (aN ?_))))))
 exact aE (c, d, e, g, i, j, n) O O O (.s O (.s O (.s O (.sel' 2 O (am.mk az) (.sel' 2 O (am.mk a0) (.sel 2 O (.sel 2 O .n)))))))
 refine aB (aa (sr (ah (cn O zeroValue3 O) O O O ?_)))
 intro a1
 refine bf (aL 0 O O O sizeOf3 O O (aS (by rfl)) O O) O O ?_
 intro _
 refine nx (vq (ag O O isAgg36 (.obj 5 O O)) O (vq (gl O O O) O (av (fun b6 bd => (ah (au (vs := [Pt p, .func (.func 62) #[] #[Pt a2, Pt an, Pt a1]]) (cap := []) (A := [obj al 97 [.map (some c), str s, Iv t, .bool u], ao (aj c ap ak d) ai d q, obj p 91 [Pt al, Iv v, .slice e l.length g, Iv w, Iv x, Iv z, Iv ab, Iv ad, Iv af, .slice i m.length j, .bool o], am 3 1 (V3 tt) e l g, am 144 5 (aM n) i m j, n, obj a2 36 [Pt p], obj an 3 [Iv x1], obj a1 3 [Iv 0]]) (rst := [F]) O O O O O O call49 (.sel 1 O (.sel 1 O (.sel 1 O (.sel' 3 O (am.mk az) (.sel' 3 O (am.mk a0) (.sel 3 O (.sel 2 O (.sel 1 O (.s O (.s O .n)))))))))) (cJ.calls _ _ k p al c d q s t u v e g l w x z ab ad af i j m n o a2 an x1 a1 (0 : Int) (hgl.lend 0 O)) bd) O O O ?_)))))
 intro a
 refine va O O (ae (aa (ay (sr (vm O O (vq (cS O O O) O (ae (aa ?_))))))))
 refine di O (fun b7 => ?_) (fun b8 => ?_)
 refine aB (aa (sr (vq (ag O O isAgg3 (.obj 8 O O)) O (va O O (va O O (ae (aa (aA ?_))))))))
 exact aE (a.1, a.2.1, a.2.2.1, a.2.2.2.1, a.q4.1, a.q4.2.1, a.q4.2.2) O O O (.s O (.s O (.s O (.s O (.s O (.s O (.sel 3 O .n)))))))
 refine sr (vm O O (va O O (va O O (ae (aa (aA (aN ?_)))))))
 exact aE (a.1, a.2.1, a.2.2.1, a.2.2.2.1, a.q4.1, a.q4.2.1, a.q4.2.2) O O O (.s O (.s O (.s O (.s O (.s O (.s O (.sel 3 O .n)))))))
end Go.Proofs.YtndjkejhacfpdaaGreatDoor

namespace Go.Proofs.YtndjkejhacfpdaaGreatDoor
open Go.RowKit _root_.Go.Proofs.Tryz
set_option maxRecDepth 20000
set_option maxHeartbeats 20000000
def bl.l1 (x0 : Int) (d : (List ((List UInt8) × (List UInt8 × Int))) × List UInt8 × Int × Bool × Int × List Int × Int × Int × Int × Int × Int × Int × (List (aF)) × Bool) (b : List (List UInt8)) : Nat → Int → Int → Int → Option ((Int) ⊕ (((List ((List UInt8) × (List UInt8 × Int))) × List UInt8 × Int × Bool × Int × List Int × Int × Int × Int × Int × Int × Int × (List (aF)) × Bool) ⊕ (((List ((List UInt8) × (List UInt8 × Int))) × List UInt8 × Int × Bool) ⊕ (Bool))))
  | 0, _, _, _ => none
  | k + 1, g, i, a => if a < (b.length : Int) then (if 0 ≤ a ∧ a < (b.length : Int) then ((dw.f k (b.getD a.toNat ([] : List UInt8))).bind fun e => (if 0 ≤ a ∧ a < (b.length : Int) then ((cc.f d.1 d.2.1 d.2.2.1 d.2.2.2.1 (b.getD a.toNat ([] : List UInt8))).bind fun c => ((fD.f k c.1).bind fun h => ((if (!e.2) = true then (some true) else (some ((decide ((0 : Int) < a)) && (!decide (e.1 = IntKind.i64.wrap (i + 1)))))).bind fun j => ((if j = true then (some true) else ((cV.f c.2).bind fun l => (some (!decide (l = (0 : Int)))))).bind fun m => ((if m = true then (some true) else ((cV.f h.2.2).bind fun n => (some (!decide (n = (0 : Int)))))).bind fun o => ((if (o || (!decide (h.2.1 = (c.1.length : Int)))) = true then (some true) else (some ((decide (a < IntKind.i64.wrap ((b.length : Int) - 1))) && (decide ((c.1.length : Int) < x0))))).bind fun p => (if p = true then (some (.inr (.inr (.inr false)))) else (bl.l1 x0 d b k (IntKind.i64.wrap (g + (c.1.length : Int))) e.1 (IntKind.i64.wrap (a + 1)))))))))) else none)) else none) else (some (.inl g))
def bl.l0 (x0 : Int) (x1 : List (Int × Int × Bool × Int × Int × Int × Int × Int × (List (bI)))) : Nat → Int → Int → List Int → Int → Int → Int → Int → Int → Int → List (aF) → Bool → List ((List UInt8) × (List UInt8 × Int)) → List UInt8 → Int → Bool → Option (((List ((List UInt8) × (List UInt8 × Int))) × List UInt8 × Int × Bool) ⊕ (Bool))
  | 0, _, _, _, _, _, _, _, _, _, _, _, _, _, _, _ => none
  | k + 1, b, h, i, j, l, m, n, o, p, q, r, s, t, u, v => if b < (x1.length : Int) then (orR ((if 0 ≤ b ∧ b < (x1.length : Int) then (if (x1.getD b.toNat ((0 : Int), (0 : Int), false, (0 : Int), (0 : Int), (0 : Int), (0 : Int), (0 : Int), ([] : List (bI)))).1 = (0 : Int) then (if 0 ≤ b ∧ b < (x1.length : Int) then ((df.f k s t u v h i j l m n o p q r ((x1.getD b.toNat ((0 : Int), (0 : Int), false, (0 : Int), (0 : Int), (0 : Int), (0 : Int), (0 : Int), ([] : List (bI)))).2.2.1) ((x1.getD b.toNat ((0 : Int), (0 : Int), false, (0 : Int), (0 : Int), (0 : Int), (0 : Int), (0 : Int), ([] : List (bI)))).2.2.2.1) ((x1.getD b.toNat ((0 : Int), (0 : Int), false, (0 : Int), (0 : Int), (0 : Int), (0 : Int), (0 : Int), ([] : List (bI)))).2.2.2.2.1) ((x1.getD b.toNat ((0 : Int), (0 : Int), false, (0 : Int), (0 : Int), (0 : Int), (0 : Int), (0 : Int), ([] : List (bI)))).2.2.2.2.2.1) ((x1.getD b.toNat ((0 : Int), (0 : Int), false, (0 : Int), (0 : Int), (0 : Int), (0 : Int), (0 : Int), ([] : List (bI)))).2.2.2.2.2.2.1) ((x1.getD b.toNat ((0 : Int), (0 : Int), false, (0 : Int), (0 : Int), (0 : Int), (0 : Int), (0 : Int), ([] : List (bI)))).2.2.2.2.2.2.2.1) ((x1.getD b.toNat ((0 : Int), (0 : Int), false, (0 : Int), (0 : Int), (0 : Int), (0 : Int), (0 : Int), ([] : List (bI)))).2.2.2.2.2.2.2.2)).bind fun d => (some (d.2.1, d.2.2.1, d.2.2.2.1, d.2.2.2.2.1, d.2.2.2.2.2.1, d.2.2.2.2.2.2.1, d.2.2.2.2.2.2.2.1, d.2.2.2.2.2.2.2.2.1, d.2.2.2.2.2.2.2.2.2.1, d.2.2.2.2.2.2.2.2.2.2.1, d.2.2.2.2.2.2.2.2.2.2.2.1, d.2.2.2.2.2.2.2.2.2.2.2.2.1, d.2.2.2.2.2.2.2.2.2.2.2.2.2.1, d.2.2.2.2.2.2.2.2.2.2.2.2.2.2))) else none) else (if (x1.getD b.toNat ((0 : Int), (0 : Int), false, (0 : Int), (0 : Int), (0 : Int), (0 : Int), (0 : Int), ([] : List (bI)))).1 = (1 : Int) then ((dZ.f k s t u v h i j l m n o p q r).bind fun g => (some (g.2.1, g.2.2.1, g.2.2.2.1, g.2.2.2.2, h, i, j, l, m, n, o, p, q, r))) else (if (x1.getD b.toNat ((0 : Int), (0 : Int), false, (0 : Int), (0 : Int), (0 : Int), (0 : Int), (0 : Int), ([] : List (bI)))).1 = (2 : Int) then (if 0 ≤ b ∧ b < (x1.length : Int) then ((ej.f k s t u v h i j l m n o p q r ((x1.getD b.toNat ((0 : Int), (0 : Int), false, (0 : Int), (0 : Int), (0 : Int), (0 : Int), (0 : Int), ([] : List (bI)))).2.1)).bind fun c => (some (c.2.2.1, c.2.2.2.1, c.2.2.2.2.1, c.2.2.2.2.2.1, c.2.2.2.2.2.2.1, c.2.2.2.2.2.2.2.1, c.2.2.2.2.2.2.2.2.1, c.2.2.2.2.2.2.2.2.2.1, c.2.2.2.2.2.2.2.2.2.2.1, c.2.2.2.2.2.2.2.2.2.2.2.1, c.2.2.2.2.2.2.2.2.2.2.2.2.1, c.2.2.2.2.2.2.2.2.2.2.2.2.2.1, c.2.2.2.2.2.2.2.2.2.2.2.2.2.2.1, c.2.2.2.2.2.2.2.2.2.2.2.2.2.2.2))) else none) else (some (s, t, u, v, h, i, j, l, m, n, o, p, q, r))))) else none).bind fun a => ((bG.f k a.1 a.2.1 a.2.2.1 a.2.2.2.1 a.2.2.2.2.1 a.2.2.2.2.2.1 a.2.2.2.2.2.2.1 a.2.2.2.2.2.2.2.1 a.2.2.2.2.2.2.2.2.1 a.2.2.2.2.2.2.2.2.2.1 a.2.2.2.2.2.2.2.2.2.2.1 a.2.2.2.2.2.2.2.2.2.2.2.1 a.2.2.2.2.2.2.2.2.2.2.2.2.1 a.2.2.2.2.2.2.2.2.2.2.2.2.2).bind fun w => (orR (bl.l1 x0 a w k 0 0 0) fun x => ((bR.f k a.1 a.2.1 a.2.2.1 a.2.2.2.1 a.2.2.2.2.1 a.2.2.2.2.2.1 a.2.2.2.2.2.2.1 a.2.2.2.2.2.2.2.1 a.2.2.2.2.2.2.2.2.1 a.2.2.2.2.2.2.2.2.2.1 a.2.2.2.2.2.2.2.2.2.2.1 a.2.2.2.2.2.2.2.2.2.2.2.1 a.2.2.2.2.2.2.2.2.2.2.2.2.1 a.2.2.2.2.2.2.2.2.2.2.2.2.2).bind fun y => ((if y = x then ((dE.f a.1 a.2.1 a.2.2.1 a.2.2.2.1).bind fun z => (some (!decide ((z.length : Int) = IntKind.i64.wrap ((w.length : Int) + 1))))) else (some true)).bind fun ab => (if ab = true then (some (.inr (.inr false))) else (some (.inl (a.1, a.2.1, a.2.2.1, a.2.2.2.1, a.2.2.2.2.1, a.2.2.2.2.2.1, a.2.2.2.2.2.2.1, a.2.2.2.2.2.2.2.1, a.2.2.2.2.2.2.2.2.1, a.2.2.2.2.2.2.2.2.2.1, a.2.2.2.2.2.2.2.2.2.2.1, a.2.2.2.2.2.2.2.2.2.2.2.1, a.2.2.2.2.2.2.2.2.2.2.2.2.1, a.2.2.2.2.2.2.2.2.2.2.2.2.2))))))))) fun e => (bl.l0 x0 x1 k (IntKind.i64.wrap (b + 1)) e.2.2.2.2.1 e.2.2.2.2.2.1 e.2.2.2.2.2.2.1 e.2.2.2.2.2.2.2.1 e.2.2.2.2.2.2.2.2.1 e.2.2.2.2.2.2.2.2.2.1 e.2.2.2.2.2.2.2.2.2.2.1 e.2.2.2.2.2.2.2.2.2.2.2.1 e.2.2.2.2.2.2.2.2.2.2.2.2.1 e.2.2.2.2.2.2.2.2.2.2.2.2.2 e.1 e.2.1 e.2.2.1 e.2.2.2.1)) else (some (.inl (s, t, u, v)))
def bl.f (k : Nat) (x0 : Int) (x1 : List (Int × Int × Bool × Int × Int × Int × Int × Int × (List (bI)))) : Option (Bool) := (eP.f k).bind fun i => ((bw.f k x1).bind fun j => (if ((((!i) || (!j)) || (decide (x0 < (64 : Int)))) || (decide ((1048576 : Int) < x0))) = true then (some i) else ((gR.f).bind fun e => ((dK.f k e.1 e.2.1 e.2.2.1 e.2.2.2 ([111, 116, 104, 101, 114] : List UInt8)).bind fun b => ((dh.f b.2.1 b.2.2.1 b.2.2.2.1 b.2.2.2.2 ([111, 116, 104, 101, 114] : List UInt8) ([1, 2] : List UInt8)).bind fun c => ((bT.f k c.2.1 c.2.2.1 c.2.2.2.1 c.2.2.2.2 x0).bind fun a => (if a.1 = true then (orR (bl.l0 x0 x1 k 0 a.2.1 a.2.2.1 a.2.2.2.1 a.2.2.2.2.1 a.2.2.2.2.2.1 a.2.2.2.2.2.2.1 a.2.2.2.2.2.2.2.1 a.2.2.2.2.2.2.2.2.1 a.2.2.2.2.2.2.2.2.2.1 a.2.2.2.2.2.2.2.2.2.2.1 a.2.2.2.2.2.2.2.2.2.2.2.2.2.1 a.2.2.2.2.2.2.2.2.2.2.2.2.2.2.1 a.2.2.2.2.2.2.2.2.2.2.2.2.2.2.2.1 a.2.2.2.2.2.2.2.2.2.2.2.2.2.2.2.2) fun d => ((cc.f d.1 d.2.1 d.2.2.1 d.2.2.2 ([111, 116, 104, 101, 114] : List UInt8)).bind fun g => ((bW.f k g.1 ([1, 2] : List UInt8)).bind fun h => (some h)))) else (some false))))))))
theorem bl.calls (W : World) (F : HA) (k : Nat) (x0 : Int) (a1 : Option Addr) (c1 : Nat) (x1 : List (Int × Int × Bool × Int × Int × Int × Int × Int × (List (bI)))) (h1 : RdV F 9 (V56 F) a1 x1) (hS : x1.length ≤ c1) (hT : c1 ≤ maxLen) (hgl : Glb Tryz.prog F) :
    Fn Tryz.prog W 5 [Iv x0, .slice a1 x1.length c1] [] F (bl.f k x0 x1) (fun (r : Bool) (y : Unit) => .bool r) (fun r y => []) := by
 unfold bl.f
 refine aO 189 Tryz.func5 O Tryz.ntmps5 O (sr (va O O (nx (av (fun bt hL => (ah (au (vs := []) (cap := []) (A := []) (rst := [F]) O O O O O O call9 (.s O .n) (eP.calls _ _ k  (hgl.lend 0 O)) hL) O O O ?_))))))
 intro ol
 refine va O O (nx (vm O O (av (fun b0 hM => (ah (au (vs := [.slice a1 x1.length c1]) (cap := []) (A := []) (rst := [F]) O O O O O O call20 (.s O .n) (bw.calls _ _ k a1 c1 x1 (h1.up (Up.lend 0 O) (V56.up (Up.lend 0 O))) hS hT) hM) O O O ?_)))))
 intro op
 refine va O O (ae (aa (ay (sr (vm O O (vq (fh O O) O (vm O O (aw (b := !bt) (fun hU => RQ.sub (E' := [(6, .bool b0)]) ⟨O, trivial⟩ (aY O O)) O O O O O (aw (b := !bt) (fun dl => RQ.sub (E' := [(31, .bool b0)]) ⟨aH O dl, trivial⟩ (fh O O)) O O O O O (vq (fb O O O) O (vm O O (aw (b := (!bt) || (!b0)) (fun hV => RQ.sub (E' := [(0, Iv x0)]) ⟨O, trivial⟩ (aY O O)) O O O O O (aw (b := (!bt) || (!b0)) (fun ds => RQ.sub (E' := [(35, Iv x0)]) ⟨aH O ds, trivial⟩ (cD O O O)) O O O O O (vq (fb O O O) O (vm O O (aw (b := ((!bt) || (!b0)) || (decide (x0 < (64 : Int)))) (fun hW => RQ.sub (E' := [(0, Iv x0)]) ⟨O, trivial⟩ (aY O O)) O O O O O (aw (b := ((!bt) || (!b0)) || (decide (x0 < (64 : Int)))) (fun d1 => RQ.sub (E' := [(39, Iv x0)]) ⟨aH O d1, trivial⟩ (cC O O O)) O O O O O (vq (fb O O O) O (ae (aa ?_))))))))))))))))))))
 refine aX O (fun os => ?_) (fun oN => ?_)
 refine sr (vm O O (va O O (ae (aa (aA (aN ?_))))))
 exact aE () O O O (.s O .n)
 refine aB (aa (sr (av (fun a7 hi => (ah (au (vs := []) (cap := []) (A := []) (rst := [F]) O O O O O O call16 (.s O .n) (gR.calls _ _  ) hi) O O O ?_)))))
 intro e
 refine va O O (nx (vm O O (av (fun a0 hk => (ah (au (vs := [Pt e.1, str ([111, 116, 104, 101, 114] : Lb)]) (cap := []) (A := [obj e.1 97 [.map (some e.2.1), str a7.2.1, Iv a7.2.2.1, .bool a7.2.2.2], ao (aj e.2.1 ap ak e.2.2) ai e.2.2 a7.1]) (rst := [F]) O O O O O O call21 (.s O (.s O (.s O .n))) (dK.calls _ _ k e.1 e.2.1 e.2.2 a7.1 a7.2.1 a7.2.2.1 a7.2.2.2 ([111, 116, 104, 101, 114] : Lb) ) hk) O O O ?_)))))
 intro a6
 refine nx (vm O O (ah (kA (cs := [.int .u8 1, .int .u8 2]) ([1, 2] : Lb) O O underlying33 gg O (by kernel_rfl) O O O) O O O ?_))
 intro bd
 refine av (fun u hl => (bj 0 O (fun hm hn ho j9 => (ah (au (vs := [Pt e.1, str ([111, 116, 104, 101, 114] : Lb), .slice (some ⟨bd, 0, none⟩) (([1, 2] : Lb).length) 2]) (cap := []) (A := [obj e.1 97 [.map (some a6.1), str a0.2.2.1, Iv a0.2.2.2.1, .bool a0.2.2.2.2], ao (aj a6.1 ap ak a6.2) ai a6.2 a0.2.1]) (rst := [Row 5 1 (some ⟨bd, 0, none⟩) ([1, 2] : Lb).length 2 (ax ([1, 2] : Lb)), F]) O O O O O O call22 (.sel 1 O (.sel 1 O (.s O (.s O .n)))) (dh.calls _ _ e.1 a6.1 a6.2 a0.2.1 a0.2.2.1 a0.2.2.2.1 a0.2.2.2.2 ([111, 116, 104, 101, 114] : Lb) (some ⟨bd, 0, none⟩) 2 ([1, 2] : Lb) (hm.lend 0 O) hn ho) hl) O O O ?_))))
 intro ab
 refine nx (vm O O (vm O O (av (fun w c4 => ?_))))
 refine jO (fun b1 => ?_) (fun b1 => ?_)
 refine ah (au (vs := [Pt e.1, Iv x0]) (cap := []) (A := [obj e.1 97 [.map (some ab.1), str u.2.2.1, Iv u.2.2.2.1, .bool u.2.2.2.2], ao (aj ab.1 ap ak ab.2) ai ab.2 u.2.1]) (rst := [Row 5 1 (some ⟨bd, 0, none⟩) ([1, 2] : Lb).length 2 (ax ([1, 2] : Lb)), F]) O O O O O O call15 (.s O (.s O (.s O (.s O .n)))) (bT.callsT _ _ k e.1 ab.1 ab.2 u.2.1 u.2.2.1 u.2.2.2.1 u.2.2.2.2 x0 (hgl.lend 1 O)) (lM c4 b1)) O O O ?_
 intro l
 refine vm O O (vq (bF O O O) O (vq (bF O O O) O (vq (bF O O O) O (va O O (va O O (va O O (ae (aa (ay (sr (vm O O (vq (lT O O O underlying36) O (ae (aa (fE O (aB (aa ?_)))))))))))))))))
 refine fc (S := (List (Lb × (Lb × Int))) × Lb × Int × Bool) (Nat × Kps) (fun s y => [(7, Pt e.1)]) (fun s y => [obj e.1 97 [.map (some y.1), str s.2.1, Iv s.2.2.1, .bool s.2.2.2], ao (aj y.1 ap ak y.2) ai y.2 s.1, F]) ?_ ?_
 refine sr (va O O (ae (aa (aU ?_))))
 refine cx (S := Int × Int × List Int × Int × Int × Int × Int × Int × Int × (List (aF)) × Bool × (List (Lb × (Lb × Int))) × Lb × Int × Bool) (Option Addr × Nat × HA × Option Addr × Nat × Nat × Kps) (fun k s => bl.l0 x0 x1 k s.1 s.2.1 s.2.2.1 s.2.2.2.1 s.2.2.2.2.1 s.2.2.2.2.2.1 s.2.2.2.2.2.2.1 s.2.2.2.2.2.2.2.1 s.2.2.2.2.2.2.2.2.1 s.2.2.2.2.2.2.2.2.2.1 s.2.2.2.2.2.2.2.2.2.2.1 s.2.2.2.2.2.2.2.2.2.2.2.1 s.2.2.2.2.2.2.2.2.2.2.2.2.1 s.2.2.2.2.2.2.2.2.2.2.2.2.2.1 s.2.2.2.2.2.2.2.2.2.2.2.2.2.2) (fun s y => [(0, Iv x0), (1, .slice a1 x1.length c1), (7, Pt e.1), (8, Pt l.1), (11, Iv s.1)]) (fun s y => [obj l.1 91 [Pt e.1, Iv s.2.1, .slice y.1 s.2.2.1.length y.2.1, Iv s.2.2.2.1, Iv s.2.2.2.2.1, Iv s.2.2.2.2.2.1, Iv s.2.2.2.2.2.2.1, Iv s.2.2.2.2.2.2.2.1, Iv s.2.2.2.2.2.2.2.2.1, .slice y.2.2.2.1 s.2.2.2.2.2.2.2.2.2.1.length y.2.2.2.2.1, .bool s.2.2.2.2.2.2.2.2.2.2.1], obj e.1 97 [.map (some y.2.2.2.2.2.1), str s.2.2.2.2.2.2.2.2.2.2.2.2.1, Iv s.2.2.2.2.2.2.2.2.2.2.2.2.2.1, .bool s.2.2.2.2.2.2.2.2.2.2.2.2.2.2], am 3 1 (V3 tt) y.1 s.2.2.1 y.2.1, am 144 5 (aM (y.2.2.1)) y.2.2.2.1 s.2.2.2.2.2.2.2.2.2.1 y.2.2.2.2.1, ao (aj y.2.2.2.2.2.1 ap ak y.2.2.2.2.2.2) ai y.2.2.2.2.2.2 s.2.2.2.2.2.2.2.2.2.2.2.1, y.2.2.1, F]) (fun _ => by rw [bl.l0]) ?_ k (0, w.2.1, w.2.2.1, w.2.2.2.1, w.2.2.2.2.1, w.2.2.2.2.2.1, w.2.2.2.2.2.2.1, w.2.2.2.2.2.2.2.1, w.2.2.2.2.2.2.2.2.1, w.2.2.2.2.2.2.2.2.2.1, w.2.2.2.2.2.2.2.2.2.2.1, w.2.2.2.2.2.2.2.2.2.2.2.2.2.1, w.2.2.2.2.2.2.2.2.2.2.2.2.2.2.1, w.2.2.2.2.2.2.2.2.2.2.2.2.2.2.2.1, w.2.2.2.2.2.2.2.2.2.2.2.2.2.2.2.2) (l.2.1, l.2.2.1, l.2.2.2.2.2.1, l.2.2.2.1, l.2.2.2.2.1, l.2.2.2.2.2.2.1, l.2.2.2.2.2.2.2) ⟨O, O, O, O, O, trivial⟩ (.s O (.sel 3 O (.s O (.s O (.sel 1 O (.s O (.sel 1 O .n)))))))
 intro k d g
 refine cU (by rw [bl.l0]) (ay (sr (vm O O (vm O O (vq (bC O O O underlying51) O (vq (cD O O O) O (ae (aa ?_))))))))
 refine bk O (fun n1 => ?_) (fun n2 => ?_)
 refine aB (aa ?_)
 refine fc (S := (List (Lb × (Lb × Int))) × Lb × Int × Bool × Int × List Int × Int × Int × Int × Int × Int × Int × (List (aF)) × Bool) (Nat × Kps × Option Addr × Nat × HA × Option Addr × Nat) (fun s y => [(0, Iv x0), (1, .slice a1 x1.length c1), (7, Pt e.1), (8, Pt l.1), (11, Iv d.1)]) (fun s y => [obj e.1 97 [.map (some y.1), str s.2.1, Iv s.2.2.1, .bool s.2.2.2.1], obj l.1 91 [Pt e.1, Iv s.2.2.2.2.1, .slice y.2.2.1 s.2.2.2.2.2.1.length y.2.2.2.1, Iv s.2.2.2.2.2.2.1, Iv s.2.2.2.2.2.2.2.1, Iv s.2.2.2.2.2.2.2.2.1, Iv s.2.2.2.2.2.2.2.2.2.1, Iv s.2.2.2.2.2.2.2.2.2.2.1, Iv s.2.2.2.2.2.2.2.2.2.2.2.1, .slice y.2.2.2.2.2.1 s.2.2.2.2.2.2.2.2.2.2.2.2.1.length y.2.2.2.2.2.2, .bool s.2.2.2.2.2.2.2.2.2.2.2.2.2], ao (aj y.1 ap ak y.2.1) ai y.2.1 s.1, am 3 1 (V3 tt) y.2.2.1 s.2.2.2.2.2.1 y.2.2.2.1, am 144 5 (aM (y.2.2.2.2.1)) y.2.2.2.2.2.1 s.2.2.2.2.2.2.2.2.2.2.2.2.1 y.2.2.2.2.2.2, y.2.2.2.2.1, F]) ?_ ?_
 refine aU ?_
 refine bK (S := (List (Lb × (Lb × Int))) × Lb × Int × Bool × Int × List Int × Int × Int × Int × Int × Int × Int × (List (aF)) × Bool) (Nat × Kps × Option Addr × Nat × HA × Option Addr × Nat) (fun s y => [(0, Iv x0), (1, .slice a1 x1.length c1), (7, Pt e.1), (8, Pt l.1), (11, Iv d.1)]) (fun s y => [obj e.1 97 [.map (some y.1), str s.2.1, Iv s.2.2.1, .bool s.2.2.2.1], obj l.1 91 [Pt e.1, Iv s.2.2.2.2.1, .slice y.2.2.1 s.2.2.2.2.2.1.length y.2.2.2.1, Iv s.2.2.2.2.2.2.1, Iv s.2.2.2.2.2.2.2.1, Iv s.2.2.2.2.2.2.2.2.1, Iv s.2.2.2.2.2.2.2.2.2.1, Iv s.2.2.2.2.2.2.2.2.2.2.1, Iv s.2.2.2.2.2.2.2.2.2.2.2.1, .slice y.2.2.2.2.2.1 s.2.2.2.2.2.2.2.2.2.2.2.2.1.length y.2.2.2.2.2.2, .bool s.2.2.2.2.2.2.2.2.2.2.2.2.2], ao (aj y.1 ap ak y.2.1) ai y.2.1 s.1, am 3 1 (V3 tt) y.2.2.1 s.2.2.2.2.2.1 y.2.2.2.1, am 144 5 (aM (y.2.2.2.2.1)) y.2.2.2.2.2.1 s.2.2.2.2.2.2.2.2.2.2.2.2.1 y.2.2.2.2.2.2, y.2.2.2.2.1, F]) ?_ ?_
 refine sr (vm O O (vm O O (bb (fun c5 => ?_))))
 obtain ⟨n3, kd, n4, hp, hq, hX, hcell60v⟩ := RdV.pos h1 (Up.refl _) rfl (i := d.1.toNat) (by omega) ((0 : Int), (0 : Int), false, (0 : Int), (0 : Int), (0 : Int), (0 : Int), (0 : Int), ([] : List (bI)))
 obtain ⟨n5, n6, rfl, ⟨kl, k0, k1⟩⟩ := hq
 refine vq (cP O O O hp underlying51 sizeOf56 c5.1 c5.2) O (vq (ar O O underlying56 O O sizeOf3 O) O (vq (ag O O isAgg3 (hcell60v 6 O 0 _ O)) O (ae (aa (aU (sr (vq (bS O O O) O (va O O (ae (aa ?_))))))))))
 refine bk O (fun n7 => ?_) (fun n8 => ?_)
 refine aK (vm O O (vm O O (vm O O (bb (fun c6 => ?_)))))
 obtain ⟨n9, k2, oa, hr, hs, hY, hcell75v⟩ := RdV.pos h1 (Up.refl _) rfl (i := d.1.toNat) (by omega) ((0 : Int), (0 : Int), false, (0 : Int), (0 : Int), (0 : Int), (0 : Int), (0 : Int), ([] : List (bI)))
 obtain ⟨c2, c3, rfl, ⟨ht, hu, hv⟩⟩ := hs
 refine vq (cP O O O hr underlying51 sizeOf56 c6.1 c6.2) O (vq (ar O O underlying56 O O sizeOf45 O) O (vq (dk (vs := [.bool ((x1.getD d.1.toNat ((0 : Int), (0 : Int), false, (0 : Int), (0 : Int), (0 : Int), (0 : Int), (0 : Int), ([] : List (bI)))).2.2.1), Iv ((x1.getD d.1.toNat ((0 : Int), (0 : Int), false, (0 : Int), (0 : Int), (0 : Int), (0 : Int), (0 : Int), ([] : List (bI)))).2.2.2.1), Iv ((x1.getD d.1.toNat ((0 : Int), (0 : Int), false, (0 : Int), (0 : Int), (0 : Int), (0 : Int), (0 : Int), ([] : List (bI)))).2.2.2.2.1), Iv ((x1.getD d.1.toNat ((0 : Int), (0 : Int), false, (0 : Int), (0 : Int), (0 : Int), (0 : Int), (0 : Int), ([] : List (bI)))).2.2.2.2.2.1), Iv ((x1.getD d.1.toNat ((0 : Int), (0 : Int), false, (0 : Int), (0 : Int), (0 : Int), (0 : Int), (0 : Int), ([] : List (bI)))).2.2.2.2.2.2.1), Iv ((x1.getD d.1.toNat ((0 : Int), (0 : Int), false, (0 : Int), (0 : Int), (0 : Int), (0 : Int), (0 : Int), ([] : List (bI)))).2.2.2.2.2.2.2.1), .slice c2 (((x1.getD d.1.toNat ((0 : Int), (0 : Int), false, (0 : Int), (0 : Int), (0 : Int), (0 : Int), (0 : Int), ([] : List (bI)))).2.2.2.2.2.2.2.2).length) c3]) O O isAgg45 sizeOf45 O (fun j v hj => iE (hcell75v 6 O (2 + j) v (tr 2 hj)))) O (bg 2 O (fun k3 hw => (bg 3 O (fun k4 hx => (av (fun x hy => (ah (au (vs := [Pt l.1, .agg #[.bool ((x1.getD d.1.toNat ((0 : Int), (0 : Int), false, (0 : Int), (0 : Int), (0 : Int), (0 : Int), (0 : Int), ([] : List (bI)))).2.2.1), Iv ((x1.getD d.1.toNat ((0 : Int), (0 : Int), false, (0 : Int), (0 : Int), (0 : Int), (0 : Int), (0 : Int), ([] : List (bI)))).2.2.2.1), Iv ((x1.getD d.1.toNat ((0 : Int), (0 : Int), false, (0 : Int), (0 : Int), (0 : Int), (0 : Int), (0 : Int), ([] : List (bI)))).2.2.2.2.1), Iv ((x1.getD d.1.toNat ((0 : Int), (0 : Int), false, (0 : Int), (0 : Int), (0 : Int), (0 : Int), (0 : Int), ([] : List (bI)))).2.2.2.2.2.1), Iv ((x1.getD d.1.toNat ((0 : Int), (0 : Int), false, (0 : Int), (0 : Int), (0 : Int), (0 : Int), (0 : Int), ([] : List (bI)))).2.2.2.2.2.2.1), Iv ((x1.getD d.1.toNat ((0 : Int), (0 : Int), false, (0 : Int), (0 : Int), (0 : Int), (0 : Int), (0 : Int), ([] : List (bI)))).2.2.2.2.2.2.2.1), .slice c2 (((x1.getD d.1.toNat ((0 : Int), (0 : Int), false, (0 : Int), (0 : Int), (0 : Int), (0 : Int), (0 : Int), ([] : List (bI)))).2.2.2.2.2.2.2.2).length) c3]]) (cap := []) (A := [obj e.1 97 [.map (some g.2.2.2.2.2.1), str d.2.2.2.2.2.2.2.2.2.2.2.2.1, Iv d.2.2.2.2.2.2.2.2.2.2.2.2.2.1, .bool d.2.2.2.2.2.2.2.2.2.2.2.2.2.2], ao (aj g.2.2.2.2.2.1 ap ak g.2.2.2.2.2.2) ai g.2.2.2.2.2.2 d.2.2.2.2.2.2.2.2.2.2.2.1, obj l.1 91 [Pt e.1, Iv d.2.1, .slice g.1 d.2.2.1.length g.2.1, Iv d.2.2.2.1, Iv d.2.2.2.2.1, Iv d.2.2.2.2.2.1, Iv d.2.2.2.2.2.2.1, Iv d.2.2.2.2.2.2.2.1, Iv d.2.2.2.2.2.2.2.2.1, .slice g.2.2.2.1 d.2.2.2.2.2.2.2.2.2.1.length g.2.2.2.2.1, .bool d.2.2.2.2.2.2.2.2.2.2.1], am 3 1 (V3 tt) g.1 d.2.2.1 g.2.1, am 144 5 (aM (g.2.2.1)) g.2.2.2.1 d.2.2.2.2.2.2.2.2.2.1 g.2.2.2.2.1, g.2.2.1]) (rst := [F]) O O O O O O call17 (.sel 1 O (.sel 3 O (.s O (.sel' 0 O (am.mk hw) (.sel' 0 O (am.mk hx) (.s O (.s O .n))))))) (df.calls _ _ k l.1 e.1 g.2.2.2.2.2.1 g.2.2.2.2.2.2 d.2.2.2.2.2.2.2.2.2.2.2.1 d.2.2.2.2.2.2.2.2.2.2.2.2.1 d.2.2.2.2.2.2.2.2.2.2.2.2.2.1 d.2.2.2.2.2.2.2.2.2.2.2.2.2.2 d.2.1 g.1 g.2.1 d.2.2.1 d.2.2.2.1 d.2.2.2.2.1 d.2.2.2.2.2.1 d.2.2.2.2.2.2.1 d.2.2.2.2.2.2.2.1 d.2.2.2.2.2.2.2.2.1 g.2.2.2.1 g.2.2.2.2.1 d.2.2.2.2.2.2.2.2.2.1 g.2.2.1 d.2.2.2.2.2.2.2.2.2.2.1 ((x1.getD d.1.toNat ((0 : Int), (0 : Int), false, (0 : Int), (0 : Int), (0 : Int), (0 : Int), (0 : Int), ([] : List (bI)))).2.2.1) ((x1.getD d.1.toNat ((0 : Int), (0 : Int), false, (0 : Int), (0 : Int), (0 : Int), (0 : Int), (0 : Int), ([] : List (bI)))).2.2.2.1) ((x1.getD d.1.toNat ((0 : Int), (0 : Int), false, (0 : Int), (0 : Int), (0 : Int), (0 : Int), (0 : Int), ([] : List (bI)))).2.2.2.2.1) ((x1.getD d.1.toNat ((0 : Int), (0 : Int), false, (0 : Int), (0 : Int), (0 : Int), (0 : Int), (0 : Int), ([] : List (bI)))).2.2.2.2.2.1) ((x1.getD d.1.toNat ((0 : Int), (0 : Int), false, (0 : Int), (0 : Int), (0 : Int), (0 : Int), (0 : Int), ([] : List (bI)))).2.2.2.2.2.2.1) ((x1.getD d.1.toNat ((0 : Int), (0 : Int), false, (0 : Int), (0 : Int), (0 : Int), (0 : Int), (0 : Int), ([] : List (bI)))).2.2.2.2.2.2.2.1) c2 c3 ((x1.getD d.1.toNat ((0 : Int), (0 : Int), false, (0 : Int), (0 : Int), (0 : Int), (0 : Int), (0 : Int), ([] : List (bI)))).2.2.2.2.2.2.2.2) (ht.up (Up.lend 0 O) (V35.up (Up.lend 0 O))) hu hv (hgl.lend 0 O)) hy) O O O ?_)))))))))
 intro a3
 refine ae (bq ?_)
 exact aG (s := (x.2.1, x.2.2.1, x.2.2.2.1, x.2.2.2.2.1, x.2.2.2.2.2.1, x.2.2.2.2.2.2.1, x.2.2.2.2.2.2.2.1, x.2.2.2.2.2.2.2.2.1, x.2.2.2.2.2.2.2.2.2.1, x.2.2.2.2.2.2.2.2.2.2.1, x.2.2.2.2.2.2.2.2.2.2.2.1, x.2.2.2.2.2.2.2.2.2.2.2.2.1, x.2.2.2.2.2.2.2.2.2.2.2.2.2.1, x.2.2.2.2.2.2.2.2.2.2.2.2.2.2)) (a3.1, a3.2.1, a3.2.2.1, a3.2.2.2.1, a3.2.2.2.2.2.2, a3.2.2.2.2.1, a3.2.2.2.2.2.1) ⟨O, O, O, O, O, trivial⟩ (.s O (.sel 1 O (.s O (.s O (.s O (.s O (.s O .n)))))))
 refine sr (vq (bS O O O) O (va O O (ae (aa ?_))))
 refine bk O (fun og => ?_) (fun ok => ?_)
 refine aK (vm O O (bg 2 O (fun hz c7 => (bg 3 O (fun hA c8 => (av (fun a8 d2 => (bj 2 O (fun hB hC hE k5 => (bj 3 O (fun hF hG d3 hZ => (ah (au (vs := [Pt l.1]) (cap := []) (A := [obj e.1 97 [.map (some g.2.2.2.2.2.1), str d.2.2.2.2.2.2.2.2.2.2.2.2.1, Iv d.2.2.2.2.2.2.2.2.2.2.2.2.2.1, .bool d.2.2.2.2.2.2.2.2.2.2.2.2.2.2], ao (aj g.2.2.2.2.2.1 ap ak g.2.2.2.2.2.2) ai g.2.2.2.2.2.2 d.2.2.2.2.2.2.2.2.2.2.2.1, obj l.1 91 [Pt e.1, Iv d.2.1, .slice g.1 d.2.2.1.length g.2.1, Iv d.2.2.2.1, Iv d.2.2.2.2.1, Iv d.2.2.2.2.2.1, Iv d.2.2.2.2.2.2.1, Iv d.2.2.2.2.2.2.2.1, Iv d.2.2.2.2.2.2.2.2.1, .slice g.2.2.2.1 d.2.2.2.2.2.2.2.2.2.1.length g.2.2.2.2.1, .bool d.2.2.2.2.2.2.2.2.2.2.1]]) (rst := [Row 3 1 g.1 d.2.2.1.length g.2.1 hz.flatten, Row 144 5 g.2.2.2.1 d.2.2.2.2.2.2.2.2.2.1.length g.2.2.2.2.1 hA.flatten, g.2.2.1, F]) O O O O O O call23 (.sel 1 O (.sel 3 O (.s O (.s O (.s O (.s O (.s O .n))))))) (dZ.calls _ _ k l.1 e.1 g.2.2.2.2.2.1 g.2.2.2.2.2.2 d.2.2.2.2.2.2.2.2.2.2.2.1 d.2.2.2.2.2.2.2.2.2.2.2.2.1 d.2.2.2.2.2.2.2.2.2.2.2.2.2.1 d.2.2.2.2.2.2.2.2.2.2.2.2.2.2 d.2.1 g.1 g.2.1 d.2.2.1 d.2.2.2.1 d.2.2.2.2.1 d.2.2.2.2.2.1 d.2.2.2.2.2.2.1 d.2.2.2.2.2.2.2.1 d.2.2.2.2.2.2.2.2.1 g.2.2.2.1 g.2.2.2.2.1 d.2.2.2.2.2.2.2.2.2.1 d.2.2.2.2.2.2.2.2.2.2.1 ((Rd.asV c7 hB).up (Up.lend 0 O) (fun _ _ h => h)) hC hE ((Rd.asV c8 hF).up (Up.lend 1 O) (aM.up (Up.lend 2 O))) hG d3 (hgl.lend 3 O)) d2) O O O ?_))))))))))))
 intro c9
 refine ae (bq ?_)
 exact aG (s := (a8.2.1, a8.2.2.1, a8.2.2.2.1, a8.2.2.2.2, d.2.1, d.2.2.1, d.2.2.2.1, d.2.2.2.2.1, d.2.2.2.2.2.1, d.2.2.2.2.2.2.1, d.2.2.2.2.2.2.2.1, d.2.2.2.2.2.2.2.2.1, d.2.2.2.2.2.2.2.2.2.1, d.2.2.2.2.2.2.2.2.2.2.1)) (c9.1, c9.2, g.1, g.2.1, g.2.2.1, g.2.2.2.1, g.2.2.2.2.1) ⟨O, O, O, O, O, trivial⟩ (.s O (.sel 1 O (.s O (.sel' 0 O (am.mk c7) (.sel' 0 O (am.mk c8) (.s O (.s O .n)))))))
 refine sr (vq (bS O O O) O (va O O (ae (aa ?_))))
 refine bk O (fun k6 => ?_) (fun k7 => ?_)
 refine aK (vm O O (vm O O (vm O O (bb (fun b3 => ?_)))))
 obtain ⟨k8, h0, k9, d4, d5, hO, hcell114v⟩ := RdV.pos h1 (Up.refl _) rfl (i := d.1.toNat) (by omega) ((0 : Int), (0 : Int), false, (0 : Int), (0 : Int), (0 : Int), (0 : Int), (0 : Int), ([] : List (bI)))
 obtain ⟨la, li, rfl, ⟨h2, h3, h4⟩⟩ := d5
 refine vq (cP O O O d4 underlying51 sizeOf56 b3.1 b3.2) O (vq (ar O O underlying56 O O sizeOf3 O) O (vq (ag O O isAgg3 (hcell114v 6 O 1 _ O)) O (bg 2 O (fun h5 d6 => (bg 3 O (fun h6 d7 => (av (fun t d8 => (ah (au (vs := [Pt l.1, Iv ((x1.getD d.1.toNat ((0 : Int), (0 : Int), false, (0 : Int), (0 : Int), (0 : Int), (0 : Int), (0 : Int), ([] : List (bI)))).2.1)]) (cap := []) (A := [obj e.1 97 [.map (some g.2.2.2.2.2.1), str d.2.2.2.2.2.2.2.2.2.2.2.2.1, Iv d.2.2.2.2.2.2.2.2.2.2.2.2.2.1, .bool d.2.2.2.2.2.2.2.2.2.2.2.2.2.2], ao (aj g.2.2.2.2.2.1 ap ak g.2.2.2.2.2.2) ai g.2.2.2.2.2.2 d.2.2.2.2.2.2.2.2.2.2.2.1, obj l.1 91 [Pt e.1, Iv d.2.1, .slice g.1 d.2.2.1.length g.2.1, Iv d.2.2.2.1, Iv d.2.2.2.2.1, Iv d.2.2.2.2.2.1, Iv d.2.2.2.2.2.2.1, Iv d.2.2.2.2.2.2.2.1, Iv d.2.2.2.2.2.2.2.2.1, .slice g.2.2.2.1 d.2.2.2.2.2.2.2.2.2.1.length g.2.2.2.2.1, .bool d.2.2.2.2.2.2.2.2.2.2.1], am 3 1 (V3 tt) g.1 d.2.2.1 g.2.1, am 144 5 (aM (g.2.2.1)) g.2.2.2.1 d.2.2.2.2.2.2.2.2.2.1 g.2.2.2.2.1, g.2.2.1]) (rst := [F]) O O O O O O call24 (.sel 1 O (.sel 3 O (.s O (.sel' 0 O (am.mk d6) (.sel' 0 O (am.mk d7) (.s O (.s O .n))))))) (ej.calls _ _ k l.1 e.1 g.2.2.2.2.2.1 g.2.2.2.2.2.2 d.2.2.2.2.2.2.2.2.2.2.2.1 d.2.2.2.2.2.2.2.2.2.2.2.2.1 d.2.2.2.2.2.2.2.2.2.2.2.2.2.1 d.2.2.2.2.2.2.2.2.2.2.2.2.2.2 d.2.1 g.1 g.2.1 d.2.2.1 d.2.2.2.1 d.2.2.2.2.1 d.2.2.2.2.2.1 d.2.2.2.2.2.2.1 d.2.2.2.2.2.2.2.1 d.2.2.2.2.2.2.2.2.1 g.2.2.2.1 g.2.2.2.2.1 d.2.2.2.2.2.2.2.2.2.1 g.2.2.1 d.2.2.2.2.2.2.2.2.2.2.1 ((x1.getD d.1.toNat ((0 : Int), (0 : Int), false, (0 : Int), (0 : Int), (0 : Int), (0 : Int), (0 : Int), ([] : List (bI)))).2.1) (hgl.lend 0 O)) d8) O O O ?_)))))))))
 intro az
 refine ae (bq ?_)
 exact aG (s := (t.2.2.1, t.2.2.2.1, t.2.2.2.2.1, t.2.2.2.2.2.1, t.2.2.2.2.2.2.1, t.2.2.2.2.2.2.2.1, t.2.2.2.2.2.2.2.2.1, t.2.2.2.2.2.2.2.2.2.1, t.2.2.2.2.2.2.2.2.2.2.1, t.2.2.2.2.2.2.2.2.2.2.2.1, t.2.2.2.2.2.2.2.2.2.2.2.2.1, t.2.2.2.2.2.2.2.2.2.2.2.2.2.1, t.2.2.2.2.2.2.2.2.2.2.2.2.2.2.1, t.2.2.2.2.2.2.2.2.2.2.2.2.2.2.2)) (az.1, az.2.1, az.2.2.1, az.2.2.2.1, az.2.2.2.2.2.2, az.2.2.2.2.1, az.2.2.2.2.2.1) ⟨O, O, O, O, O, trivial⟩ (.s O (.sel 1 O (.s O (.s O (.s O (.s O (.s O .n)))))))
 refine aB (bq ?_)
 exact aG (s := (d.2.2.2.2.2.2.2.2.2.2.2.1, d.2.2.2.2.2.2.2.2.2.2.2.2.1, d.2.2.2.2.2.2.2.2.2.2.2.2.2.1, d.2.2.2.2.2.2.2.2.2.2.2.2.2.2, d.2.1, d.2.2.1, d.2.2.2.1, d.2.2.2.2.1, d.2.2.2.2.2.1, d.2.2.2.2.2.2.1, d.2.2.2.2.2.2.2.1, d.2.2.2.2.2.2.2.2.1, d.2.2.2.2.2.2.2.2.2.1, d.2.2.2.2.2.2.2.2.2.2.1)) (g.2.2.2.2.2.1, g.2.2.2.2.2.2, g.1, g.2.1, g.2.2.1, g.2.2.2.1, g.2.2.2.2.1) ⟨O, O, O, O, O, trivial⟩ (.sel 1 O (.s O (.sel 2 O (.s O (.s O (.s O (.s O .n)))))))
 intro a c
 refine sr (vm O O (bg 3 O (fun d9 b4 => (bg 4 O (fun ea b5 => (av (fun q eb => (bj 3 O (fun ec ed ef h7 => (bj 4 O (fun eg ei ek h8 => (ah (au (vs := [Pt l.1]) (cap := []) (A := [obj e.1 97 [.map (some c.1), str a.2.1, Iv a.2.2.1, .bool a.2.2.2.1], ao (aj c.1 ap ak c.2.1) ai c.2.1 a.1, obj l.1 91 [Pt e.1, Iv a.2.2.2.2.1, .slice c.2.2.1 a.2.2.2.2.2.1.length c.2.2.2.1, Iv a.2.2.2.2.2.2.1, Iv a.2.2.2.2.2.2.2.1, Iv a.2.2.2.2.2.2.2.2.1, Iv a.2.2.2.2.2.2.2.2.2.1, Iv a.2.2.2.2.2.2.2.2.2.2.1, Iv a.2.2.2.2.2.2.2.2.2.2.2.1, .slice c.2.2.2.2.2.1 a.2.2.2.2.2.2.2.2.2.2.2.2.1.length c.2.2.2.2.2.2, .bool a.2.2.2.2.2.2.2.2.2.2.2.2.2]]) (rst := [Row 3 1 c.2.2.1 a.2.2.2.2.2.1.length c.2.2.2.1 d9.flatten, Row 144 5 c.2.2.2.2.2.1 a.2.2.2.2.2.2.2.2.2.2.2.2.1.length c.2.2.2.2.2.2 ea.flatten, c.2.2.2.2.1, F]) O O O O O O call25 (.s O (.sel 1 O (.s O (.s O (.s O (.s O (.s O .n))))))) (bG.calls _ _ k l.1 e.1 c.1 c.2.1 a.1 a.2.1 a.2.2.1 a.2.2.2.1 a.2.2.2.2.1 c.2.2.1 c.2.2.2.1 a.2.2.2.2.2.1 a.2.2.2.2.2.2.1 a.2.2.2.2.2.2.2.1 a.2.2.2.2.2.2.2.2.1 a.2.2.2.2.2.2.2.2.2.1 a.2.2.2.2.2.2.2.2.2.2.1 a.2.2.2.2.2.2.2.2.2.2.2.1 c.2.2.2.2.2.1 c.2.2.2.2.2.2 a.2.2.2.2.2.2.2.2.2.2.2.2.1 a.2.2.2.2.2.2.2.2.2.2.2.2.2 ((Rd.asV b4 ec).up (Up.lend 0 O) (fun _ _ h => h)) ed ef ((Rd.asV b5 eg).up (Up.lend 1 O) (aM.up (Up.lend 2 O))) ei ek (hgl.lend 3 O)) eb) O O O ?_))))))))))))
 intro m
 refine va O O (nx (va O O (nx (va O O (ae (aa ?_))))))
 refine fc (S := Int) (Unit) (fun s y => [(0, Iv x0), (1, .slice a1 x1.length c1), (7, Pt e.1), (8, Pt l.1), (11, Iv d.1), (12, .slice m.1 q.length m.2), (13, Iv s)]) (fun s y => [obj e.1 97 [.map (some c.1), str a.2.1, Iv a.2.2.1, .bool a.2.2.2.1], obj l.1 91 [Pt e.1, Iv a.2.2.2.2.1, .slice c.2.2.1 a.2.2.2.2.2.1.length c.2.2.2.1, Iv a.2.2.2.2.2.2.1, Iv a.2.2.2.2.2.2.2.1, Iv a.2.2.2.2.2.2.2.2.1, Iv a.2.2.2.2.2.2.2.2.2.1, Iv a.2.2.2.2.2.2.2.2.2.2.1, Iv a.2.2.2.2.2.2.2.2.2.2.2.1, .slice c.2.2.2.2.2.1 a.2.2.2.2.2.2.2.2.2.2.2.2.1.length c.2.2.2.2.2.2, .bool a.2.2.2.2.2.2.2.2.2.2.2.2.2], am 9 1 (V9 tt) m.1 q m.2, ao (aj c.1 ap ak c.2.1) ai c.2.1 a.1, am 3 1 (V3 tt) c.2.2.1 a.2.2.2.2.2.1 c.2.2.2.1, am 144 5 (aM (c.2.2.2.2.1)) c.2.2.2.2.2.1 a.2.2.2.2.2.2.2.2.2.2.2.2.1 c.2.2.2.2.2.2, c.2.2.2.2.1, F]) ?_ ?_
 refine sr (va O O (ae (aa (aU ?_))))
 refine cx (S := Int × Int × Int) (Unit) (fun k s => bl.l1 x0 a q k s.1 s.2.1 s.2.2) (fun s y => [(0, Iv x0), (1, .slice a1 x1.length c1), (7, Pt e.1), (8, Pt l.1), (11, Iv d.1), (12, .slice m.1 q.length m.2), (13, Iv s.1), (14, Iv s.2.1), (15, Iv s.2.2)]) (fun s y => [obj e.1 97 [.map (some c.1), str a.2.1, Iv a.2.2.1, .bool a.2.2.2.1], obj l.1 91 [Pt e.1, Iv a.2.2.2.2.1, .slice c.2.2.1 a.2.2.2.2.2.1.length c.2.2.2.1, Iv a.2.2.2.2.2.2.1, Iv a.2.2.2.2.2.2.2.1, Iv a.2.2.2.2.2.2.2.2.1, Iv a.2.2.2.2.2.2.2.2.2.1, Iv a.2.2.2.2.2.2.2.2.2.2.1, Iv a.2.2.2.2.2.2.2.2.2.2.2.1, .slice c.2.2.2.2.2.1 a.2.2.2.2.2.2.2.2.2.2.2.2.1.length c.2.2.2.2.2.2, .bool a.2.2.2.2.2.2.2.2.2.2.2.2.2], am 9 1 (V9 tt) m.1 q m.2, ao (aj c.1 ap ak c.2.1) ai c.2.1 a.1, am 3 1 (V3 tt) c.2.2.1 a.2.2.2.2.2.1 c.2.2.2.1, am 144 5 (aM (c.2.2.2.2.1)) c.2.2.2.2.2.1 a.2.2.2.2.2.2.2.2.2.2.2.2.1 c.2.2.2.2.2.2, c.2.2.2.2.1, F]) (fun _ => by rw [bl.l1]) ?_ k (0, 0, 0) () ⟨O, O, O, O, O, O, O, O, O, trivial⟩ (.sel 1 O (.sel 2 O (.s O (.s O (.sel' 0 O (am.mk b4) (.sel' 0 O (am.mk b5) (.s O (.s O .n))))))))
 intro k o lj
 refine cU (by rw [bl.l1]) (ay (sr (vm O O (vm O O (vq (bC O O O underlying60) O (vq (cD O O O) O (ae (aa ?_))))))))
 refine bk O (fun ln => ?_) (fun lo => ?_)
 refine aB (aa (ay (aU (sr (vm O O (vm O O (bg 2 O (fun be a5 => (bb (fun b6 => (dT 2 O a5 O (i := o.2.2.toNat) (by omega) ([] : Lb) (fun lp h9 l2 el em hP hcell158v => ?_))))))))))))
 obtain rfl := em
 refine vq (cP O O O el underlying60 sizeOf9 b6.1 b6.2) O (vq (ag O O isAgg9 (hcell158v 2 O 0 _ O)) O (av (fun al en => (ah (au (vs := [str (q.getD o.2.2.toNat ([] : Lb))]) (cap := []) (A := []) (rst := [obj e.1 97 [.map (some c.1), str a.2.1, Iv a.2.2.1, .bool a.2.2.2.1], obj l.1 91 [Pt e.1, Iv a.2.2.2.2.1, .slice c.2.2.1 a.2.2.2.2.2.1.length c.2.2.2.1, Iv a.2.2.2.2.2.2.1, Iv a.2.2.2.2.2.2.2.1, Iv a.2.2.2.2.2.2.2.2.1, Iv a.2.2.2.2.2.2.2.2.2.1, Iv a.2.2.2.2.2.2.2.2.2.2.1, Iv a.2.2.2.2.2.2.2.2.2.2.2.1, .slice c.2.2.2.2.2.1 a.2.2.2.2.2.2.2.2.2.2.2.2.1.length c.2.2.2.2.2.2, .bool a.2.2.2.2.2.2.2.2.2.2.2.2.2], Row 9 1 m.1 q.length m.2 be.flatten, ao (aj c.1 ap ak c.2.1) ai c.2.1 a.1, am 3 1 (V3 tt) c.2.2.1 a.2.2.2.2.2.1 c.2.2.2.1, am 144 5 (aM (c.2.2.2.2.1)) c.2.2.2.2.2.1 a.2.2.2.2.2.2.2.2.2.2.2.2.1 c.2.2.2.2.2.2, c.2.2.2.2.1, F]) O O O O O O call11 (.s O (.s O (.s O (.s O (.s O (.s O (.s O (.s O .n)))))))) (dw.calls _ _ k (q.getD o.2.2.toNat ([] : Lb)) ) en) O O O ?_))))
 intro l3
 refine vm O O (vq (bF O O O) O (vq (bF O O O) O (va O O (va O O (nx (vm O O (vm O O (vm O O (bb (fun b7 => (dT 2 O a5 O (i := o.2.2.toNat) (by omega) ([] : Lb) (fun l4 ih l5 er es hR hcell171v => ?_))))))))))))
 obtain rfl := es
 refine vq (cP O O O er underlying60 sizeOf9 b7.1 b7.2) O (vq (ag O O isAgg9 (hcell171v 2 O 0 _ O)) O (av (fun p et => (ah (au (vs := [Pt e.1, str (q.getD o.2.2.toNat ([] : Lb))]) (cap := []) (A := [obj e.1 97 [.map (some c.1), str a.2.1, Iv a.2.2.1, .bool a.2.2.2.1], ao (aj c.1 ap ak c.2.1) ai c.2.1 a.1]) (rst := [obj l.1 91 [Pt e.1, Iv a.2.2.2.2.1, .slice c.2.2.1 a.2.2.2.2.2.1.length c.2.2.2.1, Iv a.2.2.2.2.2.2.1, Iv a.2.2.2.2.2.2.2.1, Iv a.2.2.2.2.2.2.2.2.1, Iv a.2.2.2.2.2.2.2.2.2.1, Iv a.2.2.2.2.2.2.2.2.2.2.1, Iv a.2.2.2.2.2.2.2.2.2.2.2.1, .slice c.2.2.2.2.2.1 a.2.2.2.2.2.2.2.2.2.2.2.2.1.length c.2.2.2.2.2.2, .bool a.2.2.2.2.2.2.2.2.2.2.2.2.2], Row 9 1 m.1 q.length m.2 be.flatten, am 3 1 (V3 tt) c.2.2.1 a.2.2.2.2.2.1 c.2.2.2.1, am 144 5 (aM (c.2.2.2.2.1)) c.2.2.2.2.2.1 a.2.2.2.2.2.2.2.2.2.2.2.2.1 c.2.2.2.2.2.2, c.2.2.2.2.1, F]) O O O O O O call26 (.s O (.sel 2 O (.s O (.s O (.s O (.s O (.s O (.s O .n)))))))) (cc.calls _ _ e.1 c.1 c.2.1 a.1 a.2.1 a.2.2.1 a.2.2.2.1 (q.getD o.2.2.toNat ([] : Lb)) ) et) O O O ?_))))
 intro n
 refine vm O O (vq (bF O O O) O (vq (bF O O O) O (va O O (va O O (nx (vm O O (av (fun af e0 => (bj 0 O (fun e1 e2 e3 it => (ah (au (vs := [.slice n.1 p.1.length n.2]) (cap := []) (A := []) (rst := [Row 5 1 n.1 p.1.length n.2 (ax p.1), obj e.1 97 [.map (some c.1), str a.2.1, Iv a.2.2.1, .bool a.2.2.2.1], ao (aj c.1 ap ak c.2.1) ai c.2.1 a.1, obj l.1 91 [Pt e.1, Iv a.2.2.2.2.1, .slice c.2.2.1 a.2.2.2.2.2.1.length c.2.2.2.1, Iv a.2.2.2.2.2.2.1, Iv a.2.2.2.2.2.2.2.1, Iv a.2.2.2.2.2.2.2.2.1, Iv a.2.2.2.2.2.2.2.2.2.1, Iv a.2.2.2.2.2.2.2.2.2.2.1, Iv a.2.2.2.2.2.2.2.2.2.2.2.1, .slice c.2.2.2.2.2.1 a.2.2.2.2.2.2.2.2.2.2.2.2.1.length c.2.2.2.2.2.2, .bool a.2.2.2.2.2.2.2.2.2.2.2.2.2], Row 9 1 m.1 q.length m.2 be.flatten, am 3 1 (V3 tt) c.2.2.1 a.2.2.2.2.2.1 c.2.2.2.1, am 144 5 (aM (c.2.2.2.2.1)) c.2.2.2.2.2.1 a.2.2.2.2.2.2.2.2.2.2.2.2.1 c.2.2.2.2.2.2, c.2.2.2.2.1, F]) O O O O O O call27 (.s O (.s O (.s O (.s O (.s O (.s O (.s O (.s O (.s O .n))))))))) (fD.calls _ _ k n.1 n.2 p.1 (e1.lend 0 O) e2 e3) e0) O O O ?_)))))))))))
 intro l6
 refine vm O O (vq (bF O O O) O (vq (bF O O O) O (vq (bF O O O) O (va O O (va O O (va O O (ae (aa (ay (sr (vm O O (vq (fh O O) O (vm O O ?_)))))))))))))
 refine da 9 (S := Bool) (Unit) (fun s y => [(0, Iv x0), (1, .slice a1 x1.length c1), (7, Pt e.1), (8, Pt l.1), (11, Iv d.1), (12, .slice m.1 q.length m.2), (13, Iv o.1), (15, Iv o.2.2), (16, Iv al.1), (18, .slice n.1 p.1.length n.2), (19, Iv p.2), (21, Iv af.2.1), (22, Iv af.2.2), (133, .bool s)]) (fun s y => [obj e.1 97 [.map (some c.1), str a.2.1, Iv a.2.2.1, .bool a.2.2.2.1], obj l.1 91 [Pt e.1, Iv a.2.2.2.2.1, .slice c.2.2.1 a.2.2.2.2.2.1.length c.2.2.2.1, Iv a.2.2.2.2.2.2.1, Iv a.2.2.2.2.2.2.2.1, Iv a.2.2.2.2.2.2.2.2.1, Iv a.2.2.2.2.2.2.2.2.2.1, Iv a.2.2.2.2.2.2.2.2.2.2.1, Iv a.2.2.2.2.2.2.2.2.2.2.2.1, .slice c.2.2.2.2.2.1 a.2.2.2.2.2.2.2.2.2.2.2.2.1.length c.2.2.2.2.2.2, .bool a.2.2.2.2.2.2.2.2.2.2.2.2.2], am 9 1 (V9 tt) m.1 q m.2, Row 5 1 n.1 p.1.length n.2 (ax p.1), ao (aj c.1 ap ak c.2.1) ai c.2.1 a.1, am 3 1 (V3 tt) c.2.2.1 a.2.2.2.2.2.1 c.2.2.2.1, am 144 5 (aM (c.2.2.2.2.1)) c.2.2.2.2.2.1 a.2.2.2.2.2.2.2.2.2.2.2.2.1 c.2.2.2.2.2.2, c.2.2.2.2.1, F]) ?_ ?_
 refine ee (fun e4 => ?_) (fun e5 => ?_)
 rw [e4]
 refine aC O O O O O O (aC O O O O O O (aC O O O O O O (ce O O O O O (ce O O O O O (ce O O O O O (ce O O O O O (aC O O O O O O (vq (bP O O O O O) O (ae ?_)))))))))
 exact aG (s := true) () ⟨O, O, O, O, O, O, O, O, O, O, O, O, O, O, trivial⟩ (.sel 3 O (.sel 4 O (.sel' 4 O (am.mk a5) (.sel 2 O (.sel 2 O (.sel 2 O (.sel 2 O (.sel 2 O (.sel 2 O .n)))))))))
 rw [e5]
 refine aJ (aY O O) O O O O O O (aJ (cC O O O) O O O O O O (aJ (aY O O) O O O O O O (aw (b := decide ((0 : Int) < o.2.2)) (fun jg => RQ.sub (E' := [(16, Iv al.1)]) ⟨O, trivial⟩ (aY O O)) O O O O O (aw (b := decide ((0 : Int) < o.2.2)) (fun j0 => RQ.sub (E' := [(14, Iv o.2.1)]) ⟨O, trivial⟩ (aY O O)) O O O O O (aw (b := decide ((0 : Int) < o.2.2)) (fun e6 => RQ.sub (E' := [(129, Iv o.2.1)]) ⟨aH O e6, trivial⟩ (ca O O O)) O O O O O (aw (b := decide ((0 : Int) < o.2.2)) (fun b8 => RQ.sub (E' := [(128, Iv al.1), (130, Iv (IntKind.i64.wrap (o.2.1 + 1)))]) ⟨aH O b8, aH O b8, trivial⟩ (cS O O O)) O O O O O (aJ (dF O O O) O O O O O O (vq (bP O O O O O) O (ae ?_)))))))))
 exact aG (s := (decide ((0 : Int) < o.2.2)) && (!decide (al.1 = IntKind.i64.wrap (o.2.1 + 1)))) () ⟨O, O, O, O, O, O, O, O, O, O, O, O, O, O, trivial⟩ (.sel 3 O (.sel 4 O (.sel' 4 O (am.mk a5) (.sel 2 O (.sel 2 O (.sel 2 O (.sel 2 O (.sel 2 O (.sel 2 O .n)))))))))
 intro l7 l8
 refine vm O O ?_
 refine da 4 (S := Bool) (Unit) (fun s y => [(0, Iv x0), (1, .slice a1 x1.length c1), (7, Pt e.1), (8, Pt l.1), (11, Iv d.1), (12, .slice m.1 q.length m.2), (13, Iv o.1), (15, Iv o.2.2), (16, Iv al.1), (18, .slice n.1 p.1.length n.2), (21, Iv af.2.1), (22, Iv af.2.2), (138, .bool s)]) (fun s y => [obj e.1 97 [.map (some c.1), str a.2.1, Iv a.2.2.1, .bool a.2.2.2.1], obj l.1 91 [Pt e.1, Iv a.2.2.2.2.1, .slice c.2.2.1 a.2.2.2.2.2.1.length c.2.2.2.1, Iv a.2.2.2.2.2.2.1, Iv a.2.2.2.2.2.2.2.1, Iv a.2.2.2.2.2.2.2.2.1, Iv a.2.2.2.2.2.2.2.2.2.1, Iv a.2.2.2.2.2.2.2.2.2.2.1, Iv a.2.2.2.2.2.2.2.2.2.2.2.1, .slice c.2.2.2.2.2.1 a.2.2.2.2.2.2.2.2.2.2.2.2.1.length c.2.2.2.2.2.2, .bool a.2.2.2.2.2.2.2.2.2.2.2.2.2], am 9 1 (V9 tt) m.1 q m.2, Row 5 1 n.1 p.1.length n.2 (ax p.1), ao (aj c.1 ap ak c.2.1) ai c.2.1 a.1, am 3 1 (V3 tt) c.2.2.1 a.2.2.2.2.2.1 c.2.2.2.1, am 144 5 (aM (c.2.2.2.2.1)) c.2.2.2.2.2.1 a.2.2.2.2.2.2.2.2.2.2.2.2.1 c.2.2.2.2.2.2, c.2.2.2.2.1, F]) ?_ ?_
 refine ee (fun e7 => ?_) (fun e8 => ?_)
 rw [e7]
 refine aC O O O O O O (aC O O O O O O (aC O O O O O O (vq (bP O O O O O) O (ae ?_))))
 exact aG (s := true) () ⟨O, O, O, O, O, O, O, O, O, O, O, O, O, trivial⟩ (.s O (.s O (.s O (.s O (.s O (.s O (.s O (.s O (.s O .n)))))))))
 rw [e8]
 refine aJ (aY O O) O O O O O O (av (fun hH e9 => (fk (au (vs := [Iv p.2]) (cap := []) (A := []) (rst := [obj e.1 97 [.map (some c.1), str a.2.1, Iv a.2.2.1, .bool a.2.2.2.1], obj l.1 91 [Pt e.1, Iv a.2.2.2.2.1, .slice c.2.2.1 a.2.2.2.2.2.1.length c.2.2.2.1, Iv a.2.2.2.2.2.2.1, Iv a.2.2.2.2.2.2.2.1, Iv a.2.2.2.2.2.2.2.2.1, Iv a.2.2.2.2.2.2.2.2.2.1, Iv a.2.2.2.2.2.2.2.2.2.2.1, Iv a.2.2.2.2.2.2.2.2.2.2.2.1, .slice c.2.2.2.2.2.1 a.2.2.2.2.2.2.2.2.2.2.2.2.1.length c.2.2.2.2.2.2, .bool a.2.2.2.2.2.2.2.2.2.2.2.2.2], am 9 1 (V9 tt) m.1 q m.2, Row 5 1 n.1 p.1.length n.2 (ax p.1), ao (aj c.1 ap ak c.2.1) ai c.2.1 a.1, am 3 1 (V3 tt) c.2.2.1 a.2.2.2.2.2.1 c.2.2.2.1, am 144 5 (aM (c.2.2.2.2.1)) c.2.2.2.2.2.1 a.2.2.2.2.2.2.2.2.2.2.2.2.1 c.2.2.2.2.2.2, c.2.2.2.2.1, F]) O O O O O O call13 (.s O (.s O (.s O (.s O (.s O (.s O (.s O (.s O (.s O .n))))))))) (cV.calls _ _ p.2 ) e9) O O O O O O ?_)))
 intro l9
 refine aJ (cS O O O) O O O O O O (vq (bP O O O O O) O (ae ?_))
 exact aG (s := !decide (hH = (0 : Int))) () ⟨O, O, O, O, O, O, O, O, O, O, O, O, O, trivial⟩ (.s O (.s O (.s O (.s O (.s O (.s O (.s O (.s O (.s O .n)))))))))
 intro mo ms
 refine vm O O ?_
 refine da 4 (S := Bool) (Unit) (fun s y => [(0, Iv x0), (1, .slice a1 x1.length c1), (7, Pt e.1), (8, Pt l.1), (11, Iv d.1), (12, .slice m.1 q.length m.2), (13, Iv o.1), (15, Iv o.2.2), (16, Iv al.1), (18, .slice n.1 p.1.length n.2), (21, Iv af.2.1), (143, .bool s)]) (fun s y => [obj e.1 97 [.map (some c.1), str a.2.1, Iv a.2.2.1, .bool a.2.2.2.1], obj l.1 91 [Pt e.1, Iv a.2.2.2.2.1, .slice c.2.2.1 a.2.2.2.2.2.1.length c.2.2.2.1, Iv a.2.2.2.2.2.2.1, Iv a.2.2.2.2.2.2.2.1, Iv a.2.2.2.2.2.2.2.2.1, Iv a.2.2.2.2.2.2.2.2.2.1, Iv a.2.2.2.2.2.2.2.2.2.2.1, Iv a.2.2.2.2.2.2.2.2.2.2.2.1, .slice c.2.2.2.2.2.1 a.2.2.2.2.2.2.2.2.2.2.2.2.1.length c.2.2.2.2.2.2, .bool a.2.2.2.2.2.2.2.2.2.2.2.2.2], am 9 1 (V9 tt) m.1 q m.2, Row 5 1 n.1 p.1.length n.2 (ax p.1), ao (aj c.1 ap ak c.2.1) ai c.2.1 a.1, am 3 1 (V3 tt) c.2.2.1 a.2.2.2.2.2.1 c.2.2.2.1, am 144 5 (aM (c.2.2.2.2.1)) c.2.2.2.2.2.1 a.2.2.2.2.2.2.2.2.2.2.2.2.1 c.2.2.2.2.2.2, c.2.2.2.2.1, F]) ?_ ?_
 refine ee (fun fn => ?_) (fun fp => ?_)
 rw [fn]
 refine aC O O O O O O (aC O O O O O O (aC O O O O O O (vq (bP O O O O O) O (ae ?_))))
 exact aG (s := true) () ⟨O, O, O, O, O, O, O, O, O, O, O, O, trivial⟩ (.s O (.s O (.s O (.s O (.s O (.s O (.s O (.s O (.s O .n)))))))))
 rw [fp]
 refine aJ (aY O O) O O O O O O (av (fun hI fr => (fk (au (vs := [Iv af.2.2]) (cap := []) (A := []) (rst := [obj e.1 97 [.map (some c.1), str a.2.1, Iv a.2.2.1, .bool a.2.2.2.1], obj l.1 91 [Pt e.1, Iv a.2.2.2.2.1, .slice c.2.2.1 a.2.2.2.2.2.1.length c.2.2.2.1, Iv a.2.2.2.2.2.2.1, Iv a.2.2.2.2.2.2.2.1, Iv a.2.2.2.2.2.2.2.2.1, Iv a.2.2.2.2.2.2.2.2.2.1, Iv a.2.2.2.2.2.2.2.2.2.2.1, Iv a.2.2.2.2.2.2.2.2.2.2.2.1, .slice c.2.2.2.2.2.1 a.2.2.2.2.2.2.2.2.2.2.2.2.1.length c.2.2.2.2.2.2, .bool a.2.2.2.2.2.2.2.2.2.2.2.2.2], am 9 1 (V9 tt) m.1 q m.2, Row 5 1 n.1 p.1.length n.2 (ax p.1), ao (aj c.1 ap ak c.2.1) ai c.2.1 a.1, am 3 1 (V3 tt) c.2.2.1 a.2.2.2.2.2.1 c.2.2.2.1, am 144 5 (aM (c.2.2.2.2.1)) c.2.2.2.2.2.1 a.2.2.2.2.2.2.2.2.2.2.2.2.1 c.2.2.2.2.2.2, c.2.2.2.2.1, F]) O O O O O O call13 (.s O (.s O (.s O (.s O (.s O (.s O (.s O (.s O (.s O .n))))))))) (cV.calls _ _ af.2.2 ) fr) O O O O O O ?_)))
 intro mu
 refine aJ (cS O O O) O O O O O O (vq (bP O O O O O) O (ae ?_))
 exact aG (s := !decide (hI = (0 : Int))) () ⟨O, O, O, O, O, O, O, O, O, O, O, O, trivial⟩ (.s O (.s O (.s O (.s O (.s O (.s O (.s O (.s O (.s O .n)))))))))
 intro a9 my
 refine vm O O (aw (b := a9) (fun j1 => RQ.sub (E' := [(21, Iv af.2.1)]) ⟨O, trivial⟩ (aY O O)) O O O O O (aw (b := a9) (fun j2 => RQ.sub (E' := [(18, .slice n.1 p.1.length n.2)]) ⟨O, trivial⟩ (aY O O)) O O O O O (aw (b := a9) (fun fs => RQ.sub (E' := [(146, .slice n.1 p.1.length n.2)]) ⟨aH O fs, trivial⟩ (bC O O O underlying33)) O O O O O (aw (b := a9) (fun b9 => RQ.sub (E' := [(145, Iv af.2.1), (147, Iv (p.1.length : Int))]) ⟨aH O b9, aH O b9, trivial⟩ (cS O O O)) O O O O O (vq (fb O O O) O (vm O O ?_))))))
 refine da 12 (S := Bool) (Unit) (fun s y => [(0, Iv x0), (1, .slice a1 x1.length c1), (7, Pt e.1), (8, Pt l.1), (11, Iv d.1), (12, .slice m.1 q.length m.2), (13, Iv o.1), (15, Iv o.2.2), (16, Iv al.1), (18, .slice n.1 p.1.length n.2), (162, .bool s)]) (fun s y => [obj e.1 97 [.map (some c.1), str a.2.1, Iv a.2.2.1, .bool a.2.2.2.1], obj l.1 91 [Pt e.1, Iv a.2.2.2.2.1, .slice c.2.2.1 a.2.2.2.2.2.1.length c.2.2.2.1, Iv a.2.2.2.2.2.2.1, Iv a.2.2.2.2.2.2.2.1, Iv a.2.2.2.2.2.2.2.2.1, Iv a.2.2.2.2.2.2.2.2.2.1, Iv a.2.2.2.2.2.2.2.2.2.2.1, Iv a.2.2.2.2.2.2.2.2.2.2.2.1, .slice c.2.2.2.2.2.1 a.2.2.2.2.2.2.2.2.2.2.2.2.1.length c.2.2.2.2.2.2, .bool a.2.2.2.2.2.2.2.2.2.2.2.2.2], am 9 1 (V9 tt) m.1 q m.2, Row 5 1 n.1 p.1.length n.2 (ax p.1), ao (aj c.1 ap ak c.2.1) ai c.2.1 a.1, am 3 1 (V3 tt) c.2.2.1 a.2.2.2.2.2.1 c.2.2.2.1, am 144 5 (aM (c.2.2.2.2.1)) c.2.2.2.2.2.1 a.2.2.2.2.2.2.2.2.2.2.2.2.1 c.2.2.2.2.2.2, c.2.2.2.2.1, F]) ?_ ?_
 refine ee (fun fz => ?_) (fun go => ?_)
 rw [fz]
 refine aC O O O O O O (aC O O O O O O (aC O O O O O O (aC O O O O O O (aC O O O O O O (aC O O O O O O (ce O O O O O (ce O O O O O (ce O O O O O (ce O O O O O (aC O O O O O O (vq (bP O O O O O) O (ae ?_))))))))))))
 exact aG (s := true) () ⟨O, O, O, O, O, O, O, O, O, O, O, trivial⟩ (.s O (.s O (.s O (.s O (.s O (.s O (.s O (.s O (.s O .n)))))))))
 rw [go]
 refine aJ (aY O O) O O O O O O (aJ (aY O O) O O O O O O (aJ (bC O O O underlying60) O O O O O O (aJ (cW O O O) O O O O O O (aJ (cD O O O) O O O O O O (aJ (aY O O) O O O O O O (aw (b := decide (o.2.2 < IntKind.i64.wrap ((q.length : Int) - 1))) (fun j3 => RQ.sub (E' := [(18, .slice n.1 p.1.length n.2)]) ⟨O, trivial⟩ (aY O O)) O O O O O (aw (b := decide (o.2.2 < IntKind.i64.wrap ((q.length : Int) - 1))) (fun gs => RQ.sub (E' := [(157, .slice n.1 p.1.length n.2)]) ⟨aH O gs, trivial⟩ (bC O O O underlying33)) O O O O O (aw (b := decide (o.2.2 < IntKind.i64.wrap ((q.length : Int) - 1))) (fun j4 => RQ.sub (E' := [(0, Iv x0)]) ⟨O, trivial⟩ (aY O O)) O O O O O (aw (b := decide (o.2.2 < IntKind.i64.wrap ((q.length : Int) - 1))) (fun cd => RQ.sub (E' := [(158, Iv (p.1.length : Int)), (159, Iv x0)]) ⟨aH O cd, aH O cd, trivial⟩ (cD O O O)) O O O O O (aJ (dF O O O) O O O O O O (vq (bP O O O O O) O (ae ?_))))))))))))
 exact aG (s := (decide (o.2.2 < IntKind.i64.wrap ((q.length : Int) - 1))) && (decide ((p.1.length : Int) < x0))) () ⟨O, O, O, O, O, O, O, O, O, O, O, trivial⟩ (.s O (.s O (.s O (.s O (.s O (.s O (.s O (.s O (.s O .n)))))))))
 intro m0 m1
 refine ae (aa ?_)
 refine aX O (fun m2 => ?_) (fun m3 => ?_)
 refine sr (va O O (ae (aa (aA (aN (bi (aN (eH (bi (dP (bi (dP (eH (bi (dP ?_)))))))))))))))
 exact aE () O O O (.sel 8 O .n)
 refine aB (aa (sr (vm O O (va O O (ny (vm O O (vm O O (vq (bC O O O underlying33) O (vq (ca O O O) O (va O O (ae (bq (aa (aK (vm O O (vq (ca O O O) O (va O O (ae ?_))))))))))))))))))
 exact bV (s := (IntKind.i64.wrap (o.1 + (p.1.length : Int)), al.1, IntKind.i64.wrap (o.2.2 + 1))) () ⟨O, O, O, O, O, O, O, O, O, trivial⟩ (.s O (.s O (.s O (.sel 1 O (.sel 1 O (.sel 1 O (.sel 1 O (.sel 1 O .n))))))))
 refine cL (cp (cw (cq ?_)))
 exact eR (s := o.1) () ⟨O, O, O, O, O, O, O, trivial⟩ (.s O (.s O (.s O (.s O (.s O (.s O (.s O (.s O .n))))))))
 intro m4 m5
 refine sr (vm O O (bg 4 O (fun ch br => (bg 5 O (fun c0 bs => (av (fun m6 gy => (bj 4 O (fun g0 g1 g2 j5 => (bj 5 O (fun g3 g4 g5 j6 => (ah (au (vs := [Pt l.1]) (cap := []) (A := [obj e.1 97 [.map (some c.1), str a.2.1, Iv a.2.2.1, .bool a.2.2.2.1], ao (aj c.1 ap ak c.2.1) ai c.2.1 a.1, obj l.1 91 [Pt e.1, Iv a.2.2.2.2.1, .slice c.2.2.1 a.2.2.2.2.2.1.length c.2.2.2.1, Iv a.2.2.2.2.2.2.1, Iv a.2.2.2.2.2.2.2.1, Iv a.2.2.2.2.2.2.2.2.1, Iv a.2.2.2.2.2.2.2.2.2.1, Iv a.2.2.2.2.2.2.2.2.2.2.1, Iv a.2.2.2.2.2.2.2.2.2.2.2.1, .slice c.2.2.2.2.2.1 a.2.2.2.2.2.2.2.2.2.2.2.2.1.length c.2.2.2.2.2.2, .bool a.2.2.2.2.2.2.2.2.2.2.2.2.2]]) (rst := [am 9 1 (V9 tt) m.1 q m.2, Row 3 1 c.2.2.1 a.2.2.2.2.2.1.length c.2.2.2.1 ch.flatten, Row 144 5 c.2.2.2.2.2.1 a.2.2.2.2.2.2.2.2.2.2.2.2.1.length c.2.2.2.2.2.2 c0.flatten, c.2.2.2.2.1, F]) O O O O O O call28 (.s O (.sel 2 O (.s O (.s O (.s O (.s O (.s O (.s O .n)))))))) (bR.calls _ _ k l.1 e.1 c.1 c.2.1 a.1 a.2.1 a.2.2.1 a.2.2.2.1 a.2.2.2.2.1 c.2.2.1 c.2.2.2.1 a.2.2.2.2.2.1 a.2.2.2.2.2.2.1 a.2.2.2.2.2.2.2.1 a.2.2.2.2.2.2.2.2.1 a.2.2.2.2.2.2.2.2.2.1 a.2.2.2.2.2.2.2.2.2.2.1 a.2.2.2.2.2.2.2.2.2.2.2.1 c.2.2.2.2.2.1 c.2.2.2.2.2.2 a.2.2.2.2.2.2.2.2.2.2.2.2.1 a.2.2.2.2.2.2.2.2.2.2.2.2.2 ((Rd.asV br g0).up (Up.lend 1 O) (fun _ _ h => h)) g1 g2 ((Rd.asV bs g3).up (Up.lend 2 O) (aM.up (Up.lend 3 O))) g4 g5 (hgl.lend 4 O)) gy) O O O ?_))))))))))))
 intro m7
 refine vm O O (vq (cS O O O) O (vm O O ?_))
 refine da 8 (S := Bool) (Unit) (fun s y => [(0, Iv x0), (1, .slice a1 x1.length c1), (7, Pt e.1), (8, Pt l.1), (11, Iv d.1), (180, .bool s)]) (fun s y => [obj e.1 97 [.map (some c.1), str a.2.1, Iv a.2.2.1, .bool a.2.2.2.1], obj l.1 91 [Pt e.1, Iv a.2.2.2.2.1, .slice c.2.2.1 a.2.2.2.2.2.1.length c.2.2.2.1, Iv a.2.2.2.2.2.2.1, Iv a.2.2.2.2.2.2.2.1, Iv a.2.2.2.2.2.2.2.2.1, Iv a.2.2.2.2.2.2.2.2.2.1, Iv a.2.2.2.2.2.2.2.2.2.2.1, Iv a.2.2.2.2.2.2.2.2.2.2.2.1, .slice c.2.2.2.2.2.1 a.2.2.2.2.2.2.2.2.2.2.2.2.1.length c.2.2.2.2.2.2, .bool a.2.2.2.2.2.2.2.2.2.2.2.2.2], ao (aj c.1 ap ak c.2.1) ai c.2.1 a.1, am 3 1 (V3 tt) c.2.2.1 a.2.2.2.2.2.1 c.2.2.2.1, am 144 5 (aM (c.2.2.2.2.1)) c.2.2.2.2.2.1 a.2.2.2.2.2.2.2.2.2.2.2.2.1 c.2.2.2.2.2.2, c.2.2.2.2.1, F]) ?_ ?_
 refine kS (fun g6 => ?_) (fun g7 => ?_)
 rw [g6]
 refine aC O O O O O O (aC O O O O O O (aC O O O O O O (aC O O O O O O (aC O O O O O O (aC O O O O O O (aC O O O O O O (vq (bP O O O O O) O (ae ?_))))))))
 exact aG (s := true) () ⟨O, O, O, O, O, O, trivial⟩ (.s O (.sel 1 O (.s O (.sel' 1 O (am.mk br) (.sel' 1 O (am.mk bs) (.sel 1 O (.sel 1 O .n)))))))
 rw [g7]
 refine aJ (aY O O) O O O O O O (av (fun hK g8 => (fk (au (vs := [Pt e.1]) (cap := []) (A := [obj e.1 97 [.map (some c.1), str a.2.1, Iv a.2.2.1, .bool a.2.2.2.1], ao (aj c.1 ap ak c.2.1) ai c.2.1 a.1]) (rst := [obj l.1 91 [Pt e.1, Iv a.2.2.2.2.1, .slice c.2.2.1 a.2.2.2.2.2.1.length c.2.2.2.1, Iv a.2.2.2.2.2.2.1, Iv a.2.2.2.2.2.2.2.1, Iv a.2.2.2.2.2.2.2.2.1, Iv a.2.2.2.2.2.2.2.2.2.1, Iv a.2.2.2.2.2.2.2.2.2.2.1, Iv a.2.2.2.2.2.2.2.2.2.2.2.1, .slice c.2.2.2.2.2.1 a.2.2.2.2.2.2.2.2.2.2.2.2.1.length c.2.2.2.2.2.2, .bool a.2.2.2.2.2.2.2.2.2.2.2.2.2], am 9 1 (V9 tt) m.1 q m.2, Row 3 1 c.2.2.1 a.2.2.2.2.2.1.length c.2.2.2.1 ch.flatten, Row 144 5 c.2.2.2.2.2.1 a.2.2.2.2.2.2.2.2.2.2.2.2.1.length c.2.2.2.2.2.2 c0.flatten, c.2.2.2.2.1, F]) O O O O O O call29 (.s O (.s O (.s O (.s O (.s O (.s O (.s O (.s O .n)))))))) (dE.calls _ _ e.1 c.1 c.2.1 a.1 a.2.1 a.2.2.1 a.2.2.2.1 ) g8) O O O O O O ?_)))
 intro m8
 refine aJ (bC O O O underlying60) O O O O O O (aJ (aY O O) O O O O O O (aJ (bC O O O underlying60) O O O O O O (aJ (ca O O O) O O O O O O (aJ (cS O O O) O O O O O O (vq (bP O O O O O) O (ae ?_))))))
 exact aG (s := !decide ((hK.length : Int) = IntKind.i64.wrap ((q.length : Int) + 1))) () ⟨O, O, O, O, O, O, trivial⟩ (.sel 1 O (.sel 2 O (.sel 1 O (.sel' 2 O (am.mk br) (.sel' 2 O (am.mk bs) (.sel 2 O (.sel 2 O .n)))))))
 intro m9 nd
 refine ae (aa ?_)
 refine aX O (fun nm => ?_) (fun nn => ?_)
 refine sr (va O O (ae (aa (aA (bi (dP (eH (bi (dP ?_)))))))))
 exact aE () O O O (.sel 6 O .n)
 refine aB (bq ?_)
 exact eR (s := (a.1, a.2.1, a.2.2.1, a.2.2.2.1, a.2.2.2.2.1, a.2.2.2.2.2.1, a.2.2.2.2.2.2.1, a.2.2.2.2.2.2.2.1, a.2.2.2.2.2.2.2.2.1, a.2.2.2.2.2.2.2.2.2.1, a.2.2.2.2.2.2.2.2.2.2.1, a.2.2.2.2.2.2.2.2.2.2.2.1, a.2.2.2.2.2.2.2.2.2.2.2.2.1, a.2.2.2.2.2.2.2.2.2.2.2.2.2)) (c.1, c.2.1, c.2.2.1, c.2.2.2.1, c.2.2.2.2.1, c.2.2.2.2.2.1, c.2.2.2.2.2.2) ⟨O, O, O, O, O, trivial⟩ (.s O (.s O (.s O (.s O (.s O (.s O (.s O .n)))))))
 intro z a4
 refine aK (vm O O (vq (ca O O O) O (va O O (ae ?_))))
 exact bV (s := (IntKind.i64.wrap (d.1 + 1), z.2.2.2.2.1, z.2.2.2.2.2.1, z.2.2.2.2.2.2.1, z.2.2.2.2.2.2.2.1, z.2.2.2.2.2.2.2.2.1, z.2.2.2.2.2.2.2.2.2.1, z.2.2.2.2.2.2.2.2.2.2.1, z.2.2.2.2.2.2.2.2.2.2.2.1, z.2.2.2.2.2.2.2.2.2.2.2.2.1, z.2.2.2.2.2.2.2.2.2.2.2.2.2, z.1, z.2.1, z.2.2.1, z.2.2.2.1)) (a4.2.2.1, a4.2.2.2.1, a4.2.2.2.2.1, a4.2.2.2.2.2.1, a4.2.2.2.2.2.2, a4.1, a4.2.1) ⟨O, O, O, O, O, trivial⟩ (.sel 1 O (.s O (.sel 1 O (.sel 1 O (.s O (.s O (.s O .n)))))))
 refine cL (cp (cw (cq ?_)))
 exact eR (s := (d.2.2.2.2.2.2.2.2.2.2.2.1, d.2.2.2.2.2.2.2.2.2.2.2.2.1, d.2.2.2.2.2.2.2.2.2.2.2.2.2.1, d.2.2.2.2.2.2.2.2.2.2.2.2.2.2)) (g.2.2.2.2.2.1, g.2.2.2.2.2.2) ⟨O, trivial⟩ (.sel 1 O (.sel 3 O (.sel 4 O .n)))
 intro ad an
 refine sr (vm O O (av (fun bc g9 => (ah (au (vs := [Pt e.1, str ([111, 116, 104, 101, 114] : Lb)]) (cap := []) (A := [obj e.1 97 [.map (some an.1), str ad.2.1, Iv ad.2.2.1, .bool ad.2.2.2], ao (aj an.1 ap ak an.2) ai an.2 ad.1]) (rst := [F]) O O O O O O call26 (.s O (.s O (.s O .n))) (cc.calls _ _ e.1 an.1 an.2 ad.1 ad.2.1 ad.2.2.1 ad.2.2.2 ([111, 116, 104, 101, 114] : Lb) ) g9) O O O ?_))))
 intro a2
 refine vm O O (vq (bF O O O) O (vq (bF O O O) O (va O O (va O O (nx (vm O O (ah (kA (cs := [.int .u8 1, .int .u8 2]) ([1, 2] : Lb) O O underlying33 gg O (by kernel_rfl) O O O) O O O ?_)))))))
 intro b2
 refine av (fun no ha => (bj 1 O (fun hb hc he j7 => (bj 0 O (fun hf hg hh j8 => (ah (au (vs := [.slice a2.1 bc.1.length a2.2, .slice (some ⟨b2, 0, none⟩) (([1, 2] : Lb).length) 2]) (cap := []) (A := []) (rst := [Row 5 1 (some ⟨b2, 0, none⟩) ([1, 2] : Lb).length 2 (ax ([1, 2] : Lb)), Row 5 1 a2.1 bc.1.length a2.2 (ax bc.1), obj e.1 97 [.map (some an.1), str ad.2.1, Iv ad.2.2.1, .bool ad.2.2.2], ao (aj an.1 ap ak an.2) ai an.2 ad.1, F]) O O O O O O call30 (.s O (.s O (.s O (.s O (.s O .n))))) (bW.calls _ _ k a2.1 a2.2 bc.1 (some ⟨b2, 0, none⟩) 2 ([1, 2] : Lb) (hb.lend 1 O) hc he (hf.lend 0 O) hg hh) ha) O O O ?_))))))
 intro nu
 refine va O O (ae (aa (aA ?_)))
 exact aE () O O O (.sel 4 O .n)
 refine ah (au (vs := [Pt e.1, Iv x0]) (cap := []) (A := [obj e.1 97 [.map (some ab.1), str u.2.2.1, Iv u.2.2.2.1, .bool u.2.2.2.2], ao (aj ab.1 ap ak ab.2) ai ab.2 u.2.1]) (rst := [Row 5 1 (some ⟨bd, 0, none⟩) ([1, 2] : Lb).length 2 (ax ([1, 2] : Lb)), F]) O O O O O O call15 (.s O (.s O (.s O (.s O .n)))) (bT.callsN _ _ k e.1 ab.1 ab.2 u.2.1 u.2.2.1 u.2.2.2.1 u.2.2.2.2 x0 (hgl.lend 1 O)) (lM c4 (eq_false_of_ne_true b1))) O O O ?_
 intro n0
 refine vm O O (vq (bF O O O) O (vq (bF O O O) O (vq (bF O O O) O (va O O (va O O (va O O (ae (aa (ay (sr (vm O O (vq (kw O O O underlying36) O (ae (aa (fJ O (sr (va O O (ae (aa (aA (aN ?_)))))))))))))))))))))
 exact aE () O O O (.sel 3 O .n)
end Go.Proofs.YtndjkejhacfpdaaGreatDoor

namespace Go.Proofs.YtndjkejhacfpdaaGreatDoor
open Go.RowKit

theorem w64 {n : Int} (q : -9223372036854775808 ≤ n) (h1 : n ≤ 9223372036854775807) : IntKind.i64.wrap n = n := by rw [IntKind.wrap_i64]; omega
theorem w8 {n : Int} (q : 0 ≤ n) (h1 : n < 256) : IntKind.u8.wrap n = n := by rw [IntKind.wrap_u8]; omega
theorem ow (n : Int) (q : 0 ≤ n) (r : n < 2 ^ 63) : IntKind.i64.wrap n = n := by rw [IntKind.wrap_i64]; omega
theorem vv {n : Int} (q : 0 ≤ n) (h1 : n < 2 ^ 63) : bQ .and .i64 n 127 = n % 128 := bits_mask .i64 63 (by decide) ow 7 (by decide) n q h1
theorem wc {n : Int} (q : 0 ≤ n) (h1 : n < 128) : bQ .or .i64 n 128 = n + 128 := by
 obtain ⟨a, rfl⟩ := Int.eq_ofNat_of_zero_le q
 have r : a < 128 := by omega
 have e := (bits_nat .i64 63 (by decide) ow a 128 (by omega) (by decide)).2
 show bits .or .i64 (a : Int) ((128 : Nat) : Int) = _
 rw [e]
 have u := Nat.two_pow_add_eq_or_of_lt (i := 7) (b := a) r 1
 have : a ||| 128 = 128 + a := by rw [Nat.or_comm]; simpa using u.symm
 rw [this]; omega
theorem vt (n : Nat) : Int.fdiv (n : Int) (2 ^ (min (7 : Int).toNat IntKind.i64.bits)) = ((n / 128 : Nat) : Int) := by
 show Int.fdiv (n : Int) 128 = _
 rw [Int.fdiv_eq_ediv_of_nonneg _ (by decide)]
 simp
theorem sj (b : UInt8) : dr (b.toNat : Int) = b := by simp [dr]
theorem qV (l : List UInt8) (i : Nat) : (l.getD i 0).toNat < 256 := UInt8.toNat_lt _

def sv (n : Nat) : List UInt8 := if h : n < 128 then [UInt8.ofNat n] else UInt8.ofNat (n % 128 + 128) :: sv (n / 128)
theorem oM {n : Nat} (h : n < 128) : sv n = [UInt8.ofNat n] := by rw [sv]; simp [h]
theorem rp {n : Nat} (h : 128 ≤ n) : sv n = UInt8.ofNat (n % 128 + 128) :: sv (n / 128) := by rw [sv]; simp [Nat.not_lt.2 h]
theorem wn (n : Nat) : sv n ≠ [] := by rw [sv]; split <;> simp
theorem oY (n : Nat) : 0 < (sv n).length := List.length_pos_iff.2 (wn n)
theorem sW : ∀ (j n : Nat), n < 128 ^ (j + 1) → (sv n).length ≤ j + 1
 | 0, n, h => by rw [oM (by simpa using h)]; simp
 | j + 1, n, h => by
  by_cases hn : n < 128
  ·rw [oM hn]; simp
  ·rw [rp (by omega)]
   have := sW j (n / 128) (by rw [Nat.pow_succ] at h; exact Nat.div_lt_of_lt_mul (by rw [Nat.mul_comm]; exact h))
   simp; omega
theorem sv9 {n : Nat} (h : n < 2 ^ 63) : (sv n).length ≤ 9 := sW 8 n (by omega)
end Go.Proofs.YtndjkejhacfpdaaGreatDoor

namespace Go.Proofs.YtndjkejhacfpdaaGreatDoor
open Go.RowKit

theorem nR : ∀ (j n c k : Nat), n < 128 ^ (j + 1) → j + 1 ≤ k → c + j < 1000 → dU.l0 k (n : Int) (c : Int) = some (((c + ((sv n).length - 1) : Nat)) : Int)
 | j, n, c, 0, _, hk, _ => by omega
 | j, n, c, k + 1, h, hk, hc => by
  simp only [dU.l0]
  by_cases hn : n < 128
  ·rw [if_neg (by omega), oM hn]; simp
  ·rw [if_pos (by omega), vt]
   cases j with
   | zero => simp at h; omega
   | succ j =>
    rw [w64 (by omega) (by omega)]
    have := nR j (n / 128) (c + 1) k (by rw [Nat.pow_succ] at h; exact Nat.div_lt_of_lt_mul (by rw [Nat.mul_comm]; exact h)) (by omega) (by omega)
    have e : ((c : Int) + 1) = ((c + 1 : Nat) : Int) := by simp
    rw [e, this, rp (n := n) (by omega)]
    have := oY (n / 128)
    simp only [List.length_cons, Option.some.injEq, Int.ofNat_inj]
    omega
def okN (x : Int) : Prop := 0 ≤ x ∧ x ≤ 4611686018427387904
instance (x : Int) : Decidable (okN x) := by unfold okN; exact inferInstance
def oO (x : Int) : Int := if okN x then ((sv x.toNat).length : Nat) else 0
theorem nS (x : Int) : ((decide (x < (0 : Int))) || (decide ((4611686018427387904 : Int) < x))) = true ↔ ¬ okN x := by
 unfold okN; simp; omega
theorem oZ {k : Nat} (q : 10 ≤ k) (x : Int) : dU.f k x = some (oO x) := by
 unfold dU.f oO
 by_cases h : okN x
 ·rw [if_neg (by rw [nS]; simpa using h), if_pos h]
  obtain ⟨n, rfl⟩ := Int.eq_ofNat_of_zero_le h.1
  have r : n ≤ 4611686018427387904 := by have := h.2; omega
  have := nR 8 n 1 k (by omega) (by omega) (by omega)
  have e : ((1 : Nat) : Int) = 1 := rfl
  rw [e] at this
  rw [this]
  have := oY n
  simp; omega
 ·rw [if_pos ((nS x).2 h), if_neg h]
/-! The bytes, one by one. -/
theorem vu {n : Nat} (q : n < 2 ^ 63) : IntKind.u8.wrap (bQ .or .i64 (bQ .and .i64 (n : Int) 127) 128) = ((n % 128 + 128 : Nat) : Int) := by
 rw [vv (by omega) (by omega), wc (by omega) (by omega), w8 (by omega) (by omega)]
 simp
theorem mb {S : Type} (q : S → Int → Option S) : ∀ (j n : Nat) (s : S) (k : Nat), n < 128 ^ (j + 1) → j + 1 ≤ k → n < 2 ^ 63 → ((cF.l0 q k (n : Int) s).bind fun r => q r.2 (IntKind.u8.wrap r.1)) = kg q s ((sv n).map fun b => (b.toNat : Int))
 | j, n, s, 0, _, hk, _ => by omega
 | j, n, s, k + 1, h, hk, hs => by
  simp only [cF.l0]
  by_cases hn : n < 128
  ·rw [if_neg (by omega), oM hn]
   have e : (UInt8.ofNat n).toNat = n := by rw [UInt8.toNat_ofNat']; omega
   simp only [Option.bind_some, List.map_cons, List.map_nil, kg, e]
   rw [w8 (by omega) (by omega)]
   cases q s (n : Int) <;> rfl
  ·rw [if_pos (by omega), vt, vu hs, rp (by omega)]
   have e : (UInt8.ofNat (n % 128 + 128)).toNat = n % 128 + 128 := by rw [UInt8.toNat_ofNat']; omega
   simp only [List.map_cons, kg, e]
   cases j with
   | zero => simp at h; omega
   | succ j =>
    cases q s ((n % 128 + 128 : Nat) : Int) with
    | none => rfl
    | some s' => exact mb q j (n / 128) s' k (by rw [Nat.pow_succ] at h; exact Nat.div_lt_of_lt_mul (by rw [Nat.mul_comm]; exact h)) (by omega) (by omega)
theorem si {S : Type} {k : Nat} (D : 10 ≤ k) (q : S → Int → Option S) (s : S) {n : Nat} (u : n < 2 ^ 63) : cF.f k q s (n : Int) = kg q s ((sv n).map fun b => (b.toNat : Int)) := by
 rw [← mb q 8 n s k (by omega) (by omega) u]
 unfold cF.f
 congr 1
 funext r
 cases q r.2 (IntKind.u8.wrap r.1) <;> rfl
def pa (s : List UInt8) (x : Int) : Option (List UInt8) := if 0 ≤ x ∧ x < 256 then (if (s.length + ([(dr x)] : List UInt8).length) * 1 ≤ 140737488355328 then (some (s ++ ([(dr x)] : List UInt8))) else none) else none
theorem qH : ∀ (l s : List UInt8), s.length + l.length ≤ 140737488355328 → kg pa s (l.map fun b => (b.toNat : Int)) = some (s ++ l)
 | [], s, _ => by simp [kg]
 | b :: l, s, h => by
  have q := UInt8.toNat_lt b
  simp only [List.length_cons] at h
  simp only [List.map_cons, kg, pa]
  rw [if_pos (by omega), if_pos (by simp; omega)]
  simp only [Option.bind_some, sj]
  rw [qH l (s ++ [b]) (by simp; omega)]
  simp
def dG (x : Int) : List UInt8 := if okN x then sv x.toNat else []
def erV (x : Int) : Int := if okN x then 0 else 1
theorem mT (x : Int) : oO x = 0 ↔ ¬ okN x := by
 unfold oO
 have := oY x.toNat
 split
 ·rename_i h; simp only [h, not_true_eq_false, iff_false]; omega
 ·rename_i h; simp [h]
/-! Two byte lists. -/
end Go.Proofs.YtndjkejhacfpdaaGreatDoor

namespace Go.Proofs.YtndjkejhacfpdaaGreatDoor
open Go.RowKit

end Go.Proofs.YtndjkejhacfpdaaGreatDoor

namespace Go.Proofs.YtndjkejhacfpdaaGreatDoor
open Go.RowKit
theorem cu (x : Int) : (dG x).length ≤ 9 := by
 unfold dG
 split
 ·rename_i h; have := h.2; exact sv9 (by omega)
 ·simp
theorem oh (x : Int) : erV x = 0 ↔ okN x := by unfold erV; split <;> simp_all
theorem wx (l : List UInt8) (p n : Nat) : cut l (p : Int) ((p + n : Nat) : Int) = (l.drop p).take n := by
 simp only [cut, Int.toNat_natCast]
 rw [List.drop_take]
 congr 1
 omega
end Go.Proofs.YtndjkejhacfpdaaGreatDoor

namespace Go.Proofs.YtndjkejhacfpdaaGreatDoor
open Go.RowKit
theorem sR {x : List UInt8} (h : x.length ≤ 140737488355328) : eS.f x = some x := by
 unfold eS.f
 rw [if_pos (by omega)]
 simp [jj]
/-! ### The reader -/
end Go.Proofs.YtndjkejhacfpdaaGreatDoor

namespace Go.Proofs.YtndjkejhacfpdaaGreatDoor
open Go.RowKit
def pP (b : List UInt8) (e x : Int) : List UInt8 × Int := if e = 0 then (b ++ dG x, erV x) else (b, e)
def nc (b : List UInt8) (e : Int) (l : List UInt8) (most : Int) : List UInt8 × Int :=
 if e = 0 then (if max most 0 < (l.length : Int) then (b, 3) else (b ++ dG (l.length : Int) ++ l, 0)) else (b, e)
theorem ra {k : Nat} (q : 10 ≤ k) {b : List UInt8} (r : b.length + 9 ≤ 140737488355328) (e x : Int) : bu.f k b e x = some (pP b e x) := by
 unfold bu.f pP
 by_cases he : e = 0
 ·rw [if_pos he, if_pos he, oZ q, Option.bind_some]
  unfold dG erV
  by_cases h : okN x
  ·obtain ⟨n, rfl⟩ := Int.eq_ofNat_of_zero_le h.1
   have u : n ≤ 4611686018427387904 := by have := h.2; omega
   have D := sv9 (n := n) (by omega)
   rw [if_neg (by rw [mT]; simpa using h), if_pos h, if_pos h]
   show ((cF.f k pa b (n : Int)).bind _) = _
   rw [si q _ _ (by omega), qH _ _ (by omega), he]
   rfl
  ·rw [if_pos ((mT x).2 h), if_neg h, if_neg h]; simp
 ·rw [if_neg he, if_neg he]
theorem vb {l : List UInt8} (h : l.length < 2 ^ 47) : okN (l.length : Int) := ⟨by omega, by omega⟩
theorem sN {k : Nat} (q : 10 ≤ k) {b l : List UInt8} (u : b.length + 9 + l.length < 140737488355328) (e most : Int) : dq.f k b e l most = some (nc b e l most) := by
 unfold dq.f nc
 by_cases he : e = 0
 ·by_cases hm : max most 0 < (l.length : Int)
  ·rw [if_pos (by simp [he]; omega), if_pos he, if_pos hm]; rfl
  ·have r := vb (l := l) (by omega)
   have D := cu (l.length : Int)
   rw [if_neg (by simp; omega), if_pos he, if_neg hm, Option.bind_some, if_pos he, ra q (by omega), Option.bind_some]
   unfold pP
   rw [if_pos he, (oh _).2 r]
   simp only []
   rw [if_pos (by rw [List.length_append]; omega)]
 ·rw [if_neg (by simp [he]), if_neg he, Option.bind_some, if_neg he]
def oQ (b : List UInt8) (e : Int) : List UInt8 × Int := if e = 0 then (b, 0) else ([], e)
theorem tG {b : List UInt8} (q : b.length ≤ 140737488355328) (e : Int) : dd.f b e = some (oQ b e) := by
 unfold dd.f oQ
 by_cases he : e = 0
 ·rw [if_pos he, if_pos he, sR q]; rfl
 ·rw [if_neg he, if_neg he]
end Go.Proofs.YtndjkejhacfpdaaGreatDoor

namespace Go.Proofs.YtndjkejhacfpdaaGreatDoor
open Go.RowKit
def rg (x l : Int) : Prop := l ≤ x ∧ x ≤ 4611686018427387904
instance (x l : Int) : Decidable (rg x l) := by unfold rg; infer_instance
theorem oK {x l : Int} (h : rg x l) (q : 0 ≤ l) : okN x := ⟨Int.le_trans q h.1, h.2⟩
theorem nv (x l : Int) : cf.f x l = some (decide (rg x l)) := by
 have : (decide (l ≤ x) && decide (x ≤ 4611686018427387904)) = decide (rg x l) := by rw [Bool.eq_iff_iff, Bool.and_eq_true, decide_eq_true_iff, decide_eq_true_iff, decide_eq_true_iff]; rfl
 unfold cf.f; rw [this]
/-! ### Checks -/
def jz (t i kd : Int) (d : List UInt8) : Int := if ¬ (rg t 1 ∧ rg i 1) then 1 else if kd ≠ 0 ∧ kd ≠ 1 then 6 else if 4096 < (d.length : Int) then 3 else if kd = 0 ∧ 0 < (d.length : Int) then 4 else 0
def ue (i t : Int) (d : List UInt8) : Prop := (i = 0 ∧ t = 0) ∧ (d.length : Int) = 0
instance (i t : Int) (d : List UInt8) : Decidable (ue i t d) := by unfold ue; infer_instance
theorem cE (t i kd : Int) (d : List UInt8) : bx.f t i kd d = some (jz t i kd d) := by
 unfold bx.f jz
 simp only [nv, Option.bind_some]
 by_cases h1 : rg t 1 <;> by_cases h2 : rg i 1 <;> simp [h1, h2]
 by_cases h3 : kd = 0 <;> by_cases h4 : kd = 1 <;> simp [h3, h4] <;> (repeat' split) <;> simp_all <;> omega
end Go.Proofs.YtndjkejhacfpdaaGreatDoor

namespace Go.Proofs.YtndjkejhacfpdaaGreatDoor
open Go.RowKit
theorem wh {x : Int} (h : okN x) (b : List UInt8) : pP b 0 x = (b ++ dG x, 0) := by unfold pP; rw [if_pos rfl, (oh x).2 h]
theorem uL {d : List UInt8} {m : Int} (h : (d.length : Int) ≤ m) (b : List UInt8) : nc b 0 d m = (b ++ dG (d.length : Int) ++ d, 0) := by
 unfold nc; rw [if_pos rfl, if_neg (by omega)]
theorem vO (b : List UInt8) : oQ b 0 = (b, 0) := by unfold oQ; rw [if_pos rfl]
theorem wI {k : Nat} (q : 10 ≤ k) {b : List UInt8} (r : b.length ≤ 100000000) {x : Int} (h : okN x) : bu.f k b 0 x = some (b ++ dG x, 0) := by
 rw [ra q (by omega), wh h]
theorem wB {k : Nat} (q : 10 ≤ k) {b d : List UInt8} (r : b.length ≤ 100000000) {m : Int} (h : (d.length : Int) ≤ m) (hd : d.length ≤ 100000000) : dq.f k b 0 d m = some (b ++ dG (d.length : Int) ++ d, 0) := by
 rw [sN q (by omega), uL h]
theorem wD {b : List UInt8} (q : b.length ≤ 100000000) : dd.f b 0 = some (b, 0) := by rw [tG (by omega), vO]
/-! ### Texts -/
def bB (d : List UInt8) : List UInt8 := dG (d.length : Int) ++ d
theorem oX (d : List UInt8) : (bB d).length ≤ 9 + d.length := by unfold bB; have := cu (d.length : Int); rw [List.length_append]; omega
def txE (t i kd : Int) (d : List UInt8) : List UInt8 := dG t ++ (dG i ++ (dG kd ++ bB d))
theorem gW {t i kd : Int} {d : List UInt8} (h : jz t i kd d = 0) : rg t 1 ∧ rg i 1 ∧ (kd = 0 ∨ kd = 1) ∧ (d.length : Int) ≤ 4096 ∧ (kd = 0 → d = []) := by
 unfold jz at h
 split at h
 ·omega
 ·split at h
  ·omega
  ·split at h
   ·omega
   ·split at h
    ·omega
    ·rename_i h1 q r u
     have h1 := Classical.not_not.1 h1
     refine ⟨h1.1, h1.2, by omega, by omega, fun e => ?_⟩
     exact List.eq_nil_of_length_eq_zero (by omega)
def tq (c : Int) (t : List UInt8) : List UInt8 × Int := if c = 0 then (t, 0) else ([], c)
theorem wb {k : Nat} (q : 10 ≤ k) (t i kd : Int) (d : List UInt8) : ep.f k t i kd d = some (tq (jz t i kd d) (txE t i kd d)) := by
 unfold ep.f cT.f ez.f tq
 rw [cE, Option.bind_some]
 by_cases h : jz t i kd d = 0
 ·obtain ⟨h1, r, D, u, _⟩ := gW h
  have G := cu t; have I := cu i; have J := cu kd; have L := cu (d.length : Int)
  rw [if_pos h, if_pos h, show dY.f = some ([], 0) from rfl]
  simp only [Option.bind_some]
  rw [wI q (by simp) (oK h1 (by decide)), Option.bind_some, wI q (by simp; omega) (oK r (by decide)), Option.bind_some, wI q (by simp; omega) (by unfold okN; omega), Option.bind_some, wB q (by simp; omega) u (by omega), Option.bind_some]
  simp only [Option.bind_some]
  rw [wD (by simp; omega)]
  simp [txE, bB]
 ·rw [if_neg h, if_neg h]; rfl
end Go.Proofs.YtndjkejhacfpdaaGreatDoor

namespace Go.Proofs.YtndjkejhacfpdaaGreatDoor
open Go.RowKit
/-! ### What is read of any bytes -/
section
variable {k : Nat} (hk : 12 ≤ k) {b : List UInt8} (hb : b.length ≤ 100000000)
include hk hb
end
/-! ### What is read of a text -/
end Go.Proofs.YtndjkejhacfpdaaGreatDoor

namespace Go.Proofs.YtndjkejhacfpdaaGreatDoor
open Go.RowKit
section
variable {α β : Type} [DecidableEq α]
theorem cK : ∀ (l : List (α × β)) (x : α) (y : β) (z : α), aQ (aR l x y) z = if x = z then some y else aQ l z
 | [], x, y, z => by simp [aR, aQ]
 | p :: l, x, y, z => by
  by_cases h : p.1 = x
  ·by_cases hz : x = z <;> simp [aR, aQ, h, hz]
  ·by_cases hz : p.1 = z
   ·have q : x ≠ z := fun e => h (hz.trans e.symm)
    subst hz
    simp [aR, aQ, h, q]
   ·simp [aR, aQ, h, hz, cK l x y z]
theorem oc : ∀ (l : List (α × β)) (x : α) (y : β), (aR l x y).map (·.1) = if x ∈ l.map (·.1) then l.map (·.1) else l.map (·.1) ++ [x]
 | [], x, y => by simp [aR]
 | p :: l, x, y => by
  by_cases h : p.1 = x
  ·simp [aR, h]
  ·have q := oc l x y
   have r : ¬ x = p.1 := fun e => h e.symm
   by_cases hm : x ∈ l.map (·.1)
   ·rw [if_pos hm] at q; rw [if_pos (by simp only [List.map_cons]; exact List.mem_cons_of_mem _ hm)]; simp [aR, h, q]
   ·rw [if_neg hm] at q; rw [if_neg (by rw [List.map_cons, List.mem_cons]; rintro (e | e); exact r e; exact hm e)]; simp [aR, h, q]
theorem rD {l : List (α × β)} {x : α} {y : β} (h : (l.map (·.1)).Nodup) : ((aR l x y).map (·.1)).Nodup := by
 rw [oc]
 split
 ·exact h
 ·rename_i r
  exact List.nodup_append.2 ⟨h, by simp, fun a u b q => by simp at q; subst q; exact fun e => r (e ▸ u)⟩
theorem mz : ∀ (l : List (α × β)) (x : α) (y : β) (e : α × β), e ∈ aR l x y → e = (x, y) ∨ e ∈ l
 | [], x, y, e, h => by simp [aR] at h; exact .inl h
 | p :: l, x, y, e, h => by
  by_cases hp : p.1 = x
  ·simp only [aR, if_pos hp, List.mem_cons] at h
   rcases h with h | h
   ·exact .inl h
   ·exact .inr (List.mem_cons_of_mem _ h)
  ·simp only [aR, if_neg hp, List.mem_cons] at h
   rcases h with h | h
   ·exact .inr (h ▸ List.mem_cons_self)
   ·rcases mz l x y e h with h | h
    ·exact .inl h
    ·exact .inr (List.mem_cons_of_mem _ h)
theorem dX : ∀ (l : List (α × β)) (x : α) (y : β), (aR l x y).length = if (aQ l x).isSome then l.length else l.length + 1
 | [], x, y => by simp [aR, aQ]
 | p :: l, x, y => by
  by_cases h : p.1 = x
  ·simp [aR, aQ, h]
  ·simp only [aR, aQ, if_neg h, List.length_cons, dX l x y]; split <;> rfl
theorem pD : ∀ (l : List (α × β)) (x : α), (dp l x).Sublist l
 | [], x => by simp [dp]
 | p :: l, x => by
  by_cases h : p.1 = x
  ·simp only [dp, if_pos h]; exact List.sublist_cons_self _ _
  ·simp only [dp, if_neg h]; exact (pD l x).cons_cons p
theorem pE : ∀ (l : List (α × β)) (x : α) (y : β), aQ l x = some y → (x, y) ∈ l
 | [], x, y, h => by simp [aQ] at h
 | p :: l, x, y, h => by
  by_cases hp : p.1 = x
  ·simp only [aQ, if_pos hp, Option.some.injEq] at h; subst hp; subst h; exact List.mem_cons_self
  ·simp only [aQ, if_neg hp] at h; exact List.mem_cons_of_mem _ (pE l x y h)
theorem kQ : ∀ (l : List (α × β)) (x : α), x ∈ l.map (·.1) ↔ (aQ l x).isSome = true
 | [], x => by simp [aQ]
 | p :: l, x => by
  by_cases hp : p.1 = x
  ·simp [aQ, hp]
  ·have q : ¬ x = p.1 := fun e => hp e.symm
   rw [List.map_cons, List.mem_cons, kQ l x]; simp [aQ, hp, q]
theorem me : ∀ (l : List (α × β)) (x : α) (y : β), (l.map (·.1)).Nodup → (x, y) ∈ l → aQ l x = some y
 | [], x, y, _, h => by simp at h
 | p :: l, x, y, hn, h => by
  rw [List.map_cons, List.nodup_cons] at hn
  rcases List.mem_cons.1 h with h | h
  ·subst h; simp [aQ]
  ·have : p.1 ≠ x := fun e => hn.1 (e ▸ List.mem_map_of_mem (f := (·.1)) h)
   simp only [aQ, if_neg this]; exact me l x y hn.2 h
theorem jq : ∀ (l : List (α × β)) (x z : α), (l.map (·.1)).Nodup → aQ (dp l x) z = if x = z then none else aQ l z
 | [], x, z, _ => by simp [dp, aQ]
 | p :: l, x, z, hn => by
  rw [List.map_cons, List.nodup_cons] at hn
  by_cases h : p.1 = x
  ·simp only [dp, if_pos h]
   by_cases hz : x = z
   ·rw [if_pos hz]
    cases hm : aQ l z with
    | none => rfl
    | some y => exact absurd (by rw [h, hz]; exact (kQ l z).2 (by rw [hm]; rfl)) hn.1
   ·have : ¬ p.1 = z := fun e => hz (h.symm.trans e)
    rw [if_neg hz]; simp only [aQ, if_neg this]
  ·simp only [dp, if_neg h]
   by_cases hp : p.1 = z
   ·have : ¬ x = z := fun e => h (hp.trans e.symm)
    rw [if_neg this]; simp only [aQ, if_pos hp]
   ·simp only [aQ, if_neg hp]; exact jq l x z hn.2
theorem mr : ∀ (l : List (α × β)) (x : α), (aQ l x).isSome = true → (dp l x).length + 1 = l.length
 | [], x, h => by simp [aQ] at h
 | p :: l, x, h => by
  by_cases hp : p.1 = x
  ·simp [dp, hp]
  ·simp only [aQ, if_neg hp] at h
   simp only [dp, if_neg hp, List.length_cons, mr l x h]
end
theorem kR {β : Type} (kvs : List (List UInt8 × β)) : (eQ kvs).Perm (kvs.map (·.1)) := List.mergeSort_perm _ _
end Go.Proofs.YtndjkejhacfpdaaGreatDoor

namespace Go.Proofs.YtndjkejhacfpdaaGreatDoor
open Go.RowKit
theorem mH {α : Type} (l : List α) (d : α) (i : Nat) (h : i < l.length) : l.getD i d = l[i] := by simp [List.getD_eq_getElem?_getD, List.getElem?_eq_getElem h]
theorem fT {α : Type} (l : List α) (d : α) {i : Nat} (h : i < l.length) : l.drop i = l.getD i d :: l.drop (i + 1) := by rw [mH _ _ _ h]; exact List.drop_eq_getElem_cons h
theorem wi1 {i : Nat} (h : i < 2 ^ 62) : IntKind.i64.wrap ((i : Int) + 1) = ((i + 1 : Nat) : Int) := by rw [w64 (by omega) (by omega)]; simp
/-! ### Names -/
def lI (c : UInt8) : Bool := ((((decide (((c.toNat : Int)) < (97 : Int))) || (decide ((122 : Int) < (c.toNat : Int)))) && ((decide ((c.toNat : Int) < (48 : Int))) || (decide ((57 : Int) < (c.toNat : Int))))) && (!decide ((c.toNat : Int) = (45 : Int)))) && (!decide ((c.toNat : Int) = (46 : Int)))
def nmB (x : List UInt8) : Bool := (x.all fun c => !lI c) && (decide ((0 : Int) < (x.length : Int)) && decide ((x.length : Int) ≤ (32 : Int)))
theorem nr (x : List UInt8) (q : x.length < 2 ^ 62) : ∀ (d i k : Nat), i + d = x.length → d + 1 ≤ k → dD.l0 x k (i : Int) = some (if (x.drop i).all (fun c => !lI c) then .inl () else .inr false)
 | d, i, 0, _, hk => by omega
 | 0, i, k + 1, h, _ => by
  simp only [dD.l0]
  rw [if_neg (by omega), List.drop_of_length_le (by omega)]; rfl
 | d + 1, i, k + 1, h, hk => by
  simp only [dD.l0]
  rw [if_pos (by omega), if_pos (by omega), wi1 (by omega), nr x q d (i + 1) k (by omega) (by omega), fT x 0 (i := i) (by omega)]
  simp only [Int.toNat_natCast, List.all_cons]
  obtain ⟨c, r⟩ : ∃ c, x.getD i 0 = c := ⟨_, rfl⟩
  simp only [r]
  have e : ((if ((decide (((c.toNat : Int)) < (97 : Int))) || (decide ((122 : Int) < (c.toNat : Int)))) = true then (some ((decide ((c.toNat : Int) < (48 : Int))) || (decide ((57 : Int) < (c.toNat : Int))))) else (some false)) : Option Bool) = some (((decide (((c.toNat : Int)) < (97 : Int))) || (decide ((122 : Int) < (c.toNat : Int)))) && ((decide ((c.toNat : Int) < (48 : Int))) || (decide ((57 : Int) < (c.toNat : Int))))) := by
   cases ((decide (((c.toNat : Int)) < (97 : Int))) || (decide ((122 : Int) < (c.toNat : Int)))) <;> rfl
  rw [e, Option.bind_some]
  show (if lI c = true then _ else _) = _
  cases lI c <;> rfl
theorem ua {x : List UInt8} {k : Nat} (q : x.length < 2 ^ 62) (r : x.length + 1 ≤ k) : dD.f k x = some (nmB x) := by
 unfold dD.f nmB
 have := nr x q x.length 0 k (by omega) (by omega)
 rw [show ((0 : Nat) : Int) = 0 from rfl, List.drop_zero] at this
 rw [this]
 cases x.all fun c => !lI c <;> rfl
theorem vf {x : List UInt8} (h : nmB x = true) : x.length ≤ 32 := by
 unfold nmB at h
 simp at h
 omega
/-! ### What a disk is -/
abbrev FSt := List (List UInt8 × (List UInt8 × Int))
abbrev DS := FSt × List UInt8 × Int × Bool
def szF (fs : FSt) : Nat := (fs.map fun p => p.2.1.length).sum
structure fK (n : Nat) (fs : FSt) : Prop where
 nd : (fs.map (·.1)).Nodup
 sy : ∀ p ∈ fs, 0 ≤ p.2.2 ∧ p.2.2 ≤ (p.2.1.length : Int)
 nm : ∀ p ∈ fs, p.1.length ≤ 32
 sz : szF fs ≤ 16777216
 ln : fs.length ≤ n
def bn (fs : FSt) (x : List UInt8) : List UInt8 × Int := (aQ fs x).getD ([], 0)
theorem iV {fs : FSt} {x : List UInt8} (h : (aQ fs x).isSome = true) : (x, bn fs x) ∈ fs := pE _ _ _ (by rw [bn]; exact fG h)
theorem vg {fs : FSt} (h : (fs.map (·.1)).Nodup) {p : List UInt8 × (List UInt8 × Int)} (hp : p ∈ fs) : bn fs p.1 = p.2 := by
 rw [bn, me fs p.1 p.2 h hp]; rfl
theorem lw : ∀ {fs : FSt} {p : List UInt8 × (List UInt8 × Int)}, p ∈ fs → p.2.1.length ≤ szF fs
 | [], _, h => by cases h
 | q :: l, p, h => by
  rcases List.mem_cons.1 h with rfl | h
  ·simp [szF]
  ·have := lw h
   simp only [szF, List.map_cons, List.sum_cons] at this ⊢; omega
/-! ### Sizes -/
def km (fs : FSt) (x : List UInt8) : Nat := (bn fs x).1.length
theorem oD (fs : FSt) : ∀ (l : List (List UInt8)) (s : Nat), (∀ x ∈ l, (aQ fs x).isSome = true) → s + (l.map (km fs)).sum < 2 ^ 62 →
  gh (fun (s : Int) (x : List UInt8) (v : List UInt8 × Int) => some (IntKind.i64.wrap (s + (v.1.length : Int)), v)) l (s : Int) fs = some (((s + (l.map (km fs)).sum : Nat) : Int), fs)
 | [], s, _, _ => by simp [gh]
 | x :: l, s, h, hb => by
  have u := h x (by simp)
  have r : aQ fs x = some (bn fs x) := by rw [bn]; exact fG u
  simp only [List.map_cons, List.sum_cons] at hb ⊢
  have q : (bn fs x).1.length = km fs x := rfl
  rw [gh, r, Option.bind_some]
  simp only [Option.bind_some]
  rw [jx r, w64 (by omega) (by omega)]
  have := oD fs l (s + km fs x) (fun y D => h y (List.mem_cons_of_mem _ D)) (by omega)
  rw [show (s : Int) + ((bn fs x).1.length : Int) = ((s + km fs x : Nat) : Int) by rw [q]; omega, this]
  congr 2
  omega
theorem ub {fs : FSt} (h : (fs.map (·.1)).Nodup) : ((fs.map (·.1)).map (km fs)).sum = szF fs := by
 unfold szF
 rw [List.map_map]
 congr 1
 refine List.map_congr_left fun p hp => ?_
 simp only [Function.comp, km, vg h hp]
theorem tc {fs : FSt} {x : List UInt8} (h : x ∈ fs.map (·.1)) : (aQ fs x).isSome = true := (kQ fs x).1 h
theorem vi {n : Nat} {fs : FSt} (h : fK n fs) (l : List UInt8) (a : Int) (d : Bool) : ff.f fs l a d = some (szF fs : Int) := by
 unfold ff.f lF iN
 have q := ub h.nd
 have u := h.sz
 have h1 : ∀ m, m.Perm (fs.map (·.1)) → gh (fun (s : Int) (x : List UInt8) (v : List UInt8 × Int) => (some (IntKind.i64.wrap (s + (v.1.length : Int)))).map fun D => (D, v)) m 0 fs = some ((szF fs : Int), fs) := fun m r => by
  have G : (m.map (km fs)).sum = szF fs := by rw [← q]; exact (r.map _).sum_nat
  have := oD fs m 0 (fun x I => tc (r.mem_iff.1 I)) (by omega)
  rw [G, Nat.zero_add] at this
  exact this
 rw [if_pos ⟨h.nd, fun m r => by rw [h1 m (lf r), h1 _ (List.Perm.refl _)]⟩, h1 _ (List.Perm.refl _)]
 rfl
/-! ### What single operations do -/
def eY (l : List UInt8) (a : Int) (d : Bool) : Bool × List UInt8 × Int × Bool := if a = 0 then (false, l, a, d) else (decide (IntKind.i64.wrap (a - 1) = 0), l, IntKind.i64.wrap (a - 1), decide (IntKind.i64.wrap (a - 1) = 0))
theorem lh (fs : FSt) (l : List UInt8) (a : Int) (d : Bool) : bM.f fs l a d = some (eY l a d) := by
 unfold bM.f eY; split <;> rfl
def iX (fs : FSt) (l : List UInt8) (a : Int) (d : Bool) (x : List UInt8) : Int × DS :=
 if d = true then (11, fs, l, a, d) else if nmB x = false then (7, fs, l, a, d) else if (aQ fs x).isSome = true then (9, fs, l, a, d) else if (256 : Int) ≤ (fs.length : Int) then (10, fs, l, a, d)
 else if (eY l a d).1 = true then (11, fs, (eY l a d).2) else (0, aR fs x ([], 0), (eY l a d).2)
theorem td (fs : FSt) (l : List UInt8) (a : Int) (d : Bool) (x : List UInt8) : cH.f fs l a d x = some (aQ fs x).isSome := by
 unfold cH.f; cases (aQ fs x).isSome <;> rfl
theorem oe (fs : FSt) (l : List UInt8) (a : Int) (d : Bool) (x : List UInt8) {k : Nat} (q : x.length < 2 ^ 62) (r : x.length + 1 ≤ k) : dK.f k fs l a d x = some (iX fs l a d x) := by
 unfold dK.f iX
 rw [ua q r, td, lh]
 simp only [Option.bind_some]
 cases d <;> cases nmB x <;> cases (aQ fs x).isSome <;> simp <;> (repeat' split) <;> rfl
def iY (fs : FSt) (l : List UInt8) (a : Int) (d : Bool) (x b : List UInt8) : Int × DS :=
 if (aQ fs x).isSome = true then (if d = true then (11, fs, l, a, d) else if 16777216 - (szF fs : Int) < (b.length : Int) then (10, fs, l, a, d)
  else if (eY l a d).1 = true then (11, aR fs x ((bn fs x).1 ++ b.take (b.length / 2), (bn fs x).2), x, (eY l a d).2.2) else (0, aR fs x ((bn fs x).1 ++ b, (bn fs x).2), x, (eY l a d).2.2))
 else if d = true then (11, fs, l, a, d) else (8, fs, l, a, d)
theorem vj (b : List UInt8) (h : b.length < 2 ^ 62) : IntKind.i64.wrap (Int.tdiv (b.length : Int) 2) = ((b.length / 2 : Nat) : Int) := by
 have : Int.tdiv (b.length : Int) 2 = ((b.length / 2 : Nat) : Int) := by rw [Int.tdiv_eq_ediv_of_nonneg (by omega)]; omega
 rw [this, w64 (by omega) (by omega)]
theorem lz {n : Nat} {fs : FSt} (h : fK n fs) (l : List UInt8) (a : Int) (d : Bool) (x b : List UInt8) (D : b.length < 2 ^ 40) : dh.f fs l a d x b = some (iY fs l a d x b) := by
 unfold dh.f iY
 rw [vi h, lh]
 have q := h.sz
 simp only [Option.bind_some]
 by_cases hm : (aQ fs x).isSome = true
 ·rw [if_pos hm, if_pos hm]
  cases d with
  | true => rfl
  | false =>
   have r : (bn fs x).1.length ≤ 16777216 := Nat.le_trans (lw (iV hm)) q
   rw [w64 (n := 16777216 - (szF fs : Int)) (by omega) (by omega), vj b (by omega)]
   simp only [Bool.false_eq_true, if_false]
   by_cases hs : 16777216 - (szF fs : Int) < (b.length : Int)
   ·rw [if_pos hs, if_pos hs]
   ·rw [if_neg hs, if_neg hs]
    by_cases hf : (eY l a false).1 = true
    ·rw [if_pos hf, if_pos hf, if_pos ⟨by omega, by omega, by omega⟩, Option.bind_some]
     have u : cut b (0 : Int) ((b.length / 2 : Nat) : Int) = b.take (b.length / 2) := by
      show (b.take ((b.length / 2 : Nat) : Int).toNat).drop 0 = _
      rw [Int.toNat_natCast, List.drop_zero]
     rw [u]
     show (if ((bn fs x).1.length + (b.take (b.length / 2)).length) * 1 ≤ 140737488355328 then _ else _) = _
     rw [if_pos (by simp only [List.length_take]; omega)]
     rfl
    ·rw [if_neg hf, if_neg hf, Option.bind_some]
     show (if ((bn fs x).1.length + b.length) * 1 ≤ 140737488355328 then _ else _) = _
     rw [if_pos (by omega)]
     rfl
 ·rw [if_neg hm, if_neg hm]
  split <;> rfl
def ji (fs : FSt) (l : List UInt8) (a : Int) (d : Bool) (x : List UInt8) : Int × DS :=
 if (aQ fs x).isSome = true then (if d = true then (11, fs, l, a, d) else if (eY l a d).1 = true then (11, fs, (eY l a d).2) else (0, aR fs x ((bn fs x).1, ((bn fs x).1.length : Int)), (eY l a d).2))
 else if d = true then (11, fs, l, a, d) else (8, fs, l, a, d)
theorem lP (fs : FSt) (l : List UInt8) (a : Int) (d : Bool) (x : List UInt8) : cB.f fs l a d x = some (ji fs l a d x) := by
 unfold cB.f ji
 rw [lh]
 simp only [Option.bind_some]
 repeat' split
 all_goals first | rfl | simp_all
theorem sf (l : List UInt8) (a : Int) (d : Bool) : (eY l a d).2.1 = l := by unfold eY; split <;> rfl
def iB (fs : FSt) (l : List UInt8) (a : Int) (d : Bool) (x : List UInt8) : Int × DS :=
 if d = true then (11, fs, l, a, d) else if (aQ fs x).isSome = false then (8, fs, l, a, d) else if (eY l a d).1 = true then (11, fs, (eY l a d).2) else (0, dp fs x, (if l = x then [] else l), (eY l a d).2.2)
theorem sC (fs : FSt) (l : List UInt8) (a : Int) (d : Bool) (x : List UInt8) : dL.f fs l a d x = some (iB fs l a d x) := by
 unfold dL.f iB
 rw [lh, td]
 simp only [Option.bind_some]
 cases d <;> cases (aQ fs x).isSome <;> simp only [Bool.not_true, Bool.not_false, if_true, if_false, Bool.false_eq_true, Bool.true_eq_false, reduceCtorEq]
 split
 ·rfl
 ·rw [sf]
  split <;> rfl
/-! ### A crash -/
section
variable {α β : Type} [DecidableEq α]
end
end Go.Proofs.YtndjkejhacfpdaaGreatDoor

namespace Go.Proofs.YtndjkejhacfpdaaGreatDoor
open Go.RowKit
theorem oB (p : List UInt8 × (List UInt8 × Int)) (fs : FSt) (x : List UInt8) : bn (p :: fs) x = if p.1 = x then p.2 else bn fs x := by
 unfold bn; rw [aQ]; split <;> rfl
theorem iv (p : List UInt8 × (List UInt8 × Int)) (fs : FSt) : szF (p :: fs) = p.2.1.length + szF fs := by simp [szF]
theorem fa (x : List UInt8) (v : List UInt8 × Int) : ∀ fs : FSt, szF (aR fs x v) + (bn fs x).1.length = szF fs + v.1.length
 | [] => by simp [aR, szF, bn, aQ]
 | p :: fs => by
  have q := fa x v fs
  rw [oB, aR]
  by_cases h : p.1 = x
  ·rw [if_pos h, if_pos h, iv, iv]; simp only; omega
  ·rw [if_neg h, if_neg h, iv, iv]; omega
theorem mw (x : List UInt8) : ∀ fs : FSt, szF (dp fs x) + (bn fs x).1.length = szF fs
 | [] => by simp [dp, szF, bn, aQ]
 | p :: fs => by
  have q := mw x fs
  rw [oB, dp]
  by_cases h : p.1 = x
  ·rw [if_pos h, if_pos h, iv]; omega
  ·rw [if_neg h, if_neg h, iv, iv]; omega
theorem lg {n : Nat} {fs : FSt} (h : fK n fs) {x : List UInt8} {v : List UInt8 × Int} (q : x.length ≤ 32) (r : 0 ≤ v.2 ∧ v.2 ≤ (v.1.length : Int)) (u : szF (aR fs x v) ≤ 16777216) (D : (aR fs x v).length ≤ n) : fK n (aR fs x v) := by
 refine ⟨rD h.nd, fun p hp => ?_, fun p hp => ?_, u, D⟩
 ·rcases mz _ _ _ _ hp with rfl | hp
  ·exact r
  ·exact h.sy p hp
 ·rcases mz _ _ _ _ hp with rfl | hp
  ·exact q
  ·exact h.nm p hp
theorem tZ {n : Nat} {fs : FSt} (h : fK n fs) (x : List UInt8) : fK n (dp fs x) := by
 have q := pD fs x
 refine ⟨(q.map _).nodup h.nd, fun p hp => h.sy p (q.subset hp), fun p hp => h.nm p (q.subset hp), ?_, Nat.le_trans q.length_le h.ln⟩
 have := mw x fs
 have := h.sz
 omega
theorem lH {n : Nat} {fs : FSt} (h : fK n fs) {x : List UInt8} (q : (aQ fs x).isSome = true) : x.length ≤ 32 := h.nm _ (iV q)
theorem rh {n : Nat} {fs : FSt} (h : fK n fs) {x : List UInt8} (q : (aQ fs x).isSome = true) : 0 ≤ (bn fs x).2 ∧ (bn fs x).2 ≤ ((bn fs x).1.length : Int) := h.sy _ (iV q)
theorem tb {fs : FSt} {x : List UInt8} (h : (aQ fs x).isSome = false) : bn fs x = ([], 0) := by
 unfold bn; cases hm : aQ fs x with
 | none => rfl
 | some v => rw [hm] at h; cases h
theorem eD {fs : FSt} {x : List UInt8} {v : List UInt8 × Int} (q : (aQ fs x).isSome = true) : (aR fs x v).length = fs.length := by rw [dX, if_pos q]
theorem se {fs : FSt} (h : fK 256 fs) (l : List UInt8) (a : Int) (d : Bool) (x : List UInt8) : fK 256 (iX fs l a d x).2.1 := by
 unfold iX
 repeat' split
 all_goals try exact h
 rename_i h1 q r G I
 have u := fa x ([], 0) fs
 have D := h.sz
 refine lg h (vf (by simpa using q)) (by simp) ?_ ?_
 ·simp only [List.length_nil] at u; omega
 ·have := dX fs x (([] : List UInt8), (0 : Int))
  rw [if_neg r] at this
  rw [this]; omega
theorem nq {n : Nat} {fs : FSt} (h : fK n fs) (l : List UInt8) (a : Int) (d : Bool) (x b : List UInt8) : fK n (iY fs l a d x b).2.1 := by
 unfold iY
 have u := h.sz
 repeat' split
 all_goals try exact h
 ·rename_i q hd D G
  have r := rh h q
  have h1 := fa x ((bn fs x).1 ++ b.take (b.length / 2), (bn fs x).2) fs
  simp only [List.length_append, List.length_take] at h1
  refine lg h (lH h q) ⟨r.1, ?_⟩ (by omega) (by rw [eD q]; exact h.ln)
  simp only [List.length_append, List.length_take]; omega
 ·rename_i q hd D G
  have r := rh h q
  have h1 := fa x ((bn fs x).1 ++ b, (bn fs x).2) fs
  simp only [List.length_append] at h1
  refine lg h (lH h q) ⟨r.1, ?_⟩ (by omega) (by rw [eD q]; exact h.ln)
  simp only [List.length_append]; omega
theorem jX {n : Nat} {fs : FSt} (h : fK n fs) (l : List UInt8) (a : Int) (d : Bool) (x : List UInt8) : fK n (ji fs l a d x).2.1 := by
 unfold ji
 have r := h.sz
 repeat' split
 all_goals try exact h
 rename_i q hd u
 have h1 := fa x ((bn fs x).1, ((bn fs x).1.length : Int)) fs
 simp only at h1
 exact lg h (lH h q) ⟨by simp, by simp⟩ (by omega) (by rw [eD q]; exact h.ln)
theorem rz {n : Nat} {fs : FSt} (h : fK n fs) (l : List UInt8) (a : Int) (d : Bool) (x : List UInt8) : fK n (iB fs l a d x).2.1 := by
 unfold iB
 repeat' split
 all_goals first | exact h | exact tZ h x
/-! ### An operation -/
def d0 : DS := ([], [], 0, false)
/-! ### The files -/
theorem od (fs : FSt) : (eQ fs).length = fs.length := by rw [(kR fs).length_eq, List.length_map]
theorem qX {n : Nat} {fs : FSt} (h : fK n fs) (q : n < 2 ^ 40) (l : List UInt8) (a : Int) (d : Bool) : dE.f fs l a d = some (eQ fs) := by
 unfold dE.f fI.f co.f
 have := h.ln
 rw [Option.bind_some, if_pos ⟨h.nd, by omega, fun p hp => by have := h.nm p hp; omega⟩]; rfl
theorem pl {x : List UInt8} (h : x.length < 2 ^ 40) : eO.f x = some x := by
 unfold eO.f
 rw [if_pos ⟨by omega, by omega, by omega⟩, if_pos (by simp; omega)]; rfl
/-! ### Whether files are the same -/
theorem oC (x y : List UInt8) (u : x.length = y.length) (D : x.length < 2 ^ 62) : ∀ (d i k : Nat), i + d = x.length → d + 1 ≤ k → x.take i = y.take i → (orR (bW.l0 x y k (i : Int)) fun _ => some true) = some (decide (x = y))
 | d, i, 0, _, hk, _ => by omega
 | 0, i, k + 1, h, _, ht => by
  simp only [bW.l0]
  rw [if_neg (by omega)]
  rw [List.take_of_length_le (by omega), List.take_of_length_le (by omega)] at ht
  simp [orR, ht]
 | d + 1, i, k + 1, h, hk, ht => by
  have q : i < x.length := by omega
  have r : i < y.length := by omega
  simp only [bW.l0]
  rw [if_pos (by omega), if_pos (by omega), if_pos (by omega), wi1 (by omega)]
  simp only [Int.toNat_natCast, mH x 0 i q, mH y 0 i r]
  by_cases he : x[i] = y[i]
  ·rw [if_pos (by rw [he])]
   exact oC x y u D d (i + 1) k (by omega) (by omega) (by rw [List.take_succ_eq_append_getElem q, List.take_succ_eq_append_getElem r, ht, he])
  ·rw [if_neg (by intro z; exact he (UInt8.toNat_inj.1 (by omega)))]
   have : x ≠ y := by rintro rfl; exact he rfl
   simp [orR, this]
theorem pN {k : Nat} {x y : List UInt8} (q : x.length < 2 ^ 62) (r : x.length + 1 ≤ k) : bW.f k x y = some (decide (x = y)) := by
 unfold bW.f
 by_cases h : x.length = y.length
 ·rw [if_pos (by omega)]
  exact oC x y h q x.length 0 k (by omega) r rfl
 ·rw [if_neg (by omega)]
  have : x ≠ y := by rintro rfl; exact h rfl
  simp [this]
/-! ### Whether operations are few -/
end Go.Proofs.YtndjkejhacfpdaaGreatDoor

namespace Go.Proofs.YtndjkejhacfpdaaGreatDoor
open Go.RowKit Go.ChangeShapes Go.WideShapes Go.ChangeAt

def hJ (W : World) : HA := fun h => ∀ i, i < W.heap.size → h i = W.heap[i]?
theorem sJ (W : World) : Sat W ([] ++ [hJ W]) W := ⟨rfl, rfl, rfl, Nat.le_refl _, ix (fun _ _ => rfl)⟩
theorem tD {W w : World} {l : List HA} (s : Sat W l w) (k : Nat) (r : l[k]? = some (hJ W)) : Below W.heap.size W w := by
 obtain ⟨a, u, D⟩ := s.at r
 refine ⟨s.os, s.tape, s.output, s.size, fun i hi => ?_⟩
 have h1 := u i hi
 obtain ⟨o, q⟩ : ∃ o, W.heap[i]? = some o := ⟨_, Array.getElem?_eq_getElem hi⟩
 rw [q] at h1
 rw [D i o h1, q]
theorem sK {P : Program} {W : World} {f : FuncId} {args : List Value} {R Y : Type} {o : Option R} {val : R → Y → Value} {r : R}
  (h : Fn P W f args [] (hJ W) o val (fun _ _ => [])) (u : o = some r) (D : ∀ y, val r y = .bool true) :
  Calls P f args.toArray W fun e q => e = .returned (.bool true) ∧ Below W.heap.size W q := by
 refine (h r u W (sJ W)).mono ?_
 rintro e q ⟨y, rfl, s⟩
 exact ⟨by rw [D], tD s 0 rfl⟩
theorem pI {W : World} {x : Addr} {cs : List Value} (h : ∀ j v, cs[j]? = some v → W.cell? (x.add j) = some v) : Rd (hJ W) (some x) cs := by
 cases cs with
 | nil => exact .inl rfl
 | cons v vs =>
  right
  have q := h 0 v rfl
  have r : x.spot = none := by
   have e : (x.add 0).spot = x.spot ∨ x.spot ≠ none := by cases hx : x.spot <;> simp [Addr.add, hx]
   refine Classical.byContradiction fun D => ?_
   obtain ⟨s, J⟩ := Option.ne_none_iff_exists'.1 D
   unfold World.cell? at q
   simp only [Addr.add, J] at q
   split at q <;> simp_all
  obtain ⟨b, off, X⟩ := x
  simp only at r
  subst r
  have u : ∀ j, (⟨b, off, none⟩ : Addr).add j = ⟨b, off + j, none⟩ := fun j => by unfold Addr.add; split <;> simp_all
  simp only [u] at h
  refine ⟨b, off, rfl, fun g L => ?_⟩
  have q := h 0 v rfl
  unfold World.cell? at q
  simp only at q
  split at q
  ·rename_i c T fz G
   have I : b < W.heap.size := (Array.getElem?_eq_some_iff.1 G).1
   refine ⟨c, T, fz, by rw [L b I, G], fun j v U => ?_⟩
   have := h j v U
   simpa [World.cell?, G] using this
  ·simp at q
theorem rF {H : Type} {P : Program} {q : List TypeId} {ds : List (DataW H)} (h : (DataW.weightsEach P q ds).all (· ≤ reachBytes) = true) {j : Nat} {t : TypeId} {d : DataW H} (r : q[j]? = some t) (hd : ds[j]? = some d) : ∀ n ∈ d.weights P t, n ≤ reachBytes := fun n u => by
 have := List.all_eq_true.1 h n (DataW.weights_mem_each r hd n u)
 simpa using this
theorem rG {H : Type} {enc : TypeId × Value → H} {P : Program} {W : World} {I : Bool} {t e : TypeId} {J : Nat} {cs : List Value} {x : DataW H × List MemPlace} (ht : P.underlying t = some (.slice e)) (he : P.underlying e = some (.int .u8)) (hc : P.cellsOf e = 1)
  (hB : P.bytesOf e = 1)
  (h : DataW.trod enc P W 0 (fun _ => true) I J t cs = some x) (L : ∀ n ∈ x.1.weights P t, n ≤ reachBytes) : ∃ a c l, cs = [.slice a l.length c] ∧ Rd (hJ W) a (ax l) ∧ l.length ≤ c ∧ c ≤ maxLen ∧ l.length ≤ reachBytes := by
 rcases open_ints ht he hc h with ⟨r, _⟩ | ⟨x, l, c, G, r, _, hl, hm, hz, rfl, u, U⟩
 ·exact ⟨none, 0, [], r, .inl rfl, Nat.le_refl _, Nat.zero_le _, Nat.zero_le _⟩
 ·have hz : G.length = c := by simpa using hz
  have q : ((G.take l).map dr).length = l := by simp; omega
  have X : l ≤ reachBytes := by
   have := L (((lits (H := H) .u8 (G.take l)).length + (lits (H := H) .u8 (G.drop l)).length) * P.bytesOf e) (by simp [DataW.weights, ht])
   rw [hB] at this
   simp [lits] at this
   omega
  refine ⟨some x, c, (G.take l).map dr, by rw [r, q], pI ?_, by rw [q]; exact hl, hm, by rw [q]; exact X⟩
  intro j v D
  unfold ax at D
  rw [List.getElem?_map, List.getElem?_map, List.getElem?_take] at D
  split at D
  ·rename_i be
   obtain ⟨n, hn⟩ : ∃ n, G[j]? = some n := ⟨_, List.getElem?_eq_getElem (by omega)⟩
   rw [hn] at D
   simp only [Option.map_some, Option.some.injEq] at D
   rw [u j (by omega), ← D]
   have L := U n (List.mem_of_getElem? hn)
   have ad : 0 ≤ n ∧ n ≤ 255 := by simpa [Lit.wf, IntKind.min, IntKind.max, IntKind.signed, IntKind.bits] using L
   have hr : 0 ≤ n ∧ n < 256 := ⟨ad.1, by omega⟩
   rw [gx hr.1 hr.2]
   simp [List.getD_eq_getElem?_getD, hn]
  ·simp at D
end Go.Proofs.YtndjkejhacfpdaaGreatDoor

namespace Go.Proofs.YtndjkejhacfpdaaGreatDoor
open Go.RowKit Go.ChangeShapes Go.WideShapes Go.ChangeAt
section
variable {H : Type} {enc : TypeId × Value → H} {P : Program} {W : World} {held : Bool} {α β : Type}
def lW (enc : TypeId × Value → H) (P : Program) (W : World) (held : Bool) (t : TypeId) (V : α → List Value → Prop) (r : α → Prop) : Prop :=
 ∀ q cs x, DataW.trod enc P W 0 (fun _ => true) held q t cs = some x → (∀ n ∈ x.1.weights P t, n ≤ reachBytes) → ∃ y, V y cs ∧ one cs ∧ cs.length = P.cellsOf t ∧ r y
theorem lW.map {t : TypeId} {V : α → List Value → Prop} {D : β → List Value → Prop} {G : α → Prop} {q : β → Prop} (f : α → β) (h : lW enc P W held t V G) (I : ∀ x r, V x r → D (f x) r) (J : ∀ x, G x → q (f x)) : lW enc P W held t D q := fun u cs x h1 L =>
 let ⟨y, a, b, c, d⟩ := h u cs x h1 L; ⟨f y, I _ _ a, b, c, J _ d⟩
theorem lW.mono {t : TypeId} {V D : α → List Value → Prop} {G q : α → Prop} (h : lW enc P W held t V G) (I : ∀ x r, V x r → D x r) (J : ∀ x, G x → q x) : lW enc P W held t D q := fun u cs x h1 L =>
 let ⟨y, a, b, c, d⟩ := h u cs x h1 L; ⟨y, I _ _ a, b, c, J _ d⟩
theorem kG {e : TypeId} : ∀ {ds : List (DataW H)} {d : DataW H}, d ∈ ds → ∀ n ∈ d.weights P e, n ∈ DataW.weightsAll P e ds
 | d' :: ds, d, h, n, hn => by
  simp only [DataW.weightsAll, List.mem_append]
  rcases List.mem_cons.1 h with rfl | h
  ·exact .inl hn
  ·exact .inr (kG h n hn)
theorem rV {W : World} {a : Addr} {n : Nat} {cs : List Value} (h : W.cells? 0 a n = some cs) : cs.length = n ∧ ∀ j v, cs[j]? = some v → W.cell? (a.add j) = some v := by
 unfold World.cells? at h
 rw [if_pos (Nat.zero_le _)] at h
 have q := mapM_some_length h
 have q : cs.length = n := by simpa using q
 refine ⟨q, fun j v u => ?_⟩
 have r : j < n := by have := (List.getElem?_eq_some_iff.1 u).1; omega
 have := mapM_some_get h j j (by simp [r])
 rw [this, u]
/-! Structs: their fields, one behind the other. -/
def rW (enc : TypeId × Value → H) (P : Program) (W : World) (held : Bool) (q : Nat) : List TypeId → List Value → List (DataW H × List MemPlace) → Prop
 | [], cs, xs => cs = [] ∧ xs = []
 | t :: ts, cs, xs => ∃ u c2 x r, cs = u ++ c2 ∧ xs = x :: r ∧ DataW.trod enc P W 0 (fun _ => true) held q t u = some x ∧ rW enc P W held q ts c2 r
def oS (P : Program) : Nat → List Field → Bool
 | _, [] => true
 | k, f :: fs => Nat.beq f.offset k && oS P (k + P.cellsOf f.type) fs
def qj (P : Program) : List Field → Nat
 | [] => 0
 | f :: fs => P.cellsOf f.type + qj P fs
theorem qk (q : Nat) : ∀ (fs : List Field) (k : Nat) (cs : List Value) (xs : List (DataW H × List MemPlace)), oS P k fs = true → cs.length = k + qj P fs → xs.length = fs.length →
  (∀ (i : Nat) (f : Field), fs[i]? = some f → DataW.trod enc P W 0 (fun _ => true) held q f.type ((cs.drop f.offset).take (P.cellsOf f.type)) = xs[i]?) → rW enc P W held q (fs.map (·.type)) (cs.drop k) xs
 | [], k, cs, xs, _, hl, hx, _ => by
  have : xs = [] := List.eq_nil_of_length_eq_zero (by simpa using hx)
  exact ⟨by rw [List.drop_of_length_le (by simp [qj] at hl; omega)], this⟩
 | f :: fs, k, cs, [], _, _, hx, _ => by simp at hx
 | f :: fs, k, cs, x :: xs, hlaid, hl, hx, h => by
  simp only [oS, Bool.and_eq_true] at hlaid
  have r : f.offset = k := Nat.eq_of_beq_eq_true hlaid.1
  simp only [qj] at hl
  have u := h 0 f rfl
  rw [r] at u
  refine ⟨(cs.drop k).take (P.cellsOf f.type), (cs.drop k).drop (P.cellsOf f.type), x, xs, (List.take_append_drop _ _).symm, rfl, by simpa using u, ?_⟩
  have := qk q fs (k + P.cellsOf f.type) cs xs hlaid.2 (by omega) (by simpa using hx) (fun i g D => by simpa using h (i + 1) g (by simpa using D))
  rw [List.drop_drop]
  exact this
end
end Go.Proofs.YtndjkejhacfpdaaGreatDoor

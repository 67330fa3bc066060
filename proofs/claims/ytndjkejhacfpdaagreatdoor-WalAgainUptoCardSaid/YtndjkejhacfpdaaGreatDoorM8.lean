/- Texts that lead to the law WalAgain: G7, G, Pl1, PlWire, PlWire2. Conditions: as each says. -/
import Derived.Test.YtndjkejhacfpdaaGreatDoorM7
import Derived.Laws.BitsLemmas
set_option linter.unusedVariables false
set_option linter.unusedSimpArgs false
set_option linter.unusedSectionVars false
namespace Go.Proofs.YtndjkejhacfpdaaGreatDoor
open Go.RowKit _root_.Go.Proofs.Tryz
set_option maxRecDepth 20000
set_option maxHeartbeats 20000000
def fE.f (e : Int) (a : Int) (g : Int) (h : List UInt8) (b : Int) (c : Int) (d : Int) : Option (Bool) := some ((decide (b = c)) && (decide (d < a)))
theorem fE.calls (W : World) (F : HA) (i : Int) (g : Int) (j : Int) (k : Option Addr) (h : Nat) (d : Lb) (c : Int) (b1 : Nat) (a : Int) (b2 : Nat) (e : Int) (s : Rd F k (aB d)) (p : d.length ≤ h) (q : h ≤ maxLen) :
    Fn Tryz.prog W 91 [.agg #[Iv i, Iv g, Iv j, .slice k d.length h, Iv c], Pt b1, Pt b2] [obj b1 3 [Iv a], obj b2 3 [Iv e]] F (fE.f i g j d c a e) (fun (r : Bool) (y : Unit) => .bool r) (fun r y => [obj b1 3 [Iv a], obj b2 3 [Iv e]]) := by
 unfold fE.f
 refine aO 16 Tryz.func91 O Tryz.ntmps91 O (sr (ah (cq O O O) O O O ?_))
 intro l
 refine va O O (nx (vq (ap O O underlying144 O O sizeOf3 O) O (vq (ag O O isAgg3 (.obj 0 O O)) O (vq (ag O O isAgg3 (.obj 1 O O)) O (vq (bW O O O) O (vm O O (aw (b := decide (c = a)) (fun t => RQ.sub (E' := [(3, Pt l)]) ⟨O, trivial⟩ (ap O O underlying144 O O sizeOf35 O)) O O O O O (aw (b := decide (c = a)) (fun n => RQ.sub (E' := [(10, Pt l)]) ⟨aH O n, trivial⟩ (ap O O underlying35 O O sizeOf3 O)) O O O O O (aw (b := decide (c = a)) (fun o => RQ.sub (E' := [(11, .pointer (some ⟨l, 1, none⟩))]) ⟨aH O o, trivial⟩ (ag O O isAgg3 (.obj 0 O O))) O O O O O (aw (b := decide (c = a)) (fun u => RQ.sub (E' := [(2, Pt b2)]) ⟨O, trivial⟩ (ag O O isAgg3 (.obj 2 O O))) O O O O O (aw (b := decide (c = a)) (fun m => RQ.sub (E' := [(12, Iv g), (13, Iv e)]) ⟨aH O m, aH O m, trivial⟩ (cW O O O)) O O O O O (vq (dK O O O) O (va O O (ae (aa (aA ?_))))))))))))))))
 exact aE () O O O (.sel 1 O (.sel 1 O (.sel 1 O .n)))

def bk.l0 (x0 : List (aF)) (b : Int) (c : Int) : Nat → Int → Option ((Unit) ⊕ (Int))
  | 0, _ => none
  | k + 1, a => if a < (x0.length : Int) then (if 0 ≤ a ∧ a < (x0.length : Int) then ((fE.f ((x0.getD a.toNat au).1) ((x0.getD a.toNat au).2.1) ((x0.getD a.toNat au).2.2.1) ((x0.getD a.toNat au).2.2.2.1) ((x0.getD a.toNat au).2.2.2.2) b c).bind fun d => (if d = true then (some (.inr a)) else (bk.l0 x0 b c k (IntKind.i64.wrap (a + 1))))) else none) else (some (.inl ()))
def bk.f (k : Nat) (x0 : List (aF)) (a : Int) (b : Int) : Option (Int) := orR (bk.l0 x0 a b k 0) fun c => (some (-1))
theorem bk.calls (W : World) (F : HA) (k : Nat) (a0 : Option Addr) (c0 : Nat) (x0 : List aF) (d : Nat) (a : Int) (e : Nat) (b : Int) (h0 : RdV F 5 (aQ F) a0 x0) (al : x0.length ≤ c0) (an : c0 ≤ maxLen) :
    Fn Tryz.prog W 115 [.slice a0 x0.length c0, .func (.func 91) #[] #[Pt d, Pt e]] [obj d 3 [Iv a], obj e 3 [Iv b]] F (bk.f k x0 a b) (fun (r : Int) (y : Unit) => Iv r) (fun r y => [obj d 3 [Iv a], obj e 3 [Iv b]]) := by
 unfold bk.f
 refine aO 19 Tryz.func115 O Tryz.ntmps115 O (sr (va O O (ae (aa ?_))))
 refine gi (S := Unit) Unit (fun s y => []) (fun s y => [obj d 3 [Iv a], obj e 3 [Iv b], F]) ?_ ?_
 refine sr (vm O O (vq (bx O O O underlying87) O (vm O O (ae (aa (aR ?_))))))
 refine ck (S := Int) Unit (fun k s => bk.l0 x0 a b k s) (fun s y => [(0, .slice a0 x0.length c0), (1, .func (.func 91) #[] #[Pt d, Pt e]), (7, Iv (x0.length : Int)), (8, Iv s)]) (fun s y => [obj d 3 [Iv a], obj e 3 [Iv b], F]) (fun _ => by rw [bk.l0]) ?_ k 0 () ⟨O, O, O, O, trivial⟩ (.s O (.s O (.s O .n)))
 intro k c az
 refine cS (by rw [bk.l0]) (sr (vq (cL O O O) O (ae (aa (ay ?_)))))
 refine bn O (fun a1 => ?_) (fun a2 => ?_)
 refine aC (aa (ay (aR (sr (vm O O (va O O (nx (vm O O (vm O O (vm O O (bg (fun g => ?_))))))))))))
 obtain ⟨a3, w, x, m, n, u, hcell15v⟩ := RdV.pos h0 (Up.refl _) rfl (i := c.toNat) (by omega) au
 obtain ⟨h, l, rfl, ⟨o, p, q⟩⟩ := n
 refine vq (cO O O O m underlying87 sizeOf144 g.1 g.2) O (vq (cu O O isAgg144 sizeOf144 O (fun j v hj => hcell15v 2 O j v hj)) O (ax (fun z t => (ah (av (vs := [.agg #[Iv ((x0.getD c.toNat au).1), Iv ((x0.getD c.toNat au).2.1), Iv ((x0.getD c.toNat au).2.2.1), .slice h (((x0.getD c.toNat au).2.2.2.1).length) l, Iv ((x0.getD c.toNat au).2.2.2.2)]]) (cap := [Pt d, Pt e]) (A := [obj d 3 [Iv a], obj e 3 [Iv b]]) (rst := [F]) O O O O O O call91 (.s O (.s O (.s O .n))) (fE.calls _ _ ((x0.getD c.toNat au).1) ((x0.getD c.toNat au).2.1) ((x0.getD c.toNat au).2.2.1) h l ((x0.getD c.toNat au).2.2.2.1) ((x0.getD c.toNat au).2.2.2.2) d a e b (o.lend 0 O) p q) t) O O O ?_))))
 intro ab
 refine ae (aa ?_)
 refine aZ O (fun ad => ?_) (fun af => ?_)
 refine sr (vm O O (va O O (ae (aa (aA (bp (aN (fw (bp (fi ?_))))))))))
 exact aE () O O O (.s O (.s O (.s O .n)))
 refine aC (bo (aa (aI (vq (bY O O O) O (vm O O (ae ?_))))))
 exact bM (s := IntKind.i64.wrap (c + 1)) () ⟨O, O, O, O, trivial⟩ (.s O (.s O (.s O .n)))
 refine cA (ce (cl (cf ?_)))
 exact fN (s := ()) () trivial (.s O (.s O (.s O .n)))
 intro a4 a5
 refine sr (va O O (ae (aa (aA ?_))))
 exact aE () O O O (.s O (.s O (.s O .n)))

def bN.f (k : Nat) (x0 : List (aF)) (a : Int) (b : Int) : Option (Bool) := (bk.f k x0 a b).bind fun c => (some (decide ((0 : Int) ≤ c)))
theorem bN.calls (W : World) (F : HA) (k : Nat) (a0 : Option Addr) (c0 : Nat) (x0 : List aF) (c : Nat) (a : Int) (d : Nat) (b : Int) (h0 : RdV F 5 (aQ F) a0 x0) (g : x0.length ≤ c0) (h : c0 ≤ maxLen) :
    Fn Tryz.prog W 90 [.slice a0 x0.length c0, .func (.func 91) #[] #[Pt c, Pt d]] [obj c 3 [Iv a], obj d 3 [Iv b]] F (bN.f k x0 a b) (fun (r : Bool) (y : Unit) => .bool r) (fun r y => [obj c 3 [Iv a], obj d 3 [Iv b]]) := by
 unfold bN.f
 refine aO 9 Tryz.func90 O Tryz.ntmps90 O (sr (va O O (nx (vm O O (vm O O (ax (fun i e => (ah (av (vs := [.slice a0 x0.length c0, .func (.func 91) #[] #[Pt c, Pt d]]) (cap := []) (A := [obj c 3 [Iv a], obj d 3 [Iv b]]) (rst := [F]) O O O O O O call115 (.s O (.s O (.s O .n))) (bk.calls _ _ k a0 c0 x0 c a d b (h0.up (Up.lend 0 O) (aQ.up (Up.lend 0 O))) g h) e) O O O ?_))))))))
 intro j
 refine vq (kq O O O) O (va O O (ae (aa (aA ?_))))
 exact aE () O O O (.s O (.s O (.s O .n)))

def jD.f (k : Nat) (c : Int) (d : Int) (e : Int) (g : Int) (h : Int) (a : List (aF)) (x1 : Int) (x2 : Int) : Option (Bool) := (bN.f k a x1 x2).bind fun b => (some b)
theorem jD.calls (W : World) (F : HA) (k : Nat) (b0 : Nat) (d : Int) (e : Int) (g : Int) (h : Int) (i : Int) (c : Option Addr) (b : Nat) (a : List aF) (x1 : Int) (x2 : Int) (o : RdV F 5 (aQ F) c a) (m : a.length ≤ b) (n : b ≤ maxLen) :
    Fn Tryz.prog W 63 [Pt b0, Iv x1, Iv x2] [W11 b0 d e g h i a c b] F (jD.f k d e g h i a x1 x2) (fun (r : Bool) (y : Unit) => .bool r) (fun r y => [W11 b0 d e g h i a c b]) := by
 unfold jD.f
 refine aO 13 Tryz.func63 O Tryz.ntmps63 O (sr (ah (cq O O O) O O O ?_))
 intro j
 refine ah (cq O O O) O O O ?_
 intro l
 refine va O O (nx (vm O O (vn O O (vq (ap O O underlying89 O O sizeOf87 O) O (vq (ag O O isAgg87 (.obj 2 O O)) O (vq (gY O O O) O (ax (fun q p => (ah (av (vs := [.slice c a.length b, .func (.func 91) #[] #[Pt j, Pt l]]) (cap := []) (A := [obj j 3 [Iv x1], obj l 3 [Iv x2]]) (rst := [W11 b0 d e g h i a c b, F]) O O O O O O call90 (.sel 1 O (.s O (.s O (.s O .n)))) (bN.calls _ _ k c b a j x1 l x2 (o.up (Up.lend 1 O) (aQ.up (Up.lend 1 O))) m n) p) O O O ?_)))))))))
 intro s
 refine va O O (ae (aa (aA ?_)))
 exact aE () O O O (.sel 2 O (.sel 2 O .n))

def dX.f (x0 : List (aF)) : Option ((List (aF))) := if (([] : List (aF)).length + x0.length) * 56 ≤ 140737488355328 then (some (([] : List (aF)) ++ x0)) else none
theorem dX.calls (W : World) (F : HA) (G : HA) (hG : Up G F) (a0 : Option Addr) (c0 : Nat) (x0 : List aF) (h0 : RdV G 5 (aQ G) a0 x0) (e : x0.length ≤ c0) (g : c0 ≤ maxLen) :
    Fn Tryz.prog W 92 [.slice a0 x0.length c0] [] F (dX.f x0) (fun (r : (List aF)) (y : Option Addr × Nat) => .slice y.1 r.length y.2) (fun r y => [am 144 5 (aQ G) y.1 r y.2]) := by
 unfold dX.f
 refine aO 8 Tryz.func92 O Tryz.ntmps92 O ?_
 rcases a0 with _ | p0
 have hx : x0 = [] := qQ rfl h0
 subst hx
 refine cS (o' := some ([] : List aF)) (by simp) (sr (va O O (ae (aa (ay (sr (vm O O (vq (nJ O O underlying87) O (ae (aa (gh O (sr (va O O (ae (aa (aA (aN ?_)))))))))))))))))
 exact aE (none, 0) O O O (.rowV_nil (.s O .n))
 refine sr (va O O (ae (aa (ay (sr (vm O O (vq (nK O O underlying87) O (ae (aa (gq O (aC (aa (sr (ah (qC (α := Int × Int × Int × Lb × Int) (V := (aQ G)) O underlying87 lG) O O O ?_))))))))))))))
 intro i
 refine vm O O (bf 0 O (fun d b => (bg (fun c => ?_))))
 refine ah (fg 0 O O O underlying87 lG O b ((h0.up hG (fun _ _ h => h)).rds 0 O) c) O O O ?_
 intro a
 refine va O O (ae (aa (aA ?_)))
 exact aE a O O O (.s O (.s O .n))

def eU.l0 (b : List (aF)) (x1 : Int) : Nat → Int → Option (Int)
  | 0, _ => none
  | k + 1, a => (if a < (b.length : Int) then (if 0 ≤ a ∧ a < (b.length : Int) then (some (decide ((b.getD a.toNat au).2.2.2.2 = x1))) else none) else (some false)).bind fun c => (if c = true then (eU.l0 b x1 k (IntKind.i64.wrap (a + 1))) else (some a))
def eU.f (k : Nat) (c : Int) (d : Int) (e : Int) (g : Int) (h : Int) (a : List (aF)) (x1 : Int) : Option (Int × Int × Int × Int × Int × (List (aF))) := (eU.l0 a x1 k 0).bind fun b => (if (0 : Int) < b then (if 0 ≤ IntKind.i64.wrap (b - 1) ∧ IntKind.i64.wrap (b - 1) < (a.length : Int) then (if 0 ≤ b ∧ b ≤ (a.length : Int) ∧ (a.length : Int) ≤ (a.length : Int) then ((dX.f (cut a b (a.length : Int))).bind fun i => (some (c, d, e, (a.getD (IntKind.i64.wrap (b - 1)).toNat au).2.1, (a.getD (IntKind.i64.wrap (b - 1)).toNat au).1, i))) else none) else none) else (some (c, d, e, g, h, a)))
theorem eU.calls (W : World) (F : HA) (k : Nat) (b0 : Nat) (h : Int) (n : Int) (p : Int) (x : Int) (w : Int) (c : Option Addr) (d : Nat) (a : List aF) (e : HA) (x1 : Int)  :
    Fn Tryz.prog W 65 [Pt b0, Iv x1] [W11 b0 h n p x w a c d, am 144 5 (aQ e) c a d, e] F (eU.f k h n p x w a x1) (fun (r : Int × Int × Int × Int × Int × (List aF)) (y : Option Addr × Nat × HA) => .tuple #[]) (fun r y => [W18 b0 r y.1 y.2.1, am 144 5 (aQ y.2.2) y.1 r.2.2.2.2.2 y.2.1, y.2.2]) := by
 unfold eU.f
 refine aO 58 Tryz.func65 O Tryz.ntmps65 O (sr (va O O (ae (aa ?_))))
 refine bJ (S := Int) Unit (fun s y => [(0, Pt b0), (4, Iv s)]) (fun s y => [W11 b0 h n p x w a c d, am 144 5 (aQ e) c a d, e, F]) ?_ ?_
 refine aR ?_
 refine ck (S := Int) Unit (fun k s => eU.l0 a x1 k s) (fun s y => [(0, Pt b0), (1, Iv x1), (4, Iv s)]) (fun s y => [W11 b0 h n p x w a c d, am 144 5 (aQ e) c a d, e, F]) (fun _ => by rw [eU.l0]) ?_ k 0 () ⟨O, O, O, trivial⟩ (.s O (.s O (.s O (.s O .n))))
 intro k ad dz
 refine cS (by rw [eU.l0]) (ay (sr (vm O O (vm O O (vn O O (vq (ap O O underlying89 O O sizeOf87 O) O (vq (ag O O isAgg87 (.obj 0 O O)) O (vq (bx O O O underlying87) O (vq (cL O O O) O (vm O O ?_))))))))))
 refine dG 11 (S := Bool) Unit (fun s y => [(0, Pt b0), (1, Iv x1), (4, Iv ad), (24, .bool s)]) (fun s y => [W11 b0 h n p x w a c d, am 144 5 (aQ e) c a d, e, F]) ?_ ?_
 refine ij (fun a5 => ?_) (fun a6 => ?_)
 rw [a5]
 refine aL (bh O O) O O O O O O (aL (aW O O) O O O O O O (aL (ap O O underlying89 O O sizeOf87 O) O O O O O O (aL (ag O O isAgg87 (.obj 0 O O)) O O O O O O (aL (bh O O) O O O O O O (bf 1 O (fun b5 af => (bg (fun a1 => (eN 1 O af O (i := ad.toNat) (by omega) au (fun d1 c1 c2 a7 a8 b3 hcell15v => ?_))))))))))
 obtain ⟨c3, c4, rfl, ⟨b6, b7, b8⟩⟩ := a8
 refine aL (cO O O O a7 underlying87 sizeOf144 a1.1 a1.2) O O O O O O (aL (ap O O underlying144 O O sizeOf3 O) O O O O O O (aL (ag O O isAgg3 (hcell15v 1 O 4 _ O)) O O O O O O (aL (bh O O) O O O O O O (aL (bW O O O) O O O O O O (vq (bS O O O O O) O (ae ?_))))))
 exact aG (s := decide ((a.getD ad.toNat au).2.2.2.2 = x1)) () ⟨O, O, O, O, trivial⟩ (.s O (.sel' 0 O (am.mk af) (.s O (.s O .n))))
 rw [a6]
 refine aD O O O O O O (aD O O O O O O (aD O O O O O O (aD O O O O O O (aD O O O O O O (aD O O O O O O (aD O O O O O O (aD O O O O O O (aD O O O O O O (aD O O O O O O (vq (bS O O O O O) O (ae ?_)))))))))))
 exact aG (s := false) () ⟨O, O, O, O, trivial⟩ (.s O (.s O (.s O (.s O .n))))
 intro d2 d3
 refine ae (aa ?_)
 refine aZ O (fun c5 => ?_) (fun c6 => ?_)
 refine aC (aa (aR (aI (vm O O (vq (bY O O O) O (va O O (ae (bo ?_))))))))
 exact bM (s := IntKind.i64.wrap (ad + 1)) () ⟨O, O, O, trivial⟩ (.s O (.s O (.s O (.s O .n))))
 refine cA (ce (cl (cf ?_)))
 exact aG (s := ad) () ⟨O, O, trivial⟩ (.s O (.s O (.s O (.s O .n))))
 intro b d4
 refine sr (vm O O (vq (cW O O O) O (ae (aa ?_))))
 refine bn O (fun c7 => ?_) (fun c8 => ?_)
 refine sr (vm O O (vn O O (vq (ap O O underlying89 O O sizeOf87 O) O (vq (ag O O isAgg87 (.obj 0 O O)) O (vm O O (vq (dC O O O) O (bf 1 O (fun g al => (bg (fun an => (eN 1 O al O (i := (IntKind.i64.wrap (b - 1)).toNat) (by omega) au (fun c9 b9 dl a9 bc b4 hcell36v => ?_))))))))))))
 obtain ⟨t, u, rfl, ⟨cd, ch, cs⟩⟩ := bc
 refine vq (cO O O O a9 underlying87 sizeOf144 an.1 an.2) O (vq (ap O O underlying144 O O sizeOf35 O) O (vq (cu (vs := [Iv ((a.getD (IntKind.i64.wrap (b - 1)).toNat au).1), Iv ((a.getD (IntKind.i64.wrap (b - 1)).toNat au).2.1), Iv ((a.getD (IntKind.i64.wrap (b - 1)).toNat au).2.2.1), .slice t (((a.getD (IntKind.i64.wrap (b - 1)).toNat au).2.2.2.1).length) u]) O O isAgg35 sizeOf35 O (fun j v hj => jt (hcell36v 1 O (0 + j) v (cR (off := 0) O j v hj)))) O (ah (bT O zeroValue35 O) O O O ?_)))
 intro q
 refine aY (aJ 0 O O O sizeOf35 O O (aP (by rfl)) O O) O O ?_
 intro _
 refine ae (aa (ay ?_))
 refine bi (Γ := Unit) () [[], [], [], [2], [], [4], [0, 2, 3], [0, 2, 3, 6], [0, 2, 3, 6, 7], rL 9, rL 10, rL 11] [8, 11] [0, 1, 2, 3, 4, 5, 6, 7, 9, 10] (fun i => [[0], [0, 1], [0], [0], [0, 1], [0, 1], [0], [0], [], [1], [1], []].getD i []) (fun i => [[], [], [], [], [], [], [], [], rL 8, [], [], rL 11].getD i []) (fun γ i => [Pt b0, Pt b0, .pointer (some ⟨q, 1, none⟩), Iv ((a.getD (IntKind.i64.wrap (b - 1)).toNat au).2.1), Pt q, Iv ((a.getD (IntKind.i64.wrap (b - 1)).toNat au).1), Pt b0, .pointer (some ⟨b0, 3, none⟩), undef, Pt b0, .pointer (some ⟨b0, 4, none⟩), undef].getD i undef) (fun j γ => [[W12 q (a.getD (IntKind.i64.wrap (b - 1)).toNat au) t u, W11 b0 h n p x w a c d, Row 144 5 c a.length d g.flatten, e, F], [W12 q (a.getD (IntKind.i64.wrap (b - 1)).toNat au) t u, W11 b0 h n p ((a.getD (IntKind.i64.wrap (b - 1)).toNat au).2.1) w a c d, Row 144 5 c a.length d g.flatten, e, F], [W12 q (a.getD (IntKind.i64.wrap (b - 1)).toNat au) t u, W11 b0 h n p ((a.getD (IntKind.i64.wrap (b - 1)).toNat au).2.1) ((a.getD (IntKind.i64.wrap (b - 1)).toNat au).1) a c d, Row 144 5 c a.length d g.flatten, e, F]].getD j []) (fun γ => [(0, Pt b0), (4, Iv b)]) mixed (by decide) (by decide) (by decide) (by decide) (by decide) (by decide) (by decide) 58 O (by decide) (by decide) (by decide) (Ent.refl _) ?_ ?_ (fun _ => ⟨O, O, trivial⟩) ?_
 exact (aq O (fun γ => qm O (.o (s := 0) O (by decide) .nil) O) (ac (fun γ => (ac (qm O (.o (s := 0) O (by decide) .nil) O) (ac (qm O (.o (s := 0) O (by decide) .nil) O) zA))) (aq O (fun γ => qp O O (.o (s := 5) O (by decide) .nil) (ap O O underlying35 O O sizeOf3 O) O) (aq O (fun γ => qp O O (.v 2 O O .nil) (ag O O isAgg3 (.obj 0 O O)) O) (ac (fun γ => (ac (qp O O (.o (s := 5) O (by decide) .nil) (ap O O underlying35 O O sizeOf3 O) O) (ac (qp O O (.o (s := 5) O (by decide) .nil) (ap O O underlying35 O O sizeOf3 O) O) zA))) (ac (fun γ => (ac (qp O O (.v 4 O O .nil) (ag O O isAgg3 (.obj 0 O O)) O) (ac (qp O O (.v 4 O O .nil) (ag O O isAgg3 (.obj 0 O O)) O) zA))) (aq O (fun γ => qp O O (.v 0 O O .nil) (aW O O) O) (aq O (fun γ => qp O O (.v 6 O O .nil) (ap O O underlying89 O O sizeOf3 O) O) (aq O (fun γ => qp O O (.v 1 O O .nil) (aW O O) O) (aq O (fun γ => qp O O (.v 9 O O .nil) (ap O O underlying89 O O sizeOf3 O) O) zA))))))))))
 exact (ac (fun γ => eo (Z := Unit) (fun z => ()) O O (.v 3 O O (.v 7 O O .nil)) (aJ 1 O O O sizeOf3 O O (aP (by rfl)) O O) (fun _ => ⟨O, O, O, O, O, O, O, O, trivial⟩) (fun _ => .inl O) (fun z => Ent.refl _)) (ac (fun γ => eo (Z := Unit) (fun z => ()) O O (.v 5 O O (.v 10 O O .nil)) (aJ 1 O O O sizeOf3 O O (aP (by rfl)) O O) (fun _ => ⟨O, O, O, O, O, O, O, O, O, O, O, trivial⟩) (fun _ => .inl O) (fun z => Ent.refl _)) zA))
 intro ds
 refine aa (aI (vm O O (vm O O (vn O O (vq (ap O O underlying89 O O sizeOf87 O) O (vq (ag O O isAgg87 (.obj 1 O O)) O (vm O O (ba 2 O (fun bd az be c0 => (bX (H' := [aS [Row 144 5 c a.length d g.flatten, e], W12 q (a.getD (IntKind.i64.wrap (b - 1)).toNat au) t u, W11 b0 h n p ((a.getD (IntKind.i64.wrap (b - 1)).toNat au).2.1) ((a.getD (IntKind.i64.wrap (b - 1)).toNat au).1) a c d, F]) (Ent.trans (m := [Row 144 5 c a.length d g.flatten, e, W12 q (a.getD (IntKind.i64.wrap (b - 1)).toNat au) t u, W11 b0 h n p ((a.getD (IntKind.i64.wrap (b - 1)).toNat au).2.1) ((a.getD (IntKind.i64.wrap (b - 1)).toNat au).1) a c d, F]) (.sel 2 O (.sel 2 O (.s O (.s O (.s O .n))))) (gf [Row 144 5 c a.length d g.flatten, e] _)) (bg (fun a0 => ?_))))))))))))
 obtain ⟨a2, a3, br, bs, bt, b1⟩ := gM (lo := b) (hi := (a.length : Int)) (Rd.asV (al.mono (aQ.up (Up.lend (l := [Row 144 5 c a.length d g.flatten, e]) 1 rfl))) (Rd.lend (l := [Row 144 5 c a.length d g.flatten, e]) bd 0 rfl)) az a0
 refine vq (gr (l := a) (lo' := b) (hi' := (a.length : Int)) O O O O underlying87 sizeOf144 (.inl ⟨O, O⟩) (.inr ⟨_, O⟩) a0 az br) O (ax (fun a4 b2 => (ah (av (vs := [.slice a2 ((cut a b (a.length : Int)).length) a3]) (cap := []) (A := []) (rst := [aS [Row 144 5 c a.length d g.flatten, e], W12 q (a.getD (IntKind.i64.wrap (b - 1)).toNat au) t u, W11 b0 h n p ((a.getD (IntKind.i64.wrap (b - 1)).toNat au).2.1) ((a.getD (IntKind.i64.wrap (b - 1)).toNat au).1) a c d, F]) O O O O O O call92 (.s O (.s O (.s O (.s O .n)))) (dX.calls _ _ _ (Up.lend 0 O) a2 a3 (cut a b (a.length : Int)) bs bt (Nat.le_trans b1 be)) b2) O O O ?_)))
 intro ab
 refine vn O O (vq (ap O O underlying89 O O sizeOf87 O) O (aY (aJ 3 O O O sizeOf87 O O (aP (by rfl)) O O) O O ?_))
 intro _
 refine bX (H' := [am 144 5 (aQ (aS [Row 144 5 c a.length d g.flatten, e])) ab.1 a4 ab.2, aS [Row 144 5 c a.length d g.flatten, e], W12 q (a.getD (IntKind.i64.wrap (b - 1)).toNat au) t u, W11 b0 h n p ((a.getD (IntKind.i64.wrap (b - 1)).toNat au).2.1) ((a.getD (IntKind.i64.wrap (b - 1)).toNat au).1) a4 ab.1 ab.2, F]) (Ent.refl _) (ae ?_)
 exact fZ (ab.1, ab.2, aS [Row 144 5 c a.length d g.flatten, e]) O O O (.sel 3 O (.s O (.s O (.sel 1 O .n))))
 refine aC ?_
 exact fZ (c, d, e) O O O (.s O (.s O (.s O (.s O .n))))

def eV.l0 (a : List (aF)) : Nat → Int → List (bm) → Option ((List (bm)))
  | 0, _, _ => none
  | k + 1, b, c => if b < (a.length : Int) then (if 0 ≤ b ∧ b < (a.length : Int) then ((cr.f ((a.getD b.toNat au).2.2.2.1)).bind fun d => (if (c.length + ([((a.getD b.toNat au).1, (a.getD b.toNat au).2.1, (a.getD b.toNat au).2.2.1, d)] : List (bm)).length) * 48 ≤ 140737488355328 then (eV.l0 a k (IntKind.i64.wrap (b + 1)) (c ++ ([((a.getD b.toNat au).1, (a.getD b.toNat au).2.1, (a.getD b.toNat au).2.2.1, d)] : List (bm)))) else none)) else none) else (some c)
def eV.f (k : Nat) (a : Int) (b : Int) (c : Int) (d : Int) (e : Int) (g : List (aF)) : Option (Int × Int × Int × Int × Int × (List (bm))) := (eV.l0 g k 0 ([] : List (bm))).bind fun h => (some (a, b, c, d, e, h))
theorem eV.calls (W : World) (F : HA) (k : Nat) (b0 : Nat) (e : Int) (g : Int) (h : Int) (n : Int) (p : Int) (u : Option Addr) (t : Nat) (a : List aF) (b1 : RdV F 5 (aQ F) u a) (b3 : a.length ≤ t) (b4 : t ≤ maxLen) :
    Fn Tryz.prog W 54 [Pt b0] [W11 b0 e g h n p a u t] F (eV.f k e g h n p a) (fun (r : Int × Int × Int × Int × Int × (List bm)) (y : Option Addr × Nat × HA) => .agg #[Iv r.1, Iv r.2.1, Iv r.2.2.1, Iv r.2.2.2.1, Iv r.2.2.2.2.1, .slice y.1 r.2.2.2.2.2.length y.2.1]) (fun r y => [am 35 4 (V35 y.2.2) y.1 r.2.2.2.2.2 y.2.1, y.2.2, W11 b0 e g h n p a u t]) := by
 unfold eV.f
 refine aO 43 Tryz.func54 O Tryz.ntmps54 O (sr (ah (bT O zeroValue47 O) O O O ?_))
 intro w
 refine ae (aa (ay ?_))
 refine bi (Γ := Nat) 0 [[], [0], [0, 1], [0, 1, 2], [], [4], [4, 5], [4, 5, 6], [], [8], [8, 9], [8, 9, 10], rL 12, [], rL 14] [13, 14] [0, 1, 2, 3, 4, 5, 6, 7, 8, 9, 10, 11, 12] (fun i => [[0, 1], [0, 1], [0, 1], [0, 1], [0, 1], [0, 1], [0, 1], [0, 1], [0, 1], [0, 1], [0, 1], [0, 1], [0, 1], [], []].getD i []) (fun i => [[], [], [], [], [], [], [], [], [], [], [], [], [], rL 13, rL 14].getD i []) (fun γ i => [Pt b0, Pt b0, Pt b0, .agg #[Iv e, Iv g, Iv h], Pt b0, Pt b0, .pointer (some ⟨b0, 3, none⟩), Iv n, Pt b0, Pt b0, .pointer (some ⟨b0, 4, none⟩), Iv p, .agg #[Iv e, Iv g, Iv h, Iv n, Iv p, .slice none 0 0], Pt γ, undef].getD i undef) (fun j γ => [[obj w 47 [Iv 0, Iv 0, Iv 0, Iv 0, Iv 0, .slice none 0 0], W11 b0 e g h n p a u t, F], [obj γ 47 [Iv 0, Iv 0, Iv 0, Iv 0, Iv 0, .slice none 0 0], obj w 47 [Iv 0, Iv 0, Iv 0, Iv 0, Iv 0, .slice none 0 0], W11 b0 e g h n p a u t, F], [obj γ 47 [Iv e, Iv g, Iv h, Iv n, Iv p, .slice none 0 0], obj w 47 [Iv 0, Iv 0, Iv 0, Iv 0, Iv 0, .slice none 0 0], W11 b0 e g h n p a u t, F]].getD j []) (fun γ => [(0, Pt b0), (2, Pt w), (3, Pt γ)]) mixed (by decide) (by decide) (by decide) (by decide) (by decide) (by decide) (by decide) 43 O (by decide) (by decide) (by decide) (Ent.refl _) ?_ ?_ (fun _ => ⟨O, O, O, trivial⟩) ?_
 exact (ac (fun γ => (ac (qm O (.o (s := 0) O (by decide) .nil) O) (ac (qm O (.o (s := 0) O (by decide) .nil) O) zA))) (ac (fun γ => (ac (qp O O (.v 0 O O .nil) (aW O O) O) (ac (qp O O (.v 0 O O .nil) (aW O O) O) zA))) (ac (fun γ => (ac (qp O O (.v 1 O O .nil) (ap O O underlying89 O O sizeOf43 O) O) (ac (qp O O (.v 1 O O .nil) (ap O O underlying89 O O sizeOf43 O) O) zA))) (ac (fun γ => (ac (qp O O (.v 2 O O .nil) (cu (vs := [Iv e, Iv g, Iv h]) O O isAgg43 sizeOf43 O (du 1 O (cR O))) O) (ac (qp O O (.v 2 O O .nil) (cu (vs := [Iv e, Iv g, Iv h]) O O isAgg43 sizeOf43 O (du 2 O (cR O))) O) zA))) (ac (fun γ => (ac (qm O (.o (s := 0) O (by decide) .nil) O) (ac (qm O (.o (s := 0) O (by decide) .nil) O) zA))) (ac (fun γ => (ac (qp O O (.v 4 O O .nil) (aW O O) O) (ac (qp O O (.v 4 O O .nil) (aW O O) O) zA))) (ac (fun γ => (ac (qp O O (.v 5 O O .nil) (ap O O underlying89 O O sizeOf3 O) O) (ac (qp O O (.v 5 O O .nil) (ap O O underlying89 O O sizeOf3 O) O) zA))) (ac (fun γ => (ac (qp O O (.v 6 O O .nil) (ag O O isAgg3 (.obj 1 O O)) O) (ac (qp O O (.v 6 O O .nil) (ag O O isAgg3 (.obj 2 O O)) O) zA))) (ac (fun γ => (ac (qm O (.o (s := 0) O (by decide) .nil) O) (ac (qm O (.o (s := 0) O (by decide) .nil) O) zA))) (ac (fun γ => (ac (qp O O (.v 8 O O .nil) (aW O O) O) (ac (qp O O (.v 8 O O .nil) (aW O O) O) zA))) (ac (fun γ => (ac (qp O O (.v 9 O O .nil) (ap O O underlying89 O O sizeOf3 O) O) (ac (qp O O (.v 9 O O .nil) (ap O O underlying89 O O sizeOf3 O) O) zA))) (ac (fun γ => (ac (qp O O (.v 10 O O .nil) (ag O O isAgg3 (.obj 1 O O)) O) (ac (qp O O (.v 10 O O .nil) (ag O O isAgg3 (.obj 2 O O)) O) zA))) (ac (fun γ => (ac (qp O O (.v 3 O O (.v 7 O O (.v 11 O O .nil))) (di (v := .agg #[Iv e, Iv g, Iv h, Iv n, Iv p, .slice none 0 0]) O O (fun _ => by kernel_rfl)) O) (ac (qp O O (.v 3 O O (.v 7 O O (.v 11 O O .nil))) (di (v := .agg #[Iv e, Iv g, Iv h, Iv n, Iv p, .slice none 0 0]) O O (fun _ => by kernel_rfl)) O) zA))) zA)))))))))))))
 exact (ac (fun γ => eo (Z := Nat) (fun z => z) O O .nil (bT O zeroValue47 O) (fun _ => ⟨O, O, O, O, O, O, O, O, O, O, O, O, O, trivial⟩) (fun _ => .inr O) (fun z => Ent.refl _)) (ac (fun γ => eo (Z := Unit) (fun z => γ) O O (.v 13 O O (.v 12 O O .nil)) (aJ 0 O O O sizeOf47 O O (aP (by rfl)) O O) (fun _ => ⟨O, O, O, O, O, O, O, O, O, O, O, O, O, O, trivial⟩) (fun _ => .inl O) (fun z => Ent.refl _)) zA))
 intro af
 refine aa ?_
 refine bJ (S := (List bm)) (HA × Option Addr × Nat) (fun s y => [(2, Pt w), (3, Pt af)]) (fun s y => [W15 af e g h n p s y.2.1 y.2.2, obj w 47 [Iv 0, Iv 0, Iv 0, Iv 0, Iv 0, .slice none 0 0], W11 b0 e g h n p a u t, am 35 4 (V35 y.1) y.2.1 s y.2.2, y.1, F]) ?_ ?_
 refine sr (vm O O (vn O O (vq (ap O O underlying89 O O sizeOf87 O) O (vq (ag O O isAgg87 (.obj 2 O O)) O (vq (bx O O O underlying87) O (vm O O (ae (aa (aR ?_)))))))))
 refine ck (S := Int × (List bm)) (HA × Option Addr × Nat) (fun k s => eV.l0 a k s.1 s.2) (fun s y => [(2, Pt w), (3, Pt af), (23, .slice u a.length t), (24, Iv (a.length : Int)), (25, Iv s.1)]) (fun s y => [W15 af e g h n p s.2 y.2.1 y.2.2, obj w 47 [Iv 0, Iv 0, Iv 0, Iv 0, Iv 0, .slice none 0 0], W11 b0 e g h n p a u t, am 35 4 (V35 y.1) y.2.1 s.2 y.2.2, y.1, F]) (fun _ => by rw [eV.l0]) ?_ k (0, ([] : List bm)) (tt, none, 0) ⟨O, O, O, O, O, trivial⟩ (.s O (.s O (.s O (.rowV_nil (.tt_in (.s O .n))))))
 intro k b q
 refine cS (by rw [eV.l0]) (sr (vq (cL O O O) O (ae (aa (ay ?_)))))
 refine bn O (fun b7 => ?_) (fun b8 => ?_)
 refine aC (aa (ay (aR (sr (bg (fun a2 => ?_))))))
 obtain ⟨b9, b5, cd, a5, a6, b2, hcell19v⟩ := RdV.pos b1 (Up.refl _) rfl (i := b.1.toNat) (by omega) au
 obtain ⟨ab, ad, rfl, ⟨a7, a8, a9⟩⟩ := a6
 refine vq (cO O O O a5 underlying87 sizeOf144 a2.1 a2.2) O (vq (cu O O isAgg144 sizeOf144 O (fun j v hj => hcell19v 5 O j v hj)) O (ah (bT O zeroValue144 O) O O O ?_))
 intro an
 refine aY (aJ 0 O O O sizeOf144 O O (aP (by rfl)) O O) O O ?_
 intro _
 refine nx (vq (ap O O underlying144 O O sizeOf35 O) O (vq (cu (vs := [Iv ((a.getD b.1.toNat au).1), Iv ((a.getD b.1.toNat au).2.1), Iv ((a.getD b.1.toNat au).2.2.1), .slice ab (((a.getD b.1.toNat au).2.2.2.1).length) ad]) O O isAgg35 sizeOf35 O (du 0 O (cR O))) O (ah (bT O zeroValue35 O) O O O ?_)))
 intro az
 refine aY (aJ 0 O O O sizeOf35 O O (aP (by rfl)) O O) O O ?_
 intro _
 refine nx (vq (ap O O underlying35 O O sizeOf33 O) O (vq (ag O O isAgg33 (.obj 0 O O)) O (ax (fun d bc => (ah (av (vs := [.slice ab (((a.getD b.1.toNat au).2.2.2.1).length) ad]) (cap := []) (A := []) (rst := [W12 az (a.getD b.1.toNat au) ab ad, W16 an (a.getD b.1.toNat au) ab ad, W15 af e g h n p b.2 q.2.1 q.2.2, obj w 47 [Iv 0, Iv 0, Iv 0, Iv 0, Iv 0, .slice none 0 0], W11 b0 e g h n p a u t, am 35 4 (V35 q.1) q.2.1 b.2 q.2.2, q.1, F]) O O O O O O call82 (.s O (.s O (.s O (.s O (.s O (.s O (.s O (.s O .n)))))))) (cr.calls _ _ ab ad ((a.getD b.1.toNat au).2.2.2.1) (a7.lend 7 O) a8 a9) bc) O O O ?_)))))
 intro c
 refine vq (ap O O underlying35 O O sizeOf33 O) O (aY (aJ 1 O O O sizeOf33 O O (aP (by rfl)) O O) O O ?_)
 intro _
 refine ny (vq (ap O O underlying47 O O sizeOf32 O) O (vq (ag O O isAgg32 (.obj 3 O O)) O (vq (co 1 O O isAgg35 sizeOf35 O O) O (ba 0 O (fun bd be br b6 => ?_)))))
 have a0 : bP 4 (V35 (Row 5 1 c.1 d.length c.2 (aB d))) ([((a.getD b.1.toNat au).1, (a.getD b.1.toNat au).2.1, (a.getD b.1.toNat au).2.2.1, d)] : List bm) [[Iv ((a.getD b.1.toNat au).1), Iv ((a.getD b.1.toNat au).2.1), Iv ((a.getD b.1.toNat au).2.2.1), .slice c.1 d.length c.2]] := ⟨⟨rfl, aP (by rfl), ⟨c.1, c.2, rfl, ⟨bd, be, br⟩⟩⟩, trivial⟩
 refine ah (gb (V := (V35 (Row 5 1 c.1 d.length c.2 (aB d)))) (xs := ([((a.getD b.1.toNat au).1, (a.getD b.1.toNat au).2.1, (a.getD b.1.toNat au).2.2.1, d)] : List bm)) [[Iv ((a.getD b.1.toNat au).1), Iv ((a.getD b.1.toNat au).2.1), Iv ((a.getD b.1.toNat au).2.2.1), .slice c.1 d.length c.2]] O O underlying32 na O (by kernel_rfl) O a0 O O) O O O ?_
 intro a1
 refine bf 7 O (fun a3 bs => (bX (H' := [aS [Row 5 1 c.1 d.length c.2 (aB d), q.1], Row 35 4 (some ⟨a1, 0, none⟩) ([((a.getD b.1.toNat au).1, (a.getD b.1.toNat au).2.1, (a.getD b.1.toNat au).2.2.1, d)] : List bm).length 1 [[Iv ((a.getD b.1.toNat au).1), Iv ((a.getD b.1.toNat au).2.1), Iv ((a.getD b.1.toNat au).2.2.1), .slice c.1 d.length c.2]].flatten, W10 az ((a.getD b.1.toNat au).1) ((a.getD b.1.toNat au).2.1) ((a.getD b.1.toNat au).2.2.1) d c.1 c.2, W16 an (a.getD b.1.toNat au) ab ad, W15 af e g h n p b.2 q.2.1 q.2.2, obj w 47 [Iv 0, Iv 0, Iv 0, Iv 0, Iv 0, .slice none 0 0], W11 b0 e g h n p a u t, Row 35 4 q.2.1 b.2.length q.2.2 a3.flatten, F]) (Ent.trans (m := [Row 5 1 c.1 d.length c.2 (aB d), q.1, Row 35 4 (some ⟨a1, 0, none⟩) ([((a.getD b.1.toNat au).1, (a.getD b.1.toNat au).2.1, (a.getD b.1.toNat au).2.2.1, d)] : List bm).length 1 [[Iv ((a.getD b.1.toNat au).1), Iv ((a.getD b.1.toNat au).2.1), Iv ((a.getD b.1.toNat au).2.2.1), .slice c.1 d.length c.2]].flatten, W10 az ((a.getD b.1.toNat au).1) ((a.getD b.1.toNat au).2.1) ((a.getD b.1.toNat au).2.2.1) d c.1 c.2, W16 an (a.getD b.1.toNat au) ab ad, W15 af e g h n p b.2 q.2.1 q.2.2, obj w 47 [Iv 0, Iv 0, Iv 0, Iv 0, Iv 0, .slice none 0 0], W11 b0 e g h n p a u t, Row 35 4 q.2.1 b.2.length q.2.2 a3.flatten, F]) (.sel 1 O (.sel 7 O (.s O (.s O (.s O (.s O (.s O (.s O (.s O (.s O .n)))))))))) (gf [Row 5 1 c.1 d.length c.2 (aB d), q.1] _)) (bg (fun bt => (ah (fg 7 O O O underlying32 na O (bs.mono (V35.up (Up.lend (l := [Row 5 1 c.1 d.length c.2 (aB d), q.1]) 1 O))) (gX.row (a0.mono (V35.up (Up.lend (l := [Row 5 1 c.1 d.length c.2 (aB d), q.1]) 0 O))) 1 O) bt) O O O ?_)))))
 intro al
 refine vq (ap O O underlying47 O O sizeOf32 O) O (aY (aJ 4 O O O sizeOf32 O O (aP (by rfl)) O O) O O ?_)
 intro _
 refine bX (H' := [aS [Row 5 1 c.1 d.length c.2 (aB d), q.1], Row 35 4 (some ⟨a1, 0, none⟩) ([((a.getD b.1.toNat au).1, (a.getD b.1.toNat au).2.1, (a.getD b.1.toNat au).2.2.1, d)] : List bm).length 1 [[Iv ((a.getD b.1.toNat au).1), Iv ((a.getD b.1.toNat au).2.1), Iv ((a.getD b.1.toNat au).2.2.1), .slice c.1 d.length c.2]].flatten, W10 az ((a.getD b.1.toNat au).1) ((a.getD b.1.toNat au).2.1) ((a.getD b.1.toNat au).2.2.1) d c.1 c.2, W16 an (a.getD b.1.toNat au) ab ad, W15 af e g h n p (b.2 ++ ([((a.getD b.1.toNat au).1, (a.getD b.1.toNat au).2.1, (a.getD b.1.toNat au).2.2.1, d)] : List bm)) al.1 al.2, obj w 47 [Iv 0, Iv 0, Iv 0, Iv 0, Iv 0, .slice none 0 0], W11 b0 e g h n p a u t, am 35 4 (V35 (aS [Row 5 1 c.1 d.length c.2 (aB d), q.1])) al.1 (b.2 ++ ([((a.getD b.1.toNat au).1, (a.getD b.1.toNat au).2.1, (a.getD b.1.toNat au).2.2.1, d)] : List bm)) al.2, F]) (Ent.refl _) (ae (bo (aa (aI (vq (bY O O O) O (vm O O (ae ?_)))))))
 exact bM (s := (IntKind.i64.wrap (b.1 + 1), b.2 ++ ([((a.getD b.1.toNat au).1, (a.getD b.1.toNat au).2.1, (a.getD b.1.toNat au).2.2.1, d)] : List bm))) (aS [Row 5 1 c.1 d.length c.2 (aB d), q.1], al) ⟨O, O, O, O, O, trivial⟩ (.sel 4 O (.sel 4 O (.sel 4 O (.sel 4 O (.s O (.sel 3 O .n))))))
 refine cA (ce (cl (cf ?_)))
 exact aG (s := b.2) q ⟨O, O, trivial⟩ (.s O (.s O (.s O (.s O (.s O (.s O .n))))))
 intro a4 x
 refine sr (vq (co 0 O O isAgg47 sizeOf47 O O) O (aY (aJ 1 O O O sizeOf47 O O (aP (by rfl)) O O) O O ?_))
 intro _
 refine bX (H' := [W15 af e g h n p a4 x.2.1 x.2.2, W15 w e g h n p a4 x.2.1 x.2.2, W11 b0 e g h n p a u t, am 35 4 (V35 x.1) x.2.1 a4 x.2.2, x.1, F]) (Ent.refl _) (ae (aa (aA ?_)))
 exact iU (vs := [.agg #[Iv e, Iv g, Iv h, Iv n, Iv p, .slice x.2.1 a4.length x.2.2]]) (x.2.1, x.2.2, x.1) O ⟨⟨w, O, ir 1 isAgg47 sizeOf47 O O⟩, trivial⟩ O (.sel 3 O (.sel 3 O (.sel 2 O (.sel 2 O .n))))

def cn.l0 (x0 : List (List UInt8)) (x1 : List (List UInt8)) : Nat → Int → Option ((Unit) ⊕ (Bool))
  | 0, _ => none
  | k + 1, a => if a < (x0.length : Int) then (if 0 ≤ a ∧ a < (x0.length : Int) then (if 0 ≤ a ∧ a < (x1.length : Int) then (if (x0.getD a.toNat ([] : List UInt8)) = (x1.getD a.toNat ([] : List UInt8)) then (cn.l0 x0 x1 k (IntKind.i64.wrap (a + 1))) else (some (.inr false))) else none) else none) else (some (.inl ()))
def cn.f (k : Nat) (x0 : List (List UInt8)) (x1 : List (List UInt8)) : Option (Bool) := if (x0.length : Int) = (x1.length : Int) then (orR (cn.l0 x0 x1 k 0) fun a => (some true)) else (some false)
theorem cn.calls (W : World) (F : HA) (k : Nat) (a0 : Option Addr) (c0 : Nat) (x0 : List Lb) (a1 : Option Addr) (c1 : Nat) (x1 : List Lb) (h0 : RdV F 1 (V9 tt) a0 x0) (ad : x0.length ≤ c0) (af : c0 ≤ maxLen) (h1 : RdV F 1 (V9 tt) a1 x1) (al : x1.length ≤ c1) (an : c1 ≤ maxLen) :
    Fn Tryz.prog W 32 [.slice a0 x0.length c0, .slice a1 x1.length c1] [] F (cn.f k x0 x1) (fun (r : Bool) (y : Unit) => .bool r) (fun r y => []) := by
 unfold cn.f
 refine aO 26 Tryz.func32 O Tryz.ntmps32 O (sr (va O O (ae (aa (ay (sr (vm O O (vq (bx O O O underlying60) O (vm O O (vq (bx O O O underlying60) O (vq (dp O O O) O (ae (aa ?_)))))))))))))
 refine dd O (fun az => ?_) (fun a2 => ?_)
 refine aC (aa ?_)
 refine gi (S := Unit) Unit (fun s y => []) (fun s y => [F]) ?_ ?_
 refine sr (va O O (ae (aa (aR ?_))))
 refine ck (S := Int) Unit (fun k s => cn.l0 x0 x1 k s) (fun s y => [(0, .slice a0 x0.length c0), (1, .slice a1 x1.length c1), (5, Iv s)]) (fun s y => [F]) (fun _ => by rw [cn.l0]) ?_ k 0 () ⟨O, O, O, trivial⟩ (.s O .n)
 intro k a a3
 refine cS (by rw [cn.l0]) (ay (sr (vm O O (vm O O (vq (bx O O O underlying60) O (vq (cL O O O) O (ae (aa ?_))))))))
 refine bn O (fun a4 => ?_) (fun a5 => ?_)
 refine aC (aa (ay (aR (ay (cG (fun b => ?_))))))
 obtain ⟨n, d, u, e, g, q, hcell17v⟩ := RdV.pos h0 (Up.refl _) rfl (i := a.toNat) (by omega) ([] : Lb)
 obtain rfl := g
 refine cG (fun c => ?_)
 obtain ⟨p, h, w, l, m, t, hcell25v⟩ := RdV.pos h1 (Up.refl _) rfl (i := a.toNat) (by omega) ([] : Lb)
 obtain rfl := m
 refine bi (Γ := Unit) () [[], [], [0, 1], [0, 1, 2], [], [], [4, 5], [4, 5, 6], rL 8] [] [0, 1, 2, 3, 4, 5, 6, 7, 8] (fun i => [[0], [0], [0], [0], [0], [0], [0], [0], [0]].getD i []) (fun i => [[], [], [], [], [], [], [], [], []].getD i []) (fun γ i => [.slice a0 x0.length c0, Iv a, .pointer (some ⟨n, d + a.toNat * 1, none⟩), str (x0.getD a.toNat ([] : Lb)), .slice a1 x1.length c1, Iv a, .pointer (some ⟨p, h + a.toNat * 1, none⟩), str (x1.getD a.toNat ([] : Lb)), .bool (!decide ((x0.getD a.toNat ([] : Lb)) = (x1.getD a.toNat ([] : Lb))))].getD i undef) (fun j γ => [[F]].getD j []) (fun γ => [(0, .slice a0 x0.length c0), (1, .slice a1 x1.length c1), (5, Iv a), (25, .bool (!decide ((x0.getD a.toNat ([] : Lb)) = (x1.getD a.toNat ([] : Lb)))))]) mixed (by decide) (by decide) (by decide) (by decide) (by decide) (by decide) (by decide) 26 O (by decide) (by decide) (by decide) (Ent.refl _) ?_ ?_ (fun _ => ⟨O, O, O, O, trivial⟩) ?_
 exact (aq O (fun γ => qm O (.o (s := 0) O (by decide) .nil) O) (aq O (fun γ => qm O (.o (s := 5) O (by decide) .nil) O) (aq O (fun γ => qp O O (.v 0 O O (.v 1 O O .nil)) (cO O O O e underlying60 sizeOf9 b.1 b.2) O) (aq O (fun γ => qp O O (.v 2 O O .nil) (ag O O isAgg9 (hcell17v 0 O 0 _ O)) O) (aq O (fun γ => qm O (.o (s := 1) O (by decide) .nil) O) (aq O (fun γ => qm O (.o (s := 5) O (by decide) .nil) O) (aq O (fun γ => qp O O (.v 4 O O (.v 5 O O .nil)) (cO O O O l underlying60 sizeOf9 c.1 c.2) O) (aq O (fun γ => qp O O (.v 6 O O .nil) (ag O O isAgg9 (hcell25v 0 O 0 _ O)) O) (aq O (fun γ => qp O O (.v 3 O O (.v 7 O O .nil)) (wS O O O) O) zA)))))))))
 exact zA
 intro x
 refine aa ?_
 refine dd O (fun z => ?_) (fun ab => ?_)
 refine aC (bo (aa (aI (vm O O (vq (bY O O O) O (va O O (ae ?_)))))))
 exact bM (s := IntKind.i64.wrap (a + 1)) () ⟨O, O, O, trivial⟩ (.s O .n)
 refine sr (va O O (ae (aa (aA (bp (aN (fw (bp (fi ?_)))))))))
 exact aE () O O O (.s O .n)
 refine cA (ce (cl (cf ?_)))
 exact fN (s := ()) () trivial (.s O .n)
 intro a6 a7
 refine sr (va O O (ae (aa (aA ?_))))
 exact aE () O O O (.s O .n)
 refine sr (va O O (ae (aa (aA (aN ?_)))))
 exact aE () O O O (.s O .n)

def cb.l0 (x0 : List UInt8) (x1 : List UInt8) : Nat → Int → Option ((Unit) ⊕ (Bool))
  | 0, _ => none
  | k + 1, a => if a < (x0.length : Int) then (if 0 ≤ a ∧ a < (x0.length : Int) then (if 0 ≤ a ∧ a < (x1.length : Int) then (if ((x0.getD a.toNat 0).toNat : Int) = ((x1.getD a.toNat 0).toNat : Int) then (cb.l0 x0 x1 k (IntKind.i64.wrap (a + 1))) else (some (.inr false))) else none) else none) else (some (.inl ()))
def cb.f (k : Nat) (x0 : List UInt8) (x1 : List UInt8) : Option (Bool) := if (x0.length : Int) = (x1.length : Int) then (orR (cb.l0 x0 x1 k 0) fun a => (some true)) else (some false)
theorem cb.calls (W : World) (F : HA) (k : Nat) (a0 : Option Addr) (c0 : Nat) (x0 : Lb) (a1 : Option Addr) (c1 : Nat) (x1 : Lb) (h0 : Rd F a0 (aB x0)) (t : x0.length ≤ c0) (u : c0 ≤ maxLen) (h1 : Rd F a1 (aB x1)) (w : x1.length ≤ c1) (x : c1 ≤ maxLen) :
    Fn Tryz.prog W 30 [.slice a0 x0.length c0, .slice a1 x1.length c1] [] F (cb.f k x0 x1) (fun (r : Bool) (y : Unit) => .bool r) (fun r y => []) := by
 unfold cb.f
 refine aO 26 Tryz.func30 O Tryz.ntmps30 O (sr (va O O (ae (aa (ay (sr (vm O O (vq (bx O O O underlying33) O (vm O O (vq (bx O O O underlying33) O (vq (dp O O O) O (ae (aa ?_)))))))))))))
 refine dd O (fun z => ?_) (fun ab => ?_)
 refine aC (aa ?_)
 refine gi (S := Unit) Unit (fun s y => []) (fun s y => [F]) ?_ ?_
 refine sr (va O O (ae (aa (aR ?_))))
 refine ck (S := Int) Unit (fun k s => cb.l0 x0 x1 k s) (fun s y => [(0, .slice a0 x0.length c0), (1, .slice a1 x1.length c1), (5, Iv s)]) (fun s y => [F]) (fun _ => by rw [cb.l0]) ?_ k 0 () ⟨O, O, O, trivial⟩ (.s O .n)
 intro k a ad
 refine cS (by rw [cb.l0]) (ay (sr (vm O O (vm O O (vq (bx O O O underlying33) O (vq (cL O O O) O (ae (aa ?_))))))))
 refine bn O (fun af => ?_) (fun al => ?_)
 refine aC (aa (ay (aR (ay (cG (fun b => ?_))))))
 obtain ⟨l, g, c⟩ := h0.pos (iS (j := a.toNat) (by omega))
 refine cG (fun d => ?_)
 obtain ⟨m, h, e⟩ := h1.pos (iS (j := a.toNat) (by omega))
 refine bi (Γ := Unit) () [[], [], [0, 1], [0, 1, 2], [], [], [4, 5], [4, 5, 6], rL 8] [] [0, 1, 2, 3, 4, 5, 6, 7, 8] (fun i => [[0], [0], [0], [0], [0], [0], [0], [0], [0]].getD i []) (fun i => [[], [], [], [], [], [], [], [], []].getD i []) (fun γ i => [.slice a0 x0.length c0, Iv a, .pointer (some ⟨l, g + a.toNat, none⟩), .int .u8 ((x0.getD a.toNat 0).toNat : Int), .slice a1 x1.length c1, Iv a, .pointer (some ⟨m, h + a.toNat, none⟩), .int .u8 ((x1.getD a.toNat 0).toNat : Int), .bool (!decide (((x0.getD a.toNat 0).toNat : Int) = ((x1.getD a.toNat 0).toNat : Int)))].getD i undef) (fun j γ => [[F]].getD j []) (fun γ => [(0, .slice a0 x0.length c0), (1, .slice a1 x1.length c1), (5, Iv a), (25, .bool (!decide (((x0.getD a.toNat 0).toNat : Int) = ((x1.getD a.toNat 0).toNat : Int))))]) mixed (by decide) (by decide) (by decide) (by decide) (by decide) (by decide) (by decide) 26 O (by decide) (by decide) (by decide) (Ent.refl _) ?_ ?_ (fun _ => ⟨O, O, O, O, trivial⟩) ?_
 exact (aq O (fun γ => qm O (.o (s := 0) O (by decide) .nil) O) (aq O (fun γ => qm O (.o (s := 5) O (by decide) .nil) O) (aq O (fun γ => qp O O (.v 0 O O (.v 1 O O .nil)) (jv O O O c underlying33 sizeOf5 b.1 b.2) O) (aq O (fun γ => qp O O (.v 2 O O .nil) (ag O O isAgg5 (h0.cell 0 O c (il (by omega)))) O) (aq O (fun γ => qm O (.o (s := 1) O (by decide) .nil) O) (aq O (fun γ => qm O (.o (s := 5) O (by decide) .nil) O) (aq O (fun γ => qp O O (.v 4 O O (.v 5 O O .nil)) (jv O O O e underlying33 sizeOf5 d.1 d.2) O) (aq O (fun γ => qp O O (.v 6 O O .nil) (ag O O isAgg5 (h1.cell 0 O e (il (by omega)))) O) (aq O (fun γ => qp O O (.v 3 O O (.v 7 O O .nil)) (dp O O O) O) zA)))))))))
 exact zA
 intro n
 refine aa ?_
 refine dd O (fun p => ?_) (fun q => ?_)
 refine aC (bo (aa (aI (vm O O (vq (bY O O O) O (va O O (ae ?_)))))))
 exact bM (s := IntKind.i64.wrap (a + 1)) () ⟨O, O, O, trivial⟩ (.s O .n)
 refine sr (va O O (ae (aa (aA (bp (aN (fw (bp (fi ?_)))))))))
 exact aE () O O O (.s O .n)
 refine cA (ce (cl (cf ?_)))
 exact fN (s := ()) () trivial (.s O .n)
 intro an az
 refine sr (va O O (ae (aa (aA ?_))))
 exact aE () O O O (.s O .n)
 refine sr (va O O (ae (aa (aA (aN ?_)))))
 exact aE () O O O (.s O .n)

def fo.f (k : Nat) (a : Int) (b : Int) (c : Int) (d : List UInt8) (e : Int) (g : Int) (h : Int) (i : List UInt8) : Option (Bool) := (cb.f k d i).bind fun j => (some (((j && (decide (a = e))) && (decide (b = g))) && (decide (c = h))))
theorem fo.calls (W : World) (F : HA) (k : Nat) (a : Int) (e : Int) (q : Int) (m : Option Addr) (j : Nat) (h : Lb) (c : Int) (g : Int) (s : Int) (n : Option Addr) (l : Nat) (i : Lb) (az : Rd F m (aB h)) (w : h.length ≤ j) (x : j ≤ maxLen) (a0 : Rd F n (aB i)) (z : i.length ≤ l) (ab : l ≤ maxLen) :
    Fn Tryz.prog W 55 [.agg #[Iv a, Iv e, Iv q, .slice m h.length j], .agg #[Iv c, Iv g, Iv s, .slice n i.length l]] [] F (fo.f k a e q h c g s i) (fun (r : Bool) (y : Unit) => .bool r) (fun r y => []) := by
 unfold fo.f
 refine aO 33 Tryz.func55 O Tryz.ntmps55 O (sr (ah (cq O O O) O O O ?_))
 intro o
 refine ah (cq O O O) O O O ?_
 intro p
 refine va O O (nx (vq (ap O O underlying35 O O sizeOf33 O) O (vq (ag O O isAgg33 (.obj 1 O O)) O (vq (ap O O underlying35 O O sizeOf33 O) O (vq (ag O O isAgg33 (.obj 0 O O)) O (ax (fun d a1 => (ah (av (vs := [.slice m h.length j, .slice n i.length l]) (cap := []) (A := []) (rst := [W10 p c g s i n l, W10 o a e q h m j, F]) O O O O O O call30 (.s O (.s O (.s O .n))) (cb.calls _ _ k m j h n l i (az.lend 2 O) w x (a0.lend 2 O) z ab) a1) O O O ?_))))))))
 intro bc
 refine va O O (nx (vm O O (vm O O (aw (b := d) (fun a4 => RQ.sub (E' := [(2, Pt o)]) ⟨O, trivial⟩ (ap O O underlying35 O O sizeOf3 O)) O O O O O (aw (b := d) (fun ad => RQ.sub (E' := [(13, Pt o)]) ⟨aH O ad, trivial⟩ (ag O O isAgg3 (.obj 1 O O))) O O O O O (aw (b := d) (fun a5 => RQ.sub (E' := [(3, Pt p)]) ⟨O, trivial⟩ (ap O O underlying35 O O sizeOf3 O)) O O O O O (aw (b := d) (fun af => RQ.sub (E' := [(15, Pt p)]) ⟨aH O af, trivial⟩ (ag O O isAgg3 (.obj 0 O O))) O O O O O (aw (b := d) (fun t => RQ.sub (E' := [(14, Iv a), (16, Iv c)]) ⟨aH O t, aH O t, trivial⟩ (bW O O O)) O O O O O (vq (dK O O O) O (vm O O (aw (b := d && (decide (a = c))) (fun a6 => RQ.sub (E' := [(2, Pt o)]) ⟨O, trivial⟩ (ap O O underlying35 O O sizeOf3 O)) O O O O O (aw (b := d && (decide (a = c))) (fun al => RQ.sub (E' := [(20, .pointer (some ⟨o, 1, none⟩))]) ⟨aH O al, trivial⟩ (ag O O isAgg3 (.obj 1 O O))) O O O O O (aw (b := d && (decide (a = c))) (fun a7 => RQ.sub (E' := [(3, Pt p)]) ⟨O, trivial⟩ (ap O O underlying35 O O sizeOf3 O)) O O O O O (aw (b := d && (decide (a = c))) (fun an => RQ.sub (E' := [(22, .pointer (some ⟨p, 1, none⟩))]) ⟨aH O an, trivial⟩ (ag O O isAgg3 (.obj 0 O O))) O O O O O (aw (b := d && (decide (a = c))) (fun u => RQ.sub (E' := [(21, Iv e), (23, Iv g)]) ⟨aH O u, aH O u, trivial⟩ (bW O O O)) O O O O O (vq (dK O O O) O (vm O O (aw (b := (d && (decide (a = c))) && (decide (e = g))) (fun a8 => RQ.sub (E' := [(2, Pt o)]) ⟨O, trivial⟩ (ap O O underlying35 O O sizeOf3 O)) O O O O O (aw (b := (d && (decide (a = c))) && (decide (e = g))) (fun a2 => RQ.sub (E' := [(27, .pointer (some ⟨o, 2, none⟩))]) ⟨aH O a2, trivial⟩ (ag O O isAgg3 (.obj 1 O O))) O O O O O (aw (b := (d && (decide (a = c))) && (decide (e = g))) (fun a9 => RQ.sub (E' := [(3, Pt p)]) ⟨O, trivial⟩ (ap O O underlying35 O O sizeOf3 O)) O O O O O (aw (b := (d && (decide (a = c))) && (decide (e = g))) (fun a3 => RQ.sub (E' := [(29, .pointer (some ⟨p, 2, none⟩))]) ⟨aH O a3, trivial⟩ (ag O O isAgg3 (.obj 0 O O))) O O O O O (aw (b := (d && (decide (a = c))) && (decide (e = g))) (fun v => RQ.sub (E' := [(28, Iv q), (30, Iv s)]) ⟨aH O v, aH O v, trivial⟩ (bW O O O)) O O O O O (vq (dK O O O) O (va O O (ae (aa (aA ?_)))))))))))))))))))))))))))
 exact aE () O O O (.sel 2 O .n)

def bZ.l0 (x0 : List (bm)) (x1 : List (bm)) : Nat → Int → Option ((Unit) ⊕ (Bool))
  | 0, _ => none
  | k + 1, a => if a < (x0.length : Int) then (if 0 ≤ a ∧ a < (x0.length : Int) then (if 0 ≤ a ∧ a < (x1.length : Int) then ((fo.f k ((x0.getD a.toNat bl).1) ((x0.getD a.toNat bl).2.1) ((x0.getD a.toNat bl).2.2.1) ((x0.getD a.toNat bl).2.2.2) ((x1.getD a.toNat bl).1) ((x1.getD a.toNat bl).2.1) ((x1.getD a.toNat bl).2.2.1) ((x1.getD a.toNat bl).2.2.2)).bind fun b => (if (!b) = true then (some (.inr false)) else (bZ.l0 x0 x1 k (IntKind.i64.wrap (a + 1))))) else none) else none) else (some (.inl ()))
def bZ.f (k : Nat) (x0 : List (bm)) (x1 : List (bm)) : Option (Bool) := if (x0.length : Int) = (x1.length : Int) then (orR (bZ.l0 x0 x1 k 0) fun a => (some true)) else (some false)
theorem bZ.calls (W : World) (F : HA) (k : Nat) (a0 : Option Addr) (c0 : Nat) (x0 : List bm) (a1 : Option Addr) (c1 : Nat) (x1 : List bm) (h0 : RdV F 4 (V35 F) a0 x0) (bc : x0.length ≤ c0) (bd : c0 ≤ maxLen) (h1 : RdV F 4 (V35 F) a1 x1) (be : x1.length ≤ c1) (br : c1 ≤ maxLen) :
    Fn Tryz.prog W 19 [.slice a0 x0.length c0, .slice a1 x1.length c1] [] F (bZ.f k x0 x1) (fun (r : Bool) (y : Unit) => .bool r) (fun r y => []) := by
 unfold bZ.f
 refine aO 29 Tryz.func19 O Tryz.ntmps19 O (sr (va O O (ae (aa (ay (sr (vm O O (vq (bx O O O underlying32) O (vm O O (vq (bx O O O underlying32) O (vq (dp O O O) O (ae (aa ?_)))))))))))))
 refine dd O (fun bs => ?_) (fun bt => ?_)
 refine aC (aa ?_)
 refine gi (S := Unit) Unit (fun s y => []) (fun s y => [F]) ?_ ?_
 refine sr (va O O (ae (aa (aR ?_))))
 refine ck (S := Int) Unit (fun k s => bZ.l0 x0 x1 k s) (fun s y => [(0, .slice a0 x0.length c0), (1, .slice a1 x1.length c1), (5, Iv s)]) (fun s y => [F]) (fun _ => by rw [bZ.l0]) ?_ k 0 () ⟨O, O, O, trivial⟩ (.s O .n)
 intro k a b0
 refine cS (by rw [bZ.l0]) (ay (sr (vm O O (vm O O (vq (bx O O O underlying32) O (vq (cL O O O) O (ae (aa ?_))))))))
 refine bn O (fun b1 => ?_) (fun b2 => ?_)
 refine aC (aa (ay (aR (ay (cG (fun h => ?_))))))
 obtain ⟨az, m, a5, n, p, a3, hcell17v⟩ := RdV.pos h0 (Up.refl _) rfl (i := a.toNat) (by omega) bl
 obtain ⟨b, c, rfl, ⟨q, t, u⟩⟩ := p
 refine cG (fun l => ?_)
 obtain ⟨a2, w, a6, x, ab, a4, hcell30v⟩ := RdV.pos h1 (Up.refl _) rfl (i := a.toNat) (by omega) bl
 obtain ⟨d, e, rfl, ⟨ad, af, al⟩⟩ := ab
 refine bv (fun g an => ?_)
 refine bi (Γ := Unit) () [[], [], [0, 1], [0, 1, 2], [], [], [4, 5], [4, 5, 6], rL 8, rL 9] [8] [0, 1, 2, 3, 4, 5, 6, 7, 9] (fun i => [[0], [0], [0], [0], [0], [0], [0], [0], [], [1]].getD i []) (fun i => [[], [], [], [], [], [], [], [], rL 8, []].getD i []) (fun γ i => [.slice a0 x0.length c0, Iv a, .pointer (some ⟨az, m + a.toNat * 4, none⟩), .agg #[Iv ((x0.getD a.toNat bl).1), Iv ((x0.getD a.toNat bl).2.1), Iv ((x0.getD a.toNat bl).2.2.1), .slice b (((x0.getD a.toNat bl).2.2.2).length) c], .slice a1 x1.length c1, Iv a, .pointer (some ⟨a2, w + a.toNat * 4, none⟩), .agg #[Iv ((x1.getD a.toNat bl).1), Iv ((x1.getD a.toNat bl).2.1), Iv ((x1.getD a.toNat bl).2.2.1), .slice d (((x1.getD a.toNat bl).2.2.2).length) e], .bool g, .bool g].getD i undef) (fun j γ => [[F], [F]].getD j []) (fun γ => [(0, .slice a0 x0.length c0), (1, .slice a1 x1.length c1), (5, Iv a), (6, .bool g)]) mixed (by decide) (by decide) (by decide) (by decide) (by decide) (by decide) (by decide) 29 O (by decide) (by decide) (by decide) (Ent.refl _) ?_ ?_ (fun _ => ⟨O, O, O, O, trivial⟩) ?_
 exact (aq O (fun γ => qm O (.o (s := 0) O (by decide) .nil) O) (aq O (fun γ => qm O (.o (s := 5) O (by decide) .nil) O) (aq O (fun γ => qp O O (.v 0 O O (.v 1 O O .nil)) (cO O O O n underlying32 sizeOf35 h.1 h.2) O) (aq O (fun γ => qp O O (.v 2 O O .nil) (cu O O isAgg35 sizeOf35 O (fun j v hj => hcell17v 0 O j v hj)) O) (aq O (fun γ => qm O (.o (s := 1) O (by decide) .nil) O) (aq O (fun γ => qm O (.o (s := 5) O (by decide) .nil) O) (aq O (fun γ => qp O O (.v 4 O O (.v 5 O O .nil)) (cO O O O x underlying32 sizeOf35 l.1 l.2) O) (aq O (fun γ => qp O O (.v 6 O O .nil) (cu O O isAgg35 sizeOf35 O (fun j v hj => hcell30v 0 O j v hj)) O) (aq O (fun γ => qp O O (.v 8 O O .nil) (cK O O) O) zA)))))))))
 exact (ac (fun γ => eo (Z := Unit) (fun z => ()) O O (.v 3 O O (.v 7 O O .nil)) (av (val := fun (r : Bool) (y : Unit) => .bool r) (B := fun _ _ => []) (vs := [.agg #[Iv ((x0.getD a.toNat bl).1), Iv ((x0.getD a.toNat bl).2.1), Iv ((x0.getD a.toNat bl).2.2.1), .slice b (((x0.getD a.toNat bl).2.2.2).length) c], .agg #[Iv ((x1.getD a.toNat bl).1), Iv ((x1.getD a.toNat bl).2.1), Iv ((x1.getD a.toNat bl).2.2.1), .slice d (((x1.getD a.toNat bl).2.2.2).length) e]]) (cap := []) (A := []) (rst := [F]) O O O O O O call55 (.s O .n) (fo.calls _ _ k ((x0.getD a.toNat bl).1) ((x0.getD a.toNat bl).2.1) ((x0.getD a.toNat bl).2.2.1) b c ((x0.getD a.toNat bl).2.2.2) ((x1.getD a.toNat bl).1) ((x1.getD a.toNat bl).2.1) ((x1.getD a.toNat bl).2.2.1) d e ((x1.getD a.toNat bl).2.2.2) (q.lend 0 O) t u (ad.lend 0 O) af al) an) (fun _ => ⟨O, O, O, O, O, O, O, O, trivial⟩) (fun _ => .inr O) (fun z => Ent.refl _)) zA)
 intro a7
 refine aa (sr (vm O O (vq (fK O O) O (ae (aa ?_)))))
 refine aZ O (fun a8 => ?_) (fun a9 => ?_)
 refine sr (va O O (ae (aa (aA (bp (aN (fw (bp (fi ?_)))))))))
 exact aE () O O O (.s O .n)
 refine aC (bo (aa (aI (vm O O (vq (bY O O O) O (va O O (ae ?_)))))))
 exact bM (s := IntKind.i64.wrap (a + 1)) () ⟨O, O, O, trivial⟩ (.s O .n)
 refine cA (ce (cl (cf ?_)))
 exact fN (s := ()) () trivial (.s O .n)
 intro b3 b4
 refine sr (va O O (ae (aa (aA ?_))))
 exact aE () O O O (.s O .n)
 refine sr (va O O (ae (aa (aA (aN ?_)))))
 exact aE () O O O (.s O .n)

def eH.f (k : Nat) (d : List ((List UInt8) × (List UInt8 × Int))) (e : List UInt8) (g : Int) (h : Bool) (i : Int) (j : List Int) (l : Int) (m : Int) (n : Int) (o : Int) (p : Int) (q : Int) (a : List (aF)) (b : Bool) (x1 : Int) (x2 : Int) : Option (Bool) := (bN.f k a x1 x2).bind fun c => (some c)
theorem eH.calls (W : World) (F : HA) (k : Nat) (z : Nat) (x : Nat) (c : Nat) (d : Kps) (j : List (Lb × (Lb × Int))) (l : Lb) (m : Int) (n : Bool) (o : Int) (p : Option Addr) (h : Nat) (e : List Int) (q : Int) (s : Int) (t : Int) (u : Int) (v : Int) (w : Int) (g : Option Addr) (b : Nat) (a : List aF) (i : Bool) (x1 : Int) (x2 : Int) (a2 : RdV F 1 (V3 tt) p e) (a0 : e.length ≤ h) (a1 : h ≤ maxLen) (an : RdV F 5 (aQ F) g a) (ab : a.length ≤ b) (ad : b ≤ maxLen) :
    Fn Tryz.prog W 63 [.pointer (some ⟨z, 4, none⟩), Iv x1, Iv x2] [W0 x c l m n, ao (aj c ar ak d) ai d j, W1 z x o e q s t u v w a i p h g b] F (eH.f k j l m n o e q s t u v w a i x1 x2) (fun (r : Bool) (y : Unit) => .bool r) (fun r y => [W0 x c l m n, ao (aj c ar ak d) ai d j, W1 z x o e q s t u v w a i p h g b]) := by
 unfold eH.f
 refine aO 13 Tryz.func63 O Tryz.ntmps63 O (sr (ah (cq O O O) O O O ?_))
 intro af
 refine ah (cq O O O) O O O ?_
 intro al
 refine va O O (nx (vm O O (vn O O (vq (ap O O underlying89 O O sizeOf87 O) O (vq (ag O O isAgg87 (.obj 4 O O)) O (vq (gY O O O) O (ax (fun a3 az => (ah (av (vs := [.slice g a.length b, .func (.func 91) #[] #[Pt af, Pt al]]) (cap := []) (A := [obj af 3 [Iv x1], obj al 3 [Iv x2]]) (rst := [W0 x c l m n, ao (aj c ar ak d) ai d j, W1 z x o e q s t u v w a i p h g b, F]) O O O O O O call90 (.sel 1 O (.s O (.s O (.s O (.s O (.s O .n)))))) (bN.calls _ _ k g b a af x1 al x2 (an.up (Up.lend 3 O) (aQ.up (Up.lend 3 O))) ab ad) az) O O O ?_)))))))))
 intro a4
 refine va O O (ae (aa (aA ?_)))
 exact aE () O O O (.sel 2 O (.sel 2 O (.sel 2 O (.sel 2 O .n))))

def cy.l0 (a : List (aF)) (x1 : Int) : Nat → Int → Option (Int)
  | 0, _ => none
  | k + 1, b => (if b < (a.length : Int) then (if 0 ≤ b ∧ b < (a.length : Int) then (some (decide ((a.getD b.toNat au).2.2.2.2 = x1))) else none) else (some false)).bind fun c => (if c = true then (cy.l0 a x1 k (IntKind.i64.wrap (b + 1))) else (some b))
def cy.f (k : Nat) (o : List ((List UInt8) × (List UInt8 × Int))) (p : List UInt8) (q : Int) (r : Bool) (d : Int) (e : List Int) (g : Int) (h : Int) (i : Int) (j : Int) (l : Int) (m : Int) (a : List (aF)) (c : Bool) (x1 : Int) : Option (Int × List Int × Int × Int × Int × Int × Int × Int × (List (aF)) × Bool) := (cy.l0 a x1 k 0).bind fun b => (if (0 : Int) < b then (if 0 ≤ IntKind.i64.wrap (b - 1) ∧ IntKind.i64.wrap (b - 1) < (a.length : Int) then (if 0 ≤ b ∧ b ≤ (a.length : Int) ∧ (a.length : Int) ≤ (a.length : Int) then ((dX.f (cut a b (a.length : Int))).bind fun n => (some (d, e, g, h, i, j, (a.getD (IntKind.i64.wrap (b - 1)).toNat au).2.1, (a.getD (IntKind.i64.wrap (b - 1)).toNat au).1, n, c))) else none) else none) else (some (d, e, g, h, i, j, l, m, a, c)))
theorem cy.calls (W : World) (F : HA) (k : Nat) (w : Nat) (u : Nat) (e : Nat) (g : Kps) (x : List (Lb × (Lb × Int))) (ab : Lb) (ad : Int) (af : Bool) (al : Int) (h : Option Addr) (n : Nat) (p : List Int) (an : Int) (az : Int) (a0 : Int) (a1 : Int) (a8 : Int) (a3 : Int) (c : Option Addr) (d : Nat) (a : List aF) (q : HA) (t : Bool) (x1 : Int)  :
    Fn Tryz.prog W 65 [.pointer (some ⟨w, 4, none⟩), Iv x1] [W0 u e ab ad af, ao (aj e ar ak g) ai g x, W1 w u al p an az a0 a1 a8 a3 a t h n c d, am 3 1 (V3 tt) h p n, am 144 5 (aQ q) c a d, q] F (cy.f k x ab ad af al p an az a0 a1 a8 a3 a t x1) (fun (r : Int × List Int × Int × Int × Int × Int × Int × Int × (List aF) × Bool) (y : Option Addr × Nat × Option Addr × Nat × HA) => .tuple #[]) (fun r y => [W0 u e ab ad af, ao (aj e ar ak g) ai g x, W4 w u r y.1 y.2.1 y.2.2.1 y.2.2.2.1, am 3 1 (V3 tt) y.1 r.2.1 y.2.1, am 144 5 (aQ y.2.2.2.2) y.2.2.1 r.2.2.2.2.2.2.2.2.1 y.2.2.2.1, y.2.2.2.2]) := by
 unfold cy.f
 refine aO 58 Tryz.func65 O Tryz.ntmps65 O (sr (va O O (ae (aa ?_))))
 refine bJ (S := Int) Unit (fun s y => [(0, .pointer (some ⟨w, 4, none⟩)), (4, Iv s)]) (fun s y => [W0 u e ab ad af, W1 w u al p an az a0 a1 a8 a3 a t h n c d, ao (aj e ar ak g) ai g x, am 3 1 (V3 tt) h p n, am 144 5 (aQ q) c a d, q, F]) ?_ ?_
 refine aR ?_
 refine ck (S := Int) Unit (fun k s => cy.l0 a x1 k s) (fun s y => [(0, .pointer (some ⟨w, 4, none⟩)), (1, Iv x1), (4, Iv s)]) (fun s y => [W0 u e ab ad af, W1 w u al p an az a0 a1 a8 a3 a t h n c d, ao (aj e ar ak g) ai g x, am 3 1 (V3 tt) h p n, am 144 5 (aQ q) c a d, q, F]) (fun _ => by rw [cy.l0]) ?_ k 0 () ⟨O, O, O, trivial⟩ (.s O (.sel 1 O (.s O (.s O (.s O (.s O (.s O .n)))))))
 intro k bc ef
 refine cS (by rw [cy.l0]) (ay (sr (vm O O (vm O O (vn O O (vq (ap O O underlying89 O O sizeOf87 O) O (vq (ag O O isAgg87 (.obj 1 O O)) O (vq (bx O O O underlying87) O (vq (cL O O O) O (vm O O ?_))))))))))
 refine dG 11 (S := Bool) Unit (fun s y => [(0, .pointer (some ⟨w, 4, none⟩)), (1, Iv x1), (4, Iv bc), (24, .bool s)]) (fun s y => [W0 u e ab ad af, W1 w u al p an az a0 a1 a8 a3 a t h n c d, ao (aj e ar ak g) ai g x, am 3 1 (V3 tt) h p n, am 144 5 (aQ q) c a d, q, F]) ?_ ?_
 refine ij (fun b4 => ?_) (fun b5 => ?_)
 rw [b4]
 refine aL (bh O O) O O O O O O (aL (aW O O) O O O O O O (aL (ap O O underlying89 O O sizeOf87 O) O O O O O O (aL (ag O O isAgg87 (.obj 1 O O)) O O O O O O (aL (bh O O) O O O O O O (bf 4 O (fun c7 bd => (bg (fun b0 => (eN 4 O bd O (i := bc.toNat) (by omega) au (fun eg d4 d5 b6 b7 c5 hcell15v => ?_))))))))))
 obtain ⟨d6, d7, rfl, ⟨c8, c9, dl⟩⟩ := b7
 refine aL (cO O O O b6 underlying87 sizeOf144 b0.1 b0.2) O O O O O O (aL (ap O O underlying144 O O sizeOf3 O) O O O O O O (aL (ag O O isAgg3 (hcell15v 4 O 4 _ O)) O O O O O O (aL (bh O O) O O O O O O (aL (bW O O O) O O O O O O (vq (bS O O O O O) O (ae ?_))))))
 exact aG (s := decide ((a.getD bc.toNat au).2.2.2.2 = x1)) () ⟨O, O, O, O, trivial⟩ (.s O (.s O (.s O (.s O (.sel' 0 O (am.mk bd) (.s O (.s O .n)))))))
 rw [b5]
 refine aD O O O O O O (aD O O O O O O (aD O O O O O O (aD O O O O O O (aD O O O O O O (aD O O O O O O (aD O O O O O O (aD O O O O O O (aD O O O O O O (aD O O O O O O (vq (bS O O O O O) O (ae ?_)))))))))))
 exact aG (s := false) () ⟨O, O, O, O, trivial⟩ (.s O (.s O (.s O (.s O (.s O (.s O (.s O .n)))))))
 intro ei ek
 refine ae (aa ?_)
 refine aZ O (fun d8 => ?_) (fun d9 => ?_)
 refine aC (aa (aR (aI (vm O O (vq (bY O O O) O (va O O (ae (bo ?_))))))))
 exact bM (s := IntKind.i64.wrap (bc + 1)) () ⟨O, O, O, trivial⟩ (.s O (.s O (.s O (.s O (.s O (.s O (.s O .n)))))))
 refine cA (ce (cl (cf ?_)))
 exact aG (s := bc) () ⟨O, O, trivial⟩ (.s O (.s O (.s O (.s O (.s O (.s O (.s O .n)))))))
 intro b el
 refine sr (vm O O (vq (cW O O O) O (ae (aa ?_))))
 refine bn O (fun ea => ?_) (fun eb => ?_)
 refine sr (vm O O (vn O O (vq (ap O O underlying89 O O sizeOf87 O) O (vq (ag O O isAgg87 (.obj 1 O O)) O (vm O O (vq (dC O O O) O (bf 4 O (fun a2 be => (bg (fun br => (eN 4 O be O (i := (IntKind.i64.wrap (b - 1)).toNat) (by omega) au (fun ec ds ed b8 b9 c6 hcell36v => ?_))))))))))))
 obtain ⟨a6, a7, rfl, ⟨dz, d1, d2⟩⟩ := b9
 refine vq (cO O O O b8 underlying87 sizeOf144 br.1 br.2) O (vq (ap O O underlying144 O O sizeOf35 O) O (vq (cu (vs := [Iv ((a.getD (IntKind.i64.wrap (b - 1)).toNat au).1), Iv ((a.getD (IntKind.i64.wrap (b - 1)).toNat au).2.1), Iv ((a.getD (IntKind.i64.wrap (b - 1)).toNat au).2.2.1), .slice a6 (((a.getD (IntKind.i64.wrap (b - 1)).toNat au).2.2.2.1).length) a7]) O O isAgg35 sizeOf35 O (fun j v hj => jt (hcell36v 4 O (0 + j) v (cR (off := 0) O j v hj)))) O (ah (bT O zeroValue35 O) O O O ?_)))
 intro a4
 refine aY (aJ 0 O O O sizeOf35 O O (aP (by rfl)) O O) O O ?_
 intro _
 refine ae (aa (ay (bq 4 O (fun a5 cd => ?_))))
 refine bi (Γ := Unit) () [[], [], [], [2], [], [4], [0, 2, 3], [0, 2, 3, 6], [0, 2, 3, 6, 7], rL 9, rL 10, rL 11] [8, 11] [0, 1, 2, 3, 4, 5, 6, 7, 9, 10] (fun i => [[0], [0, 1], [0], [0], [0, 1], [0, 1], [0], [0], [], [1], [1], []].getD i []) (fun i => [[], [], [], [], [], [], [], [], rL 8, [], [], rL 11].getD i []) (fun γ i => [.pointer (some ⟨w, 4, none⟩), .pointer (some ⟨w, 4, none⟩), .pointer (some ⟨a4, 1, none⟩), Iv ((a.getD (IntKind.i64.wrap (b - 1)).toNat au).2.1), Pt a4, Iv ((a.getD (IntKind.i64.wrap (b - 1)).toNat au).1), .pointer (some ⟨w, 4, none⟩), .pointer (some ⟨w, 7, none⟩), undef, .pointer (some ⟨w, 4, none⟩), .pointer (some ⟨w, 8, none⟩), undef].getD i undef) (fun j γ => [[W12 a4 (a.getD (IntKind.i64.wrap (b - 1)).toNat au) a6 a7, W0 u e ab ad af, W1 w u al p an az a0 a1 a8 a3 a t h n c d, ao (aj e ar ak g) ai g x, Row 3 1 h p.length n a5.flatten, Row 144 5 c a.length d a2.flatten, q, F], [W12 a4 (a.getD (IntKind.i64.wrap (b - 1)).toNat au) a6 a7, W0 u e ab ad af, W1 w u al p an az a0 a1 ((a.getD (IntKind.i64.wrap (b - 1)).toNat au).2.1) a3 a t h n c d, ao (aj e ar ak g) ai g x, Row 3 1 h p.length n a5.flatten, Row 144 5 c a.length d a2.flatten, q, F], [W12 a4 (a.getD (IntKind.i64.wrap (b - 1)).toNat au) a6 a7, W0 u e ab ad af, W1 w u al p an az a0 a1 ((a.getD (IntKind.i64.wrap (b - 1)).toNat au).2.1) ((a.getD (IntKind.i64.wrap (b - 1)).toNat au).1) a t h n c d, ao (aj e ar ak g) ai g x, Row 3 1 h p.length n a5.flatten, Row 144 5 c a.length d a2.flatten, q, F]].getD j []) (fun γ => [(0, .pointer (some ⟨w, 4, none⟩)), (4, Iv b)]) mixed (by decide) (by decide) (by decide) (by decide) (by decide) (by decide) (by decide) 58 O (by decide) (by decide) (by decide) (Ent.refl _) ?_ ?_ (fun _ => ⟨O, O, trivial⟩) ?_
 exact (aq O (fun γ => qm O (.o (s := 0) O (by decide) .nil) O) (ac (fun γ => (ac (qm O (.o (s := 0) O (by decide) .nil) O) (ac (qm O (.o (s := 0) O (by decide) .nil) O) zA))) (aq O (fun γ => qp O O (.o (s := 5) O (by decide) .nil) (ap O O underlying35 O O sizeOf3 O) O) (aq O (fun γ => qp O O (.v 2 O O .nil) (ag O O isAgg3 (.obj 0 O O)) O) (ac (fun γ => (ac (qp O O (.o (s := 5) O (by decide) .nil) (ap O O underlying35 O O sizeOf3 O) O) (ac (qp O O (.o (s := 5) O (by decide) .nil) (ap O O underlying35 O O sizeOf3 O) O) zA))) (ac (fun γ => (ac (qp O O (.v 4 O O .nil) (ag O O isAgg3 (.obj 0 O O)) O) (ac (qp O O (.v 4 O O .nil) (ag O O isAgg3 (.obj 0 O O)) O) zA))) (aq O (fun γ => qp O O (.v 0 O O .nil) (aW O O) O) (aq O (fun γ => qp O O (.v 6 O O .nil) (ap O O underlying89 O O sizeOf3 O) O) (aq O (fun γ => qp O O (.v 1 O O .nil) (aW O O) O) (aq O (fun γ => qp O O (.v 9 O O .nil) (ap O O underlying89 O O sizeOf3 O) O) zA))))))))))
 exact (ac (fun γ => eo (Z := Unit) (fun z => ()) O O (.v 3 O O (.v 7 O O .nil)) (aJ 2 O O O sizeOf3 O O (aP (by rfl)) O O) (fun _ => ⟨O, O, O, O, O, O, O, O, trivial⟩) (fun _ => .inl O) (fun z => Ent.refl _)) (ac (fun γ => eo (Z := Unit) (fun z => ()) O O (.v 5 O O (.v 10 O O .nil)) (aJ 2 O O O sizeOf3 O O (aP (by rfl)) O O) (fun _ => ⟨O, O, O, O, O, O, O, O, O, O, O, trivial⟩) (fun _ => .inl O) (fun z => Ent.refl _)) zA))
 intro ee
 refine aa (aI (vm O O (vm O O (vn O O (vq (ap O O underlying89 O O sizeOf87 O) O (vq (ag O O isAgg87 (.obj 2 O O)) O (vm O O (ba 5 O (fun ch bs cs d3 => (bX (H' := [aS [Row 144 5 c a.length d a2.flatten, q], W12 a4 (a.getD (IntKind.i64.wrap (b - 1)).toNat au) a6 a7, W0 u e ab ad af, W1 w u al p an az a0 a1 ((a.getD (IntKind.i64.wrap (b - 1)).toNat au).2.1) ((a.getD (IntKind.i64.wrap (b - 1)).toNat au).1) a t h n c d, ao (aj e ar ak g) ai g x, Row 3 1 h p.length n a5.flatten, F]) (Ent.trans (m := [Row 144 5 c a.length d a2.flatten, q, W12 a4 (a.getD (IntKind.i64.wrap (b - 1)).toNat au) a6 a7, W0 u e ab ad af, W1 w u al p an az a0 a1 ((a.getD (IntKind.i64.wrap (b - 1)).toNat au).2.1) ((a.getD (IntKind.i64.wrap (b - 1)).toNat au).1) a t h n c d, ao (aj e ar ak g) ai g x, Row 3 1 h p.length n a5.flatten, F]) (.sel 5 O (.sel 5 O (.s O (.s O (.s O (.s O (.s O (.s O .n)))))))) (gf [Row 144 5 c a.length d a2.flatten, q] _)) (bg (fun bt => ?_))))))))))))
 obtain ⟨b1, b2, c0, c1, c2, c3⟩ := gM (lo := b) (hi := (a.length : Int)) (Rd.asV (be.mono (aQ.up (Up.lend (l := [Row 144 5 c a.length d a2.flatten, q]) 1 rfl))) (Rd.lend (l := [Row 144 5 c a.length d a2.flatten, q]) ch 0 rfl)) bs bt
 refine vq (gr (l := a) (lo' := b) (hi' := (a.length : Int)) O O O O underlying87 sizeOf144 (.inl ⟨O, O⟩) (.inr ⟨_, O⟩) bt bs c0) O (ax (fun b3 c4 => (ah (av (vs := [.slice b1 ((cut a b (a.length : Int)).length) b2]) (cap := []) (A := []) (rst := [aS [Row 144 5 c a.length d a2.flatten, q], W12 a4 (a.getD (IntKind.i64.wrap (b - 1)).toNat au) a6 a7, W0 u e ab ad af, W1 w u al p an az a0 a1 ((a.getD (IntKind.i64.wrap (b - 1)).toNat au).2.1) ((a.getD (IntKind.i64.wrap (b - 1)).toNat au).1) a t h n c d, ao (aj e ar ak g) ai g x, Row 3 1 h p.length n a5.flatten, F]) O O O O O O call92 (.s O (.s O (.s O (.s O (.s O (.s O (.s O .n))))))) (dX.calls _ _ _ (Up.lend 0 O) b1 b2 (cut a b (a.length : Int)) c1 c2 (Nat.le_trans c3 cs)) c4) O O O ?_)))
 intro a9
 refine vn O O (vq (ap O O underlying89 O O sizeOf87 O) O (aY (aJ 4 O O O sizeOf87 O O (aP (by rfl)) O O) O O ?_))
 intro _
 refine bX (H' := [am 144 5 (aQ (aS [Row 144 5 c a.length d a2.flatten, q])) a9.1 b3 a9.2, aS [Row 144 5 c a.length d a2.flatten, q], W12 a4 (a.getD (IntKind.i64.wrap (b - 1)).toNat au) a6 a7, W0 u e ab ad af, W1 w u al p an az a0 a1 ((a.getD (IntKind.i64.wrap (b - 1)).toNat au).2.1) ((a.getD (IntKind.i64.wrap (b - 1)).toNat au).1) b3 t h n a9.1 a9.2, ao (aj e ar ak g) ai g x, Row 3 1 h p.length n a5.flatten, F]) (Ent.refl _) (ae ?_)
 exact fZ (h, n, a9.1, a9.2, aS [Row 144 5 c a.length d a2.flatten, q]) O O O (.sel 3 O (.sel 4 O (.sel 3 O (.sel' 3 O (am.mk cd) (.s O (.s O (.sel 1 O .n)))))))
 refine aC ?_
 exact fZ (h, n, c, d, q) O O O (.s O (.sel 1 O (.s O (.s O (.s O (.s O (.s O .n)))))))

def ci.l0 (s : Int) : Nat → List ((List UInt8) × (List UInt8 × Int)) → List UInt8 → Int → Bool → Int → List Int → Int → Int → Int → Int → Int → Int → List (aF) → Bool → Int → Option ((List ((List UInt8) × (List UInt8 × Int))) × List UInt8 × Int × Bool × Int × List Int × Int × Int × Int × Int × Int × Int × (List (aF)) × Bool × Int)
  | 0, _, _, _, _, _, _, _, _, _, _, _, _, _, _, _ => none
  | k + 1, d, e, g, h, i, b, j, l, m, n, o, p, q, r, t => (if (1 : Int) < (b.length : Int) then (if 0 ≤ (0 : Int) ∧ (0 : Int) < (b.length : Int) then ((eH.f k d e g h i b j l m n o p q r (b.getD (0 : Int).toNat (0 : Int)) s).bind fun u => (some (!u))) else none) else (some false)).bind fun v => (if v = true then (if 0 ≤ (0 : Int) ∧ (0 : Int) < (b.length : Int) then ((cD.f k (b.getD (0 : Int).toNat (0 : Int))).bind fun w => ((eC.f d e g h w).bind fun c => ((bH.f c.1).bind fun x => (if 0 ≤ (0 : Int) ∧ (0 : Int) < (b.length : Int) then ((cy.f k c.2.1 c.2.2.1 c.2.2.2.1 c.2.2.2.2 i b j l m n o p q r (b.getD (0 : Int).toNat (0 : Int))).bind fun a => (if 0 ≤ (1 : Int) ∧ (1 : Int) ≤ (a.2.1.length : Int) ∧ (a.2.1.length : Int) ≤ (a.2.1.length : Int) then (ci.l0 s k c.2.1 c.2.2.1 c.2.2.2.1 c.2.2.2.2 a.1 (cut a.2.1 (1 : Int) (a.2.1.length : Int)) a.2.2.1 a.2.2.2.1 a.2.2.2.2.1 a.2.2.2.2.2.1 a.2.2.2.2.2.2.1 a.2.2.2.2.2.2.2.1 a.2.2.2.2.2.2.2.2.1 a.2.2.2.2.2.2.2.2.2 (IntKind.i64.wrap (t + 1))) else none)) else none)))) else none) else (some (d, e, g, h, i, b, j, l, m, n, o, p, q, r, t)))
def ci.f (k : Nat) (d : List ((List UInt8) × (List UInt8 × Int))) (e : List UInt8) (g : Int) (h : Bool) (i : Int) (a : List Int) (j : Int) (l : Int) (m : Int) (n : Int) (o : Int) (p : Int) (q : List (aF)) (c : Bool) (r : Int) (s : Int) : Option ((List ((List UInt8) × (List UInt8 × Int))) × List UInt8 × Int × Bool × Int × List Int × Int × Int × Int × Int × Int × Int × (List (aF)) × Bool × Int) := if 0 ≤ IntKind.i64.wrap ((a.length : Int) - 1) ∧ IntKind.i64.wrap ((a.length : Int) - 1) < (a.length : Int) then ((cD.f k (a.getD (IntKind.i64.wrap ((a.length : Int) - 1)).toNat (0 : Int))).bind fun t => ((cV.f d e g h t).bind fun b => ((bH.f b.1).bind fun u => (ci.l0 r k b.2.1 b.2.2.1 b.2.2.2.1 b.2.2.2.2 i a j l m n o p q c s)))) else none
theorem ci.calls (W : World) (F : HA) (k : Nat) (q : Nat) (c : Nat) (e : Nat) (a1 : Nat) (a2 : Kps) (bs : List (Lb × (Lb × Int))) (bt : Lb) (b0 : Int) (b1 : Bool) (a3 : Int) (w : Option Addr) (x : Nat) (n : List Int) (a4 : Int) (a5 : Int) (a6 : Int) (a7 : Int) (a8 : Int) (a9 : Int) (al : Option Addr) (an : Nat) (af : List aF) (bc : HA) (a0 : Bool) (t : Nat) (m : Int) (u : Nat) (bd : Int) (hgl : Glb Tryz.prog F) :
    Fn Tryz.prog W 62 [Pt q, Pt t, Pt u] [W0 e a1 bt b0 b1, ao (aj a1 ar ak a2) ai a2 bs, W1 c e a3 n a4 a5 a6 a7 a8 a9 af a0 w x al an, am 3 1 (V3 tt) w n x, am 144 5 (aQ bc) al af an, bc, obj q 36 [Pt c], obj t 3 [Iv m], obj u 3 [Iv bd]] F (ci.f k bs bt b0 b1 a3 n a4 a5 a6 a7 a8 a9 af a0 m bd) (fun (r : (List (Lb × (Lb × Int))) × Lb × Int × Bool × Int × List Int × Int × Int × Int × Int × Int × Int × (List aF) × Bool × Int) (y : Nat × Kps × Option Addr × Nat × Option Addr × Nat × HA) => .tuple #[]) (fun r y => [W3 e y.1 r.2, ao (aj y.1 ar ak y.2.1) ai y.2.1 r.1, W7 c e r.2.2.2.2 y.2.2.1 y.2.2.2.1 y.2.2.2.2.1 y.2.2.2.2.2.1, am 3 1 (V3 tt) y.2.2.1 r.2.2.2.2.2.1 y.2.2.2.1, am 144 5 (aQ y.2.2.2.2.2.2) y.2.2.2.2.1 r.2.2.2.2.2.2.2.2.2.2.2.2.1 y.2.2.2.2.2.1, y.2.2.2.2.2.2, obj q 36 [Pt c], obj t 3 [Iv m], obj u 3 [Iv r.2.2.2.2.2.2.2.2.2.2.2.2.2.2]]) := by
 unfold ci.f
 refine aO 75 Tryz.func62 O Tryz.ntmps62 O (ay (bq 3 O (fun b2 dl => (bq 4 O (fun b3 eD => (cG (fun ds => (ie 3 O dl O (i := (IntKind.i64.wrap ((n.length : Int) - 1)).toNat) (by omega) (0 : Int) (fun e4 e0 g9 e1 d6 e5 hcell12v => ?_)))))))))
 obtain rfl := d6
 refine bv (fun c4 d7 => (bv (fun az d8 => (bv (fun gs d9 => ?_)))))
 refine bi (Γ := (Nat × Kps)) (0, ([] : Kps)) [[], [0], [0, 1], [0, 1, 2], [], [4], [4, 5], [4, 5, 6], [], [8], [8, 9], [8, 9, 10], [8, 9, 10, 11], [8, 9, 10, 11, 12], [4, 5, 6, 7, 8, 9, 10, 11, 12, 13], [4, 5, 6, 7, 8, 9, 10, 11, 12, 13, 14], [4, 5, 6, 7, 8, 9, 10, 11, 12, 13, 14, 15], rL 17, rL 18] [16, 17, 18] [0, 1, 2, 3, 4, 5, 6, 7, 8, 9, 10, 11, 12, 13, 14, 15] (fun i => [[0, 1], [0, 1], [0, 1], [0, 1], [0], [0], [0], [0], [0], [0], [0], [0], [0], [0], [0], [0], [], [], []].getD i []) (fun i => [[], [], [], [], [], [], [], [], [], [], [], [], [], [], [], [], rL 16, rL 17, rL 18].getD i []) (fun γ i => [Pt c, Pt c, Pt c, Pt e, Pt c, Pt c, .pointer (some ⟨c, 2, none⟩), .slice w n.length x, Pt c, Pt c, .pointer (some ⟨c, 2, none⟩), .slice w n.length x, Iv (n.length : Int), Iv (IntKind.i64.wrap ((n.length : Int) - 1)), .pointer (some ⟨e4, e0 + (IntKind.i64.wrap ((n.length : Int) - 1)).toNat * 1, none⟩), Iv (n.getD (IntKind.i64.wrap ((n.length : Int) - 1)).toNat (0 : Int)), str c4, Iv az.1, .tuple #[]].getD i undef) (fun j γ => [[W0 e a1 bt b0 b1, ao (aj a1 ar ak a2) ai a2 bs, W1 c e a3 n a4 a5 a6 a7 a8 a9 af a0 w x al an, Row 3 1 w n.length x b2.flatten, Row 144 5 al af.length an b3.flatten, bc, obj q 36 [Pt c], obj t 3 [Iv m], obj u 3 [Iv bd], F], [W0 e a1 bt b0 b1, ao (aj a1 ar ak a2) ai a2 bs, W1 c e a3 n a4 a5 a6 a7 a8 a9 af a0 w x al an, Row 3 1 w n.length x b2.flatten, Row 144 5 al af.length an b3.flatten, bc, obj q 36 [Pt c], obj t 3 [Iv m], obj u 3 [Iv bd], F], [W5 e γ.1 az.2.2, ao (aj γ.1 ar ak γ.2) ai γ.2 az.2.1, W1 c e a3 n a4 a5 a6 a7 a8 a9 af a0 w x al an, Row 3 1 w n.length x b2.flatten, Row 144 5 al af.length an b3.flatten, bc, obj q 36 [Pt c], obj t 3 [Iv m], obj u 3 [Iv bd], F], [W5 e γ.1 az.2.2, ao (aj γ.1 ar ak γ.2) ai γ.2 az.2.1, W1 c e a3 n a4 a5 a6 a7 a8 a9 af a0 w x al an, Row 3 1 w n.length x b2.flatten, Row 144 5 al af.length an b3.flatten, bc, obj q 36 [Pt c], obj t 3 [Iv m], obj u 3 [Iv bd], F]].getD j []) (fun γ => [(0, Pt q), (1, Pt t), (2, Pt u)]) mixed (by decide) (by decide) (by decide) (by decide) (by decide) (by decide) (by decide) 75 O (by decide) (by decide) (by decide) (Ent.refl _) ?_ ?_ (fun _ => ⟨O, O, O, trivial⟩) ?_
 exact (ac (fun γ => (ac (qp O O (.o (s := 0) O (by decide) .nil) (ag O O isAgg36 (.obj 6 O O)) O) (ac (qp O O (.o (s := 0) O (by decide) .nil) (ag O O isAgg36 (.obj 6 O O)) O) zA))) (ac (fun γ => (ac (qp O O (.v 0 O O .nil) (aW O O) O) (ac (qp O O (.v 0 O O .nil) (aW O O) O) zA))) (ac (fun γ => (ac (qp O O (.v 1 O O .nil) (ap O O underlying91 O O sizeOf39 O) O) (ac (qp O O (.v 1 O O .nil) (ap O O underlying91 O O sizeOf39 O) O) zA))) (ac (fun γ => (ac (qp O O (.v 2 O O .nil) (ag O O isAgg39 (.obj 2 O O)) O) (ac (qp O O (.v 2 O O .nil) (ag O O isAgg39 (.obj 2 O O)) O) zA))) (aq O (fun γ => qp O O (.o (s := 0) O (by decide) .nil) (ag O O isAgg36 (.obj 6 O O)) O) (aq O (fun γ => qp O O (.v 4 O O .nil) (aW O O) O) (aq O (fun γ => qp O O (.v 5 O O .nil) (ap O O underlying91 O O sizeOf78 O) O) (aq O (fun γ => qp O O (.v 6 O O .nil) (ag O O isAgg78 (.obj 2 O O)) O) (aq O (fun γ => qp O O (.o (s := 0) O (by decide) .nil) (ag O O isAgg36 (.obj 6 O O)) O) (aq O (fun γ => qp O O (.v 8 O O .nil) (aW O O) O) (aq O (fun γ => qp O O (.v 9 O O .nil) (ap O O underlying91 O O sizeOf78 O) O) (aq O (fun γ => qp O O (.v 10 O O .nil) (ag O O isAgg78 (.obj 2 O O)) O) (aq O (fun γ => qp O O (.v 11 O O .nil) (bx O O O underlying78) O) (aq O (fun γ => qp O O (.v 12 O O .nil) (dC O O O) O) (aq O (fun γ => qp O O (.v 7 O O (.v 13 O O .nil)) (cO O O O e1 underlying78 sizeOf3 ds.1 ds.2) O) (aq O (fun γ => qp O O (.v 14 O O .nil) (ag O O isAgg3 (hcell12v 3 O 0 _ O)) O) zA))))))))))))))))
 exact (ac (fun γ => eo (Z := Unit) (fun z => γ) O O (.v 15 O O .nil) (av (val := fun (r : Lb) (y : Unit) => str r) (B := fun _ _ => []) (vs := [Iv (n.getD (IntKind.i64.wrap ((n.length : Int) - 1)).toNat (0 : Int))]) (cap := []) (A := []) (rst := [W0 e a1 bt b0 b1, ao (aj a1 ar ak a2) ai a2 bs, W1 c e a3 n a4 a5 a6 a7 a8 a9 af a0 w x al an, Row 3 1 w n.length x b2.flatten, Row 144 5 al af.length an b3.flatten, bc, obj q 36 [Pt c], obj t 3 [Iv m], obj u 3 [Iv bd], F]) O O O O O O call47 (.s O (.s O (.s O (.s O (.s O (.s O (.s O (.s O (.s O (.s O .n)))))))))) (cD.calls _ _ k (n.getD (IntKind.i64.wrap ((n.length : Int) - 1)).toNat (0 : Int)) (hgl.lend 9 O)) d7) (fun _ => ⟨O, O, O, O, O, O, O, O, O, O, O, O, O, O, O, O, trivial⟩) (fun _ => .inr O) (fun z => Ent.refl _)) (ac (fun γ => eo (Z := Nat × Kps) (fun z => z) O O (.v 3 O O (.v 16 O O .nil)) (av (vs := [Pt e, str c4]) (cap := []) (A := [W0 e a1 bt b0 b1, ao (aj a1 ar ak a2) ai a2 bs]) (rst := [W1 c e a3 n a4 a5 a6 a7 a8 a9 af a0 w x al an, Row 3 1 w n.length x b2.flatten, Row 144 5 al af.length an b3.flatten, bc, obj q 36 [Pt c], obj t 3 [Iv m], obj u 3 [Iv bd], F]) O O O O O O call46 (.s O (.s O (.s O (.s O (.s O (.s O (.s O (.s O (.s O (.s O .n)))))))))) (cV.calls _ _ e a1 a2 bs bt b0 b1 c4 ) d8) (fun _ => ⟨O, O, O, O, O, O, O, O, O, O, O, O, O, O, O, O, O, trivial⟩) (fun _ => .inr O) (fun z => Ent.refl _)) (ac (fun γ => eo (Z := Unit) (fun z => γ) O O (.v 17 O O .nil) (av (vs := [Iv az.1]) (cap := []) (A := []) (rst := [W5 e γ.1 az.2.2, ao (aj γ.1 ar ak γ.2) ai γ.2 az.2.1, W1 c e a3 n a4 a5 a6 a7 a8 a9 af a0 w x al an, Row 3 1 w n.length x b2.flatten, Row 144 5 al af.length an b3.flatten, bc, obj q 36 [Pt c], obj t 3 [Iv m], obj u 3 [Iv bd], F]) O O O O O O call43 (.s O (.s O (.s O (.s O (.s O (.s O (.s O (.s O (.s O (.s O .n)))))))))) (bH.calls _ _ az.1 ) d9) (fun _ => ⟨O, O, O, O, O, O, O, O, O, O, O, O, O, O, O, O, O, O, trivial⟩) (fun _ => .inr O) (fun z => Ent.refl _)) zA)))
 intro dz
 refine aa (aR ?_)
 refine ck (S := (List (Lb × (Lb × Int))) × Lb × Int × Bool × Int × List Int × Int × Int × Int × Int × Int × Int × (List aF) × Bool × Int) (Nat × Kps × Option Addr × Nat × HA × Option Addr × Nat) (fun k s => ci.l0 m k s.1 s.2.1 s.2.2.1 s.2.2.2.1 s.2.2.2.2.1 s.2.2.2.2.2.1 s.2.2.2.2.2.2.1 s.2.2.2.2.2.2.2.1 s.2.2.2.2.2.2.2.2.1 s.2.2.2.2.2.2.2.2.2.1 s.2.2.2.2.2.2.2.2.2.2.1 s.2.2.2.2.2.2.2.2.2.2.2.1 s.2.2.2.2.2.2.2.2.2.2.2.2.1 s.2.2.2.2.2.2.2.2.2.2.2.2.2.1 s.2.2.2.2.2.2.2.2.2.2.2.2.2.2) (fun s y => [(0, Pt q), (1, Pt t), (2, Pt u)]) (fun s y => [W3 e y.1 s.2, W7 c e s.2.2.2.2 y.2.2.1 y.2.2.2.1 y.2.2.2.2.2.1 y.2.2.2.2.2.2, obj q 36 [Pt c], obj t 3 [Iv m], obj u 3 [Iv s.2.2.2.2.2.2.2.2.2.2.2.2.2.2], ao (aj y.1 ar ak y.2.1) ai y.2.1 s.1, am 3 1 (V3 tt) y.2.2.1 s.2.2.2.2.2.1 y.2.2.2.1, am 144 5 (aQ y.2.2.2.2.1) y.2.2.2.2.2.1 s.2.2.2.2.2.2.2.2.2.2.2.2.1 y.2.2.2.2.2.2, y.2.2.2.2.1, F]) (fun _ => by rw [ci.l0]) ?_ k (az.2.1, az.2.2.1, az.2.2.2.1, az.2.2.2.2, a3, n, a4, a5, a6, a7, a8, a9, af, a0, bd) (dz.1, dz.2, w, x, bc, al, an) ⟨O, O, O, trivial⟩ (.s O (.sel 1 O (.sel 4 O (.sel 4 O (.sel 4 O (.s O (.sel' 0 O (am.mk dl) (.sel' 0 O (am.mk eD) (.s O (.s O .n))))))))))
 intro k a b
 refine cS (by rw [ci.l0]) (ay ?_)
 refine bJ (S := Bool) Unit (fun s y => [(0, Pt q), (1, Pt t), (2, Pt u), (41, .bool s)]) (fun s y => [W3 e b.1 a.2, W7 c e a.2.2.2.2 b.2.2.1 b.2.2.2.1 b.2.2.2.2.2.1 b.2.2.2.2.2.2, obj q 36 [Pt c], obj t 3 [Iv m], obj u 3 [Iv a.2.2.2.2.2.2.2.2.2.2.2.2.2.2], ao (aj b.1 ar ak b.2.1) ai b.2.1 a.1, am 3 1 (V3 tt) b.2.2.1 a.2.2.2.2.2.1 b.2.2.2.1, am 144 5 (aQ b.2.2.2.2.1) b.2.2.2.2.2.1 a.2.2.2.2.2.2.2.2.2.2.2.2.1 b.2.2.2.2.2.2, b.2.2.2.2.1, F]) ?_ ?_
 refine bq 6 O (fun cd b5 => (bq 7 O (fun ch cs => ?_)))
 refine gj (fun p => ?_) (fun p => ?_)
 refine cG (fun c6 => (ie 6 O b5 O (i := (0 : Int).toNat) (by omega) (0 : Int) (fun d1 c7 gy ea eb e6 hcell54v => ?_)))
 obtain rfl := eb
 refine bv (fun b4 ec => ?_)
 refine bi (Γ := Unit) () [[], [0], [0, 1], [0, 1, 2], rL 4, rL 5, rL 6, rL 7, rL 8, rL 9, rL 7, [0, 1, 2, 3, 4, 5, 6, 10], [0, 1, 2, 3, 4, 5, 6, 10, 11], [0, 1, 2, 3, 4, 5, 6, 10, 11, 12], [0, 1, 2, 3, 4, 5, 6, 10, 11, 12, 13], [0, 1, 2, 3, 4, 5, 6, 10, 11, 12, 13, 14], rL 7, rL 17, rL 18, rL 19] [] [0, 1, 2, 3, 4, 5, 6, 7, 8, 9, 10, 11, 12, 13, 14, 15, 16, 17, 18, 19] (fun i => [[0], [0], [0], [0], [0], [0], [0], [0], [0], [0], [0], [0], [0], [0], [0], [0], [0], [0], [0], [0]].getD i []) (fun i => [[], [], [], [], [], [], [], [], [], [], [], [], [], [], [], [], [], [], [], []].getD i []) (fun γ i => [Pt c, Pt c, .pointer (some ⟨c, 2, none⟩), .slice b.2.2.1 a.2.2.2.2.2.1.length b.2.2.2.1, Iv (a.2.2.2.2.2.1.length : Int), .bool (decide ((1 : Int) < (a.2.2.2.2.2.1.length : Int))), .bool (decide ((1 : Int) < (a.2.2.2.2.2.1.length : Int))), Pt c, Pt c, .pointer (some ⟨c, 4, none⟩), Pt c, Pt c, .pointer (some ⟨c, 2, none⟩), .slice b.2.2.1 a.2.2.2.2.2.1.length b.2.2.2.1, .pointer (some ⟨d1, c7 + (0 : Int).toNat * 1, none⟩), Iv (a.2.2.2.2.2.1.getD (0 : Int).toNat (0 : Int)), Iv m, .bool b4, .bool (!b4), .bool (!b4)].getD i undef) (fun j γ => [[W3 e b.1 a.2, W7 c e a.2.2.2.2 b.2.2.1 b.2.2.2.1 b.2.2.2.2.2.1 b.2.2.2.2.2.2, obj q 36 [Pt c], obj t 3 [Iv m], obj u 3 [Iv a.2.2.2.2.2.2.2.2.2.2.2.2.2.2], ao (aj b.1 ar ak b.2.1) ai b.2.1 a.1, Row 3 1 b.2.2.1 a.2.2.2.2.2.1.length b.2.2.2.1 cd.flatten, Row 144 5 b.2.2.2.2.2.1 a.2.2.2.2.2.2.2.2.2.2.2.2.1.length b.2.2.2.2.2.2 ch.flatten, b.2.2.2.2.1, F]].getD j []) (fun γ => [(0, Pt q), (1, Pt t), (2, Pt u), (29, Pt c), (30, Pt c), (31, .pointer (some ⟨c, 4, none⟩)), (32, Pt c), (33, Pt c), (34, .pointer (some ⟨c, 2, none⟩)), (35, .slice b.2.2.1 a.2.2.2.2.2.1.length b.2.2.2.1), (36, .pointer (some ⟨d1, c7 + (0 : Int).toNat * 1, none⟩)), (37, Iv (a.2.2.2.2.2.1.getD (0 : Int).toNat (0 : Int))), (38, Iv m), (39, .bool b4), (40, .bool (!b4)), (41, .bool (!b4))]) mixed (by decide) (by decide) (by decide) (by decide) (by decide) (by decide) (by decide) 75 O (by decide) (by decide) (by decide) (Ent.refl _) ?_ ?_ (fun _ => ⟨O, O, O, O, O, O, O, O, O, O, O, O, O, O, O, O, trivial⟩) ?_
 exact (aq O (fun γ => qp O O (.o (s := 0) O (by decide) .nil) (ag O O isAgg36 (.obj 2 O O)) O) (aq O (fun γ => qp O O (.v 0 O O .nil) (aW O O) O) (aq O (fun γ => qp O O (.v 1 O O .nil) (ap O O underlying91 O O sizeOf78 O) O) (aq O (fun γ => qp O O (.v 2 O O .nil) (ag O O isAgg78 (.obj 1 O O)) O) (aq O (fun γ => qp O O (.v 3 O O .nil) (bx O O O underlying78) O) (aq O (fun γ => qp O O (.v 4 O O .nil) (cW O O O) O) (aq O (fun γ => qm O (.v 5 O O .nil) O) (aq O (fun γ => qy O O (.o (s := 0) O (by decide) (.v 6 O O .nil)) O O (bK (decide_eq_true p)) (ag O O isAgg36 (.obj 2 O O)) O) (aq O (fun γ => qy O O (.v 6 O O (.v 7 O O .nil)) O O (bK (decide_eq_true p)) (aW O O) O) (aq O (fun γ => qy O O (.v 6 O O (.v 8 O O .nil)) O O (bK (decide_eq_true p)) (ap O O underlying91 O O sizeOf89 O) O) (aq O (fun γ => qy O O (.o (s := 0) O (by decide) (.v 6 O O .nil)) O O (bK (decide_eq_true p)) (ag O O isAgg36 (.obj 2 O O)) O) (aq O (fun γ => qy O O (.v 6 O O (.v 10 O O .nil)) O O (bK (decide_eq_true p)) (aW O O) O) (aq O (fun γ => qy O O (.v 6 O O (.v 11 O O .nil)) O O (bK (decide_eq_true p)) (ap O O underlying91 O O sizeOf78 O) O) (aq O (fun γ => qy O O (.v 6 O O (.v 12 O O .nil)) O O (bK (decide_eq_true p)) (ag O O isAgg78 (.obj 1 O O)) O) (aq O (fun γ => qy O O (.v 6 O O (.v 13 O O .nil)) O O (bK (decide_eq_true p)) (cO O O O ea underlying78 sizeOf3 c6.1 c6.2) O) (aq O (fun γ => qy O O (.v 6 O O (.v 14 O O .nil)) O O (bK (decide_eq_true p)) (ag O O isAgg3 (hcell54v 6 O 0 _ O)) O) (aq O (fun γ => qy O O (.o (s := 1) O (by decide) (.v 6 O O .nil)) O O (bK (decide_eq_true p)) (ag O O isAgg3 (.obj 3 O O)) O) (aq O (fun γ => qy O O (.v 6 O O (.v 9 O O (.v 15 O O (.v 16 O O .nil)))) O O (bK (decide_eq_true p)) (RE.rq (RE.lend 6 O (fun ed ee ef fs => RE.lend 7 O (fun eg ei ek fz => av (vs := [.pointer (some ⟨c, 4, none⟩), Iv (a.2.2.2.2.2.1.getD (0 : Int).toNat (0 : Int)), Iv m]) (cap := []) (A := [W3 e b.1 a.2, ao (aj b.1 ar ak b.2.1) ai b.2.1 a.1, W7 c e a.q4 b.2.2.1 b.2.2.2.1 b.q4.2.1 b.q4.2.2]) (rst := [obj q 36 [Pt c], obj t 3 [Iv m], obj u 3 [Iv a.q8.q4.2.2], Row 3 1 b.2.2.1 a.q4.2.1.length b.2.2.2.1 cd.flatten, Row 144 5 b.q4.2.1 a.q8.q4.1.length b.q4.2.2 ch.flatten, b.q4.1, F]) O O O O O O call63 (.s O (.sel 4 O (.s O (.s O (.s O (.s O (.s O (.s O (.s O (.s O .n)))))))))) (eH.calls _ _ k c e b.1 b.2.1 a.1 a.2.1 a.2.2.1 a.2.2.2.1 a.2.2.2.2.1 b.2.2.1 b.2.2.2.1 a.2.2.2.2.2.1 a.2.2.2.2.2.2.1 a.2.2.2.2.2.2.2.1 a.2.2.2.2.2.2.2.2.1 a.2.2.2.2.2.2.2.2.2.1 a.2.2.2.2.2.2.2.2.2.2.1 a.2.2.2.2.2.2.2.2.2.2.2.1 b.2.2.2.2.2.1 b.2.2.2.2.2.2 a.2.2.2.2.2.2.2.2.2.2.2.2.1 a.2.2.2.2.2.2.2.2.2.2.2.2.2.1 (a.2.2.2.2.2.1.getD (0 : Int).toNat (0 : Int)) m ((Rd.asV b5 ed).up (Up.lend 3 O) (fun _ _ h => h)) ee ef ((Rd.asV cs eg).up (Up.lend 4 O) (aQ.up (Up.lend 5 O))) ei ek) ec))) (fun _ => by rfl) (fun _ => by exact ((.s O (.sel 1 O (.sel 1 O (.sel 1 O (.sel 1 O (.s O (.s O (.s O (.s O (.s O .n))))))))))))) O) (aq O (fun γ => qy O O (.v 6 O O (.v 17 O O .nil)) O O (bK (decide_eq_true p)) (fK O O) O) (aq O (fun γ => qp O O (.v 6 O O (.v 18 O O .nil)) (bS O O O O (nl (decide_eq_true p) _ _)) O) zA))))))))))))))))))))
 exact zA
 intro g0
 exact aG (s := !b4) () ⟨O, O, O, O, trivial⟩ (.s O (.s O (.s O (.s O (.s O (.s O (.sel' 0 O (am.mk b5) (.sel' 0 O (am.mk cs) (.s O (.s O .n))))))))))
 refine bi (Γ := Unit) () [[], [0], [0, 1], [0, 1, 2], rL 4, rL 5, rL 6, rL 7, rL 8, rL 9, rL 7, [0, 1, 2, 3, 4, 5, 6, 10], [0, 1, 2, 3, 4, 5, 6, 10, 11], [0, 1, 2, 3, 4, 5, 6, 10, 11, 12], [0, 1, 2, 3, 4, 5, 6, 10, 11, 12, 13], [0, 1, 2, 3, 4, 5, 6, 10, 11, 12, 13, 14], rL 7, rL 17, rL 18, rL 19] [] [0, 1, 2, 3, 4, 5, 6, 7, 8, 9, 10, 11, 12, 13, 14, 15, 16, 17, 18, 19] (fun i => [[0], [0], [0], [0], [0], [0], [0], [0], [0], [0], [0], [0], [0], [0], [0], [0], [0], [0], [0], [0]].getD i []) (fun i => [[], [], [], [], [], [], [], [], [], [], [], [], [], [], [], [], [], [], [], []].getD i []) (fun γ i => [Pt c, Pt c, .pointer (some ⟨c, 2, none⟩), .slice b.2.2.1 a.2.2.2.2.2.1.length b.2.2.2.1, Iv (a.2.2.2.2.2.1.length : Int), .bool (decide ((1 : Int) < (a.2.2.2.2.2.1.length : Int))), .bool (decide ((1 : Int) < (a.2.2.2.2.2.1.length : Int))), undef, undef, undef, undef, undef, undef, undef, undef, undef, undef, undef, undef, .bool false].getD i undef) (fun j γ => [[W3 e b.1 a.2, W7 c e a.2.2.2.2 b.2.2.1 b.2.2.2.1 b.2.2.2.2.2.1 b.2.2.2.2.2.2, obj q 36 [Pt c], obj t 3 [Iv m], obj u 3 [Iv a.2.2.2.2.2.2.2.2.2.2.2.2.2.2], ao (aj b.1 ar ak b.2.1) ai b.2.1 a.1, Row 3 1 b.2.2.1 a.2.2.2.2.2.1.length b.2.2.2.1 cd.flatten, Row 144 5 b.2.2.2.2.2.1 a.2.2.2.2.2.2.2.2.2.2.2.2.1.length b.2.2.2.2.2.2 ch.flatten, b.2.2.2.2.1, F]].getD j []) (fun γ => [(0, Pt q), (1, Pt t), (2, Pt u), (29, undef), (30, undef), (31, undef), (32, undef), (33, undef), (34, undef), (35, undef), (36, undef), (37, undef), (38, undef), (39, undef), (40, undef), (41, .bool false)]) mixed (by decide) (by decide) (by decide) (by decide) (by decide) (by decide) (by decide) 75 O (by decide) (by decide) (by decide) (Ent.refl _) ?_ ?_ (fun _ => ⟨O, O, O, O, O, O, O, O, O, O, O, O, O, O, O, O, trivial⟩) ?_
 exact (aq O (fun γ => qp O O (.o (s := 0) O (by decide) .nil) (ag O O isAgg36 (.obj 2 O O)) O) (aq O (fun γ => qp O O (.v 0 O O .nil) (aW O O) O) (aq O (fun γ => qp O O (.v 1 O O .nil) (ap O O underlying91 O O sizeOf78 O) O) (aq O (fun γ => qp O O (.v 2 O O .nil) (ag O O isAgg78 (.obj 1 O O)) O) (aq O (fun γ => qp O O (.v 3 O O .nil) (bx O O O underlying78) O) (aq O (fun γ => qp O O (.v 4 O O .nil) (cW O O O) O) (aq O (fun γ => qm O (.v 5 O O .nil) O) (aq O (fun γ => qn O O (.o (s := 0) O (by decide) (.v 6 O O .nil)) O O (bL (decide_eq_false p)) O) (aq O (fun γ => qn O O (.v 6 O O (.v 7 O O .nil)) O O (bL (decide_eq_false p)) O) (aq O (fun γ => qn O O (.v 6 O O (.v 8 O O .nil)) O O (bL (decide_eq_false p)) O) (aq O (fun γ => qn O O (.o (s := 0) O (by decide) (.v 6 O O .nil)) O O (bL (decide_eq_false p)) O) (aq O (fun γ => qn O O (.v 6 O O (.v 10 O O .nil)) O O (bL (decide_eq_false p)) O) (aq O (fun γ => qn O O (.v 6 O O (.v 11 O O .nil)) O O (bL (decide_eq_false p)) O) (aq O (fun γ => qn O O (.v 6 O O (.v 12 O O .nil)) O O (bL (decide_eq_false p)) O) (aq O (fun γ => qn O O (.v 6 O O (.v 13 O O .nil)) O O (bL (decide_eq_false p)) O) (aq O (fun γ => qn O O (.v 6 O O (.v 14 O O .nil)) O O (bL (decide_eq_false p)) O) (aq O (fun γ => qn O O (.o (s := 1) O (by decide) (.v 6 O O .nil)) O O (bL (decide_eq_false p)) O) (aq O (fun γ => qn O O (.v 6 O O (.v 9 O O (.v 15 O O (.v 16 O O .nil)))) O O (bL (decide_eq_false p)) O) (aq O (fun γ => qn O O (.v 6 O O (.v 17 O O .nil)) O O (bL (decide_eq_false p)) O) (aq O (fun γ => qp O O (.v 6 O O (.v 18 O O .nil)) (bS O O O O (oE (decide_eq_false p) _ _)) O) zA))))))))))))))))))))
 exact zA
 intro g1
 exact aG (s := false) () ⟨O, O, O, O, trivial⟩ (.s O (.s O (.s O (.s O (.s O (.s O (.sel' 0 O (am.mk b5) (.sel' 0 O (am.mk cs) (.s O (.s O .n))))))))))
 intro g2 g3
 refine aZ O (fun g4 => ?_) (fun g5 => ?_)
 refine aC (aa (aR (ay (bq 6 O (fun be c0 => (bq 7 O (fun br el => (cG (fun c8 => (ie 6 O c0 O (i := (0 : Int).toNat) (by omega) (0 : Int) (fun e2 em g6 en er e7 hcell81v => ?_)))))))))))
 obtain rfl := er
 refine bv (fun c5 es => (bv (fun g et => (bv (fun g7 ew => ?_)))))
 refine bi (Γ := (Nat × Kps)) (0, ([] : Kps)) [[], [0], [0, 1], [0, 1, 2], [], [4], [4, 5], [4, 5, 6], [4, 5, 6, 7], [4, 5, 6, 7, 8], [4, 5, 6, 7, 8, 9], rL 11, rL 12] [10, 11, 12] [0, 1, 2, 3, 4, 5, 6, 7, 8, 9] (fun i => [[0, 1], [0, 1], [0, 1], [0, 1], [0], [0], [0], [0], [0], [0], [], [], []].getD i []) (fun i => [[], [], [], [], [], [], [], [], [], [], rL 10, rL 11, rL 12].getD i []) (fun γ i => [Pt c, Pt c, Pt c, Pt e, Pt c, Pt c, .pointer (some ⟨c, 2, none⟩), .slice b.2.2.1 a.2.2.2.2.2.1.length b.2.2.2.1, .pointer (some ⟨e2, em + (0 : Int).toNat * 1, none⟩), Iv (a.2.2.2.2.2.1.getD (0 : Int).toNat (0 : Int)), str c5, Iv g.1, .tuple #[]].getD i undef) (fun j γ => [[W3 e b.1 a.2, W7 c e a.2.2.2.2 b.2.2.1 b.2.2.2.1 b.2.2.2.2.2.1 b.2.2.2.2.2.2, obj q 36 [Pt c], obj t 3 [Iv m], obj u 3 [Iv a.2.2.2.2.2.2.2.2.2.2.2.2.2.2], ao (aj b.1 ar ak b.2.1) ai b.2.1 a.1, Row 3 1 b.2.2.1 a.2.2.2.2.2.1.length b.2.2.2.1 be.flatten, Row 144 5 b.2.2.2.2.2.1 a.2.2.2.2.2.2.2.2.2.2.2.2.1.length b.2.2.2.2.2.2 br.flatten, b.2.2.2.2.1, F], [W3 e b.1 a.2, W7 c e a.2.2.2.2 b.2.2.1 b.2.2.2.1 b.2.2.2.2.2.1 b.2.2.2.2.2.2, obj q 36 [Pt c], obj t 3 [Iv m], obj u 3 [Iv a.2.2.2.2.2.2.2.2.2.2.2.2.2.2], ao (aj b.1 ar ak b.2.1) ai b.2.1 a.1, Row 3 1 b.2.2.1 a.2.2.2.2.2.1.length b.2.2.2.1 be.flatten, Row 144 5 b.2.2.2.2.2.1 a.2.2.2.2.2.2.2.2.2.2.2.2.1.length b.2.2.2.2.2.2 br.flatten, b.2.2.2.2.1, F], [W5 e γ.1 g.2.2, ao (aj γ.1 ar ak γ.2) ai γ.2 g.2.1, W7 c e a.2.2.2.2 b.2.2.1 b.2.2.2.1 b.2.2.2.2.2.1 b.2.2.2.2.2.2, obj q 36 [Pt c], obj t 3 [Iv m], obj u 3 [Iv a.2.2.2.2.2.2.2.2.2.2.2.2.2.2], Row 3 1 b.2.2.1 a.2.2.2.2.2.1.length b.2.2.2.1 be.flatten, Row 144 5 b.2.2.2.2.2.1 a.2.2.2.2.2.2.2.2.2.2.2.2.1.length b.2.2.2.2.2.2 br.flatten, b.2.2.2.2.1, F], [W5 e γ.1 g.2.2, ao (aj γ.1 ar ak γ.2) ai γ.2 g.2.1, W7 c e a.2.2.2.2 b.2.2.1 b.2.2.2.1 b.2.2.2.2.2.1 b.2.2.2.2.2.2, obj q 36 [Pt c], obj t 3 [Iv m], obj u 3 [Iv a.2.2.2.2.2.2.2.2.2.2.2.2.2.2], Row 3 1 b.2.2.1 a.2.2.2.2.2.1.length b.2.2.2.1 be.flatten, Row 144 5 b.2.2.2.2.2.1 a.2.2.2.2.2.2.2.2.2.2.2.2.1.length b.2.2.2.2.2.2 br.flatten, b.2.2.2.2.1, F]].getD j []) (fun γ => [(0, Pt q), (1, Pt t), (2, Pt u)]) mixed (by decide) (by decide) (by decide) (by decide) (by decide) (by decide) (by decide) 75 O (by decide) (by decide) (by decide) (Ent.refl _) ?_ ?_ (fun _ => ⟨O, O, O, trivial⟩) ?_
 exact (ac (fun γ => (ac (qp O O (.o (s := 0) O (by decide) .nil) (ag O O isAgg36 (.obj 2 O O)) O) (ac (qp O O (.o (s := 0) O (by decide) .nil) (ag O O isAgg36 (.obj 2 O O)) O) zA))) (ac (fun γ => (ac (qp O O (.v 0 O O .nil) (aW O O) O) (ac (qp O O (.v 0 O O .nil) (aW O O) O) zA))) (ac (fun γ => (ac (qp O O (.v 1 O O .nil) (ap O O underlying91 O O sizeOf39 O) O) (ac (qp O O (.v 1 O O .nil) (ap O O underlying91 O O sizeOf39 O) O) zA))) (ac (fun γ => (ac (qp O O (.v 2 O O .nil) (ag O O isAgg39 (.obj 1 O O)) O) (ac (qp O O (.v 2 O O .nil) (ag O O isAgg39 (.obj 1 O O)) O) zA))) (aq O (fun γ => qp O O (.o (s := 0) O (by decide) .nil) (ag O O isAgg36 (.obj 2 O O)) O) (aq O (fun γ => qp O O (.v 4 O O .nil) (aW O O) O) (aq O (fun γ => qp O O (.v 5 O O .nil) (ap O O underlying91 O O sizeOf78 O) O) (aq O (fun γ => qp O O (.v 6 O O .nil) (ag O O isAgg78 (.obj 1 O O)) O) (aq O (fun γ => qp O O (.v 7 O O .nil) (cO O O O en underlying78 sizeOf3 c8.1 c8.2) O) (aq O (fun γ => qp O O (.v 8 O O .nil) (ag O O isAgg3 (hcell81v 6 O 0 _ O)) O) zA))))))))))
 exact (ac (fun γ => eo (Z := Unit) (fun z => γ) O O (.v 9 O O .nil) (av (val := fun (r : Lb) (y : Unit) => str r) (B := fun _ _ => []) (vs := [Iv (a.2.2.2.2.2.1.getD (0 : Int).toNat (0 : Int))]) (cap := []) (A := []) (rst := [W3 e b.1 a.2, W7 c e a.q4 b.2.2.1 b.2.2.2.1 b.q4.2.1 b.q4.2.2, obj q 36 [Pt c], obj t 3 [Iv m], obj u 3 [Iv a.q8.q4.2.2], ao (aj b.1 ar ak b.2.1) ai b.2.1 a.1, Row 3 1 b.2.2.1 a.q4.2.1.length b.2.2.2.1 be.flatten, Row 144 5 b.q4.2.1 a.q8.q4.1.length b.q4.2.2 br.flatten, b.q4.1, F]) O O O O O O call47 (.s O (.s O (.s O (.s O (.s O (.s O (.s O (.s O (.s O (.s O .n)))))))))) (cD.calls _ _ k (a.2.2.2.2.2.1.getD (0 : Int).toNat (0 : Int)) (hgl.lend 9 O)) es) (fun _ => ⟨O, O, O, O, O, O, O, O, O, O, trivial⟩) (fun _ => .inr O) (fun z => Ent.refl _)) (ac (fun γ => eo (Z := Nat × Kps) (fun z => z) O O (.v 3 O O (.v 10 O O .nil)) (av (vs := [Pt e, str c5]) (cap := []) (A := [W3 e b.1 a.2, ao (aj b.1 ar ak b.2.1) ai b.2.1 a.1]) (rst := [W7 c e a.q4 b.2.2.1 b.2.2.2.1 b.q4.2.1 b.q4.2.2, obj q 36 [Pt c], obj t 3 [Iv m], obj u 3 [Iv a.q8.q4.2.2], Row 3 1 b.2.2.1 a.q4.2.1.length b.2.2.2.1 be.flatten, Row 144 5 b.q4.2.1 a.q8.q4.1.length b.q4.2.2 br.flatten, b.q4.1, F]) O O O O O O call64 (.s O (.sel 4 O (.s O (.s O (.s O (.s O (.s O (.s O (.s O (.s O .n)))))))))) (eC.calls _ _ e b.1 b.2.1 a.1 a.2.1 a.2.2.1 a.2.2.2.1 c5 ) et) (fun _ => ⟨O, O, O, O, O, O, O, O, O, O, O, trivial⟩) (fun _ => .inr O) (fun z => Ent.refl _)) (ac (fun γ => eo (Z := Unit) (fun z => γ) O O (.v 11 O O .nil) (av (vs := [Iv g.1]) (cap := []) (A := []) (rst := [W5 e γ.1 g.2.2, ao (aj γ.1 ar ak γ.2) ai γ.2 g.2.1, W7 c e a.q4 b.2.2.1 b.2.2.2.1 b.q4.2.1 b.q4.2.2, obj q 36 [Pt c], obj t 3 [Iv m], obj u 3 [Iv a.q8.q4.2.2], Row 3 1 b.2.2.1 a.q4.2.1.length b.2.2.2.1 be.flatten, Row 144 5 b.q4.2.1 a.q8.q4.1.length b.q4.2.2 br.flatten, b.q4.1, F]) O O O O O O call43 (.s O (.s O (.s O (.s O (.s O (.s O (.s O (.s O (.s O (.s O .n)))))))))) (bH.calls _ _ g.1 ) ew) (fun _ => ⟨O, O, O, O, O, O, O, O, O, O, O, O, trivial⟩) (fun _ => .inr O) (fun z => Ent.refl _)) zA)))
 intro ab
 refine aa (ay (cG (fun c9 => (ie 6 O c0 O (i := (0 : Int).toNat) (by omega) (0 : Int) (fun e3 ex g8 eA eB e8 hcell99v => ?_)))))
 obtain rfl := eB
 refine bv (fun d d2 => ?_)
 refine bi (Γ := (Option Addr × Nat × Option Addr × Nat × HA)) (none, 0, none, 0, tt) [[], [0], [0, 1], [], [3], [3, 4], [3, 4, 5], [3, 4, 5, 6], [3, 4, 5, 6, 7], rL 9] [9] [0, 1, 2, 3, 4, 5, 6, 7, 8] (fun i => [[0], [0], [0], [0], [0], [0], [0], [0], [0], []].getD i []) (fun i => [[], [], [], [], [], [], [], [], [], rL 9].getD i []) (fun γ i => [Pt c, Pt c, .pointer (some ⟨c, 4, none⟩), Pt c, Pt c, .pointer (some ⟨c, 2, none⟩), .slice b.2.2.1 a.2.2.2.2.2.1.length b.2.2.2.1, .pointer (some ⟨e3, ex + (0 : Int).toNat * 1, none⟩), Iv (a.2.2.2.2.2.1.getD (0 : Int).toNat (0 : Int)), .tuple #[]].getD i undef) (fun j γ => [[W5 e ab.1 g.2.2, ao (aj ab.1 ar ak ab.2) ai ab.2 g.2.1, W7 c e a.2.2.2.2 b.2.2.1 b.2.2.2.1 b.2.2.2.2.2.1 b.2.2.2.2.2.2, obj q 36 [Pt c], obj t 3 [Iv m], obj u 3 [Iv a.2.2.2.2.2.2.2.2.2.2.2.2.2.2], Row 3 1 b.2.2.1 a.2.2.2.2.2.1.length b.2.2.2.1 be.flatten, Row 144 5 b.2.2.2.2.2.1 a.2.2.2.2.2.2.2.2.2.2.2.2.1.length b.2.2.2.2.2.2 br.flatten, b.2.2.2.2.1, F], [W5 e ab.1 g.2.2, ao (aj ab.1 ar ak ab.2) ai ab.2 g.2.1, W4 c e d γ.1 γ.2.1 γ.2.2.1 γ.2.2.2.1, am 3 1 (V3 tt) γ.1 d.2.1 γ.2.1, am 144 5 (aQ (γ.2.2.2.2)) γ.2.2.1 d.2.2.2.2.2.2.2.2.1 γ.2.2.2.1, γ.2.2.2.2, obj q 36 [Pt c], obj t 3 [Iv m], obj u 3 [Iv a.2.2.2.2.2.2.2.2.2.2.2.2.2.2], F]].getD j []) (fun γ => [(0, Pt q), (1, Pt t), (2, Pt u)]) mixed (by decide) (by decide) (by decide) (by decide) (by decide) (by decide) (by decide) 75 O (by decide) (by decide) (by decide) (Ent.refl _) ?_ ?_ (fun _ => ⟨O, O, O, trivial⟩) ?_
 exact (aq O (fun γ => qp O O (.o (s := 0) O (by decide) .nil) (ag O O isAgg36 (.obj 3 O O)) O) (aq O (fun γ => qp O O (.v 0 O O .nil) (aW O O) O) (aq O (fun γ => qp O O (.v 1 O O .nil) (ap O O underlying91 O O sizeOf89 O) O) (aq O (fun γ => qp O O (.o (s := 0) O (by decide) .nil) (ag O O isAgg36 (.obj 3 O O)) O) (aq O (fun γ => qp O O (.v 3 O O .nil) (aW O O) O) (aq O (fun γ => qp O O (.v 4 O O .nil) (ap O O underlying91 O O sizeOf78 O) O) (aq O (fun γ => qp O O (.v 5 O O .nil) (ag O O isAgg78 (.obj 2 O O)) O) (aq O (fun γ => qp O O (.v 6 O O .nil) (cO O O O eA underlying78 sizeOf3 c9.1 c9.2) O) (aq O (fun γ => qp O O (.v 7 O O .nil) (ag O O isAgg3 (hcell99v 6 O 0 _ O)) O) zA)))))))))
 exact (ac (fun γ => eo (Z := Option Addr × Nat × Option Addr × Nat × HA) (fun z => z) O O (.v 2 O O (.v 8 O O .nil)) (av (vs := [.pointer (some ⟨c, 4, none⟩), Iv (a.2.2.2.2.2.1.getD (0 : Int).toNat (0 : Int))]) (cap := []) (A := [W5 e ab.1 g.2.2, ao (aj ab.1 ar ak ab.2) ai ab.2 g.2.1, W7 c e a.q4 b.2.2.1 b.2.2.2.1 b.q4.2.1 b.q4.2.2, am 3 1 (V3 tt) b.2.2.1 a.q4.2.1 b.2.2.2.1, am 144 5 (aQ b.q4.1) b.q4.2.1 a.q8.q4.1 b.q4.2.2, b.q4.1]) (rst := [obj q 36 [Pt c], obj t 3 [Iv m], obj u 3 [Iv a.q8.q4.2.2], F]) O O O O O O call65 (.s O (.s O (.s O (.sel' 3 O (am.mk c0) (.sel' 3 O (am.mk el) (.sel 3 O (.s O (.s O (.s O (.s O .n)))))))))) (cy.calls _ _ k c e ab.1 ab.2 g.2.1 g.2.2.1 g.2.2.2.1 g.2.2.2.2 a.2.2.2.2.1 b.2.2.1 b.2.2.2.1 a.2.2.2.2.2.1 a.2.2.2.2.2.2.1 a.2.2.2.2.2.2.2.1 a.2.2.2.2.2.2.2.2.1 a.2.2.2.2.2.2.2.2.2.1 a.2.2.2.2.2.2.2.2.2.2.1 a.2.2.2.2.2.2.2.2.2.2.2.1 b.2.2.2.2.2.1 b.2.2.2.2.2.2 a.2.2.2.2.2.2.2.2.2.2.2.2.1 b.2.2.2.2.1 a.2.2.2.2.2.2.2.2.2.2.2.2.2.1 (a.2.2.2.2.2.1.getD (0 : Int).toNat (0 : Int)) ) d2) (fun _ => ⟨O, O, O, O, O, O, O, O, O, trivial⟩) (fun _ => .inr O) (fun z => Ent.refl _)) zA)
 intro ad
 refine aa (ay (bq 3 O (fun d3 c1 => (bq 4 O (fun c2 d4 => (ii 3 O (fun d5 b8 e9 fl => (cG (fun b9 => ?_)))))))))
 obtain ⟨b6, b7, c3, fn, fp, fr⟩ := gM (lo := (1 : Int)) (hi := (d.2.1.length : Int)) (Rd.asV c1 d5) b8 b9
 refine bi (Γ := Unit) () [[], [], [1], [1, 2], [1, 2, 3], [1, 2, 3, 4], rL 6, rL 7, rL 8] [8] [0, 1, 2, 3, 4, 5, 6, 7] (fun i => [[0], [0], [0], [0], [0], [0], [0], [0], []].getD i []) (fun i => [[], [], [], [], [], [], [], [], rL 8].getD i []) (fun γ i => [Pt c, Pt c, Pt c, .pointer (some ⟨c, 2, none⟩), .slice ad.1 d.2.1.length ad.2.1, .slice b6 ((cut d.2.1 (1 : Int) (d.2.1.length : Int)).length) b7, Pt c, .pointer (some ⟨c, 2, none⟩), undef].getD i undef) (fun j γ => [[W5 e ab.1 g.2.2, ao (aj ab.1 ar ak ab.2) ai ab.2 g.2.1, W4 c e d ad.1 ad.2.1 ad.2.2.1 ad.2.2.2.1, Row 3 1 ad.1 d.2.1.length ad.2.1 d3.flatten, Row 144 5 ad.2.2.1 d.2.2.2.2.2.2.2.2.1.length ad.2.2.2.1 c2.flatten, ad.2.2.2.2, obj q 36 [Pt c], obj t 3 [Iv m], obj u 3 [Iv a.2.2.2.2.2.2.2.2.2.2.2.2.2.2], F], [W5 e ab.1 g.2.2, ao (aj ab.1 ar ak ab.2) ai ab.2 g.2.1, W1 c e d.1 (cut d.2.1 (1 : Int) (d.2.1.length : Int)) d.2.2.1 d.2.2.2.1 d.2.2.2.2.1 d.2.2.2.2.2.1 d.2.2.2.2.2.2.1 d.2.2.2.2.2.2.2.1 d.2.2.2.2.2.2.2.2.1 d.2.2.2.2.2.2.2.2.2 b6 b7 ad.2.2.1 ad.2.2.2.1, am 3 1 (V3 tt) b6 (cut d.2.1 (1 : Int) (d.2.1.length : Int)) b7, Row 144 5 ad.2.2.1 d.2.2.2.2.2.2.2.2.1.length ad.2.2.2.1 c2.flatten, ad.2.2.2.2, obj q 36 [Pt c], obj t 3 [Iv m], obj u 3 [Iv a.2.2.2.2.2.2.2.2.2.2.2.2.2.2], F]].getD j []) (fun γ => [(0, Pt q), (1, Pt t), (2, Pt u)]) mixed (by decide) (by decide) (by decide) (by decide) (by decide) (by decide) (by decide) 75 O (by decide) (by decide) (by decide) (Ent.refl _) ?_ ?_ (fun _ => ⟨O, O, O, trivial⟩) ?_
 exact (aq O (fun γ => qp O O (.o (s := 0) O (by decide) .nil) (ag O O isAgg36 (.obj 6 O O)) O) (aq O (fun γ => qp O O (.o (s := 0) O (by decide) .nil) (ag O O isAgg36 (.obj 6 O O)) O) (aq O (fun γ => qp O O (.v 1 O O .nil) (aW O O) O) (aq O (fun γ => qp O O (.v 2 O O .nil) (ap O O underlying91 O O sizeOf78 O) O) (aq O (fun γ => qp O O (.v 3 O O .nil) (ag O O isAgg78 (.obj 2 O O)) O) (aq O (fun γ => qp O O (.v 4 O O .nil) (gr (l := d.2.1) (lo' := (1 : Int)) (hi' := (d.2.1.length : Int)) O O O O underlying78 sizeOf3 (.inl ⟨O, O⟩) (.inr ⟨_, O⟩) b9 b8 c3) O) (aq O (fun γ => qp O O (.v 0 O O .nil) (aW O O) O) (aq O (fun γ => qp O O (.v 6 O O .nil) (ap O O underlying91 O O sizeOf78 O) O) zA))))))))
 exact (ac (fun γ => eo (Z := Unit) (fun z => ()) O O (.v 5 O O (.v 7 O O .nil)) (RE.ent (Ent.cutV 3 O c1 c3 b9 b8) (aJ 2 O O O sizeOf78 O O (aP (by rfl)) O O)) (fun _ => ⟨O, O, O, O, O, O, O, O, trivial⟩) (fun _ => .inl O) (fun z => Ent.refl _)) zA)
 intro go
 refine aa (aI (vq (ag O O isAgg3 (.obj 8 O O)) O (vq (bY O O O) O (aY (aJ 8 O O O sizeOf3 O O (aP (by rfl)) O O) O O ?_))))
 intro _
 refine ae (bo ?_)
 exact bM (s := (g.2.1, g.2.2.1, g.2.2.2.1, g.2.2.2.2, d.1, cut d.2.1 (1 : Int) (d.2.1.length : Int), d.2.2.1, d.2.2.2.1, d.2.2.2.2.1, d.2.2.2.2.2.1, d.2.2.2.2.2.2.1, d.2.2.2.2.2.2.2.1, d.2.2.2.2.2.2.2.2.1, d.2.2.2.2.2.2.2.2.2, IntKind.i64.wrap (a.2.2.2.2.2.2.2.2.2.2.2.2.2.2 + 1))) (ab.1, ab.2, b6, b7, ad.2.2.2.2, ad.2.2.1, ad.2.2.2.1) ⟨O, O, O, trivial⟩ (.s O (.sel 1 O (.sel 4 O (.sel 4 O (.sel 4 O (.s O (.s O (.sel' 0 O (am.mk d4) (.s O (.s O .n))))))))))
 refine cA (ce (cl (cf ?_)))
 exact fZ (b.1, b.2.1, b.2.2.1, b.2.2.2.1, b.2.2.2.2.2.1, b.2.2.2.2.2.2, b.2.2.2.2.1) O O O (.s O (.sel 4 O (.s O (.sel 3 O (.sel 3 O (.sel 3 O (.s O (.s O (.s O (.s O .n))))))))))

def db.f (k : Nat) (c : List ((List UInt8) × (List UInt8 × Int))) (d : List UInt8) (e : Int) (g : Bool) (h : Int) (i : List Int) (j : Int) (l : Int) (m : Int) (n : Int) (o : Int) (p : Int) (q : List (aF)) (b : Bool) (r : Int) (s : Int) : Option (Int × (List ((List UInt8) × (List UInt8 × Int))) × List UInt8 × Int × Bool × Int × List Int × Int × Int × Int × Int × Int × Int × (List (aF)) × Bool × Int) := (ci.f k c d e g h i j l m n o p q b r s).bind fun a => (some (0, a.1, a.2.1, a.2.2.1, a.2.2.2.1, a.2.2.2.2.1, a.2.2.2.2.2.1, a.2.2.2.2.2.2.1, a.2.2.2.2.2.2.2.1, a.2.2.2.2.2.2.2.2.1, a.2.2.2.2.2.2.2.2.2.1, a.2.2.2.2.2.2.2.2.2.2.1, a.2.2.2.2.2.2.2.2.2.2.2.1, a.2.2.2.2.2.2.2.2.2.2.2.2.1, a.2.2.2.2.2.2.2.2.2.2.2.2.2.1, a.2.2.2.2.2.2.2.2.2.2.2.2.2.2))
theorem db.calls (W : World) (F : HA) (k : Nat) (c : Nat) (af : Nat) (d : Nat) (e : Kps) (o : List (Lb × (Lb × Int))) (p : Lb) (q : Int) (s : Bool) (t : Int) (g : Option Addr) (h : Nat) (a : List Int) (u : Int) (v : Int) (w : Int) (x : Int) (z : Int) (ab : Int) (i : Option Addr) (j : Nat) (b : List aF) (l : HA) (m : Bool) (an : Nat) (az : Nat) (n : Int) (a0 : Nat) (ad : Int) (hgl : Glb Tryz.prog F) :
    Fn Tryz.prog W 49 [Pt c, .func (.func 62) #[] #[Pt an, Pt az, Pt a0]] [W0 af d p q s, ao (aj d ar ak e) ai e o, W1 c af t a u v w x z ab b m g h i j, am 3 1 (V3 tt) g a h, am 144 5 (aQ l) i b j, l, obj an 36 [Pt c], obj az 3 [Iv n], obj a0 3 [Iv ad]] F (db.f k o p q s t a u v w x z ab b m n ad) (fun (r : Int × (List (Lb × (Lb × Int))) × Lb × Int × Bool × Int × List Int × Int × Int × Int × Int × Int × Int × (List aF) × Bool × Int) (y : Nat × Kps × Option Addr × Nat × Option Addr × Nat × HA) => Iv r.1) (fun r y => [W3 af y.1 r.2.2, ao (aj y.1 ar ak y.2.1) ai y.2.1 r.2.1, W7 c af r.q4.2 y.2.2.1 y.2.2.2.1 y.q4.1 y.q4.2.1, am 3 1 (V3 tt) y.2.2.1 r.q4.2.2.1 y.2.2.2.1, am 144 5 (aQ y.q4.2.2) y.q4.1 r.q8.q4.2.1 y.q4.2.1, y.q4.2.2, obj an 36 [Pt c], obj az 3 [Iv n], obj a0 3 [Iv r.q8.q4.2.2.2]]) := by
 unfold db.f
 refine kT 8 Tryz.func49 O Tryz.ntmps49 O (sr (ah (cq O O O) O O O ?_))
 intro a2
 refine ah (bT O zeroValue23 O) O O O ?_
 intro a1
 refine nx (vq (gY O O O) O (kr (cap := [Pt a2, Pt a1]) O O O O O O O (nx (vm O O (bf 5 O (fun a6 a3 => (bf 6 O (fun a7 a4 => (ax (fun a8 a5 => (ah (av (vs := []) (cap := [Pt an, Pt az, Pt a0]) (A := [W0 af d p q s, ao (aj d ar ak e) ai e o, W1 c af t a u v w x z ab b m g h i j, am 3 1 (V3 tt) g a h, am 144 5 (aQ l) i b j, l, obj an 36 [Pt c], obj az 3 [Iv n], obj a0 3 [Iv ad]]) (rst := [obj a1 23 [Iv 0], obj a2 36 [Pt c], F]) O O O O O O call62 (.sel 2 O (.sel 2 O (.sel 2 O (.sel' 2 O (am.mk a3) (.sel' 2 O (am.mk a4) (.sel 2 O (.sel 2 O (.sel 2 O (.sel 2 O (.s O (.s O (.s O .n)))))))))))) (ci.calls _ _ k an c af d e o p q s t g h a u v w x z ab i j b l m az n a0 ad (hgl.lend 2 O)) a5) O O O ?_)))))))))))
 intro al
 refine nx (aY (aJ 9 O O O sizeOf23 O O (aP (by rfl)) O O) O O ?_)
 intro _
 refine ae (aa (aA ?_))
 exact kF (vs := [Iv 0]) 81 [Pt a2, Pt a1] (iX.quiet a2 a1) call81 al O ⟨⟨a1, O, gg isAgg23 (.obj 9 O O)⟩, trivial⟩ O (.s O (.s O (.s O (.s O (.s O (.s O (.s O (.s O (.s O (.sel 2 O .n))))))))))

def eY.f (k : Nat) (c : List ((List UInt8) × (List UInt8 × Int))) (d : List UInt8) (e : Int) (g : Bool) (h : Int) (i : List Int) (j : Int) (l : Int) (m : Int) (n : Int) (o : Int) (p : Int) (q : List (aF)) (b : Bool) (x1 : Int) : Option (Int × Int × (List ((List UInt8) × (List UInt8 × Int))) × List UInt8 × Int × Bool × Int × List Int × Int × Int × Int × Int × Int × Int × (List (aF)) × Bool) := if b = true then (some (0, 11, c, d, e, g, h, i, j, l, m, n, o, p, q, b)) else ((cx.f c d e g h i j l m n o p q b).bind fun r => (if ((decide (x1 < (0 : Int))) || (decide (r.1 < x1))) = true then (some (0, 1, c, d, e, g, h, i, j, l, m, n, o, p, q, b)) else ((db.f k c d e g h i j l m n o p q b x1 (0 : Int)).bind fun a => (if a.1 = (0 : Int) then (some (a.2.2.2.2.2.2.2.2.2.2.2.2.2.2.2, 0, a.2.1, a.2.2.1, a.2.2.2.1, a.2.2.2.2.1, a.2.2.2.2.2.1, a.2.2.2.2.2.2.1, a.2.2.2.2.2.2.2.1, a.2.2.2.2.2.2.2.2.1, a.2.2.2.2.2.2.2.2.2.1, a.2.2.2.2.2.2.2.2.2.2.1, a.2.2.2.2.2.2.2.2.2.2.2.1, a.2.2.2.2.2.2.2.2.2.2.2.2.1, a.2.2.2.2.2.2.2.2.2.2.2.2.2.1, a.2.2.2.2.2.2.2.2.2.2.2.2.2.2.1)) else (some (0, a.1, a.2.1, a.2.2.1, a.2.2.2.1, a.2.2.2.2.1, a.2.2.2.2.2.1, a.2.2.2.2.2.2.1, a.2.2.2.2.2.2.2.1, a.2.2.2.2.2.2.2.2.1, a.2.2.2.2.2.2.2.2.2.1, a.2.2.2.2.2.2.2.2.2.2.1, a.2.2.2.2.2.2.2.2.2.2.2.1, a.2.2.2.2.2.2.2.2.2.2.2.2.1, a.2.2.2.2.2.2.2.2.2.2.2.2.2.1, a.2.2.2.2.2.2.2.2.2.2.2.2.2.2.1))))))
theorem eY.calls (W : World) (F : HA) (k : Nat) (p : Nat) (al : Nat) (c : Nat) (d : Kps) (q : List (Lb × (Lb × Int))) (s : Lb) (t : Int) (u : Bool) (v : Int) (e : Option Addr) (g : Nat) (l : List Int) (w : Int) (x : Int) (z : Int) (ab : Int) (ad : Int) (af : Int) (i : Option Addr) (j : Nat) (m : List aF) (n : HA) (o : Bool) (x1 : Int) (hgl : Glb Tryz.prog F) :
    Fn Tryz.prog W 24 [Pt p, Iv x1] [W0 al c s t u, ao (aj c ar ak d) ai d q, W1 p al v l w x z ab ad af m o e g i j, am 3 1 (V3 tt) e l g, am 144 5 (aQ n) i m j, n] F (eY.f k q s t u v l w x z ab ad af m o x1) (fun (r : Int × Int × (List (Lb × (Lb × Int))) × Lb × Int × Bool × Int × List Int × Int × Int × Int × Int × Int × Int × (List aF) × Bool) (y : Nat × Kps × Option Addr × Nat × Option Addr × Nat × HA) => .tuple #[Iv r.1, Iv r.2.1]) (fun r y => [W3 al y.1 r.2.2.2, ao (aj y.1 ar ak y.2.1) ai y.2.1 r.2.2.1, W4 p al r.q4.2.2 y.2.2.1 y.2.2.2.1 y.q4.1 y.q4.2.1, am 3 1 (V3 tt) y.2.2.1 r.q4.2.2.2.1 y.2.2.2.1, am 144 5 (aQ y.q4.2.2) y.q4.1 r.q8.q4.2.2.1 y.q4.2.1, y.q4.2.2]) := by
 unfold eY.f
 refine aO 35 Tryz.func24 O Tryz.ntmps24 O (sr (ah (cq O O O) O O O ?_))
 intro a2
 refine ah (cq O O O) O O O ?_
 intro an
 refine va O O (va O O (ae (aa (ay (sr (vq (ag O O isAgg36 (.obj 1 O O)) O (vn O O (vq (ap O O underlying91 O O sizeOf4 O) O (vq (ag O O isAgg4 (.obj 4 O O)) O (ae (aa ?_)))))))))))
 refine aZ O (fun b9 => ?_) (fun cd => ?_)
 refine sr (va O O (va O O (ae (aa (aA (aN ?_))))))
 exact aE (c, d, e, g, i, j, n) O O O (.sel 2 O (.sel 2 O (.sel 2 O (.sel 2 O (.sel 2 O (.sel 2 O (.sel 2 O .n)))))))
 refine aC (aa (sr (vq (ag O O isAgg36 (.obj 1 O O)) O (vn O O (vq (ap O O underlying91 O O sizeOf89 O) O (bf 5 O (fun be az => (bf 6 O (fun br a0 => (ax (fun a4 a5 => (ba 5 O (fun bs a6 a7 bt => (ba 6 O (fun a8 a9 bc b0 => (ah (av (vs := [.pointer (some ⟨p, 4, none⟩)]) (cap := []) (A := [W0 al c s t u, ao (aj c ar ak d) ai d q, W1 p al v l w x z ab ad af m o e g i j]) (rst := [obj an 3 [Iv x1], obj a2 36 [Pt p], Row 3 1 e l.length g be.flatten, Row 144 5 i m.length j br.flatten, n, F]) O O O O O O call61 (.sel 2 O (.sel 2 O (.sel 2 O (.s O (.s O (.s O (.s O (.s O (.s O .n))))))))) (cx.calls _ _ p al c d q s t u v e g l w x z ab ad af i j m o ((Rd.asV az bs).up (Up.lend 2 O) (fun _ _ h => h)) a6 a7 ((Rd.asV a0 a8).up (Up.lend 3 O) (aQ.up (Up.lend 4 O))) a9 bc) a5) O O O ?_))))))))))))))))
 intro b3
 refine vm O O (vq (bI O O O) O (vq (bI O O O) O (va O O (va O O (ae (aa (ay (sr (vq (ag O O isAgg3 (.obj 3 O O)) O (vq (cL O O O) O (vm O O (aw (b := decide (x1 < (0 : Int))) (fun b1 => RQ.sub (E' := [(3, Pt an)]) ⟨O, trivial⟩ (ag O O isAgg3 (.obj 3 O O))) O O O O O (aw (b := decide (x1 < (0 : Int))) (fun b2 => RQ.sub (E' := [(6, Iv a4.1)]) ⟨O, trivial⟩ (bh O O)) O O O O O (aw (b := decide (x1 < (0 : Int))) (fun a3 => RQ.sub (E' := [(24, Iv x1), (25, Iv a4.1)]) ⟨aH O a3, aH O a3, trivial⟩ (cW O O O)) O O O O O (vq (fI O O O) O (ae (aa ?_)))))))))))))))))
 refine aZ O (fun b4 => ?_) (fun b5 => ?_)
 refine sr (va O O (va O O (ae (aa (aA (aN ?_))))))
 exact aE (c, d, e, g, i, j, n) O O O (.s O (.s O (.s O (.sel' 2 O (am.mk az) (.sel' 2 O (am.mk a0) (.sel 2 O (.sel 2 O .n)))))))
 refine aC (aa (sr (ah (bT O zeroValue3 O) O O O ?_)))
 intro a1
 refine aY (aJ 0 O O O sizeOf3 O O (aP (by rfl)) O O) O O ?_
 intro _
 refine nx (vq (ag O O isAgg36 (.obj 5 O O)) O (vq (gY O O O) O (ax (fun b6 bd => (ah (av (vs := [Pt p, .func (.func 62) #[] #[Pt a2, Pt an, Pt a1]]) (cap := []) (A := [W0 al c s t u, ao (aj c ar ak d) ai d q, W1 p al v l w x z ab ad af m o e g i j, am 3 1 (V3 tt) e l g, am 144 5 (aQ n) i m j, n, obj a2 36 [Pt p], obj an 3 [Iv x1], obj a1 3 [Iv 0]]) (rst := [F]) O O O O O O call49 (.sel 1 O (.sel 1 O (.sel 1 O (.sel' 3 O (am.mk az) (.sel' 3 O (am.mk a0) (.sel 3 O (.sel 2 O (.sel 1 O (.s O (.s O .n)))))))))) (db.calls _ _ k p al c d q s t u v e g l w x z ab ad af i j m n o a2 an x1 a1 (0 : Int) (hgl.lend 0 O)) bd) O O O ?_)))))
 intro a
 refine va O O (ae (aa (ay (sr (vm O O (vq (dp O O O) O (ae (aa ?_))))))))
 refine dd O (fun b7 => ?_) (fun b8 => ?_)
 refine aC (aa (sr (vq (ag O O isAgg3 (.obj 8 O O)) O (va O O (va O O (ae (aa (aA ?_))))))))
 exact aE a O O O (.s O (.s O (.s O (.s O (.s O (.s O (.sel 3 O .n)))))))
 refine sr (vm O O (va O O (va O O (ae (aa (aA (aN ?_)))))))
 exact aE a O O O (.s O (.s O (.s O (.s O (.s O (.s O (.sel 3 O .n)))))))
end Go.Proofs.YtndjkejhacfpdaaGreatDoor

namespace Go.Proofs.YtndjkejhacfpdaaGreatDoor
open Go.RowKit _root_.Go.Proofs.Tryz
set_option maxRecDepth 20000
set_option maxHeartbeats 20000000
def cU.l0 (a : List (aF)) : Nat → Int → List (bm) → Option ((List (bm)))
  | 0, _, _ => none
  | k + 1, b, c => if b < (a.length : Int) then (if 0 ≤ b ∧ b < (a.length : Int) then ((cr.f ((a.getD b.toNat au).2.2.2.1)).bind fun d => (if (c.length + ([((a.getD b.toNat au).1, (a.getD b.toNat au).2.1, (a.getD b.toNat au).2.2.1, d)] : List (bm)).length) * 48 ≤ 140737488355328 then (cU.l0 a k (IntKind.i64.wrap (b + 1)) (c ++ ([((a.getD b.toNat au).1, (a.getD b.toNat au).2.1, (a.getD b.toNat au).2.2.1, d)] : List (bm)))) else none)) else none) else (some c)
def cU.f (k : Nat) (j : List ((List UInt8) × (List UInt8 × Int))) (l : List UInt8) (m : Int) (n : Bool) (o : Int) (p : List Int) (q : Int) (a : Int) (b : Int) (c : Int) (d : Int) (e : Int) (g : List (aF)) (h : Bool) : Option (Int × Int × Int × Int × Int × (List (bm))) := (cU.l0 g k 0 ([] : List (bm))).bind fun i => (some (a, b, c, d, e, i))
theorem cU.calls (W : World) (F : HA) (k : Nat) (an : Nat) (ad : Nat) (q : Nat) (t : Kps) (az : List (Lb × (Lb × Int))) (a0 : Lb) (a1 : Int) (a2 : Bool) (a3 : Int) (a4 : Option Addr) (af : Nat) (w : List Int) (a5 : Int) (d : Int) (e : Int) (g : Int) (n : Int) (p : Int) (al : Option Addr) (x : Nat) (a : List aF) (u : Bool) (c7 : RdV F 1 (V3 tt) a4 w) (c2 : w.length ≤ af) (c3 : af ≤ maxLen) (b3 : RdV F 5 (aQ F) al a) (c4 : a.length ≤ x) (c5 : x ≤ maxLen) :
    Fn Tryz.prog W 54 [.pointer (some ⟨an, 4, none⟩)] [W0 ad q a0 a1 a2, ao (aj q ar ak t) ai t az, W1 an ad a3 w a5 d e g n p a u a4 af al x] F (cU.f k az a0 a1 a2 a3 w a5 d e g n p a u) (fun (r : Int × Int × Int × Int × Int × (List bm)) (y : Option Addr × Nat × HA) => .agg #[Iv r.1, Iv r.2.1, Iv r.2.2.1, Iv r.2.2.2.1, Iv r.2.2.2.2.1, .slice y.1 r.2.2.2.2.2.length y.2.1]) (fun r y => [am 35 4 (V35 y.2.2) y.1 r.2.2.2.2.2 y.2.1, y.2.2, W0 ad q a0 a1 a2, ao (aj q ar ak t) ai t az, W1 an ad a3 w a5 d e g n p a u a4 af al x]) := by
 unfold cU.f
 refine aO 43 Tryz.func54 O Tryz.ntmps54 O (sr (ah (bT O zeroValue47 O) O O O ?_))
 intro a6
 refine ae (aa (ay ?_))
 refine bi (Γ := Nat) 0 [[], [0], [0, 1], [0, 1, 2], [], [4], [4, 5], [4, 5, 6], [], [8], [8, 9], [8, 9, 10], rL 12, [], rL 14] [13, 14] [0, 1, 2, 3, 4, 5, 6, 7, 8, 9, 10, 11, 12] (fun i => [[0, 1], [0, 1], [0, 1], [0, 1], [0, 1], [0, 1], [0, 1], [0, 1], [0, 1], [0, 1], [0, 1], [0, 1], [0, 1], [], []].getD i []) (fun i => [[], [], [], [], [], [], [], [], [], [], [], [], [], rL 13, rL 14].getD i []) (fun γ i => [.pointer (some ⟨an, 4, none⟩), .pointer (some ⟨an, 4, none⟩), .pointer (some ⟨an, 4, none⟩), .agg #[Iv d, Iv e, Iv g], .pointer (some ⟨an, 4, none⟩), .pointer (some ⟨an, 4, none⟩), .pointer (some ⟨an, 7, none⟩), Iv n, .pointer (some ⟨an, 4, none⟩), .pointer (some ⟨an, 4, none⟩), .pointer (some ⟨an, 8, none⟩), Iv p, .agg #[Iv d, Iv e, Iv g, Iv n, Iv p, .slice none 0 0], Pt γ, undef].getD i undef) (fun j γ => [[obj a6 47 [Iv 0, Iv 0, Iv 0, Iv 0, Iv 0, .slice none 0 0], W0 ad q a0 a1 a2, ao (aj q ar ak t) ai t az, W1 an ad a3 w a5 d e g n p a u a4 af al x, F], [obj γ 47 [Iv 0, Iv 0, Iv 0, Iv 0, Iv 0, .slice none 0 0], obj a6 47 [Iv 0, Iv 0, Iv 0, Iv 0, Iv 0, .slice none 0 0], W0 ad q a0 a1 a2, ao (aj q ar ak t) ai t az, W1 an ad a3 w a5 d e g n p a u a4 af al x, F], [obj γ 47 [Iv d, Iv e, Iv g, Iv n, Iv p, .slice none 0 0], obj a6 47 [Iv 0, Iv 0, Iv 0, Iv 0, Iv 0, .slice none 0 0], W0 ad q a0 a1 a2, ao (aj q ar ak t) ai t az, W1 an ad a3 w a5 d e g n p a u a4 af al x, F]].getD j []) (fun γ => [(0, .pointer (some ⟨an, 4, none⟩)), (2, Pt a6), (3, Pt γ)]) mixed (by decide) (by decide) (by decide) (by decide) (by decide) (by decide) (by decide) 43 O (by decide) (by decide) (by decide) (Ent.refl _) ?_ ?_ (fun _ => ⟨O, O, O, trivial⟩) ?_
 exact (ac (fun γ => (ac (qm O (.o (s := 0) O (by decide) .nil) O) (ac (qm O (.o (s := 0) O (by decide) .nil) O) zA))) (ac (fun γ => (ac (qp O O (.v 0 O O .nil) (aW O O) O) (ac (qp O O (.v 0 O O .nil) (aW O O) O) zA))) (ac (fun γ => (ac (qp O O (.v 1 O O .nil) (ap O O underlying89 O O sizeOf43 O) O) (ac (qp O O (.v 1 O O .nil) (ap O O underlying89 O O sizeOf43 O) O) zA))) (ac (fun γ => (ac (qp O O (.v 2 O O .nil) (cu (vs := [Iv d, Iv e, Iv g]) O O isAgg43 sizeOf43 O (du 3 O (cR O))) O) (ac (qp O O (.v 2 O O .nil) (cu (vs := [Iv d, Iv e, Iv g]) O O isAgg43 sizeOf43 O (du 4 O (cR O))) O) zA))) (ac (fun γ => (ac (qm O (.o (s := 0) O (by decide) .nil) O) (ac (qm O (.o (s := 0) O (by decide) .nil) O) zA))) (ac (fun γ => (ac (qp O O (.v 4 O O .nil) (aW O O) O) (ac (qp O O (.v 4 O O .nil) (aW O O) O) zA))) (ac (fun γ => (ac (qp O O (.v 5 O O .nil) (ap O O underlying89 O O sizeOf3 O) O) (ac (qp O O (.v 5 O O .nil) (ap O O underlying89 O O sizeOf3 O) O) zA))) (ac (fun γ => (ac (qp O O (.v 6 O O .nil) (ag O O isAgg3 (.obj 3 O O)) O) (ac (qp O O (.v 6 O O .nil) (ag O O isAgg3 (.obj 4 O O)) O) zA))) (ac (fun γ => (ac (qm O (.o (s := 0) O (by decide) .nil) O) (ac (qm O (.o (s := 0) O (by decide) .nil) O) zA))) (ac (fun γ => (ac (qp O O (.v 8 O O .nil) (aW O O) O) (ac (qp O O (.v 8 O O .nil) (aW O O) O) zA))) (ac (fun γ => (ac (qp O O (.v 9 O O .nil) (ap O O underlying89 O O sizeOf3 O) O) (ac (qp O O (.v 9 O O .nil) (ap O O underlying89 O O sizeOf3 O) O) zA))) (ac (fun γ => (ac (qp O O (.v 10 O O .nil) (ag O O isAgg3 (.obj 3 O O)) O) (ac (qp O O (.v 10 O O .nil) (ag O O isAgg3 (.obj 4 O O)) O) zA))) (ac (fun γ => (ac (qp O O (.v 3 O O (.v 7 O O (.v 11 O O .nil))) (di (v := .agg #[Iv d, Iv e, Iv g, Iv n, Iv p, .slice none 0 0]) O O (fun _ => by kernel_rfl)) O) (ac (qp O O (.v 3 O O (.v 7 O O (.v 11 O O .nil))) (di (v := .agg #[Iv d, Iv e, Iv g, Iv n, Iv p, .slice none 0 0]) O O (fun _ => by kernel_rfl)) O) zA))) zA)))))))))))))
 exact (ac (fun γ => eo (Z := Nat) (fun z => z) O O .nil (bT O zeroValue47 O) (fun _ => ⟨O, O, O, O, O, O, O, O, O, O, O, O, O, trivial⟩) (fun _ => .inr O) (fun z => Ent.refl _)) (ac (fun γ => eo (Z := Unit) (fun z => γ) O O (.v 13 O O (.v 12 O O .nil)) (aJ 0 O O O sizeOf47 O O (aP (by rfl)) O O) (fun _ => ⟨O, O, O, O, O, O, O, O, O, O, O, O, O, O, trivial⟩) (fun _ => .inl O) (fun z => Ent.refl _)) zA))
 intro bc
 refine aa ?_
 refine bJ (S := (List bm)) (HA × Option Addr × Nat) (fun s y => [(2, Pt a6), (3, Pt bc)]) (fun s y => [W15 bc d e g n p s y.2.1 y.2.2, obj a6 47 [Iv 0, Iv 0, Iv 0, Iv 0, Iv 0, .slice none 0 0], W0 ad q a0 a1 a2, W1 an ad a3 w a5 d e g n p a u a4 af al x, am 35 4 (V35 y.1) y.2.1 s y.2.2, ao (aj q ar ak t) ai t az, y.1, F]) ?_ ?_
 refine sr (vm O O (vn O O (vq (ap O O underlying89 O O sizeOf87 O) O (vq (ag O O isAgg87 (.obj 4 O O)) O (vq (bx O O O underlying87) O (vm O O (ae (aa (aR ?_)))))))))
 refine ck (S := Int × (List bm)) (HA × Option Addr × Nat) (fun k s => cU.l0 a k s.1 s.2) (fun s y => [(2, Pt a6), (3, Pt bc), (23, .slice al a.length x), (24, Iv (a.length : Int)), (25, Iv s.1)]) (fun s y => [W15 bc d e g n p s.2 y.2.1 y.2.2, obj a6 47 [Iv 0, Iv 0, Iv 0, Iv 0, Iv 0, .slice none 0 0], W0 ad q a0 a1 a2, W1 an ad a3 w a5 d e g n p a u a4 af al x, am 35 4 (V35 y.1) y.2.1 s.2 y.2.2, ao (aj q ar ak t) ai t az, y.1, F]) (fun _ => by rw [cU.l0]) ?_ k (0, ([] : List bm)) (tt, none, 0) ⟨O, O, O, O, O, trivial⟩ (.s O (.s O (.s O (.sel 1 O (.rowV_nil (.s O (.tt_in (.s O .n))))))))
 intro k b ab
 refine cS (by rw [cU.l0]) (sr (vq (cL O O O) O (ae (aa (ay ?_)))))
 refine bn O (fun dl => ?_) (fun ds => ?_)
 refine aC (aa (ay (aR (sr (bg (fun b0 => ?_))))))
 obtain ⟨dz, c8, d1, b4, b5, c6, hcell19v⟩ := RdV.pos b3 (Up.refl _) rfl (i := b.1.toNat) (by omega) au
 obtain ⟨a8, a9, rfl, ⟨b6, b7, b8⟩⟩ := b5
 refine vq (cO O O O b4 underlying87 sizeOf144 b0.1 b0.2) O (vq (cu O O isAgg144 sizeOf144 O (fun j v hj => hcell19v 7 O j v hj)) O (ah (bT O zeroValue144 O) O O O ?_))
 intro be
 refine aY (aJ 0 O O O sizeOf144 O O (aP (by rfl)) O O) O O ?_
 intro _
 refine nx (vq (ap O O underlying144 O O sizeOf35 O) O (vq (cu (vs := [Iv ((a.getD b.1.toNat au).1), Iv ((a.getD b.1.toNat au).2.1), Iv ((a.getD b.1.toNat au).2.2.1), .slice a8 (((a.getD b.1.toNat au).2.2.2.1).length) a9]) O O isAgg35 sizeOf35 O (du 0 O (cR O))) O (ah (bT O zeroValue35 O) O O O ?_)))
 intro br
 refine aY (aJ 0 O O O sizeOf35 O O (aP (by rfl)) O O) O O ?_
 intro _
 refine nx (vq (ap O O underlying35 O O sizeOf33 O) O (vq (ag O O isAgg33 (.obj 0 O O)) O (ax (fun h b9 => (ah (av (vs := [.slice a8 (((a.getD b.1.toNat au).2.2.2.1).length) a9]) (cap := []) (A := []) (rst := [W12 br (a.getD b.1.toNat au) a8 a9, W16 be (a.getD b.1.toNat au) a8 a9, W15 bc d e g n p b.2 ab.2.1 ab.2.2, obj a6 47 [Iv 0, Iv 0, Iv 0, Iv 0, Iv 0, .slice none 0 0], W0 ad q a0 a1 a2, W1 an ad a3 w a5 d e g n p a u a4 af al x, am 35 4 (V35 ab.1) ab.2.1 b.2 ab.2.2, ao (aj q ar ak t) ai t az, ab.1, F]) O O O O O O call82 (.s O (.s O (.s O (.s O (.s O (.s O (.s O (.s O (.s O (.s O .n)))))))))) (cr.calls _ _ a8 a9 ((a.getD b.1.toNat au).2.2.2.1) (b6.lend 9 O) b7 b8) b9) O O O ?_)))))
 intro c
 refine vq (ap O O underlying35 O O sizeOf33 O) O (aY (aJ 1 O O O sizeOf33 O O (aP (by rfl)) O O) O O ?_)
 intro _
 refine ny (vq (ap O O underlying47 O O sizeOf32 O) O (vq (ag O O isAgg32 (.obj 3 O O)) O (vq (co 1 O O isAgg35 sizeOf35 O O) O (ba 0 O (fun cd ch cs c9 => ?_)))))
 have bs : bP 4 (V35 (Row 5 1 c.1 h.length c.2 (aB h))) ([((a.getD b.1.toNat au).1, (a.getD b.1.toNat au).2.1, (a.getD b.1.toNat au).2.2.1, h)] : List bm) [[Iv ((a.getD b.1.toNat au).1), Iv ((a.getD b.1.toNat au).2.1), Iv ((a.getD b.1.toNat au).2.2.1), .slice c.1 h.length c.2]] := ⟨⟨rfl, aP (by rfl), ⟨c.1, c.2, rfl, ⟨cd, ch, cs⟩⟩⟩, trivial⟩
 refine ah (gb (V := (V35 (Row 5 1 c.1 h.length c.2 (aB h)))) (xs := ([((a.getD b.1.toNat au).1, (a.getD b.1.toNat au).2.1, (a.getD b.1.toNat au).2.2.1, h)] : List bm)) [[Iv ((a.getD b.1.toNat au).1), Iv ((a.getD b.1.toNat au).2.1), Iv ((a.getD b.1.toNat au).2.2.1), .slice c.1 h.length c.2]] O O underlying32 na O (by kernel_rfl) O bs O O) O O O ?_
 intro bt
 refine bf 8 O (fun b1 c0 => (bX (H' := [aS [Row 5 1 c.1 h.length c.2 (aB h), ab.1], Row 35 4 (some ⟨bt, 0, none⟩) ([((a.getD b.1.toNat au).1, (a.getD b.1.toNat au).2.1, (a.getD b.1.toNat au).2.2.1, h)] : List bm).length 1 [[Iv ((a.getD b.1.toNat au).1), Iv ((a.getD b.1.toNat au).2.1), Iv ((a.getD b.1.toNat au).2.2.1), .slice c.1 h.length c.2]].flatten, W10 br ((a.getD b.1.toNat au).1) ((a.getD b.1.toNat au).2.1) ((a.getD b.1.toNat au).2.2.1) h c.1 c.2, W16 be (a.getD b.1.toNat au) a8 a9, W15 bc d e g n p b.2 ab.2.1 ab.2.2, obj a6 47 [Iv 0, Iv 0, Iv 0, Iv 0, Iv 0, .slice none 0 0], W0 ad q a0 a1 a2, W1 an ad a3 w a5 d e g n p a u a4 af al x, Row 35 4 ab.2.1 b.2.length ab.2.2 b1.flatten, ao (aj q ar ak t) ai t az, F]) (Ent.trans (m := [Row 5 1 c.1 h.length c.2 (aB h), ab.1, Row 35 4 (some ⟨bt, 0, none⟩) ([((a.getD b.1.toNat au).1, (a.getD b.1.toNat au).2.1, (a.getD b.1.toNat au).2.2.1, h)] : List bm).length 1 [[Iv ((a.getD b.1.toNat au).1), Iv ((a.getD b.1.toNat au).2.1), Iv ((a.getD b.1.toNat au).2.2.1), .slice c.1 h.length c.2]].flatten, W10 br ((a.getD b.1.toNat au).1) ((a.getD b.1.toNat au).2.1) ((a.getD b.1.toNat au).2.2.1) h c.1 c.2, W16 be (a.getD b.1.toNat au) a8 a9, W15 bc d e g n p b.2 ab.2.1 ab.2.2, obj a6 47 [Iv 0, Iv 0, Iv 0, Iv 0, Iv 0, .slice none 0 0], W0 ad q a0 a1 a2, W1 an ad a3 w a5 d e g n p a u a4 af al x, Row 35 4 ab.2.1 b.2.length ab.2.2 b1.flatten, ao (aj q ar ak t) ai t az, F]) (.sel 1 O (.sel 9 O (.s O (.s O (.s O (.s O (.s O (.s O (.s O (.s O (.s O (.s O .n)))))))))))) (gf [Row 5 1 c.1 h.length c.2 (aB h), ab.1] _)) (bg (fun c1 => (ah (fg 8 O O O underlying32 na O (c0.mono (V35.up (Up.lend (l := [Row 5 1 c.1 h.length c.2 (aB h), ab.1]) 1 O))) (gX.row (bs.mono (V35.up (Up.lend (l := [Row 5 1 c.1 h.length c.2 (aB h), ab.1]) 0 O))) 1 O) c1) O O O ?_)))))
 intro bd
 refine vq (ap O O underlying47 O O sizeOf32 O) O (aY (aJ 4 O O O sizeOf32 O O (aP (by rfl)) O O) O O ?_)
 intro _
 refine bX (H' := [aS [Row 5 1 c.1 h.length c.2 (aB h), ab.1], Row 35 4 (some ⟨bt, 0, none⟩) ([((a.getD b.1.toNat au).1, (a.getD b.1.toNat au).2.1, (a.getD b.1.toNat au).2.2.1, h)] : List bm).length 1 [[Iv ((a.getD b.1.toNat au).1), Iv ((a.getD b.1.toNat au).2.1), Iv ((a.getD b.1.toNat au).2.2.1), .slice c.1 h.length c.2]].flatten, W10 br ((a.getD b.1.toNat au).1) ((a.getD b.1.toNat au).2.1) ((a.getD b.1.toNat au).2.2.1) h c.1 c.2, W16 be (a.getD b.1.toNat au) a8 a9, W15 bc d e g n p (b.2 ++ ([((a.getD b.1.toNat au).1, (a.getD b.1.toNat au).2.1, (a.getD b.1.toNat au).2.2.1, h)] : List bm)) bd.1 bd.2, obj a6 47 [Iv 0, Iv 0, Iv 0, Iv 0, Iv 0, .slice none 0 0], W0 ad q a0 a1 a2, W1 an ad a3 w a5 d e g n p a u a4 af al x, am 35 4 (V35 (aS [Row 5 1 c.1 h.length c.2 (aB h), ab.1])) bd.1 (b.2 ++ ([((a.getD b.1.toNat au).1, (a.getD b.1.toNat au).2.1, (a.getD b.1.toNat au).2.2.1, h)] : List bm)) bd.2, ao (aj q ar ak t) ai t az, F]) (Ent.refl _) (ae (bo (aa (aI (vq (bY O O O) O (vm O O (ae ?_)))))))
 exact bM (s := (IntKind.i64.wrap (b.1 + 1), b.2 ++ ([((a.getD b.1.toNat au).1, (a.getD b.1.toNat au).2.1, (a.getD b.1.toNat au).2.2.1, h)] : List bm))) (aS [Row 5 1 c.1 h.length c.2 (aB h), ab.1], bd) ⟨O, O, O, O, O, trivial⟩ (.sel 4 O (.sel 4 O (.sel 4 O (.sel 4 O (.sel 4 O (.sel 4 O (.s O (.sel 3 O .n))))))))
 refine cA (ce (cl (cf ?_)))
 exact aG (s := b.2) ab ⟨O, O, trivial⟩ (.s O (.s O (.s O (.s O (.s O (.s O (.s O (.s O .n))))))))
 intro b2 a7
 refine sr (vq (co 0 O O isAgg47 sizeOf47 O O) O (aY (aJ 1 O O O sizeOf47 O O (aP (by rfl)) O O) O O ?_))
 intro _
 refine bX (H' := [W15 bc d e g n p b2 a7.2.1 a7.2.2, W15 a6 d e g n p b2 a7.2.1 a7.2.2, W0 ad q a0 a1 a2, W1 an ad a3 w a5 d e g n p a u a4 af al x, am 35 4 (V35 a7.1) a7.2.1 b2 a7.2.2, ao (aj q ar ak t) ai t az, a7.1, F]) (Ent.refl _) (ae (aa (aA ?_)))
 exact iU (vs := [.agg #[Iv d, Iv e, Iv g, Iv n, Iv p, .slice a7.2.1 b2.length a7.2.2]]) (a7.2.1, a7.2.2, a7.1) O ⟨⟨a6, O, ir 1 isAgg47 sizeOf47 O O⟩, trivial⟩ O (.sel 4 O (.sel 5 O (.sel 2 O (.sel 3 O (.sel 2 O (.sel 2 O .n))))))

def eh.f (k : Nat) (c : List ((List UInt8) × (List UInt8 × Int))) (d : List UInt8) (e : Int) (g : Bool) (h : Int) (i : List Int) (j : Int) (l : Int) (m : Int) (n : Int) (o : Int) (p : Int) (q : List (aF)) (b : Bool) : Option (Int × Int × Int × Int × Int × (List (bm))) := (cU.f k c d e g h i j l m n o p q b).bind fun a => (some (a.1, a.2.1, a.2.2.1, a.2.2.2.1, a.2.2.2.2.1, a.2.2.2.2.2))
theorem eh.calls (W : World) (F : HA) (k : Nat) (af : Nat) (ad : Nat) (a : Nat) (b : Kps) (m : List (Lb × (Lb × Int))) (n : Lb) (o : Int) (p : Bool) (q : Int) (s : Option Addr) (i : Nat) (c : List Int) (t : Int) (u : Int) (v : Int) (w : Int) (x : Int) (z : Int) (ab : Option Addr) (j : Nat) (d : List aF) (e : Bool) (a2 : RdV F 1 (V3 tt) s c) (al : c.length ≤ i) (an : i ≤ maxLen) (a3 : RdV F 5 (aQ F) ab d) (az : d.length ≤ j) (a0 : j ≤ maxLen) :
    Fn Tryz.prog W 18 [Pt af] [W0 ad a n o p, ao (aj a ar ak b) ai b m, W1 af ad q c t u v w x z d e s i ab j] F (eh.f k m n o p q c t u v w x z d e) (fun (r : Int × Int × Int × Int × Int × (List bm)) (y : Option Addr × Nat × HA) => .agg #[Iv r.1, Iv r.2.1, Iv r.2.2.1, Iv r.2.2.2.1, Iv r.q4.1, .slice y.1 r.q4.2.length y.2.1]) (fun r y => [am 35 4 (V35 y.2.2) y.1 r.q4.2 y.2.1, y.2.2, W0 ad a n o p, ao (aj a ar ak b) ai b m, W1 af ad q c t u v w x z d e s i ab j]) := by
 unfold eh.f
 refine aO 7 Tryz.func18 O Tryz.ntmps18 O (sr (ah (bT O zeroValue47 O) O O O ?_))
 intro a1
 refine nx (vm O O (vn O O (vq (ap O O underlying91 O O sizeOf89 O) O (ax (fun g a4 => (ah (av (vs := [.pointer (some ⟨af, 4, none⟩)]) (cap := []) (A := [W0 ad a n o p, ao (aj a ar ak b) ai b m, W1 af ad q c t u v w x z d e s i ab j]) (rst := [obj a1 47 [Iv 0, Iv 0, Iv 0, Iv 0, Iv 0, .slice none 0 0], F]) O O O O O O call54 (.sel 1 O (.sel 1 O (.sel 1 O (.s O (.s O .n))))) (cU.calls _ _ k af ad a b m n o p q s i c t u v w x z ab j d e (a2.up (Up.lend 1 O) (fun _ _ h => h)) al an (a3.up (Up.lend 1 O) (aQ.up (Up.lend 1 O))) az a0) a4) O O O ?_))))))
 intro l
 refine aY (aJ 5 O O O sizeOf47 O O (aP (by rfl)) O O) O O ?_
 intro _
 refine bX (H' := [am 35 4 (V35 l.2.2) l.1 g.q4.2 l.2.1, l.2.2, W0 ad a n o p, ao (aj a ar ak b) ai b m, W1 af ad q c t u v w x z d e s i ab j, W17 a1 g l.1 l.2.1, F]) (Ent.refl _) (ae (aa (aA ?_)))
 exact iU (vs := [.agg #[Iv g.1, Iv g.2.1, Iv g.2.2.1, Iv g.2.2.2.1, Iv g.q4.1, .slice l.1 g.q4.2.length l.2.1]]) l O ⟨⟨a1, O, ir 5 isAgg47 sizeOf47 O O⟩, trivial⟩ O (.s O (.s O (.s O (.s O (.s O (.sel 1 O .n))))))

def aV.l3 : Nat → Option (Unit)
  | 0 => none
  | k + 1 => some ()
def aV.l2 (c : Int × Int × List Int × Int × Int × Int × Int × Int × Int × (List (aF)) × Bool × (List ((List UInt8) × (List UInt8 × Int))) × List UInt8 × Int × Bool) (b : Int × Int × Int × Int × Int × (List (bm))) : Nat → Int → Option (Int)
  | 0, _ => none
  | k + 1, a => (if a < (b.2.2.2.2.2.length : Int) then (if 0 ≤ a ∧ a < (b.2.2.2.2.2.length : Int) then (some (decide ((b.2.2.2.2.2.getD a.toNat bl).2.1 ≤ c.1))) else none) else (some false)).bind fun d => (if d = true then (aV.l2 c b k (IntKind.i64.wrap (a + 1))) else (some a))
def aV.l1 (c : Int × Int × List Int × Int × Int × Int × Int × Int × Int × (List (aF)) × Bool × (List ((List UInt8) × (List UInt8 × Int))) × List UInt8 × Int × Bool) (b : Int × Int × Int × Int × Int × (List (bm))) : Nat → Int → Option (Int)
  | 0, _ => none
  | k + 1, a => (if a < (b.2.2.2.2.2.length : Int) then (if 0 ≤ a ∧ a < (b.2.2.2.2.2.length : Int) then (some (decide ((b.2.2.2.2.2.getD a.toNat bl).2.1 ≤ c.1))) else none) else (some false)).bind fun d => (if d = true then (aV.l1 c b k (IntKind.i64.wrap (a + 1))) else (some a))
def aV.l0 (x1 : List (Int × Int × Bool × Int × Int × Int × Int × Int × (List (bm)))) : Nat → Int → Int → Int → List Int → Int → Int → Int → Int → Int → Int → List (aF) → Bool → List ((List UInt8) × (List UInt8 × Int)) → List UInt8 → Int → Bool → Option (Int × Int × List Int × Int × Int × Int × Int × Int × Int × (List (aF)) × Bool × (List ((List UInt8) × (List UInt8 × Int))) × List UInt8 × Int × Bool)
  | 0, _, _, _, _, _, _, _, _, _, _, _, _, _, _, _, _ => none
  | k + 1, d, b, e, g, h, i, j, l, m, n, o, p, q, r, s, t => if ((decide (b < (x1.length : Int))) && true) = true then (if 0 ≤ b ∧ b < (x1.length : Int) then (if (x1.getD b.toNat ((0 : Int), (0 : Int), false, (0 : Int), (0 : Int), (0 : Int), (0 : Int), (0 : Int), ([] : List (bm)))).1 = (0 : Int) then (if 0 ≤ b ∧ b < (x1.length : Int) then ((dE.f k q r s t e g h i j l m n o p ((x1.getD b.toNat ((0 : Int), (0 : Int), false, (0 : Int), (0 : Int), (0 : Int), (0 : Int), (0 : Int), ([] : List (bm)))).2.2.1) ((x1.getD b.toNat ((0 : Int), (0 : Int), false, (0 : Int), (0 : Int), (0 : Int), (0 : Int), (0 : Int), ([] : List (bm)))).2.2.2.1) ((x1.getD b.toNat ((0 : Int), (0 : Int), false, (0 : Int), (0 : Int), (0 : Int), (0 : Int), (0 : Int), ([] : List (bm)))).2.2.2.2.1) ((x1.getD b.toNat ((0 : Int), (0 : Int), false, (0 : Int), (0 : Int), (0 : Int), (0 : Int), (0 : Int), ([] : List (bm)))).2.2.2.2.2.1) ((x1.getD b.toNat ((0 : Int), (0 : Int), false, (0 : Int), (0 : Int), (0 : Int), (0 : Int), (0 : Int), ([] : List (bm)))).2.2.2.2.2.2.1) ((x1.getD b.toNat ((0 : Int), (0 : Int), false, (0 : Int), (0 : Int), (0 : Int), (0 : Int), (0 : Int), ([] : List (bm)))).2.2.2.2.2.2.2.1) ((x1.getD b.toNat ((0 : Int), (0 : Int), false, (0 : Int), (0 : Int), (0 : Int), (0 : Int), (0 : Int), ([] : List (bm)))).2.2.2.2.2.2.2.2)).bind fun c => (aV.l0 x1 k d (IntKind.i64.wrap (b + 1)) c.2.2.2.2.2.1 c.2.2.2.2.2.2.1 c.2.2.2.2.2.2.2.1 c.2.2.2.2.2.2.2.2.1 c.2.2.2.2.2.2.2.2.2.1 c.2.2.2.2.2.2.2.2.2.2.1 c.2.2.2.2.2.2.2.2.2.2.2.1 c.2.2.2.2.2.2.2.2.2.2.2.2.1 c.2.2.2.2.2.2.2.2.2.2.2.2.2.1 c.2.2.2.2.2.2.2.2.2.2.2.2.2.2 c.2.1 c.2.2.1 c.2.2.2.1 c.2.2.2.2.1)) else none) else (if (x1.getD b.toNat ((0 : Int), (0 : Int), false, (0 : Int), (0 : Int), (0 : Int), (0 : Int), (0 : Int), ([] : List (bm)))).1 = (1 : Int) then ((dY.f k q r s t e g h i j l m n o p).bind fun u => (aV.l0 x1 k d (IntKind.i64.wrap (b + 1)) e g h i j l m n o p u.2.1 u.2.2.1 u.2.2.2.1 u.2.2.2.2)) else (if (x1.getD b.toNat ((0 : Int), (0 : Int), false, (0 : Int), (0 : Int), (0 : Int), (0 : Int), (0 : Int), ([] : List (bm)))).1 = (2 : Int) then (if 0 ≤ b ∧ b < (x1.length : Int) then ((eY.f k q r s t e g h i j l m n o p ((x1.getD b.toNat ((0 : Int), (0 : Int), false, (0 : Int), (0 : Int), (0 : Int), (0 : Int), (0 : Int), ([] : List (bm)))).2.1)).bind fun a => ((cN.f a.2.1).bind fun v => (if v = (0 : Int) then (if 0 ≤ b ∧ b < (x1.length : Int) then (aV.l0 x1 k (max d ((x1.getD b.toNat ((0 : Int), (0 : Int), false, (0 : Int), (0 : Int), (0 : Int), (0 : Int), (0 : Int), ([] : List (bm)))).2.1)) (IntKind.i64.wrap (b + 1)) a.2.2.2.2.2.2.1 a.2.2.2.2.2.2.2.1 a.2.2.2.2.2.2.2.2.1 a.2.2.2.2.2.2.2.2.2.1 a.2.2.2.2.2.2.2.2.2.2.1 a.2.2.2.2.2.2.2.2.2.2.2.1 a.2.2.2.2.2.2.2.2.2.2.2.2.1 a.2.2.2.2.2.2.2.2.2.2.2.2.2.1 a.2.2.2.2.2.2.2.2.2.2.2.2.2.2.1 a.2.2.2.2.2.2.2.2.2.2.2.2.2.2.2 a.2.2.1 a.2.2.2.1 a.2.2.2.2.1 a.2.2.2.2.2.1) else none) else (aV.l0 x1 k d (IntKind.i64.wrap (b + 1)) a.2.2.2.2.2.2.1 a.2.2.2.2.2.2.2.1 a.2.2.2.2.2.2.2.2.1 a.2.2.2.2.2.2.2.2.2.1 a.2.2.2.2.2.2.2.2.2.2.1 a.2.2.2.2.2.2.2.2.2.2.2.1 a.2.2.2.2.2.2.2.2.2.2.2.2.1 a.2.2.2.2.2.2.2.2.2.2.2.2.2.1 a.2.2.2.2.2.2.2.2.2.2.2.2.2.2.1 a.2.2.2.2.2.2.2.2.2.2.2.2.2.2.2 a.2.2.1 a.2.2.2.1 a.2.2.2.2.1 a.2.2.2.2.2.1)))) else none) else (aV.l0 x1 k d (IntKind.i64.wrap (b + 1)) e g h i j l m n o p q r s t)))) else none) else (some (d, e, g, h, i, j, l, m, n, o, p, q, r, s, t))
def aV.f (k : Nat) (x0 : Int) (x1 : List (Int × Int × Bool × Int × Int × Int × Int × Int × (List (bm)))) : Option (Bool) := (fu.f k).bind fun v => ((bE.f k x1).bind fun w => (if ((((!v) || (!w)) || (decide (x0 < (64 : Int)))) || (decide ((1048576 : Int) < x0))) = true then (some v) else ((iH.f).bind fun l => ((bD.f k l.1 l.2.1 l.2.2.1 l.2.2.2 x0).bind fun c => (if c.1 = true then ((aV.l0 x1 k 0 0 c.2.1 c.2.2.1 c.2.2.2.1 c.2.2.2.2.1 c.2.2.2.2.2.1 c.2.2.2.2.2.2.1 c.2.2.2.2.2.2.2.1 c.2.2.2.2.2.2.2.2.1 c.2.2.2.2.2.2.2.2.2.1 c.2.2.2.2.2.2.2.2.2.2.1 c.2.2.2.2.2.2.2.2.2.2.2.2.2.1 c.2.2.2.2.2.2.2.2.2.2.2.2.2.2.1 c.2.2.2.2.2.2.2.2.2.2.2.2.2.2.2.1 c.2.2.2.2.2.2.2.2.2.2.2.2.2.2.2.2).bind fun b => ((dY.f k b.2.2.2.2.2.2.2.2.2.2.2.1 b.2.2.2.2.2.2.2.2.2.2.2.2.1 b.2.2.2.2.2.2.2.2.2.2.2.2.2.1 b.2.2.2.2.2.2.2.2.2.2.2.2.2.2 b.2.1 b.2.2.1 b.2.2.2.1 b.2.2.2.2.1 b.2.2.2.2.2.1 b.2.2.2.2.2.2.1 b.2.2.2.2.2.2.2.1 b.2.2.2.2.2.2.2.2.1 b.2.2.2.2.2.2.2.2.2.1 b.2.2.2.2.2.2.2.2.2.2.1).bind fun g => ((cN.f g.1).bind fun n => (if n = (0 : Int) then ((bD.f k g.2.1 g.2.2.1 g.2.2.2.1 g.2.2.2.2 x0).bind fun a => (if a.1 = true then ((if a.2.2.2.2.2.2.2.2.2.2.2.1 = true then (some true) else ((cN.f a.2.2.2.2.2.2.2.2.2.2.2.2.1).bind fun o => (some (!decide (o = (0 : Int)))))).bind fun p => (if p = true then (some false) else ((eh.f k a.2.2.2.2.2.2.2.2.2.2.2.2.2.1 a.2.2.2.2.2.2.2.2.2.2.2.2.2.2.1 a.2.2.2.2.2.2.2.2.2.2.2.2.2.2.2.1 a.2.2.2.2.2.2.2.2.2.2.2.2.2.2.2.2 b.2.1 b.2.2.1 b.2.2.2.1 b.2.2.2.2.1 b.2.2.2.2.2.1 b.2.2.2.2.2.2.1 b.2.2.2.2.2.2.2.1 b.2.2.2.2.2.2.2.2.1 b.2.2.2.2.2.2.2.2.2.1 b.2.2.2.2.2.2.2.2.2.2.1).bind fun d => ((eh.f k a.2.2.2.2.2.2.2.2.2.2.2.2.2.1 a.2.2.2.2.2.2.2.2.2.2.2.2.2.2.1 a.2.2.2.2.2.2.2.2.2.2.2.2.2.2.2.1 a.2.2.2.2.2.2.2.2.2.2.2.2.2.2.2.2 a.2.1 a.2.2.1 a.2.2.2.1 a.2.2.2.2.1 a.2.2.2.2.2.1 a.2.2.2.2.2.2.1 a.2.2.2.2.2.2.2.1 a.2.2.2.2.2.2.2.2.1 a.2.2.2.2.2.2.2.2.2.1 a.2.2.2.2.2.2.2.2.2.2.1).bind fun e => ((dA.f a.2.2.2.2.2.2.2.2.2.2.2.2.2.1 a.2.2.2.2.2.2.2.2.2.2.2.2.2.2.1 a.2.2.2.2.2.2.2.2.2.2.2.2.2.2.2.1 a.2.2.2.2.2.2.2.2.2.2.2.2.2.2.2.2 b.2.1 b.2.2.1 b.2.2.2.1 b.2.2.2.2.1 b.2.2.2.2.2.1 b.2.2.2.2.2.2.1 b.2.2.2.2.2.2.2.1 b.2.2.2.2.2.2.2.2.1 b.2.2.2.2.2.2.2.2.2.1 b.2.2.2.2.2.2.2.2.2.2.1).bind fun h => ((dA.f a.2.2.2.2.2.2.2.2.2.2.2.2.2.1 a.2.2.2.2.2.2.2.2.2.2.2.2.2.2.1 a.2.2.2.2.2.2.2.2.2.2.2.2.2.2.2.1 a.2.2.2.2.2.2.2.2.2.2.2.2.2.2.2.2 a.2.1 a.2.2.1 a.2.2.2.1 a.2.2.2.2.1 a.2.2.2.2.2.1 a.2.2.2.2.2.2.1 a.2.2.2.2.2.2.2.1 a.2.2.2.2.2.2.2.2.1 a.2.2.2.2.2.2.2.2.2.1 a.2.2.2.2.2.2.2.2.2.2.1).bind fun m => ((bC.f k a.2.2.2.2.2.2.2.2.2.2.2.2.2.1 a.2.2.2.2.2.2.2.2.2.2.2.2.2.2.1 a.2.2.2.2.2.2.2.2.2.2.2.2.2.2.2.1 a.2.2.2.2.2.2.2.2.2.2.2.2.2.2.2.2 b.2.1 b.2.2.1 b.2.2.2.1 b.2.2.2.2.1 b.2.2.2.2.2.1 b.2.2.2.2.2.2.1 b.2.2.2.2.2.2.2.1 b.2.2.2.2.2.2.2.2.1 b.2.2.2.2.2.2.2.2.2.1 b.2.2.2.2.2.2.2.2.2.2.1).bind fun q => ((bC.f k a.2.2.2.2.2.2.2.2.2.2.2.2.2.1 a.2.2.2.2.2.2.2.2.2.2.2.2.2.2.1 a.2.2.2.2.2.2.2.2.2.2.2.2.2.2.2.1 a.2.2.2.2.2.2.2.2.2.2.2.2.2.2.2.2 a.2.1 a.2.2.1 a.2.2.2.1 a.2.2.2.2.1 a.2.2.2.2.2.1 a.2.2.2.2.2.2.1 a.2.2.2.2.2.2.2.1 a.2.2.2.2.2.2.2.2.1 a.2.2.2.2.2.2.2.2.2.1 a.2.2.2.2.2.2.2.2.2.2.1).bind fun r => ((cn.f k q r).bind fun s => ((if (((!decide (h.1 = m.1)) || (!(decide (d.1 = e.1) && (decide (d.2.1 = e.2.1) && (decide (d.2.2.1 = e.2.2.1)))))) || (!s)) = true then (some true) else (some ((decide (b.1 < h.1)) && (!decide (h.2 = m.2))))).bind fun t => (if t = true then (some false) else ((aV.l1 b d k 0).bind fun i => ((aV.l2 b e k 0).bind fun j => (if 0 ≤ i ∧ i ≤ (d.2.2.2.2.2.length : Int) ∧ (d.2.2.2.2.2.length : Int) ≤ (d.2.2.2.2.2.length : Int) then (if 0 ≤ j ∧ j ≤ (e.2.2.2.2.2.length : Int) ∧ (e.2.2.2.2.2.length : Int) ≤ (e.2.2.2.2.2.length : Int) then ((bZ.f k (cut d.2.2.2.2.2 i (d.2.2.2.2.2.length : Int)) (cut e.2.2.2.2.2 j (e.2.2.2.2.2.length : Int))).bind fun u => (some u)) else none) else none)))))))))))))) else (some false))) else (some false))))) else ((aV.l3 k).bind fun x => (some false)))))))
theorem aV.calls (W : World) (F : HA) (k : Nat) (x0 : Int) (a1 : Option Addr) (c1 : Nat) (x1 : List (Int × Int × Bool × Int × Int × Int × Int × Int × (List bm))) (h1 : RdV F 9 (V56 F) a1 x1) (mu : x1.length ≤ c1) (my : c1 ≤ maxLen) (hgl : Glb Tryz.prog F) :
    Fn Tryz.prog W 6 [Iv x0, .slice a1 x1.length c1] [] F (aV.f k x0 x1) (fun (r : Bool) (y : Unit) => .bool r) (fun r y => []) := by
 unfold aV.f
 refine aO 214 Tryz.func6 O Tryz.ntmps6 O (sr (va O O (nx (ax (fun c4 l7 => (ah (av (vs := []) (cap := []) (A := []) (rst := [F]) O O O O O O call9 (.s O .n) (fu.calls _ _ k  (hgl.lend 0 O)) l7) O O O ?_))))))
 intro wh
 refine va O O (nx (vm O O (ax (fun c5 l8 => (ah (av (vs := [.slice a1 x1.length c1]) (cap := []) (A := []) (rst := [F]) O O O O O O call20 (.s O .n) (bE.calls _ _ k a1 c1 x1 (h1.up (Up.lend 0 O) (V56.up (Up.lend 0 O))) mu my) l8) O O O ?_)))))
 intro wr
 refine va O O (ae (aa (ay (sr (vm O O (vq (fK O O) O (vm O O (aw (b := !c4) (fun m0 => RQ.sub (E' := [(6, .bool c5)]) ⟨O, trivial⟩ (bh O O)) O O O O O (aw (b := !c4) (fun es => RQ.sub (E' := [(33, .bool c5)]) ⟨aH O es, trivial⟩ (fK O O)) O O O O O (vq (fI O O O) O (vm O O (aw (b := (!c4) || (!c5)) (fun m1 => RQ.sub (E' := [(0, Iv x0)]) ⟨O, trivial⟩ (bh O O)) O O O O O (aw (b := (!c4) || (!c5)) (fun et => RQ.sub (E' := [(37, Iv x0)]) ⟨aH O et, trivial⟩ (cL O O O)) O O O O O (vq (fI O O O) O (vm O O (aw (b := ((!c4) || (!c5)) || (decide (x0 < (64 : Int)))) (fun m2 => RQ.sub (E' := [(0, Iv x0)]) ⟨O, trivial⟩ (bh O O)) O O O O O (aw (b := ((!c4) || (!c5)) || (decide (x0 < (64 : Int)))) (fun ew => RQ.sub (E' := [(41, Iv x0)]) ⟨aH O ew, trivial⟩ (cW O O O)) O O O O O (vq (fI O O O) O (ae (aa ?_))))))))))))))))))))
 refine aZ O (fun ws => ?_) (fun w0 => ?_)
 refine sr (vm O O (va O O (ae (aa (aA (aN ?_))))))
 exact aE () O O O (.s O .n)
 refine aC (aa (sr (ax (fun bd kd => (ah (av (vs := []) (cap := []) (A := []) (rst := [F]) O O O O O O call16 (.s O .n) (iH.calls _ _  ) kd) O O O ?_)))))
 intro x
 refine va O O (nx (vm O O (vm O O (ax (fun a2 eg => ?_)))))
 refine jJ (fun c6 => ?_) (fun c6 => ?_)
 refine ah (av (vs := [Pt x.1, Iv x0]) (cap := []) (A := [W5 x.1 x.2.1 bd.2, ao (aj x.2.1 ar ak x.2.2) ai x.2.2 bd.1]) (rst := [F]) O O O O O O call15 (.s O (.s O (.s O .n))) (bD.callsT _ _ k x.1 x.2.1 x.2.2 bd.1 bd.2.1 bd.2.2.1 bd.2.2.2 x0 (hgl.lend 0 O)) (kv eg c6)) O O O ?_
 intro af
 refine vm O O (vq (bI O O O) O (vq (bI O O O) O (vq (bI O O O) O (va O O (va O O (va O O (nx (va O O (ae (aa ?_))))))))))
 refine bJ (S := Int × Int × List Int × Int × Int × Int × Int × Int × Int × (List aF) × Bool × (List (Lb × (Lb × Int))) × Lb × Int × Bool) (Option Addr × Nat × HA × Option Addr × Nat × Nat × Kps) (fun s y => [(0, Iv x0), (7, Pt x.1), (8, Pt af.1), (11, Iv s.1)]) (fun s y => [W7 af.1 x.1 s.2 y.1 y.2.1 y.2.2.2.1 y.2.2.2.2.1, W5 x.1 y.2.2.2.2.2.1 s.2.2.2.2.2.2.2.2.2.2.2.2, am 3 1 (V3 tt) y.1 s.2.2.1 y.2.1, am 144 5 (aQ y.2.2.1) y.2.2.2.1 s.2.2.2.2.2.2.2.2.2.1 y.2.2.2.2.1, ao (aj y.2.2.2.2.2.1 ar ak y.2.2.2.2.2.2) ai y.2.2.2.2.2.2 s.2.2.2.2.2.2.2.2.2.2.2.1, y.2.2.1, F]) ?_ ?_
 refine sr (va O O (ae (aa (aR ?_))))
 refine ck (S := Int × Int × Int × List Int × Int × Int × Int × Int × Int × Int × (List aF) × Bool × (List (Lb × (Lb × Int))) × Lb × Int × Bool) (Option Addr × Nat × HA × Option Addr × Nat × Nat × Kps) (fun k s => aV.l0 x1 k s.1 s.2.1 s.2.2.1 s.2.2.2.1 s.2.2.2.2.1 s.2.2.2.2.2.1 s.2.2.2.2.2.2.1 s.2.2.2.2.2.2.2.1 s.2.2.2.2.2.2.2.2.1 s.2.2.2.2.2.2.2.2.2.1 s.2.2.2.2.2.2.2.2.2.2.1 s.2.2.2.2.2.2.2.2.2.2.2.1 s.2.2.2.2.2.2.2.2.2.2.2.2.1 s.2.2.2.2.2.2.2.2.2.2.2.2.2.1 s.2.2.2.2.2.2.2.2.2.2.2.2.2.2.1 s.2.2.2.2.2.2.2.2.2.2.2.2.2.2.2) (fun s y => [(0, Iv x0), (1, .slice a1 x1.length c1), (7, Pt x.1), (8, Pt af.1), (11, Iv s.1), (12, Iv s.2.1)]) (fun s y => [W7 af.1 x.1 s.2.2 y.1 y.2.1 y.2.2.2.1 y.2.2.2.2.1, W5 x.1 y.2.2.2.2.2.1 s.2.2.2.2.2.2.2.2.2.2.2.2.2, am 3 1 (V3 tt) y.1 s.2.2.2.1 y.2.1, am 144 5 (aQ y.2.2.1) y.2.2.2.1 s.2.2.2.2.2.2.2.2.2.2.1 y.2.2.2.2.1, ao (aj y.2.2.2.2.2.1 ar ak y.2.2.2.2.2.2) ai y.2.2.2.2.2.2 s.2.2.2.2.2.2.2.2.2.2.2.2.1, y.2.2.1, F]) (fun _ => by rw [aV.l0]) ?_ k (0, 0, a2.2.1, a2.2.2.1, a2.2.2.2.1, a2.2.2.2.2.1, a2.2.2.2.2.2.1, a2.2.2.2.2.2.2.1, a2.2.2.2.2.2.2.2.1, a2.2.2.2.2.2.2.2.2.1, a2.2.2.2.2.2.2.2.2.2.1, a2.2.2.2.2.2.2.2.2.2.2.1, a2.2.2.2.2.2.2.2.2.2.2.2.2.2) (af.2.1, af.2.2.1, af.2.2.2.2.2.1, af.2.2.2.1, af.2.2.2.2.1, af.2.2.2.2.2.2) ⟨O, O, O, O, O, O, trivial⟩ (.s O (.sel 3 O (.s O (.s O (.sel 1 O (.s O (.s O .n)))))))
 intro k q ab
 refine cS (by rw [aV.l0]) (ay (sr (vm O O (vm O O (vq (bx O O O underlying51) O (vq (cL O O O) O (vm O O (aw (b := decide (q.2.1 < (x1.length : Int))) (fun m3 => RQ.sub (E' := [(8, Pt af.1)]) ⟨O, trivial⟩ (bh O O)) O O O O O (aw (b := decide (q.2.1 < (x1.length : Int))) (fun ex => RQ.sub (E' := [(58, Pt af.1)]) ⟨aH O ex, trivial⟩ (wV O O O underlying36)) O O O O O (vq (dK O O O) O (ae (aa ?_))))))))))))
 refine aZ O (fun t7 => ?_) (fun t8 => ?_)
 refine aC (aa (ay (aR (sr (vm O O (vm O O (bg (fun ei => ?_))))))))
 obtain ⟨t9, p6, us, kl, k0, m4, hcell45v⟩ := RdV.pos h1 (Up.refl _) rfl (i := q.2.1.toNat) (by omega) ((0 : Int), (0 : Int), false, (0 : Int), (0 : Int), (0 : Int), (0 : Int), (0 : Int), ([] : List bm))
 obtain ⟨vh, vl, rfl, ⟨p7, p8, p9⟩⟩ := k0
 refine vq (cO O O O kl underlying51 sizeOf56 ei.1 ei.2) O (vq (ap O O underlying56 O O sizeOf3 O) O (vq (ag O O isAgg3 (hcell45v 6 O 0 _ O)) O (ae (aa (aR (sr (vq (bW O O O) O (va O O (ae (aa ?_))))))))))
 refine bn O (fun v0 => ?_) (fun v1 => ?_)
 refine aI (vm O O (vm O O (vm O O (bg (fun ek => ?_)))))
 obtain ⟨v2, q0, v3, k1, k2, m5, hcell60v⟩ := RdV.pos h1 (Up.refl _) rfl (i := q.2.1.toNat) (by omega) ((0 : Int), (0 : Int), false, (0 : Int), (0 : Int), (0 : Int), (0 : Int), (0 : Int), ([] : List bm))
 obtain ⟨ee, ef, rfl, ⟨k3, k4, k5⟩⟩ := k2
 refine vq (cO O O O k1 underlying51 sizeOf56 ek.1 ek.2) O (vq (ap O O underlying56 O O sizeOf45 O) O (vq (cu (vs := [.bool ((x1.getD q.2.1.toNat ((0 : Int), (0 : Int), false, (0 : Int), (0 : Int), (0 : Int), (0 : Int), (0 : Int), ([] : List bm))).2.2.1), Iv ((x1.getD q.2.1.toNat ((0 : Int), (0 : Int), false, (0 : Int), (0 : Int), (0 : Int), (0 : Int), (0 : Int), ([] : List bm))).2.2.2.1), Iv ((x1.getD q.2.1.toNat ((0 : Int), (0 : Int), false, (0 : Int), (0 : Int), (0 : Int), (0 : Int), (0 : Int), ([] : List bm))).2.2.2.2.1), Iv ((x1.getD q.2.1.toNat ((0 : Int), (0 : Int), false, (0 : Int), (0 : Int), (0 : Int), (0 : Int), (0 : Int), ([] : List bm))).2.2.2.2.2.1), Iv ((x1.getD q.2.1.toNat ((0 : Int), (0 : Int), false, (0 : Int), (0 : Int), (0 : Int), (0 : Int), (0 : Int), ([] : List bm))).2.2.2.2.2.2.1), Iv ((x1.getD q.2.1.toNat ((0 : Int), (0 : Int), false, (0 : Int), (0 : Int), (0 : Int), (0 : Int), (0 : Int), ([] : List bm))).2.2.2.2.2.2.2.1), .slice ee (((x1.getD q.2.1.toNat ((0 : Int), (0 : Int), false, (0 : Int), (0 : Int), (0 : Int), (0 : Int), (0 : Int), ([] : List bm))).2.2.2.2.2.2.2.2).length) ef]) O O isAgg45 sizeOf45 O (fun j v hj => jt (hcell60v 6 O (2 + j) v (vK 2 hj)))) O (bf 2 O (fun q1 k6 => (bf 3 O (fun q2 k7 => (ax (fun a7 k8 => (ah (av (vs := [Pt af.1, .agg #[.bool ((x1.getD q.2.1.toNat ((0 : Int), (0 : Int), false, (0 : Int), (0 : Int), (0 : Int), (0 : Int), (0 : Int), ([] : List bm))).2.2.1), Iv ((x1.getD q.2.1.toNat ((0 : Int), (0 : Int), false, (0 : Int), (0 : Int), (0 : Int), (0 : Int), (0 : Int), ([] : List bm))).2.2.2.1), Iv ((x1.getD q.2.1.toNat ((0 : Int), (0 : Int), false, (0 : Int), (0 : Int), (0 : Int), (0 : Int), (0 : Int), ([] : List bm))).2.2.2.2.1), Iv ((x1.getD q.2.1.toNat ((0 : Int), (0 : Int), false, (0 : Int), (0 : Int), (0 : Int), (0 : Int), (0 : Int), ([] : List bm))).2.2.2.2.2.1), Iv ((x1.getD q.2.1.toNat ((0 : Int), (0 : Int), false, (0 : Int), (0 : Int), (0 : Int), (0 : Int), (0 : Int), ([] : List bm))).2.2.2.2.2.2.1), Iv ((x1.getD q.2.1.toNat ((0 : Int), (0 : Int), false, (0 : Int), (0 : Int), (0 : Int), (0 : Int), (0 : Int), ([] : List bm))).2.2.2.2.2.2.2.1), .slice ee (((x1.getD q.2.1.toNat ((0 : Int), (0 : Int), false, (0 : Int), (0 : Int), (0 : Int), (0 : Int), (0 : Int), ([] : List bm))).2.2.2.2.2.2.2.2).length) ef]]) (cap := []) (A := [W5 x.1 ab.q4.2.1 q.q8.q4.2, ao (aj ab.q4.2.1 ar ak ab.q4.2.2) ai ab.q4.2.2 q.q8.q4.1, W7 af.1 x.1 q.2.2 ab.1 ab.2.1 ab.2.2.2.1 ab.q4.1, am 3 1 (V3 tt) ab.1 q.2.2.2.1 ab.2.1, am 144 5 (aQ ab.2.2.1) ab.2.2.2.1 q.q8.2.2.1 ab.q4.1, ab.2.2.1]) (rst := [F]) O O O O O O call17 (.sel 1 O (.sel 3 O (.s O (.sel' 0 O (am.mk k6) (.sel' 0 O (am.mk k7) (.s O (.s O .n))))))) (dE.calls _ _ k af.1 x.1 ab.2.2.2.2.2.1 ab.2.2.2.2.2.2 q.2.2.2.2.2.2.2.2.2.2.2.2.1 q.2.2.2.2.2.2.2.2.2.2.2.2.2.1 q.2.2.2.2.2.2.2.2.2.2.2.2.2.2.1 q.2.2.2.2.2.2.2.2.2.2.2.2.2.2.2 q.2.2.1 ab.1 ab.2.1 q.2.2.2.1 q.2.2.2.2.1 q.2.2.2.2.2.1 q.2.2.2.2.2.2.1 q.2.2.2.2.2.2.2.1 q.2.2.2.2.2.2.2.2.1 q.2.2.2.2.2.2.2.2.2.1 ab.2.2.2.1 ab.2.2.2.2.1 q.2.2.2.2.2.2.2.2.2.2.1 ab.2.2.1 q.2.2.2.2.2.2.2.2.2.2.2.1 ((x1.getD q.2.1.toNat ((0 : Int), (0 : Int), false, (0 : Int), (0 : Int), (0 : Int), (0 : Int), (0 : Int), ([] : List bm))).2.2.1) ((x1.getD q.2.1.toNat ((0 : Int), (0 : Int), false, (0 : Int), (0 : Int), (0 : Int), (0 : Int), (0 : Int), ([] : List bm))).2.2.2.1) ((x1.getD q.2.1.toNat ((0 : Int), (0 : Int), false, (0 : Int), (0 : Int), (0 : Int), (0 : Int), (0 : Int), ([] : List bm))).2.2.2.2.1) ((x1.getD q.2.1.toNat ((0 : Int), (0 : Int), false, (0 : Int), (0 : Int), (0 : Int), (0 : Int), (0 : Int), ([] : List bm))).2.2.2.2.2.1) ((x1.getD q.2.1.toNat ((0 : Int), (0 : Int), false, (0 : Int), (0 : Int), (0 : Int), (0 : Int), (0 : Int), ([] : List bm))).2.2.2.2.2.2.1) ((x1.getD q.2.1.toNat ((0 : Int), (0 : Int), false, (0 : Int), (0 : Int), (0 : Int), (0 : Int), (0 : Int), ([] : List bm))).2.2.2.2.2.2.2.1) ee ef ((x1.getD q.2.1.toNat ((0 : Int), (0 : Int), false, (0 : Int), (0 : Int), (0 : Int), (0 : Int), (0 : Int), ([] : List bm))).2.2.2.2.2.2.2.2) (k3.up (Up.lend 0 O) (V35.up (Up.lend 0 O))) k4 k5 (hgl.lend 0 O)) k8) O O O ?_)))))))))
 intro b5
 refine ae (bo (bo (aa (aI (vm O O (vq (bY O O O) O (va O O (ae ?_))))))))
 exact bM (s := (q.1, IntKind.i64.wrap (q.2.1 + 1), a7.2.2.2.2.2.1, a7.2.2.2.2.2.2.1, a7.2.2.2.2.2.2.2.1, a7.2.2.2.2.2.2.2.2.1, a7.2.2.2.2.2.2.2.2.2.1, a7.2.2.2.2.2.2.2.2.2.2.1, a7.2.2.2.2.2.2.2.2.2.2.2.1, a7.2.2.2.2.2.2.2.2.2.2.2.2.1, a7.2.2.2.2.2.2.2.2.2.2.2.2.2.1, a7.2.2.2.2.2.2.2.2.2.2.2.2.2.2, a7.2.1, a7.2.2.1, a7.2.2.2.1, a7.2.2.2.2.1)) (b5.2.2.1, b5.2.2.2.1, b5.2.2.2.2.2.2, b5.2.2.2.2.1, b5.2.2.2.2.2.1, b5.1, b5.2.1) ⟨O, O, O, O, O, O, trivial⟩ (.sel 2 O (.s O (.sel 1 O (.sel 1 O (.s O (.s O (.s O .n)))))))
 refine sr (vq (bW O O O) O (va O O (ae (aa ?_))))
 refine bn O (fun v4 => ?_) (fun v5 => ?_)
 refine aI (vm O O (bf 2 O (fun k9 el => (bf 3 O (fun la em => (ax (fun c7 lb => (ba 2 O (fun li lj ln q3 => (ba 3 O (fun lp lr lu q4 => (ah (av (vs := [Pt af.1]) (cap := []) (A := [W5 x.1 ab.q4.2.1 q.q8.q4.2, ao (aj ab.q4.2.1 ar ak ab.q4.2.2) ai ab.q4.2.2 q.q8.q4.1, W7 af.1 x.1 q.2.2 ab.1 ab.2.1 ab.2.2.2.1 ab.q4.1]) (rst := [Row 3 1 ab.1 q.2.2.2.1.length ab.2.1 k9.flatten, Row 144 5 ab.2.2.2.1 q.q8.2.2.1.length ab.q4.1 la.flatten, ab.2.2.1, F]) O O O O O O call23 (.sel 1 O (.sel 3 O (.s O (.s O (.s O (.s O (.s O .n))))))) (dY.calls _ _ k af.1 x.1 ab.2.2.2.2.2.1 ab.2.2.2.2.2.2 q.2.2.2.2.2.2.2.2.2.2.2.2.1 q.2.2.2.2.2.2.2.2.2.2.2.2.2.1 q.2.2.2.2.2.2.2.2.2.2.2.2.2.2.1 q.2.2.2.2.2.2.2.2.2.2.2.2.2.2.2 q.2.2.1 ab.1 ab.2.1 q.2.2.2.1 q.2.2.2.2.1 q.2.2.2.2.2.1 q.2.2.2.2.2.2.1 q.2.2.2.2.2.2.2.1 q.2.2.2.2.2.2.2.2.1 q.2.2.2.2.2.2.2.2.2.1 ab.2.2.2.1 ab.2.2.2.2.1 q.2.2.2.2.2.2.2.2.2.2.1 q.2.2.2.2.2.2.2.2.2.2.2.1 ((Rd.asV el li).up (Up.lend 0 O) (fun _ _ h => h)) lj ln ((Rd.asV em lp).up (Up.lend 1 O) (aQ.up (Up.lend 2 O))) lr lu (hgl.lend 3 O)) lb) O O O ?_))))))))))))
 intro eA
 refine ae (bo (bo (aa (aI (vm O O (vq (bY O O O) O (va O O (ae ?_))))))))
 exact bM (s := (q.1, IntKind.i64.wrap (q.2.1 + 1), q.2.2.1, q.2.2.2.1, q.2.2.2.2.1, q.2.2.2.2.2.1, q.2.2.2.2.2.2.1, q.2.2.2.2.2.2.2.1, q.2.2.2.2.2.2.2.2.1, q.2.2.2.2.2.2.2.2.2.1, q.2.2.2.2.2.2.2.2.2.2.1, q.2.2.2.2.2.2.2.2.2.2.2.1, c7.2)) (ab.1, ab.2.1, ab.2.2.1, ab.2.2.2.1, ab.2.2.2.2.1, eA) ⟨O, O, O, O, O, O, trivial⟩ (.sel 2 O (.s O (.sel' 1 O (am.mk el) (.sel' 1 O (am.mk em) (.s O (.s O (.s O .n)))))))
 refine sr (vq (bW O O O) O (va O O (ae (aa ?_))))
 refine bn O (fun v6 => ?_) (fun v7 => ?_)
 refine sr (vm O O (vm O O (vm O O (bg (fun en => ?_)))))
 obtain ⟨v8, q5, v9, l4, l5, m6, hcell99v⟩ := RdV.pos h1 (Up.refl _) rfl (i := q.2.1.toNat) (by omega) ((0 : Int), (0 : Int), false, (0 : Int), (0 : Int), (0 : Int), (0 : Int), (0 : Int), ([] : List bm))
 obtain ⟨q6, q7, rfl, ⟨m7, m8, m9⟩⟩ := l5
 refine vq (cO O O O l4 underlying51 sizeOf56 en.1 en.2) O (vq (ap O O underlying56 O O sizeOf3 O) O (vq (ag O O isAgg3 (hcell99v 6 O 1 _ O)) O (bf 2 O (fun nd eB => (bf 3 O (fun nm eD => (ax (fun ad e0 => (ah (av (vs := [Pt af.1, Iv ((x1.getD q.2.1.toNat ((0 : Int), (0 : Int), false, (0 : Int), (0 : Int), (0 : Int), (0 : Int), (0 : Int), ([] : List bm))).2.1)]) (cap := []) (A := [W5 x.1 ab.q4.2.1 q.q8.q4.2, ao (aj ab.q4.2.1 ar ak ab.q4.2.2) ai ab.q4.2.2 q.q8.q4.1, W7 af.1 x.1 q.2.2 ab.1 ab.2.1 ab.2.2.2.1 ab.q4.1, am 3 1 (V3 tt) ab.1 q.2.2.2.1 ab.2.1, am 144 5 (aQ ab.2.2.1) ab.2.2.2.1 q.q8.2.2.1 ab.q4.1, ab.2.2.1]) (rst := [F]) O O O O O O call24 (.sel 1 O (.sel 3 O (.s O (.sel' 0 O (am.mk eB) (.sel' 0 O (am.mk eD) (.s O (.s O .n))))))) (eY.calls _ _ k af.1 x.1 ab.2.2.2.2.2.1 ab.2.2.2.2.2.2 q.2.2.2.2.2.2.2.2.2.2.2.2.1 q.2.2.2.2.2.2.2.2.2.2.2.2.2.1 q.2.2.2.2.2.2.2.2.2.2.2.2.2.2.1 q.2.2.2.2.2.2.2.2.2.2.2.2.2.2.2 q.2.2.1 ab.1 ab.2.1 q.2.2.2.1 q.2.2.2.2.1 q.2.2.2.2.2.1 q.2.2.2.2.2.2.1 q.2.2.2.2.2.2.2.1 q.2.2.2.2.2.2.2.2.1 q.2.2.2.2.2.2.2.2.2.1 ab.2.2.2.1 ab.2.2.2.2.1 q.2.2.2.2.2.2.2.2.2.2.1 ab.2.2.1 q.2.2.2.2.2.2.2.2.2.2.2.1 ((x1.getD q.2.1.toNat ((0 : Int), (0 : Int), false, (0 : Int), (0 : Int), (0 : Int), (0 : Int), (0 : Int), ([] : List bm))).2.1) (hgl.lend 0 O)) e0) O O O ?_)))))))))
 intro az
 refine vm O O (vq (bI O O O) O (vq (bI O O O) O (va O O (va O O (nx (vm O O (ax (fun q8 e1 => (ah (av (vs := [Iv ad.2.1]) (cap := []) (A := []) (rst := [W3 x.1 az.1 ad.2.2.2, ao (aj az.1 ar ak az.2.1) ai az.2.1 ad.2.2.1, W4 af.1 x.1 ad.q4.2.2 az.2.2.1 az.2.2.2.1 az.q4.1 az.q4.2.1, am 3 1 (V3 tt) az.2.2.1 ad.q4.2.2.2.1 az.2.2.2.1, am 144 5 (aQ az.q4.2.2) az.q4.1 ad.q8.q4.2.2.1 az.q4.2.1, az.q4.2.2, F]) O O O O O O call13 (.s O (.s O (.s O (.s O (.s O (.s O (.s O .n))))))) (cN.calls _ _ ad.2.1 ) e1) O O O ?_)))))))))
 intro q9
 refine vq (bW O O O) O (ae (aa ?_))
 refine bn O (fun rd => ?_) (fun ro => ?_)
 refine aI (vm O O (vm O O (vm O O (bg (fun d2 => ?_)))))
 obtain ⟨rp, nn, rq, e2, e3, l9, hcell124v⟩ := RdV.pos h1 (Up.refl _) rfl (i := q.2.1.toNat) (by omega) ((0 : Int), (0 : Int), false, (0 : Int), (0 : Int), (0 : Int), (0 : Int), (0 : Int), ([] : List bm))
 obtain ⟨rr, rs, rfl, ⟨no, nu, n0⟩⟩ := e3
 refine vq (cO O O O e2 underlying51 sizeOf56 d2.1 d2.2) O (vq (ap O O underlying56 O O sizeOf3 O) O (vq (ag O O isAgg3 (hcell124v 6 O 1 _ O)) O (vq (tE O O O) O (va O O (ae (bo (bo (aa (aI (vm O O (vq (bY O O O) O (va O O (ae ?_)))))))))))))
 exact bM (s := (max q.1 ((x1.getD q.2.1.toNat ((0 : Int), (0 : Int), false, (0 : Int), (0 : Int), (0 : Int), (0 : Int), (0 : Int), ([] : List bm))).2.1), IntKind.i64.wrap (q.2.1 + 1), ad.2.2.2.2.2.2.1, ad.2.2.2.2.2.2.2.1, ad.2.2.2.2.2.2.2.2.1, ad.2.2.2.2.2.2.2.2.2.1, ad.2.2.2.2.2.2.2.2.2.2.1, ad.2.2.2.2.2.2.2.2.2.2.2.1, ad.2.2.2.2.2.2.2.2.2.2.2.2.1, ad.2.2.2.2.2.2.2.2.2.2.2.2.2.1, ad.2.2.2.2.2.2.2.2.2.2.2.2.2.2.1, ad.2.2.2.2.2.2.2.2.2.2.2.2.2.2.2, ad.2.2.1, ad.2.2.2.1, ad.2.2.2.2.1, ad.2.2.2.2.2.1)) (az.2.2.1, az.2.2.2.1, az.2.2.2.2.2.2, az.2.2.2.2.1, az.2.2.2.2.2.1, az.1, az.2.1) ⟨O, O, O, O, O, O, trivial⟩ (.sel 2 O (.s O (.sel 1 O (.sel 1 O (.s O (.s O (.s O .n)))))))
 refine aC (bo (bo (aa (aI (vm O O (vq (bY O O O) O (va O O (ae ?_))))))))
 exact bM (s := (q.1, IntKind.i64.wrap (q.2.1 + 1), ad.2.2.2.2.2.2.1, ad.2.2.2.2.2.2.2.1, ad.2.2.2.2.2.2.2.2.1, ad.2.2.2.2.2.2.2.2.2.1, ad.2.2.2.2.2.2.2.2.2.2.1, ad.2.2.2.2.2.2.2.2.2.2.2.1, ad.2.2.2.2.2.2.2.2.2.2.2.2.1, ad.2.2.2.2.2.2.2.2.2.2.2.2.2.1, ad.2.2.2.2.2.2.2.2.2.2.2.2.2.2.1, ad.2.2.2.2.2.2.2.2.2.2.2.2.2.2.2, ad.2.2.1, ad.2.2.2.1, ad.2.2.2.2.1, ad.2.2.2.2.2.1)) (az.2.2.1, az.2.2.2.1, az.2.2.2.2.2.2, az.2.2.2.2.1, az.2.2.2.2.2.1, az.1, az.2.1) ⟨O, O, O, O, O, O, trivial⟩ (.sel 2 O (.s O (.sel 1 O (.sel 1 O (.s O (.s O (.s O .n)))))))
 refine aC (bo (bo (aa (aI (vm O O (vq (bY O O O) O (va O O (ae ?_))))))))
 exact bM (s := (q.1, IntKind.i64.wrap (q.2.1 + 1), q.2.2)) ab ⟨O, O, O, O, O, O, trivial⟩ (.s O (.s O (.s O (.s O (.s O (.s O (.s O .n)))))))
 refine cA (ce (cl (cf ?_)))
 exact aG (s := (q.1, q.2.2)) ab ⟨O, O, O, O, trivial⟩ (.s O (.s O (.s O (.s O (.s O (.s O (.s O .n)))))))
 intro c t
 refine ay (sr (vm O O (vq (lR O O O underlying36) O (vm O O (aL (bh O O) O O O O O O (bf 2 O (fun b1 b9 => (bf 3 O (fun b2 cd => (ax (fun a0 e4 => (ba 2 O (fun e5 e6 e7 n1 => (ba 3 O (fun e8 e9 fl n2 => (ga (av (vs := [Pt af.1]) (cap := []) (A := [W5 x.1 t.q4.2.1 c.q8.q4, ao (aj t.q4.2.1 ar ak t.q4.2.2) ai t.q4.2.2 c.q8.2.2.2.1, W7 af.1 x.1 c.2 t.1 t.2.1 t.2.2.2.1 t.q4.1]) (rst := [Row 3 1 t.1 c.2.2.1.length t.2.1 b1.flatten, Row 144 5 t.2.2.2.1 c.q8.2.1.length t.q4.1 b2.flatten, t.2.2.1, F]) O O O O O O call23 (.sel 1 O (.sel 3 O (.s O (.s O (.s O (.s O (.s O .n))))))) (dY.calls _ _ k af.1 x.1 t.2.2.2.2.2.1 t.2.2.2.2.2.2 c.2.2.2.2.2.2.2.2.2.2.2.1 c.2.2.2.2.2.2.2.2.2.2.2.2.1 c.2.2.2.2.2.2.2.2.2.2.2.2.2.1 c.2.2.2.2.2.2.2.2.2.2.2.2.2.2 c.2.1 t.1 t.2.1 c.2.2.1 c.2.2.2.1 c.2.2.2.2.1 c.2.2.2.2.2.1 c.2.2.2.2.2.2.1 c.2.2.2.2.2.2.2.1 c.2.2.2.2.2.2.2.2.1 t.2.2.2.1 t.2.2.2.2.1 c.2.2.2.2.2.2.2.2.2.1 c.2.2.2.2.2.2.2.2.2.2.1 ((Rd.asV b9 e5).up (Up.lend 0 O) (fun _ _ h => h)) e6 e7 ((Rd.asV cd e8).up (Up.lend 1 O) (aQ.up (Up.lend 2 O))) e9 fl (hgl.lend 3 O)) e4) O O O O O O ?_))))))))))))))))
 intro a3
 refine ax (fun rN fn => (ga (av (vs := [Iv a0.1]) (cap := []) (A := []) (rst := [W5 x.1 a3.1 a0.2.2, ao (aj a3.1 ar ak a3.2) ai a3.2 a0.2.1, W7 af.1 x.1 c.2 t.1 t.2.1 t.2.2.2.1 t.q4.1, Row 3 1 t.1 c.2.2.1.length t.2.1 b1.flatten, Row 144 5 t.2.2.2.1 c.q8.2.1.length t.q4.1 b2.flatten, t.2.2.1, F]) O O O O O O call13 (.s O (.s O (.s O (.s O (.s O (.s O (.s O .n))))))) (cN.calls _ _ a0.1 ) fn) O O O O O O ?_))
 intro r0
 refine aL (dp O O O) O O O O O O (vq (bS O O O O O) O (ae (aa ?_)))
 refine dd O (fun r1 => ?_) (fun r2 => ?_)
 refine aC (aa (sr (vm O O (vm O O (ax (fun a d3 => ?_))))))
 refine jJ (fun ch => ?_) (fun ch => ?_)
 refine ah (av (vs := [Pt x.1, Iv x0]) (cap := []) (A := [W5 x.1 a3.1 a0.2.2, ao (aj a3.1 ar ak a3.2) ai a3.2 a0.2.1]) (rst := [W7 af.1 x.1 c.2 t.1 t.2.1 t.2.2.2.1 t.q4.1, Row 3 1 t.1 c.2.2.1.length t.2.1 b1.flatten, Row 144 5 t.2.2.2.1 c.q8.2.1.length t.q4.1 b2.flatten, t.2.2.1, F]) O O O O O O call15 (.s O (.s O (.s O (.s O (.s O (.s O (.s O .n))))))) (bD.callsT _ _ k x.1 a3.1 a3.2 a0.2.1 a0.2.2.1 a0.2.2.2.1 a0.2.2.2.2 x0 (hgl.lend 4 O)) (kv d3 ch)) O O O ?_
 intro e
 refine vm O O (vq (bI O O O) O (vq (bI O O O) O (vq (bI O O O) O (va O O (va O O (va O O (ae (aa (ay (sr (vm O O (vq (lR O O O underlying36) O (vm O O (aL (bh O O) O O O O O O (vq (bS O O O O O) O (vm O O ?_))))))))))))))))
 refine dG 4 (S := Bool) Unit (fun s y => [(8, Pt af.1), (11, Iv c.1), (15, Pt e.1), (127, .bool s)]) (fun s y => [W7 e.1 x.1 a.2 e.2.1 e.2.2.1 e.2.2.2.1 e.2.2.2.2.1, W5 x.1 e.2.2.2.2.2.2.1 a.2.2.2.2.2.2.2.2.2.2.2.2.2.2, W7 af.1 x.1 c.2 t.1 t.2.1 t.2.2.2.1 t.2.2.2.2.1, am 3 1 (V3 tt) e.2.1 a.2.2.1 e.2.2.1, am 144 5 (aQ e.2.2.2.2.2.1) e.2.2.2.1 a.2.2.2.2.2.2.2.2.2.1 e.2.2.2.2.1, ao (aj e.2.2.2.2.2.2.1 ar ak e.2.2.2.2.2.2.2) ai e.2.2.2.2.2.2.2 a.2.2.2.2.2.2.2.2.2.2.2.2.2.1, am 3 1 (V3 tt) t.1 c.2.2.1 t.2.1, am 144 5 (aQ t.2.2.1) t.2.2.2.1 c.2.2.2.2.2.2.2.2.2.1 t.2.2.2.2.1, e.2.2.2.2.2.1, t.2.2.1, F]) ?_ ?_
 refine fv (fun fp => ?_) (fun fr => ?_)
 rw [fp]
 refine aD O O O O O O (aD O O O O O O (aD O O O O O O (vq (bS O O O O O) O (ae ?_))))
 exact aG (s := true) () ⟨O, O, O, O, trivial⟩ (.s O (.sel 3 O (.sel 4 O (.s O (.s O (.sel 1 O (.sel' 1 O (am.mk b9) (.sel' 1 O (am.mk cd) (.s O (.s O (.s O .n)))))))))))
 rw [fr]
 refine aL (bh O O) O O O O O O (ax (fun l6 fs => (ga (av (vs := [Iv a.2.2.2.2.2.2.2.2.2.2.2.2.1]) (cap := []) (A := []) (rst := [W7 e.1 x.1 a.2 e.2.1 e.2.2.1 e.2.2.2.1 e.q4.1, am 3 1 (V3 tt) e.2.1 a.2.2.1 e.2.2.1, am 144 5 (aQ e.q4.2.1) e.2.2.2.1 a.q8.2.1 e.q4.1, e.q4.2.1, W5 x.1 e.q4.2.2.1 a.q8.q4.2.2, ao (aj e.q4.2.2.1 ar ak e.q4.2.2.2) ai e.q4.2.2.2 a.q8.q4.2.1, W7 af.1 x.1 c.2 t.1 t.2.1 t.2.2.2.1 t.q4.1, Row 3 1 t.1 c.2.2.1.length t.2.1 b1.flatten, Row 144 5 t.2.2.2.1 c.q8.2.1.length t.q4.1 b2.flatten, t.2.2.1, F]) O O O O O O call13 (.s O (.s O (.s O (.s O (.s O (.s O (.s O (.s O (.s O (.s O (.s O .n))))))))))) (cN.calls _ _ a.2.2.2.2.2.2.2.2.2.2.2.2.1 ) fs) O O O O O O ?_)))
 intro r3
 refine aL (dp O O O) O O O O O O (vq (bS O O O O O) O (ae ?_))
 exact aG (s := !decide (l6 = (0 : Int))) () ⟨O, O, O, O, trivial⟩ (.s O (.sel 3 O (.sel 4 O (.s O (.s O (.sel 1 O (.sel' 1 O (am.mk b9) (.sel' 1 O (am.mk cd) (.s O (.s O (.s O .n)))))))))))
 intro r4 r5
 refine ae (aa ?_)
 refine aZ O (fun r6 => ?_) (fun r7 => ?_)
 refine sr (va O O (ae (aa (aA (aN ?_)))))
 exact aE () O O O (.sel 10 O .n)
 refine aC (aa (sr (vm O O (bf 6 O (fun a8 cs => (bf 7 O (fun a9 c0 => (ax (fun g fz => (ba 6 O (fun go gs gy n3 => (ba 7 O (fun g0 g1 g2 n4 => (ah (av (vs := [Pt af.1]) (cap := []) (A := [W5 x.1 e.q4.2.2.1 a.q8.q4.2.2, ao (aj e.q4.2.2.1 ar ak e.q4.2.2.2) ai e.q4.2.2.2 a.q8.q4.2.1, W7 af.1 x.1 c.2 t.1 t.2.1 t.2.2.2.1 t.q4.1]) (rst := [W7 e.1 x.1 a.2 e.2.1 e.2.2.1 e.2.2.2.1 e.q4.1, am 3 1 (V3 tt) e.2.1 a.2.2.1 e.2.2.1, am 144 5 (aQ e.q4.2.1) e.2.2.2.1 a.q8.2.1 e.q4.1, Row 3 1 t.1 c.2.2.1.length t.2.1 a8.flatten, Row 144 5 t.2.2.2.1 c.q8.2.1.length t.q4.1 a9.flatten, e.q4.2.1, t.2.2.1, F]) O O O O O O call18 (.sel 1 O (.sel 4 O (.sel 1 O (.s O (.s O (.s O (.s O (.s O (.s O (.s O (.s O .n))))))))))) (eh.calls _ _ k af.1 x.1 e.2.2.2.2.2.2.1 e.2.2.2.2.2.2.2 a.2.2.2.2.2.2.2.2.2.2.2.2.2.1 a.2.2.2.2.2.2.2.2.2.2.2.2.2.2.1 a.2.2.2.2.2.2.2.2.2.2.2.2.2.2.2.1 a.2.2.2.2.2.2.2.2.2.2.2.2.2.2.2.2 c.2.1 t.1 t.2.1 c.2.2.1 c.2.2.2.1 c.2.2.2.2.1 c.2.2.2.2.2.1 c.2.2.2.2.2.2.1 c.2.2.2.2.2.2.2.1 c.2.2.2.2.2.2.2.2.1 t.2.2.2.1 t.2.2.2.2.1 c.2.2.2.2.2.2.2.2.2.1 c.2.2.2.2.2.2.2.2.2.2.1 ((Rd.asV cs go).up (Up.lend 3 O) (fun _ _ h => h)) gs gy ((Rd.asV c0 g0).up (Up.lend 4 O) (aQ.up (Up.lend 6 O))) g1 g2) fz) O O O ?_))))))))))))))
 intro p
 refine ah (bT O zeroValue47 O) O O O ?_
 intro al
 refine aY (aJ 0 O O O sizeOf47 O O (aP (by rfl)) O O) O O ?_
 intro _
 refine bX (H' := [W17 al g p.1 p.2.1, am 35 4 (V35 p.2.2) p.1 g.2.2.2.2.2 p.2.1, p.2.2, W5 x.1 e.2.2.2.2.2.2.1 a.2.2.2.2.2.2.2.2.2.2.2.2.2.2, ao (aj e.2.2.2.2.2.2.1 ar ak e.2.2.2.2.2.2.2) ai e.2.2.2.2.2.2.2 a.2.2.2.2.2.2.2.2.2.2.2.2.2.1, W7 af.1 x.1 c.2 t.1 t.2.1 t.2.2.2.1 t.2.2.2.2.1, W7 e.1 x.1 a.2 e.2.1 e.2.2.1 e.2.2.2.1 e.2.2.2.2.1, am 3 1 (V3 tt) e.2.1 a.2.2.1 e.2.2.1, am 144 5 (aQ e.2.2.2.2.2.1) e.2.2.2.1 a.2.2.2.2.2.2.2.2.2.1 e.2.2.2.2.1, Row 3 1 t.1 c.2.2.1.length t.2.1 a8.flatten, Row 144 5 t.2.2.2.1 c.2.2.2.2.2.2.2.2.2.1.length t.2.2.2.2.1 a9.flatten, e.2.2.2.2.2.1, t.2.2.1, F]) (Ent.refl _) (nx (vm O O (bf 7 O (fun br c2 => (bf 8 O (fun bs c3 => (ax (fun n g3 => (ba 7 O (fun g4 g5 g6 n5 => (ba 8 O (fun g7 g8 g9 n6 => (ah (av (vs := [Pt e.1]) (cap := []) (A := [W5 x.1 e.q4.2.2.1 a.q8.q4.2.2, ao (aj e.q4.2.2.1 ar ak e.q4.2.2.2) ai e.q4.2.2.2 a.q8.q4.2.1, W7 e.1 x.1 a.2 e.2.1 e.2.2.1 e.2.2.2.1 e.q4.1]) (rst := [W17 al g p.1 p.2.1, am 35 4 (V35 p.2.2) p.1 g.q4.2 p.2.1, p.2.2, W7 af.1 x.1 c.2 t.1 t.2.1 t.2.2.2.1 t.q4.1, Row 3 1 e.2.1 a.2.2.1.length e.2.2.1 br.flatten, Row 144 5 e.2.2.2.1 a.q8.2.1.length e.q4.1 bs.flatten, Row 3 1 t.1 c.2.2.1.length t.2.1 a8.flatten, Row 144 5 t.2.2.2.1 c.q8.2.1.length t.q4.1 a9.flatten, e.q4.2.1, t.2.2.1, F]) O O O O O O call18 (.sel 3 O (.sel 3 O (.sel 4 O (.s O (.s O (.s O (.s O (.s O (.s O (.s O (.s O (.s O (.s O (.s O .n)))))))))))))) (eh.calls _ _ k e.1 x.1 e.2.2.2.2.2.2.1 e.2.2.2.2.2.2.2 a.2.2.2.2.2.2.2.2.2.2.2.2.2.1 a.2.2.2.2.2.2.2.2.2.2.2.2.2.2.1 a.2.2.2.2.2.2.2.2.2.2.2.2.2.2.2.1 a.2.2.2.2.2.2.2.2.2.2.2.2.2.2.2.2 a.2.1 e.2.1 e.2.2.1 a.2.2.1 a.2.2.2.1 a.2.2.2.2.1 a.2.2.2.2.2.1 a.2.2.2.2.2.2.1 a.2.2.2.2.2.2.2.1 a.2.2.2.2.2.2.2.2.1 e.2.2.2.1 e.2.2.2.2.1 a.2.2.2.2.2.2.2.2.2.1 a.2.2.2.2.2.2.2.2.2.2.1 ((Rd.asV c2 g4).up (Up.lend 4 O) (fun _ _ h => h)) g5 g6 ((Rd.asV c3 g7).up (Up.lend 5 O) (aQ.up (Up.lend 8 O))) g8 g9) g3) O O O ?_)))))))))))))
 intro u
 refine ah (bT O zeroValue47 O) O O O ?_
 intro an
 refine aY (aJ 0 O O O sizeOf47 O O (aP (by rfl)) O O) O O ?_
 intro _
 refine bX (H' := [W17 an n u.1 u.2.1, am 35 4 (V35 u.2.2) u.1 n.2.2.2.2.2 u.2.1, u.2.2, W5 x.1 e.2.2.2.2.2.2.1 a.2.2.2.2.2.2.2.2.2.2.2.2.2.2, ao (aj e.2.2.2.2.2.2.1 ar ak e.2.2.2.2.2.2.2) ai e.2.2.2.2.2.2.2 a.2.2.2.2.2.2.2.2.2.2.2.2.2.1, W7 e.1 x.1 a.2 e.2.1 e.2.2.1 e.2.2.2.1 e.2.2.2.2.1, W17 al g p.1 p.2.1, am 35 4 (V35 p.2.2) p.1 g.2.2.2.2.2 p.2.1, p.2.2, W7 af.1 x.1 c.2 t.1 t.2.1 t.2.2.2.1 t.2.2.2.2.1, Row 3 1 e.2.1 a.2.2.1.length e.2.2.1 br.flatten, Row 144 5 e.2.2.2.1 a.2.2.2.2.2.2.2.2.2.1.length e.2.2.2.2.1 bs.flatten, Row 3 1 t.1 c.2.2.1.length t.2.1 a8.flatten, Row 144 5 t.2.2.2.1 c.2.2.2.2.2.2.2.2.2.1.length t.2.2.2.2.1 a9.flatten, e.2.2.2.2.2.1, t.2.2.1, F]) (Ent.refl _) (nx (vm O O (ax (fun a4 ha => (ba 12 O (fun hb hc he n7 => (ba 13 O (fun hf hg hh n8 => (ah (av (vs := [Pt af.1]) (cap := []) (A := [W5 x.1 e.q4.2.2.1 a.q8.q4.2.2, ao (aj e.q4.2.2.1 ar ak e.q4.2.2.2) ai e.q4.2.2.2 a.q8.q4.2.1, W7 af.1 x.1 c.2 t.1 t.2.1 t.2.2.2.1 t.q4.1]) (rst := [W17 an n u.1 u.2.1, am 35 4 (V35 u.2.2) u.1 n.q4.2 u.2.1, u.2.2, W7 e.1 x.1 a.2 e.2.1 e.2.2.1 e.2.2.2.1 e.q4.1, W17 al g p.1 p.2.1, am 35 4 (V35 p.2.2) p.1 g.q4.2 p.2.1, p.2.2, Row 3 1 e.2.1 a.2.2.1.length e.2.2.1 br.flatten, Row 144 5 e.2.2.2.1 a.q8.2.1.length e.q4.1 bs.flatten, Row 3 1 t.1 c.2.2.1.length t.2.1 a8.flatten, Row 144 5 t.2.2.2.1 c.q8.2.1.length t.q4.1 a9.flatten, e.q4.2.1, t.2.2.1, F]) O O O O O O call31 (.sel 3 O (.sel 3 O (.sel 7 O (.s O (.s O (.s O (.s O (.s O (.s O (.s O (.s O (.s O (.s O (.s O (.s O (.s O (.s O .n))))))))))))))))) (dA.calls _ _ af.1 x.1 e.2.2.2.2.2.2.1 e.2.2.2.2.2.2.2 a.2.2.2.2.2.2.2.2.2.2.2.2.2.1 a.2.2.2.2.2.2.2.2.2.2.2.2.2.2.1 a.2.2.2.2.2.2.2.2.2.2.2.2.2.2.2.1 a.2.2.2.2.2.2.2.2.2.2.2.2.2.2.2.2 c.2.1 t.1 t.2.1 c.2.2.1 c.2.2.2.1 c.2.2.2.2.1 c.2.2.2.2.2.1 c.2.2.2.2.2.2.1 c.2.2.2.2.2.2.2.1 c.2.2.2.2.2.2.2.2.1 t.2.2.2.1 t.2.2.2.2.1 c.2.2.2.2.2.2.2.2.2.1 c.2.2.2.2.2.2.2.2.2.2.1 ((Rd.asV cs hb).up (Up.lend 9 O) (fun _ _ h => h)) hc he ((Rd.asV c0 hf).up (Up.lend 10 O) (aQ.up (Up.lend 12 O))) hg hh) ha) O O O ?_)))))))))
 intro r8
 refine vm O O (vq (bI O O O) O (vq (bI O O O) O (va O O (va O O (nx (vm O O (ax (fun bc hk => (ba 10 O (fun hl hm hn n9 => (ba 11 O (fun ho hp hq oa => (ah (av (vs := [Pt e.1]) (cap := []) (A := [W5 x.1 e.q4.2.2.1 a.q8.q4.2.2, ao (aj e.q4.2.2.1 ar ak e.q4.2.2.2) ai e.q4.2.2.2 a.q8.q4.2.1, W7 e.1 x.1 a.2 e.2.1 e.2.2.1 e.2.2.2.1 e.q4.1]) (rst := [W7 af.1 x.1 c.2 t.1 t.2.1 t.2.2.2.1 t.q4.1, W17 an n u.1 u.2.1, am 35 4 (V35 u.2.2) u.1 n.q4.2 u.2.1, u.2.2, W17 al g p.1 p.2.1, am 35 4 (V35 p.2.2) p.1 g.q4.2 p.2.1, p.2.2, Row 3 1 e.2.1 a.2.2.1.length e.2.2.1 br.flatten, Row 144 5 e.2.2.2.1 a.q8.2.1.length e.q4.1 bs.flatten, Row 3 1 t.1 c.2.2.1.length t.2.1 a8.flatten, Row 144 5 t.2.2.2.1 c.q8.2.1.length t.q4.1 a9.flatten, e.q4.2.1, t.2.2.1, F]) O O O O O O call31 (.s O (.s O (.sel 4 O (.s O (.s O (.s O (.s O (.s O (.s O (.s O (.s O (.s O (.s O (.s O (.s O (.s O (.s O .n))))))))))))))))) (dA.calls _ _ e.1 x.1 e.2.2.2.2.2.2.1 e.2.2.2.2.2.2.2 a.2.2.2.2.2.2.2.2.2.2.2.2.2.1 a.2.2.2.2.2.2.2.2.2.2.2.2.2.2.1 a.2.2.2.2.2.2.2.2.2.2.2.2.2.2.2.1 a.2.2.2.2.2.2.2.2.2.2.2.2.2.2.2.2 a.2.1 e.2.1 e.2.2.1 a.2.2.1 a.2.2.2.1 a.2.2.2.2.1 a.2.2.2.2.2.1 a.2.2.2.2.2.2.1 a.2.2.2.2.2.2.2.1 a.2.2.2.2.2.2.2.2.1 e.2.2.2.1 e.2.2.2.2.1 a.2.2.2.2.2.2.2.2.2.1 a.2.2.2.2.2.2.2.2.2.2.1 ((Rd.asV c2 hl).up (Up.lend 7 O) (fun _ _ h => h)) hm hn ((Rd.asV c3 ho).up (Up.lend 8 O) (aQ.up (Up.lend 11 O))) hp hq) hk) O O O ?_)))))))))))))
 intro r9
 refine vm O O (vq (bI O O O) O (vq (bI O O O) O (va O O (va O O (nx (vm O O (ax (fun b8 hr => (ba 12 O (fun hs ht hu og => (ba 13 O (fun hv hw hx ok => (ah (av (vs := [Pt af.1]) (cap := []) (A := [W5 x.1 e.q4.2.2.1 a.q8.q4.2.2, ao (aj e.q4.2.2.1 ar ak e.q4.2.2.2) ai e.q4.2.2.2 a.q8.q4.2.1, W7 af.1 x.1 c.2 t.1 t.2.1 t.2.2.2.1 t.q4.1]) (rst := [W7 e.1 x.1 a.2 e.2.1 e.2.2.1 e.2.2.2.1 e.q4.1, W17 an n u.1 u.2.1, am 35 4 (V35 u.2.2) u.1 n.q4.2 u.2.1, u.2.2, W17 al g p.1 p.2.1, am 35 4 (V35 p.2.2) p.1 g.q4.2 p.2.1, p.2.2, Row 3 1 e.2.1 a.2.2.1.length e.2.2.1 br.flatten, Row 144 5 e.2.2.2.1 a.q8.2.1.length e.q4.1 bs.flatten, Row 3 1 t.1 c.2.2.1.length t.2.1 a8.flatten, Row 144 5 t.2.2.2.1 c.q8.2.1.length t.q4.1 a9.flatten, e.q4.2.1, t.2.2.1, F]) O O O O O O call25 (.s O (.s O (.sel 1 O (.s O (.s O (.s O (.s O (.s O (.s O (.s O (.s O (.s O (.s O (.s O (.s O (.s O (.s O .n))))))))))))))))) (bC.calls _ _ k af.1 x.1 e.2.2.2.2.2.2.1 e.2.2.2.2.2.2.2 a.2.2.2.2.2.2.2.2.2.2.2.2.2.1 a.2.2.2.2.2.2.2.2.2.2.2.2.2.2.1 a.2.2.2.2.2.2.2.2.2.2.2.2.2.2.2.1 a.2.2.2.2.2.2.2.2.2.2.2.2.2.2.2.2 c.2.1 t.1 t.2.1 c.2.2.1 c.2.2.2.1 c.2.2.2.2.1 c.2.2.2.2.2.1 c.2.2.2.2.2.2.1 c.2.2.2.2.2.2.2.1 c.2.2.2.2.2.2.2.2.1 t.2.2.2.1 t.2.2.2.2.1 c.2.2.2.2.2.2.2.2.2.1 c.2.2.2.2.2.2.2.2.2.2.1 ((Rd.asV cs hs).up (Up.lend 9 O) (fun _ _ h => h)) ht hu ((Rd.asV c0 hv).up (Up.lend 10 O) (aQ.up (Up.lend 12 O))) hw hx (hgl.lend 13 O)) hr) O O O ?_)))))))))))))
 intro bt
 refine vm O O (ax (fun c8 hy => (ba 11 O (fun hz hA hB ol => (ba 12 O (fun hC hE hF op => (ah (av (vs := [Pt e.1]) (cap := []) (A := [W5 x.1 e.q4.2.2.1 a.q8.q4.2.2, ao (aj e.q4.2.2.1 ar ak e.q4.2.2.2) ai e.q4.2.2.2 a.q8.q4.2.1, W7 e.1 x.1 a.2 e.2.1 e.2.2.1 e.2.2.2.1 e.q4.1]) (rst := [am 9 1 (V9 tt) bt.1 b8 bt.2, W7 af.1 x.1 c.2 t.1 t.2.1 t.2.2.2.1 t.q4.1, W17 an n u.1 u.2.1, am 35 4 (V35 u.2.2) u.1 n.q4.2 u.2.1, u.2.2, W17 al g p.1 p.2.1, am 35 4 (V35 p.2.2) p.1 g.q4.2 p.2.1, p.2.2, Row 3 1 e.2.1 a.2.2.1.length e.2.2.1 br.flatten, Row 144 5 e.2.2.2.1 a.q8.2.1.length e.q4.1 bs.flatten, Row 3 1 t.1 c.2.2.1.length t.2.1 a8.flatten, Row 144 5 t.2.2.2.1 c.q8.2.1.length t.q4.1 a9.flatten, e.q4.2.1, t.2.2.1, F]) O O O O O O call25 (.sel 1 O (.sel 1 O (.sel 2 O (.s O (.s O (.s O (.s O (.s O (.s O (.s O (.s O (.s O (.s O (.s O (.s O (.s O (.s O (.s O .n)))))))))))))))))) (bC.calls _ _ k e.1 x.1 e.2.2.2.2.2.2.1 e.2.2.2.2.2.2.2 a.2.2.2.2.2.2.2.2.2.2.2.2.2.1 a.2.2.2.2.2.2.2.2.2.2.2.2.2.2.1 a.2.2.2.2.2.2.2.2.2.2.2.2.2.2.2.1 a.2.2.2.2.2.2.2.2.2.2.2.2.2.2.2.2 a.2.1 e.2.1 e.2.2.1 a.2.2.1 a.2.2.2.1 a.2.2.2.2.1 a.2.2.2.2.2.1 a.2.2.2.2.2.2.1 a.2.2.2.2.2.2.2.1 a.2.2.2.2.2.2.2.2.1 e.2.2.2.1 e.2.2.2.2.1 a.2.2.2.2.2.2.2.2.2.1 a.2.2.2.2.2.2.2.2.2.2.1 ((Rd.asV c2 hz).up (Up.lend 8 O) (fun _ _ h => h)) hA hB ((Rd.asV c3 hC).up (Up.lend 9 O) (aQ.up (Up.lend 12 O))) hE hF (hgl.lend 14 O)) hy) O O O ?_)))))))
 intro b3
 refine bf 0 O (fun hG hH => (bf 4 O (fun hI hK => (ax (fun er hL => (ba 4 O (fun hM hO hP os => (ba 0 O (fun hQ hR hS oN => (ah (av (vs := [.slice bt.1 b8.length bt.2, .slice b3.1 c8.length b3.2]) (cap := []) (A := []) (rst := [Row 9 1 b3.1 c8.length b3.2 hG.flatten, W5 x.1 e.q4.2.2.1 a.q8.q4.2.2, ao (aj e.q4.2.2.1 ar ak e.q4.2.2.2) ai e.q4.2.2.2 a.q8.q4.2.1, W7 e.1 x.1 a.2 e.2.1 e.2.2.1 e.2.2.2.1 e.q4.1, Row 9 1 bt.1 b8.length bt.2 hI.flatten, W7 af.1 x.1 c.2 t.1 t.2.1 t.2.2.2.1 t.q4.1, W17 an n u.1 u.2.1, am 35 4 (V35 u.2.2) u.1 n.q4.2 u.2.1, u.2.2, W17 al g p.1 p.2.1, am 35 4 (V35 p.2.2) p.1 g.q4.2 p.2.1, p.2.2, Row 3 1 e.2.1 a.2.2.1.length e.2.2.1 br.flatten, Row 144 5 e.2.2.2.1 a.q8.2.1.length e.q4.1 bs.flatten, Row 3 1 t.1 c.2.2.1.length t.2.1 a8.flatten, Row 144 5 t.2.2.2.1 c.q8.2.1.length t.q4.1 a9.flatten, e.q4.2.1, t.2.2.1, F]) O O O O O O call32 (.s O (.s O (.s O (.s O (.s O (.s O (.s O (.s O (.s O (.s O (.s O (.s O (.s O (.s O (.s O (.s O (.s O (.s O (.s O .n))))))))))))))))))) (cn.calls _ _ k bt.1 bt.2 b8 b3.1 b3.2 c8 ((Rd.asV hK hM).up (Up.lend 4 O) (fun _ _ h => h)) hO hP ((Rd.asV hH hQ).up (Up.lend 0 O) (fun _ _ h => h)) hR hS) hL) O O O ?_))))))))))
 intro sa
 refine va O O (ae (aa (ay (sr (vm O O (vm O O (vq (dp O O O) O (vm O O (aw (b := !decide (a4.1 = bc.1)) (fun o0 => RQ.sub (E' := [(18, Pt al)]) ⟨O, trivial⟩ (ap O O underlying47 O O sizeOf43 O)) O O O O O (aw (b := !decide (a4.1 = bc.1)) (fun hT => RQ.sub (E' := [(151, Pt al)]) ⟨aH O hT, trivial⟩ (cu (vs := [Iv g.1, Iv g.2.1, Iv g.2.2.1]) O O isAgg43 sizeOf43 O (du 9 O (cR O)))) O O O O O (aw (b := !decide (a4.1 = bc.1)) (fun o1 => RQ.sub (E' := [(19, Pt an)]) ⟨O, trivial⟩ (ap O O underlying47 O O sizeOf43 O)) O O O O O (aw (b := !decide (a4.1 = bc.1)) (fun hU => RQ.sub (E' := [(153, Pt an)]) ⟨aH O hU, trivial⟩ (cu (vs := [Iv n.1, Iv n.2.1, Iv n.2.2.1]) O O isAgg43 sizeOf43 O (du 6 O (cR O)))) O O O O O (aw (b := !decide (a4.1 = bc.1)) (fun d4 => RQ.sub (E' := [(152, .agg #[Iv g.1, Iv g.2.1, Iv g.2.2.1]), (154, .agg #[Iv n.1, Iv n.2.1, Iv n.2.2.1])]) ⟨aH O d4, aH O d4, trivial⟩ (xC O O O (by kernel_rfl) (fun d w => oF underlying43 (by kernel_rfl) (mc (by rfl) (gJ isAgg3 O) (gJ isAgg3 O) (kA underlying3) (mc (by rfl) (gJ isAgg3 O) (gJ isAgg3 O) (kA underlying3) (ri (by rfl) (gJ isAgg3 O) (gJ isAgg3 O) (kA underlying3))))))) O O O O O (vq (fI O O O) O (vm O O (aw (b := (!decide (a4.1 = bc.1)) || (!(decide (g.1 = n.1) && (decide (g.2.1 = n.2.1) && (decide (g.2.2.1 = n.2.2.1)))))) (fun o2 => RQ.sub (E' := [(24, .bool er)]) ⟨O, trivial⟩ (bh O O)) O O O O O (aw (b := (!decide (a4.1 = bc.1)) || (!(decide (g.1 = n.1) && (decide (g.2.1 = n.2.1) && (decide (g.2.2.1 = n.2.2.1)))))) (fun hV => RQ.sub (E' := [(158, .bool er)]) ⟨aH O hV, trivial⟩ (fK O O)) O O O O O (vq (fI O O O) O (vm O O ?_)))))))))))))))))))
 refine dG 9 (S := Bool) Unit (fun s y => [(11, Iv c.1), (18, Pt al), (19, Pt an), (170, .bool s)]) (fun s y => [W17 an n u.1 u.2.1, W17 al g p.1 p.2.1, am 35 4 (V35 u.2.2) u.1 n.2.2.2.2.2 u.2.1, am 35 4 (V35 p.2.2) p.1 g.2.2.2.2.2 p.2.1, u.2.2, p.2.2, F]) ?_ ?_
 refine fv (fun hW => ?_) (fun hX => ?_)
 rw [hW]
 refine aD O O O O O O (aD O O O O O O (aD O O O O O O (aD O O O O O O (dc O O O O O (dc O O O O O (dc O O O O O (aD O O O O O O (vq (bS O O O O O) O (ae ?_)))))))))
 exact aG (s := true) () ⟨O, O, O, O, trivial⟩ (.sel 6 O (.sel 8 O (.sel 6 O (.sel 7 O (.sel 6 O (.sel 6 O (.sel 12 O .n)))))))
 rw [hX]
 refine aL (bh O O) O O O O O O (aL (bh O O) O O O O O O (aL (cW O O O) O O O O O O (aL (bh O O) O O O O O O (aw (b := decide (c.1 < a4.1)) (fun o3 => RQ.sub (E' := [(21, Iv a4.2)]) ⟨O, trivial⟩ (bh O O)) O O O O O (aw (b := decide (c.1 < a4.1)) (fun o4 => RQ.sub (E' := [(23, Iv bc.2)]) ⟨O, trivial⟩ (bh O O)) O O O O O (aw (b := decide (c.1 < a4.1)) (fun d5 => RQ.sub (E' := [(166, Iv a4.2), (167, Iv bc.2)]) ⟨aH O d5, aH O d5, trivial⟩ (dp O O O)) O O O O O (aL (dK O O O) O O O O O O (vq (bS O O O O O) O (ae ?_)))))))))
 exact aG (s := (decide (c.1 < a4.1)) && (!decide (a4.2 = bc.2))) () ⟨O, O, O, O, trivial⟩ (.sel 6 O (.sel 8 O (.sel 6 O (.sel 7 O (.sel 6 O (.sel 6 O (.sel 12 O .n)))))))
 intro sg sp
 refine ae (aa ?_)
 refine aZ O (fun ss => ?_) (fun st => ?_)
 refine sr (va O O (ae (aa (aA (aN ?_)))))
 exact aE () O O O (.sel 6 O .n)
 refine aC (aa (sr (va O O (ae (aa ?_)))))
 refine bJ (S := Int) Unit (fun s y => [(11, Iv c.1), (18, Pt al), (19, Pt an), (25, Iv s)]) (fun s y => [W17 an n u.1 u.2.1, W17 al g p.1 p.2.1, am 35 4 (V35 u.2.2) u.1 n.2.2.2.2.2 u.2.1, am 35 4 (V35 p.2.2) p.1 g.2.2.2.2.2 p.2.1, u.2.2, p.2.2, F]) ?_ ?_
 refine aR ?_
 refine ck (S := Int) Unit (fun k s => aV.l1 c g k s) (fun s y => [(11, Iv c.1), (18, Pt al), (19, Pt an), (25, Iv s)]) (fun s y => [W17 an n u.1 u.2.1, W17 al g p.1 p.2.1, am 35 4 (V35 u.2.2) u.1 n.2.2.2.2.2 u.2.1, am 35 4 (V35 p.2.2) p.1 g.2.2.2.2.2 p.2.1, u.2.2, p.2.2, F]) (fun _ => by rw [aV.l1]) ?_ k 0 () ⟨O, O, O, O, trivial⟩ (.s O (.s O (.s O (.s O (.s O (.s O (.s O .n)))))))
 intro k b6 sy
 refine cS (by rw [aV.l1]) (ay (sr (vm O O (vq (ap O O underlying47 O O sizeOf32 O) O (vq (ag O O isAgg32 (.obj 1 O O)) O (vq (bx O O O underlying32) O (vq (cL O O O) O (vm O O ?_))))))))
 refine dG 9 (S := Bool) Unit (fun s y => [(11, Iv c.1), (18, Pt al), (19, Pt an), (25, Iv b6), (185, .bool s)]) (fun s y => [W17 an n u.1 u.2.1, W17 al g p.1 p.2.1, am 35 4 (V35 u.2.2) u.1 n.2.2.2.2.2 u.2.1, am 35 4 (V35 p.2.2) p.1 g.2.2.2.2.2 p.2.1, u.2.2, p.2.2, F]) ?_ ?_
 refine ij (fun hY => ?_) (fun hZ => ?_)
 rw [hY]
 refine aL (ap O O underlying47 O O sizeOf32 O) O O O O O O (aL (ag O O isAgg32 (.obj 1 O O)) O O O O O O (aL (bh O O) O O O O O O (bf 3 O (fun o5 d6 => (bg (fun d7 => (eN 3 O d6 O (i := b6.toNat) (by omega) bl (fun sz o6 s0 h0 h2 mo hcell279v => ?_))))))))
 obtain ⟨s1, s2, rfl, ⟨o7, o8, o9⟩⟩ := h2
 refine aL (cO O O O h0 underlying32 sizeOf35 d7.1 d7.2) O O O O O O (aL (ap O O underlying35 O O sizeOf3 O) O O O O O O (aL (ag O O isAgg3 (hcell279v 3 O 1 _ O)) O O O O O O (aL (bh O O) O O O O O O (aL (iQ O O O) O O O O O O (vq (bS O O O O O) O (ae ?_))))))
 exact aG (s := decide ((g.2.2.2.2.2.getD b6.toNat bl).2.1 ≤ c.1)) () ⟨O, O, O, O, O, trivial⟩ (.s O (.s O (.s O (.sel' 0 O (am.mk d6) (.s O (.s O (.s O .n)))))))
 rw [hZ]
 refine aD O O O O O O (aD O O O O O O (aD O O O O O O (aD O O O O O O (aD O O O O O O (aD O O O O O O (aD O O O O O O (aD O O O O O O (vq (bS O O O O O) O (ae ?_)))))))))
 exact aG (s := false) () ⟨O, O, O, O, O, trivial⟩ (.s O (.s O (.s O (.s O (.s O (.s O (.s O .n)))))))
 intro s3 s4
 refine ae (aa ?_)
 refine aZ O (fun s5 => ?_) (fun s6 => ?_)
 refine aC (aa (aR (aI (vm O O (vq (bY O O O) O (va O O (ae (bo ?_))))))))
 exact bM (s := IntKind.i64.wrap (b6 + 1)) () ⟨O, O, O, O, trivial⟩ (.s O (.s O (.s O (.s O (.s O (.s O (.s O .n)))))))
 refine cA (ce (cl (cf ?_)))
 exact aG (s := b6) () ⟨O, O, O, O, trivial⟩ (.s O (.s O (.s O (.s O (.s O (.s O (.s O .n)))))))
 intro be s7
 refine sr (va O O (ae (aa ?_)))
 refine bJ (S := Int) Unit (fun s y => [(18, Pt al), (19, Pt an), (25, Iv be), (26, Iv s)]) (fun s y => [W17 an n u.1 u.2.1, W17 al g p.1 p.2.1, am 35 4 (V35 u.2.2) u.1 n.2.2.2.2.2 u.2.1, am 35 4 (V35 p.2.2) p.1 g.2.2.2.2.2 p.2.1, u.2.2, p.2.2, F]) ?_ ?_
 refine aR ?_
 refine ck (S := Int) Unit (fun k s => aV.l2 c n k s) (fun s y => [(11, Iv c.1), (18, Pt al), (19, Pt an), (25, Iv be), (26, Iv s)]) (fun s y => [W17 an n u.1 u.2.1, W17 al g p.1 p.2.1, am 35 4 (V35 u.2.2) u.1 n.2.2.2.2.2 u.2.1, am 35 4 (V35 p.2.2) p.1 g.2.2.2.2.2 p.2.1, u.2.2, p.2.2, F]) (fun _ => by rw [aV.l2]) ?_ k 0 () ⟨O, O, O, O, O, trivial⟩ (.s O (.s O (.s O (.s O (.s O (.s O (.s O .n)))))))
 intro k b7 s8
 refine cS (by rw [aV.l2]) (ay (sr (vm O O (vq (ap O O underlying47 O O sizeOf32 O) O (vq (ag O O isAgg32 (.obj 0 O O)) O (vq (bx O O O underlying32) O (vq (cL O O O) O (vm O O ?_))))))))
 refine dG 9 (S := Bool) Unit (fun s y => [(11, Iv c.1), (18, Pt al), (19, Pt an), (25, Iv be), (26, Iv b7), (202, .bool s)]) (fun s y => [W17 an n u.1 u.2.1, W17 al g p.1 p.2.1, am 35 4 (V35 u.2.2) u.1 n.2.2.2.2.2 u.2.1, am 35 4 (V35 p.2.2) p.1 g.2.2.2.2.2 p.2.1, u.2.2, p.2.2, F]) ?_ ?_
 refine ij (fun h3 => ?_) (fun h4 => ?_)
 rw [h3]
 refine aL (ap O O underlying47 O O sizeOf32 O) O O O O O O (aL (ag O O isAgg32 (.obj 0 O O)) O O O O O O (aL (bh O O) O O O O O O (bf 2 O (fun ps d8 => (bg (fun d9 => (eN 2 O d8 O (i := b7.toNat) (by omega) bl (fun s9 py to h5 h6 ms hcell305v => ?_))))))))
 obtain ⟨tp, ts, rfl, ⟨p0, p1, p2⟩⟩ := h6
 refine aL (cO O O O h5 underlying32 sizeOf35 d9.1 d9.2) O O O O O O (aL (ap O O underlying35 O O sizeOf3 O) O O O O O O (aL (ag O O isAgg3 (hcell305v 2 O 1 _ O)) O O O O O O (aL (bh O O) O O O O O O (aL (iQ O O O) O O O O O O (vq (bS O O O O O) O (ae ?_))))))
 exact aG (s := decide ((n.2.2.2.2.2.getD b7.toNat bl).2.1 ≤ c.1)) () ⟨O, O, O, O, O, O, trivial⟩ (.s O (.s O (.sel' 0 O (am.mk d8) (.s O (.s O (.s O (.s O .n)))))))
 rw [h4]
 refine aD O O O O O O (aD O O O O O O (aD O O O O O O (aD O O O O O O (aD O O O O O O (aD O O O O O O (aD O O O O O O (aD O O O O O O (vq (bS O O O O O) O (ae ?_)))))))))
 exact aG (s := false) () ⟨O, O, O, O, O, O, trivial⟩ (.s O (.s O (.s O (.s O (.s O (.s O (.s O .n)))))))
 intro ty tI
 refine ae (aa ?_)
 refine aZ O (fun tN => ?_) (fun tO => ?_)
 refine aC (aa (aR (aI (vm O O (vq (bY O O O) O (va O O (ae (bo ?_))))))))
 exact bM (s := IntKind.i64.wrap (b7 + 1)) () ⟨O, O, O, O, O, trivial⟩ (.s O (.s O (.s O (.s O (.s O (.s O (.s O .n)))))))
 refine cA (ce (cl (cf ?_)))
 exact aG (s := b7) () ⟨O, O, O, O, trivial⟩ (.s O (.s O (.s O (.s O (.s O (.s O (.s O .n)))))))
 intro b4 t0
 refine ay (bq 2 O (fun a5 h7 => (bq 3 O (fun a6 h8 => (ii 3 O (fun h9 ea ih p3 => (fm (H' := [aS [Row 35 4 p.1 g.2.2.2.2.2.length p.2.1 a6.flatten, p.2.2], W17 an n u.1 u.2.1, W17 al g p.1 p.2.1, Row 35 4 u.1 n.2.2.2.2.2.length u.2.1 a5.flatten, u.2.2, F]) (Ent.trans (m := [Row 35 4 p.1 g.2.2.2.2.2.length p.2.1 a6.flatten, p.2.2, W17 an n u.1 u.2.1, W17 al g p.1 p.2.1, Row 35 4 u.1 n.2.2.2.2.2.length u.2.1 a5.flatten, u.2.2, F]) (.sel 3 O (.sel 4 O (.s O (.s O (.s O (.s O (.s O .n))))))) (gf [Row 35 4 p.1 g.2.2.2.2.2.length p.2.1 a6.flatten, p.2.2] _)) (ii 3 O (fun it eb jg p4 => (fm (H' := [aS [Row 35 4 u.1 n.2.2.2.2.2.length u.2.1 a5.flatten, u.2.2], aS [Row 35 4 p.1 g.2.2.2.2.2.length p.2.1 a6.flatten, p.2.2], W17 an n u.1 u.2.1, W17 al g p.1 p.2.1, F]) (Ent.trans (m := [Row 35 4 u.1 n.2.2.2.2.2.length u.2.1 a5.flatten, u.2.2, aS [Row 35 4 p.1 g.2.2.2.2.2.length p.2.1 a6.flatten, p.2.2], W17 an n u.1 u.2.1, W17 al g p.1 p.2.1, F]) (.sel 3 O (.sel 3 O (.s O (.s O (.s O (.s O .n)))))) (gf [Row 35 4 u.1 n.2.2.2.2.2.length u.2.1 a5.flatten, u.2.2] _)) (cG (fun ec => ?_))))))))))))
 obtain ⟨c9, dl, j0, j1, j2, j3⟩ := gM (lo := be) (hi := (g.2.2.2.2.2.length : Int)) (Rd.asV (h8.mono (V35.up (Up.lend (l := [Row 35 4 p.1 g.2.2.2.2.2.length p.2.1 a6.flatten, p.2.2]) 1 rfl))) (Rd.lend (l := [Row 35 4 p.1 g.2.2.2.2.2.length p.2.1 a6.flatten, p.2.2]) h9 0 rfl)) ea ec
 refine cG (fun ed => ?_)
 obtain ⟨ds, dz, j4, j5, j6, j7⟩ := gM (lo := b4) (hi := (n.2.2.2.2.2.length : Int)) (Rd.asV (h7.mono (V35.up (Up.lend (l := [Row 35 4 u.1 n.2.2.2.2.2.length u.2.1 a5.flatten, u.2.2]) 1 rfl))) (Rd.lend (l := [Row 35 4 u.1 n.2.2.2.2.2.length u.2.1 a5.flatten, u.2.2]) it 0 rfl)) eb ed
 refine bv (fun d1 j8 => ?_)
 refine bi (Γ := Unit) () [[], [0], [], [0, 1, 2], [], [4], [], [4, 5, 6], rL 8, rL 9] [8] [0, 1, 2, 3, 4, 5, 6, 7, 9] (fun i => [[0], [0], [0], [0], [0], [0], [0], [0], [], [1]].getD i []) (fun i => [[], [], [], [], [], [], [], [], rL 8, []].getD i []) (fun γ i => [.pointer (some ⟨al, 5, none⟩), .slice p.1 g.2.2.2.2.2.length p.2.1, Iv be, .slice c9 ((cut g.2.2.2.2.2 be (g.2.2.2.2.2.length : Int)).length) dl, .pointer (some ⟨an, 5, none⟩), .slice u.1 n.2.2.2.2.2.length u.2.1, Iv b4, .slice ds ((cut n.2.2.2.2.2 b4 (n.2.2.2.2.2.length : Int)).length) dz, .bool d1, .bool d1].getD i undef) (fun j γ => [[aS [Row 35 4 u.1 n.2.2.2.2.2.length u.2.1 a5.flatten, u.2.2], aS [Row 35 4 p.1 g.2.2.2.2.2.length p.2.1 a6.flatten, p.2.2], W17 an n u.1 u.2.1, W17 al g p.1 p.2.1, F], [aS [Row 35 4 u.1 n.2.2.2.2.2.length u.2.1 a5.flatten, u.2.2], aS [Row 35 4 p.1 g.2.2.2.2.2.length p.2.1 a6.flatten, p.2.2], W17 an n u.1 u.2.1, W17 al g p.1 p.2.1, F]].getD j []) (fun γ => [(4, .bool d1)]) mixed (by decide) (by decide) (by decide) (by decide) (by decide) (by decide) (by decide) 214 O (by decide) (by decide) (by decide) (Ent.refl _) ?_ ?_ (fun _ => ⟨O, trivial⟩) ?_
 exact (aq O (fun γ => qp O O (.o (s := 18) O (by decide) .nil) (ap O O underlying47 O O sizeOf32 O) O) (aq O (fun γ => qp O O (.v 0 O O .nil) (ag O O isAgg32 (.obj 3 O O)) O) (aq O (fun γ => qm O (.o (s := 25) O (by decide) .nil) O) (aq O (fun γ => qp O O (.v 1 O O (.v 2 O O .nil)) (gr (l := g.2.2.2.2.2) (lo' := be) (hi' := (g.2.2.2.2.2.length : Int)) O O O O underlying32 sizeOf35 (.inl ⟨O, O⟩) (.inr ⟨_, O⟩) ec ea j0) O) (aq O (fun γ => qp O O (.o (s := 19) O (by decide) .nil) (ap O O underlying47 O O sizeOf32 O) O) (aq O (fun γ => qp O O (.v 4 O O .nil) (ag O O isAgg32 (.obj 2 O O)) O) (aq O (fun γ => qm O (.o (s := 26) O (by decide) .nil) O) (aq O (fun γ => qp O O (.v 5 O O (.v 6 O O .nil)) (gr (l := n.2.2.2.2.2) (lo' := b4) (hi' := (n.2.2.2.2.2.length : Int)) O O O O underlying32 sizeOf35 (.inl ⟨O, O⟩) (.inr ⟨_, O⟩) ed eb j4) O) (aq O (fun γ => qp O O (.v 8 O O .nil) (cK O O) O) zA)))))))))
 exact (ac (fun γ => eo (Z := Unit) (fun z => ()) O O (.v 3 O O (.v 7 O O .nil)) (av (val := fun (r : Bool) (y : Unit) => .bool r) (B := fun _ _ => []) (vs := [.slice c9 ((cut g.2.2.2.2.2 be (g.2.2.2.2.2.length : Int)).length) dl, .slice ds ((cut n.2.2.2.2.2 b4 (n.2.2.2.2.2.length : Int)).length) dz]) (cap := []) (A := []) (rst := [aS [Row 35 4 u.1 n.q4.2.length u.2.1 a5.flatten, u.2.2], aS [Row 35 4 p.1 g.q4.2.length p.2.1 a6.flatten, p.2.2], W17 an n u.1 u.2.1, W17 al g p.1 p.2.1, F]) O O O O O O call19 (.s O (.s O (.s O (.s O (.s O .n))))) (bZ.calls _ _ k c9 dl (cut g.2.2.2.2.2 be (g.2.2.2.2.2.length : Int)) ds dz (cut n.2.2.2.2.2 b4 (n.2.2.2.2.2.length : Int)) (j1.up (Up.lend 1 O) (V35.up (Up.lend 1 O))) j2 (Nat.le_trans j3 ih) (j5.up (Up.lend 0 O) (V35.up (Up.lend 0 O))) j6 (Nat.le_trans j7 jg)) j8) (fun _ => ⟨O, O, O, O, O, O, O, O, trivial⟩) (fun _ => .inr O) (fun z => Ent.refl _)) zA)
 intro t1
 refine aa (aA ?_)
 exact aE () O O O (.sel 4 O .n)
 refine ah (av (vs := [Pt x.1, Iv x0]) (cap := []) (A := [W5 x.1 a3.1 a0.2.2, ao (aj a3.1 ar ak a3.2) ai a3.2 a0.2.1]) (rst := [W7 af.1 x.1 c.2 t.1 t.2.1 t.2.2.2.1 t.q4.1, Row 3 1 t.1 c.2.2.1.length t.2.1 b1.flatten, Row 144 5 t.2.2.2.1 c.q8.2.1.length t.q4.1 b2.flatten, t.2.2.1, F]) O O O O O O call15 (.s O (.s O (.s O (.s O (.s O (.s O (.s O .n))))))) (bD.callsN _ _ k x.1 a3.1 a3.2 a0.2.1 a0.2.2.1 a0.2.2.2.1 a0.2.2.2.2 x0 (hgl.lend 4 O)) (kv d3 (eq_false_of_ne_true ch))) O O O ?_
 intro t2
 refine vm O O (vq (bI O O O) O (vq (bI O O O) O (vq (bI O O O) O (va O O (va O O (va O O (ae (aa (ay (sr (vm O O (vq (kE O O O underlying36) O (vm O O (aD O O O O O O (vq (bS O O O O O) O (vm O O (aD O O O O O O (aD O O O O O O (aD O O O O O O (vq (bS O O O O O) O (ae (aa (gh O (sr (va O O (ae (aa (aA (aN ?_)))))))))))))))))))))))))))))
 exact aE () O O O (.sel 6 O .n)
 refine sr (va O O (ae (aa (aA (aN ?_)))))
 exact aE () O O O (.sel 6 O .n)
 refine ah (av (vs := [Pt x.1, Iv x0]) (cap := []) (A := [W5 x.1 x.2.1 bd.2, ao (aj x.2.1 ar ak x.2.2) ai x.2.2 bd.1]) (rst := [F]) O O O O O O call15 (.s O (.s O (.s O .n))) (bD.callsN _ _ k x.1 x.2.1 x.2.2 bd.1 bd.2.1 bd.2.2.1 bd.2.2.2 x0 (hgl.lend 0 O)) (kv eg (eq_false_of_ne_true c6))) O O O ?_
 intro b0
 refine vm O O (vq (bI O O O) O (vq (bI O O O) O (vq (bI O O O) O (va O O (va O O (va O O (nx (va O O (ae (aa ?_))))))))))
 refine bJ (S := Unit) Unit (fun s y => [(0, Iv x0), (7, Pt x.1), (8, .pointer none), (11, Iv 0)]) (fun s y => [W5 x.1 b0.2.2.2.2.2.2.1 a2.2.2.2.2.2.2.2.2.2.2.2.2.2.2, ao (aj b0.2.2.2.2.2.2.1 ar ak b0.2.2.2.2.2.2.2) ai b0.2.2.2.2.2.2.2 a2.2.2.2.2.2.2.2.2.2.2.2.2.2.1, F]) ?_ ?_
 refine sr (va O O (ae (aa (aR ?_))))
 refine ck (S := Unit) Unit (fun k s => aV.l3 k) (fun s y => [(0, Iv x0), (1, .slice a1 x1.length c1), (7, Pt x.1), (8, .pointer none), (11, Iv 0), (12, Iv 0)]) (fun s y => [W5 x.1 b0.2.2.2.2.2.2.1 a2.2.2.2.2.2.2.2.2.2.2.2.2.2.2, ao (aj b0.2.2.2.2.2.2.1 ar ak b0.2.2.2.2.2.2.2) ai b0.2.2.2.2.2.2.2 a2.2.2.2.2.2.2.2.2.2.2.2.2.2.1, F]) (fun _ => by rw [aV.l3]) ?_ k () () ⟨O, O, O, O, O, O, trivial⟩ (.s O (.s O (.s O .n)))
 intro k t3 t4
 refine cS (by rw [aV.l3]) (ay (sr (vm O O (vm O O (vq (bx O O O underlying51) O (vq (cL O O O) O (vm O O (aw (b := decide ((0 : Int) < (x1.length : Int))) (fun p5 => RQ.sub (E' := [(8, .pointer none)]) ⟨O, trivial⟩ (bh O O)) O O O O O (aw (b := decide ((0 : Int) < (x1.length : Int))) (fun j9 => RQ.sub (E' := [(58, .pointer none)]) ⟨aH O j9, trivial⟩ (uz O O O underlying36)) O O O O O (vq (dK O O O) O (ae (aa (tB (b := (decide ((0 : Int) < (x1.length : Int))) && false) O (by simp) (cA (ce (cl (cf ?_)))))))))))))))))
 exact aG (s := ()) () ⟨O, O, O, O, trivial⟩ (.s O (.s O (.s O .n)))
 intro t5 t6
 refine ay (sr (vm O O (vq (kE O O O underlying36) O (vm O O (aD O O O O O O (aD O O O O O O (aD O O O O O O (aD O O O O O O (vq (bS O O O O O) O (ae (aa (gh O (sr (va O O (ae (aa (aA (aN ?_))))))))))))))))))
 exact aE () O O O (.sel 2 O .n)
end Go.Proofs.YtndjkejhacfpdaaGreatDoor

namespace Go.Proofs.YtndjkejhacfpdaaGreatDoor
open Go.RowKit

theorem w64 {n : Int} (u : -9223372036854775808 ≤ n) (h1 : n ≤ 9223372036854775807) : IntKind.i64.wrap n = n := by rw [IntKind.wrap_i64]; omega
theorem w8 {n : Int} (u : 0 ≤ n) (h1 : n < 256) : IntKind.u8.wrap n = n := by rw [IntKind.wrap_u8]; omega
theorem mM (n : Int) (u : 0 ≤ n) (D : n < 2 ^ 63) : IntKind.i64.wrap n = n := by rw [IntKind.wrap_i64]; omega
theorem yj {n : Int} (u : 0 ≤ n) (h1 : n < 2 ^ 63) : bU .and .i64 n 127 = n % 128 := bits_mask .i64 63 (by decide) mM 7 (by decide) n u h1
theorem xJ {n : Int} (u : 0 ≤ n) (h1 : n < 256) : bU .and .u8 n 127 = n % 128 := bits_mask .u8 8 (by decide) wraps_u8 7 (by decide) n u h1
theorem yT {n : Int} (u : 0 ≤ n) (h1 : n < 128) : bU .or .i64 n 128 = n + 128 := by
 obtain ⟨a, rfl⟩ := Int.eq_ofNat_of_zero_le u
 have D : a < 128 := by omega
 have e := (bits_nat .i64 63 (by decide) mM a 128 (by omega) (by decide)).2
 show bits .or .i64 (a : Int) ((128 : Nat) : Int) = _
 rw [e]
 have G := Nat.two_pow_add_eq_or_of_lt (i := 7) (b := a) D 1
 have : a ||| 128 = 128 + a := by rw [Nat.or_comm]; simpa using G.symm
 rw [this]; omega
theorem yh (n : Nat) : Int.fdiv (n : Int) (2 ^ (min (7 : Int).toNat IntKind.i64.bits)) = ((n / 128 : Nat) : Int) := by
 show Int.fdiv (n : Int) 128 = _
 rw [Int.fdiv_eq_ediv_of_nonneg _ (by decide)]
 simp
theorem uy (b : UInt8) : dL (b.toNat : Int) = b := by simp [dL]
theorem oU (l : List UInt8) (i : Nat) : (l.getD i 0).toNat < 256 := UInt8.toNat_lt _

def sv (n : Nat) : List UInt8 := if h : n < 128 then [UInt8.ofNat n] else UInt8.ofNat (n % 128 + 128) :: sv (n / 128)
theorem mY {n : Nat} (h : n < 128) : sv n = [UInt8.ofNat n] := by rw [sv]; simp [h]
theorem qg {n : Nat} (h : 128 ≤ n) : sv n = UInt8.ofNat (n % 128 + 128) :: sv (n / 128) := by rw [sv]; simp [Nat.not_lt.2 h]
theorem xa (n : Nat) : sv n ≠ [] := by rw [sv]; split <;> simp
theorem mx (n : Nat) : 0 < (sv n).length := List.length_pos_iff.2 (xa n)
theorem vf : ∀ (j n : Nat), n < 128 ^ (j + 1) → (sv n).length ≤ j + 1
 | 0, n, h => by rw [mY (by simpa using h)]; simp
 | j + 1, n, h => by
  by_cases hn : n < 128
  ·rw [mY hn]; simp
  ·rw [qg (by omega)]
   have := vf j (n / 128) (by rw [Nat.pow_succ] at h; exact Nat.div_lt_of_lt_mul (by rw [Nat.mul_comm]; exact h))
   simp; omega
theorem sv9 {n : Nat} (h : n < 2 ^ 63) : (sv n).length ≤ 9 := vf 8 n (by omega)
def dT : List UInt8 → Nat
 | [] => 0
 | b :: l => if 128 ≤ b.toNat then dT l + 1 else 0
def kM : Nat → List UInt8 → Nat
 | 0, l => (l.getD 0 0).toNat % 128
 | k + 1, l => (l.getD 0 0).toNat % 128 + 128 * kM k (l.drop 1)
theorem sZ : ∀ l : List UInt8, dT l ≤ l.length
 | [] => Nat.le_refl _
 | b :: l => by simp only [dT]; have := sZ l; split <;> simp <;> omega
theorem pE : ∀ (l : List UInt8) (i : Nat), i < dT l → 128 ≤ (l.getD i 0).toNat
 | [], i, h => by simp [dT] at h
 | b :: l, i, h => by
  simp only [dT] at h
  split at h
  ·cases i with
   | zero => simpa
   | succ i => simpa using pE l i (by omega)
  ·omega
theorem pF : ∀ (l : List UInt8), dT l < l.length → (l.getD (dT l) 0).toNat < 128
 | [], h => by simp [dT] at h
 | b :: l, h => by
  simp only [dT] at h ⊢
  split
  ·rename_i u; rw [if_pos u] at h; simpa using pF l (by simpa using h)
  ·simp; omega
def dec (l : List UInt8) : Int × Int × Int :=
 if l = [] then (0, 0, 2) else
 if 9 ≤ dT l then (0, 0, 4) else
 if l.length ≤ dT l then (0, 0, 2) else
 if 0 < dT l ∧ (l.getD (dT l) 0).toNat = 0 then (0, 0, 4) else
 if 2 ^ 62 < kM (dT l) l then (0, 0, 1) else (((kM (dT l) l : Nat) : Int), ((dT l + 1 : Nat) : Int), (0 : Int))
theorem ta : ∀ (n : Nat) (r : List UInt8), dT (sv n ++ r) + 1 = (sv n).length ∧ kM (dT (sv n ++ r)) (sv n ++ r) = n ∧ (n ≠ 0 → ((sv n ++ r).getD (dT (sv n ++ r)) 0).toNat ≠ 0)
 | n, r => by
  by_cases hn : n < 128
  ·rw [mY hn]
   have e : (UInt8.ofNat n).toNat = n := by rw [UInt8.toNat_ofNat']; omega
   have : ¬ 128 ≤ (UInt8.ofNat n).toNat := by rw [e]; omega
   have h1 : dT ([UInt8.ofNat n] ++ r) = 0 := by show (if 128 ≤ (UInt8.ofNat n).toNat then _ else _) = 0; rw [if_neg this]
   rw [h1]
   refine ⟨rfl, ?_, fun h => ?_⟩
   ·simp only [kM, List.singleton_append, List.getD_cons_zero, e]; omega
   ·simp only [List.singleton_append, List.getD_cons_zero, e]; exact h
  ·rw [qg (by omega)]
   have e : (UInt8.ofNat (n % 128 + 128)).toNat = n % 128 + 128 := by rw [UInt8.toNat_ofNat']; omega
   have u := ta (n / 128) r
   have h1 : dT (UInt8.ofNat (n % 128 + 128) :: sv (n / 128) ++ r) = dT (sv (n / 128) ++ r) + 1 := by
    show (if 128 ≤ (UInt8.ofNat (n % 128 + 128)).toNat then _ else _) = _
    rw [if_pos (by omega)]; rfl
   rw [h1]
   refine ⟨by simp [u.1], ?_, fun h => ?_⟩
   ·simp only [kM, List.cons_append, List.getD_cons_zero, List.drop_succ_cons, List.drop_zero, e, u.2.1]; omega
   ·simp only [List.cons_append, List.getD_cons_succ]; exact u.2.2 (by omega)
 termination_by n => n
theorem yF {n : Nat} (h : n ≤ 2 ^ 62) (r : List UInt8) : dec (sv n ++ r) = (((n : Nat) : Int), (((sv n).length : Nat) : Int), (0 : Int)) := by
 obtain ⟨h1, u, D⟩ := ta n r
 have G := sv9 (n := n) (by omega)
 have hp := mx n
 unfold dec
 rw [if_neg (fun e => xa n (List.append_eq_nil_iff.1 e).1), if_neg (by omega), if_neg (by rw [List.length_append]; omega), if_neg, if_neg (by omega)]
 ·rw [u, h1]
 ·rintro ⟨x, y⟩
  by_cases hn : n = 0
  ·subst hn; have I : (sv 0).length = 1 := by rw [mY (by decide)]; rfl
   omega
  ·exact D hn y
end Go.Proofs.YtndjkejhacfpdaaGreatDoor

namespace Go.Proofs.YtndjkejhacfpdaaGreatDoor
open Go.RowKit

theorem pm : ∀ (j n c k : Nat), n < 128 ^ (j + 1) → j + 1 ≤ k → c + j < 1000 → eL.l0 k (n : Int) (c : Int) = some (((c + ((sv n).length - 1) : Nat)) : Int)
 | j, n, c, 0, _, hk, _ => by omega
 | j, n, c, k + 1, h, hk, hc => by
  simp only [eL.l0]
  by_cases hn : n < 128
  ·rw [if_neg (by omega), mY hn]; simp
  ·rw [if_pos (by omega), yh]
   cases j with
   | zero => simp at h; omega
   | succ j =>
    rw [w64 (by omega) (by omega)]
    have := pm j (n / 128) (c + 1) k (by rw [Nat.pow_succ] at h; exact Nat.div_lt_of_lt_mul (by rw [Nat.mul_comm]; exact h)) (by omega) (by omega)
    have e : ((c : Int) + 1) = ((c + 1 : Nat) : Int) := by simp
    rw [e, this, qg (n := n) (by omega)]
    have := mx (n / 128)
    simp only [List.length_cons, Option.some.injEq, Int.ofNat_inj]
    omega
def okN (x : Int) : Prop := 0 ≤ x ∧ x ≤ 4611686018427387904
instance (x : Int) : Decidable (okN x) := by unfold okN; exact inferInstance
def qh (x : Int) : Int := if okN x then ((sv x.toNat).length : Nat) else 0
theorem pn (x : Int) : ((decide (x < (0 : Int))) || (decide ((4611686018427387904 : Int) < x))) = true ↔ ¬ okN x := by
 unfold okN; simp; omega
theorem qs {k : Nat} (u : 10 ≤ k) (x : Int) : eL.f k x = some (qh x) := by
 unfold eL.f qh
 by_cases h : okN x
 ·rw [if_neg (by rw [pn]; simpa using h), if_pos h]
  obtain ⟨n, rfl⟩ := Int.eq_ofNat_of_zero_le h.1
  have D : n ≤ 4611686018427387904 := by have := h.2; omega
  have := pm 8 n 1 k (by omega) (by omega) (by omega)
  have e : ((1 : Nat) : Int) = 1 := rfl
  rw [e] at this
  rw [this]
  have := mx n
  simp; omega
 ·rw [if_pos ((pn x).2 h), if_neg h]
/-! The bytes, one by one. -/
theorem yi {n : Nat} (u : n < 2 ^ 63) : IntKind.u8.wrap (bU .or .i64 (bU .and .i64 (n : Int) 127) 128) = ((n % 128 + 128 : Nat) : Int) := by
 rw [yj (by omega) (by omega), yT (by omega) (by omega), w8 (by omega) (by omega)]
 simp
theorem nt {S : Type} (u : S → Int → Option S) : ∀ (j n : Nat) (s : S) (k : Nat), n < 128 ^ (j + 1) → j + 1 ≤ k → n < 2 ^ 63 → ((cX.l0 u k (n : Int) s).bind fun r => u r.2 (IntKind.u8.wrap r.1)) = kR u s ((sv n).map fun b => (b.toNat : Int))
 | j, n, s, 0, _, hk, _ => by omega
 | j, n, s, k + 1, h, hk, hs => by
  simp only [cX.l0]
  by_cases hn : n < 128
  ·rw [if_neg (by omega), mY hn]
   have e : (UInt8.ofNat n).toNat = n := by rw [UInt8.toNat_ofNat']; omega
   simp only [Option.bind_some, List.map_cons, List.map_nil, kR, e]
   rw [w8 (by omega) (by omega)]
   cases u s (n : Int) <;> rfl
  ·rw [if_pos (by omega), yh, yi hs, qg (by omega)]
   have e : (UInt8.ofNat (n % 128 + 128)).toNat = n % 128 + 128 := by rw [UInt8.toNat_ofNat']; omega
   simp only [List.map_cons, kR, e]
   cases j with
   | zero => simp at h; omega
   | succ j =>
    cases u s ((n % 128 + 128 : Nat) : Int) with
    | none => rfl
    | some s' => exact nt u j (n / 128) s' k (by rw [Nat.pow_succ] at h; exact Nat.div_lt_of_lt_mul (by rw [Nat.mul_comm]; exact h)) (by omega) (by omega)
theorem ux {S : Type} {k : Nat} (G : 10 ≤ k) (u : S → Int → Option S) (s : S) {n : Nat} (D : n < 2 ^ 63) : cX.f k u s (n : Int) = kR u s ((sv n).map fun b => (b.toNat : Int)) := by
 rw [← nt u 8 n s k (by omega) (by omega) D]
 unfold cX.f
 congr 1
 funext r
 cases u r.2 (IntKind.u8.wrap r.1) <;> rfl
def qt (s : List UInt8) (x : Int) : Option (List UInt8) := if 0 ≤ x ∧ x < 256 then (if (s.length + ([(dL x)] : List UInt8).length) * 1 ≤ 140737488355328 then (some (s ++ ([(dL x)] : List UInt8))) else none) else none
theorem sF : ∀ (l s : List UInt8), s.length + l.length ≤ 140737488355328 → kR qt s (l.map fun b => (b.toNat : Int)) = some (s ++ l)
 | [], s, _ => by simp [kR]
 | b :: l, s, h => by
  have u := UInt8.toNat_lt b
  simp only [List.length_cons] at h
  simp only [List.map_cons, kR, qt]
  rw [if_pos (by omega), if_pos (by simp; omega)]
  simp only [Option.bind_some, uy]
  rw [sF l (s ++ [b]) (by simp; omega)]
  simp
def aM (x : Int) : List UInt8 := if okN x then sv x.toNat else []
def erV (x : Int) : Int := if okN x then 0 else 1
theorem oh (x : Int) : qh x = 0 ↔ ¬ okN x := by
 unfold qh
 have := mx x.toNat
 split
 ·rename_i h; simp only [h, not_true_eq_false, iff_false]; omega
 ·rename_i h; simp [h]
/-! Two byte lists. -/
end Go.Proofs.YtndjkejhacfpdaaGreatDoor

namespace Go.Proofs.YtndjkejhacfpdaaGreatDoor
open Go.RowKit

def fB : Nat → List UInt8 → Nat
 | 0, _ => 0
 | i + 1, l => fB i l + (l.getD i 0).toNat % 128 * 128 ^ i
theorem sd : ∀ (i : Nat) (l : List UInt8), fB i l < 128 ^ i
 | 0, l => by simp [fB]
 | i + 1, l => by
  have := sd i l
  have u := Nat.mod_lt (l.getD i 0).toNat (show 128 > 0 by decide)
  simp only [fB]
  rw [Nat.pow_succ]
  have D : (l.getD i 0).toNat % 128 * 128 ^ i ≤ 127 * 128 ^ i := Nat.mul_le_mul_right _ (by omega)
  omega
theorem oQ : ∀ (i : Nat) (b : UInt8) (l : List UInt8), fB (i + 1) (b :: l) = b.toNat % 128 + 128 * fB i l
 | 0, b, l => by simp [fB]
 | i + 1, b, l => by
  rw [fB, oQ i b l, fB]
  simp only [List.getD_cons_succ]
  rw [Nat.pow_succ, Nat.mul_add, Nat.add_assoc]
  congr 2
  rw [Nat.mul_comm (128 ^ i) 128, ← Nat.mul_assoc, ← Nat.mul_assoc, Nat.mul_comm _ 128]
theorem pZ : ∀ (k : Nat) (l : List UInt8), kM k l = fB (k + 1) l
 | 0, l => by simp [kM, fB]
 | k + 1, [] => by
  have z : ∀ k, kM k ([] : List UInt8) = 0 := by
   intro k; induction k with
   | zero => rfl
   | succ k ih => simp [kM, ih]
  have z2 : ∀ k, fB k ([] : List UInt8) = 0 := by
   intro k; induction k with
   | zero => rfl
   | succ k ih => simp [fB, ih]
  rw [z, z2]
 | k + 1, b :: l => by
  rw [oQ, kM, pZ k]
  simp
theorem vF (l : List UInt8) (p i : Nat) : l.getD (p + i) 0 = (l.drop p).getD i 0 := by simp [List.getD_eq_getElem?_getD, List.getElem?_drop]
theorem yg {n c i : Nat} (u : n < 128 ^ i) (I : c < 128) (hi : i ≤ 8) : bU .or .i64 (n : Int) ((c * 128 ^ i : Nat) : Int) = ((n + c * 128 ^ i : Nat) : Int) := by
 have hp : (128 : Nat) ^ i = 2 ^ (7 * i) := by rw [Nat.pow_mul]
 have D : (128 : Nat) ^ i ≤ 128 ^ 8 := Nat.pow_le_pow_right (by decide) hi
 have G : c * 128 ^ i ≤ 127 * 128 ^ i := Nat.mul_le_mul_right _ (by omega)
 have e := (bits_nat .i64 63 (by decide) mM n (c * 128 ^ i) (by omega) (by omega)).2
 show bits .or .i64 _ _ = _
 rw [e, Nat.or_comm, Nat.mul_comm, hp, ← Nat.two_pow_add_eq_or_of_lt (by rw [← hp]; exact u) c, Nat.add_comm]
theorem wN {c i : Nat} (U : c < 256) (hi : i ≤ 8) : IntKind.i64.wrap ((IntKind.i64.wrap (bU .and .u8 (c : Int) 127)) * 2 ^ (min (IntKind.i64.wrap (7 * (i : Int))).toNat IntKind.i64.bits)) = ((c % 128 * 128 ^ i : Nat) : Int) := by
 have u : IntKind.i64.wrap (7 * (i : Int)) = ((7 * i : Nat) : Int) := by rw [w64 (by omega) (by omega)]; simp
 have D : bU .and .u8 (c : Int) 127 = ((c % 128 : Nat) : Int) := by rw [xJ (by omega) (by omega)]; simp
 have G : min ((7 * i : Nat) : Int).toNat IntKind.i64.bits = 7 * i := by
  show min ((7 * i : Nat) : Int).toNat 64 = 7 * i
  simp; omega
 have hp : (128 : Nat) ^ i = 2 ^ (7 * i) := by rw [Nat.pow_mul]
 have I : (128 : Nat) ^ i ≤ 128 ^ 8 := Nat.pow_le_pow_right (by decide) hi
 have J : c % 128 * 128 ^ i ≤ 127 * 128 ^ i := Nat.mul_le_mul_right _ (by omega)
 rw [u, D, G, w64 (n := ((c % 128 : Nat) : Int)) (by omega) (by omega)]
 have L : ((c % 128 : Nat) : Int) * 2 ^ (7 * i) = ((c % 128 * 128 ^ i : Nat) : Int) := by rw [hp]; simp
 rw [L, w64 (by omega) (by omega)]
theorem mq {l : List UInt8} {i : Nat} (hi : dT l = i) (G : i < 9) (u : i < l.length) :
  dec l = if 0 < i ∧ (l.getD i 0).toNat = 0 then (0, 0, 4) else if 2 ^ 62 < fB (i + 1) l then (0, 0, 1) else (((fB (i + 1) l : Nat) : Int), ((i + 1 : Nat) : Int), (0 : Int)) := by
 have D : l ≠ [] := by rintro rfl; simp at u
 unfold dec
 rw [if_neg D, hi, if_neg (by omega), if_neg (by omega), pZ]
theorem rS {l : List UInt8} (D : 9 ≤ dT l) : dec l = (0, 0, 4) := by
 have u : l ≠ [] := by rintro rfl; simp [dT] at D
 unfold dec
 rw [if_neg u, if_pos D]
theorem pS {l : List UInt8} (D : dT l < 9) (u : l.length ≤ dT l) : dec l = (0, 0, 2) := by
 unfold dec
 by_cases hne : l = []
 ·rw [if_pos hne]
 ·rw [if_neg hne, if_neg (by omega), if_pos u]
def jA (b : List UInt8) (u : Int) : Int × Int × Int := if u < 0 ∨ (b.length : Int) ≤ u then (0, 0, 2) else dec (b.drop u.toNat)
theorem se (b : List UInt8) (x : Int) : ((decide (x < (0 : Int))) || (decide ((b.length : Int) ≤ x))) = true ↔ (x < 0 ∨ (b.length : Int) ≤ x) := by simp
theorem sf (b : List UInt8) (p : Nat) (hp : p < b.length) (hb : b.length < 2 ^ 62) : ∀ (d i k : Nat), i + d = 9 → d + 1 ≤ k → i ≤ dT (b.drop p) →
  (orR (fb.l0 b (p : Int) k ((fB i (b.drop p) : Nat) : Int) (i : Int)) fun _ => some ((0 : Int), (0 : Int), (4 : Int))) = some (dec (b.drop p))
 | d, i, 0, _, hk, _ => by omega
 | 0, i, k + 1, hd, hk, hl => by
  have u : b.drop p ≠ [] := by intro e; have := congrArg List.length e; simp at this; omega
  simp only [fb.l0]
  rw [if_neg (by omega)]
  simp only [orR, Option.some.injEq]
  unfold dec
  rw [if_neg u, if_pos (by omega)]
 | d + 1, i, k + 1, hd, hk, hl => by
  have u : b.drop p ≠ [] := by intro e; have := congrArg List.length e; simp at this; omega
  have X : (b.drop p).length = b.length - p := by simp
  have af := sZ (b.drop p)
  simp only [fb.l0]
  rw [if_pos (by omega)]
  by_cases hend : b.length - p ≤ i
  ·rw [w64 (n := (b.length : Int) - (p : Int)) (by omega) (by omega), if_pos (by omega)]
   simp only [orR, Option.some.injEq]
   unfold dec
   rw [if_neg u, if_neg (by omega), if_pos (by omega)]
  ·have I : IntKind.i64.wrap ((p : Int) + (i : Int)) = ((p + i : Nat) : Int) := by rw [w64 (by omega) (by omega)]; simp
   have e7 : IntKind.i64.wrap (7 * (i : Int)) = ((7 * i : Nat) : Int) := by rw [w64 (by omega) (by omega)]; simp
   have J : IntKind.i64.wrap ((i : Int) + 1) = ((i + 1 : Nat) : Int) := by rw [w64 (by omega) (by omega)]; simp
   have hc := oU (b.drop p) i
   have L := sd i (b.drop p)
   have U := wN (c := ((b.drop p).getD i 0).toNat) (i := i) hc (by omega)
   have G := yg (c := ((b.drop p).getD i 0).toNat % 128) (i := i) L (Nat.mod_lt _ (by decide)) (by omega)
   have D : fB i (b.drop p) + ((b.drop p).getD i 0).toNat % 128 * 128 ^ i = fB (i + 1) (b.drop p) := rfl
   rw [D] at G
   rw [w64 (n := (b.length : Int) - (p : Int)) (by omega) (by omega), if_neg (by omega)]
   rw [I, if_pos (by omega)]
   rw [if_pos (by rw [e7]; omega)]
   simp only [Int.toNat_natCast, vF]
   rw [U, G, J]
   by_cases hcont : 128 ≤ ((b.drop p).getD i 0).toNat
   ·rw [if_pos (by omega)]
    refine sf b p hp hb d (i + 1) k (by omega) (by omega) ?_
    refine Classical.byContradiction fun hx => ?_
    have hi : dT (b.drop p) = i := by omega
    have := pF (b.drop p) (by omega)
    rw [hi] at this
    omega
   ·have hi : dT (b.drop p) = i := by
     refine Nat.le_antisymm (Nat.not_lt.1 fun hx => ?_) hl
     exact hcont (pE _ i hx)
    rw [mq hi (by omega) (by omega), if_neg (by omega)]
    by_cases hz : 0 < i ∧ ((b.drop p).getD i 0).toNat = 0
    ·rw [if_pos (by simp only [Bool.and_eq_true, decide_eq_true_eq]; omega), if_pos hz]
     rfl
    ·rw [if_neg (by simp only [Bool.and_eq_true, decide_eq_true_eq]; omega), if_neg hz]
     by_cases hbig : 2 ^ 62 < fB (i + 1) (b.drop p)
     ·rw [if_pos (by omega), if_pos hbig]; rfl
     ·rw [if_neg (by omega), if_neg hbig]; rfl
theorem sA {k : Nat} (u : 10 ≤ k) {b : List UInt8} (D : b.length < 2 ^ 62) (x : Int) : fb.f k b x = some (jA b x) := by
 unfold fb.f jA
 by_cases h : x < 0 ∨ (b.length : Int) ≤ x
 ·rw [if_pos ((se b x).2 h), if_pos h]
 ·rw [if_neg (by rw [se]; exact h), if_neg h]
  obtain ⟨p, rfl⟩ := Int.eq_ofNat_of_zero_le (show 0 ≤ x by omega)
  exact sf b p (by omega) D 9 0 k (by omega) u (Nat.zero_le _)
end Go.Proofs.YtndjkejhacfpdaaGreatDoor

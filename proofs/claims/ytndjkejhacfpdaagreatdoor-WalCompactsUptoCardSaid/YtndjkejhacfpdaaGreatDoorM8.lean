/- Texts that lead to the law WalCompacts: G7, G, Pl1, PlWire, PlWire2, PlGen, PlRd, PlWt, PlCd, PlCd2, PlCd3, PlMap. Conditions: as each says. -/
import Derived.Test.YtndjkejhacfpdaaGreatDoorM7
import Derived.Laws.BitsLemmas
import Derived.SizedLaws
set_option linter.unusedVariables false
set_option linter.unusedSimpArgs false
set_option linter.unusedSectionVars false
namespace Go.Proofs.YtndjkejhacfpdaaGreatDoor
open Go.RowKit _root_.Go.Proofs.Tryz
set_option maxRecDepth 20000
set_option maxHeartbeats 20000000
def dZ.l0 (a : List (aF)) : Nat → Int → List (bn) → Option ((List (bn)))
  | 0, _, _ => none
  | k + 1, b, c => if b < (a.length : Int) then (if 0 ≤ b ∧ b < (a.length : Int) then ((cm.f ((a.getD b.toNat av).2.2.2.1)).bind fun d => (if (c.length + ([((a.getD b.toNat av).1, (a.getD b.toNat av).2.1, (a.getD b.toNat av).2.2.1, d)] : List (bn)).length) * 48 ≤ 140737488355328 then (dZ.l0 a k (IntKind.i64.wrap (b + 1)) (c ++ ([((a.getD b.toNat av).1, (a.getD b.toNat av).2.1, (a.getD b.toNat av).2.2.1, d)] : List (bn)))) else none)) else none) else (some c)
def dZ.f (k : Nat) (a : Int) (b : Int) (c : Int) (d : Int) (e : Int) (g : List (aF)) : Option (Int × Int × Int × Int × Int × (List (bn))) := (dZ.l0 g k 0 ([] : List (bn))).bind fun h => (some (a, b, c, d, e, h))
theorem dZ.calls (W : World) (F : HA) (k : Nat) (b0 : Nat) (e : Int) (g : Int) (h : Int) (n : Int) (p : Int) (u : Option Addr) (t : Nat) (a : List aF) (b1 : RdV F 5 (aP F) u a) (b3 : a.length ≤ t) (b4 : t ≤ maxLen) :
    Fn Tryz.prog W 54 [Pt b0] [W11 b0 e g h n p a u t] F (dZ.f k e g h n p a) (fun (r : Int × Int × Int × Int × Int × (List bn)) (y : Option Addr × Nat × HA) => .agg #[Iv r.1, Iv r.2.1, Iv r.2.2.1, Iv r.2.2.2.1, Iv r.2.2.2.2.1, .slice y.1 r.2.2.2.2.2.length y.2.1]) (fun r y => [ar 35 4 (V35 y.2.2) y.1 r.2.2.2.2.2 y.2.1, y.2.2, W11 b0 e g h n p a u t]) := by
 unfold dZ.f
 refine aL 43 Tryz.func54 O Tryz.ntmps54 O (sr (ah (bM O zeroValue47 O) O O O ?_))
 intro w
 refine ae (aa (ay ?_))
 refine ba (Γ := Nat) 0 [[], [0], [0, 1], [0, 1, 2], [], [4], [4, 5], [4, 5, 6], [], [8], [8, 9], [8, 9, 10], rL 12, [], rL 14] [13, 14] [0, 1, 2, 3, 4, 5, 6, 7, 8, 9, 10, 11, 12] (fun i => [[0, 1], [0, 1], [0, 1], [0, 1], [0, 1], [0, 1], [0, 1], [0, 1], [0, 1], [0, 1], [0, 1], [0, 1], [0, 1], [], []].getD i []) (fun i => [[], [], [], [], [], [], [], [], [], [], [], [], [], rL 13, rL 14].getD i []) (fun γ i => [Pt b0, Pt b0, Pt b0, .agg #[Iv e, Iv g, Iv h], Pt b0, Pt b0, .pointer (some ⟨b0, 3, none⟩), Iv n, Pt b0, Pt b0, .pointer (some ⟨b0, 4, none⟩), Iv p, .agg #[Iv e, Iv g, Iv h, Iv n, Iv p, .slice none 0 0], Pt γ, undef].getD i undef) (fun j γ => [[obj w 47 [Iv 0, Iv 0, Iv 0, Iv 0, Iv 0, .slice none 0 0], W11 b0 e g h n p a u t, F], [obj γ 47 [Iv 0, Iv 0, Iv 0, Iv 0, Iv 0, .slice none 0 0], obj w 47 [Iv 0, Iv 0, Iv 0, Iv 0, Iv 0, .slice none 0 0], W11 b0 e g h n p a u t, F], [obj γ 47 [Iv e, Iv g, Iv h, Iv n, Iv p, .slice none 0 0], obj w 47 [Iv 0, Iv 0, Iv 0, Iv 0, Iv 0, .slice none 0 0], W11 b0 e g h n p a u t, F]].getD j []) (fun γ => [(0, Pt b0), (2, Pt w), (3, Pt γ)]) mixed (by decide) (by decide) (by decide) (by decide) (by decide) (by decide) (by decide) 43 O (by decide) (by decide) (by decide) (Ent.refl _) ?_ ?_ (fun _ => ⟨O, O, O, trivial⟩) ?_
 exact (ac (fun γ => (ac (qm O (.o (s := 0) O (by decide) .nil) O) (ac (qm O (.o (s := 0) O (by decide) .nil) O) zA))) (ac (fun γ => (ac (qp O O (.v 0 O O .nil) (aS O O) O) (ac (qp O O (.v 0 O O .nil) (aS O O) O) zA))) (ac (fun γ => (ac (qp O O (.v 1 O O .nil) (ap O O underlying89 O O sizeOf43 O) O) (ac (qp O O (.v 1 O O .nil) (ap O O underlying89 O O sizeOf43 O) O) zA))) (ac (fun γ => (ac (qp O O (.v 2 O O .nil) (cn (vs := [Iv e, Iv g, Iv h]) O O isAgg43 sizeOf43 O (cY 1 O (cG O))) O) (ac (qp O O (.v 2 O O .nil) (cn (vs := [Iv e, Iv g, Iv h]) O O isAgg43 sizeOf43 O (cY 2 O (cG O))) O) zA))) (ac (fun γ => (ac (qm O (.o (s := 0) O (by decide) .nil) O) (ac (qm O (.o (s := 0) O (by decide) .nil) O) zA))) (ac (fun γ => (ac (qp O O (.v 4 O O .nil) (aS O O) O) (ac (qp O O (.v 4 O O .nil) (aS O O) O) zA))) (ac (fun γ => (ac (qp O O (.v 5 O O .nil) (ap O O underlying89 O O sizeOf3 O) O) (ac (qp O O (.v 5 O O .nil) (ap O O underlying89 O O sizeOf3 O) O) zA))) (ac (fun γ => (ac (qp O O (.v 6 O O .nil) (ag O O isAgg3 (.obj 1 O O)) O) (ac (qp O O (.v 6 O O .nil) (ag O O isAgg3 (.obj 2 O O)) O) zA))) (ac (fun γ => (ac (qm O (.o (s := 0) O (by decide) .nil) O) (ac (qm O (.o (s := 0) O (by decide) .nil) O) zA))) (ac (fun γ => (ac (qp O O (.v 8 O O .nil) (aS O O) O) (ac (qp O O (.v 8 O O .nil) (aS O O) O) zA))) (ac (fun γ => (ac (qp O O (.v 9 O O .nil) (ap O O underlying89 O O sizeOf3 O) O) (ac (qp O O (.v 9 O O .nil) (ap O O underlying89 O O sizeOf3 O) O) zA))) (ac (fun γ => (ac (qp O O (.v 10 O O .nil) (ag O O isAgg3 (.obj 1 O O)) O) (ac (qp O O (.v 10 O O .nil) (ag O O isAgg3 (.obj 2 O O)) O) zA))) (ac (fun γ => (ac (qp O O (.v 3 O O (.v 7 O O (.v 11 O O .nil))) (cS (v := .agg #[Iv e, Iv g, Iv h, Iv n, Iv p, .slice none 0 0]) O O (fun _ => by kernel_rfl)) O) (ac (qp O O (.v 3 O O (.v 7 O O (.v 11 O O .nil))) (cS (v := .agg #[Iv e, Iv g, Iv h, Iv n, Iv p, .slice none 0 0]) O O (fun _ => by kernel_rfl)) O) zA))) zA)))))))))))))
 exact (ac (fun γ => eo (Z := Nat) (fun z => z) O O .nil (bM O zeroValue47 O) (fun _ => ⟨O, O, O, O, O, O, O, O, O, O, O, O, O, trivial⟩) (fun _ => .inr O) (fun z => Ent.refl _)) (ac (fun γ => eo (Z := Unit) (fun z => γ) O O (.v 13 O O (.v 12 O O .nil)) (aG 0 O O O sizeOf47 O O (aM (by rfl)) O O) (fun _ => ⟨O, O, O, O, O, O, O, O, O, O, O, O, O, O, trivial⟩) (fun _ => .inl O) (fun z => Ent.refl _)) zA))
 intro af
 refine aa ?_
 refine bF (S := (List bn)) (HA × Option Addr × Nat) (fun s y => [(2, Pt w), (3, Pt af)]) (fun s y => [W12 af e g h n p s y.2.1 y.2.2, obj w 47 [Iv 0, Iv 0, Iv 0, Iv 0, Iv 0, .slice none 0 0], W11 b0 e g h n p a u t, ar 35 4 (V35 y.1) y.2.1 s y.2.2, y.1, F]) ?_ ?_
 refine sr (vm O O (vn O O (vq (ap O O underlying89 O O sizeOf87 O) O (vq (ag O O isAgg87 (.obj 2 O O)) O (vq (bp O O O underlying87) O (vm O O (ae (aa (aQ ?_)))))))))
 refine cr (S := Int × (List bn)) (HA × Option Addr × Nat) (fun k s => dZ.l0 a k s.1 s.2) (fun s y => [(2, Pt w), (3, Pt af), (23, .slice u a.length t), (24, Iv (a.length : Int)), (25, Iv s.1)]) (fun s y => [W12 af e g h n p s.2 y.2.1 y.2.2, obj w 47 [Iv 0, Iv 0, Iv 0, Iv 0, Iv 0, .slice none 0 0], W11 b0 e g h n p a u t, ar 35 4 (V35 y.1) y.2.1 s.2 y.2.2, y.1, F]) (fun _ => by rw [dZ.l0]) ?_ k (0, ([] : List bn)) (tt, none, 0) ⟨O, O, O, O, O, trivial⟩ (.s O (.s O (.s O (.rowV_nil (.tt_in (.s O .n))))))
 intro k b q
 refine cR (by rw [dZ.l0]) (sr (vq (cx O O O) O (ae (aa (ay ?_)))))
 refine bk O (fun b7 => ?_) (fun b8 => ?_)
 refine aC (aa (ay (aQ (sr (bb (fun a2 => ?_))))))
 obtain ⟨b9, b5, cd, a5, a6, b2, hcell19v⟩ := RdV.pos b1 (Up.refl _) rfl (i := b.1.toNat) (by omega) av
 obtain ⟨ab, ad, rfl, ⟨a7, a8, a9⟩⟩ := a6
 refine vq (cK O O O a5 underlying87 sizeOf144 a2.1 a2.2) O (vq (cn O O isAgg144 sizeOf144 O (fun j v hj => hcell19v 5 O j v hj)) O (ah (bM O zeroValue144 O) O O O ?_))
 intro an
 refine aU (aG 0 O O O sizeOf144 O O (aM (by rfl)) O O) O O ?_
 intro _
 refine nx (vq (ap O O underlying144 O O sizeOf35 O) O (vq (cn (vs := [Iv ((a.getD b.1.toNat av).1), Iv ((a.getD b.1.toNat av).2.1), Iv ((a.getD b.1.toNat av).2.2.1), .slice ab (((a.getD b.1.toNat av).2.2.2.1).length) ad]) O O isAgg35 sizeOf35 O (cY 0 O (cG O))) O (ah (bM O zeroValue35 O) O O O ?_)))
 intro az
 refine aU (aG 0 O O O sizeOf35 O O (aM (by rfl)) O O) O O ?_
 intro _
 refine nx (vq (ap O O underlying35 O O sizeOf33 O) O (vq (ag O O isAgg33 (.obj 0 O O)) O (ax (fun d bc => (ah (aw (vs := [.slice ab (((a.getD b.1.toNat av).2.2.2.1).length) ad]) (cap := []) (A := []) (rst := [W13 az (a.getD b.1.toNat av) ab ad, W14 an (a.getD b.1.toNat av) ab ad, W12 af e g h n p b.2 q.2.1 q.2.2, obj w 47 [Iv 0, Iv 0, Iv 0, Iv 0, Iv 0, .slice none 0 0], W11 b0 e g h n p a u t, ar 35 4 (V35 q.1) q.2.1 b.2 q.2.2, q.1, F]) O O O O O O call82 (.s O (.s O (.s O (.s O (.s O (.s O (.s O (.s O .n)))))))) (cm.calls _ _ ab ad ((a.getD b.1.toNat av).2.2.2.1) (a7.lend 7 O) a8 a9) bc) O O O ?_)))))
 intro c
 refine vq (ap O O underlying35 O O sizeOf33 O) O (aU (aG 1 O O O sizeOf33 O O (aM (by rfl)) O O) O O ?_)
 intro _
 refine ny (vq (ap O O underlying47 O O sizeOf32 O) O (vq (ag O O isAgg32 (.obj 3 O O)) O (vq (cj 1 O O isAgg35 sizeOf35 O O) O (bf 0 O (fun bd be br b6 => ?_)))))
 have a0 : bI 4 (V35 (Row 5 1 c.1 d.length c.2 (aB d))) ([((a.getD b.1.toNat av).1, (a.getD b.1.toNat av).2.1, (a.getD b.1.toNat av).2.2.1, d)] : List bn) [[Iv ((a.getD b.1.toNat av).1), Iv ((a.getD b.1.toNat av).2.1), Iv ((a.getD b.1.toNat av).2.2.1), .slice c.1 d.length c.2]] := ⟨⟨rfl, aM (by rfl), ⟨c.1, c.2, rfl, ⟨bd, be, br⟩⟩⟩, trivial⟩
 refine ah (fh (V := (V35 (Row 5 1 c.1 d.length c.2 (aB d)))) (xs := ([((a.getD b.1.toNat av).1, (a.getD b.1.toNat av).2.1, (a.getD b.1.toNat av).2.2.1, d)] : List bn)) [[Iv ((a.getD b.1.toNat av).1), Iv ((a.getD b.1.toNat av).2.1), Iv ((a.getD b.1.toNat av).2.2.1), .slice c.1 d.length c.2]] O O underlying32 lJ O (by kernel_rfl) O a0 O O) O O O ?_
 intro a1
 refine bi 7 O (fun a3 bs => (bR (H' := [aN [Row 5 1 c.1 d.length c.2 (aB d), q.1], Row 35 4 (some ⟨a1, 0, none⟩) ([((a.getD b.1.toNat av).1, (a.getD b.1.toNat av).2.1, (a.getD b.1.toNat av).2.2.1, d)] : List bn).length 1 [[Iv ((a.getD b.1.toNat av).1), Iv ((a.getD b.1.toNat av).2.1), Iv ((a.getD b.1.toNat av).2.2.1), .slice c.1 d.length c.2]].flatten, W15 az ((a.getD b.1.toNat av).1) ((a.getD b.1.toNat av).2.1) ((a.getD b.1.toNat av).2.2.1) d c.1 c.2, W14 an (a.getD b.1.toNat av) ab ad, W12 af e g h n p b.2 q.2.1 q.2.2, obj w 47 [Iv 0, Iv 0, Iv 0, Iv 0, Iv 0, .slice none 0 0], W11 b0 e g h n p a u t, Row 35 4 q.2.1 b.2.length q.2.2 a3.flatten, F]) (Ent.trans (m := [Row 5 1 c.1 d.length c.2 (aB d), q.1, Row 35 4 (some ⟨a1, 0, none⟩) ([((a.getD b.1.toNat av).1, (a.getD b.1.toNat av).2.1, (a.getD b.1.toNat av).2.2.1, d)] : List bn).length 1 [[Iv ((a.getD b.1.toNat av).1), Iv ((a.getD b.1.toNat av).2.1), Iv ((a.getD b.1.toNat av).2.2.1), .slice c.1 d.length c.2]].flatten, W15 az ((a.getD b.1.toNat av).1) ((a.getD b.1.toNat av).2.1) ((a.getD b.1.toNat av).2.2.1) d c.1 c.2, W14 an (a.getD b.1.toNat av) ab ad, W12 af e g h n p b.2 q.2.1 q.2.2, obj w 47 [Iv 0, Iv 0, Iv 0, Iv 0, Iv 0, .slice none 0 0], W11 b0 e g h n p a u t, Row 35 4 q.2.1 b.2.length q.2.2 a3.flatten, F]) (.sel 1 O (.sel 7 O (.s O (.s O (.s O (.s O (.s O (.s O (.s O (.s O .n)))))))))) (fG [Row 5 1 c.1 d.length c.2 (aB d), q.1] _)) (bb (fun bt => (ah (ez 7 O O O underlying32 lJ O (bs.mono (V35.up (Up.lend (l := [Row 5 1 c.1 d.length c.2 (aB d), q.1]) 1 O))) (gj.row (a0.mono (V35.up (Up.lend (l := [Row 5 1 c.1 d.length c.2 (aB d), q.1]) 0 O))) 1 O) bt) O O O ?_)))))
 intro al
 refine vq (ap O O underlying47 O O sizeOf32 O) O (aU (aG 4 O O O sizeOf32 O O (aM (by rfl)) O O) O O ?_)
 intro _
 refine bR (H' := [aN [Row 5 1 c.1 d.length c.2 (aB d), q.1], Row 35 4 (some ⟨a1, 0, none⟩) ([((a.getD b.1.toNat av).1, (a.getD b.1.toNat av).2.1, (a.getD b.1.toNat av).2.2.1, d)] : List bn).length 1 [[Iv ((a.getD b.1.toNat av).1), Iv ((a.getD b.1.toNat av).2.1), Iv ((a.getD b.1.toNat av).2.2.1), .slice c.1 d.length c.2]].flatten, W15 az ((a.getD b.1.toNat av).1) ((a.getD b.1.toNat av).2.1) ((a.getD b.1.toNat av).2.2.1) d c.1 c.2, W14 an (a.getD b.1.toNat av) ab ad, W12 af e g h n p (b.2 ++ ([((a.getD b.1.toNat av).1, (a.getD b.1.toNat av).2.1, (a.getD b.1.toNat av).2.2.1, d)] : List bn)) al.1 al.2, obj w 47 [Iv 0, Iv 0, Iv 0, Iv 0, Iv 0, .slice none 0 0], W11 b0 e g h n p a u t, ar 35 4 (V35 (aN [Row 5 1 c.1 d.length c.2 (aB d), q.1])) al.1 (b.2 ++ ([((a.getD b.1.toNat av).1, (a.getD b.1.toNat av).2.1, (a.getD b.1.toNat av).2.2.1, d)] : List bn)) al.2, F]) (Ent.refl _) (ae (bu (aa (aI (vq (bU O O O) O (vm O O (ae ?_)))))))
 exact bP (s := (IntKind.i64.wrap (b.1 + 1), b.2 ++ ([((a.getD b.1.toNat av).1, (a.getD b.1.toNat av).2.1, (a.getD b.1.toNat av).2.2.1, d)] : List bn))) (aN [Row 5 1 c.1 d.length c.2 (aB d), q.1], al) ⟨O, O, O, O, O, trivial⟩ (.sel 4 O (.sel 4 O (.sel 4 O (.sel 4 O (.s O (.sel 3 O .n))))))
 refine cD (cg (cp (ci ?_)))
 exact aH (s := b.2) q ⟨O, O, trivial⟩ (.s O (.s O (.s O (.s O (.s O (.s O .n))))))
 intro a4 x
 refine sr (vq (cj 0 O O isAgg47 sizeOf47 O O) O (aU (aG 1 O O O sizeOf47 O O (aM (by rfl)) O O) O O ?_))
 intro _
 refine bR (H' := [W12 af e g h n p a4 x.2.1 x.2.2, W12 w e g h n p a4 x.2.1 x.2.2, W11 b0 e g h n p a u t, ar 35 4 (V35 x.1) x.2.1 a4 x.2.2, x.1, F]) (Ent.refl _) (ae (aa (aA ?_)))
 exact hJ (vs := [.agg #[Iv e, Iv g, Iv h, Iv n, Iv p, .slice x.2.1 a4.length x.2.2]]) (x.2.1, x.2.2, x.1) O ⟨⟨w, O, gB 1 isAgg47 sizeOf47 O O⟩, trivial⟩ O (.sel 3 O (.sel 3 O (.sel 2 O (.sel 2 O .n))))

def eO.f (e : Int) (a : Int) (g : Int) (h : List UInt8) (b : Int) (c : Int) (d : Int) : Option (Bool) := some ((decide (b = c)) && (decide (d < a)))
theorem eO.calls (W : World) (F : HA) (i : Int) (g : Int) (j : Int) (k : Option Addr) (h : Nat) (d : Lb) (c : Int) (b1 : Nat) (a : Int) (b2 : Nat) (e : Int) (s : Rd F k (aB d)) (p : d.length ≤ h) (q : h ≤ maxLen) :
    Fn Tryz.prog W 91 [.agg #[Iv i, Iv g, Iv j, .slice k d.length h, Iv c], Pt b1, Pt b2] [obj b1 3 [Iv a], obj b2 3 [Iv e]] F (eO.f i g j d c a e) (fun (r : Bool) (y : Unit) => .bool r) (fun r y => [obj b1 3 [Iv a], obj b2 3 [Iv e]]) := by
 unfold eO.f
 refine aL 16 Tryz.func91 O Tryz.ntmps91 O (sr (ah (cl O O O) O O O ?_))
 intro l
 refine va O O (nx (vq (ap O O underlying144 O O sizeOf3 O) O (vq (ag O O isAgg3 (.obj 0 O O)) O (vq (ag O O isAgg3 (.obj 1 O O)) O (vq (bO O O O) O (vm O O (ak (b := decide (c = a)) (fun t => RQ.sub (E' := [(3, Pt l)]) ⟨O, trivial⟩ (ap O O underlying144 O O sizeOf35 O)) O O O O O (ak (b := decide (c = a)) (fun n => RQ.sub (E' := [(10, Pt l)]) ⟨aD O n, trivial⟩ (ap O O underlying35 O O sizeOf3 O)) O O O O O (ak (b := decide (c = a)) (fun o => RQ.sub (E' := [(11, .pointer (some ⟨l, 1, none⟩))]) ⟨aD O o, trivial⟩ (ag O O isAgg3 (.obj 0 O O))) O O O O O (ak (b := decide (c = a)) (fun u => RQ.sub (E' := [(2, Pt b2)]) ⟨O, trivial⟩ (ag O O isAgg3 (.obj 2 O O))) O O O O O (ak (b := decide (c = a)) (fun m => RQ.sub (E' := [(12, Iv g), (13, Iv e)]) ⟨aD O m, aD O m, trivial⟩ (cF O O O)) O O O O O (vq (dr O O O) O (va O O (ae (aa (aA ?_))))))))))))))))
 exact aE () O O O (.sel 1 O (.sel 1 O (.sel 1 O .n)))

def bh.l0 (x0 : List (aF)) (b : Int) (c : Int) : Nat → Int → Option ((Unit) ⊕ (Int))
  | 0, _ => none
  | k + 1, a => if a < (x0.length : Int) then (if 0 ≤ a ∧ a < (x0.length : Int) then ((eO.f ((x0.getD a.toNat av).1) ((x0.getD a.toNat av).2.1) ((x0.getD a.toNat av).2.2.1) ((x0.getD a.toNat av).2.2.2.1) ((x0.getD a.toNat av).2.2.2.2) b c).bind fun d => (if d = true then (some (.inr a)) else (bh.l0 x0 b c k (IntKind.i64.wrap (a + 1))))) else none) else (some (.inl ()))
def bh.f (k : Nat) (x0 : List (aF)) (a : Int) (b : Int) : Option (Int) := orR (bh.l0 x0 a b k 0) fun c => (some (-1))
theorem bh.calls (W : World) (F : HA) (k : Nat) (a0 : Option Addr) (c0 : Nat) (x0 : List aF) (d : Nat) (a : Int) (e : Nat) (b : Int) (h0 : RdV F 5 (aP F) a0 x0) (al : x0.length ≤ c0) (an : c0 ≤ maxLen) :
    Fn Tryz.prog W 115 [.slice a0 x0.length c0, .func (.func 91) #[] #[Pt d, Pt e]] [obj d 3 [Iv a], obj e 3 [Iv b]] F (bh.f k x0 a b) (fun (r : Int) (y : Unit) => Iv r) (fun r y => [obj d 3 [Iv a], obj e 3 [Iv b]]) := by
 unfold bh.f
 refine aL 19 Tryz.func115 O Tryz.ntmps115 O (sr (va O O (ae (aa ?_))))
 refine fm (S := Unit) Unit (fun s y => []) (fun s y => [obj d 3 [Iv a], obj e 3 [Iv b], F]) ?_ ?_
 refine sr (vm O O (vq (bp O O O underlying87) O (vm O O (ae (aa (aQ ?_))))))
 refine cr (S := Int) Unit (fun k s => bh.l0 x0 a b k s) (fun s y => [(0, .slice a0 x0.length c0), (1, .func (.func 91) #[] #[Pt d, Pt e]), (7, Iv (x0.length : Int)), (8, Iv s)]) (fun s y => [obj d 3 [Iv a], obj e 3 [Iv b], F]) (fun _ => by rw [bh.l0]) ?_ k 0 () ⟨O, O, O, O, trivial⟩ (.s O (.s O (.s O .n)))
 intro k c az
 refine cR (by rw [bh.l0]) (sr (vq (cx O O O) O (ae (aa (ay ?_)))))
 refine bk O (fun a1 => ?_) (fun a2 => ?_)
 refine aC (aa (ay (aQ (sr (vm O O (va O O (nx (vm O O (vm O O (vm O O (bb (fun g => ?_))))))))))))
 obtain ⟨a3, w, x, m, n, u, hcell15v⟩ := RdV.pos h0 (Up.refl _) rfl (i := c.toNat) (by omega) av
 obtain ⟨h, l, rfl, ⟨o, p, q⟩⟩ := n
 refine vq (cK O O O m underlying87 sizeOf144 g.1 g.2) O (vq (cn O O isAgg144 sizeOf144 O (fun j v hj => hcell15v 2 O j v hj)) O (ax (fun z t => (ah (aw (vs := [.agg #[Iv ((x0.getD c.toNat av).1), Iv ((x0.getD c.toNat av).2.1), Iv ((x0.getD c.toNat av).2.2.1), .slice h (((x0.getD c.toNat av).2.2.2.1).length) l, Iv ((x0.getD c.toNat av).2.2.2.2)]]) (cap := [Pt d, Pt e]) (A := [obj d 3 [Iv a], obj e 3 [Iv b]]) (rst := [F]) O O O O O O call91 (.s O (.s O (.s O .n))) (eO.calls _ _ ((x0.getD c.toNat av).1) ((x0.getD c.toNat av).2.1) ((x0.getD c.toNat av).2.2.1) h l ((x0.getD c.toNat av).2.2.2.1) ((x0.getD c.toNat av).2.2.2.2) d a e b (o.lend 0 O) p q) t) O O O ?_))))
 intro ab
 refine ae (aa ?_)
 refine aW O (fun ad => ?_) (fun af => ?_)
 refine sr (vm O O (va O O (ae (aa (aA (bl (aK (eM (bl (eC ?_))))))))))
 exact aE () O O O (.s O (.s O (.s O .n)))
 refine aC (bu (aa (aI (vq (bU O O O) O (vm O O (ae ?_))))))
 exact bP (s := IntKind.i64.wrap (c + 1)) () ⟨O, O, O, O, trivial⟩ (.s O (.s O (.s O .n)))
 refine cD (cg (cp (ci ?_)))
 exact eV (s := ()) () trivial (.s O (.s O (.s O .n)))
 intro a4 a5
 refine sr (va O O (ae (aa (aA ?_))))
 exact aE () O O O (.s O (.s O (.s O .n)))

def bH.f (k : Nat) (x0 : List (aF)) (a : Int) (b : Int) : Option (Bool) := (bh.f k x0 a b).bind fun c => (some (decide ((0 : Int) ≤ c)))
theorem bH.calls (W : World) (F : HA) (k : Nat) (a0 : Option Addr) (c0 : Nat) (x0 : List aF) (c : Nat) (a : Int) (d : Nat) (b : Int) (h0 : RdV F 5 (aP F) a0 x0) (g : x0.length ≤ c0) (h : c0 ≤ maxLen) :
    Fn Tryz.prog W 90 [.slice a0 x0.length c0, .func (.func 91) #[] #[Pt c, Pt d]] [obj c 3 [Iv a], obj d 3 [Iv b]] F (bH.f k x0 a b) (fun (r : Bool) (y : Unit) => .bool r) (fun r y => [obj c 3 [Iv a], obj d 3 [Iv b]]) := by
 unfold bH.f
 refine aL 9 Tryz.func90 O Tryz.ntmps90 O (sr (va O O (nx (vm O O (vm O O (ax (fun i e => (ah (aw (vs := [.slice a0 x0.length c0, .func (.func 91) #[] #[Pt c, Pt d]]) (cap := []) (A := [obj c 3 [Iv a], obj d 3 [Iv b]]) (rst := [F]) O O O O O O call115 (.s O (.s O (.s O .n))) (bh.calls _ _ k a0 c0 x0 c a d b (h0.up (Up.lend 0 O) (aP.up (Up.lend 0 O))) g h) e) O O O ?_))))))))
 intro j
 refine vq (ju O O O) O (va O O (ae (aa (aA ?_))))
 exact aE () O O O (.s O (.s O (.s O .n)))

def iF.f (k : Nat) (c : Int) (d : Int) (e : Int) (g : Int) (h : Int) (a : List (aF)) (x1 : Int) (x2 : Int) : Option (Bool) := (bH.f k a x1 x2).bind fun b => (some b)
theorem iF.calls (W : World) (F : HA) (k : Nat) (b0 : Nat) (d : Int) (e : Int) (g : Int) (h : Int) (i : Int) (c : Option Addr) (b : Nat) (a : List aF) (x1 : Int) (x2 : Int) (o : RdV F 5 (aP F) c a) (m : a.length ≤ b) (n : b ≤ maxLen) :
    Fn Tryz.prog W 63 [Pt b0, Iv x1, Iv x2] [W11 b0 d e g h i a c b] F (iF.f k d e g h i a x1 x2) (fun (r : Bool) (y : Unit) => .bool r) (fun r y => [W11 b0 d e g h i a c b]) := by
 unfold iF.f
 refine aL 13 Tryz.func63 O Tryz.ntmps63 O (sr (ah (cl O O O) O O O ?_))
 intro j
 refine ah (cl O O O) O O O ?_
 intro l
 refine va O O (nx (vm O O (vn O O (vq (ap O O underlying89 O O sizeOf87 O) O (vq (ag O O isAgg87 (.obj 2 O O)) O (vq (gl O O O) O (ax (fun q p => (ah (aw (vs := [.slice c a.length b, .func (.func 91) #[] #[Pt j, Pt l]]) (cap := []) (A := [obj j 3 [Iv x1], obj l 3 [Iv x2]]) (rst := [W11 b0 d e g h i a c b, F]) O O O O O O call90 (.sel 1 O (.s O (.s O (.s O .n)))) (bH.calls _ _ k c b a j x1 l x2 (o.up (Up.lend 1 O) (aP.up (Up.lend 1 O))) m n) p) O O O ?_)))))))))
 intro s
 refine va O O (ae (aa (aA ?_)))
 exact aE () O O O (.sel 2 O (.sel 2 O .n))

def dB.f (x0 : List (aF)) : Option ((List (aF))) := if (([] : List (aF)).length + x0.length) * 56 ≤ 140737488355328 then (some (([] : List (aF)) ++ x0)) else none
theorem dB.calls (W : World) (F : HA) (G : HA) (hG : Up G F) (a0 : Option Addr) (c0 : Nat) (x0 : List aF) (h0 : RdV G 5 (aP G) a0 x0) (e : x0.length ≤ c0) (g : c0 ≤ maxLen) :
    Fn Tryz.prog W 92 [.slice a0 x0.length c0] [] F (dB.f x0) (fun (r : (List aF)) (y : Option Addr × Nat) => .slice y.1 r.length y.2) (fun r y => [ar 144 5 (aP G) y.1 r y.2]) := by
 unfold dB.f
 refine aL 8 Tryz.func92 O Tryz.ntmps92 O ?_
 rcases a0 with _ | p0
 have hx : x0 = [] := pw rfl h0
 subst hx
 refine cR (o' := some ([] : List aF)) (by simp) (sr (va O O (ae (aa (ay (sr (vm O O (vq (mj O O underlying87) O (ae (aa (fH O (sr (va O O (ae (aa (aA (aK ?_)))))))))))))))))
 exact aE (none, 0) O O O (.rowV_nil (.s O .n))
 refine sr (va O O (ae (aa (ay (sr (vm O O (vq (ml O O underlying87) O (ae (aa (fy O (aC (aa (sr (ah (pp (α := Int × Int × Int × Lb × Int) (V := (aP G)) O underlying87 kn) O O O ?_))))))))))))))
 intro i
 refine vm O O (bi 0 O (fun d b => (bb (fun c => ?_))))
 refine ah (ez 0 O O O underlying87 kn O b ((h0.up hG (fun _ _ h => h)).rds 0 O) c) O O O ?_
 intro a
 refine va O O (ae (aa (aA ?_)))
 exact aE a O O O (.s O (.s O .n))

def ee.l0 (b : List (aF)) (x1 : Int) : Nat → Int → Option (Int)
  | 0, _ => none
  | k + 1, a => (if a < (b.length : Int) then (if 0 ≤ a ∧ a < (b.length : Int) then (some (decide ((b.getD a.toNat av).2.2.2.2 = x1))) else none) else (some false)).bind fun c => (if c = true then (ee.l0 b x1 k (IntKind.i64.wrap (a + 1))) else (some a))
def ee.f (k : Nat) (c : Int) (d : Int) (e : Int) (g : Int) (h : Int) (a : List (aF)) (x1 : Int) : Option (Int × Int × Int × Int × Int × (List (aF))) := (ee.l0 a x1 k 0).bind fun b => (if (0 : Int) < b then (if 0 ≤ IntKind.i64.wrap (b - 1) ∧ IntKind.i64.wrap (b - 1) < (a.length : Int) then (if 0 ≤ b ∧ b ≤ (a.length : Int) ∧ (a.length : Int) ≤ (a.length : Int) then ((dB.f (cut a b (a.length : Int))).bind fun i => (some (c, d, e, (a.getD (IntKind.i64.wrap (b - 1)).toNat av).2.1, (a.getD (IntKind.i64.wrap (b - 1)).toNat av).1, i))) else none) else none) else (some (c, d, e, g, h, a)))
theorem ee.calls (W : World) (F : HA) (k : Nat) (b0 : Nat) (h : Int) (n : Int) (p : Int) (x : Int) (w : Int) (c : Option Addr) (d : Nat) (a : List aF) (e : HA) (x1 : Int)  :
    Fn Tryz.prog W 65 [Pt b0, Iv x1] [W11 b0 h n p x w a c d, ar 144 5 (aP e) c a d, e] F (ee.f k h n p x w a x1) (fun (r : Int × Int × Int × Int × Int × (List aF)) (y : Option Addr × Nat × HA) => .tuple #[]) (fun r y => [W16 b0 r y.1 y.2.1, ar 144 5 (aP y.2.2) y.1 r.2.2.2.2.2 y.2.1, y.2.2]) := by
 unfold ee.f
 refine aL 58 Tryz.func65 O Tryz.ntmps65 O (sr (va O O (ae (aa ?_))))
 refine bF (S := Int) Unit (fun s y => [(0, Pt b0), (4, Iv s)]) (fun s y => [W11 b0 h n p x w a c d, ar 144 5 (aP e) c a d, e, F]) ?_ ?_
 refine aQ ?_
 refine cr (S := Int) Unit (fun k s => ee.l0 a x1 k s) (fun s y => [(0, Pt b0), (1, Iv x1), (4, Iv s)]) (fun s y => [W11 b0 h n p x w a c d, ar 144 5 (aP e) c a d, e, F]) (fun _ => by rw [ee.l0]) ?_ k 0 () ⟨O, O, O, trivial⟩ (.s O (.s O (.s O (.s O .n))))
 intro k ad d1
 refine cR (by rw [ee.l0]) (ay (sr (vm O O (vm O O (vn O O (vq (ap O O underlying89 O O sizeOf87 O) O (vq (ag O O isAgg87 (.obj 0 O O)) O (vq (bp O O O underlying87) O (vq (cx O O O) O (vm O O ?_))))))))))
 refine dH 11 (S := Bool) Unit (fun s y => [(0, Pt b0), (1, Iv x1), (4, Iv ad), (24, .bool s)]) (fun s y => [W11 b0 h n p x w a c d, ar 144 5 (aP e) c a d, e, F]) ?_ ?_
 refine iD (fun a5 => ?_) (fun a6 => ?_)
 rw [a5]
 refine aT (aZ O O) O O O O O O (aT (aS O O) O O O O O O (aT (ap O O underlying89 O O sizeOf87 O) O O O O O O (aT (ag O O isAgg87 (.obj 0 O O)) O O O O O O (aT (aZ O O) O O O O O O (bi 1 O (fun b5 af => (bb (fun a1 => (ep 1 O af O (i := ad.toNat) (by omega) av (fun d2 c1 c2 a7 a8 b3 hcell15v => ?_))))))))))
 obtain ⟨c3, c4, rfl, ⟨b6, b7, b8⟩⟩ := a8
 refine aT (cK O O O a7 underlying87 sizeOf144 a1.1 a1.2) O O O O O O (aT (ap O O underlying144 O O sizeOf3 O) O O O O O O (aT (ag O O isAgg3 (hcell15v 1 O 4 _ O)) O O O O O O (aT (aZ O O) O O O O O O (aT (bO O O O) O O O O O O (vq (cf O O O O O) O (ae ?_))))))
 exact aH (s := decide ((a.getD ad.toNat av).2.2.2.2 = x1)) () ⟨O, O, O, O, trivial⟩ (.s O (.sel' 0 O (ar.mk af) (.s O (.s O .n))))
 rw [a6]
 refine aJ O O O O O O (aJ O O O O O O (aJ O O O O O O (aJ O O O O O O (aJ O O O O O O (aJ O O O O O O (aJ O O O O O O (aJ O O O O O O (aJ O O O O O O (aJ O O O O O O (vq (cf O O O O O) O (ae ?_)))))))))))
 exact aH (s := false) () ⟨O, O, O, O, trivial⟩ (.s O (.s O (.s O (.s O .n))))
 intro d3 d4
 refine ae (aa ?_)
 refine aW O (fun c5 => ?_) (fun c6 => ?_)
 refine aC (aa (aQ (aI (vm O O (vq (bU O O O) O (va O O (ae (bu ?_))))))))
 exact bP (s := IntKind.i64.wrap (ad + 1)) () ⟨O, O, O, trivial⟩ (.s O (.s O (.s O (.s O .n))))
 refine cD (cg (cp (ci ?_)))
 exact aH (s := ad) () ⟨O, O, trivial⟩ (.s O (.s O (.s O (.s O .n))))
 intro b d5
 refine sr (vm O O (vq (cF O O O) O (ae (aa ?_))))
 refine bk O (fun c7 => ?_) (fun c8 => ?_)
 refine sr (vm O O (vn O O (vq (ap O O underlying89 O O sizeOf87 O) O (vq (ag O O isAgg87 (.obj 0 O O)) O (vm O O (vq (cW O O O) O (bi 1 O (fun g al => (bb (fun an => (ep 1 O al O (i := (IntKind.i64.wrap (b - 1)).toNat) (by omega) av (fun c9 b9 dl a9 bc b4 hcell36v => ?_))))))))))))
 obtain ⟨t, u, rfl, ⟨cd, ch, cs⟩⟩ := bc
 refine vq (cK O O O a9 underlying87 sizeOf144 an.1 an.2) O (vq (ap O O underlying144 O O sizeOf35 O) O (vq (cn (vs := [Iv ((a.getD (IntKind.i64.wrap (b - 1)).toNat av).1), Iv ((a.getD (IntKind.i64.wrap (b - 1)).toNat av).2.1), Iv ((a.getD (IntKind.i64.wrap (b - 1)).toNat av).2.2.1), .slice t (((a.getD (IntKind.i64.wrap (b - 1)).toNat av).2.2.2.1).length) u]) O O isAgg35 sizeOf35 O (fun j v hj => iy (hcell36v 1 O (0 + j) v (cG (off := 0) O j v hj)))) O (ah (bM O zeroValue35 O) O O O ?_)))
 intro q
 refine aU (aG 0 O O O sizeOf35 O O (aM (by rfl)) O O) O O ?_
 intro _
 refine ae (aa (ay ?_))
 refine ba (Γ := Unit) () [[], [], [], [2], [], [4], [0, 2, 3], [0, 2, 3, 6], [0, 2, 3, 6, 7], rL 9, rL 10, rL 11] [8, 11] [0, 1, 2, 3, 4, 5, 6, 7, 9, 10] (fun i => [[0], [0, 1], [0], [0], [0, 1], [0, 1], [0], [0], [], [1], [1], []].getD i []) (fun i => [[], [], [], [], [], [], [], [], rL 8, [], [], rL 11].getD i []) (fun γ i => [Pt b0, Pt b0, .pointer (some ⟨q, 1, none⟩), Iv ((a.getD (IntKind.i64.wrap (b - 1)).toNat av).2.1), Pt q, Iv ((a.getD (IntKind.i64.wrap (b - 1)).toNat av).1), Pt b0, .pointer (some ⟨b0, 3, none⟩), undef, Pt b0, .pointer (some ⟨b0, 4, none⟩), undef].getD i undef) (fun j γ => [[W13 q (a.getD (IntKind.i64.wrap (b - 1)).toNat av) t u, W11 b0 h n p x w a c d, Row 144 5 c a.length d g.flatten, e, F], [W13 q (a.getD (IntKind.i64.wrap (b - 1)).toNat av) t u, W11 b0 h n p ((a.getD (IntKind.i64.wrap (b - 1)).toNat av).2.1) w a c d, Row 144 5 c a.length d g.flatten, e, F], [W13 q (a.getD (IntKind.i64.wrap (b - 1)).toNat av) t u, W11 b0 h n p ((a.getD (IntKind.i64.wrap (b - 1)).toNat av).2.1) ((a.getD (IntKind.i64.wrap (b - 1)).toNat av).1) a c d, Row 144 5 c a.length d g.flatten, e, F]].getD j []) (fun γ => [(0, Pt b0), (4, Iv b)]) mixed (by decide) (by decide) (by decide) (by decide) (by decide) (by decide) (by decide) 58 O (by decide) (by decide) (by decide) (Ent.refl _) ?_ ?_ (fun _ => ⟨O, O, trivial⟩) ?_
 exact (aq O (fun γ => qm O (.o (s := 0) O (by decide) .nil) O) (ac (fun γ => (ac (qm O (.o (s := 0) O (by decide) .nil) O) (ac (qm O (.o (s := 0) O (by decide) .nil) O) zA))) (aq O (fun γ => qp O O (.o (s := 5) O (by decide) .nil) (ap O O underlying35 O O sizeOf3 O) O) (aq O (fun γ => qp O O (.v 2 O O .nil) (ag O O isAgg3 (.obj 0 O O)) O) (ac (fun γ => (ac (qp O O (.o (s := 5) O (by decide) .nil) (ap O O underlying35 O O sizeOf3 O) O) (ac (qp O O (.o (s := 5) O (by decide) .nil) (ap O O underlying35 O O sizeOf3 O) O) zA))) (ac (fun γ => (ac (qp O O (.v 4 O O .nil) (ag O O isAgg3 (.obj 0 O O)) O) (ac (qp O O (.v 4 O O .nil) (ag O O isAgg3 (.obj 0 O O)) O) zA))) (aq O (fun γ => qp O O (.v 0 O O .nil) (aS O O) O) (aq O (fun γ => qp O O (.v 6 O O .nil) (ap O O underlying89 O O sizeOf3 O) O) (aq O (fun γ => qp O O (.v 1 O O .nil) (aS O O) O) (aq O (fun γ => qp O O (.v 9 O O .nil) (ap O O underlying89 O O sizeOf3 O) O) zA))))))))))
 exact (ac (fun γ => eo (Z := Unit) (fun z => ()) O O (.v 3 O O (.v 7 O O .nil)) (aG 1 O O O sizeOf3 O O (aM (by rfl)) O O) (fun _ => ⟨O, O, O, O, O, O, O, O, trivial⟩) (fun _ => .inl O) (fun z => Ent.refl _)) (ac (fun γ => eo (Z := Unit) (fun z => ()) O O (.v 5 O O (.v 10 O O .nil)) (aG 1 O O O sizeOf3 O O (aM (by rfl)) O O) (fun _ => ⟨O, O, O, O, O, O, O, O, O, O, O, trivial⟩) (fun _ => .inl O) (fun z => Ent.refl _)) zA))
 intro ds
 refine aa (aI (vm O O (vm O O (vn O O (vq (ap O O underlying89 O O sizeOf87 O) O (vq (ag O O isAgg87 (.obj 1 O O)) O (vm O O (bf 2 O (fun bd az be c0 => (bR (H' := [aN [Row 144 5 c a.length d g.flatten, e], W13 q (a.getD (IntKind.i64.wrap (b - 1)).toNat av) t u, W11 b0 h n p ((a.getD (IntKind.i64.wrap (b - 1)).toNat av).2.1) ((a.getD (IntKind.i64.wrap (b - 1)).toNat av).1) a c d, F]) (Ent.trans (m := [Row 144 5 c a.length d g.flatten, e, W13 q (a.getD (IntKind.i64.wrap (b - 1)).toNat av) t u, W11 b0 h n p ((a.getD (IntKind.i64.wrap (b - 1)).toNat av).2.1) ((a.getD (IntKind.i64.wrap (b - 1)).toNat av).1) a c d, F]) (.sel 2 O (.sel 2 O (.s O (.s O (.s O .n))))) (fG [Row 144 5 c a.length d g.flatten, e] _)) (bb (fun a0 => ?_))))))))))))
 obtain ⟨a2, a3, br, bs, bt, b1⟩ := gb (lo := b) (hi := (a.length : Int)) (Rd.asV (al.mono (aP.up (Up.lend (l := [Row 144 5 c a.length d g.flatten, e]) 1 rfl))) (Rd.lend (l := [Row 144 5 c a.length d g.flatten, e]) bd 0 rfl)) az a0
 refine vq (fA (l := a) (lo' := b) (hi' := (a.length : Int)) O O O O underlying87 sizeOf144 (.inl ⟨O, O⟩) (.inr ⟨_, O⟩) a0 az br) O (ax (fun a4 b2 => (ah (aw (vs := [.slice a2 ((cut a b (a.length : Int)).length) a3]) (cap := []) (A := []) (rst := [aN [Row 144 5 c a.length d g.flatten, e], W13 q (a.getD (IntKind.i64.wrap (b - 1)).toNat av) t u, W11 b0 h n p ((a.getD (IntKind.i64.wrap (b - 1)).toNat av).2.1) ((a.getD (IntKind.i64.wrap (b - 1)).toNat av).1) a c d, F]) O O O O O O call92 (.s O (.s O (.s O (.s O .n)))) (dB.calls _ _ _ (Up.lend 0 O) a2 a3 (cut a b (a.length : Int)) bs bt (Nat.le_trans b1 be)) b2) O O O ?_)))
 intro ab
 refine vn O O (vq (ap O O underlying89 O O sizeOf87 O) O (aU (aG 3 O O O sizeOf87 O O (aM (by rfl)) O O) O O ?_))
 intro _
 refine bR (H' := [ar 144 5 (aP (aN [Row 144 5 c a.length d g.flatten, e])) ab.1 a4 ab.2, aN [Row 144 5 c a.length d g.flatten, e], W13 q (a.getD (IntKind.i64.wrap (b - 1)).toNat av) t u, W11 b0 h n p ((a.getD (IntKind.i64.wrap (b - 1)).toNat av).2.1) ((a.getD (IntKind.i64.wrap (b - 1)).toNat av).1) a4 ab.1 ab.2, F]) (Ent.refl _) (ae ?_)
 exact fc (ab.1, ab.2, aN [Row 144 5 c a.length d g.flatten, e]) O O O (.sel 3 O (.s O (.s O (.sel 1 O .n))))
 refine aC ?_
 exact fc (c, d, e) O O O (.s O (.s O (.s O (.s O .n))))

def ce.l0 (x0 : List (List UInt8)) (x1 : List (List UInt8)) : Nat → Int → Option ((Unit) ⊕ (Bool))
  | 0, _ => none
  | k + 1, a => if a < (x0.length : Int) then (if 0 ≤ a ∧ a < (x0.length : Int) then (if 0 ≤ a ∧ a < (x1.length : Int) then (if (x0.getD a.toNat ([] : List UInt8)) = (x1.getD a.toNat ([] : List UInt8)) then (ce.l0 x0 x1 k (IntKind.i64.wrap (a + 1))) else (some (.inr false))) else none) else none) else (some (.inl ()))
def ce.f (k : Nat) (x0 : List (List UInt8)) (x1 : List (List UInt8)) : Option (Bool) := if (x0.length : Int) = (x1.length : Int) then (orR (ce.l0 x0 x1 k 0) fun a => (some true)) else (some false)
theorem ce.calls (W : World) (F : HA) (k : Nat) (a0 : Option Addr) (c0 : Nat) (x0 : List Lb) (a1 : Option Addr) (c1 : Nat) (x1 : List Lb) (h0 : RdV F 1 (V9 tt) a0 x0) (ad : x0.length ≤ c0) (af : c0 ≤ maxLen) (h1 : RdV F 1 (V9 tt) a1 x1) (al : x1.length ≤ c1) (an : c1 ≤ maxLen) :
    Fn Tryz.prog W 32 [.slice a0 x0.length c0, .slice a1 x1.length c1] [] F (ce.f k x0 x1) (fun (r : Bool) (y : Unit) => .bool r) (fun r y => []) := by
 unfold ce.f
 refine aL 26 Tryz.func32 O Tryz.ntmps32 O (sr (va O O (ae (aa (ay (sr (vm O O (vq (bp O O O underlying60) O (vm O O (vq (bp O O O underlying60) O (vq (cZ O O O) O (ae (aa ?_)))))))))))))
 refine cT O (fun az => ?_) (fun a2 => ?_)
 refine aC (aa ?_)
 refine fm (S := Unit) Unit (fun s y => []) (fun s y => [F]) ?_ ?_
 refine sr (va O O (ae (aa (aQ ?_))))
 refine cr (S := Int) Unit (fun k s => ce.l0 x0 x1 k s) (fun s y => [(0, .slice a0 x0.length c0), (1, .slice a1 x1.length c1), (5, Iv s)]) (fun s y => [F]) (fun _ => by rw [ce.l0]) ?_ k 0 () ⟨O, O, O, trivial⟩ (.s O .n)
 intro k a a3
 refine cR (by rw [ce.l0]) (ay (sr (vm O O (vm O O (vq (bp O O O underlying60) O (vq (cx O O O) O (ae (aa ?_))))))))
 refine bk O (fun a4 => ?_) (fun a5 => ?_)
 refine aC (aa (ay (aQ (ay (cB (fun b => ?_))))))
 obtain ⟨n, d, u, e, g, q, hcell17v⟩ := RdV.pos h0 (Up.refl _) rfl (i := a.toNat) (by omega) ([] : Lb)
 obtain rfl := g
 refine cB (fun c => ?_)
 obtain ⟨p, h, w, l, m, t, hcell25v⟩ := RdV.pos h1 (Up.refl _) rfl (i := a.toNat) (by omega) ([] : Lb)
 obtain rfl := m
 refine ba (Γ := Unit) () [[], [], [0, 1], [0, 1, 2], [], [], [4, 5], [4, 5, 6], rL 8] [] [0, 1, 2, 3, 4, 5, 6, 7, 8] (fun i => [[0], [0], [0], [0], [0], [0], [0], [0], [0]].getD i []) (fun i => [[], [], [], [], [], [], [], [], []].getD i []) (fun γ i => [.slice a0 x0.length c0, Iv a, .pointer (some ⟨n, d + a.toNat * 1, none⟩), str (x0.getD a.toNat ([] : Lb)), .slice a1 x1.length c1, Iv a, .pointer (some ⟨p, h + a.toNat * 1, none⟩), str (x1.getD a.toNat ([] : Lb)), .bool (!decide ((x0.getD a.toNat ([] : Lb)) = (x1.getD a.toNat ([] : Lb))))].getD i undef) (fun j γ => [[F]].getD j []) (fun γ => [(0, .slice a0 x0.length c0), (1, .slice a1 x1.length c1), (5, Iv a), (25, .bool (!decide ((x0.getD a.toNat ([] : Lb)) = (x1.getD a.toNat ([] : Lb)))))]) mixed (by decide) (by decide) (by decide) (by decide) (by decide) (by decide) (by decide) 26 O (by decide) (by decide) (by decide) (Ent.refl _) ?_ ?_ (fun _ => ⟨O, O, O, O, trivial⟩) ?_
 exact (aq O (fun γ => qm O (.o (s := 0) O (by decide) .nil) O) (aq O (fun γ => qm O (.o (s := 5) O (by decide) .nil) O) (aq O (fun γ => qp O O (.v 0 O O (.v 1 O O .nil)) (cK O O O e underlying60 sizeOf9 b.1 b.2) O) (aq O (fun γ => qp O O (.v 2 O O .nil) (ag O O isAgg9 (hcell17v 0 O 0 _ O)) O) (aq O (fun γ => qm O (.o (s := 1) O (by decide) .nil) O) (aq O (fun γ => qm O (.o (s := 5) O (by decide) .nil) O) (aq O (fun γ => qp O O (.v 4 O O (.v 5 O O .nil)) (cK O O O l underlying60 sizeOf9 c.1 c.2) O) (aq O (fun γ => qp O O (.v 6 O O .nil) (ag O O isAgg9 (hcell25v 0 O 0 _ O)) O) (aq O (fun γ => qp O O (.v 3 O O (.v 7 O O .nil)) (tJ O O O) O) zA)))))))))
 exact zA
 intro x
 refine aa ?_
 refine cT O (fun z => ?_) (fun ab => ?_)
 refine aC (bu (aa (aI (vm O O (vq (bU O O O) O (va O O (ae ?_)))))))
 exact bP (s := IntKind.i64.wrap (a + 1)) () ⟨O, O, O, trivial⟩ (.s O .n)
 refine sr (va O O (ae (aa (aA (bl (aK (eM (bl (eC ?_)))))))))
 exact aE () O O O (.s O .n)
 refine cD (cg (cp (ci ?_)))
 exact eV (s := ()) () trivial (.s O .n)
 intro a6 a7
 refine sr (va O O (ae (aa (aA ?_))))
 exact aE () O O O (.s O .n)
 refine sr (va O O (ae (aa (aA (aK ?_)))))
 exact aE () O O O (.s O .n)

def bW.l0 (x0 : List UInt8) (x1 : List UInt8) : Nat → Int → Option ((Unit) ⊕ (Bool))
  | 0, _ => none
  | k + 1, a => if a < (x0.length : Int) then (if 0 ≤ a ∧ a < (x0.length : Int) then (if 0 ≤ a ∧ a < (x1.length : Int) then (if ((x0.getD a.toNat 0).toNat : Int) = ((x1.getD a.toNat 0).toNat : Int) then (bW.l0 x0 x1 k (IntKind.i64.wrap (a + 1))) else (some (.inr false))) else none) else none) else (some (.inl ()))
def bW.f (k : Nat) (x0 : List UInt8) (x1 : List UInt8) : Option (Bool) := if (x0.length : Int) = (x1.length : Int) then (orR (bW.l0 x0 x1 k 0) fun a => (some true)) else (some false)
theorem bW.calls (W : World) (F : HA) (k : Nat) (a0 : Option Addr) (c0 : Nat) (x0 : Lb) (a1 : Option Addr) (c1 : Nat) (x1 : Lb) (h0 : Rd F a0 (aB x0)) (t : x0.length ≤ c0) (u : c0 ≤ maxLen) (h1 : Rd F a1 (aB x1)) (w : x1.length ≤ c1) (x : c1 ≤ maxLen) :
    Fn Tryz.prog W 30 [.slice a0 x0.length c0, .slice a1 x1.length c1] [] F (bW.f k x0 x1) (fun (r : Bool) (y : Unit) => .bool r) (fun r y => []) := by
 unfold bW.f
 refine aL 26 Tryz.func30 O Tryz.ntmps30 O (sr (va O O (ae (aa (ay (sr (vm O O (vq (bp O O O underlying33) O (vm O O (vq (bp O O O underlying33) O (vq (cZ O O O) O (ae (aa ?_)))))))))))))
 refine cT O (fun z => ?_) (fun ab => ?_)
 refine aC (aa ?_)
 refine fm (S := Unit) Unit (fun s y => []) (fun s y => [F]) ?_ ?_
 refine sr (va O O (ae (aa (aQ ?_))))
 refine cr (S := Int) Unit (fun k s => bW.l0 x0 x1 k s) (fun s y => [(0, .slice a0 x0.length c0), (1, .slice a1 x1.length c1), (5, Iv s)]) (fun s y => [F]) (fun _ => by rw [bW.l0]) ?_ k 0 () ⟨O, O, O, trivial⟩ (.s O .n)
 intro k a ad
 refine cR (by rw [bW.l0]) (ay (sr (vm O O (vm O O (vq (bp O O O underlying33) O (vq (cx O O O) O (ae (aa ?_))))))))
 refine bk O (fun af => ?_) (fun al => ?_)
 refine aC (aa (ay (aQ (ay (cB (fun b => ?_))))))
 obtain ⟨l, g, c⟩ := h0.pos (gV (j := a.toNat) (by omega))
 refine cB (fun d => ?_)
 obtain ⟨m, h, e⟩ := h1.pos (gV (j := a.toNat) (by omega))
 refine ba (Γ := Unit) () [[], [], [0, 1], [0, 1, 2], [], [], [4, 5], [4, 5, 6], rL 8] [] [0, 1, 2, 3, 4, 5, 6, 7, 8] (fun i => [[0], [0], [0], [0], [0], [0], [0], [0], [0]].getD i []) (fun i => [[], [], [], [], [], [], [], [], []].getD i []) (fun γ i => [.slice a0 x0.length c0, Iv a, .pointer (some ⟨l, g + a.toNat, none⟩), .int .u8 ((x0.getD a.toNat 0).toNat : Int), .slice a1 x1.length c1, Iv a, .pointer (some ⟨m, h + a.toNat, none⟩), .int .u8 ((x1.getD a.toNat 0).toNat : Int), .bool (!decide (((x0.getD a.toNat 0).toNat : Int) = ((x1.getD a.toNat 0).toNat : Int)))].getD i undef) (fun j γ => [[F]].getD j []) (fun γ => [(0, .slice a0 x0.length c0), (1, .slice a1 x1.length c1), (5, Iv a), (25, .bool (!decide (((x0.getD a.toNat 0).toNat : Int) = ((x1.getD a.toNat 0).toNat : Int))))]) mixed (by decide) (by decide) (by decide) (by decide) (by decide) (by decide) (by decide) 26 O (by decide) (by decide) (by decide) (Ent.refl _) ?_ ?_ (fun _ => ⟨O, O, O, O, trivial⟩) ?_
 exact (aq O (fun γ => qm O (.o (s := 0) O (by decide) .nil) O) (aq O (fun γ => qm O (.o (s := 5) O (by decide) .nil) O) (aq O (fun γ => qp O O (.v 0 O O (.v 1 O O .nil)) (iB O O O c underlying33 sizeOf5 b.1 b.2) O) (aq O (fun γ => qp O O (.v 2 O O .nil) (ag O O isAgg5 (h0.cell 0 O c (gw (by omega)))) O) (aq O (fun γ => qm O (.o (s := 1) O (by decide) .nil) O) (aq O (fun γ => qm O (.o (s := 5) O (by decide) .nil) O) (aq O (fun γ => qp O O (.v 4 O O (.v 5 O O .nil)) (iB O O O e underlying33 sizeOf5 d.1 d.2) O) (aq O (fun γ => qp O O (.v 6 O O .nil) (ag O O isAgg5 (h1.cell 0 O e (gw (by omega)))) O) (aq O (fun γ => qp O O (.v 3 O O (.v 7 O O .nil)) (cZ O O O) O) zA)))))))))
 exact zA
 intro n
 refine aa ?_
 refine cT O (fun p => ?_) (fun q => ?_)
 refine aC (bu (aa (aI (vm O O (vq (bU O O O) O (va O O (ae ?_)))))))
 exact bP (s := IntKind.i64.wrap (a + 1)) () ⟨O, O, O, trivial⟩ (.s O .n)
 refine sr (va O O (ae (aa (aA (bl (aK (eM (bl (eC ?_)))))))))
 exact aE () O O O (.s O .n)
 refine cD (cg (cp (ci ?_)))
 exact eV (s := ()) () trivial (.s O .n)
 intro an az
 refine sr (va O O (ae (aa (aA ?_))))
 exact aE () O O O (.s O .n)
 refine sr (va O O (ae (aa (aA (aK ?_)))))
 exact aE () O O O (.s O .n)

def eI.f (k : Nat) (a : Int) (b : Int) (c : Int) (d : List UInt8) (e : Int) (g : Int) (h : Int) (i : List UInt8) : Option (Bool) := (bW.f k d i).bind fun j => (some (((j && (decide (a = e))) && (decide (b = g))) && (decide (c = h))))
theorem eI.calls (W : World) (F : HA) (k : Nat) (a : Int) (e : Int) (q : Int) (m : Option Addr) (j : Nat) (h : Lb) (c : Int) (g : Int) (s : Int) (n : Option Addr) (l : Nat) (i : Lb) (az : Rd F m (aB h)) (w : h.length ≤ j) (x : j ≤ maxLen) (a0 : Rd F n (aB i)) (z : i.length ≤ l) (ab : l ≤ maxLen) :
    Fn Tryz.prog W 55 [.agg #[Iv a, Iv e, Iv q, .slice m h.length j], .agg #[Iv c, Iv g, Iv s, .slice n i.length l]] [] F (eI.f k a e q h c g s i) (fun (r : Bool) (y : Unit) => .bool r) (fun r y => []) := by
 unfold eI.f
 refine aL 33 Tryz.func55 O Tryz.ntmps55 O (sr (ah (cl O O O) O O O ?_))
 intro o
 refine ah (cl O O O) O O O ?_
 intro p
 refine va O O (nx (vq (ap O O underlying35 O O sizeOf33 O) O (vq (ag O O isAgg33 (.obj 1 O O)) O (vq (ap O O underlying35 O O sizeOf33 O) O (vq (ag O O isAgg33 (.obj 0 O O)) O (ax (fun d a1 => (ah (aw (vs := [.slice m h.length j, .slice n i.length l]) (cap := []) (A := []) (rst := [W15 p c g s i n l, W15 o a e q h m j, F]) O O O O O O call30 (.s O (.s O (.s O .n))) (bW.calls _ _ k m j h n l i (az.lend 2 O) w x (a0.lend 2 O) z ab) a1) O O O ?_))))))))
 intro bc
 refine va O O (nx (vm O O (vm O O (ak (b := d) (fun a4 => RQ.sub (E' := [(2, Pt o)]) ⟨O, trivial⟩ (ap O O underlying35 O O sizeOf3 O)) O O O O O (ak (b := d) (fun ad => RQ.sub (E' := [(13, Pt o)]) ⟨aD O ad, trivial⟩ (ag O O isAgg3 (.obj 1 O O))) O O O O O (ak (b := d) (fun a5 => RQ.sub (E' := [(3, Pt p)]) ⟨O, trivial⟩ (ap O O underlying35 O O sizeOf3 O)) O O O O O (ak (b := d) (fun af => RQ.sub (E' := [(15, Pt p)]) ⟨aD O af, trivial⟩ (ag O O isAgg3 (.obj 0 O O))) O O O O O (ak (b := d) (fun t => RQ.sub (E' := [(14, Iv a), (16, Iv c)]) ⟨aD O t, aD O t, trivial⟩ (bO O O O)) O O O O O (vq (dr O O O) O (vm O O (ak (b := d && (decide (a = c))) (fun a6 => RQ.sub (E' := [(2, Pt o)]) ⟨O, trivial⟩ (ap O O underlying35 O O sizeOf3 O)) O O O O O (ak (b := d && (decide (a = c))) (fun al => RQ.sub (E' := [(20, .pointer (some ⟨o, 1, none⟩))]) ⟨aD O al, trivial⟩ (ag O O isAgg3 (.obj 1 O O))) O O O O O (ak (b := d && (decide (a = c))) (fun a7 => RQ.sub (E' := [(3, Pt p)]) ⟨O, trivial⟩ (ap O O underlying35 O O sizeOf3 O)) O O O O O (ak (b := d && (decide (a = c))) (fun an => RQ.sub (E' := [(22, .pointer (some ⟨p, 1, none⟩))]) ⟨aD O an, trivial⟩ (ag O O isAgg3 (.obj 0 O O))) O O O O O (ak (b := d && (decide (a = c))) (fun u => RQ.sub (E' := [(21, Iv e), (23, Iv g)]) ⟨aD O u, aD O u, trivial⟩ (bO O O O)) O O O O O (vq (dr O O O) O (vm O O (ak (b := (d && (decide (a = c))) && (decide (e = g))) (fun a8 => RQ.sub (E' := [(2, Pt o)]) ⟨O, trivial⟩ (ap O O underlying35 O O sizeOf3 O)) O O O O O (ak (b := (d && (decide (a = c))) && (decide (e = g))) (fun a2 => RQ.sub (E' := [(27, .pointer (some ⟨o, 2, none⟩))]) ⟨aD O a2, trivial⟩ (ag O O isAgg3 (.obj 1 O O))) O O O O O (ak (b := (d && (decide (a = c))) && (decide (e = g))) (fun a9 => RQ.sub (E' := [(3, Pt p)]) ⟨O, trivial⟩ (ap O O underlying35 O O sizeOf3 O)) O O O O O (ak (b := (d && (decide (a = c))) && (decide (e = g))) (fun a3 => RQ.sub (E' := [(29, .pointer (some ⟨p, 2, none⟩))]) ⟨aD O a3, trivial⟩ (ag O O isAgg3 (.obj 0 O O))) O O O O O (ak (b := (d && (decide (a = c))) && (decide (e = g))) (fun v => RQ.sub (E' := [(28, Iv q), (30, Iv s)]) ⟨aD O v, aD O v, trivial⟩ (bO O O O)) O O O O O (vq (dr O O O) O (va O O (ae (aa (aA ?_)))))))))))))))))))))))))))
 exact aE () O O O (.sel 2 O .n)

def bT.l0 (x0 : List (bn)) (x1 : List (bn)) : Nat → Int → Option ((Unit) ⊕ (Bool))
  | 0, _ => none
  | k + 1, a => if a < (x0.length : Int) then (if 0 ≤ a ∧ a < (x0.length : Int) then (if 0 ≤ a ∧ a < (x1.length : Int) then ((eI.f k ((x0.getD a.toNat bj).1) ((x0.getD a.toNat bj).2.1) ((x0.getD a.toNat bj).2.2.1) ((x0.getD a.toNat bj).2.2.2) ((x1.getD a.toNat bj).1) ((x1.getD a.toNat bj).2.1) ((x1.getD a.toNat bj).2.2.1) ((x1.getD a.toNat bj).2.2.2)).bind fun b => (if (!b) = true then (some (.inr false)) else (bT.l0 x0 x1 k (IntKind.i64.wrap (a + 1))))) else none) else none) else (some (.inl ()))
def bT.f (k : Nat) (x0 : List (bn)) (x1 : List (bn)) : Option (Bool) := if (x0.length : Int) = (x1.length : Int) then (orR (bT.l0 x0 x1 k 0) fun a => (some true)) else (some false)
theorem bT.calls (W : World) (F : HA) (k : Nat) (a0 : Option Addr) (c0 : Nat) (x0 : List bn) (a1 : Option Addr) (c1 : Nat) (x1 : List bn) (h0 : RdV F 4 (V35 F) a0 x0) (bc : x0.length ≤ c0) (bd : c0 ≤ maxLen) (h1 : RdV F 4 (V35 F) a1 x1) (be : x1.length ≤ c1) (br : c1 ≤ maxLen) :
    Fn Tryz.prog W 19 [.slice a0 x0.length c0, .slice a1 x1.length c1] [] F (bT.f k x0 x1) (fun (r : Bool) (y : Unit) => .bool r) (fun r y => []) := by
 unfold bT.f
 refine aL 29 Tryz.func19 O Tryz.ntmps19 O (sr (va O O (ae (aa (ay (sr (vm O O (vq (bp O O O underlying32) O (vm O O (vq (bp O O O underlying32) O (vq (cZ O O O) O (ae (aa ?_)))))))))))))
 refine cT O (fun bs => ?_) (fun bt => ?_)
 refine aC (aa ?_)
 refine fm (S := Unit) Unit (fun s y => []) (fun s y => [F]) ?_ ?_
 refine sr (va O O (ae (aa (aQ ?_))))
 refine cr (S := Int) Unit (fun k s => bT.l0 x0 x1 k s) (fun s y => [(0, .slice a0 x0.length c0), (1, .slice a1 x1.length c1), (5, Iv s)]) (fun s y => [F]) (fun _ => by rw [bT.l0]) ?_ k 0 () ⟨O, O, O, trivial⟩ (.s O .n)
 intro k a b0
 refine cR (by rw [bT.l0]) (ay (sr (vm O O (vm O O (vq (bp O O O underlying32) O (vq (cx O O O) O (ae (aa ?_))))))))
 refine bk O (fun b1 => ?_) (fun b2 => ?_)
 refine aC (aa (ay (aQ (ay (cB (fun h => ?_))))))
 obtain ⟨az, m, a5, n, p, a3, hcell17v⟩ := RdV.pos h0 (Up.refl _) rfl (i := a.toNat) (by omega) bj
 obtain ⟨b, c, rfl, ⟨q, t, u⟩⟩ := p
 refine cB (fun l => ?_)
 obtain ⟨a2, w, a6, x, ab, a4, hcell30v⟩ := RdV.pos h1 (Up.refl _) rfl (i := a.toNat) (by omega) bj
 obtain ⟨d, e, rfl, ⟨ad, af, al⟩⟩ := ab
 refine bo (fun g an => ?_)
 refine ba (Γ := Unit) () [[], [], [0, 1], [0, 1, 2], [], [], [4, 5], [4, 5, 6], rL 8, rL 9] [8] [0, 1, 2, 3, 4, 5, 6, 7, 9] (fun i => [[0], [0], [0], [0], [0], [0], [0], [0], [], [1]].getD i []) (fun i => [[], [], [], [], [], [], [], [], rL 8, []].getD i []) (fun γ i => [.slice a0 x0.length c0, Iv a, .pointer (some ⟨az, m + a.toNat * 4, none⟩), .agg #[Iv ((x0.getD a.toNat bj).1), Iv ((x0.getD a.toNat bj).2.1), Iv ((x0.getD a.toNat bj).2.2.1), .slice b (((x0.getD a.toNat bj).2.2.2).length) c], .slice a1 x1.length c1, Iv a, .pointer (some ⟨a2, w + a.toNat * 4, none⟩), .agg #[Iv ((x1.getD a.toNat bj).1), Iv ((x1.getD a.toNat bj).2.1), Iv ((x1.getD a.toNat bj).2.2.1), .slice d (((x1.getD a.toNat bj).2.2.2).length) e], .bool g, .bool g].getD i undef) (fun j γ => [[F], [F]].getD j []) (fun γ => [(0, .slice a0 x0.length c0), (1, .slice a1 x1.length c1), (5, Iv a), (6, .bool g)]) mixed (by decide) (by decide) (by decide) (by decide) (by decide) (by decide) (by decide) 29 O (by decide) (by decide) (by decide) (Ent.refl _) ?_ ?_ (fun _ => ⟨O, O, O, O, trivial⟩) ?_
 exact (aq O (fun γ => qm O (.o (s := 0) O (by decide) .nil) O) (aq O (fun γ => qm O (.o (s := 5) O (by decide) .nil) O) (aq O (fun γ => qp O O (.v 0 O O (.v 1 O O .nil)) (cK O O O n underlying32 sizeOf35 h.1 h.2) O) (aq O (fun γ => qp O O (.v 2 O O .nil) (cn O O isAgg35 sizeOf35 O (fun j v hj => hcell17v 0 O j v hj)) O) (aq O (fun γ => qm O (.o (s := 1) O (by decide) .nil) O) (aq O (fun γ => qm O (.o (s := 5) O (by decide) .nil) O) (aq O (fun γ => qp O O (.v 4 O O (.v 5 O O .nil)) (cK O O O x underlying32 sizeOf35 l.1 l.2) O) (aq O (fun γ => qp O O (.v 6 O O .nil) (cn O O isAgg35 sizeOf35 O (fun j v hj => hcell30v 0 O j v hj)) O) (aq O (fun γ => qp O O (.v 8 O O .nil) (cz O O) O) zA)))))))))
 exact (ac (fun γ => eo (Z := Unit) (fun z => ()) O O (.v 3 O O (.v 7 O O .nil)) (aw (val := fun (r : Bool) (y : Unit) => .bool r) (B := fun _ _ => []) (vs := [.agg #[Iv ((x0.getD a.toNat bj).1), Iv ((x0.getD a.toNat bj).2.1), Iv ((x0.getD a.toNat bj).2.2.1), .slice b (((x0.getD a.toNat bj).2.2.2).length) c], .agg #[Iv ((x1.getD a.toNat bj).1), Iv ((x1.getD a.toNat bj).2.1), Iv ((x1.getD a.toNat bj).2.2.1), .slice d (((x1.getD a.toNat bj).2.2.2).length) e]]) (cap := []) (A := []) (rst := [F]) O O O O O O call55 (.s O .n) (eI.calls _ _ k ((x0.getD a.toNat bj).1) ((x0.getD a.toNat bj).2.1) ((x0.getD a.toNat bj).2.2.1) b c ((x0.getD a.toNat bj).2.2.2) ((x1.getD a.toNat bj).1) ((x1.getD a.toNat bj).2.1) ((x1.getD a.toNat bj).2.2.1) d e ((x1.getD a.toNat bj).2.2.2) (q.lend 0 O) t u (ad.lend 0 O) af al) an) (fun _ => ⟨O, O, O, O, O, O, O, O, trivial⟩) (fun _ => .inr O) (fun z => Ent.refl _)) zA)
 intro a7
 refine aa (sr (vm O O (vq (eT O O) O (ae (aa ?_)))))
 refine aW O (fun a8 => ?_) (fun a9 => ?_)
 refine sr (va O O (ae (aa (aA (bl (aK (eM (bl (eC ?_)))))))))
 exact aE () O O O (.s O .n)
 refine aC (bu (aa (aI (vm O O (vq (bU O O O) O (va O O (ae ?_)))))))
 exact bP (s := IntKind.i64.wrap (a + 1)) () ⟨O, O, O, trivial⟩ (.s O .n)
 refine cD (cg (cp (ci ?_)))
 exact eV (s := ()) () trivial (.s O .n)
 intro b3 b4
 refine sr (va O O (ae (aa (aA ?_))))
 exact aE () O O O (.s O .n)
 refine sr (va O O (ae (aa (aA (aK ?_)))))
 exact aE () O O O (.s O .n)

def cH.l0 (a : List (aF)) : Nat → Int → List (bn) → Option ((List (bn)))
  | 0, _, _ => none
  | k + 1, b, c => if b < (a.length : Int) then (if 0 ≤ b ∧ b < (a.length : Int) then ((cm.f ((a.getD b.toNat av).2.2.2.1)).bind fun d => (if (c.length + ([((a.getD b.toNat av).1, (a.getD b.toNat av).2.1, (a.getD b.toNat av).2.2.1, d)] : List (bn)).length) * 48 ≤ 140737488355328 then (cH.l0 a k (IntKind.i64.wrap (b + 1)) (c ++ ([((a.getD b.toNat av).1, (a.getD b.toNat av).2.1, (a.getD b.toNat av).2.2.1, d)] : List (bn)))) else none)) else none) else (some c)
def cH.f (k : Nat) (j : List ((List UInt8) × (List UInt8 × Int))) (l : List UInt8) (m : Int) (n : Bool) (o : Int) (p : List Int) (q : Int) (a : Int) (b : Int) (c : Int) (d : Int) (e : Int) (g : List (aF)) (h : Bool) : Option (Int × Int × Int × Int × Int × (List (bn))) := (cH.l0 g k 0 ([] : List (bn))).bind fun i => (some (a, b, c, d, e, i))
theorem cH.calls (W : World) (F : HA) (k : Nat) (an : Nat) (ad : Nat) (q : Nat) (t : Kps) (az : List (Lb × (Lb × Int))) (a0 : Lb) (a1 : Int) (a2 : Bool) (a3 : Int) (a4 : Option Addr) (af : Nat) (w : List Int) (a5 : Int) (d : Int) (e : Int) (g : Int) (n : Int) (p : Int) (al : Option Addr) (x : Nat) (a : List aF) (u : Bool) (c7 : RdV F 1 (V3 tt) a4 w) (c2 : w.length ≤ af) (c3 : af ≤ maxLen) (b3 : RdV F 5 (aP F) al a) (c4 : a.length ≤ x) (c5 : x ≤ maxLen) :
    Fn Tryz.prog W 54 [.pointer (some ⟨an, 4, none⟩)] [W0 ad q a0 a1 a2, ao (aj q au am t) ai t az, W1 an ad a3 w a5 d e g n p a u a4 af al x] F (cH.f k az a0 a1 a2 a3 w a5 d e g n p a u) (fun (r : Int × Int × Int × Int × Int × (List bn)) (y : Option Addr × Nat × HA) => .agg #[Iv r.1, Iv r.2.1, Iv r.2.2.1, Iv r.2.2.2.1, Iv r.2.2.2.2.1, .slice y.1 r.2.2.2.2.2.length y.2.1]) (fun r y => [ar 35 4 (V35 y.2.2) y.1 r.2.2.2.2.2 y.2.1, y.2.2, W0 ad q a0 a1 a2, ao (aj q au am t) ai t az, W1 an ad a3 w a5 d e g n p a u a4 af al x]) := by
 unfold cH.f
 refine aL 43 Tryz.func54 O Tryz.ntmps54 O (sr (ah (bM O zeroValue47 O) O O O ?_))
 intro a6
 refine ae (aa (ay ?_))
 refine ba (Γ := Nat) 0 [[], [0], [0, 1], [0, 1, 2], [], [4], [4, 5], [4, 5, 6], [], [8], [8, 9], [8, 9, 10], rL 12, [], rL 14] [13, 14] [0, 1, 2, 3, 4, 5, 6, 7, 8, 9, 10, 11, 12] (fun i => [[0, 1], [0, 1], [0, 1], [0, 1], [0, 1], [0, 1], [0, 1], [0, 1], [0, 1], [0, 1], [0, 1], [0, 1], [0, 1], [], []].getD i []) (fun i => [[], [], [], [], [], [], [], [], [], [], [], [], [], rL 13, rL 14].getD i []) (fun γ i => [.pointer (some ⟨an, 4, none⟩), .pointer (some ⟨an, 4, none⟩), .pointer (some ⟨an, 4, none⟩), .agg #[Iv d, Iv e, Iv g], .pointer (some ⟨an, 4, none⟩), .pointer (some ⟨an, 4, none⟩), .pointer (some ⟨an, 7, none⟩), Iv n, .pointer (some ⟨an, 4, none⟩), .pointer (some ⟨an, 4, none⟩), .pointer (some ⟨an, 8, none⟩), Iv p, .agg #[Iv d, Iv e, Iv g, Iv n, Iv p, .slice none 0 0], Pt γ, undef].getD i undef) (fun j γ => [[obj a6 47 [Iv 0, Iv 0, Iv 0, Iv 0, Iv 0, .slice none 0 0], W0 ad q a0 a1 a2, ao (aj q au am t) ai t az, W1 an ad a3 w a5 d e g n p a u a4 af al x, F], [obj γ 47 [Iv 0, Iv 0, Iv 0, Iv 0, Iv 0, .slice none 0 0], obj a6 47 [Iv 0, Iv 0, Iv 0, Iv 0, Iv 0, .slice none 0 0], W0 ad q a0 a1 a2, ao (aj q au am t) ai t az, W1 an ad a3 w a5 d e g n p a u a4 af al x, F], [obj γ 47 [Iv d, Iv e, Iv g, Iv n, Iv p, .slice none 0 0], obj a6 47 [Iv 0, Iv 0, Iv 0, Iv 0, Iv 0, .slice none 0 0], W0 ad q a0 a1 a2, ao (aj q au am t) ai t az, W1 an ad a3 w a5 d e g n p a u a4 af al x, F]].getD j []) (fun γ => [(0, .pointer (some ⟨an, 4, none⟩)), (2, Pt a6), (3, Pt γ)]) mixed (by decide) (by decide) (by decide) (by decide) (by decide) (by decide) (by decide) 43 O (by decide) (by decide) (by decide) (Ent.refl _) ?_ ?_ (fun _ => ⟨O, O, O, trivial⟩) ?_
 exact (ac (fun γ => (ac (qm O (.o (s := 0) O (by decide) .nil) O) (ac (qm O (.o (s := 0) O (by decide) .nil) O) zA))) (ac (fun γ => (ac (qp O O (.v 0 O O .nil) (aS O O) O) (ac (qp O O (.v 0 O O .nil) (aS O O) O) zA))) (ac (fun γ => (ac (qp O O (.v 1 O O .nil) (ap O O underlying89 O O sizeOf43 O) O) (ac (qp O O (.v 1 O O .nil) (ap O O underlying89 O O sizeOf43 O) O) zA))) (ac (fun γ => (ac (qp O O (.v 2 O O .nil) (cn (vs := [Iv d, Iv e, Iv g]) O O isAgg43 sizeOf43 O (cY 3 O (cG O))) O) (ac (qp O O (.v 2 O O .nil) (cn (vs := [Iv d, Iv e, Iv g]) O O isAgg43 sizeOf43 O (cY 4 O (cG O))) O) zA))) (ac (fun γ => (ac (qm O (.o (s := 0) O (by decide) .nil) O) (ac (qm O (.o (s := 0) O (by decide) .nil) O) zA))) (ac (fun γ => (ac (qp O O (.v 4 O O .nil) (aS O O) O) (ac (qp O O (.v 4 O O .nil) (aS O O) O) zA))) (ac (fun γ => (ac (qp O O (.v 5 O O .nil) (ap O O underlying89 O O sizeOf3 O) O) (ac (qp O O (.v 5 O O .nil) (ap O O underlying89 O O sizeOf3 O) O) zA))) (ac (fun γ => (ac (qp O O (.v 6 O O .nil) (ag O O isAgg3 (.obj 3 O O)) O) (ac (qp O O (.v 6 O O .nil) (ag O O isAgg3 (.obj 4 O O)) O) zA))) (ac (fun γ => (ac (qm O (.o (s := 0) O (by decide) .nil) O) (ac (qm O (.o (s := 0) O (by decide) .nil) O) zA))) (ac (fun γ => (ac (qp O O (.v 8 O O .nil) (aS O O) O) (ac (qp O O (.v 8 O O .nil) (aS O O) O) zA))) (ac (fun γ => (ac (qp O O (.v 9 O O .nil) (ap O O underlying89 O O sizeOf3 O) O) (ac (qp O O (.v 9 O O .nil) (ap O O underlying89 O O sizeOf3 O) O) zA))) (ac (fun γ => (ac (qp O O (.v 10 O O .nil) (ag O O isAgg3 (.obj 3 O O)) O) (ac (qp O O (.v 10 O O .nil) (ag O O isAgg3 (.obj 4 O O)) O) zA))) (ac (fun γ => (ac (qp O O (.v 3 O O (.v 7 O O (.v 11 O O .nil))) (cS (v := .agg #[Iv d, Iv e, Iv g, Iv n, Iv p, .slice none 0 0]) O O (fun _ => by kernel_rfl)) O) (ac (qp O O (.v 3 O O (.v 7 O O (.v 11 O O .nil))) (cS (v := .agg #[Iv d, Iv e, Iv g, Iv n, Iv p, .slice none 0 0]) O O (fun _ => by kernel_rfl)) O) zA))) zA)))))))))))))
 exact (ac (fun γ => eo (Z := Nat) (fun z => z) O O .nil (bM O zeroValue47 O) (fun _ => ⟨O, O, O, O, O, O, O, O, O, O, O, O, O, trivial⟩) (fun _ => .inr O) (fun z => Ent.refl _)) (ac (fun γ => eo (Z := Unit) (fun z => γ) O O (.v 13 O O (.v 12 O O .nil)) (aG 0 O O O sizeOf47 O O (aM (by rfl)) O O) (fun _ => ⟨O, O, O, O, O, O, O, O, O, O, O, O, O, O, trivial⟩) (fun _ => .inl O) (fun z => Ent.refl _)) zA))
 intro bc
 refine aa ?_
 refine bF (S := (List bn)) (HA × Option Addr × Nat) (fun s y => [(2, Pt a6), (3, Pt bc)]) (fun s y => [W12 bc d e g n p s y.2.1 y.2.2, obj a6 47 [Iv 0, Iv 0, Iv 0, Iv 0, Iv 0, .slice none 0 0], W0 ad q a0 a1 a2, W1 an ad a3 w a5 d e g n p a u a4 af al x, ar 35 4 (V35 y.1) y.2.1 s y.2.2, ao (aj q au am t) ai t az, y.1, F]) ?_ ?_
 refine sr (vm O O (vn O O (vq (ap O O underlying89 O O sizeOf87 O) O (vq (ag O O isAgg87 (.obj 4 O O)) O (vq (bp O O O underlying87) O (vm O O (ae (aa (aQ ?_)))))))))
 refine cr (S := Int × (List bn)) (HA × Option Addr × Nat) (fun k s => cH.l0 a k s.1 s.2) (fun s y => [(2, Pt a6), (3, Pt bc), (23, .slice al a.length x), (24, Iv (a.length : Int)), (25, Iv s.1)]) (fun s y => [W12 bc d e g n p s.2 y.2.1 y.2.2, obj a6 47 [Iv 0, Iv 0, Iv 0, Iv 0, Iv 0, .slice none 0 0], W0 ad q a0 a1 a2, W1 an ad a3 w a5 d e g n p a u a4 af al x, ar 35 4 (V35 y.1) y.2.1 s.2 y.2.2, ao (aj q au am t) ai t az, y.1, F]) (fun _ => by rw [cH.l0]) ?_ k (0, ([] : List bn)) (tt, none, 0) ⟨O, O, O, O, O, trivial⟩ (.s O (.s O (.s O (.sel 1 O (.rowV_nil (.s O (.tt_in (.s O .n))))))))
 intro k b ab
 refine cR (by rw [cH.l0]) (sr (vq (cx O O O) O (ae (aa (ay ?_)))))
 refine bk O (fun dl => ?_) (fun ds => ?_)
 refine aC (aa (ay (aQ (sr (bb (fun b0 => ?_))))))
 obtain ⟨d1, c8, d2, b4, b5, c6, hcell19v⟩ := RdV.pos b3 (Up.refl _) rfl (i := b.1.toNat) (by omega) av
 obtain ⟨a8, a9, rfl, ⟨b6, b7, b8⟩⟩ := b5
 refine vq (cK O O O b4 underlying87 sizeOf144 b0.1 b0.2) O (vq (cn O O isAgg144 sizeOf144 O (fun j v hj => hcell19v 7 O j v hj)) O (ah (bM O zeroValue144 O) O O O ?_))
 intro be
 refine aU (aG 0 O O O sizeOf144 O O (aM (by rfl)) O O) O O ?_
 intro _
 refine nx (vq (ap O O underlying144 O O sizeOf35 O) O (vq (cn (vs := [Iv ((a.getD b.1.toNat av).1), Iv ((a.getD b.1.toNat av).2.1), Iv ((a.getD b.1.toNat av).2.2.1), .slice a8 (((a.getD b.1.toNat av).2.2.2.1).length) a9]) O O isAgg35 sizeOf35 O (cY 0 O (cG O))) O (ah (bM O zeroValue35 O) O O O ?_)))
 intro br
 refine aU (aG 0 O O O sizeOf35 O O (aM (by rfl)) O O) O O ?_
 intro _
 refine nx (vq (ap O O underlying35 O O sizeOf33 O) O (vq (ag O O isAgg33 (.obj 0 O O)) O (ax (fun h b9 => (ah (aw (vs := [.slice a8 (((a.getD b.1.toNat av).2.2.2.1).length) a9]) (cap := []) (A := []) (rst := [W13 br (a.getD b.1.toNat av) a8 a9, W14 be (a.getD b.1.toNat av) a8 a9, W12 bc d e g n p b.2 ab.2.1 ab.2.2, obj a6 47 [Iv 0, Iv 0, Iv 0, Iv 0, Iv 0, .slice none 0 0], W0 ad q a0 a1 a2, W1 an ad a3 w a5 d e g n p a u a4 af al x, ar 35 4 (V35 ab.1) ab.2.1 b.2 ab.2.2, ao (aj q au am t) ai t az, ab.1, F]) O O O O O O call82 (.s O (.s O (.s O (.s O (.s O (.s O (.s O (.s O (.s O (.s O .n)))))))))) (cm.calls _ _ a8 a9 ((a.getD b.1.toNat av).2.2.2.1) (b6.lend 9 O) b7 b8) b9) O O O ?_)))))
 intro c
 refine vq (ap O O underlying35 O O sizeOf33 O) O (aU (aG 1 O O O sizeOf33 O O (aM (by rfl)) O O) O O ?_)
 intro _
 refine ny (vq (ap O O underlying47 O O sizeOf32 O) O (vq (ag O O isAgg32 (.obj 3 O O)) O (vq (cj 1 O O isAgg35 sizeOf35 O O) O (bf 0 O (fun cd ch cs c9 => ?_)))))
 have bs : bI 4 (V35 (Row 5 1 c.1 h.length c.2 (aB h))) ([((a.getD b.1.toNat av).1, (a.getD b.1.toNat av).2.1, (a.getD b.1.toNat av).2.2.1, h)] : List bn) [[Iv ((a.getD b.1.toNat av).1), Iv ((a.getD b.1.toNat av).2.1), Iv ((a.getD b.1.toNat av).2.2.1), .slice c.1 h.length c.2]] := ⟨⟨rfl, aM (by rfl), ⟨c.1, c.2, rfl, ⟨cd, ch, cs⟩⟩⟩, trivial⟩
 refine ah (fh (V := (V35 (Row 5 1 c.1 h.length c.2 (aB h)))) (xs := ([((a.getD b.1.toNat av).1, (a.getD b.1.toNat av).2.1, (a.getD b.1.toNat av).2.2.1, h)] : List bn)) [[Iv ((a.getD b.1.toNat av).1), Iv ((a.getD b.1.toNat av).2.1), Iv ((a.getD b.1.toNat av).2.2.1), .slice c.1 h.length c.2]] O O underlying32 lJ O (by kernel_rfl) O bs O O) O O O ?_
 intro bt
 refine bi 8 O (fun b1 c0 => (bR (H' := [aN [Row 5 1 c.1 h.length c.2 (aB h), ab.1], Row 35 4 (some ⟨bt, 0, none⟩) ([((a.getD b.1.toNat av).1, (a.getD b.1.toNat av).2.1, (a.getD b.1.toNat av).2.2.1, h)] : List bn).length 1 [[Iv ((a.getD b.1.toNat av).1), Iv ((a.getD b.1.toNat av).2.1), Iv ((a.getD b.1.toNat av).2.2.1), .slice c.1 h.length c.2]].flatten, W15 br ((a.getD b.1.toNat av).1) ((a.getD b.1.toNat av).2.1) ((a.getD b.1.toNat av).2.2.1) h c.1 c.2, W14 be (a.getD b.1.toNat av) a8 a9, W12 bc d e g n p b.2 ab.2.1 ab.2.2, obj a6 47 [Iv 0, Iv 0, Iv 0, Iv 0, Iv 0, .slice none 0 0], W0 ad q a0 a1 a2, W1 an ad a3 w a5 d e g n p a u a4 af al x, Row 35 4 ab.2.1 b.2.length ab.2.2 b1.flatten, ao (aj q au am t) ai t az, F]) (Ent.trans (m := [Row 5 1 c.1 h.length c.2 (aB h), ab.1, Row 35 4 (some ⟨bt, 0, none⟩) ([((a.getD b.1.toNat av).1, (a.getD b.1.toNat av).2.1, (a.getD b.1.toNat av).2.2.1, h)] : List bn).length 1 [[Iv ((a.getD b.1.toNat av).1), Iv ((a.getD b.1.toNat av).2.1), Iv ((a.getD b.1.toNat av).2.2.1), .slice c.1 h.length c.2]].flatten, W15 br ((a.getD b.1.toNat av).1) ((a.getD b.1.toNat av).2.1) ((a.getD b.1.toNat av).2.2.1) h c.1 c.2, W14 be (a.getD b.1.toNat av) a8 a9, W12 bc d e g n p b.2 ab.2.1 ab.2.2, obj a6 47 [Iv 0, Iv 0, Iv 0, Iv 0, Iv 0, .slice none 0 0], W0 ad q a0 a1 a2, W1 an ad a3 w a5 d e g n p a u a4 af al x, Row 35 4 ab.2.1 b.2.length ab.2.2 b1.flatten, ao (aj q au am t) ai t az, F]) (.sel 1 O (.sel 9 O (.s O (.s O (.s O (.s O (.s O (.s O (.s O (.s O (.s O (.s O .n)))))))))))) (fG [Row 5 1 c.1 h.length c.2 (aB h), ab.1] _)) (bb (fun c1 => (ah (ez 8 O O O underlying32 lJ O (c0.mono (V35.up (Up.lend (l := [Row 5 1 c.1 h.length c.2 (aB h), ab.1]) 1 O))) (gj.row (bs.mono (V35.up (Up.lend (l := [Row 5 1 c.1 h.length c.2 (aB h), ab.1]) 0 O))) 1 O) c1) O O O ?_)))))
 intro bd
 refine vq (ap O O underlying47 O O sizeOf32 O) O (aU (aG 4 O O O sizeOf32 O O (aM (by rfl)) O O) O O ?_)
 intro _
 refine bR (H' := [aN [Row 5 1 c.1 h.length c.2 (aB h), ab.1], Row 35 4 (some ⟨bt, 0, none⟩) ([((a.getD b.1.toNat av).1, (a.getD b.1.toNat av).2.1, (a.getD b.1.toNat av).2.2.1, h)] : List bn).length 1 [[Iv ((a.getD b.1.toNat av).1), Iv ((a.getD b.1.toNat av).2.1), Iv ((a.getD b.1.toNat av).2.2.1), .slice c.1 h.length c.2]].flatten, W15 br ((a.getD b.1.toNat av).1) ((a.getD b.1.toNat av).2.1) ((a.getD b.1.toNat av).2.2.1) h c.1 c.2, W14 be (a.getD b.1.toNat av) a8 a9, W12 bc d e g n p (b.2 ++ ([((a.getD b.1.toNat av).1, (a.getD b.1.toNat av).2.1, (a.getD b.1.toNat av).2.2.1, h)] : List bn)) bd.1 bd.2, obj a6 47 [Iv 0, Iv 0, Iv 0, Iv 0, Iv 0, .slice none 0 0], W0 ad q a0 a1 a2, W1 an ad a3 w a5 d e g n p a u a4 af al x, ar 35 4 (V35 (aN [Row 5 1 c.1 h.length c.2 (aB h), ab.1])) bd.1 (b.2 ++ ([((a.getD b.1.toNat av).1, (a.getD b.1.toNat av).2.1, (a.getD b.1.toNat av).2.2.1, h)] : List bn)) bd.2, ao (aj q au am t) ai t az, F]) (Ent.refl _) (ae (bu (aa (aI (vq (bU O O O) O (vm O O (ae ?_)))))))
 exact bP (s := (IntKind.i64.wrap (b.1 + 1), b.2 ++ ([((a.getD b.1.toNat av).1, (a.getD b.1.toNat av).2.1, (a.getD b.1.toNat av).2.2.1, h)] : List bn))) (aN [Row 5 1 c.1 h.length c.2 (aB h), ab.1], bd) ⟨O, O, O, O, O, trivial⟩ (.sel 4 O (.sel 4 O (.sel 4 O (.sel 4 O (.sel 4 O (.sel 4 O (.s O (.sel 3 O .n))))))))
 refine cD (cg (cp (ci ?_)))
 exact aH (s := b.2) ab ⟨O, O, trivial⟩ (.s O (.s O (.s O (.s O (.s O (.s O (.s O (.s O .n))))))))
 intro b2 a7
 refine sr (vq (cj 0 O O isAgg47 sizeOf47 O O) O (aU (aG 1 O O O sizeOf47 O O (aM (by rfl)) O O) O O ?_))
 intro _
 refine bR (H' := [W12 bc d e g n p b2 a7.2.1 a7.2.2, W12 a6 d e g n p b2 a7.2.1 a7.2.2, W0 ad q a0 a1 a2, W1 an ad a3 w a5 d e g n p a u a4 af al x, ar 35 4 (V35 a7.1) a7.2.1 b2 a7.2.2, ao (aj q au am t) ai t az, a7.1, F]) (Ent.refl _) (ae (aa (aA ?_)))
 exact hJ (vs := [.agg #[Iv d, Iv e, Iv g, Iv n, Iv p, .slice a7.2.1 b2.length a7.2.2]]) (a7.2.1, a7.2.2, a7.1) O ⟨⟨a6, O, gB 1 isAgg47 sizeOf47 O O⟩, trivial⟩ O (.sel 4 O (.sel 5 O (.sel 2 O (.sel 3 O (.sel 2 O (.sel 2 O .n))))))

def dY.f (k : Nat) (c : List ((List UInt8) × (List UInt8 × Int))) (d : List UInt8) (e : Int) (g : Bool) (h : Int) (i : List Int) (j : Int) (l : Int) (m : Int) (n : Int) (o : Int) (p : Int) (q : List (aF)) (b : Bool) : Option (Int × Int × Int × Int × Int × (List (bn))) := (cH.f k c d e g h i j l m n o p q b).bind fun a => (some (a.1, a.2.1, a.2.2.1, a.2.2.2.1, a.2.2.2.2.1, a.2.2.2.2.2))
theorem dY.calls (W : World) (F : HA) (k : Nat) (af : Nat) (ad : Nat) (a : Nat) (b : Kps) (m : List (Lb × (Lb × Int))) (n : Lb) (o : Int) (p : Bool) (q : Int) (s : Option Addr) (i : Nat) (c : List Int) (t : Int) (u : Int) (v : Int) (w : Int) (x : Int) (z : Int) (ab : Option Addr) (j : Nat) (d : List aF) (e : Bool) (a2 : RdV F 1 (V3 tt) s c) (al : c.length ≤ i) (an : i ≤ maxLen) (a3 : RdV F 5 (aP F) ab d) (az : d.length ≤ j) (a0 : j ≤ maxLen) :
    Fn Tryz.prog W 18 [Pt af] [W0 ad a n o p, ao (aj a au am b) ai b m, W1 af ad q c t u v w x z d e s i ab j] F (dY.f k m n o p q c t u v w x z d e) (fun (r : Int × Int × Int × Int × Int × (List bn)) (y : Option Addr × Nat × HA) => .agg #[Iv r.1, Iv r.2.1, Iv r.2.2.1, Iv r.2.2.2.1, Iv r.q4.1, .slice y.1 r.q4.2.length y.2.1]) (fun r y => [ar 35 4 (V35 y.2.2) y.1 r.q4.2 y.2.1, y.2.2, W0 ad a n o p, ao (aj a au am b) ai b m, W1 af ad q c t u v w x z d e s i ab j]) := by
 unfold dY.f
 refine aL 7 Tryz.func18 O Tryz.ntmps18 O (sr (ah (bM O zeroValue47 O) O O O ?_))
 intro a1
 refine nx (vm O O (vn O O (vq (ap O O underlying91 O O sizeOf89 O) O (ax (fun g a4 => (ah (aw (vs := [.pointer (some ⟨af, 4, none⟩)]) (cap := []) (A := [W0 ad a n o p, ao (aj a au am b) ai b m, W1 af ad q c t u v w x z d e s i ab j]) (rst := [obj a1 47 [Iv 0, Iv 0, Iv 0, Iv 0, Iv 0, .slice none 0 0], F]) O O O O O O call54 (.sel 1 O (.sel 1 O (.sel 1 O (.s O (.s O .n))))) (cH.calls _ _ k af ad a b m n o p q s i c t u v w x z ab j d e (a2.up (Up.lend 1 O) (fun _ _ h => h)) al an (a3.up (Up.lend 1 O) (aP.up (Up.lend 1 O))) az a0) a4) O O O ?_))))))
 intro l
 refine aU (aG 5 O O O sizeOf47 O O (aM (by rfl)) O O) O O ?_
 intro _
 refine bR (H' := [ar 35 4 (V35 l.2.2) l.1 g.q4.2 l.2.1, l.2.2, W0 ad a n o p, ao (aj a au am b) ai b m, W1 af ad q c t u v w x z d e s i ab j, W8 a1 g l.1 l.2.1, F]) (Ent.refl _) (ae (aa (aA ?_)))
 exact hJ (vs := [.agg #[Iv g.1, Iv g.2.1, Iv g.2.2.1, Iv g.2.2.2.1, Iv g.q4.1, .slice l.1 g.q4.2.length l.2.1]]) l O ⟨⟨a1, O, gB 5 isAgg47 sizeOf47 O O⟩, trivial⟩ O (.s O (.s O (.s O (.s O (.s O (.sel 1 O .n))))))

def dO.f (k : Nat) (d : List ((List UInt8) × (List UInt8 × Int))) (e : List UInt8) (g : Int) (h : Bool) (i : Int) (j : List Int) (l : Int) (m : Int) (n : Int) (o : Int) (p : Int) (q : Int) (a : List (aF)) (b : Bool) (x1 : Int) (x2 : Int) : Option (Bool) := (bH.f k a x1 x2).bind fun c => (some c)
theorem dO.calls (W : World) (F : HA) (k : Nat) (z : Nat) (x : Nat) (c : Nat) (d : Kps) (j : List (Lb × (Lb × Int))) (l : Lb) (m : Int) (n : Bool) (o : Int) (p : Option Addr) (h : Nat) (e : List Int) (q : Int) (s : Int) (t : Int) (u : Int) (v : Int) (w : Int) (g : Option Addr) (b : Nat) (a : List aF) (i : Bool) (x1 : Int) (x2 : Int) (a2 : RdV F 1 (V3 tt) p e) (a0 : e.length ≤ h) (a1 : h ≤ maxLen) (an : RdV F 5 (aP F) g a) (ab : a.length ≤ b) (ad : b ≤ maxLen) :
    Fn Tryz.prog W 63 [.pointer (some ⟨z, 4, none⟩), Iv x1, Iv x2] [W0 x c l m n, ao (aj c au am d) ai d j, W1 z x o e q s t u v w a i p h g b] F (dO.f k j l m n o e q s t u v w a i x1 x2) (fun (r : Bool) (y : Unit) => .bool r) (fun r y => [W0 x c l m n, ao (aj c au am d) ai d j, W1 z x o e q s t u v w a i p h g b]) := by
 unfold dO.f
 refine aL 13 Tryz.func63 O Tryz.ntmps63 O (sr (ah (cl O O O) O O O ?_))
 intro af
 refine ah (cl O O O) O O O ?_
 intro al
 refine va O O (nx (vm O O (vn O O (vq (ap O O underlying89 O O sizeOf87 O) O (vq (ag O O isAgg87 (.obj 4 O O)) O (vq (gl O O O) O (ax (fun a3 az => (ah (aw (vs := [.slice g a.length b, .func (.func 91) #[] #[Pt af, Pt al]]) (cap := []) (A := [obj af 3 [Iv x1], obj al 3 [Iv x2]]) (rst := [W0 x c l m n, ao (aj c au am d) ai d j, W1 z x o e q s t u v w a i p h g b, F]) O O O O O O call90 (.sel 1 O (.s O (.s O (.s O (.s O (.s O .n)))))) (bH.calls _ _ k g b a af x1 al x2 (an.up (Up.lend 3 O) (aP.up (Up.lend 3 O))) ab ad) az) O O O ?_)))))))))
 intro a4
 refine va O O (ae (aa (aA ?_)))
 exact aE () O O O (.sel 2 O (.sel 2 O (.sel 2 O (.sel 2 O .n))))

def cq.l0 (a : List (aF)) (x1 : Int) : Nat → Int → Option (Int)
  | 0, _ => none
  | k + 1, b => (if b < (a.length : Int) then (if 0 ≤ b ∧ b < (a.length : Int) then (some (decide ((a.getD b.toNat av).2.2.2.2 = x1))) else none) else (some false)).bind fun c => (if c = true then (cq.l0 a x1 k (IntKind.i64.wrap (b + 1))) else (some b))
def cq.f (k : Nat) (o : List ((List UInt8) × (List UInt8 × Int))) (p : List UInt8) (q : Int) (r : Bool) (d : Int) (e : List Int) (g : Int) (h : Int) (i : Int) (j : Int) (l : Int) (m : Int) (a : List (aF)) (c : Bool) (x1 : Int) : Option (Int × List Int × Int × Int × Int × Int × Int × Int × (List (aF)) × Bool) := (cq.l0 a x1 k 0).bind fun b => (if (0 : Int) < b then (if 0 ≤ IntKind.i64.wrap (b - 1) ∧ IntKind.i64.wrap (b - 1) < (a.length : Int) then (if 0 ≤ b ∧ b ≤ (a.length : Int) ∧ (a.length : Int) ≤ (a.length : Int) then ((dB.f (cut a b (a.length : Int))).bind fun n => (some (d, e, g, h, i, j, (a.getD (IntKind.i64.wrap (b - 1)).toNat av).2.1, (a.getD (IntKind.i64.wrap (b - 1)).toNat av).1, n, c))) else none) else none) else (some (d, e, g, h, i, j, l, m, a, c)))
theorem cq.calls (W : World) (F : HA) (k : Nat) (w : Nat) (u : Nat) (e : Nat) (g : Kps) (x : List (Lb × (Lb × Int))) (ab : Lb) (ad : Int) (af : Bool) (al : Int) (h : Option Addr) (n : Nat) (p : List Int) (an : Int) (az : Int) (a0 : Int) (a1 : Int) (a8 : Int) (a3 : Int) (c : Option Addr) (d : Nat) (a : List aF) (q : HA) (t : Bool) (x1 : Int)  :
    Fn Tryz.prog W 65 [.pointer (some ⟨w, 4, none⟩), Iv x1] [W0 u e ab ad af, ao (aj e au am g) ai g x, W1 w u al p an az a0 a1 a8 a3 a t h n c d, ar 3 1 (V3 tt) h p n, ar 144 5 (aP q) c a d, q] F (cq.f k x ab ad af al p an az a0 a1 a8 a3 a t x1) (fun (r : Int × List Int × Int × Int × Int × Int × Int × Int × (List aF) × Bool) (y : Option Addr × Nat × Option Addr × Nat × HA) => .tuple #[]) (fun r y => [W0 u e ab ad af, ao (aj e au am g) ai g x, W2 w u r y.1 y.2.1 y.2.2.1 y.2.2.2.1, ar 3 1 (V3 tt) y.1 r.2.1 y.2.1, ar 144 5 (aP y.2.2.2.2) y.2.2.1 r.2.2.2.2.2.2.2.2.1 y.2.2.2.1, y.2.2.2.2]) := by
 unfold cq.f
 refine aL 58 Tryz.func65 O Tryz.ntmps65 O (sr (va O O (ae (aa ?_))))
 refine bF (S := Int) Unit (fun s y => [(0, .pointer (some ⟨w, 4, none⟩)), (4, Iv s)]) (fun s y => [W0 u e ab ad af, W1 w u al p an az a0 a1 a8 a3 a t h n c d, ao (aj e au am g) ai g x, ar 3 1 (V3 tt) h p n, ar 144 5 (aP q) c a d, q, F]) ?_ ?_
 refine aQ ?_
 refine cr (S := Int) Unit (fun k s => cq.l0 a x1 k s) (fun s y => [(0, .pointer (some ⟨w, 4, none⟩)), (1, Iv x1), (4, Iv s)]) (fun s y => [W0 u e ab ad af, W1 w u al p an az a0 a1 a8 a3 a t h n c d, ao (aj e au am g) ai g x, ar 3 1 (V3 tt) h p n, ar 144 5 (aP q) c a d, q, F]) (fun _ => by rw [cq.l0]) ?_ k 0 () ⟨O, O, O, trivial⟩ (.s O (.sel 1 O (.s O (.s O (.s O (.s O (.s O .n)))))))
 intro k bc ei
 refine cR (by rw [cq.l0]) (ay (sr (vm O O (vm O O (vn O O (vq (ap O O underlying89 O O sizeOf87 O) O (vq (ag O O isAgg87 (.obj 1 O O)) O (vq (bp O O O underlying87) O (vq (cx O O O) O (vm O O ?_))))))))))
 refine dH 11 (S := Bool) Unit (fun s y => [(0, .pointer (some ⟨w, 4, none⟩)), (1, Iv x1), (4, Iv bc), (24, .bool s)]) (fun s y => [W0 u e ab ad af, W1 w u al p an az a0 a1 a8 a3 a t h n c d, ao (aj e au am g) ai g x, ar 3 1 (V3 tt) h p n, ar 144 5 (aP q) c a d, q, F]) ?_ ?_
 refine iD (fun b4 => ?_) (fun b5 => ?_)
 rw [b4]
 refine aT (aZ O O) O O O O O O (aT (aS O O) O O O O O O (aT (ap O O underlying89 O O sizeOf87 O) O O O O O O (aT (ag O O isAgg87 (.obj 1 O O)) O O O O O O (aT (aZ O O) O O O O O O (bi 4 O (fun c7 bd => (bb (fun b0 => (ep 4 O bd O (i := bc.toNat) (by omega) av (fun ek d5 d6 b6 b7 c5 hcell15v => ?_))))))))))
 obtain ⟨d7, d8, rfl, ⟨c8, c9, dl⟩⟩ := b7
 refine aT (cK O O O b6 underlying87 sizeOf144 b0.1 b0.2) O O O O O O (aT (ap O O underlying144 O O sizeOf3 O) O O O O O O (aT (ag O O isAgg3 (hcell15v 4 O 4 _ O)) O O O O O O (aT (aZ O O) O O O O O O (aT (bO O O O) O O O O O O (vq (cf O O O O O) O (ae ?_))))))
 exact aH (s := decide ((a.getD bc.toNat av).2.2.2.2 = x1)) () ⟨O, O, O, O, trivial⟩ (.s O (.s O (.s O (.s O (.sel' 0 O (ar.mk bd) (.s O (.s O .n)))))))
 rw [b5]
 refine aJ O O O O O O (aJ O O O O O O (aJ O O O O O O (aJ O O O O O O (aJ O O O O O O (aJ O O O O O O (aJ O O O O O O (aJ O O O O O O (aJ O O O O O O (aJ O O O O O O (vq (cf O O O O O) O (ae ?_)))))))))))
 exact aH (s := false) () ⟨O, O, O, O, trivial⟩ (.s O (.s O (.s O (.s O (.s O (.s O (.s O .n)))))))
 intro el em
 refine ae (aa ?_)
 refine aW O (fun d9 => ?_) (fun ea => ?_)
 refine aC (aa (aQ (aI (vm O O (vq (bU O O O) O (va O O (ae (bu ?_))))))))
 exact bP (s := IntKind.i64.wrap (bc + 1)) () ⟨O, O, O, trivial⟩ (.s O (.s O (.s O (.s O (.s O (.s O (.s O .n)))))))
 refine cD (cg (cp (ci ?_)))
 exact aH (s := bc) () ⟨O, O, trivial⟩ (.s O (.s O (.s O (.s O (.s O (.s O (.s O .n)))))))
 intro b er
 refine sr (vm O O (vq (cF O O O) O (ae (aa ?_))))
 refine bk O (fun eb => ?_) (fun ec => ?_)
 refine sr (vm O O (vn O O (vq (ap O O underlying89 O O sizeOf87 O) O (vq (ag O O isAgg87 (.obj 1 O O)) O (vm O O (vq (cW O O O) O (bi 4 O (fun a2 be => (bb (fun br => (ep 4 O be O (i := (IntKind.i64.wrap (b - 1)).toNat) (by omega) av (fun ed ds ef b8 b9 c6 hcell36v => ?_))))))))))))
 obtain ⟨a6, a7, rfl, ⟨d1, d2, d3⟩⟩ := b9
 refine vq (cK O O O b8 underlying87 sizeOf144 br.1 br.2) O (vq (ap O O underlying144 O O sizeOf35 O) O (vq (cn (vs := [Iv ((a.getD (IntKind.i64.wrap (b - 1)).toNat av).1), Iv ((a.getD (IntKind.i64.wrap (b - 1)).toNat av).2.1), Iv ((a.getD (IntKind.i64.wrap (b - 1)).toNat av).2.2.1), .slice a6 (((a.getD (IntKind.i64.wrap (b - 1)).toNat av).2.2.2.1).length) a7]) O O isAgg35 sizeOf35 O (fun j v hj => iy (hcell36v 4 O (0 + j) v (cG (off := 0) O j v hj)))) O (ah (bM O zeroValue35 O) O O O ?_)))
 intro a4
 refine aU (aG 0 O O O sizeOf35 O O (aM (by rfl)) O O) O O ?_
 intro _
 refine ae (aa (ay (bm 4 O (fun a5 cd => ?_))))
 refine ba (Γ := Unit) () [[], [], [], [2], [], [4], [0, 2, 3], [0, 2, 3, 6], [0, 2, 3, 6, 7], rL 9, rL 10, rL 11] [8, 11] [0, 1, 2, 3, 4, 5, 6, 7, 9, 10] (fun i => [[0], [0, 1], [0], [0], [0, 1], [0, 1], [0], [0], [], [1], [1], []].getD i []) (fun i => [[], [], [], [], [], [], [], [], rL 8, [], [], rL 11].getD i []) (fun γ i => [.pointer (some ⟨w, 4, none⟩), .pointer (some ⟨w, 4, none⟩), .pointer (some ⟨a4, 1, none⟩), Iv ((a.getD (IntKind.i64.wrap (b - 1)).toNat av).2.1), Pt a4, Iv ((a.getD (IntKind.i64.wrap (b - 1)).toNat av).1), .pointer (some ⟨w, 4, none⟩), .pointer (some ⟨w, 7, none⟩), undef, .pointer (some ⟨w, 4, none⟩), .pointer (some ⟨w, 8, none⟩), undef].getD i undef) (fun j γ => [[W13 a4 (a.getD (IntKind.i64.wrap (b - 1)).toNat av) a6 a7, W0 u e ab ad af, W1 w u al p an az a0 a1 a8 a3 a t h n c d, ao (aj e au am g) ai g x, Row 3 1 h p.length n a5.flatten, Row 144 5 c a.length d a2.flatten, q, F], [W13 a4 (a.getD (IntKind.i64.wrap (b - 1)).toNat av) a6 a7, W0 u e ab ad af, W1 w u al p an az a0 a1 ((a.getD (IntKind.i64.wrap (b - 1)).toNat av).2.1) a3 a t h n c d, ao (aj e au am g) ai g x, Row 3 1 h p.length n a5.flatten, Row 144 5 c a.length d a2.flatten, q, F], [W13 a4 (a.getD (IntKind.i64.wrap (b - 1)).toNat av) a6 a7, W0 u e ab ad af, W1 w u al p an az a0 a1 ((a.getD (IntKind.i64.wrap (b - 1)).toNat av).2.1) ((a.getD (IntKind.i64.wrap (b - 1)).toNat av).1) a t h n c d, ao (aj e au am g) ai g x, Row 3 1 h p.length n a5.flatten, Row 144 5 c a.length d a2.flatten, q, F]].getD j []) (fun γ => [(0, .pointer (some ⟨w, 4, none⟩)), (4, Iv b)]) mixed (by decide) (by decide) (by decide) (by decide) (by decide) (by decide) (by decide) 58 O (by decide) (by decide) (by decide) (Ent.refl _) ?_ ?_ (fun _ => ⟨O, O, trivial⟩) ?_
 exact (aq O (fun γ => qm O (.o (s := 0) O (by decide) .nil) O) (ac (fun γ => (ac (qm O (.o (s := 0) O (by decide) .nil) O) (ac (qm O (.o (s := 0) O (by decide) .nil) O) zA))) (aq O (fun γ => qp O O (.o (s := 5) O (by decide) .nil) (ap O O underlying35 O O sizeOf3 O) O) (aq O (fun γ => qp O O (.v 2 O O .nil) (ag O O isAgg3 (.obj 0 O O)) O) (ac (fun γ => (ac (qp O O (.o (s := 5) O (by decide) .nil) (ap O O underlying35 O O sizeOf3 O) O) (ac (qp O O (.o (s := 5) O (by decide) .nil) (ap O O underlying35 O O sizeOf3 O) O) zA))) (ac (fun γ => (ac (qp O O (.v 4 O O .nil) (ag O O isAgg3 (.obj 0 O O)) O) (ac (qp O O (.v 4 O O .nil) (ag O O isAgg3 (.obj 0 O O)) O) zA))) (aq O (fun γ => qp O O (.v 0 O O .nil) (aS O O) O) (aq O (fun γ => qp O O (.v 6 O O .nil) (ap O O underlying89 O O sizeOf3 O) O) (aq O (fun γ => qp O O (.v 1 O O .nil) (aS O O) O) (aq O (fun γ => qp O O (.v 9 O O .nil) (ap O O underlying89 O O sizeOf3 O) O) zA))))))))))
 exact (ac (fun γ => eo (Z := Unit) (fun z => ()) O O (.v 3 O O (.v 7 O O .nil)) (aG 2 O O O sizeOf3 O O (aM (by rfl)) O O) (fun _ => ⟨O, O, O, O, O, O, O, O, trivial⟩) (fun _ => .inl O) (fun z => Ent.refl _)) (ac (fun γ => eo (Z := Unit) (fun z => ()) O O (.v 5 O O (.v 10 O O .nil)) (aG 2 O O O sizeOf3 O O (aM (by rfl)) O O) (fun _ => ⟨O, O, O, O, O, O, O, O, O, O, O, trivial⟩) (fun _ => .inl O) (fun z => Ent.refl _)) zA))
 intro eg
 refine aa (aI (vm O O (vm O O (vn O O (vq (ap O O underlying89 O O sizeOf87 O) O (vq (ag O O isAgg87 (.obj 2 O O)) O (vm O O (bf 5 O (fun ch bs cs d4 => (bR (H' := [aN [Row 144 5 c a.length d a2.flatten, q], W13 a4 (a.getD (IntKind.i64.wrap (b - 1)).toNat av) a6 a7, W0 u e ab ad af, W1 w u al p an az a0 a1 ((a.getD (IntKind.i64.wrap (b - 1)).toNat av).2.1) ((a.getD (IntKind.i64.wrap (b - 1)).toNat av).1) a t h n c d, ao (aj e au am g) ai g x, Row 3 1 h p.length n a5.flatten, F]) (Ent.trans (m := [Row 144 5 c a.length d a2.flatten, q, W13 a4 (a.getD (IntKind.i64.wrap (b - 1)).toNat av) a6 a7, W0 u e ab ad af, W1 w u al p an az a0 a1 ((a.getD (IntKind.i64.wrap (b - 1)).toNat av).2.1) ((a.getD (IntKind.i64.wrap (b - 1)).toNat av).1) a t h n c d, ao (aj e au am g) ai g x, Row 3 1 h p.length n a5.flatten, F]) (.sel 5 O (.sel 5 O (.s O (.s O (.s O (.s O (.s O (.s O .n)))))))) (fG [Row 144 5 c a.length d a2.flatten, q] _)) (bb (fun bt => ?_))))))))))))
 obtain ⟨b1, b2, c0, c1, c2, c3⟩ := gb (lo := b) (hi := (a.length : Int)) (Rd.asV (be.mono (aP.up (Up.lend (l := [Row 144 5 c a.length d a2.flatten, q]) 1 rfl))) (Rd.lend (l := [Row 144 5 c a.length d a2.flatten, q]) ch 0 rfl)) bs bt
 refine vq (fA (l := a) (lo' := b) (hi' := (a.length : Int)) O O O O underlying87 sizeOf144 (.inl ⟨O, O⟩) (.inr ⟨_, O⟩) bt bs c0) O (ax (fun b3 c4 => (ah (aw (vs := [.slice b1 ((cut a b (a.length : Int)).length) b2]) (cap := []) (A := []) (rst := [aN [Row 144 5 c a.length d a2.flatten, q], W13 a4 (a.getD (IntKind.i64.wrap (b - 1)).toNat av) a6 a7, W0 u e ab ad af, W1 w u al p an az a0 a1 ((a.getD (IntKind.i64.wrap (b - 1)).toNat av).2.1) ((a.getD (IntKind.i64.wrap (b - 1)).toNat av).1) a t h n c d, ao (aj e au am g) ai g x, Row 3 1 h p.length n a5.flatten, F]) O O O O O O call92 (.s O (.s O (.s O (.s O (.s O (.s O (.s O .n))))))) (dB.calls _ _ _ (Up.lend 0 O) b1 b2 (cut a b (a.length : Int)) c1 c2 (Nat.le_trans c3 cs)) c4) O O O ?_)))
 intro a9
 refine vn O O (vq (ap O O underlying89 O O sizeOf87 O) O (aU (aG 4 O O O sizeOf87 O O (aM (by rfl)) O O) O O ?_))
 intro _
 refine bR (H' := [ar 144 5 (aP (aN [Row 144 5 c a.length d a2.flatten, q])) a9.1 b3 a9.2, aN [Row 144 5 c a.length d a2.flatten, q], W13 a4 (a.getD (IntKind.i64.wrap (b - 1)).toNat av) a6 a7, W0 u e ab ad af, W1 w u al p an az a0 a1 ((a.getD (IntKind.i64.wrap (b - 1)).toNat av).2.1) ((a.getD (IntKind.i64.wrap (b - 1)).toNat av).1) b3 t h n a9.1 a9.2, ao (aj e au am g) ai g x, Row 3 1 h p.length n a5.flatten, F]) (Ent.refl _) (ae ?_)
 exact fc (h, n, a9.1, a9.2, aN [Row 144 5 c a.length d a2.flatten, q]) O O O (.sel 3 O (.sel 4 O (.sel 3 O (.sel' 3 O (ar.mk cd) (.s O (.s O (.sel 1 O .n)))))))
 refine aC ?_
 exact fc (h, n, c, d, q) O O O (.s O (.sel 1 O (.s O (.s O (.s O (.s O (.s O .n)))))))

def bY.l0 (s : Int) : Nat → List ((List UInt8) × (List UInt8 × Int)) → List UInt8 → Int → Bool → Int → List Int → Int → Int → Int → Int → Int → Int → List (aF) → Bool → Int → Option ((List ((List UInt8) × (List UInt8 × Int))) × List UInt8 × Int × Bool × Int × List Int × Int × Int × Int × Int × Int × Int × (List (aF)) × Bool × Int)
  | 0, _, _, _, _, _, _, _, _, _, _, _, _, _, _, _ => none
  | k + 1, d, e, g, h, i, b, j, l, m, n, o, p, q, r, t => (if (1 : Int) < (b.length : Int) then (if 0 ≤ (0 : Int) ∧ (0 : Int) < (b.length : Int) then ((dO.f k d e g h i b j l m n o p q r (b.getD (0 : Int).toNat (0 : Int)) s).bind fun u => (some (!u))) else none) else (some false)).bind fun v => (if v = true then (if 0 ≤ (0 : Int) ∧ (0 : Int) < (b.length : Int) then ((cw.f k (b.getD (0 : Int).toNat (0 : Int))).bind fun w => ((dM.f d e g h w).bind fun c => ((bA.f c.1).bind fun x => (if 0 ≤ (0 : Int) ∧ (0 : Int) < (b.length : Int) then ((cq.f k c.2.1 c.2.2.1 c.2.2.2.1 c.2.2.2.2 i b j l m n o p q r (b.getD (0 : Int).toNat (0 : Int))).bind fun a => (if 0 ≤ (1 : Int) ∧ (1 : Int) ≤ (a.2.1.length : Int) ∧ (a.2.1.length : Int) ≤ (a.2.1.length : Int) then (bY.l0 s k c.2.1 c.2.2.1 c.2.2.2.1 c.2.2.2.2 a.1 (cut a.2.1 (1 : Int) (a.2.1.length : Int)) a.2.2.1 a.2.2.2.1 a.2.2.2.2.1 a.2.2.2.2.2.1 a.2.2.2.2.2.2.1 a.2.2.2.2.2.2.2.1 a.2.2.2.2.2.2.2.2.1 a.2.2.2.2.2.2.2.2.2 (IntKind.i64.wrap (t + 1))) else none)) else none)))) else none) else (some (d, e, g, h, i, b, j, l, m, n, o, p, q, r, t)))
def bY.f (k : Nat) (d : List ((List UInt8) × (List UInt8 × Int))) (e : List UInt8) (g : Int) (h : Bool) (i : Int) (a : List Int) (j : Int) (l : Int) (m : Int) (n : Int) (o : Int) (p : Int) (q : List (aF)) (c : Bool) (r : Int) (s : Int) : Option ((List ((List UInt8) × (List UInt8 × Int))) × List UInt8 × Int × Bool × Int × List Int × Int × Int × Int × Int × Int × Int × (List (aF)) × Bool × Int) := if 0 ≤ IntKind.i64.wrap ((a.length : Int) - 1) ∧ IntKind.i64.wrap ((a.length : Int) - 1) < (a.length : Int) then ((cw.f k (a.getD (IntKind.i64.wrap ((a.length : Int) - 1)).toNat (0 : Int))).bind fun t => ((cJ.f d e g h t).bind fun b => ((bA.f b.1).bind fun u => (bY.l0 r k b.2.1 b.2.2.1 b.2.2.2.1 b.2.2.2.2 i a j l m n o p q c s)))) else none
theorem bY.calls (W : World) (F : HA) (k : Nat) (q : Nat) (c : Nat) (e : Nat) (a1 : Nat) (a2 : Kps) (bs : List (Lb × (Lb × Int))) (bt : Lb) (b0 : Int) (b1 : Bool) (a3 : Int) (w : Option Addr) (x : Nat) (n : List Int) (a4 : Int) (a5 : Int) (a6 : Int) (a7 : Int) (a8 : Int) (a9 : Int) (al : Option Addr) (an : Nat) (af : List aF) (bc : HA) (a0 : Bool) (t : Nat) (m : Int) (u : Nat) (bd : Int) (hgl : Glb Tryz.prog F) :
    Fn Tryz.prog W 62 [Pt q, Pt t, Pt u] [W0 e a1 bt b0 b1, ao (aj a1 au am a2) ai a2 bs, W1 c e a3 n a4 a5 a6 a7 a8 a9 af a0 w x al an, ar 3 1 (V3 tt) w n x, ar 144 5 (aP bc) al af an, bc, obj q 36 [Pt c], obj t 3 [Iv m], obj u 3 [Iv bd]] F (bY.f k bs bt b0 b1 a3 n a4 a5 a6 a7 a8 a9 af a0 m bd) (fun (r : (List (Lb × (Lb × Int))) × Lb × Int × Bool × Int × List Int × Int × Int × Int × Int × Int × Int × (List aF) × Bool × Int) (y : Nat × Kps × Option Addr × Nat × Option Addr × Nat × HA) => .tuple #[]) (fun r y => [W4 e y.1 r.2, ao (aj y.1 au am y.2.1) ai y.2.1 r.1, W7 c e r.2.2.2.2 y.2.2.1 y.2.2.2.1 y.2.2.2.2.1 y.2.2.2.2.2.1, ar 3 1 (V3 tt) y.2.2.1 r.2.2.2.2.2.1 y.2.2.2.1, ar 144 5 (aP y.2.2.2.2.2.2) y.2.2.2.2.1 r.2.2.2.2.2.2.2.2.2.2.2.2.1 y.2.2.2.2.2.1, y.2.2.2.2.2.2, obj q 36 [Pt c], obj t 3 [Iv m], obj u 3 [Iv r.2.2.2.2.2.2.2.2.2.2.2.2.2.2]]) := by
 unfold bY.f
 refine aL 75 Tryz.func62 O Tryz.ntmps62 O (ay (bm 3 O (fun b2 dl => (bm 4 O (fun b3 e7 => (cB (fun ds => (gv 3 O dl O (i := (IntKind.i64.wrap ((n.length : Int) - 1)).toNat) (by omega) (0 : Int) (fun fr e8 hk e9 d7 fs hcell12v => ?_)))))))))
 obtain rfl := d7
 refine bo (fun c4 d8 => (bo (fun az d9 => (bo (fun g7 ea => ?_)))))
 refine ba (Γ := (Nat × Kps)) (0, ([] : Kps)) [[], [0], [0, 1], [0, 1, 2], [], [4], [4, 5], [4, 5, 6], [], [8], [8, 9], [8, 9, 10], [8, 9, 10, 11], [8, 9, 10, 11, 12], [4, 5, 6, 7, 8, 9, 10, 11, 12, 13], [4, 5, 6, 7, 8, 9, 10, 11, 12, 13, 14], [4, 5, 6, 7, 8, 9, 10, 11, 12, 13, 14, 15], rL 17, rL 18] [16, 17, 18] [0, 1, 2, 3, 4, 5, 6, 7, 8, 9, 10, 11, 12, 13, 14, 15] (fun i => [[0, 1], [0, 1], [0, 1], [0, 1], [0], [0], [0], [0], [0], [0], [0], [0], [0], [0], [0], [0], [], [], []].getD i []) (fun i => [[], [], [], [], [], [], [], [], [], [], [], [], [], [], [], [], rL 16, rL 17, rL 18].getD i []) (fun γ i => [Pt c, Pt c, Pt c, Pt e, Pt c, Pt c, .pointer (some ⟨c, 2, none⟩), .slice w n.length x, Pt c, Pt c, .pointer (some ⟨c, 2, none⟩), .slice w n.length x, Iv (n.length : Int), Iv (IntKind.i64.wrap ((n.length : Int) - 1)), .pointer (some ⟨fr, e8 + (IntKind.i64.wrap ((n.length : Int) - 1)).toNat * 1, none⟩), Iv (n.getD (IntKind.i64.wrap ((n.length : Int) - 1)).toNat (0 : Int)), str c4, Iv az.1, .tuple #[]].getD i undef) (fun j γ => [[W0 e a1 bt b0 b1, ao (aj a1 au am a2) ai a2 bs, W1 c e a3 n a4 a5 a6 a7 a8 a9 af a0 w x al an, Row 3 1 w n.length x b2.flatten, Row 144 5 al af.length an b3.flatten, bc, obj q 36 [Pt c], obj t 3 [Iv m], obj u 3 [Iv bd], F], [W0 e a1 bt b0 b1, ao (aj a1 au am a2) ai a2 bs, W1 c e a3 n a4 a5 a6 a7 a8 a9 af a0 w x al an, Row 3 1 w n.length x b2.flatten, Row 144 5 al af.length an b3.flatten, bc, obj q 36 [Pt c], obj t 3 [Iv m], obj u 3 [Iv bd], F], [W5 e γ.1 az.2.2, ao (aj γ.1 au am γ.2) ai γ.2 az.2.1, W1 c e a3 n a4 a5 a6 a7 a8 a9 af a0 w x al an, Row 3 1 w n.length x b2.flatten, Row 144 5 al af.length an b3.flatten, bc, obj q 36 [Pt c], obj t 3 [Iv m], obj u 3 [Iv bd], F], [W5 e γ.1 az.2.2, ao (aj γ.1 au am γ.2) ai γ.2 az.2.1, W1 c e a3 n a4 a5 a6 a7 a8 a9 af a0 w x al an, Row 3 1 w n.length x b2.flatten, Row 144 5 al af.length an b3.flatten, bc, obj q 36 [Pt c], obj t 3 [Iv m], obj u 3 [Iv bd], F]].getD j []) (fun γ => [(0, Pt q), (1, Pt t), (2, Pt u)]) mixed (by decide) (by decide) (by decide) (by decide) (by decide) (by decide) (by decide) 75 O (by decide) (by decide) (by decide) (Ent.refl _) ?_ ?_ (fun _ => ⟨O, O, O, trivial⟩) ?_
 exact (ac (fun γ => (ac (qp O O (.o (s := 0) O (by decide) .nil) (ag O O isAgg36 (.obj 6 O O)) O) (ac (qp O O (.o (s := 0) O (by decide) .nil) (ag O O isAgg36 (.obj 6 O O)) O) zA))) (ac (fun γ => (ac (qp O O (.v 0 O O .nil) (aS O O) O) (ac (qp O O (.v 0 O O .nil) (aS O O) O) zA))) (ac (fun γ => (ac (qp O O (.v 1 O O .nil) (ap O O underlying91 O O sizeOf39 O) O) (ac (qp O O (.v 1 O O .nil) (ap O O underlying91 O O sizeOf39 O) O) zA))) (ac (fun γ => (ac (qp O O (.v 2 O O .nil) (ag O O isAgg39 (.obj 2 O O)) O) (ac (qp O O (.v 2 O O .nil) (ag O O isAgg39 (.obj 2 O O)) O) zA))) (aq O (fun γ => qp O O (.o (s := 0) O (by decide) .nil) (ag O O isAgg36 (.obj 6 O O)) O) (aq O (fun γ => qp O O (.v 4 O O .nil) (aS O O) O) (aq O (fun γ => qp O O (.v 5 O O .nil) (ap O O underlying91 O O sizeOf78 O) O) (aq O (fun γ => qp O O (.v 6 O O .nil) (ag O O isAgg78 (.obj 2 O O)) O) (aq O (fun γ => qp O O (.o (s := 0) O (by decide) .nil) (ag O O isAgg36 (.obj 6 O O)) O) (aq O (fun γ => qp O O (.v 8 O O .nil) (aS O O) O) (aq O (fun γ => qp O O (.v 9 O O .nil) (ap O O underlying91 O O sizeOf78 O) O) (aq O (fun γ => qp O O (.v 10 O O .nil) (ag O O isAgg78 (.obj 2 O O)) O) (aq O (fun γ => qp O O (.v 11 O O .nil) (bp O O O underlying78) O) (aq O (fun γ => qp O O (.v 12 O O .nil) (cW O O O) O) (aq O (fun γ => qp O O (.v 7 O O (.v 13 O O .nil)) (cK O O O e9 underlying78 sizeOf3 ds.1 ds.2) O) (aq O (fun γ => qp O O (.v 14 O O .nil) (ag O O isAgg3 (hcell12v 3 O 0 _ O)) O) zA))))))))))))))))
 exact (ac (fun γ => eo (Z := Unit) (fun z => γ) O O (.v 15 O O .nil) (aw (val := fun (r : Lb) (y : Unit) => str r) (B := fun _ _ => []) (vs := [Iv (n.getD (IntKind.i64.wrap ((n.length : Int) - 1)).toNat (0 : Int))]) (cap := []) (A := []) (rst := [W0 e a1 bt b0 b1, ao (aj a1 au am a2) ai a2 bs, W1 c e a3 n a4 a5 a6 a7 a8 a9 af a0 w x al an, Row 3 1 w n.length x b2.flatten, Row 144 5 al af.length an b3.flatten, bc, obj q 36 [Pt c], obj t 3 [Iv m], obj u 3 [Iv bd], F]) O O O O O O call47 (.s O (.s O (.s O (.s O (.s O (.s O (.s O (.s O (.s O (.s O .n)))))))))) (cw.calls _ _ k (n.getD (IntKind.i64.wrap ((n.length : Int) - 1)).toNat (0 : Int)) (hgl.lend 9 O)) d8) (fun _ => ⟨O, O, O, O, O, O, O, O, O, O, O, O, O, O, O, O, trivial⟩) (fun _ => .inr O) (fun z => Ent.refl _)) (ac (fun γ => eo (Z := Nat × Kps) (fun z => z) O O (.v 3 O O (.v 16 O O .nil)) (aw (vs := [Pt e, str c4]) (cap := []) (A := [W0 e a1 bt b0 b1, ao (aj a1 au am a2) ai a2 bs]) (rst := [W1 c e a3 n a4 a5 a6 a7 a8 a9 af a0 w x al an, Row 3 1 w n.length x b2.flatten, Row 144 5 al af.length an b3.flatten, bc, obj q 36 [Pt c], obj t 3 [Iv m], obj u 3 [Iv bd], F]) O O O O O O call46 (.s O (.s O (.s O (.s O (.s O (.s O (.s O (.s O (.s O (.s O .n)))))))))) (cJ.calls _ _ e a1 a2 bs bt b0 b1 c4 ) d9) (fun _ => ⟨O, O, O, O, O, O, O, O, O, O, O, O, O, O, O, O, O, trivial⟩) (fun _ => .inr O) (fun z => Ent.refl _)) (ac (fun γ => eo (Z := Unit) (fun z => γ) O O (.v 17 O O .nil) (aw (vs := [Iv az.1]) (cap := []) (A := []) (rst := [W5 e γ.1 az.2.2, ao (aj γ.1 au am γ.2) ai γ.2 az.2.1, W1 c e a3 n a4 a5 a6 a7 a8 a9 af a0 w x al an, Row 3 1 w n.length x b2.flatten, Row 144 5 al af.length an b3.flatten, bc, obj q 36 [Pt c], obj t 3 [Iv m], obj u 3 [Iv bd], F]) O O O O O O call43 (.s O (.s O (.s O (.s O (.s O (.s O (.s O (.s O (.s O (.s O .n)))))))))) (bA.calls _ _ az.1 ) ea) (fun _ => ⟨O, O, O, O, O, O, O, O, O, O, O, O, O, O, O, O, O, O, trivial⟩) (fun _ => .inr O) (fun z => Ent.refl _)) zA)))
 intro d1
 refine aa (aQ ?_)
 refine cr (S := (List (Lb × (Lb × Int))) × Lb × Int × Bool × Int × List Int × Int × Int × Int × Int × Int × Int × (List aF) × Bool × Int) (Nat × Kps × Option Addr × Nat × HA × Option Addr × Nat) (fun k s => bY.l0 m k s.1 s.2.1 s.2.2.1 s.2.2.2.1 s.2.2.2.2.1 s.2.2.2.2.2.1 s.2.2.2.2.2.2.1 s.2.2.2.2.2.2.2.1 s.2.2.2.2.2.2.2.2.1 s.2.2.2.2.2.2.2.2.2.1 s.2.2.2.2.2.2.2.2.2.2.1 s.2.2.2.2.2.2.2.2.2.2.2.1 s.2.2.2.2.2.2.2.2.2.2.2.2.1 s.2.2.2.2.2.2.2.2.2.2.2.2.2.1 s.2.2.2.2.2.2.2.2.2.2.2.2.2.2) (fun s y => [(0, Pt q), (1, Pt t), (2, Pt u)]) (fun s y => [W4 e y.1 s.2, W7 c e s.2.2.2.2 y.2.2.1 y.2.2.2.1 y.2.2.2.2.2.1 y.2.2.2.2.2.2, obj q 36 [Pt c], obj t 3 [Iv m], obj u 3 [Iv s.2.2.2.2.2.2.2.2.2.2.2.2.2.2], ao (aj y.1 au am y.2.1) ai y.2.1 s.1, ar 3 1 (V3 tt) y.2.2.1 s.2.2.2.2.2.1 y.2.2.2.1, ar 144 5 (aP y.2.2.2.2.1) y.2.2.2.2.2.1 s.2.2.2.2.2.2.2.2.2.2.2.2.1 y.2.2.2.2.2.2, y.2.2.2.2.1, F]) (fun _ => by rw [bY.l0]) ?_ k (az.2.1, az.2.2.1, az.2.2.2.1, az.2.2.2.2, a3, n, a4, a5, a6, a7, a8, a9, af, a0, bd) (d1.1, d1.2, w, x, bc, al, an) ⟨O, O, O, trivial⟩ (.s O (.sel 1 O (.sel 4 O (.sel 4 O (.sel 4 O (.s O (.sel' 0 O (ar.mk dl) (.sel' 0 O (ar.mk e7) (.s O (.s O .n))))))))))
 intro k a b
 refine cR (by rw [bY.l0]) (ay ?_)
 refine bF (S := Bool) Unit (fun s y => [(0, Pt q), (1, Pt t), (2, Pt u), (41, .bool s)]) (fun s y => [W4 e b.1 a.2, W7 c e a.2.2.2.2 b.2.2.1 b.2.2.2.1 b.2.2.2.2.2.1 b.2.2.2.2.2.2, obj q 36 [Pt c], obj t 3 [Iv m], obj u 3 [Iv a.2.2.2.2.2.2.2.2.2.2.2.2.2.2], ao (aj b.1 au am b.2.1) ai b.2.1 a.1, ar 3 1 (V3 tt) b.2.2.1 a.2.2.2.2.2.1 b.2.2.2.1, ar 144 5 (aP b.2.2.2.2.1) b.2.2.2.2.2.1 a.2.2.2.2.2.2.2.2.2.2.2.2.1 b.2.2.2.2.2.2, b.2.2.2.2.1, F]) ?_ ?_
 refine bm 6 O (fun cd b5 => (bm 7 O (fun ch cs => ?_)))
 refine fo (fun p => ?_) (fun p => ?_)
 refine cB (fun c6 => (gv 6 O b5 O (i := (0 : Int).toNat) (by omega) (0 : Int) (fun d2 c7 g8 eb ec fz hcell54v => ?_)))
 obtain rfl := ec
 refine bo (fun b4 ed => ?_)
 refine ba (Γ := Unit) () [[], [0], [0, 1], [0, 1, 2], rL 4, rL 5, rL 6, rL 7, rL 8, rL 9, rL 7, [0, 1, 2, 3, 4, 5, 6, 10], [0, 1, 2, 3, 4, 5, 6, 10, 11], [0, 1, 2, 3, 4, 5, 6, 10, 11, 12], [0, 1, 2, 3, 4, 5, 6, 10, 11, 12, 13], [0, 1, 2, 3, 4, 5, 6, 10, 11, 12, 13, 14], rL 7, rL 17, rL 18, rL 19] [] [0, 1, 2, 3, 4, 5, 6, 7, 8, 9, 10, 11, 12, 13, 14, 15, 16, 17, 18, 19] (fun i => [[0], [0], [0], [0], [0], [0], [0], [0], [0], [0], [0], [0], [0], [0], [0], [0], [0], [0], [0], [0]].getD i []) (fun i => [[], [], [], [], [], [], [], [], [], [], [], [], [], [], [], [], [], [], [], []].getD i []) (fun γ i => [Pt c, Pt c, .pointer (some ⟨c, 2, none⟩), .slice b.2.2.1 a.2.2.2.2.2.1.length b.2.2.2.1, Iv (a.2.2.2.2.2.1.length : Int), .bool (decide ((1 : Int) < (a.2.2.2.2.2.1.length : Int))), .bool (decide ((1 : Int) < (a.2.2.2.2.2.1.length : Int))), Pt c, Pt c, .pointer (some ⟨c, 4, none⟩), Pt c, Pt c, .pointer (some ⟨c, 2, none⟩), .slice b.2.2.1 a.2.2.2.2.2.1.length b.2.2.2.1, .pointer (some ⟨d2, c7 + (0 : Int).toNat * 1, none⟩), Iv (a.2.2.2.2.2.1.getD (0 : Int).toNat (0 : Int)), Iv m, .bool b4, .bool (!b4), .bool (!b4)].getD i undef) (fun j γ => [[W4 e b.1 a.2, W7 c e a.2.2.2.2 b.2.2.1 b.2.2.2.1 b.2.2.2.2.2.1 b.2.2.2.2.2.2, obj q 36 [Pt c], obj t 3 [Iv m], obj u 3 [Iv a.2.2.2.2.2.2.2.2.2.2.2.2.2.2], ao (aj b.1 au am b.2.1) ai b.2.1 a.1, Row 3 1 b.2.2.1 a.2.2.2.2.2.1.length b.2.2.2.1 cd.flatten, Row 144 5 b.2.2.2.2.2.1 a.2.2.2.2.2.2.2.2.2.2.2.2.1.length b.2.2.2.2.2.2 ch.flatten, b.2.2.2.2.1, F]].getD j []) (fun γ => [(0, Pt q), (1, Pt t), (2, Pt u), (29, Pt c), (30, Pt c), (31, .pointer (some ⟨c, 4, none⟩)), (32, Pt c), (33, Pt c), (34, .pointer (some ⟨c, 2, none⟩)), (35, .slice b.2.2.1 a.2.2.2.2.2.1.length b.2.2.2.1), (36, .pointer (some ⟨d2, c7 + (0 : Int).toNat * 1, none⟩)), (37, Iv (a.2.2.2.2.2.1.getD (0 : Int).toNat (0 : Int))), (38, Iv m), (39, .bool b4), (40, .bool (!b4)), (41, .bool (!b4))]) mixed (by decide) (by decide) (by decide) (by decide) (by decide) (by decide) (by decide) 75 O (by decide) (by decide) (by decide) (Ent.refl _) ?_ ?_ (fun _ => ⟨O, O, O, O, O, O, O, O, O, O, O, O, O, O, O, O, trivial⟩) ?_
 exact (aq O (fun γ => qp O O (.o (s := 0) O (by decide) .nil) (ag O O isAgg36 (.obj 2 O O)) O) (aq O (fun γ => qp O O (.v 0 O O .nil) (aS O O) O) (aq O (fun γ => qp O O (.v 1 O O .nil) (ap O O underlying91 O O sizeOf78 O) O) (aq O (fun γ => qp O O (.v 2 O O .nil) (ag O O isAgg78 (.obj 1 O O)) O) (aq O (fun γ => qp O O (.v 3 O O .nil) (bp O O O underlying78) O) (aq O (fun γ => qp O O (.v 4 O O .nil) (cF O O O) O) (aq O (fun γ => qm O (.v 5 O O .nil) O) (aq O (fun γ => qy O O (.o (s := 0) O (by decide) (.v 6 O O .nil)) O O (bC (decide_eq_true p)) (ag O O isAgg36 (.obj 2 O O)) O) (aq O (fun γ => qy O O (.v 6 O O (.v 7 O O .nil)) O O (bC (decide_eq_true p)) (aS O O) O) (aq O (fun γ => qy O O (.v 6 O O (.v 8 O O .nil)) O O (bC (decide_eq_true p)) (ap O O underlying91 O O sizeOf89 O) O) (aq O (fun γ => qy O O (.o (s := 0) O (by decide) (.v 6 O O .nil)) O O (bC (decide_eq_true p)) (ag O O isAgg36 (.obj 2 O O)) O) (aq O (fun γ => qy O O (.v 6 O O (.v 10 O O .nil)) O O (bC (decide_eq_true p)) (aS O O) O) (aq O (fun γ => qy O O (.v 6 O O (.v 11 O O .nil)) O O (bC (decide_eq_true p)) (ap O O underlying91 O O sizeOf78 O) O) (aq O (fun γ => qy O O (.v 6 O O (.v 12 O O .nil)) O O (bC (decide_eq_true p)) (ag O O isAgg78 (.obj 1 O O)) O) (aq O (fun γ => qy O O (.v 6 O O (.v 13 O O .nil)) O O (bC (decide_eq_true p)) (cK O O O eb underlying78 sizeOf3 c6.1 c6.2) O) (aq O (fun γ => qy O O (.v 6 O O (.v 14 O O .nil)) O O (bC (decide_eq_true p)) (ag O O isAgg3 (hcell54v 6 O 0 _ O)) O) (aq O (fun γ => qy O O (.o (s := 1) O (by decide) (.v 6 O O .nil)) O O (bC (decide_eq_true p)) (ag O O isAgg3 (.obj 3 O O)) O) (aq O (fun γ => qy O O (.v 6 O O (.v 9 O O (.v 15 O O (.v 16 O O .nil)))) O O (bC (decide_eq_true p)) (RE.rq (RE.lend 6 O (fun ef eg ei g4 => RE.lend 7 O (fun ek el em g5 => aw (vs := [.pointer (some ⟨c, 4, none⟩), Iv (a.2.2.2.2.2.1.getD (0 : Int).toNat (0 : Int)), Iv m]) (cap := []) (A := [W4 e b.1 a.2, ao (aj b.1 au am b.2.1) ai b.2.1 a.1, W7 c e a.q4 b.2.2.1 b.2.2.2.1 b.q4.2.1 b.q4.2.2]) (rst := [obj q 36 [Pt c], obj t 3 [Iv m], obj u 3 [Iv a.q8.q4.2.2], Row 3 1 b.2.2.1 a.q4.2.1.length b.2.2.2.1 cd.flatten, Row 144 5 b.q4.2.1 a.q8.q4.1.length b.q4.2.2 ch.flatten, b.q4.1, F]) O O O O O O call63 (.s O (.sel 4 O (.s O (.s O (.s O (.s O (.s O (.s O (.s O (.s O .n)))))))))) (dO.calls _ _ k c e b.1 b.2.1 a.1 a.2.1 a.2.2.1 a.2.2.2.1 a.2.2.2.2.1 b.2.2.1 b.2.2.2.1 a.2.2.2.2.2.1 a.2.2.2.2.2.2.1 a.2.2.2.2.2.2.2.1 a.2.2.2.2.2.2.2.2.1 a.2.2.2.2.2.2.2.2.2.1 a.2.2.2.2.2.2.2.2.2.2.1 a.2.2.2.2.2.2.2.2.2.2.2.1 b.2.2.2.2.2.1 b.2.2.2.2.2.2 a.2.2.2.2.2.2.2.2.2.2.2.2.1 a.2.2.2.2.2.2.2.2.2.2.2.2.2.1 (a.2.2.2.2.2.1.getD (0 : Int).toNat (0 : Int)) m ((Rd.asV b5 ef).up (Up.lend 3 O) (fun _ _ h => h)) eg ei ((Rd.asV cs ek).up (Up.lend 4 O) (aP.up (Up.lend 5 O))) el em) ed))) (fun _ => by rfl) (fun _ => by exact ((.s O (.sel 1 O (.sel 1 O (.sel 1 O (.sel 1 O (.s O (.s O (.s O (.s O (.s O .n))))))))))))) O) (aq O (fun γ => qy O O (.v 6 O O (.v 17 O O .nil)) O O (bC (decide_eq_true p)) (eT O O) O) (aq O (fun γ => qp O O (.v 6 O O (.v 18 O O .nil)) (cf O O O O (lG (decide_eq_true p) _ _)) O) zA))))))))))))))))))))
 exact zA
 intro g9
 exact aH (s := !b4) () ⟨O, O, O, O, trivial⟩ (.s O (.s O (.s O (.s O (.s O (.s O (.sel' 0 O (ar.mk b5) (.sel' 0 O (ar.mk cs) (.s O (.s O .n))))))))))
 refine ba (Γ := Unit) () [[], [0], [0, 1], [0, 1, 2], rL 4, rL 5, rL 6, rL 7, rL 8, rL 9, rL 7, [0, 1, 2, 3, 4, 5, 6, 10], [0, 1, 2, 3, 4, 5, 6, 10, 11], [0, 1, 2, 3, 4, 5, 6, 10, 11, 12], [0, 1, 2, 3, 4, 5, 6, 10, 11, 12, 13], [0, 1, 2, 3, 4, 5, 6, 10, 11, 12, 13, 14], rL 7, rL 17, rL 18, rL 19] [] [0, 1, 2, 3, 4, 5, 6, 7, 8, 9, 10, 11, 12, 13, 14, 15, 16, 17, 18, 19] (fun i => [[0], [0], [0], [0], [0], [0], [0], [0], [0], [0], [0], [0], [0], [0], [0], [0], [0], [0], [0], [0]].getD i []) (fun i => [[], [], [], [], [], [], [], [], [], [], [], [], [], [], [], [], [], [], [], []].getD i []) (fun γ i => [Pt c, Pt c, .pointer (some ⟨c, 2, none⟩), .slice b.2.2.1 a.2.2.2.2.2.1.length b.2.2.2.1, Iv (a.2.2.2.2.2.1.length : Int), .bool (decide ((1 : Int) < (a.2.2.2.2.2.1.length : Int))), .bool (decide ((1 : Int) < (a.2.2.2.2.2.1.length : Int))), undef, undef, undef, undef, undef, undef, undef, undef, undef, undef, undef, undef, .bool false].getD i undef) (fun j γ => [[W4 e b.1 a.2, W7 c e a.2.2.2.2 b.2.2.1 b.2.2.2.1 b.2.2.2.2.2.1 b.2.2.2.2.2.2, obj q 36 [Pt c], obj t 3 [Iv m], obj u 3 [Iv a.2.2.2.2.2.2.2.2.2.2.2.2.2.2], ao (aj b.1 au am b.2.1) ai b.2.1 a.1, Row 3 1 b.2.2.1 a.2.2.2.2.2.1.length b.2.2.2.1 cd.flatten, Row 144 5 b.2.2.2.2.2.1 a.2.2.2.2.2.2.2.2.2.2.2.2.1.length b.2.2.2.2.2.2 ch.flatten, b.2.2.2.2.1, F]].getD j []) (fun γ => [(0, Pt q), (1, Pt t), (2, Pt u), (29, undef), (30, undef), (31, undef), (32, undef), (33, undef), (34, undef), (35, undef), (36, undef), (37, undef), (38, undef), (39, undef), (40, undef), (41, .bool false)]) mixed (by decide) (by decide) (by decide) (by decide) (by decide) (by decide) (by decide) 75 O (by decide) (by decide) (by decide) (Ent.refl _) ?_ ?_ (fun _ => ⟨O, O, O, O, O, O, O, O, O, O, O, O, O, O, O, O, trivial⟩) ?_
 exact (aq O (fun γ => qp O O (.o (s := 0) O (by decide) .nil) (ag O O isAgg36 (.obj 2 O O)) O) (aq O (fun γ => qp O O (.v 0 O O .nil) (aS O O) O) (aq O (fun γ => qp O O (.v 1 O O .nil) (ap O O underlying91 O O sizeOf78 O) O) (aq O (fun γ => qp O O (.v 2 O O .nil) (ag O O isAgg78 (.obj 1 O O)) O) (aq O (fun γ => qp O O (.v 3 O O .nil) (bp O O O underlying78) O) (aq O (fun γ => qp O O (.v 4 O O .nil) (cF O O O) O) (aq O (fun γ => qm O (.v 5 O O .nil) O) (aq O (fun γ => qn O O (.o (s := 0) O (by decide) (.v 6 O O .nil)) O O (bD (decide_eq_false p)) O) (aq O (fun γ => qn O O (.v 6 O O (.v 7 O O .nil)) O O (bD (decide_eq_false p)) O) (aq O (fun γ => qn O O (.v 6 O O (.v 8 O O .nil)) O O (bD (decide_eq_false p)) O) (aq O (fun γ => qn O O (.o (s := 0) O (by decide) (.v 6 O O .nil)) O O (bD (decide_eq_false p)) O) (aq O (fun γ => qn O O (.v 6 O O (.v 10 O O .nil)) O O (bD (decide_eq_false p)) O) (aq O (fun γ => qn O O (.v 6 O O (.v 11 O O .nil)) O O (bD (decide_eq_false p)) O) (aq O (fun γ => qn O O (.v 6 O O (.v 12 O O .nil)) O O (bD (decide_eq_false p)) O) (aq O (fun γ => qn O O (.v 6 O O (.v 13 O O .nil)) O O (bD (decide_eq_false p)) O) (aq O (fun γ => qn O O (.v 6 O O (.v 14 O O .nil)) O O (bD (decide_eq_false p)) O) (aq O (fun γ => qn O O (.o (s := 1) O (by decide) (.v 6 O O .nil)) O O (bD (decide_eq_false p)) O) (aq O (fun γ => qn O O (.v 6 O O (.v 9 O O (.v 15 O O (.v 16 O O .nil)))) O O (bD (decide_eq_false p)) O) (aq O (fun γ => qn O O (.v 6 O O (.v 17 O O .nil)) O O (bD (decide_eq_false p)) O) (aq O (fun γ => qp O O (.v 6 O O (.v 18 O O .nil)) (cf O O O O (mI (decide_eq_false p) _ _)) O) zA))))))))))))))))))))
 exact zA
 intro ha
 exact aH (s := false) () ⟨O, O, O, O, trivial⟩ (.s O (.s O (.s O (.s O (.s O (.s O (.sel' 0 O (ar.mk b5) (.sel' 0 O (ar.mk cs) (.s O (.s O .n))))))))))
 intro hb hc
 refine aW O (fun he => ?_) (fun hf => ?_)
 refine aC (aa (aQ (ay (bm 6 O (fun be c0 => (bm 7 O (fun br er => (cB (fun c8 => (gv 6 O c0 O (i := (0 : Int).toNat) (by omega) (0 : Int) (fun fn es hg et e0 go hcell81v => ?_)))))))))))
 obtain rfl := e0
 refine bo (fun c5 e1 => (bo (fun g e2 => (bo (fun hh e3 => ?_)))))
 refine ba (Γ := (Nat × Kps)) (0, ([] : Kps)) [[], [0], [0, 1], [0, 1, 2], [], [4], [4, 5], [4, 5, 6], [4, 5, 6, 7], [4, 5, 6, 7, 8], [4, 5, 6, 7, 8, 9], rL 11, rL 12] [10, 11, 12] [0, 1, 2, 3, 4, 5, 6, 7, 8, 9] (fun i => [[0, 1], [0, 1], [0, 1], [0, 1], [0], [0], [0], [0], [0], [0], [], [], []].getD i []) (fun i => [[], [], [], [], [], [], [], [], [], [], rL 10, rL 11, rL 12].getD i []) (fun γ i => [Pt c, Pt c, Pt c, Pt e, Pt c, Pt c, .pointer (some ⟨c, 2, none⟩), .slice b.2.2.1 a.2.2.2.2.2.1.length b.2.2.2.1, .pointer (some ⟨fn, es + (0 : Int).toNat * 1, none⟩), Iv (a.2.2.2.2.2.1.getD (0 : Int).toNat (0 : Int)), str c5, Iv g.1, .tuple #[]].getD i undef) (fun j γ => [[W4 e b.1 a.2, W7 c e a.2.2.2.2 b.2.2.1 b.2.2.2.1 b.2.2.2.2.2.1 b.2.2.2.2.2.2, obj q 36 [Pt c], obj t 3 [Iv m], obj u 3 [Iv a.2.2.2.2.2.2.2.2.2.2.2.2.2.2], ao (aj b.1 au am b.2.1) ai b.2.1 a.1, Row 3 1 b.2.2.1 a.2.2.2.2.2.1.length b.2.2.2.1 be.flatten, Row 144 5 b.2.2.2.2.2.1 a.2.2.2.2.2.2.2.2.2.2.2.2.1.length b.2.2.2.2.2.2 br.flatten, b.2.2.2.2.1, F], [W4 e b.1 a.2, W7 c e a.2.2.2.2 b.2.2.1 b.2.2.2.1 b.2.2.2.2.2.1 b.2.2.2.2.2.2, obj q 36 [Pt c], obj t 3 [Iv m], obj u 3 [Iv a.2.2.2.2.2.2.2.2.2.2.2.2.2.2], ao (aj b.1 au am b.2.1) ai b.2.1 a.1, Row 3 1 b.2.2.1 a.2.2.2.2.2.1.length b.2.2.2.1 be.flatten, Row 144 5 b.2.2.2.2.2.1 a.2.2.2.2.2.2.2.2.2.2.2.2.1.length b.2.2.2.2.2.2 br.flatten, b.2.2.2.2.1, F], [W5 e γ.1 g.2.2, ao (aj γ.1 au am γ.2) ai γ.2 g.2.1, W7 c e a.2.2.2.2 b.2.2.1 b.2.2.2.1 b.2.2.2.2.2.1 b.2.2.2.2.2.2, obj q 36 [Pt c], obj t 3 [Iv m], obj u 3 [Iv a.2.2.2.2.2.2.2.2.2.2.2.2.2.2], Row 3 1 b.2.2.1 a.2.2.2.2.2.1.length b.2.2.2.1 be.flatten, Row 144 5 b.2.2.2.2.2.1 a.2.2.2.2.2.2.2.2.2.2.2.2.1.length b.2.2.2.2.2.2 br.flatten, b.2.2.2.2.1, F], [W5 e γ.1 g.2.2, ao (aj γ.1 au am γ.2) ai γ.2 g.2.1, W7 c e a.2.2.2.2 b.2.2.1 b.2.2.2.1 b.2.2.2.2.2.1 b.2.2.2.2.2.2, obj q 36 [Pt c], obj t 3 [Iv m], obj u 3 [Iv a.2.2.2.2.2.2.2.2.2.2.2.2.2.2], Row 3 1 b.2.2.1 a.2.2.2.2.2.1.length b.2.2.2.1 be.flatten, Row 144 5 b.2.2.2.2.2.1 a.2.2.2.2.2.2.2.2.2.2.2.2.1.length b.2.2.2.2.2.2 br.flatten, b.2.2.2.2.1, F]].getD j []) (fun γ => [(0, Pt q), (1, Pt t), (2, Pt u)]) mixed (by decide) (by decide) (by decide) (by decide) (by decide) (by decide) (by decide) 75 O (by decide) (by decide) (by decide) (Ent.refl _) ?_ ?_ (fun _ => ⟨O, O, O, trivial⟩) ?_
 exact (ac (fun γ => (ac (qp O O (.o (s := 0) O (by decide) .nil) (ag O O isAgg36 (.obj 2 O O)) O) (ac (qp O O (.o (s := 0) O (by decide) .nil) (ag O O isAgg36 (.obj 2 O O)) O) zA))) (ac (fun γ => (ac (qp O O (.v 0 O O .nil) (aS O O) O) (ac (qp O O (.v 0 O O .nil) (aS O O) O) zA))) (ac (fun γ => (ac (qp O O (.v 1 O O .nil) (ap O O underlying91 O O sizeOf39 O) O) (ac (qp O O (.v 1 O O .nil) (ap O O underlying91 O O sizeOf39 O) O) zA))) (ac (fun γ => (ac (qp O O (.v 2 O O .nil) (ag O O isAgg39 (.obj 1 O O)) O) (ac (qp O O (.v 2 O O .nil) (ag O O isAgg39 (.obj 1 O O)) O) zA))) (aq O (fun γ => qp O O (.o (s := 0) O (by decide) .nil) (ag O O isAgg36 (.obj 2 O O)) O) (aq O (fun γ => qp O O (.v 4 O O .nil) (aS O O) O) (aq O (fun γ => qp O O (.v 5 O O .nil) (ap O O underlying91 O O sizeOf78 O) O) (aq O (fun γ => qp O O (.v 6 O O .nil) (ag O O isAgg78 (.obj 1 O O)) O) (aq O (fun γ => qp O O (.v 7 O O .nil) (cK O O O et underlying78 sizeOf3 c8.1 c8.2) O) (aq O (fun γ => qp O O (.v 8 O O .nil) (ag O O isAgg3 (hcell81v 6 O 0 _ O)) O) zA))))))))))
 exact (ac (fun γ => eo (Z := Unit) (fun z => γ) O O (.v 9 O O .nil) (aw (val := fun (r : Lb) (y : Unit) => str r) (B := fun _ _ => []) (vs := [Iv (a.2.2.2.2.2.1.getD (0 : Int).toNat (0 : Int))]) (cap := []) (A := []) (rst := [W4 e b.1 a.2, W7 c e a.q4 b.2.2.1 b.2.2.2.1 b.q4.2.1 b.q4.2.2, obj q 36 [Pt c], obj t 3 [Iv m], obj u 3 [Iv a.q8.q4.2.2], ao (aj b.1 au am b.2.1) ai b.2.1 a.1, Row 3 1 b.2.2.1 a.q4.2.1.length b.2.2.2.1 be.flatten, Row 144 5 b.q4.2.1 a.q8.q4.1.length b.q4.2.2 br.flatten, b.q4.1, F]) O O O O O O call47 (.s O (.s O (.s O (.s O (.s O (.s O (.s O (.s O (.s O (.s O .n)))))))))) (cw.calls _ _ k (a.2.2.2.2.2.1.getD (0 : Int).toNat (0 : Int)) (hgl.lend 9 O)) e1) (fun _ => ⟨O, O, O, O, O, O, O, O, O, O, trivial⟩) (fun _ => .inr O) (fun z => Ent.refl _)) (ac (fun γ => eo (Z := Nat × Kps) (fun z => z) O O (.v 3 O O (.v 10 O O .nil)) (aw (vs := [Pt e, str c5]) (cap := []) (A := [W4 e b.1 a.2, ao (aj b.1 au am b.2.1) ai b.2.1 a.1]) (rst := [W7 c e a.q4 b.2.2.1 b.2.2.2.1 b.q4.2.1 b.q4.2.2, obj q 36 [Pt c], obj t 3 [Iv m], obj u 3 [Iv a.q8.q4.2.2], Row 3 1 b.2.2.1 a.q4.2.1.length b.2.2.2.1 be.flatten, Row 144 5 b.q4.2.1 a.q8.q4.1.length b.q4.2.2 br.flatten, b.q4.1, F]) O O O O O O call64 (.s O (.sel 4 O (.s O (.s O (.s O (.s O (.s O (.s O (.s O (.s O .n)))))))))) (dM.calls _ _ e b.1 b.2.1 a.1 a.2.1 a.2.2.1 a.2.2.2.1 c5 ) e2) (fun _ => ⟨O, O, O, O, O, O, O, O, O, O, O, trivial⟩) (fun _ => .inr O) (fun z => Ent.refl _)) (ac (fun γ => eo (Z := Unit) (fun z => γ) O O (.v 11 O O .nil) (aw (vs := [Iv g.1]) (cap := []) (A := []) (rst := [W5 e γ.1 g.2.2, ao (aj γ.1 au am γ.2) ai γ.2 g.2.1, W7 c e a.q4 b.2.2.1 b.2.2.2.1 b.q4.2.1 b.q4.2.2, obj q 36 [Pt c], obj t 3 [Iv m], obj u 3 [Iv a.q8.q4.2.2], Row 3 1 b.2.2.1 a.q4.2.1.length b.2.2.2.1 be.flatten, Row 144 5 b.q4.2.1 a.q8.q4.1.length b.q4.2.2 br.flatten, b.q4.1, F]) O O O O O O call43 (.s O (.s O (.s O (.s O (.s O (.s O (.s O (.s O (.s O (.s O .n)))))))))) (bA.calls _ _ g.1 ) e3) (fun _ => ⟨O, O, O, O, O, O, O, O, O, O, O, O, trivial⟩) (fun _ => .inr O) (fun z => Ent.refl _)) zA)))
 intro ab
 refine aa (ay (cB (fun c9 => (gv 6 O c0 O (i := (0 : Int).toNat) (by omega) (0 : Int) (fun fp e4 hj e5 e6 gs hcell99v => ?_)))))
 obtain rfl := e6
 refine bo (fun d d3 => ?_)
 refine ba (Γ := (Option Addr × Nat × Option Addr × Nat × HA)) (none, 0, none, 0, tt) [[], [0], [0, 1], [], [3], [3, 4], [3, 4, 5], [3, 4, 5, 6], [3, 4, 5, 6, 7], rL 9] [9] [0, 1, 2, 3, 4, 5, 6, 7, 8] (fun i => [[0], [0], [0], [0], [0], [0], [0], [0], [0], []].getD i []) (fun i => [[], [], [], [], [], [], [], [], [], rL 9].getD i []) (fun γ i => [Pt c, Pt c, .pointer (some ⟨c, 4, none⟩), Pt c, Pt c, .pointer (some ⟨c, 2, none⟩), .slice b.2.2.1 a.2.2.2.2.2.1.length b.2.2.2.1, .pointer (some ⟨fp, e4 + (0 : Int).toNat * 1, none⟩), Iv (a.2.2.2.2.2.1.getD (0 : Int).toNat (0 : Int)), .tuple #[]].getD i undef) (fun j γ => [[W5 e ab.1 g.2.2, ao (aj ab.1 au am ab.2) ai ab.2 g.2.1, W7 c e a.2.2.2.2 b.2.2.1 b.2.2.2.1 b.2.2.2.2.2.1 b.2.2.2.2.2.2, obj q 36 [Pt c], obj t 3 [Iv m], obj u 3 [Iv a.2.2.2.2.2.2.2.2.2.2.2.2.2.2], Row 3 1 b.2.2.1 a.2.2.2.2.2.1.length b.2.2.2.1 be.flatten, Row 144 5 b.2.2.2.2.2.1 a.2.2.2.2.2.2.2.2.2.2.2.2.1.length b.2.2.2.2.2.2 br.flatten, b.2.2.2.2.1, F], [W5 e ab.1 g.2.2, ao (aj ab.1 au am ab.2) ai ab.2 g.2.1, W2 c e d γ.1 γ.2.1 γ.2.2.1 γ.2.2.2.1, ar 3 1 (V3 tt) γ.1 d.2.1 γ.2.1, ar 144 5 (aP (γ.2.2.2.2)) γ.2.2.1 d.2.2.2.2.2.2.2.2.1 γ.2.2.2.1, γ.2.2.2.2, obj q 36 [Pt c], obj t 3 [Iv m], obj u 3 [Iv a.2.2.2.2.2.2.2.2.2.2.2.2.2.2], F]].getD j []) (fun γ => [(0, Pt q), (1, Pt t), (2, Pt u)]) mixed (by decide) (by decide) (by decide) (by decide) (by decide) (by decide) (by decide) 75 O (by decide) (by decide) (by decide) (Ent.refl _) ?_ ?_ (fun _ => ⟨O, O, O, trivial⟩) ?_
 exact (aq O (fun γ => qp O O (.o (s := 0) O (by decide) .nil) (ag O O isAgg36 (.obj 3 O O)) O) (aq O (fun γ => qp O O (.v 0 O O .nil) (aS O O) O) (aq O (fun γ => qp O O (.v 1 O O .nil) (ap O O underlying91 O O sizeOf89 O) O) (aq O (fun γ => qp O O (.o (s := 0) O (by decide) .nil) (ag O O isAgg36 (.obj 3 O O)) O) (aq O (fun γ => qp O O (.v 3 O O .nil) (aS O O) O) (aq O (fun γ => qp O O (.v 4 O O .nil) (ap O O underlying91 O O sizeOf78 O) O) (aq O (fun γ => qp O O (.v 5 O O .nil) (ag O O isAgg78 (.obj 2 O O)) O) (aq O (fun γ => qp O O (.v 6 O O .nil) (cK O O O e5 underlying78 sizeOf3 c9.1 c9.2) O) (aq O (fun γ => qp O O (.v 7 O O .nil) (ag O O isAgg3 (hcell99v 6 O 0 _ O)) O) zA)))))))))
 exact (ac (fun γ => eo (Z := Option Addr × Nat × Option Addr × Nat × HA) (fun z => z) O O (.v 2 O O (.v 8 O O .nil)) (aw (vs := [.pointer (some ⟨c, 4, none⟩), Iv (a.2.2.2.2.2.1.getD (0 : Int).toNat (0 : Int))]) (cap := []) (A := [W5 e ab.1 g.2.2, ao (aj ab.1 au am ab.2) ai ab.2 g.2.1, W7 c e a.q4 b.2.2.1 b.2.2.2.1 b.q4.2.1 b.q4.2.2, ar 3 1 (V3 tt) b.2.2.1 a.q4.2.1 b.2.2.2.1, ar 144 5 (aP b.q4.1) b.q4.2.1 a.q8.q4.1 b.q4.2.2, b.q4.1]) (rst := [obj q 36 [Pt c], obj t 3 [Iv m], obj u 3 [Iv a.q8.q4.2.2], F]) O O O O O O call65 (.s O (.s O (.s O (.sel' 3 O (ar.mk c0) (.sel' 3 O (ar.mk er) (.sel 3 O (.s O (.s O (.s O (.s O .n)))))))))) (cq.calls _ _ k c e ab.1 ab.2 g.2.1 g.2.2.1 g.2.2.2.1 g.2.2.2.2 a.2.2.2.2.1 b.2.2.1 b.2.2.2.1 a.2.2.2.2.2.1 a.2.2.2.2.2.2.1 a.2.2.2.2.2.2.2.1 a.2.2.2.2.2.2.2.2.1 a.2.2.2.2.2.2.2.2.2.1 a.2.2.2.2.2.2.2.2.2.2.1 a.2.2.2.2.2.2.2.2.2.2.2.1 b.2.2.2.2.2.1 b.2.2.2.2.2.2 a.2.2.2.2.2.2.2.2.2.2.2.2.1 b.2.2.2.2.1 a.2.2.2.2.2.2.2.2.2.2.2.2.2.1 (a.2.2.2.2.2.1.getD (0 : Int).toNat (0 : Int)) ) d3) (fun _ => ⟨O, O, O, O, O, O, O, O, O, trivial⟩) (fun _ => .inr O) (fun z => Ent.refl _)) zA)
 intro ad
 refine aa (ay (bm 3 O (fun d4 c1 => (bm 4 O (fun c2 d5 => (gP 3 O (fun d6 b8 gy g0 => (cB (fun b9 => ?_)))))))))
 obtain ⟨b6, b7, c3, g1, g2, g3⟩ := gb (lo := (1 : Int)) (hi := (d.2.1.length : Int)) (Rd.asV c1 d6) b8 b9
 refine ba (Γ := Unit) () [[], [], [1], [1, 2], [1, 2, 3], [1, 2, 3, 4], rL 6, rL 7, rL 8] [8] [0, 1, 2, 3, 4, 5, 6, 7] (fun i => [[0], [0], [0], [0], [0], [0], [0], [0], []].getD i []) (fun i => [[], [], [], [], [], [], [], [], rL 8].getD i []) (fun γ i => [Pt c, Pt c, Pt c, .pointer (some ⟨c, 2, none⟩), .slice ad.1 d.2.1.length ad.2.1, .slice b6 ((cut d.2.1 (1 : Int) (d.2.1.length : Int)).length) b7, Pt c, .pointer (some ⟨c, 2, none⟩), undef].getD i undef) (fun j γ => [[W5 e ab.1 g.2.2, ao (aj ab.1 au am ab.2) ai ab.2 g.2.1, W2 c e d ad.1 ad.2.1 ad.2.2.1 ad.2.2.2.1, Row 3 1 ad.1 d.2.1.length ad.2.1 d4.flatten, Row 144 5 ad.2.2.1 d.2.2.2.2.2.2.2.2.1.length ad.2.2.2.1 c2.flatten, ad.2.2.2.2, obj q 36 [Pt c], obj t 3 [Iv m], obj u 3 [Iv a.2.2.2.2.2.2.2.2.2.2.2.2.2.2], F], [W5 e ab.1 g.2.2, ao (aj ab.1 au am ab.2) ai ab.2 g.2.1, W1 c e d.1 (cut d.2.1 (1 : Int) (d.2.1.length : Int)) d.2.2.1 d.2.2.2.1 d.2.2.2.2.1 d.2.2.2.2.2.1 d.2.2.2.2.2.2.1 d.2.2.2.2.2.2.2.1 d.2.2.2.2.2.2.2.2.1 d.2.2.2.2.2.2.2.2.2 b6 b7 ad.2.2.1 ad.2.2.2.1, ar 3 1 (V3 tt) b6 (cut d.2.1 (1 : Int) (d.2.1.length : Int)) b7, Row 144 5 ad.2.2.1 d.2.2.2.2.2.2.2.2.1.length ad.2.2.2.1 c2.flatten, ad.2.2.2.2, obj q 36 [Pt c], obj t 3 [Iv m], obj u 3 [Iv a.2.2.2.2.2.2.2.2.2.2.2.2.2.2], F]].getD j []) (fun γ => [(0, Pt q), (1, Pt t), (2, Pt u)]) mixed (by decide) (by decide) (by decide) (by decide) (by decide) (by decide) (by decide) 75 O (by decide) (by decide) (by decide) (Ent.refl _) ?_ ?_ (fun _ => ⟨O, O, O, trivial⟩) ?_
 exact (aq O (fun γ => qp O O (.o (s := 0) O (by decide) .nil) (ag O O isAgg36 (.obj 6 O O)) O) (aq O (fun γ => qp O O (.o (s := 0) O (by decide) .nil) (ag O O isAgg36 (.obj 6 O O)) O) (aq O (fun γ => qp O O (.v 1 O O .nil) (aS O O) O) (aq O (fun γ => qp O O (.v 2 O O .nil) (ap O O underlying91 O O sizeOf78 O) O) (aq O (fun γ => qp O O (.v 3 O O .nil) (ag O O isAgg78 (.obj 2 O O)) O) (aq O (fun γ => qp O O (.v 4 O O .nil) (fA (l := d.2.1) (lo' := (1 : Int)) (hi' := (d.2.1.length : Int)) O O O O underlying78 sizeOf3 (.inl ⟨O, O⟩) (.inr ⟨_, O⟩) b9 b8 c3) O) (aq O (fun γ => qp O O (.v 0 O O .nil) (aS O O) O) (aq O (fun γ => qp O O (.v 6 O O .nil) (ap O O underlying91 O O sizeOf78 O) O) zA))))))))
 exact (ac (fun γ => eo (Z := Unit) (fun z => ()) O O (.v 5 O O (.v 7 O O .nil)) (RE.ent (Ent.cutV 3 O c1 c3 b9 b8) (aG 2 O O O sizeOf78 O O (aM (by rfl)) O O)) (fun _ => ⟨O, O, O, O, O, O, O, O, trivial⟩) (fun _ => .inl O) (fun z => Ent.refl _)) zA)
 intro g6
 refine aa (aI (vq (ag O O isAgg3 (.obj 8 O O)) O (vq (bU O O O) O (aU (aG 8 O O O sizeOf3 O O (aM (by rfl)) O O) O O ?_))))
 intro _
 refine ae (bu ?_)
 exact bP (s := (g.2.1, g.2.2.1, g.2.2.2.1, g.2.2.2.2, d.1, cut d.2.1 (1 : Int) (d.2.1.length : Int), d.2.2.1, d.2.2.2.1, d.2.2.2.2.1, d.2.2.2.2.2.1, d.2.2.2.2.2.2.1, d.2.2.2.2.2.2.2.1, d.2.2.2.2.2.2.2.2.1, d.2.2.2.2.2.2.2.2.2, IntKind.i64.wrap (a.2.2.2.2.2.2.2.2.2.2.2.2.2.2 + 1))) (ab.1, ab.2, b6, b7, ad.2.2.2.2, ad.2.2.1, ad.2.2.2.1) ⟨O, O, O, trivial⟩ (.s O (.sel 1 O (.sel 4 O (.sel 4 O (.sel 4 O (.s O (.s O (.sel' 0 O (ar.mk d5) (.s O (.s O .n))))))))))
 refine cD (cg (cp (ci ?_)))
 exact fc (b.1, b.2.1, b.2.2.1, b.2.2.2.1, b.2.2.2.2.2.1, b.2.2.2.2.2.2, b.2.2.2.2.1) O O O (.s O (.sel 4 O (.s O (.sel 3 O (.sel 3 O (.sel 3 O (.s O (.s O (.s O (.s O .n))))))))))
end Go.Proofs.YtndjkejhacfpdaaGreatDoor

namespace Go.Proofs.YtndjkejhacfpdaaGreatDoor
open Go.RowKit _root_.Go.Proofs.Tryz
set_option maxRecDepth 20000
set_option maxHeartbeats 20000000
def cO.f (k : Nat) (c : List ((List UInt8) × (List UInt8 × Int))) (d : List UInt8) (e : Int) (g : Bool) (h : Int) (i : List Int) (j : Int) (l : Int) (m : Int) (n : Int) (o : Int) (p : Int) (q : List (aF)) (b : Bool) (r : Int) (s : Int) : Option (Int × (List ((List UInt8) × (List UInt8 × Int))) × List UInt8 × Int × Bool × Int × List Int × Int × Int × Int × Int × Int × Int × (List (aF)) × Bool × Int) := (bY.f k c d e g h i j l m n o p q b r s).bind fun a => (some (0, a.1, a.2.1, a.2.2.1, a.2.2.2.1, a.2.2.2.2.1, a.2.2.2.2.2.1, a.2.2.2.2.2.2.1, a.2.2.2.2.2.2.2.1, a.2.2.2.2.2.2.2.2.1, a.2.2.2.2.2.2.2.2.2.1, a.2.2.2.2.2.2.2.2.2.2.1, a.2.2.2.2.2.2.2.2.2.2.2.1, a.2.2.2.2.2.2.2.2.2.2.2.2.1, a.2.2.2.2.2.2.2.2.2.2.2.2.2.1, a.2.2.2.2.2.2.2.2.2.2.2.2.2.2))
theorem cO.calls (W : World) (F : HA) (k : Nat) (c : Nat) (af : Nat) (d : Nat) (e : Kps) (o : List (Lb × (Lb × Int))) (p : Lb) (q : Int) (s : Bool) (t : Int) (g : Option Addr) (h : Nat) (a : List Int) (u : Int) (v : Int) (w : Int) (x : Int) (z : Int) (ab : Int) (i : Option Addr) (j : Nat) (b : List aF) (l : HA) (m : Bool) (an : Nat) (az : Nat) (n : Int) (a0 : Nat) (ad : Int) (hgl : Glb Tryz.prog F) :
    Fn Tryz.prog W 49 [Pt c, .func (.func 62) #[] #[Pt an, Pt az, Pt a0]] [W0 af d p q s, ao (aj d au am e) ai e o, W1 c af t a u v w x z ab b m g h i j, ar 3 1 (V3 tt) g a h, ar 144 5 (aP l) i b j, l, obj an 36 [Pt c], obj az 3 [Iv n], obj a0 3 [Iv ad]] F (cO.f k o p q s t a u v w x z ab b m n ad) (fun (r : Int × (List (Lb × (Lb × Int))) × Lb × Int × Bool × Int × List Int × Int × Int × Int × Int × Int × Int × (List aF) × Bool × Int) (y : Nat × Kps × Option Addr × Nat × Option Addr × Nat × HA) => Iv r.1) (fun r y => [W4 af y.1 r.2.2, ao (aj y.1 au am y.2.1) ai y.2.1 r.2.1, W7 c af r.q4.2 y.2.2.1 y.2.2.2.1 y.q4.1 y.q4.2.1, ar 3 1 (V3 tt) y.2.2.1 r.q4.2.2.1 y.2.2.2.1, ar 144 5 (aP y.q4.2.2) y.q4.1 r.q8.q4.2.1 y.q4.2.1, y.q4.2.2, obj an 36 [Pt c], obj az 3 [Iv n], obj a0 3 [Iv r.q8.q4.2.2.2]]) := by
 unfold cO.f
 refine jR 8 Tryz.func49 O Tryz.ntmps49 O (sr (ah (cl O O O) O O O ?_))
 intro a2
 refine ah (bM O zeroValue23 O) O O O ?_
 intro a1
 refine nx (vq (gl O O O) O (jt (cap := [Pt a2, Pt a1]) O O O O O O O (nx (vm O O (bi 5 O (fun a6 a3 => (bi 6 O (fun a7 a4 => (ax (fun a8 a5 => (ah (aw (vs := []) (cap := [Pt an, Pt az, Pt a0]) (A := [W0 af d p q s, ao (aj d au am e) ai e o, W1 c af t a u v w x z ab b m g h i j, ar 3 1 (V3 tt) g a h, ar 144 5 (aP l) i b j, l, obj an 36 [Pt c], obj az 3 [Iv n], obj a0 3 [Iv ad]]) (rst := [obj a1 23 [Iv 0], obj a2 36 [Pt c], F]) O O O O O O call62 (.sel 2 O (.sel 2 O (.sel 2 O (.sel' 2 O (ar.mk a3) (.sel' 2 O (ar.mk a4) (.sel 2 O (.sel 2 O (.sel 2 O (.sel 2 O (.s O (.s O (.s O .n)))))))))))) (bY.calls _ _ k an c af d e o p q s t g h a u v w x z ab i j b l m az n a0 ad (hgl.lend 2 O)) a5) O O O ?_)))))))))))
 intro al
 refine nx (aU (aG 9 O O O sizeOf23 O O (aM (by rfl)) O O) O O ?_)
 intro _
 refine ae (aa (aA ?_))
 exact jH (vs := [Iv 0]) 81 [Pt a2, Pt a1] (ia.quiet a2 a1) call81 al O ⟨⟨a1, O, fl isAgg23 (.obj 9 O O)⟩, trivial⟩ O (.s O (.s O (.s O (.s O (.s O (.s O (.s O (.s O (.s O (.sel 2 O .n))))))))))

def eh.f (k : Nat) (c : List ((List UInt8) × (List UInt8 × Int))) (d : List UInt8) (e : Int) (g : Bool) (h : Int) (i : List Int) (j : Int) (l : Int) (m : Int) (n : Int) (o : Int) (p : Int) (q : List (aF)) (b : Bool) (x1 : Int) : Option (Int × Int × (List ((List UInt8) × (List UInt8 × Int))) × List UInt8 × Int × Bool × Int × List Int × Int × Int × Int × Int × Int × Int × (List (aF)) × Bool) := if b = true then (some (0, 11, c, d, e, g, h, i, j, l, m, n, o, p, q, b)) else ((co.f c d e g h i j l m n o p q b).bind fun r => (if ((decide (x1 < (0 : Int))) || (decide (r.1 < x1))) = true then (some (0, 1, c, d, e, g, h, i, j, l, m, n, o, p, q, b)) else ((cO.f k c d e g h i j l m n o p q b x1 (0 : Int)).bind fun a => (if a.1 = (0 : Int) then (some (a.2.2.2.2.2.2.2.2.2.2.2.2.2.2.2, 0, a.2.1, a.2.2.1, a.2.2.2.1, a.2.2.2.2.1, a.2.2.2.2.2.1, a.2.2.2.2.2.2.1, a.2.2.2.2.2.2.2.1, a.2.2.2.2.2.2.2.2.1, a.2.2.2.2.2.2.2.2.2.1, a.2.2.2.2.2.2.2.2.2.2.1, a.2.2.2.2.2.2.2.2.2.2.2.1, a.2.2.2.2.2.2.2.2.2.2.2.2.1, a.2.2.2.2.2.2.2.2.2.2.2.2.2.1, a.2.2.2.2.2.2.2.2.2.2.2.2.2.2.1)) else (some (0, a.1, a.2.1, a.2.2.1, a.2.2.2.1, a.2.2.2.2.1, a.2.2.2.2.2.1, a.2.2.2.2.2.2.1, a.2.2.2.2.2.2.2.1, a.2.2.2.2.2.2.2.2.1, a.2.2.2.2.2.2.2.2.2.1, a.2.2.2.2.2.2.2.2.2.2.1, a.2.2.2.2.2.2.2.2.2.2.2.1, a.2.2.2.2.2.2.2.2.2.2.2.2.1, a.2.2.2.2.2.2.2.2.2.2.2.2.2.1, a.2.2.2.2.2.2.2.2.2.2.2.2.2.2.1))))))
theorem eh.calls (W : World) (F : HA) (k : Nat) (p : Nat) (al : Nat) (c : Nat) (d : Kps) (q : List (Lb × (Lb × Int))) (s : Lb) (t : Int) (u : Bool) (v : Int) (e : Option Addr) (g : Nat) (l : List Int) (w : Int) (x : Int) (z : Int) (ab : Int) (ad : Int) (af : Int) (i : Option Addr) (j : Nat) (m : List aF) (n : HA) (o : Bool) (x1 : Int) (hgl : Glb Tryz.prog F) :
    Fn Tryz.prog W 24 [Pt p, Iv x1] [W0 al c s t u, ao (aj c au am d) ai d q, W1 p al v l w x z ab ad af m o e g i j, ar 3 1 (V3 tt) e l g, ar 144 5 (aP n) i m j, n] F (eh.f k q s t u v l w x z ab ad af m o x1) (fun (r : Int × Int × (List (Lb × (Lb × Int))) × Lb × Int × Bool × Int × List Int × Int × Int × Int × Int × Int × Int × (List aF) × Bool) (y : Nat × Kps × Option Addr × Nat × Option Addr × Nat × HA) => .tuple #[Iv r.1, Iv r.2.1]) (fun r y => [W4 al y.1 r.2.2.2, ao (aj y.1 au am y.2.1) ai y.2.1 r.2.2.1, W2 p al r.q4.2.2 y.2.2.1 y.2.2.2.1 y.q4.1 y.q4.2.1, ar 3 1 (V3 tt) y.2.2.1 r.q4.2.2.2.1 y.2.2.2.1, ar 144 5 (aP y.q4.2.2) y.q4.1 r.q8.q4.2.2.1 y.q4.2.1, y.q4.2.2]) := by
 unfold eh.f
 refine aL 35 Tryz.func24 O Tryz.ntmps24 O (sr (ah (cl O O O) O O O ?_))
 intro a2
 refine ah (cl O O O) O O O ?_
 intro an
 refine va O O (va O O (ae (aa (ay (sr (vq (ag O O isAgg36 (.obj 1 O O)) O (vn O O (vq (ap O O underlying91 O O sizeOf4 O) O (vq (ag O O isAgg4 (.obj 4 O O)) O (ae (aa ?_)))))))))))
 refine aW O (fun b9 => ?_) (fun cd => ?_)
 refine sr (va O O (va O O (ae (aa (aA (aK ?_))))))
 exact aE (c, d, e, g, i, j, n) O O O (.sel 2 O (.sel 2 O (.sel 2 O (.sel 2 O (.sel 2 O (.sel 2 O (.sel 2 O .n)))))))
 refine aC (aa (sr (vq (ag O O isAgg36 (.obj 1 O O)) O (vn O O (vq (ap O O underlying91 O O sizeOf89 O) O (bi 5 O (fun be az => (bi 6 O (fun br a0 => (ax (fun a4 a5 => (bf 5 O (fun bs a6 a7 bt => (bf 6 O (fun a8 a9 bc b0 => (ah (aw (vs := [.pointer (some ⟨p, 4, none⟩)]) (cap := []) (A := [W0 al c s t u, ao (aj c au am d) ai d q, W1 p al v l w x z ab ad af m o e g i j]) (rst := [obj an 3 [Iv x1], obj a2 36 [Pt p], Row 3 1 e l.length g be.flatten, Row 144 5 i m.length j br.flatten, n, F]) O O O O O O call61 (.sel 2 O (.sel 2 O (.sel 2 O (.s O (.s O (.s O (.s O (.s O (.s O .n))))))))) (co.calls _ _ p al c d q s t u v e g l w x z ab ad af i j m o ((Rd.asV az bs).up (Up.lend 2 O) (fun _ _ h => h)) a6 a7 ((Rd.asV a0 a8).up (Up.lend 3 O) (aP.up (Up.lend 4 O))) a9 bc) a5) O O O ?_))))))))))))))))
 intro b3
 refine vm O O (vq (bG O O O) O (vq (bG O O O) O (va O O (va O O (ae (aa (ay (sr (vq (ag O O isAgg3 (.obj 3 O O)) O (vq (cx O O O) O (vm O O (ak (b := decide (x1 < (0 : Int))) (fun b1 => RQ.sub (E' := [(3, Pt an)]) ⟨O, trivial⟩ (ag O O isAgg3 (.obj 3 O O))) O O O O O (ak (b := decide (x1 < (0 : Int))) (fun b2 => RQ.sub (E' := [(6, Iv a4.1)]) ⟨O, trivial⟩ (aZ O O)) O O O O O (ak (b := decide (x1 < (0 : Int))) (fun a3 => RQ.sub (E' := [(24, Iv x1), (25, Iv a4.1)]) ⟨aD O a3, aD O a3, trivial⟩ (cF O O O)) O O O O O (vq (dU O O O) O (ae (aa ?_)))))))))))))))))
 refine aW O (fun b4 => ?_) (fun b5 => ?_)
 refine sr (va O O (va O O (ae (aa (aA (aK ?_))))))
 exact aE (c, d, e, g, i, j, n) O O O (.s O (.s O (.s O (.sel' 2 O (ar.mk az) (.sel' 2 O (ar.mk a0) (.sel 2 O (.sel 2 O .n)))))))
 refine aC (aa (sr (ah (bM O zeroValue3 O) O O O ?_)))
 intro a1
 refine aU (aG 0 O O O sizeOf3 O O (aM (by rfl)) O O) O O ?_
 intro _
 refine nx (vq (ag O O isAgg36 (.obj 5 O O)) O (vq (gl O O O) O (ax (fun b6 bd => (ah (aw (vs := [Pt p, .func (.func 62) #[] #[Pt a2, Pt an, Pt a1]]) (cap := []) (A := [W0 al c s t u, ao (aj c au am d) ai d q, W1 p al v l w x z ab ad af m o e g i j, ar 3 1 (V3 tt) e l g, ar 144 5 (aP n) i m j, n, obj a2 36 [Pt p], obj an 3 [Iv x1], obj a1 3 [Iv 0]]) (rst := [F]) O O O O O O call49 (.sel 1 O (.sel 1 O (.sel 1 O (.sel' 3 O (ar.mk az) (.sel' 3 O (ar.mk a0) (.sel 3 O (.sel 2 O (.sel 1 O (.s O (.s O .n)))))))))) (cO.calls _ _ k p al c d q s t u v e g l w x z ab ad af i j m n o a2 an x1 a1 (0 : Int) (hgl.lend 0 O)) bd) O O O ?_)))))
 intro a
 refine va O O (ae (aa (ay (sr (vm O O (vq (cZ O O O) O (ae (aa ?_))))))))
 refine cT O (fun b7 => ?_) (fun b8 => ?_)
 refine aC (aa (sr (vq (ag O O isAgg3 (.obj 8 O O)) O (va O O (va O O (ae (aa (aA ?_))))))))
 exact aE a O O O (.s O (.s O (.s O (.s O (.s O (.s O (.sel 3 O .n)))))))
 refine sr (vm O O (va O O (va O O (ae (aa (aA (aK ?_)))))))
 exact aE a O O O (.s O (.s O (.s O (.s O (.s O (.s O (.sel 3 O .n)))))))

def bQ.l0 (x1 : List (Int × Int × Bool × Int × Int × Int × Int × Int × (List (bn)))) : Nat → Int → Int → List Int → Int → Int → Int → Int → Int → Int → List (aF) → Bool → List ((List UInt8) × (List UInt8 × Int)) → List UInt8 → Int → Bool → Option (Int × List Int × Int × Int × Int × Int × Int × Int × (List (aF)) × Bool × (List ((List UInt8) × (List UInt8 × Int))) × List UInt8 × Int × Bool)
  | 0, _, _, _, _, _, _, _, _, _, _, _, _, _, _, _ => none
  | k + 1, a, c, d, e, g, h, i, j, l, m, n, o, p, q, r => if a < (x1.length : Int) then (if 0 ≤ a ∧ a < (x1.length : Int) then (if (x1.getD a.toNat ((0 : Int), (0 : Int), false, (0 : Int), (0 : Int), (0 : Int), (0 : Int), (0 : Int), ([] : List (bn)))).1 = (0 : Int) then (if 0 ≤ a ∧ a < (x1.length : Int) then ((dk.f k o p q r c d e g h i j l m n ((x1.getD a.toNat ((0 : Int), (0 : Int), false, (0 : Int), (0 : Int), (0 : Int), (0 : Int), (0 : Int), ([] : List (bn)))).2.2.1) ((x1.getD a.toNat ((0 : Int), (0 : Int), false, (0 : Int), (0 : Int), (0 : Int), (0 : Int), (0 : Int), ([] : List (bn)))).2.2.2.1) ((x1.getD a.toNat ((0 : Int), (0 : Int), false, (0 : Int), (0 : Int), (0 : Int), (0 : Int), (0 : Int), ([] : List (bn)))).2.2.2.2.1) ((x1.getD a.toNat ((0 : Int), (0 : Int), false, (0 : Int), (0 : Int), (0 : Int), (0 : Int), (0 : Int), ([] : List (bn)))).2.2.2.2.2.1) ((x1.getD a.toNat ((0 : Int), (0 : Int), false, (0 : Int), (0 : Int), (0 : Int), (0 : Int), (0 : Int), ([] : List (bn)))).2.2.2.2.2.2.1) ((x1.getD a.toNat ((0 : Int), (0 : Int), false, (0 : Int), (0 : Int), (0 : Int), (0 : Int), (0 : Int), ([] : List (bn)))).2.2.2.2.2.2.2.1) ((x1.getD a.toNat ((0 : Int), (0 : Int), false, (0 : Int), (0 : Int), (0 : Int), (0 : Int), (0 : Int), ([] : List (bn)))).2.2.2.2.2.2.2.2)).bind fun b => (bQ.l0 x1 k (IntKind.i64.wrap (a + 1)) b.2.2.2.2.2.1 b.2.2.2.2.2.2.1 b.2.2.2.2.2.2.2.1 b.2.2.2.2.2.2.2.2.1 b.2.2.2.2.2.2.2.2.2.1 b.2.2.2.2.2.2.2.2.2.2.1 b.2.2.2.2.2.2.2.2.2.2.2.1 b.2.2.2.2.2.2.2.2.2.2.2.2.1 b.2.2.2.2.2.2.2.2.2.2.2.2.2.1 b.2.2.2.2.2.2.2.2.2.2.2.2.2.2 b.2.1 b.2.2.1 b.2.2.2.1 b.2.2.2.2.1)) else none) else (bQ.l0 x1 k (IntKind.i64.wrap (a + 1)) c d e g h i j l m n o p q r)) else none) else (some (c, d, e, g, h, i, j, l, m, n, o, p, q, r))
def bQ.f (k : Nat) (x0 : Int) (x1 : List (Int × Int × Bool × Int × Int × Int × Int × Int × (List (bn)))) (x2 : Int) : Option (Bool) := (eL.f k).bind fun s => ((bx.f k x1).bind fun t => (if ((((!s) || (!t)) || (decide (x0 < (64 : Int)))) || (decide ((1048576 : Int) < x0))) = true then (some s) else ((gO.f).bind fun i => ((bS.f k i.1 i.2.1 i.2.2.1 i.2.2.2 x0).bind fun d => (if d.1 = true then ((bQ.l0 x1 k 0 d.2.1 d.2.2.1 d.2.2.2.1 d.2.2.2.2.1 d.2.2.2.2.2.1 d.2.2.2.2.2.2.1 d.2.2.2.2.2.2.2.1 d.2.2.2.2.2.2.2.2.1 d.2.2.2.2.2.2.2.2.2.1 d.2.2.2.2.2.2.2.2.2.2.1 d.2.2.2.2.2.2.2.2.2.2.2.2.2.1 d.2.2.2.2.2.2.2.2.2.2.2.2.2.2.1 d.2.2.2.2.2.2.2.2.2.2.2.2.2.2.2.1 d.2.2.2.2.2.2.2.2.2.2.2.2.2.2.2.2).bind fun b => ((dY.f k b.2.2.2.2.2.2.2.2.2.2.1 b.2.2.2.2.2.2.2.2.2.2.2.1 b.2.2.2.2.2.2.2.2.2.2.2.2.1 b.2.2.2.2.2.2.2.2.2.2.2.2.2 b.1 b.2.1 b.2.2.1 b.2.2.2.1 b.2.2.2.2.1 b.2.2.2.2.2.1 b.2.2.2.2.2.2.1 b.2.2.2.2.2.2.2.1 b.2.2.2.2.2.2.2.2.1 b.2.2.2.2.2.2.2.2.2.1).bind fun c => ((bE.f k b.2.2.2.2.2.2.2.2.2.2.1 b.2.2.2.2.2.2.2.2.2.2.2.1 b.2.2.2.2.2.2.2.2.2.2.2.2.1 b.2.2.2.2.2.2.2.2.2.2.2.2.2 b.1 b.2.1 b.2.2.1 b.2.2.2.1 b.2.2.2.2.1 b.2.2.2.2.2.1 b.2.2.2.2.2.2.1 b.2.2.2.2.2.2.2.1 b.2.2.2.2.2.2.2.2.1 b.2.2.2.2.2.2.2.2.2.1).bind fun h => ((eh.f k b.2.2.2.2.2.2.2.2.2.2.1 b.2.2.2.2.2.2.2.2.2.2.2.1 b.2.2.2.2.2.2.2.2.2.2.2.2.1 b.2.2.2.2.2.2.2.2.2.2.2.2.2 b.1 b.2.1 b.2.2.1 b.2.2.2.1 b.2.2.2.2.1 b.2.2.2.2.2.1 b.2.2.2.2.2.2.1 b.2.2.2.2.2.2.2.1 b.2.2.2.2.2.2.2.2.1 b.2.2.2.2.2.2.2.2.2.1 x2).bind fun a => ((dY.f k a.2.2.1 a.2.2.2.1 a.2.2.2.2.1 a.2.2.2.2.2.1 a.2.2.2.2.2.2.1 a.2.2.2.2.2.2.2.1 a.2.2.2.2.2.2.2.2.1 a.2.2.2.2.2.2.2.2.2.1 a.2.2.2.2.2.2.2.2.2.2.1 a.2.2.2.2.2.2.2.2.2.2.2.1 a.2.2.2.2.2.2.2.2.2.2.2.2.1 a.2.2.2.2.2.2.2.2.2.2.2.2.2.1 a.2.2.2.2.2.2.2.2.2.2.2.2.2.2.1 a.2.2.2.2.2.2.2.2.2.2.2.2.2.2.2).bind fun e => ((bE.f k a.2.2.1 a.2.2.2.1 a.2.2.2.2.1 a.2.2.2.2.2.1 a.2.2.2.2.2.2.1 a.2.2.2.2.2.2.2.1 a.2.2.2.2.2.2.2.2.1 a.2.2.2.2.2.2.2.2.2.1 a.2.2.2.2.2.2.2.2.2.2.1 a.2.2.2.2.2.2.2.2.2.2.2.1 a.2.2.2.2.2.2.2.2.2.2.2.2.1 a.2.2.2.2.2.2.2.2.2.2.2.2.2.1 a.2.2.2.2.2.2.2.2.2.2.2.2.2.2.1 a.2.2.2.2.2.2.2.2.2.2.2.2.2.2.2).bind fun g => ((dX.f a.2.2.1 a.2.2.2.1 a.2.2.2.2.1 a.2.2.2.2.2.1 a.2.2.2.2.2.2.1 a.2.2.2.2.2.2.2.1 a.2.2.2.2.2.2.2.2.1 a.2.2.2.2.2.2.2.2.2.1 a.2.2.2.2.2.2.2.2.2.2.1 a.2.2.2.2.2.2.2.2.2.2.2.1 a.2.2.2.2.2.2.2.2.2.2.2.2.1 a.2.2.2.2.2.2.2.2.2.2.2.2.2.1 a.2.2.2.2.2.2.2.2.2.2.2.2.2.2.1 a.2.2.2.2.2.2.2.2.2.2.2.2.2.2.2).bind fun j => (if ((decide (x2 < (0 : Int))) || (decide (IntKind.i64.wrap (c.2.2.2.1 + (c.2.2.2.2.2.length : Int)) < x2))) = true then ((cP.f a.2.1).bind fun l => (some (((decide (l = (1 : Int))) && (decide (a.1 = (0 : Int)))) && (decide ((h.length : Int) = (g.length : Int)))))) else ((cP.f a.2.1).bind fun m => (if (((((!decide (m = (0 : Int))) || (decide ((g.length : Int) < (1 : Int)))) || (!decide (IntKind.i64.wrap ((h.length : Int) - (g.length : Int)) = a.1))) || (decide (a.1 < (0 : Int)))) || (!decide (j.1 = IntKind.i64.wrap (c.2.2.2.1 + (c.2.2.2.2.2.length : Int))))) = true then (some false) else (if 0 ≤ a.1 ∧ a.1 ≤ (h.length : Int) ∧ (h.length : Int) ≤ (h.length : Int) then ((ce.f k g (cut h a.1 (h.length : Int))).bind fun n => (if (((((!n) || (decide (IntKind.i64.wrap (e.2.2.2.1 - c.2.2.2.1) < (0 : Int)))) || (decide ((c.2.2.2.2.2.length : Int) < IntKind.i64.wrap (e.2.2.2.1 - c.2.2.2.1)))) || (decide (max x2 c.2.2.2.1 < e.2.2.2.1))) || (!(decide (e.1 = c.1) && (decide (e.2.1 = c.2.1) && (decide (e.2.2.1 = c.2.2.1)))))) = true then (some false) else (if 0 ≤ IntKind.i64.wrap (e.2.2.2.1 - c.2.2.2.1) ∧ IntKind.i64.wrap (e.2.2.2.1 - c.2.2.2.1) ≤ (c.2.2.2.2.2.length : Int) ∧ (c.2.2.2.2.2.length : Int) ≤ (c.2.2.2.2.2.length : Int) then ((bT.f k e.2.2.2.2.2 (cut c.2.2.2.2.2 (IntKind.i64.wrap (e.2.2.2.1 - c.2.2.2.1)) (c.2.2.2.2.2.length : Int))).bind fun o => (if 0 ≤ IntKind.i64.wrap ((g.length : Int) - 1) ∧ IntKind.i64.wrap ((g.length : Int) - 1) < (g.length : Int) then ((df.f a.2.2.1 a.2.2.2.1 a.2.2.2.2.1 a.2.2.2.2.2.1 (g.getD (IntKind.i64.wrap ((g.length : Int) - 1)).toNat ([] : List UInt8))).bind fun p => ((if o = true then ((cP.f p.2).bind fun q => (some (decide (q = (0 : Int))))) else (some false)).bind fun r => (some r))) else none)) else none))) else none))))))))))) else (some false))))))
theorem bQ.calls (W : World) (F : HA) (k : Nat) (x0 : Int) (a1 : Option Addr) (c1 : Nat) (x1 : List (Int × Int × Bool × Int × Int × Int × Int × Int × (List bn))) (x2 : Int) (h1 : RdV F 9 (V56 F) a1 x1) (k3 : x1.length ≤ c1) (k4 : c1 ≤ maxLen) (hgl : Glb Tryz.prog F) :
    Fn Tryz.prog W 7 [Iv x0, .slice a1 x1.length c1, Iv x2] [] F (bQ.f k x0 x1 x2) (fun (r : Bool) (y : Unit) => .bool r) (fun r y => []) := by
 unfold bQ.f
 refine aL 213 Tryz.func7 O Tryz.ntmps7 O (sr (va O O (nx (ax (fun b3 k0 => (ah (aw (vs := []) (cap := []) (A := []) (rst := [F]) O O O O O O call9 (.s O .n) (eL.calls _ _ k  (hgl.lend 0 O)) k0) O O O ?_))))))
 intro q0
 refine va O O (nx (vm O O (ax (fun b4 k1 => (ah (aw (vs := [.slice a1 x1.length c1]) (cap := []) (A := []) (rst := [F]) O O O O O O call20 (.s O .n) (bx.calls _ _ k a1 c1 x1 (h1.up (Up.lend 0 O) (V56.up (Up.lend 0 O))) k3 k4) k1) O O O ?_)))))
 intro q1
 refine va O O (ae (aa (ay (sr (vm O O (vq (eT O O) O (vm O O (ak (b := !b3) (fun k5 => RQ.sub (E' := [(8, .bool b4)]) ⟨O, trivial⟩ (aZ O O)) O O O O O (ak (b := !b3) (fun ei => RQ.sub (E' := [(33, .bool b4)]) ⟨aD O ei, trivial⟩ (eT O O)) O O O O O (vq (dU O O O) O (vm O O (ak (b := (!b3) || (!b4)) (fun k6 => RQ.sub (E' := [(0, Iv x0)]) ⟨O, trivial⟩ (aZ O O)) O O O O O (ak (b := (!b3) || (!b4)) (fun ek => RQ.sub (E' := [(37, Iv x0)]) ⟨aD O ek, trivial⟩ (cx O O O)) O O O O O (vq (dU O O O) O (vm O O (ak (b := ((!b3) || (!b4)) || (decide (x0 < (64 : Int)))) (fun k7 => RQ.sub (E' := [(0, Iv x0)]) ⟨O, trivial⟩ (aZ O O)) O O O O O (ak (b := ((!b3) || (!b4)) || (decide (x0 < (64 : Int)))) (fun el => RQ.sub (E' := [(41, Iv x0)]) ⟨aD O el, trivial⟩ (cF O O O)) O O O O O (vq (dU O O O) O (ae (aa ?_))))))))))))))))))))
 refine aW O (fun q2 => ?_) (fun q3 => ?_)
 refine sr (vm O O (va O O (ae (aa (aA (aK ?_))))))
 exact aE () O O O (.s O .n)
 refine aC (aa (sr (ax (fun be hY => (ah (aw (vs := []) (cap := []) (A := []) (rst := [F]) O O O O O O call16 (.s O .n) (gO.calls _ _  ) hY) O O O ?_)))))
 intro u
 refine va O O (nx (vm O O (vm O O (ax (fun a8 d9 => ?_)))))
 refine jz (fun b5 => ?_) (fun b5 => ?_)
 refine ah (aw (vs := [Pt u.1, Iv x0]) (cap := []) (A := [W5 u.1 u.2.1 be.2, ao (aj u.2.1 au am u.2.2) ai u.2.2 be.1]) (rst := [F]) O O O O O O call15 (.s O (.s O (.s O .n))) (bS.callsT _ _ k u.1 u.2.1 u.2.2 be.1 be.2.1 be.2.2.1 be.2.2.2 x0 (hgl.lend 0 O)) (lB d9 b5)) O O O ?_
 intro af
 refine vm O O (vq (bG O O O) O (vq (bG O O O) O (vq (bG O O O) O (va O O (va O O (va O O (ae (aa (ay (sr (vm O O (vq (lH O O O underlying36) O (ae (aa (fy O (aC (aa ?_)))))))))))))))))
 refine bF (S := Int × List Int × Int × Int × Int × Int × Int × Int × (List aF) × Bool × (List (Lb × (Lb × Int))) × Lb × Int × Bool) (Option Addr × Nat × HA × Option Addr × Nat × Nat × Kps) (fun s y => [(2, Iv x2), (9, Pt u.1), (10, Pt af.1)]) (fun s y => [W7 af.1 u.1 s y.1 y.2.1 y.2.2.2.1 y.2.2.2.2.1, W5 u.1 y.2.2.2.2.2.1 s.2.2.2.2.2.2.2.2.2.2.2, ar 3 1 (V3 tt) y.1 s.2.1 y.2.1, ar 144 5 (aP y.2.2.1) y.2.2.2.1 s.2.2.2.2.2.2.2.2.1 y.2.2.2.2.1, ao (aj y.2.2.2.2.2.1 au am y.2.2.2.2.2.2) ai y.2.2.2.2.2.2 s.2.2.2.2.2.2.2.2.2.2.1, y.2.2.1, F]) ?_ ?_
 refine sr (va O O (ae (aa (aQ ?_))))
 refine cr (S := Int × Int × List Int × Int × Int × Int × Int × Int × Int × (List aF) × Bool × (List (Lb × (Lb × Int))) × Lb × Int × Bool) (Option Addr × Nat × HA × Option Addr × Nat × Nat × Kps) (fun k s => bQ.l0 x1 k s.1 s.2.1 s.2.2.1 s.2.2.2.1 s.2.2.2.2.1 s.2.2.2.2.2.1 s.2.2.2.2.2.2.1 s.2.2.2.2.2.2.2.1 s.2.2.2.2.2.2.2.2.1 s.2.2.2.2.2.2.2.2.2.1 s.2.2.2.2.2.2.2.2.2.2.1 s.2.2.2.2.2.2.2.2.2.2.2.1 s.2.2.2.2.2.2.2.2.2.2.2.2.1 s.2.2.2.2.2.2.2.2.2.2.2.2.2.1 s.2.2.2.2.2.2.2.2.2.2.2.2.2.2) (fun s y => [(1, .slice a1 x1.length c1), (2, Iv x2), (9, Pt u.1), (10, Pt af.1), (13, Iv s.1)]) (fun s y => [W7 af.1 u.1 s.2 y.1 y.2.1 y.2.2.2.1 y.2.2.2.2.1, W5 u.1 y.2.2.2.2.2.1 s.2.2.2.2.2.2.2.2.2.2.2.2, ar 3 1 (V3 tt) y.1 s.2.2.1 y.2.1, ar 144 5 (aP y.2.2.1) y.2.2.2.1 s.2.2.2.2.2.2.2.2.2.1 y.2.2.2.2.1, ao (aj y.2.2.2.2.2.1 au am y.2.2.2.2.2.2) ai y.2.2.2.2.2.2 s.2.2.2.2.2.2.2.2.2.2.2.1, y.2.2.1, F]) (fun _ => by rw [bQ.l0]) ?_ k (0, a8.2.1, a8.2.2.1, a8.2.2.2.1, a8.2.2.2.2.1, a8.2.2.2.2.2.1, a8.2.2.2.2.2.2.1, a8.2.2.2.2.2.2.2.1, a8.2.2.2.2.2.2.2.2.1, a8.2.2.2.2.2.2.2.2.2.1, a8.2.2.2.2.2.2.2.2.2.2.1, a8.2.2.2.2.2.2.2.2.2.2.2.2.2) (af.2.1, af.2.2.1, af.2.2.2.2.2.1, af.2.2.2.1, af.2.2.2.2.1, af.2.2.2.2.2.2) ⟨O, O, O, O, O, trivial⟩ (.s O (.sel 3 O (.s O (.s O (.sel 1 O (.s O (.s O .n)))))))
 intro k t az
 refine cR (by rw [bQ.l0]) (ay (sr (vm O O (vm O O (vq (bp O O O underlying51) O (vq (cx O O O) O (ae (aa ?_))))))))
 refine bk O (fun p0 => ?_) (fun p1 => ?_)
 refine aC (aa (ay (aQ (sr (vm O O (vm O O (bb (fun ea => ?_))))))))
 obtain ⟨p2, n1, p3, hZ, h0, k8, hcell44v⟩ := RdV.pos h1 (Up.refl _) rfl (i := t.1.toNat) (by omega) ((0 : Int), (0 : Int), false, (0 : Int), (0 : Int), (0 : Int), (0 : Int), (0 : Int), ([] : List bn))
 obtain ⟨p4, p5, rfl, ⟨n2, n3, n4⟩⟩ := h0
 refine vq (cK O O O hZ underlying51 sizeOf56 ea.1 ea.2) O (vq (ap O O underlying56 O O sizeOf3 O) O (vq (ag O O isAgg3 (hcell44v 6 O 0 _ O)) O (vq (bO O O O) O (ae (aa ?_)))))
 refine bk O (fun p6 => ?_) (fun p7 => ?_)
 refine aI (vm O O (vm O O (vm O O (bb (fun eb => ?_)))))
 obtain ⟨p8, n5, p9, h2, h3, k9, hcell59v⟩ := RdV.pos h1 (Up.refl _) rfl (i := t.1.toNat) (by omega) ((0 : Int), (0 : Int), false, (0 : Int), (0 : Int), (0 : Int), (0 : Int), (0 : Int), ([] : List bn))
 obtain ⟨d7, d8, rfl, ⟨h4, h5, h6⟩⟩ := h3
 refine vq (cK O O O h2 underlying51 sizeOf56 eb.1 eb.2) O (vq (ap O O underlying56 O O sizeOf45 O) O (vq (cn (vs := [.bool ((x1.getD t.1.toNat ((0 : Int), (0 : Int), false, (0 : Int), (0 : Int), (0 : Int), (0 : Int), (0 : Int), ([] : List bn))).2.2.1), Iv ((x1.getD t.1.toNat ((0 : Int), (0 : Int), false, (0 : Int), (0 : Int), (0 : Int), (0 : Int), (0 : Int), ([] : List bn))).2.2.2.1), Iv ((x1.getD t.1.toNat ((0 : Int), (0 : Int), false, (0 : Int), (0 : Int), (0 : Int), (0 : Int), (0 : Int), ([] : List bn))).2.2.2.2.1), Iv ((x1.getD t.1.toNat ((0 : Int), (0 : Int), false, (0 : Int), (0 : Int), (0 : Int), (0 : Int), (0 : Int), ([] : List bn))).2.2.2.2.2.1), Iv ((x1.getD t.1.toNat ((0 : Int), (0 : Int), false, (0 : Int), (0 : Int), (0 : Int), (0 : Int), (0 : Int), ([] : List bn))).2.2.2.2.2.2.1), Iv ((x1.getD t.1.toNat ((0 : Int), (0 : Int), false, (0 : Int), (0 : Int), (0 : Int), (0 : Int), (0 : Int), ([] : List bn))).2.2.2.2.2.2.2.1), .slice d7 (((x1.getD t.1.toNat ((0 : Int), (0 : Int), false, (0 : Int), (0 : Int), (0 : Int), (0 : Int), (0 : Int), ([] : List bn))).2.2.2.2.2.2.2.2).length) d8]) O O isAgg45 sizeOf45 O (fun j v hj => iy (hcell59v 6 O (2 + j) v (sP 2 hj)))) O (bi 2 O (fun n6 h7 => (bi 3 O (fun n7 h8 => (ax (fun a9 h9 => (ah (aw (vs := [Pt af.1, .agg #[.bool ((x1.getD t.1.toNat ((0 : Int), (0 : Int), false, (0 : Int), (0 : Int), (0 : Int), (0 : Int), (0 : Int), ([] : List bn))).2.2.1), Iv ((x1.getD t.1.toNat ((0 : Int), (0 : Int), false, (0 : Int), (0 : Int), (0 : Int), (0 : Int), (0 : Int), ([] : List bn))).2.2.2.1), Iv ((x1.getD t.1.toNat ((0 : Int), (0 : Int), false, (0 : Int), (0 : Int), (0 : Int), (0 : Int), (0 : Int), ([] : List bn))).2.2.2.2.1), Iv ((x1.getD t.1.toNat ((0 : Int), (0 : Int), false, (0 : Int), (0 : Int), (0 : Int), (0 : Int), (0 : Int), ([] : List bn))).2.2.2.2.2.1), Iv ((x1.getD t.1.toNat ((0 : Int), (0 : Int), false, (0 : Int), (0 : Int), (0 : Int), (0 : Int), (0 : Int), ([] : List bn))).2.2.2.2.2.2.1), Iv ((x1.getD t.1.toNat ((0 : Int), (0 : Int), false, (0 : Int), (0 : Int), (0 : Int), (0 : Int), (0 : Int), ([] : List bn))).2.2.2.2.2.2.2.1), .slice d7 (((x1.getD t.1.toNat ((0 : Int), (0 : Int), false, (0 : Int), (0 : Int), (0 : Int), (0 : Int), (0 : Int), ([] : List bn))).2.2.2.2.2.2.2.2).length) d8]]) (cap := []) (A := [W5 u.1 az.q4.2.1 t.q8.q4, ao (aj az.q4.2.1 au am az.q4.2.2) ai az.q4.2.2 t.q8.2.2.2.1, W7 af.1 u.1 t.2 az.1 az.2.1 az.2.2.2.1 az.q4.1, ar 3 1 (V3 tt) az.1 t.2.2.1 az.2.1, ar 144 5 (aP az.2.2.1) az.2.2.2.1 t.q8.2.1 az.q4.1, az.2.2.1]) (rst := [F]) O O O O O O call17 (.sel 1 O (.sel 3 O (.s O (.sel' 0 O (ar.mk h7) (.sel' 0 O (ar.mk h8) (.s O (.s O .n))))))) (dk.calls _ _ k af.1 u.1 az.2.2.2.2.2.1 az.2.2.2.2.2.2 t.2.2.2.2.2.2.2.2.2.2.2.1 t.2.2.2.2.2.2.2.2.2.2.2.2.1 t.2.2.2.2.2.2.2.2.2.2.2.2.2.1 t.2.2.2.2.2.2.2.2.2.2.2.2.2.2 t.2.1 az.1 az.2.1 t.2.2.1 t.2.2.2.1 t.2.2.2.2.1 t.2.2.2.2.2.1 t.2.2.2.2.2.2.1 t.2.2.2.2.2.2.2.1 t.2.2.2.2.2.2.2.2.1 az.2.2.2.1 az.2.2.2.2.1 t.2.2.2.2.2.2.2.2.2.1 az.2.2.1 t.2.2.2.2.2.2.2.2.2.2.1 ((x1.getD t.1.toNat ((0 : Int), (0 : Int), false, (0 : Int), (0 : Int), (0 : Int), (0 : Int), (0 : Int), ([] : List bn))).2.2.1) ((x1.getD t.1.toNat ((0 : Int), (0 : Int), false, (0 : Int), (0 : Int), (0 : Int), (0 : Int), (0 : Int), ([] : List bn))).2.2.2.1) ((x1.getD t.1.toNat ((0 : Int), (0 : Int), false, (0 : Int), (0 : Int), (0 : Int), (0 : Int), (0 : Int), ([] : List bn))).2.2.2.2.1) ((x1.getD t.1.toNat ((0 : Int), (0 : Int), false, (0 : Int), (0 : Int), (0 : Int), (0 : Int), (0 : Int), ([] : List bn))).2.2.2.2.2.1) ((x1.getD t.1.toNat ((0 : Int), (0 : Int), false, (0 : Int), (0 : Int), (0 : Int), (0 : Int), (0 : Int), ([] : List bn))).2.2.2.2.2.2.1) ((x1.getD t.1.toNat ((0 : Int), (0 : Int), false, (0 : Int), (0 : Int), (0 : Int), (0 : Int), (0 : Int), ([] : List bn))).2.2.2.2.2.2.2.1) d7 d8 ((x1.getD t.1.toNat ((0 : Int), (0 : Int), false, (0 : Int), (0 : Int), (0 : Int), (0 : Int), (0 : Int), ([] : List bn))).2.2.2.2.2.2.2.2) (h4.up (Up.lend 0 O) (V35.up (Up.lend 0 O))) h5 h6 (hgl.lend 0 O)) h9) O O O ?_)))))))))
 intro bt
 refine ae (bu (aa (aI (vm O O (vq (bU O O O) O (va O O (ae ?_)))))))
 exact bP (s := (IntKind.i64.wrap (t.1 + 1), a9.2.2.2.2.2.1, a9.2.2.2.2.2.2.1, a9.2.2.2.2.2.2.2.1, a9.2.2.2.2.2.2.2.2.1, a9.2.2.2.2.2.2.2.2.2.1, a9.2.2.2.2.2.2.2.2.2.2.1, a9.2.2.2.2.2.2.2.2.2.2.2.1, a9.2.2.2.2.2.2.2.2.2.2.2.2.1, a9.2.2.2.2.2.2.2.2.2.2.2.2.2.1, a9.2.2.2.2.2.2.2.2.2.2.2.2.2.2, a9.2.1, a9.2.2.1, a9.2.2.2.1, a9.2.2.2.2.1)) (bt.2.2.1, bt.2.2.2.1, bt.2.2.2.2.2.2, bt.2.2.2.2.1, bt.2.2.2.2.2.1, bt.1, bt.2.1) ⟨O, O, O, O, O, trivial⟩ (.sel 2 O (.s O (.sel 1 O (.sel 1 O (.s O (.s O (.s O .n)))))))
 refine aC (bu (aa (aI (vm O O (vq (bU O O O) O (va O O (ae ?_)))))))
 exact bP (s := (IntKind.i64.wrap (t.1 + 1), t.2)) az ⟨O, O, O, O, O, trivial⟩ (.s O (.s O (.s O (.s O (.s O (.s O (.s O .n)))))))
 refine cD (cg (cp (ci ?_)))
 exact aH (s := t.2) az ⟨O, O, O, trivial⟩ (.s O (.s O (.s O (.s O (.s O (.s O (.s O .n)))))))
 intro p x
 refine sr (vm O O (bi 2 O (fun b6 b7 => (bi 3 O (fun b8 b9 => (ax (fun e ih => (bf 2 O (fun it jg j0 n8 => (bf 3 O (fun j1 j2 j3 n9 => (ah (aw (vs := [Pt af.1]) (cap := []) (A := [W5 u.1 x.q4.2.1 p.q8.2.2.2, ao (aj x.q4.2.1 au am x.q4.2.2) ai x.q4.2.2 p.q8.2.2.1, W7 af.1 u.1 p x.1 x.2.1 x.2.2.2.1 x.q4.1]) (rst := [Row 3 1 x.1 p.2.1.length x.2.1 b6.flatten, Row 144 5 x.2.2.2.1 p.q8.1.length x.q4.1 b8.flatten, x.2.2.1, F]) O O O O O O call18 (.sel 1 O (.sel 3 O (.s O (.s O (.s O (.s O (.s O .n))))))) (dY.calls _ _ k af.1 u.1 x.2.2.2.2.2.1 x.2.2.2.2.2.2 p.2.2.2.2.2.2.2.2.2.2.1 p.2.2.2.2.2.2.2.2.2.2.2.1 p.2.2.2.2.2.2.2.2.2.2.2.2.1 p.2.2.2.2.2.2.2.2.2.2.2.2.2 p.1 x.1 x.2.1 p.2.1 p.2.2.1 p.2.2.2.1 p.2.2.2.2.1 p.2.2.2.2.2.1 p.2.2.2.2.2.2.1 p.2.2.2.2.2.2.2.1 x.2.2.2.1 x.2.2.2.2.1 p.2.2.2.2.2.2.2.2.1 p.2.2.2.2.2.2.2.2.2.1 ((Rd.asV b7 it).up (Up.lend 0 O) (fun _ _ h => h)) jg j0 ((Rd.asV b9 j1).up (Up.lend 1 O) (aP.up (Up.lend 2 O))) j2 j3) ih) O O O ?_))))))))))))
 intro n
 refine ah (bM O zeroValue47 O) O O O ?_
 intro a0
 refine aU (aG 0 O O O sizeOf47 O O (aM (by rfl)) O O) O O ?_
 intro _
 refine bR (H' := [W8 a0 e n.1 n.2.1, ar 35 4 (V35 n.2.2) n.1 e.2.2.2.2.2 n.2.1, n.2.2, W5 u.1 x.2.2.2.2.2.1 p.2.2.2.2.2.2.2.2.2.2.2, ao (aj x.2.2.2.2.2.1 au am x.2.2.2.2.2.2) ai x.2.2.2.2.2.2 p.2.2.2.2.2.2.2.2.2.2.1, W7 af.1 u.1 p x.1 x.2.1 x.2.2.2.1 x.2.2.2.2.1, Row 3 1 x.1 p.2.1.length x.2.1 b6.flatten, Row 144 5 x.2.2.2.1 p.2.2.2.2.2.2.2.2.1.length x.2.2.2.2.1 b8.flatten, x.2.2.1, F]) (Ent.refl _) (nx (vm O O (ax (fun al j4 => (bf 6 O (fun j5 j6 j7 oa => (bf 7 O (fun j8 j9 kd og => (ah (aw (vs := [Pt af.1]) (cap := []) (A := [W5 u.1 x.q4.2.1 p.q8.2.2.2, ao (aj x.q4.2.1 au am x.q4.2.2) ai x.q4.2.2 p.q8.2.2.1, W7 af.1 u.1 p x.1 x.2.1 x.2.2.2.1 x.q4.1]) (rst := [W8 a0 e n.1 n.2.1, ar 35 4 (V35 n.2.2) n.1 e.q4.2 n.2.1, n.2.2, Row 3 1 x.1 p.2.1.length x.2.1 b6.flatten, Row 144 5 x.2.2.2.1 p.q8.1.length x.q4.1 b8.flatten, x.2.2.1, F]) O O O O O O call25 (.sel 3 O (.sel 3 O (.sel 3 O (.s O (.s O (.s O (.s O (.s O (.s O (.s O .n)))))))))) (bE.calls _ _ k af.1 u.1 x.2.2.2.2.2.1 x.2.2.2.2.2.2 p.2.2.2.2.2.2.2.2.2.2.1 p.2.2.2.2.2.2.2.2.2.2.2.1 p.2.2.2.2.2.2.2.2.2.2.2.2.1 p.2.2.2.2.2.2.2.2.2.2.2.2.2 p.1 x.1 x.2.1 p.2.1 p.2.2.1 p.2.2.2.1 p.2.2.2.2.1 p.2.2.2.2.2.1 p.2.2.2.2.2.2.1 p.2.2.2.2.2.2.2.1 x.2.2.2.1 x.2.2.2.2.1 p.2.2.2.2.2.2.2.2.1 p.2.2.2.2.2.2.2.2.2.1 ((Rd.asV b7 j5).up (Up.lend 3 O) (fun _ _ h => h)) j6 j7 ((Rd.asV b9 j8).up (Up.lend 4 O) (aP.up (Up.lend 5 O))) j9 kd (hgl.lend 6 O)) j4) O O O ?_)))))))))
 intro an
 refine va O O (nx (vm O O (vm O O (ax (fun a em => (ah (aw (vs := [Pt af.1, Iv x2]) (cap := []) (A := [W5 u.1 x.q4.2.1 p.q8.2.2.2, ao (aj x.q4.2.1 au am x.q4.2.2) ai x.q4.2.2 p.q8.2.2.1, W7 af.1 u.1 p x.1 x.2.1 x.2.2.2.1 x.q4.1, ar 3 1 (V3 tt) x.1 p.2.1 x.2.1, ar 144 5 (aP x.2.2.1) x.2.2.2.1 p.q8.1 x.q4.1, x.2.2.1]) (rst := [ar 9 1 (V9 tt) an.1 al an.2, W8 a0 e n.1 n.2.1, ar 35 4 (V35 n.2.2) n.1 e.q4.2 n.2.1, n.2.2, F]) O O O O O O call24 (.sel 1 O (.sel 1 O (.sel 1 O (.sel' 4 O (ar.mk b7) (.sel' 4 O (ar.mk b9) (.sel 4 O (.s O (.s O (.s O (.s O (.s O .n))))))))))) (eh.calls _ _ k af.1 u.1 x.2.2.2.2.2.1 x.2.2.2.2.2.2 p.2.2.2.2.2.2.2.2.2.2.1 p.2.2.2.2.2.2.2.2.2.2.2.1 p.2.2.2.2.2.2.2.2.2.2.2.2.1 p.2.2.2.2.2.2.2.2.2.2.2.2.2 p.1 x.1 x.2.1 p.2.1 p.2.2.1 p.2.2.2.1 p.2.2.2.2.1 p.2.2.2.2.2.1 p.2.2.2.2.2.2.1 p.2.2.2.2.2.2.2.1 x.2.2.2.1 x.2.2.2.2.1 p.2.2.2.2.2.2.2.2.1 x.2.2.1 p.2.2.2.2.2.2.2.2.2.1 x2 (hgl.lend 4 O)) em) O O O ?_))))))
 intro c
 refine vm O O (vq (bG O O O) O (vq (bG O O O) O (va O O (va O O (nx (vm O O (bi 3 O (fun a5 b1 => (bi 4 O (fun a6 b2 => (ax (fun g er => (bf 3 O (fun es et e0 la => (bf 4 O (fun e1 e2 e3 li => (ah (aw (vs := [Pt af.1]) (cap := []) (A := [W4 u.1 c.1 a.2.2.2, ao (aj c.1 au am c.2.1) ai c.2.1 a.2.2.1, W2 af.1 u.1 a.q4.2.2 c.2.2.1 c.2.2.2.1 c.q4.1 c.q4.2.1]) (rst := [Row 3 1 c.2.2.1 a.q4.2.2.2.1.length c.2.2.2.1 a5.flatten, Row 144 5 c.q4.1 a.q8.q4.2.2.1.length c.q4.2.1 a6.flatten, c.q4.2.2, ar 9 1 (V9 tt) an.1 al an.2, W8 a0 e n.1 n.2.1, ar 35 4 (V35 n.2.2) n.1 e.q4.2 n.2.1, n.2.2, F]) O O O O O O call18 (.s O (.s O (.s O (.s O (.s O (.s O (.s O (.s O (.s O (.s O (.s O .n))))))))))) (dY.calls _ _ k af.1 u.1 c.1 c.2.1 a.2.2.1 a.2.2.2.1 a.2.2.2.2.1 a.2.2.2.2.2.1 a.2.2.2.2.2.2.1 c.2.2.1 c.2.2.2.1 a.2.2.2.2.2.2.2.1 a.2.2.2.2.2.2.2.2.1 a.2.2.2.2.2.2.2.2.2.1 a.2.2.2.2.2.2.2.2.2.2.1 a.2.2.2.2.2.2.2.2.2.2.2.1 a.2.2.2.2.2.2.2.2.2.2.2.2.1 a.2.2.2.2.2.2.2.2.2.2.2.2.2.1 c.2.2.2.2.1 c.2.2.2.2.2.1 a.2.2.2.2.2.2.2.2.2.2.2.2.2.2.1 a.2.2.2.2.2.2.2.2.2.2.2.2.2.2.2 ((Rd.asV b1 es).up (Up.lend 0 O) (fun _ _ h => h)) et e0 ((Rd.asV b2 e1).up (Up.lend 1 O) (aP.up (Up.lend 2 O))) e2 e3) er) O O O ?_)))))))))))))))))
 intro q
 refine ah (bM O zeroValue47 O) O O O ?_
 intro a4
 refine aU (aG 0 O O O sizeOf47 O O (aM (by rfl)) O O) O O ?_
 intro _
 refine bR (H' := [W8 a4 g q.1 q.2.1, ar 35 4 (V35 q.2.2) q.1 g.2.2.2.2.2 q.2.1, q.2.2, W4 u.1 c.1 a.2.2.2, ao (aj c.1 au am c.2.1) ai c.2.1 a.2.2.1, W2 af.1 u.1 a.2.2.2.2.2.2 c.2.2.1 c.2.2.2.1 c.2.2.2.2.1 c.2.2.2.2.2.1, Row 3 1 c.2.2.1 a.2.2.2.2.2.2.2.1.length c.2.2.2.1 a5.flatten, Row 144 5 c.2.2.2.2.1 a.2.2.2.2.2.2.2.2.2.2.2.2.2.2.1.length c.2.2.2.2.2.1 a6.flatten, c.2.2.2.2.2.2, ar 9 1 (V9 tt) an.1 al an.2, W8 a0 e n.1 n.2.1, ar 35 4 (V35 n.2.2) n.1 e.2.2.2.2.2 n.2.1, n.2.2, F]) (Ent.refl _) (nx (vm O O (ax (fun ab e4 => (bf 6 O (fun e5 e6 e7 lj => (bf 7 O (fun e8 e9 fn ln => (ah (aw (vs := [Pt af.1]) (cap := []) (A := [W4 u.1 c.1 a.2.2.2, ao (aj c.1 au am c.2.1) ai c.2.1 a.2.2.1, W2 af.1 u.1 a.q4.2.2 c.2.2.1 c.2.2.2.1 c.q4.1 c.q4.2.1]) (rst := [W8 a4 g q.1 q.2.1, ar 35 4 (V35 q.2.2) q.1 g.q4.2 q.2.1, q.2.2, Row 3 1 c.2.2.1 a.q4.2.2.2.1.length c.2.2.2.1 a5.flatten, Row 144 5 c.q4.1 a.q8.q4.2.2.1.length c.q4.2.1 a6.flatten, c.q4.2.2, ar 9 1 (V9 tt) an.1 al an.2, W8 a0 e n.1 n.2.1, ar 35 4 (V35 n.2.2) n.1 e.q4.2 n.2.1, n.2.2, F]) O O O O O O call25 (.sel 3 O (.sel 3 O (.sel 3 O (.s O (.s O (.s O (.s O (.s O (.s O (.s O (.s O (.s O (.s O (.s O .n)))))))))))))) (bE.calls _ _ k af.1 u.1 c.1 c.2.1 a.2.2.1 a.2.2.2.1 a.2.2.2.2.1 a.2.2.2.2.2.1 a.2.2.2.2.2.2.1 c.2.2.1 c.2.2.2.1 a.2.2.2.2.2.2.2.1 a.2.2.2.2.2.2.2.2.1 a.2.2.2.2.2.2.2.2.2.1 a.2.2.2.2.2.2.2.2.2.2.1 a.2.2.2.2.2.2.2.2.2.2.2.1 a.2.2.2.2.2.2.2.2.2.2.2.2.1 a.2.2.2.2.2.2.2.2.2.2.2.2.2.1 c.2.2.2.2.1 c.2.2.2.2.2.1 a.2.2.2.2.2.2.2.2.2.2.2.2.2.2.1 a.2.2.2.2.2.2.2.2.2.2.2.2.2.2.2 ((Rd.asV b1 e5).up (Up.lend 3 O) (fun _ _ h => h)) e6 e7 ((Rd.asV b2 e8).up (Up.lend 4 O) (aP.up (Up.lend 5 O))) e9 fn (hgl.lend 10 O)) e4) O O O ?_)))))))))
 intro ad
 refine va O O (nx (vm O O (ax (fun ec fp => (bf 7 O (fun fr fs fz lp => (bf 8 O (fun go gs gy l1 => (ah (aw (vs := [Pt af.1]) (cap := []) (A := [W4 u.1 c.1 a.2.2.2, ao (aj c.1 au am c.2.1) ai c.2.1 a.2.2.1, W2 af.1 u.1 a.q4.2.2 c.2.2.1 c.2.2.2.1 c.q4.1 c.q4.2.1]) (rst := [ar 9 1 (V9 tt) ad.1 ab ad.2, W8 a4 g q.1 q.2.1, ar 35 4 (V35 q.2.2) q.1 g.q4.2 q.2.1, q.2.2, Row 3 1 c.2.2.1 a.q4.2.2.2.1.length c.2.2.2.1 a5.flatten, Row 144 5 c.q4.1 a.q8.q4.2.2.1.length c.q4.2.1 a6.flatten, c.q4.2.2, ar 9 1 (V9 tt) an.1 al an.2, W8 a0 e n.1 n.2.1, ar 35 4 (V35 n.2.2) n.1 e.q4.2 n.2.1, n.2.2, F]) O O O O O O call31 (.sel 1 O (.sel 1 O (.sel 1 O (.s O (.s O (.s O (.s O (.s O (.s O (.s O (.s O (.s O (.s O (.s O (.s O .n))))))))))))))) (dX.calls _ _ af.1 u.1 c.1 c.2.1 a.2.2.1 a.2.2.2.1 a.2.2.2.2.1 a.2.2.2.2.2.1 a.2.2.2.2.2.2.1 c.2.2.1 c.2.2.2.1 a.2.2.2.2.2.2.2.1 a.2.2.2.2.2.2.2.2.1 a.2.2.2.2.2.2.2.2.2.1 a.2.2.2.2.2.2.2.2.2.2.1 a.2.2.2.2.2.2.2.2.2.2.2.1 a.2.2.2.2.2.2.2.2.2.2.2.2.1 a.2.2.2.2.2.2.2.2.2.2.2.2.2.1 c.2.2.2.2.1 c.2.2.2.2.2.1 a.2.2.2.2.2.2.2.2.2.2.2.2.2.2.1 a.2.2.2.2.2.2.2.2.2.2.2.2.2.2.2 ((Rd.asV b1 fr).up (Up.lend 4 O) (fun _ _ h => h)) fs fz ((Rd.asV b2 go).up (Up.lend 5 O) (aP.up (Up.lend 6 O))) gs gy) fp) O O O ?_)))))))))
 intro ok
 refine vm O O (vq (bG O O O) O (vq (bG O O O) O (va O O (va O O (ae (aa (ay (sr (vm O O (vq (cx O O O) O (vm O O (ak (b := decide (x2 < (0 : Int))) (fun l2 => RQ.sub (E' := [(2, Iv x2)]) ⟨O, trivial⟩ (aZ O O)) O O O O O (ak (b := decide (x2 < (0 : Int))) (fun l3 => RQ.sub (E' := [(14, Pt a0)]) ⟨O, trivial⟩ (ap O O underlying47 O O sizeOf3 O)) O O O O O (ak (b := decide (x2 < (0 : Int))) (fun g0 => RQ.sub (E' := [(97, .pointer (some ⟨a0, 3, none⟩))]) ⟨aD O g0, trivial⟩ (ag O O isAgg3 (.obj 11 O O))) O O O O O (ak (b := decide (x2 < (0 : Int))) (fun l4 => RQ.sub (E' := [(14, Pt a0)]) ⟨O, trivial⟩ (ap O O underlying47 O O sizeOf32 O)) O O O O O (ak (b := decide (x2 < (0 : Int))) (fun g1 => RQ.sub (E' := [(99, .pointer (some ⟨a0, 5, none⟩))]) ⟨aD O g1, trivial⟩ (ag O O isAgg32 (.obj 11 O O))) O O O O O (ak (b := decide (x2 < (0 : Int))) (fun g2 => RQ.sub (E' := [(100, .slice n.1 e.2.2.2.2.2.length n.2.1)]) ⟨aD O g2, trivial⟩ (bp O O O underlying32)) O O O O O (ak (b := decide (x2 < (0 : Int))) (fun c0 => RQ.sub (E' := [(98, Iv e.2.2.2.1), (101, Iv (e.2.2.2.2.2.length : Int))]) ⟨aD O c0, aD O c0, trivial⟩ (bU O O O)) O O O O O (ak (b := decide (x2 < (0 : Int))) (fun c2 => RQ.sub (E' := [(96, Iv x2), (102, Iv (IntKind.i64.wrap (e.2.2.2.1 + (e.2.2.2.2.2.length : Int))))]) ⟨aD O c2, aD O c2, trivial⟩ (cF O O O)) O O O O O (vq (dU O O O) O (ae (aa ?_))))))))))))))))))))))
 refine aW O (fun ol => ?_) (fun op => ?_)
 refine sr (vm O O (ax (fun bs g3 => (ah (aw (vs := [Iv a.2.1]) (cap := []) (A := []) (rst := [W4 u.1 c.1 a.2.2.2, ao (aj c.1 au am c.2.1) ai c.2.1 a.2.2.1, W2 af.1 u.1 a.q4.2.2 c.2.2.1 c.2.2.2.1 c.q4.1 c.q4.2.1, ar 9 1 (V9 tt) ad.1 ab ad.2, W8 a4 g q.1 q.2.1, ar 35 4 (V35 q.2.2) q.1 g.q4.2 q.2.1, q.2.2, Row 3 1 c.2.2.1 a.q4.2.2.2.1.length c.2.2.2.1 a5.flatten, Row 144 5 c.q4.1 a.q8.q4.2.2.1.length c.q4.2.1 a6.flatten, c.q4.2.2, ar 9 1 (V9 tt) an.1 al an.2, W8 a0 e n.1 n.2.1, ar 35 4 (V35 n.2.2) n.1 e.q4.2 n.2.1, n.2.2, F]) O O O O O O call13 (.s O (.s O (.s O (.s O (.s O (.s O (.s O (.s O (.s O (.s O (.s O (.s O (.s O (.s O (.s O .n))))))))))))))) (cP.calls _ _ a.2.1 ) g3) O O O ?_))))
 intro os
 refine vq (bO O O O) O (vm O O (ak (b := decide (bs = (1 : Int))) (fun l5 => RQ.sub (E' := [(16, Iv a.1)]) ⟨O, trivial⟩ (aZ O O)) O O O O O (ak (b := decide (bs = (1 : Int))) (fun g4 => RQ.sub (E' := [(109, Iv a.1)]) ⟨aD O g4, trivial⟩ (bO O O O)) O O O O O (vq (dr O O O) O (vm O O (ak (b := (decide (bs = (1 : Int))) && (decide (a.1 = (0 : Int)))) (fun l6 => RQ.sub (E' := [(15, .slice an.1 al.length an.2)]) ⟨O, trivial⟩ (aZ O O)) O O O O O (ak (b := (decide (bs = (1 : Int))) && (decide (a.1 = (0 : Int)))) (fun g5 => RQ.sub (E' := [(113, .slice an.1 al.length an.2)]) ⟨aD O g5, trivial⟩ (bp O O O underlying60)) O O O O O (ak (b := (decide (bs = (1 : Int))) && (decide (a.1 = (0 : Int)))) (fun l7 => RQ.sub (E' := [(19, .slice ad.1 ab.length ad.2)]) ⟨O, trivial⟩ (aZ O O)) O O O O O (ak (b := (decide (bs = (1 : Int))) && (decide (a.1 = (0 : Int)))) (fun g6 => RQ.sub (E' := [(115, .slice ad.1 ab.length ad.2)]) ⟨aD O g6, trivial⟩ (bp O O O underlying60)) O O O O O (ak (b := (decide (bs = (1 : Int))) && (decide (a.1 = (0 : Int)))) (fun c3 => RQ.sub (E' := [(114, Iv (al.length : Int)), (116, Iv (ab.length : Int))]) ⟨aD O c3, aD O c3, trivial⟩ (bO O O O)) O O O O O (vq (dr O O O) O (va O O (ae (aa (aA (aK ?_))))))))))))))))
 exact aE () O O O (.sel 14 O .n)
 refine aC (aa (ay (sr (vm O O (ax (fun a2 g7 => (ah (aw (vs := [Iv a.2.1]) (cap := []) (A := []) (rst := [W4 u.1 c.1 a.2.2.2, ao (aj c.1 au am c.2.1) ai c.2.1 a.2.2.1, W2 af.1 u.1 a.q4.2.2 c.2.2.1 c.2.2.2.1 c.q4.1 c.q4.2.1, ar 9 1 (V9 tt) ad.1 ab ad.2, W8 a4 g q.1 q.2.1, ar 35 4 (V35 q.2.2) q.1 g.q4.2 q.2.1, q.2.2, Row 3 1 c.2.2.1 a.q4.2.2.2.1.length c.2.2.2.1 a5.flatten, Row 144 5 c.q4.1 a.q8.q4.2.2.1.length c.q4.2.1 a6.flatten, c.q4.2.2, ar 9 1 (V9 tt) an.1 al an.2, W8 a0 e n.1 n.2.1, ar 35 4 (V35 n.2.2) n.1 e.q4.2 n.2.1, n.2.2, F]) O O O O O O call13 (.s O (.s O (.s O (.s O (.s O (.s O (.s O (.s O (.s O (.s O (.s O (.s O (.s O (.s O (.s O .n))))))))))))))) (cP.calls _ _ a.2.1 ) g7) O O O ?_)))))))
 intro oN
 refine vq (cZ O O O) O (vm O O (ak (b := !decide (a2 = (0 : Int))) (fun l8 => RQ.sub (E' := [(19, .slice ad.1 ab.length ad.2)]) ⟨O, trivial⟩ (aZ O O)) O O O O O (ak (b := !decide (a2 = (0 : Int))) (fun g8 => RQ.sub (E' := [(123, .slice ad.1 ab.length ad.2)]) ⟨aD O g8, trivial⟩ (bp O O O underlying60)) O O O O O (ak (b := !decide (a2 = (0 : Int))) (fun g9 => RQ.sub (E' := [(124, Iv (ab.length : Int))]) ⟨aD O g9, trivial⟩ (cx O O O)) O O O O O (vq (dU O O O) O (vm O O (ak (b := (!decide (a2 = (0 : Int))) || (decide ((ab.length : Int) < (1 : Int)))) (fun l9 => RQ.sub (E' := [(15, .slice an.1 al.length an.2)]) ⟨O, trivial⟩ (aZ O O)) O O O O O (ak (b := (!decide (a2 = (0 : Int))) || (decide ((ab.length : Int) < (1 : Int)))) (fun ha => RQ.sub (E' := [(128, .slice an.1 al.length an.2)]) ⟨aD O ha, trivial⟩ (bp O O O underlying60)) O O O O O (ak (b := (!decide (a2 = (0 : Int))) || (decide ((ab.length : Int) < (1 : Int)))) (fun ms => RQ.sub (E' := [(19, .slice ad.1 ab.length ad.2)]) ⟨O, trivial⟩ (aZ O O)) O O O O O (ak (b := (!decide (a2 = (0 : Int))) || (decide ((ab.length : Int) < (1 : Int)))) (fun hb => RQ.sub (E' := [(130, .slice ad.1 ab.length ad.2)]) ⟨aD O hb, trivial⟩ (bp O O O underlying60)) O O O O O (ak (b := (!decide (a2 = (0 : Int))) || (decide ((ab.length : Int) < (1 : Int)))) (fun c4 => RQ.sub (E' := [(129, Iv (al.length : Int)), (131, Iv (ab.length : Int))]) ⟨aD O c4, aD O c4, trivial⟩ (cW O O O)) O O O O O (ak (b := (!decide (a2 = (0 : Int))) || (decide ((ab.length : Int) < (1 : Int)))) (fun mu => RQ.sub (E' := [(16, Iv a.1)]) ⟨O, trivial⟩ (aZ O O)) O O O O O (ak (b := (!decide (a2 = (0 : Int))) || (decide ((ab.length : Int) < (1 : Int)))) (fun c5 => RQ.sub (E' := [(132, Iv (IntKind.i64.wrap ((al.length : Int) - (ab.length : Int)))), (133, Iv a.1)]) ⟨aD O c5, aD O c5, trivial⟩ (cZ O O O)) O O O O O (vq (dU O O O) O (vm O O (ak (b := ((!decide (a2 = (0 : Int))) || (decide ((ab.length : Int) < (1 : Int)))) || (!decide (IntKind.i64.wrap ((al.length : Int) - (ab.length : Int)) = a.1))) (fun my => RQ.sub (E' := [(16, Iv a.1)]) ⟨O, trivial⟩ (aZ O O)) O O O O O (ak (b := ((!decide (a2 = (0 : Int))) || (decide ((ab.length : Int) < (1 : Int)))) || (!decide (IntKind.i64.wrap ((al.length : Int) - (ab.length : Int)) = a.1))) (fun hc => RQ.sub (E' := [(137, Iv a.1)]) ⟨aD O hc, trivial⟩ (cx O O O)) O O O O O (vq (dU O O O) O (vm O O (ak (b := (((!decide (a2 = (0 : Int))) || (decide ((ab.length : Int) < (1 : Int)))) || (!decide (IntKind.i64.wrap ((al.length : Int) - (ab.length : Int)) = a.1))) || (decide (a.1 < (0 : Int)))) (fun m0 => RQ.sub (E' := [(20, Iv ec.1)]) ⟨O, trivial⟩ (aZ O O)) O O O O O (ak (b := (((!decide (a2 = (0 : Int))) || (decide ((ab.length : Int) < (1 : Int)))) || (!decide (IntKind.i64.wrap ((al.length : Int) - (ab.length : Int)) = a.1))) || (decide (a.1 < (0 : Int)))) (fun m1 => RQ.sub (E' := [(14, Pt a0)]) ⟨O, trivial⟩ (ap O O underlying47 O O sizeOf3 O)) O O O O O (ak (b := (((!decide (a2 = (0 : Int))) || (decide ((ab.length : Int) < (1 : Int)))) || (!decide (IntKind.i64.wrap ((al.length : Int) - (ab.length : Int)) = a.1))) || (decide (a.1 < (0 : Int)))) (fun he => RQ.sub (E' := [(142, .pointer (some ⟨a0, 3, none⟩))]) ⟨aD O he, trivial⟩ (ag O O isAgg3 (.obj 11 O O))) O O O O O (ak (b := (((!decide (a2 = (0 : Int))) || (decide ((ab.length : Int) < (1 : Int)))) || (!decide (IntKind.i64.wrap ((al.length : Int) - (ab.length : Int)) = a.1))) || (decide (a.1 < (0 : Int)))) (fun m2 => RQ.sub (E' := [(14, Pt a0)]) ⟨O, trivial⟩ (ap O O underlying47 O O sizeOf32 O)) O O O O O (ak (b := (((!decide (a2 = (0 : Int))) || (decide ((ab.length : Int) < (1 : Int)))) || (!decide (IntKind.i64.wrap ((al.length : Int) - (ab.length : Int)) = a.1))) || (decide (a.1 < (0 : Int)))) (fun hf => RQ.sub (E' := [(144, .pointer (some ⟨a0, 5, none⟩))]) ⟨aD O hf, trivial⟩ (ag O O isAgg32 (.obj 11 O O))) O O O O O (ak (b := (((!decide (a2 = (0 : Int))) || (decide ((ab.length : Int) < (1 : Int)))) || (!decide (IntKind.i64.wrap ((al.length : Int) - (ab.length : Int)) = a.1))) || (decide (a.1 < (0 : Int)))) (fun hg => RQ.sub (E' := [(145, .slice n.1 e.2.2.2.2.2.length n.2.1)]) ⟨aD O hg, trivial⟩ (bp O O O underlying32)) O O O O O (ak (b := (((!decide (a2 = (0 : Int))) || (decide ((ab.length : Int) < (1 : Int)))) || (!decide (IntKind.i64.wrap ((al.length : Int) - (ab.length : Int)) = a.1))) || (decide (a.1 < (0 : Int)))) (fun c6 => RQ.sub (E' := [(143, Iv e.2.2.2.1), (146, Iv (e.2.2.2.2.2.length : Int))]) ⟨aD O c6, aD O c6, trivial⟩ (bU O O O)) O O O O O (ak (b := (((!decide (a2 = (0 : Int))) || (decide ((ab.length : Int) < (1 : Int)))) || (!decide (IntKind.i64.wrap ((al.length : Int) - (ab.length : Int)) = a.1))) || (decide (a.1 < (0 : Int)))) (fun c7 => RQ.sub (E' := [(141, Iv ec.1), (147, Iv (IntKind.i64.wrap (e.2.2.2.1 + (e.2.2.2.2.2.length : Int))))]) ⟨aD O c7, aD O c7, trivial⟩ (cZ O O O)) O O O O O (vq (dU O O O) O (ae (aa ?_))))))))))))))))))))))))))))))
 refine aW O (fun o0 => ?_) (fun o1 => ?_)
 refine sr (va O O (ae (aa (aA (aK ?_)))))
 exact aE () O O O (.sel 14 O .n)
 refine aC (aa (sr (vq (ap O O underlying47 O O sizeOf3 O) O (vq (ag O O isAgg3 (.obj 4 O O)) O (vq (ap O O underlying47 O O sizeOf3 O) O (vq (ag O O isAgg3 (.obj 11 O O)) O (vq (cW O O O) O (va O O (nx (vm O O (vm O O (vm O O (bi 10 O (fun bc hh => (bf 10 O (fun hk c8 hl m3 => (bb (fun c9 => ?_))))))))))))))))))
 obtain ⟨ed, ef, hm, hn, ho, hp⟩ := gb (lo := a.1) (hi := (al.length : Int)) (Rd.asV hh hk) c8 c9
 refine vq (fA (l := al) (lo' := a.1) (hi' := (al.length : Int)) O O O O underlying60 sizeOf9 (.inl ⟨O, O⟩) (.inr ⟨_, O⟩) c9 c8 hm) O (bi 3 O (fun bd dl => (ax (fun a3 hq => (bf 3 O (fun hr hs ht m4 => (ah (aw (vs := [.slice ad.1 ab.length ad.2, .slice ed ((cut al a.1 (al.length : Int)).length) ef]) (cap := []) (A := []) (rst := [W4 u.1 c.1 a.2.2.2, ao (aj c.1 au am c.2.1) ai c.2.1 a.2.2.1, W2 af.1 u.1 a.q4.2.2 c.2.2.1 c.2.2.2.1 c.q4.1 c.q4.2.1, Row 9 1 ad.1 ab.length ad.2 bd.flatten, W8 a4 g q.1 q.2.1, ar 35 4 (V35 q.2.2) q.1 g.q4.2 q.2.1, q.2.2, Row 3 1 c.2.2.1 a.q4.2.2.2.1.length c.2.2.2.1 a5.flatten, Row 144 5 c.q4.1 a.q8.q4.2.2.1.length c.q4.2.1 a6.flatten, c.q4.2.2, Row 9 1 an.1 al.length an.2 bc.flatten, W8 a0 e n.1 n.2.1, ar 35 4 (V35 n.2.2) n.1 e.q4.2 n.2.1, n.2.2, F]) O O O O O O call32 (.s O (.s O (.s O (.s O (.s O (.s O (.s O (.s O (.s O (.s O (.s O (.s O (.s O (.s O (.s O .n))))))))))))))) (ce.calls _ _ k ad.1 ad.2 ab ed ef (cut al a.1 (al.length : Int)) ((Rd.asV dl hr).up (Up.lend 3 O) (fun _ _ h => h)) hs ht (hn.up (Up.lend 10 O) (fun _ _ h => h)) ho (Nat.le_trans hp hl)) hq) O O O ?_)))))))
 intro o2
 refine va O O (ae (aa (ay (sr (vm O O (vq (eT O O) O (vm O O (ak (b := !a3) (fun m5 => RQ.sub (E' := [(22, Iv (IntKind.i64.wrap (g.2.2.2.1 - e.2.2.2.1)))]) ⟨O, trivial⟩ (aZ O O)) O O O O O (ak (b := !a3) (fun hu => RQ.sub (E' := [(163, Iv (IntKind.i64.wrap (g.2.2.2.1 - e.2.2.2.1)))]) ⟨aD O hu, trivial⟩ (cx O O O)) O O O O O (vq (dU O O O) O (vm O O (ak (b := (!a3) || (decide (IntKind.i64.wrap (g.2.2.2.1 - e.2.2.2.1) < (0 : Int)))) (fun m6 => RQ.sub (E' := [(22, Iv (IntKind.i64.wrap (g.2.2.2.1 - e.2.2.2.1)))]) ⟨O, trivial⟩ (aZ O O)) O O O O O (ak (b := (!a3) || (decide (IntKind.i64.wrap (g.2.2.2.1 - e.2.2.2.1) < (0 : Int)))) (fun m7 => RQ.sub (E' := [(14, Pt a0)]) ⟨O, trivial⟩ (ap O O underlying47 O O sizeOf32 O)) O O O O O (ak (b := (!a3) || (decide (IntKind.i64.wrap (g.2.2.2.1 - e.2.2.2.1) < (0 : Int)))) (fun hv => RQ.sub (E' := [(168, .pointer (some ⟨a0, 5, none⟩))]) ⟨aD O hv, trivial⟩ (ag O O isAgg32 (.obj 11 O O))) O O O O O (ak (b := (!a3) || (decide (IntKind.i64.wrap (g.2.2.2.1 - e.2.2.2.1) < (0 : Int)))) (fun hw => RQ.sub (E' := [(169, .slice n.1 e.2.2.2.2.2.length n.2.1)]) ⟨aD O hw, trivial⟩ (bp O O O underlying32)) O O O O O (ak (b := (!a3) || (decide (IntKind.i64.wrap (g.2.2.2.1 - e.2.2.2.1) < (0 : Int)))) (fun ds => RQ.sub (E' := [(167, Iv (IntKind.i64.wrap (g.2.2.2.1 - e.2.2.2.1))), (170, Iv (e.2.2.2.2.2.length : Int))]) ⟨aD O ds, aD O ds, trivial⟩ (cF O O O)) O O O O O (vq (dU O O O) O (vm O O (ak (b := ((!a3) || (decide (IntKind.i64.wrap (g.2.2.2.1 - e.2.2.2.1) < (0 : Int)))) || (decide ((e.2.2.2.2.2.length : Int) < IntKind.i64.wrap (g.2.2.2.1 - e.2.2.2.1)))) (fun m8 => RQ.sub (E' := [(18, Pt a4)]) ⟨O, trivial⟩ (ap O O underlying47 O O sizeOf3 O)) O O O O O (ak (b := ((!a3) || (decide (IntKind.i64.wrap (g.2.2.2.1 - e.2.2.2.1) < (0 : Int)))) || (decide ((e.2.2.2.2.2.length : Int) < IntKind.i64.wrap (g.2.2.2.1 - e.2.2.2.1)))) (fun hx => RQ.sub (E' := [(174, .pointer (some ⟨a4, 3, none⟩))]) ⟨aD O hx, trivial⟩ (ag O O isAgg3 (.obj 4 O O))) O O O O O (ak (b := ((!a3) || (decide (IntKind.i64.wrap (g.2.2.2.1 - e.2.2.2.1) < (0 : Int)))) || (decide ((e.2.2.2.2.2.length : Int) < IntKind.i64.wrap (g.2.2.2.1 - e.2.2.2.1)))) (fun m9 => RQ.sub (E' := [(2, Iv x2)]) ⟨O, trivial⟩ (aZ O O)) O O O O O (ak (b := ((!a3) || (decide (IntKind.i64.wrap (g.2.2.2.1 - e.2.2.2.1) < (0 : Int)))) || (decide ((e.2.2.2.2.2.length : Int) < IntKind.i64.wrap (g.2.2.2.1 - e.2.2.2.1)))) (fun nd => RQ.sub (E' := [(14, Pt a0)]) ⟨O, trivial⟩ (ap O O underlying47 O O sizeOf3 O)) O O O O O (ak (b := ((!a3) || (decide (IntKind.i64.wrap (g.2.2.2.1 - e.2.2.2.1) < (0 : Int)))) || (decide ((e.2.2.2.2.2.length : Int) < IntKind.i64.wrap (g.2.2.2.1 - e.2.2.2.1)))) (fun hy => RQ.sub (E' := [(177, .pointer (some ⟨a0, 3, none⟩))]) ⟨aD O hy, trivial⟩ (ag O O isAgg3 (.obj 11 O O))) O O O O O (ak (b := ((!a3) || (decide (IntKind.i64.wrap (g.2.2.2.1 - e.2.2.2.1) < (0 : Int)))) || (decide ((e.2.2.2.2.2.length : Int) < IntKind.i64.wrap (g.2.2.2.1 - e.2.2.2.1)))) (fun d1 => RQ.sub (E' := [(176, Iv x2), (178, Iv e.2.2.2.1)]) ⟨aD O d1, aD O d1, trivial⟩ (rc O O O)) O O O O O (ak (b := ((!a3) || (decide (IntKind.i64.wrap (g.2.2.2.1 - e.2.2.2.1) < (0 : Int)))) || (decide ((e.2.2.2.2.2.length : Int) < IntKind.i64.wrap (g.2.2.2.1 - e.2.2.2.1)))) (fun d2 => RQ.sub (E' := [(175, Iv g.2.2.2.1), (179, Iv (max x2 e.2.2.2.1))]) ⟨aD O d2, aD O d2, trivial⟩ (cF O O O)) O O O O O (vq (dU O O O) O (vm O O (ak (b := (((!a3) || (decide (IntKind.i64.wrap (g.2.2.2.1 - e.2.2.2.1) < (0 : Int)))) || (decide ((e.2.2.2.2.2.length : Int) < IntKind.i64.wrap (g.2.2.2.1 - e.2.2.2.1)))) || (decide (max x2 e.2.2.2.1 < g.2.2.2.1))) (fun nm => RQ.sub (E' := [(18, Pt a4)]) ⟨O, trivial⟩ (ap O O underlying47 O O sizeOf43 O)) O O O O O (ak (b := (((!a3) || (decide (IntKind.i64.wrap (g.2.2.2.1 - e.2.2.2.1) < (0 : Int)))) || (decide ((e.2.2.2.2.2.length : Int) < IntKind.i64.wrap (g.2.2.2.1 - e.2.2.2.1)))) || (decide (max x2 e.2.2.2.1 < g.2.2.2.1))) (fun hz => RQ.sub (E' := [(183, Pt a4)]) ⟨aD O hz, trivial⟩ (cn (vs := [Iv g.1, Iv g.2.1, Iv g.2.2.1]) O O isAgg43 sizeOf43 O (cY 4 O (cG O)))) O O O O O (ak (b := (((!a3) || (decide (IntKind.i64.wrap (g.2.2.2.1 - e.2.2.2.1) < (0 : Int)))) || (decide ((e.2.2.2.2.2.length : Int) < IntKind.i64.wrap (g.2.2.2.1 - e.2.2.2.1)))) || (decide (max x2 e.2.2.2.1 < g.2.2.2.1))) (fun nn => RQ.sub (E' := [(14, Pt a0)]) ⟨O, trivial⟩ (ap O O underlying47 O O sizeOf43 O)) O O O O O (ak (b := (((!a3) || (decide (IntKind.i64.wrap (g.2.2.2.1 - e.2.2.2.1) < (0 : Int)))) || (decide ((e.2.2.2.2.2.length : Int) < IntKind.i64.wrap (g.2.2.2.1 - e.2.2.2.1)))) || (decide (max x2 e.2.2.2.1 < g.2.2.2.1))) (fun hA => RQ.sub (E' := [(185, Pt a0)]) ⟨aD O hA, trivial⟩ (cn (vs := [Iv e.1, Iv e.2.1, Iv e.2.2.1]) O O isAgg43 sizeOf43 O (cY 11 O (cG O)))) O O O O O (ak (b := (((!a3) || (decide (IntKind.i64.wrap (g.2.2.2.1 - e.2.2.2.1) < (0 : Int)))) || (decide ((e.2.2.2.2.2.length : Int) < IntKind.i64.wrap (g.2.2.2.1 - e.2.2.2.1)))) || (decide (max x2 e.2.2.2.1 < g.2.2.2.1))) (fun d3 => RQ.sub (E' := [(184, .agg #[Iv g.1, Iv g.2.1, Iv g.2.2.1]), (186, .agg #[Iv e.1, Iv e.2.1, Iv e.2.2.1])]) ⟨aD O d3, aD O d3, trivial⟩ (ua O O O (by kernel_rfl) (fun d w => mL underlying43 (by kernel_rfl) (kG (by rfl) (fS isAgg3 O) (fS isAgg3 O) (jA underlying3) (kG (by rfl) (fS isAgg3 O) (fS isAgg3 O) (jA underlying3) (pk (by rfl) (fS isAgg3 O) (fS isAgg3 O) (jA underlying3))))))) O O O O O (vq (dU O O O) O (ae (aa ?_)))))))))))))))))))))))))))))))))))
 refine aW O (fun o3 => ?_) (fun o4 => ?_)
 refine sr (va O O (ae (aa (aA (aK ?_)))))
 exact aE () O O O (.sel 14 O .n)
 refine aC (aa (ay (bm 5 O (fun br hB => (bm 12 O (fun a7 hC => (gP 12 O (fun hE d4 hF no => (eP (H' := [aN [Row 35 4 n.1 e.2.2.2.2.2.length n.2.1 a7.flatten, n.2.2], W4 u.1 c.1 a.2.2.2, ao (aj c.1 au am c.2.1) ai c.2.1 a.2.2.1, W2 af.1 u.1 a.2.2.2.2.2.2 c.2.2.1 c.2.2.2.1 c.2.2.2.2.1 c.2.2.2.2.2.1, Row 9 1 ad.1 ab.length ad.2 bd.flatten, W8 a4 g q.1 q.2.1, Row 35 4 q.1 g.2.2.2.2.2.length q.2.1 br.flatten, q.2.2, Row 3 1 c.2.2.1 a.2.2.2.2.2.2.2.1.length c.2.2.2.1 a5.flatten, Row 144 5 c.2.2.2.2.1 a.2.2.2.2.2.2.2.2.2.2.2.2.2.2.1.length c.2.2.2.2.2.1 a6.flatten, c.2.2.2.2.2.2, Row 9 1 an.1 al.length an.2 bc.flatten, W8 a0 e n.1 n.2.1, F]) (Ent.trans (m := [Row 35 4 n.1 e.2.2.2.2.2.length n.2.1 a7.flatten, n.2.2, W4 u.1 c.1 a.2.2.2, ao (aj c.1 au am c.2.1) ai c.2.1 a.2.2.1, W2 af.1 u.1 a.2.2.2.2.2.2 c.2.2.1 c.2.2.2.1 c.2.2.2.2.1 c.2.2.2.2.2.1, Row 9 1 ad.1 ab.length ad.2 bd.flatten, W8 a4 g q.1 q.2.1, Row 35 4 q.1 g.2.2.2.2.2.length q.2.1 br.flatten, q.2.2, Row 3 1 c.2.2.1 a.2.2.2.2.2.2.2.1.length c.2.2.2.1 a5.flatten, Row 144 5 c.2.2.2.2.1 a.2.2.2.2.2.2.2.2.2.2.2.2.2.2.1.length c.2.2.2.2.2.1 a6.flatten, c.2.2.2.2.2.2, Row 9 1 an.1 al.length an.2 bc.flatten, W8 a0 e n.1 n.2.1, F]) (.sel 12 O (.sel 12 O (.s O (.s O (.s O (.s O (.s O (.s O (.s O (.s O (.s O (.s O (.s O (.s O (.s O .n))))))))))))))) (fG [Row 35 4 n.1 e.2.2.2.2.2.length n.2.1 a7.flatten, n.2.2] _)) (cB (fun d5 => ?_)))))))))))
 obtain ⟨cd, ch, hG, hH, hI, hK⟩ := gb (lo := IntKind.i64.wrap (g.2.2.2.1 - e.2.2.2.1)) (hi := (e.2.2.2.2.2.length : Int)) (Rd.asV (hC.mono (V35.up (Up.lend (l := [Row 35 4 n.1 e.2.2.2.2.2.length n.2.1 a7.flatten, n.2.2]) 1 rfl))) (Rd.lend (l := [Row 35 4 n.1 e.2.2.2.2.2.length n.2.1 a7.flatten, n.2.2]) hE 0 rfl)) d4 d5
 refine bo (fun cs hL => ?_)
 refine ba (Γ := Unit) () [[], [0], [], [2], [], [2, 3, 4], rL 6, rL 7] [6] [0, 1, 2, 3, 4, 5, 7] (fun i => [[0], [0], [0], [0], [0], [0], [], [1]].getD i []) (fun i => [[], [], [], [], [], [], rL 6, []].getD i []) (fun γ i => [.pointer (some ⟨a4, 5, none⟩), .slice q.1 g.2.2.2.2.2.length q.2.1, .pointer (some ⟨a0, 5, none⟩), .slice n.1 e.2.2.2.2.2.length n.2.1, Iv (IntKind.i64.wrap (g.2.2.2.1 - e.2.2.2.1)), .slice cd ((cut e.2.2.2.2.2 (IntKind.i64.wrap (g.2.2.2.1 - e.2.2.2.1)) (e.2.2.2.2.2.length : Int)).length) ch, .bool cs, .bool cs].getD i undef) (fun j γ => [[aN [Row 35 4 n.1 e.2.2.2.2.2.length n.2.1 a7.flatten, n.2.2], W4 u.1 c.1 a.2.2.2, ao (aj c.1 au am c.2.1) ai c.2.1 a.2.2.1, W2 af.1 u.1 a.2.2.2.2.2.2 c.2.2.1 c.2.2.2.1 c.2.2.2.2.1 c.2.2.2.2.2.1, Row 9 1 ad.1 ab.length ad.2 bd.flatten, W8 a4 g q.1 q.2.1, Row 35 4 q.1 g.2.2.2.2.2.length q.2.1 br.flatten, q.2.2, Row 3 1 c.2.2.1 a.2.2.2.2.2.2.2.1.length c.2.2.2.1 a5.flatten, Row 144 5 c.2.2.2.2.1 a.2.2.2.2.2.2.2.2.2.2.2.2.2.2.1.length c.2.2.2.2.2.1 a6.flatten, c.2.2.2.2.2.2, Row 9 1 an.1 al.length an.2 bc.flatten, W8 a0 e n.1 n.2.1, F], [aN [Row 35 4 n.1 e.2.2.2.2.2.length n.2.1 a7.flatten, n.2.2], W4 u.1 c.1 a.2.2.2, ao (aj c.1 au am c.2.1) ai c.2.1 a.2.2.1, W2 af.1 u.1 a.2.2.2.2.2.2 c.2.2.1 c.2.2.2.1 c.2.2.2.2.1 c.2.2.2.2.2.1, Row 9 1 ad.1 ab.length ad.2 bd.flatten, W8 a4 g q.1 q.2.1, Row 35 4 q.1 g.2.2.2.2.2.length q.2.1 br.flatten, q.2.2, Row 3 1 c.2.2.1 a.2.2.2.2.2.2.2.1.length c.2.2.2.1 a5.flatten, Row 144 5 c.2.2.2.2.1 a.2.2.2.2.2.2.2.2.2.2.2.2.2.2.1.length c.2.2.2.2.2.1 a6.flatten, c.2.2.2.2.2.2, Row 9 1 an.1 al.length an.2 bc.flatten, W8 a0 e n.1 n.2.1, F]].getD j []) (fun γ => [(9, Pt u.1), (19, .slice ad.1 ab.length ad.2), (24, .bool cs)]) mixed (by decide) (by decide) (by decide) (by decide) (by decide) (by decide) (by decide) 213 O (by decide) (by decide) (by decide) (Ent.refl _) ?_ ?_ (fun _ => ⟨O, O, O, trivial⟩) ?_
 exact (aq O (fun γ => qp O O (.o (s := 18) O (by decide) .nil) (ap O O underlying47 O O sizeOf32 O) O) (aq O (fun γ => qp O O (.v 0 O O .nil) (ag O O isAgg32 (.obj 5 O O)) O) (aq O (fun γ => qp O O (.o (s := 14) O (by decide) .nil) (ap O O underlying47 O O sizeOf32 O) O) (aq O (fun γ => qp O O (.v 2 O O .nil) (ag O O isAgg32 (.obj 12 O O)) O) (aq O (fun γ => qm O (.o (s := 22) O (by decide) .nil) O) (aq O (fun γ => qp O O (.v 3 O O (.v 4 O O .nil)) (fA (l := e.2.2.2.2.2) (lo' := IntKind.i64.wrap (g.2.2.2.1 - e.2.2.2.1)) (hi' := (e.2.2.2.2.2.length : Int)) O O O O underlying32 sizeOf35 (.inl ⟨O, O⟩) (.inr ⟨_, O⟩) d5 d4 hG) O) (aq O (fun γ => qp O O (.v 6 O O .nil) (cz O O) O) zA)))))))
 exact (ac (fun γ => eo (Z := Unit) (fun z => ()) O O (.v 1 O O (.v 5 O O .nil)) (RE.lend 6 O (fun hM hO hP nu => aw (val := fun (r : Bool) (y : Unit) => .bool r) (B := fun _ _ => []) (vs := [.slice q.1 g.2.2.2.2.2.length q.2.1, .slice cd ((cut e.2.2.2.2.2 (IntKind.i64.wrap (g.2.2.2.1 - e.2.2.2.1)) (e.2.2.2.2.2.length : Int)).length) ch]) (cap := []) (A := []) (rst := [aN [Row 35 4 n.1 e.q4.2.length n.2.1 a7.flatten, n.2.2], W4 u.1 c.1 a.2.2.2, ao (aj c.1 au am c.2.1) ai c.2.1 a.2.2.1, W2 af.1 u.1 a.q4.2.2 c.2.2.1 c.2.2.2.1 c.q4.1 c.q4.2.1, Row 9 1 ad.1 ab.length ad.2 bd.flatten, W8 a4 g q.1 q.2.1, Row 35 4 q.1 g.q4.2.length q.2.1 br.flatten, q.2.2, Row 3 1 c.2.2.1 a.q4.2.2.2.1.length c.2.2.2.1 a5.flatten, Row 144 5 c.q4.1 a.q8.q4.2.2.1.length c.q4.2.1 a6.flatten, c.q4.2.2, Row 9 1 an.1 al.length an.2 bc.flatten, W8 a0 e n.1 n.2.1, F]) O O O O O O call19 (.s O (.s O (.s O (.s O (.s O (.s O (.s O (.s O (.s O (.s O (.s O (.s O (.s O (.s O .n)))))))))))))) (bT.calls _ _ k q.1 q.2.1 g.2.2.2.2.2 cd ch (cut e.2.2.2.2.2 (IntKind.i64.wrap (g.2.2.2.1 - e.2.2.2.1)) (e.2.2.2.2.2.length : Int)) ((Rd.asV hB hM).up (Up.lend 6 O) (V35.up (Up.lend 7 O))) hO hP (hH.up (Up.lend 0 O) (V35.up (Up.lend 0 O))) hI (Nat.le_trans hK hF)) hL)) (fun _ => ⟨O, O, O, O, O, O, trivial⟩) (fun _ => .inr O) (fun z => Ent.refl _)) zA)
 intro o5
 refine aa (sr (vm O O (vm O O (vm O O (vq (bp O O O underlying60) O (vq (cW O O O) O (bb (fun d6 => (ep 4 O dl O (i := (IntKind.i64.wrap ((ab.length : Int) - 1)).toNat) (by omega) ([] : Lb) (fun o6 n0 o7 hR hS k2 hcell212v => ?_))))))))))
 obtain rfl := hS
 refine vq (cK O O O hR underlying60 sizeOf9 d6.1 d6.2) O (vq (ag O O isAgg9 (hcell212v 4 O 0 _ O)) O (ax (fun b0 hT => (ah (aw (vs := [Pt u.1, str (ab.getD (IntKind.i64.wrap ((ab.length : Int) - 1)).toNat ([] : Lb))]) (cap := []) (A := [W4 u.1 c.1 a.2.2.2, ao (aj c.1 au am c.2.1) ai c.2.1 a.2.2.1]) (rst := [aN [Row 35 4 n.1 e.q4.2.length n.2.1 a7.flatten, n.2.2], W2 af.1 u.1 a.q4.2.2 c.2.2.1 c.2.2.2.1 c.q4.1 c.q4.2.1, Row 9 1 ad.1 ab.length ad.2 bd.flatten, W8 a4 g q.1 q.2.1, Row 35 4 q.1 g.q4.2.length q.2.1 br.flatten, q.2.2, Row 3 1 c.2.2.1 a.q4.2.2.2.1.length c.2.2.2.1 a5.flatten, Row 144 5 c.q4.1 a.q8.q4.2.2.1.length c.q4.2.1 a6.flatten, c.q4.2.2, Row 9 1 an.1 al.length an.2 bc.flatten, W8 a0 e n.1 n.2.1, F]) O O O O O O call26 (.sel 1 O (.sel 1 O (.s O (.s O (.s O (.s O (.s O (.s O (.s O (.s O (.s O (.s O (.s O (.s O .n)))))))))))))) (df.calls _ _ u.1 c.1 c.2.1 a.2.2.1 a.2.2.2.1 a.2.2.2.2.1 a.2.2.2.2.2.1 (ab.getD (IntKind.i64.wrap ((ab.length : Int) - 1)).toNat ([] : Lb)) ) hT) O O O ?_))))
 intro eg
 refine vm O O (vq (bG O O O) O (vq (bG O O O) O (va O O (va O O (nx (vm O O (vm O O ?_)))))))
 refine dH 4 (S := Bool) Unit (fun s y => [(212, .bool s)]) (fun s y => [F]) ?_ ?_
 refine eZ (fun hV => ?_) (fun hW => ?_)
 rw [hV]
 refine aT (aZ O O) O O O O O O (ax (fun kl hX => (gc (aw (vs := [Iv b0.2]) (cap := []) (A := []) (rst := [Row 5 1 eg.1 b0.1.length eg.2 (aB b0.1), W4 u.1 c.1 a.2.2.2, ao (aj c.1 au am c.2.1) ai c.2.1 a.2.2.1, aN [Row 35 4 n.1 e.q4.2.length n.2.1 a7.flatten, n.2.2], W2 af.1 u.1 a.q4.2.2 c.2.2.1 c.2.2.2.1 c.q4.1 c.q4.2.1, Row 9 1 ad.1 ab.length ad.2 bd.flatten, W8 a4 g q.1 q.2.1, Row 35 4 q.1 g.q4.2.length q.2.1 br.flatten, q.2.2, Row 3 1 c.2.2.1 a.q4.2.2.2.1.length c.2.2.2.1 a5.flatten, Row 144 5 c.q4.1 a.q8.q4.2.2.1.length c.q4.2.1 a6.flatten, c.q4.2.2, Row 9 1 an.1 al.length an.2 bc.flatten, W8 a0 e n.1 n.2.1, F]) O O O O O O call13 (.s O (.s O (.s O (.s O (.s O (.s O (.s O (.s O (.s O (.s O (.s O (.s O (.s O (.s O (.s O .n))))))))))))))) (cP.calls _ _ b0.2 ) hX) O O O O O O ?_)))
 intro o8
 refine aT (bO O O O) O O O O O O (vq (cf O O O O O) O (ae ?_))
 exact aH (s := decide (kl = (0 : Int))) () ⟨O, trivial⟩ (.sel 14 O .n)
 rw [hW]
 refine aJ O O O O O O (aJ O O O O O O (aJ O O O O O O (vq (cf O O O O O) O (ae ?_))))
 exact aH (s := false) () ⟨O, trivial⟩ (.sel 14 O .n)
 intro o9 ps
 refine va O O (ae (aa (aA ?_)))
 exact aE () O O O (.s O .n)
 refine ah (aw (vs := [Pt u.1, Iv x0]) (cap := []) (A := [W5 u.1 u.2.1 be.2, ao (aj u.2.1 au am u.2.2) ai u.2.2 be.1]) (rst := [F]) O O O O O O call15 (.s O (.s O (.s O .n))) (bS.callsN _ _ k u.1 u.2.1 u.2.2 be.1 be.2.1 be.2.2.1 be.2.2.2 x0 (hgl.lend 0 O)) (lB d9 (eq_false_of_ne_true b5))) O O O ?_
 intro py
 refine vm O O (vq (bG O O O) O (vq (bG O O O) O (vq (bG O O O) O (va O O (va O O (va O O (ae (aa (ay (sr (vm O O (vq (kf O O O underlying36) O (ae (aa (fH O (sr (va O O (ae (aa (aA (aK ?_)))))))))))))))))))))
 exact aE () O O O (.sel 2 O .n)
end Go.Proofs.YtndjkejhacfpdaaGreatDoor

namespace Go.Proofs.YtndjkejhacfpdaaGreatDoor
open Go.RowKit

theorem w64 {n : Int} (q : -9223372036854775808 ≤ n) (h1 : n ≤ 9223372036854775807) : IntKind.i64.wrap n = n := by rw [IntKind.wrap_i64]; omega
theorem w8 {n : Int} (q : 0 ≤ n) (h1 : n < 256) : IntKind.u8.wrap n = n := by rw [IntKind.wrap_u8]; omega
theorem nU (n : Int) (q : 0 ≤ n) (r : n < 2 ^ 63) : IntKind.i64.wrap n = n := by rw [IntKind.wrap_i64]; omega
theorem uK {n : Int} (q : 0 ≤ n) (h1 : n < 2 ^ 63) : ca .and .i64 n 127 = n % 128 := bits_mask .i64 63 (by decide) nU 7 (by decide) n q h1
theorem vx {n : Int} (q : 0 ≤ n) (h1 : n < 128) : ca .or .i64 n 128 = n + 128 := by
 obtain ⟨a, rfl⟩ := Int.eq_ofNat_of_zero_le q
 have r : a < 128 := by omega
 have e := (bits_nat .i64 63 (by decide) nU a 128 (by omega) (by decide)).2
 show bits .or .i64 (a : Int) ((128 : Nat) : Int) = _
 rw [e]
 have u := Nat.two_pow_add_eq_or_of_lt (i := 7) (b := a) r 1
 have : a ||| 128 = 128 + a := by rw [Nat.or_comm]; simpa using u.symm
 rw [this]; omega
theorem uI (n : Nat) : Int.fdiv (n : Int) (2 ^ (min (7 : Int).toNat IntKind.i64.bits)) = ((n / 128 : Nat) : Int) := by
 show Int.fdiv (n : Int) 128 = _
 rw [Int.fdiv_eq_ediv_of_nonneg _ (by decide)]
 simp
theorem rJ (b : UInt8) : dE (b.toNat : Int) = b := by simp [dE]
theorem ub (l : List UInt8) (i : Nat) : (l.getD i 0).toNat < 256 := UInt8.toNat_lt _

def sv (n : Nat) : List UInt8 := if h : n < 128 then [UInt8.ofNat n] else UInt8.ofNat (n % 128 + 128) :: sv (n / 128)
theorem ou {n : Nat} (h : n < 128) : sv n = [UInt8.ofNat n] := by rw [sv]; simp [h]
theorem qS {n : Nat} (h : 128 ≤ n) : sv n = UInt8.ofNat (n % 128 + 128) :: sv (n / 128) := by rw [sv]; simp [Nat.not_lt.2 h]
theorem vE (n : Nat) : sv n ≠ [] := by rw [sv]; split <;> simp
theorem oG (n : Nat) : 0 < (sv n).length := List.length_pos_iff.2 (vE n)
theorem sq : ∀ (j n : Nat), n < 128 ^ (j + 1) → (sv n).length ≤ j + 1
 | 0, n, h => by rw [ou (by simpa using h)]; simp
 | j + 1, n, h => by
  by_cases hn : n < 128
  ·rw [ou hn]; simp
  ·rw [qS (by omega)]
   have := sq j (n / 128) (by rw [Nat.pow_succ] at h; exact Nat.div_lt_of_lt_mul (by rw [Nat.mul_comm]; exact h))
   simp; omega
theorem sv9 {n : Nat} (h : n < 2 ^ 63) : (sv n).length ≤ 9 := sq 8 n (by omega)
end Go.Proofs.YtndjkejhacfpdaaGreatDoor

namespace Go.Proofs.YtndjkejhacfpdaaGreatDoor
open Go.RowKit

theorem nz : ∀ (j n c k : Nat), n < 128 ^ (j + 1) → j + 1 ≤ k → c + j < 1000 → dS.l0 k (n : Int) (c : Int) = some (((c + ((sv n).length - 1) : Nat)) : Int)
 | j, n, c, 0, _, hk, _ => by omega
 | j, n, c, k + 1, h, hk, hc => by
  simp only [dS.l0]
  by_cases hn : n < 128
  ·rw [if_neg (by omega), ou hn]; simp
  ·rw [if_pos (by omega), uI]
   cases j with
   | zero => simp at h; omega
   | succ j =>
    rw [w64 (by omega) (by omega)]
    have := nz j (n / 128) (c + 1) k (by rw [Nat.pow_succ] at h; exact Nat.div_lt_of_lt_mul (by rw [Nat.mul_comm]; exact h)) (by omega) (by omega)
    have e : ((c : Int) + 1) = ((c + 1 : Nat) : Int) := by simp
    rw [e, this, qS (n := n) (by omega)]
    have := oG (n / 128)
    simp only [List.length_cons, Option.some.injEq, Int.ofNat_inj]
    omega
def okN (x : Int) : Prop := 0 ≤ x ∧ x ≤ 4611686018427387904
instance (x : Int) : Decidable (okN x) := by unfold okN; exact inferInstance
def ov (x : Int) : Int := if okN x then ((sv x.toNat).length : Nat) else 0
theorem nA (x : Int) : ((decide (x < (0 : Int))) || (decide ((4611686018427387904 : Int) < x))) = true ↔ ¬ okN x := by
 unfold okN; simp; omega
theorem oH {k : Nat} (q : 10 ≤ k) (x : Int) : dS.f k x = some (ov x) := by
 unfold dS.f ov
 by_cases h : okN x
 ·rw [if_neg (by rw [nA]; simpa using h), if_pos h]
  obtain ⟨n, rfl⟩ := Int.eq_ofNat_of_zero_le h.1
  have r : n ≤ 4611686018427387904 := by have := h.2; omega
  have := nz 8 n 1 k (by omega) (by omega) (by omega)
  have e : ((1 : Nat) : Int) = 1 := rfl
  rw [e] at this
  rw [this]
  have := oG n
  simp; omega
 ·rw [if_pos ((nA x).2 h), if_neg h]
/-! The bytes, one by one. -/
theorem uJ {n : Nat} (q : n < 2 ^ 63) : IntKind.u8.wrap (ca .or .i64 (ca .and .i64 (n : Int) 127) 128) = ((n % 128 + 128 : Nat) : Int) := by
 rw [uK (by omega) (by omega), vx (by omega) (by omega), w8 (by omega) (by omega)]
 simp
theorem lR {S : Type} (q : S → Int → Option S) : ∀ (j n : Nat) (s : S) (k : Nat), n < 128 ^ (j + 1) → j + 1 ≤ k → n < 2 ^ 63 → ((cL.l0 q k (n : Int) s).bind fun r => q r.2 (IntKind.u8.wrap r.1)) = jM q s ((sv n).map fun b => (b.toNat : Int))
 | j, n, s, 0, _, hk, _ => by omega
 | j, n, s, k + 1, h, hk, hs => by
  simp only [cL.l0]
  by_cases hn : n < 128
  ·rw [if_neg (by omega), ou hn]
   have e : (UInt8.ofNat n).toNat = n := by rw [UInt8.toNat_ofNat']; omega
   simp only [Option.bind_some, List.map_cons, List.map_nil, jM, e]
   rw [w8 (by omega) (by omega)]
   cases q s (n : Int) <;> rfl
  ·rw [if_pos (by omega), uI, uJ hs, qS (by omega)]
   have e : (UInt8.ofNat (n % 128 + 128)).toNat = n % 128 + 128 := by rw [UInt8.toNat_ofNat']; omega
   simp only [List.map_cons, jM, e]
   cases j with
   | zero => simp at h; omega
   | succ j =>
    cases q s ((n % 128 + 128 : Nat) : Int) with
    | none => rfl
    | some s' => exact lR q j (n / 128) s' k (by rw [Nat.pow_succ] at h; exact Nat.div_lt_of_lt_mul (by rw [Nat.mul_comm]; exact h)) (by omega) (by omega)
theorem rI {S : Type} {k : Nat} (D : 10 ≤ k) (q : S → Int → Option S) (s : S) {n : Nat} (u : n < 2 ^ 63) : cL.f k q s (n : Int) = jM q s ((sv n).map fun b => (b.toNat : Int)) := by
 rw [← lR q 8 n s k (by omega) (by omega) u]
 unfold cL.f
 congr 1
 funext r
 cases q r.2 (IntKind.u8.wrap r.1) <;> rfl
def oI (s : List UInt8) (x : Int) : Option (List UInt8) := if 0 ≤ x ∧ x < 256 then (if (s.length + ([(dE x)] : List UInt8).length) * 1 ≤ 140737488355328 then (some (s ++ ([(dE x)] : List UInt8))) else none) else none
theorem qk : ∀ (l s : List UInt8), s.length + l.length ≤ 140737488355328 → jM oI s (l.map fun b => (b.toNat : Int)) = some (s ++ l)
 | [], s, _ => by simp [jM]
 | b :: l, s, h => by
  have q := UInt8.toNat_lt b
  simp only [List.length_cons] at h
  simp only [List.map_cons, jM, oI]
  rw [if_pos (by omega), if_pos (by simp; omega)]
  simp only [Option.bind_some, rJ]
  rw [qk l (s ++ [b]) (by simp; omega)]
  simp
def dF (x : Int) : List UInt8 := if okN x then sv x.toNat else []
def erV (x : Int) : Int := if okN x then 0 else 1
theorem mD (x : Int) : ov x = 0 ↔ ¬ okN x := by
 unfold ov
 have := oG x.toNat
 split
 ·rename_i h; simp only [h, not_true_eq_false, iff_false]; omega
 ·rename_i h; simp [h]
/-! Two byte lists. -/
end Go.Proofs.YtndjkejhacfpdaaGreatDoor

namespace Go.Proofs.YtndjkejhacfpdaaGreatDoor
open Go.RowKit

end Go.Proofs.YtndjkejhacfpdaaGreatDoor

namespace Go.Proofs.YtndjkejhacfpdaaGreatDoor
open Go.RowKit
theorem cC (x : Int) : (dF x).length ≤ 9 := by
 unfold dF
 split
 ·rename_i h; have := h.2; exact sv9 (by omega)
 ·simp
theorem nL (x : Int) : erV x = 0 ↔ okN x := by unfold erV; split <;> simp_all
end Go.Proofs.YtndjkejhacfpdaaGreatDoor

namespace Go.Proofs.YtndjkejhacfpdaaGreatDoor
open Go.RowKit
theorem sk {x : List UInt8} (h : x.length ≤ 140737488355328) : eN.f x = some x := by
 unfold eN.f
 rw [if_pos (by omega)]
 simp [iV]
/-! ### The reader -/
end Go.Proofs.YtndjkejhacfpdaaGreatDoor

namespace Go.Proofs.YtndjkejhacfpdaaGreatDoor
open Go.RowKit
def pv (b : List UInt8) (e x : Int) : List UInt8 × Int := if e = 0 then (b ++ dF x, erV x) else (b, e)
def mN (b : List UInt8) (e : Int) (l : List UInt8) (most : Int) : List UInt8 × Int :=
 if e = 0 then (if max most 0 < (l.length : Int) then (b, 3) else (b ++ dF (l.length : Int) ++ l, 0)) else (b, e)
theorem qC {k : Nat} (q : 10 ≤ k) {b : List UInt8} (r : b.length + 9 ≤ 140737488355328) (e x : Int) : bv.f k b e x = some (pv b e x) := by
 unfold bv.f pv
 by_cases he : e = 0
 ·rw [if_pos he, if_pos he, oH q, Option.bind_some]
  unfold dF erV
  by_cases h : okN x
  ·obtain ⟨n, rfl⟩ := Int.eq_ofNat_of_zero_le h.1
   have u : n ≤ 4611686018427387904 := by have := h.2; omega
   have D := sv9 (n := n) (by omega)
   rw [if_neg (by rw [mD]; simpa using h), if_pos h, if_pos h]
   show ((cL.f k oI b (n : Int)).bind _) = _
   rw [rI q _ _ (by omega), qk _ _ (by omega), he]
   rfl
  ·rw [if_pos ((mD x).2 h), if_neg h, if_neg h]; simp
 ·rw [if_neg he, if_neg he]
theorem uv {l : List UInt8} (h : l.length < 2 ^ 47) : okN (l.length : Int) := ⟨by omega, by omega⟩
theorem sf {k : Nat} (q : 10 ≤ k) {b l : List UInt8} (u : b.length + 9 + l.length < 140737488355328) (e most : Int) : dp.f k b e l most = some (mN b e l most) := by
 unfold dp.f mN
 by_cases he : e = 0
 ·by_cases hm : max most 0 < (l.length : Int)
  ·rw [if_pos (by simp [he]; omega), if_pos he, if_pos hm]; rfl
  ·have r := uv (l := l) (by omega)
   have D := cC (l.length : Int)
   rw [if_neg (by simp; omega), if_pos he, if_neg hm, Option.bind_some, if_pos he, qC q (by omega), Option.bind_some]
   unfold pv
   rw [if_pos he, (nL _).2 r]
   simp only []
   rw [if_pos (by rw [List.length_append]; omega)]
 ·rw [if_neg (by simp [he]), if_neg he, Option.bind_some, if_neg he]
def oy (b : List UInt8) (e : Int) : List UInt8 × Int := if e = 0 then (b, 0) else ([], e)
theorem tc {b : List UInt8} (q : b.length ≤ 140737488355328) (e : Int) : di.f b e = some (oy b e) := by
 unfold di.f oy
 by_cases he : e = 0
 ·rw [if_pos he, if_pos he, sk q]; rfl
 ·rw [if_neg he, if_neg he]
end Go.Proofs.YtndjkejhacfpdaaGreatDoor

namespace Go.Proofs.YtndjkejhacfpdaaGreatDoor
open Go.RowKit
def rg (x l : Int) : Prop := l ≤ x ∧ x ≤ 4611686018427387904
instance (x l : Int) : Decidable (rg x l) := by unfold rg; infer_instance
theorem oq {x l : Int} (h : rg x l) (q : 0 ≤ l) : okN x := ⟨Int.le_trans q h.1, h.2⟩
theorem na (x l : Int) : ck.f x l = some (decide (rg x l)) := by
 have : (decide (l ≤ x) && decide (x ≤ 4611686018427387904)) = decide (rg x l) := by rw [Bool.eq_iff_iff, Bool.and_eq_true, decide_eq_true_iff, decide_eq_true_iff, decide_eq_true_iff]; rfl
 unfold ck.f; rw [this]
/-! ### Checks -/
def jl (t i kd : Int) (d : List UInt8) : Int := if ¬ (rg t 1 ∧ rg i 1) then 1 else if kd ≠ 0 ∧ kd ≠ 1 then 6 else if 4096 < (d.length : Int) then 3 else if kd = 0 ∧ 0 < (d.length : Int) then 4 else 0
def tC (i t : Int) (d : List UInt8) : Prop := (i = 0 ∧ t = 0) ∧ (d.length : Int) = 0
instance (i t : Int) (d : List UInt8) : Decidable (tC i t d) := by unfold tC; infer_instance
theorem cE (t i kd : Int) (d : List UInt8) : bz.f t i kd d = some (jl t i kd d) := by
 unfold bz.f jl
 simp only [na, Option.bind_some]
 by_cases h1 : rg t 1 <;> by_cases h2 : rg i 1 <;> simp [h1, h2]
 by_cases h3 : kd = 0 <;> by_cases h4 : kd = 1 <;> simp [h3, h4] <;> (repeat' split) <;> simp_all <;> omega
end Go.Proofs.YtndjkejhacfpdaaGreatDoor

namespace Go.Proofs.YtndjkejhacfpdaaGreatDoor
open Go.RowKit
theorem vz {x : Int} (h : okN x) (b : List UInt8) : pv b 0 x = (b ++ dF x, 0) := by unfold pv; rw [if_pos rfl, (nL x).2 h]
theorem ud {d : List UInt8} {m : Int} (h : (d.length : Int) ≤ m) (b : List UInt8) : mN b 0 d m = (b ++ dF (d.length : Int) ++ d, 0) := by
 unfold mN; rw [if_pos rfl, if_neg (by omega)]
theorem vd (b : List UInt8) : oy b 0 = (b, 0) := by unfold oy; rw [if_pos rfl]
theorem wI {k : Nat} (q : 10 ≤ k) {b : List UInt8} (r : b.length ≤ 100000000) {x : Int} (h : okN x) : bv.f k b 0 x = some (b ++ dF x, 0) := by
 rw [qC q (by omega), vz h]
theorem wB {k : Nat} (q : 10 ≤ k) {b d : List UInt8} (r : b.length ≤ 100000000) {m : Int} (h : (d.length : Int) ≤ m) (hd : d.length ≤ 100000000) : dp.f k b 0 d m = some (b ++ dF (d.length : Int) ++ d, 0) := by
 rw [sf q (by omega), ud h]
theorem wD {b : List UInt8} (q : b.length ≤ 100000000) : di.f b 0 = some (b, 0) := by rw [tc (by omega), vd]
/-! ### Texts -/
def bB (d : List UInt8) : List UInt8 := dF (d.length : Int) ++ d
theorem oF (d : List UInt8) : (bB d).length ≤ 9 + d.length := by unfold bB; have := cC (d.length : Int); rw [List.length_append]; omega
def txE (t i kd : Int) (d : List UInt8) : List UInt8 := dF t ++ (dF i ++ (dF kd ++ bB d))
theorem gJ {t i kd : Int} {d : List UInt8} (h : jl t i kd d = 0) : rg t 1 ∧ rg i 1 ∧ (kd = 0 ∨ kd = 1) ∧ (d.length : Int) ≤ 4096 ∧ (kd = 0 → d = []) := by
 unfold jl at h
 split at h
 ·omega
 ·split at h
  ·omega
  ·split at h
   ·omega
   ·split at h
    ·omega
    ·rename_i h1 q r u
     have h1 := Classical.not_not.1 h1
     refine ⟨h1.1, h1.2, by omega, by omega, fun e => ?_⟩
     exact List.eq_nil_of_length_eq_zero (by omega)
def sO (c : Int) (t : List UInt8) : List UInt8 × Int := if c = 0 then (t, 0) else ([], c)
theorem vw {k : Nat} (q : 10 ≤ k) (t i kd : Int) (d : List UInt8) : ej.f k t i kd d = some (sO (jl t i kd d) (txE t i kd d)) := by
 unfold ej.f cX.f ew.f sO
 rw [cE, Option.bind_some]
 by_cases h : jl t i kd d = 0
 ·obtain ⟨h1, r, D, u, _⟩ := gJ h
  have G := cC t; have I := cC i; have J := cC kd; have L := cC (d.length : Int)
  rw [if_pos h, if_pos h, show dW.f = some ([], 0) from rfl]
  simp only [Option.bind_some]
  rw [wI q (by simp) (oq h1 (by decide)), Option.bind_some, wI q (by simp; omega) (oq r (by decide)), Option.bind_some, wI q (by simp; omega) (by unfold okN; omega), Option.bind_some, wB q (by simp; omega) u (by omega), Option.bind_some]
  simp only [Option.bind_some]
  rw [wD (by simp; omega)]
  simp [txE, bB]
 ·rw [if_neg h, if_neg h]; rfl
end Go.Proofs.YtndjkejhacfpdaaGreatDoor

namespace Go.Proofs.YtndjkejhacfpdaaGreatDoor
open Go.RowKit
/-! ### What is read of any bytes -/
section
variable {k : Nat} (hk : 12 ≤ k) {b : List UInt8} (hb : b.length ≤ 100000000)
include hk hb
end
/-! ### What is read of a text -/
end Go.Proofs.YtndjkejhacfpdaaGreatDoor

namespace Go.Proofs.YtndjkejhacfpdaaGreatDoor
open Go.RowKit
section
variable {α β : Type} [DecidableEq α]
theorem eH : ∀ (l : List (α × β)) (x : α) (y : β) (z : α), aR (aX l x y) z = if x = z then some y else aR l z
 | [], x, y, z => by simp [aX, aR]
 | p :: l, x, y, z => by
  by_cases h : p.1 = x
  ·by_cases hz : x = z <;> simp [aX, aR, h, hz]
  ·by_cases hz : p.1 = z
   ·have q : x ≠ z := fun e => h (hz.trans e.symm)
    subst hz
    simp [aX, aR, h, q]
   ·simp [aX, aR, h, hz, eH l x y z]
theorem nK : ∀ (l : List (α × β)) (x : α) (y : β), (aX l x y).map (·.1) = if x ∈ l.map (·.1) then l.map (·.1) else l.map (·.1) ++ [x]
 | [], x, y => by simp [aX]
 | p :: l, x, y => by
  by_cases h : p.1 = x
  ·simp [aX, h]
  ·have q := nK l x y
   have r : ¬ x = p.1 := fun e => h e.symm
   by_cases hm : x ∈ l.map (·.1)
   ·rw [if_pos hm] at q; rw [if_pos (by simp only [List.map_cons]; exact List.mem_cons_of_mem _ hm)]; simp [aX, h, q]
   ·rw [if_neg hm] at q; rw [if_neg (by rw [List.map_cons, List.mem_cons]; rintro (e | e); exact r e; exact hm e)]; simp [aX, h, q]
theorem rh {l : List (α × β)} {x : α} {y : β} (h : (l.map (·.1)).Nodup) : ((aX l x y).map (·.1)).Nodup := by
 rw [nK]
 split
 ·exact h
 ·rename_i r
  exact List.nodup_append.2 ⟨h, by simp, fun a u b q => by simp at q; subst q; exact fun e => r (e ▸ u)⟩
theorem mg : ∀ (l : List (α × β)) (x : α) (y : β) (e : α × β), e ∈ aX l x y → e = (x, y) ∨ e ∈ l
 | [], x, y, e, h => by simp [aX] at h; exact .inl h
 | p :: l, x, y, e, h => by
  by_cases hp : p.1 = x
  ·simp only [aX, if_pos hp, List.mem_cons] at h
   rcases h with h | h
   ·exact .inl h
   ·exact .inr (List.mem_cons_of_mem _ h)
  ·simp only [aX, if_neg hp, List.mem_cons] at h
   rcases h with h | h
   ·exact .inr (h ▸ List.mem_cons_self)
   ·rcases mg l x y e h with h | h
    ·exact .inl h
    ·exact .inr (List.mem_cons_of_mem _ h)
theorem gK : ∀ (l : List (α × β)) (x : α) (y : β), (aX l x y).length = if (aR l x).isSome then l.length else l.length + 1
 | [], x, y => by simp [aX, aR]
 | p :: l, x, y => by
  by_cases h : p.1 = x
  ·simp [aX, aR, h]
  ·simp only [aX, aR, if_neg h, List.length_cons, gK l x y]; split <;> rfl
theorem pi : ∀ (l : List (α × β)) (x : α), (dy l x).Sublist l
 | [], x => by simp [dy]
 | p :: l, x => by
  by_cases h : p.1 = x
  ·simp only [dy, if_pos h]; exact List.sublist_cons_self _ _
  ·simp only [dy, if_neg h]; exact (pi l x).cons_cons p
theorem pj : ∀ (l : List (α × β)) (x : α) (y : β), aR l x = some y → (x, y) ∈ l
 | [], x, y, h => by simp [aR] at h
 | p :: l, x, y, h => by
  by_cases hp : p.1 = x
  ·simp only [aR, if_pos hp, Option.some.injEq] at h; subst hp; subst h; exact List.mem_cons_self
  ·simp only [aR, if_neg hp] at h; exact List.mem_cons_of_mem _ (pj l x y h)
theorem kF : ∀ (l : List (α × β)) (x : α), x ∈ l.map (·.1) ↔ (aR l x).isSome = true
 | [], x => by simp [aR]
 | p :: l, x => by
  by_cases hp : p.1 = x
  ·simp [aR, hp]
  ·have q : ¬ x = p.1 := fun e => hp e.symm
   rw [List.map_cons, List.mem_cons, kF l x]; simp [aR, hp, q]
theorem lT : ∀ (l : List (α × β)) (x : α) (y : β), (l.map (·.1)).Nodup → (x, y) ∈ l → aR l x = some y
 | [], x, y, _, h => by simp at h
 | p :: l, x, y, hn, h => by
  rw [List.map_cons, List.nodup_cons] at hn
  rcases List.mem_cons.1 h with h | h
  ·subst h; simp [aR]
  ·have : p.1 ≠ x := fun e => hn.1 (e ▸ List.mem_map_of_mem (f := (·.1)) h)
   simp only [aR, if_neg this]; exact lT l x y hn.2 h
theorem lf : ∀ (l : List (α × β)) (x z : α), (l.map (·.1)).Nodup → aR (dy l x) z = if x = z then none else aR l z
 | [], x, z, _ => by simp [dy, aR]
 | p :: l, x, z, hn => by
  rw [List.map_cons, List.nodup_cons] at hn
  by_cases h : p.1 = x
  ·simp only [dy, if_pos h]
   by_cases hz : x = z
   ·rw [if_pos hz]
    cases hm : aR l z with
    | none => rfl
    | some y => exact absurd (by rw [h, hz]; exact (kF l z).2 (by rw [hm]; rfl)) hn.1
   ·have : ¬ p.1 = z := fun e => hz (h.symm.trans e)
    rw [if_neg hz]; simp only [aR, if_neg this]
  ·simp only [dy, if_neg h]
   by_cases hp : p.1 = z
   ·have : ¬ x = z := fun e => h (hp.trans e.symm)
    rw [if_neg this]; simp only [aR, if_pos hp]
   ·simp only [aR, if_neg hp]; exact lf l x z hn.2
theorem pf : ∀ (l : List (α × β)) (x : α), (aR l x).isSome = true → (dy l x).length + 1 = l.length
 | [], x, h => by simp [aR] at h
 | p :: l, x, h => by
  by_cases hp : p.1 = x
  ·simp [dy, hp]
  ·simp only [aR, if_neg hp] at h
   simp only [dy, if_neg hp, List.length_cons, pf l x h]
end
theorem mK {β : Type} (kvs : List (List UInt8 × β)) : (eA kvs).Perm (kvs.map (·.1)) := List.mergeSort_perm _ _
end Go.Proofs.YtndjkejhacfpdaaGreatDoor

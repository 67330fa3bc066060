/- Texts that lead to the law SnapPlays: G, Pl1, PlWire, PlWire2, PlGen, PlRd, PlWt, PlCd, PlCd2, PlCd3, PlMap, PlDk0. Conditions: as each says. -/
import Derived.Test.YtjkjlggbikeliaaGreatDoorM7
import Derived.Laws.BitsLemmas
import Derived.SizedLaws
namespace Go.Proofs.YtjkjlggbikeliaaGreatDoor
open Go.RowKit Tryz
set_option linter.unusedVariables false
set_option linter.unusedSimpArgs false
set_option maxRecDepth 20000
set_option maxHeartbeats 20000000
def cN.l0 (d : List (ba)) (e : Int) (g : Bool) (h : List UInt8) (b : List Int) : Nat → Int → Option ((Unit) ⊕ (Int × Int × List UInt8 × Int × Int))
  | 0, _ => none
  | k + 1, a => if (0 : Int) ≤ a then (if 0 ≤ a ∧ a < (b.length : Int) then ((cq.f k (b.getD a.toNat (0 : Int))).bind fun j => ((co.f k d e g h j).bind fun l => ((gB.f k l.1).bind fun i => (if i.2 = (0 : Int) then ((fh.f k i.1).bind fun c => ((if c.2.2.2 = (0 : Int) then (if 0 ≤ a ∧ a < (b.length : Int) then (some (decide (c.1 = (b.getD a.toNat (0 : Int))))) else none) else (some false)).bind fun m => (if m = true then (some (.inr (c.1, c.2.1, c.2.2.1, IntKind.i64.wrap ((IntKind.i64.wrap ((b.length : Int) - 1)) - a), 0))) else (cN.l0 d e g h b k (IntKind.i64.wrap (a - 1)))))) else (cN.l0 d e g h b k (IntKind.i64.wrap (a - 1))))))) else none) else (some (.inl ()))
def cN.f (k : Nat) (a : List (ba)) (b : Int) (c : Bool) (d : List UInt8) : Option (Int × Int × List UInt8 × Int × Int) := (cb.f k a b c d).bind fun e => (orR (cN.l0 a b c d e k (IntKind.i64.wrap ((e.length : Int) - 1))) fun g => (some (0, 0, ([] : List UInt8), 0, 8)))
theorem cN.calls (W : World) (F : HA) (k : Nat) (b0 : Nat) (q : Option Addr) (g : Nat) (e : List (ba)) (h : Int) (l : Bool) (m : List UInt8) (a2 : RdV F 3 (V71 F) q e) (af : e.length ≤ g) (al : g ≤ maxLen) :
    Fn Tryz.prog W 21 [.pointer (some ⟨b0, 0, none⟩)] [obj b0 49 [.slice q e.length g, .int .i64 h, .bool l, str m]] F (cN.f k e h l m) (fun (r : Int × Int × List UInt8 × Int × Int) (y : Option Addr × Nat) => .tuple #[.agg #[.int .i64 r.1, .int .i64 r.2.1, .slice y.1 r.2.2.1.length y.2], .int .i64 r.2.2.2.1, .int .i64 r.2.2.2.2]) (fun r y => [Row 5 1 y.1 r.2.2.1.length y.2 (ao r.2.2.1), obj b0 49 [.slice q e.length g, .int .i64 h, .bool l, str m]]) := by
 unfold cN.f
 refine aJ 62 Tryz.func21 O Tryz.ntmps21 O ?_
 refine sr ?_
 refine ah (df O zeroValue27 O) O O O ?_
 intro t
 refine va O O ?_
 refine va O O (nx ?_)
 refine vm O O ?_
 refine am (fun d b7 => ?_)
 refine ah (ar (vs := [.pointer (some ⟨b0, 0, none⟩)]) (cap := []) (A := [obj b0 49 [.slice q e.length g, .int .i64 h, .bool l, str m]]) (rst := [obj t 27 [.int .i64 0, .int .i64 0, .slice none 0 0], F]) O O O O O O call22 (.sel 1 O (.sel 0 O (.sel 0 O (.nil _)))) (cb.calls _ _ k b0 q g e h l m (a2.up (Up.lend 1 O) (V71.up (Up.lend 1 O))) af al) b7) O O O ?_
 intro c
 refine va O O (ag (ae ?_))
 refine fx (S := Unit) (Unit) (fun s y => [(2, .pointer (some ⟨t, 0, none⟩))]) (fun s y => [obj b0 49 [.slice q e.length g, .int .i64 h, .bool l, str m], obj t 27 [.int .i64 0, .int .i64 0, .slice none 0 0], F]) ?_ ?_
 refine sr ?_
 refine vm O O ?_
 refine vq (bi O O O underlying23) O ?_
 refine vq (ft O O O) O ?_
 refine va O O (ag (ae ?_))
 refine aK ?_
 refine bX (S := Int) (Unit) (fun k s => cN.l0 e h l m d k s) (fun s y => [(0, .pointer (some ⟨b0, 0, none⟩)), (2, .pointer (some ⟨t, 0, none⟩)), (5, .slice c.1 d.length c.2), (6, .int .i64 s)]) (fun s y => [obj b0 49 [.slice q e.length g, .int .i64 h, .bool l, str m], obj t 27 [.int .i64 0, .int .i64 0, .slice none 0 0], aC 3 1 (V3 tt) c.1 d c.2, F]) (fun _ => by rw [cN.l0]) ?_ k (IntKind.i64.wrap ((d.length : Int) - 1)) () ⟨O, O, O, O, trivial⟩ (.sel 1 O (.sel 1 O (.sel 0 O (.sel 0 O (.nil _)))))
 intro k p d3
 refine cL (by rw [cN.l0]) ?_
 refine ap (sr ?_)
 refine vm O O ?_
 refine vq (gP O O O) O (ag (ae ?_))
 refine aL O (fun c0 => ?_) (fun c1 => ?_)
 refine au ?_
 refine ae (ap ?_)
 refine aK ?_
 refine sr ?_
 refine vm O O ?_
 refine vm O O ?_
 refine vm O O ?_
 refine bd 2 O (fun ab ad => ?_)
 refine aQ (fun an => ?_)
 refine dP 2 O ad O (i := p.toNat) (by omega) (0 : Int) (fun c2 cd c3 a5 a6 b8 hcell19v => ?_)
 obtain rfl := a6
 refine vq (ct O O O a5 underlying23 sizeOf3 an.1 an.2) O ?_
 refine vq (ai O O isAgg3 (hcell19v 2 O 0 _ O)) O ?_
 refine am (fun a3 a7 => ?_)
 refine ah (ar (vs := [.int .i64 (d.getD p.toNat (0 : Int))]) (cap := []) (A := []) (rst := [obj b0 49 [.slice q e.length g, .int .i64 h, .bool l, str m], obj t 27 [.int .i64 0, .int .i64 0, .slice none 0 0], Row 3 1 c.1 d.length c.2 ab.flatten, F]) O O O O O O call26 (.sel 0 O (.sel 0 O (.sel 0 O (.sel 0 O (.nil _))))) (cq.calls _ _ k (d.getD p.toNat (0 : Int)) ) a7) O O O ?_
 intro c4
 refine am (fun w a8 => ?_)
 refine ah (ar (vs := [.pointer (some ⟨b0, 0, none⟩), str a3]) (cap := []) (A := [obj b0 49 [.slice q e.length g, .int .i64 h, .bool l, str m]]) (rst := [obj t 27 [.int .i64 0, .int .i64 0, .slice none 0 0], Row 3 1 c.1 d.length c.2 ab.flatten, F]) O O O O O O call56 (.sel 0 O (.sel 0 O (.sel 0 O (.sel 0 O (.nil _))))) (co.calls _ _ k b0 q g e h l m a3 (a2.up (Up.lend 2 O) (V71.up (Up.lend 2 O))) af al) a8) O O O ?_
 intro u
 refine vm O O ?_
 refine vq (bh O O O) O ?_
 refine vq (bh O O O) O ?_
 refine va O O ?_
 refine va O O (nx ?_)
 refine vm O O ?_
 refine am (fun z a9 => ?_)
 refine bf 0 O (fun bc be bs ch => ?_)
 refine ah (ar (vs := [.slice u.1 w.1.length u.2]) (cap := []) (A := []) (rst := [Row 5 1 u.1 w.1.length u.2 (ao w.1), obj b0 49 [.slice q e.length g, .int .i64 h, .bool l, str m], obj t 27 [.int .i64 0, .int .i64 0, .slice none 0 0], Row 3 1 c.1 d.length c.2 ab.flatten, F]) O O O O O O call57 (.sel 0 O (.sel 0 O (.sel 0 O (.sel 0 O (.sel 0 O (.nil _)))))) (gB.calls _ _ k u.1 u.2 w.1 (bc.lend 0 O) be bs) a9) O O O ?_
 intro x
 refine vm O O ?_
 refine vq (bh O O O) O ?_
 refine vq (bh O O O) O ?_
 refine va O O ?_
 refine va O O (ag (ae (ap (sr ?_))))
 refine vm O O ?_
 refine vq (cz O O O) O (ag (ae ?_))
 refine br O (fun c5 => ?_) (fun c6 => ?_)
 refine au ?_
 refine ae (sr ?_)
 refine vm O O ?_
 refine am (fun a b1 => ?_)
 refine bf 0 O (fun b2 b3 b4 cs => ?_)
 refine ah (ar (vs := [.slice x.1 z.1.length x.2]) (cap := []) (A := []) (rst := [Row 5 1 x.1 z.1.length x.2 (ao z.1), Row 5 1 u.1 w.1.length u.2 (ao w.1), obj b0 49 [.slice q e.length g, .int .i64 h, .bool l, str m], obj t 27 [.int .i64 0, .int .i64 0, .slice none 0 0], Row 3 1 c.1 d.length c.2 ab.flatten, F]) O O O O O O call58 (.sel 0 O (.sel 0 O (.sel 0 O (.sel 0 O (.sel 0 O (.sel 0 O (.nil _))))))) (fh.calls _ _ k x.1 x.2 z.1 (b2.lend 0 O) b3 b4) b1) O O O ?_
 intro n
 refine vm O O ?_
 refine vq (bh O O O) O ?_
 refine vq (bh O O O) O ?_
 refine ah (df O zeroValue27 O) O O O ?_
 intro aa
 refine aX (aV 0 O O O sizeOf27 O O (aY (by rfl)) O O) O O ?_
 intro _
 refine va O O (ag (ae ?_))
 refine bO (S := Bool) (Unit) (fun s y => [(0, .pointer (some ⟨b0, 0, none⟩)), (2, .pointer (some ⟨t, 0, none⟩)), (5, .slice c.1 d.length c.2), (6, .int .i64 p), (11, .pointer (some ⟨aa, 0, none⟩)), (54, .bool s)]) (fun s y => [obj aa 27 [.int .i64 a.1, .int .i64 a.2.1, .slice n.1 a.2.2.1.length n.2], obj b0 49 [.slice q e.length g, .int .i64 h, .bool l, str m], obj t 27 [.int .i64 0, .int .i64 0, .slice none 0 0], aC 3 1 (V3 tt) c.1 d c.2, Row 5 1 n.1 a.2.2.1.length n.2 (ao a.2.2.1), F]) ?_ ?_
 refine iq (fun b => ?_) (fun b => ?_)
 refine bv (fun a0 => ?_)
 refine fA 6 O ad O (i := p.toNat) (by omega) (0 : Int) (fun a4 a1 c7 b5 b6 b9 hcell55v => ?_)
 obtain rfl := b6
 refine bp (Γ := Unit) () [[], [0], [0, 1], [0, 1, 2], rL 4, [0, 1, 2], [0, 1, 2], [0, 1, 2, 5, 6], [0, 1, 2, 5, 6, 7], rL 9, rL 10] [] [0, 1, 2, 3, 4, 5, 6, 7, 8, 9, 10] (fun i => [[0], [0], [0], [0], [0], [0], [0], [0], [0], [0], [0]].getD i []) (fun i => [[], [], [], [], [], [], [], [], [], [], []].getD i []) (fun γ i => [.int .i64 a.2.2.2, .bool (decide (a.2.2.2 = (0 : Int))), .bool (decide (a.2.2.2 = (0 : Int))), .pointer (some ⟨aa, 0, none⟩), .int .i64 a.1, .slice c.1 d.length c.2, .int .i64 p, .pointer (some ⟨a4, a1 + p.toNat * 1, none⟩), .int .i64 (d.getD p.toNat (0 : Int)), .bool (decide (a.1 = (d.getD p.toNat (0 : Int)))), .bool (decide (a.1 = (d.getD p.toNat (0 : Int))))].getD i undef) (fun j γ => [[obj aa 27 [.int .i64 a.1, .int .i64 a.2.1, .slice n.1 a.2.2.1.length n.2], Row 5 1 n.1 a.2.2.1.length n.2 (ao a.2.2.1), Row 5 1 x.1 z.1.length x.2 (ao z.1), Row 5 1 u.1 w.1.length u.2 (ao w.1), obj b0 49 [.slice q e.length g, .int .i64 h, .bool l, str m], obj t 27 [.int .i64 0, .int .i64 0, .slice none 0 0], Row 3 1 c.1 d.length c.2 ab.flatten, F]].getD j []) (fun γ => [(0, .pointer (some ⟨b0, 0, none⟩)), (2, .pointer (some ⟨t, 0, none⟩)), (5, .slice c.1 d.length c.2), (6, .int .i64 p), (11, .pointer (some ⟨aa, 0, none⟩)), (47, .pointer (some ⟨aa, 0, none⟩)), (48, .int .i64 a.1), (49, .slice c.1 d.length c.2), (50, .int .i64 p), (51, .pointer (some ⟨a4, a1 + p.toNat * 1, none⟩)), (52, .int .i64 (d.getD p.toNat (0 : Int))), (53, .bool (decide (a.1 = (d.getD p.toNat (0 : Int))))), (54, .bool (decide (a.1 = (d.getD p.toNat (0 : Int)))))]) mixed (by decide) (by decide) (by decide) (by decide) (by decide) (by decide) (by decide) 62 O (by decide) (by decide) (by decide) (Ent.refl _) ?_ ?_ (fun _ => ⟨O, O, O, O, O, O, O, O, O, O, O, O, O, trivial⟩) ?_
 exact (aq O (fun γ => qm O (.o (s := 12) O (by decide) .nil) O) (aq O (fun γ => qp O O (.v 0 O O .nil) (bD O O O) O) (aq O (fun γ => qm O (.v 1 O O .nil) O) (aq O (fun γ => qy O O (.o (s := 11) O (by decide) (.v 2 O O .nil)) O O (dH (decide_eq_true b)) (aw O O underlying27 O O sizeOf3 O) O) (aq O (fun γ => qy O O (.v 2 O O (.v 3 O O .nil)) O O (dH (decide_eq_true b)) (ai O O isAgg3 (.obj 0 O O)) O) (aq O (fun γ => qy O O (.o (s := 5) O (by decide) (.v 2 O O .nil)) O O (dH (decide_eq_true b)) (aS O O) O) (aq O (fun γ => qy O O (.o (s := 6) O (by decide) (.v 2 O O .nil)) O O (dH (decide_eq_true b)) (aS O O) O) (aq O (fun γ => qy O O (.v 2 O O (.v 5 O O (.v 6 O O .nil))) O O (dH (decide_eq_true b)) (ct O O O b5 underlying23 sizeOf3 a0.1 a0.2) O) (aq O (fun γ => qy O O (.v 2 O O (.v 7 O O .nil)) O O (dH (decide_eq_true b)) (ai O O isAgg3 (hcell55v 6 O 0 _ O)) O) (aq O (fun γ => qy O O (.v 2 O O (.v 4 O O (.v 8 O O .nil))) O O (dH (decide_eq_true b)) (bD O O O) O) (aq O (fun γ => qp O O (.v 2 O O (.v 9 O O .nil)) (bL O O O O (lM (decide_eq_true b) _ _)) O) zA)))))))))))
 exact zA
 intro c8
 exact aM (s := decide (a.1 = (d.getD p.toNat (0 : Int)))) () ⟨O, O, O, O, O, O, trivial⟩ (.sel 0 O (.sel 3 O (.sel 3 O (.sel' 3 O (aC.mk ad) (.sel 0 O (.sel 2 O (.nil _)))))))
 refine bp (Γ := Unit) () [[], [0], [0, 1], [0, 1, 2], rL 4, [0, 1, 2], [0, 1, 2], [0, 1, 2, 5, 6], [0, 1, 2, 5, 6, 7], rL 9, rL 10] [] [0, 1, 2, 3, 4, 5, 6, 7, 8, 9, 10] (fun i => [[0], [0], [0], [0], [0], [0], [0], [0], [0], [0], [0]].getD i []) (fun i => [[], [], [], [], [], [], [], [], [], [], []].getD i []) (fun γ i => [.int .i64 a.2.2.2, .bool (decide (a.2.2.2 = (0 : Int))), .bool (decide (a.2.2.2 = (0 : Int))), undef, undef, undef, undef, undef, undef, undef, .bool false].getD i undef) (fun j γ => [[obj aa 27 [.int .i64 a.1, .int .i64 a.2.1, .slice n.1 a.2.2.1.length n.2], Row 5 1 n.1 a.2.2.1.length n.2 (ao a.2.2.1), Row 5 1 x.1 z.1.length x.2 (ao z.1), Row 5 1 u.1 w.1.length u.2 (ao w.1), obj b0 49 [.slice q e.length g, .int .i64 h, .bool l, str m], obj t 27 [.int .i64 0, .int .i64 0, .slice none 0 0], Row 3 1 c.1 d.length c.2 ab.flatten, F]].getD j []) (fun γ => [(0, .pointer (some ⟨b0, 0, none⟩)), (2, .pointer (some ⟨t, 0, none⟩)), (5, .slice c.1 d.length c.2), (6, .int .i64 p), (11, .pointer (some ⟨aa, 0, none⟩)), (47, undef), (48, undef), (49, undef), (50, undef), (51, undef), (52, undef), (53, undef), (54, .bool false)]) mixed (by decide) (by decide) (by decide) (by decide) (by decide) (by decide) (by decide) 62 O (by decide) (by decide) (by decide) (Ent.refl _) ?_ ?_ (fun _ => ⟨O, O, O, O, O, O, O, O, O, O, O, O, O, trivial⟩) ?_
 exact (aq O (fun γ => qm O (.o (s := 12) O (by decide) .nil) O) (aq O (fun γ => qp O O (.v 0 O O .nil) (bD O O O) O) (aq O (fun γ => qm O (.v 1 O O .nil) O) (aq O (fun γ => qn O O (.o (s := 11) O (by decide) (.v 2 O O .nil)) O O (dI (decide_eq_false b)) O) (aq O (fun γ => qn O O (.v 2 O O (.v 3 O O .nil)) O O (dI (decide_eq_false b)) O) (aq O (fun γ => qn O O (.o (s := 5) O (by decide) (.v 2 O O .nil)) O O (dI (decide_eq_false b)) O) (aq O (fun γ => qn O O (.o (s := 6) O (by decide) (.v 2 O O .nil)) O O (dI (decide_eq_false b)) O) (aq O (fun γ => qn O O (.v 2 O O (.v 5 O O (.v 6 O O .nil))) O O (dI (decide_eq_false b)) O) (aq O (fun γ => qn O O (.v 2 O O (.v 7 O O .nil)) O O (dI (decide_eq_false b)) O) (aq O (fun γ => qn O O (.v 2 O O (.v 4 O O (.v 8 O O .nil))) O O (dI (decide_eq_false b)) O) (aq O (fun γ => qp O O (.v 2 O O (.v 9 O O .nil)) (bL O O O O (lN (decide_eq_false b) _ _)) O) zA)))))))))))
 exact zA
 intro c9
 exact aM (s := false) () ⟨O, O, O, O, O, O, trivial⟩ (.sel 0 O (.sel 3 O (.sel 3 O (.sel' 3 O (aC.mk ad) (.sel 0 O (.sel 2 O (.nil _)))))))
 intro dl ds
 refine aT O (fun d1 => ?_) (fun d2 => ?_)
 refine sr ?_
 refine vq (du 0 O O isAgg27 sizeOf27 O O) O ?_
 refine vm O O ?_
 refine vq (bi O O O underlying23) O ?_
 refine vq (ft O O O) O ?_
 refine vm O O ?_
 refine vq (ft O O O) O ?_
 refine aX (aV 2 O O O sizeOf27 O O (aY (by rfl)) O O) O O ?_
 intro _
 refine va O O ?_
 refine va O O (ag (ae (ak ?_)))
 refine aP ?_
 refine ax ?_
 refine eS ?_
 refine aP ?_
 refine eG ?_
 exact gi (vs := [.agg #[.int .i64 a.1, .int .i64 a.2.1, .slice n.1 a.2.2.1.length n.2], .int .i64 (IntKind.i64.wrap ((IntKind.i64.wrap ((d.length : Int) - 1)) - p)), .int .i64 0]) (n.1, n.2) O ⟨⟨t, O, fy 2 isAgg27 sizeOf27 O O⟩, O, O, trivial⟩ O (.sel 4 O (.sel 1 O (.sel 3 O (.nil _))))
 refine au ?_
 refine bb (ae (aE ?_))
 refine vm O O ?_
 refine vq (ft O O O) O ?_
 refine va O O (ag ?_)
 exact bu (s := IntKind.i64.wrap (p - 1)) () ⟨O, O, O, O, trivial⟩ (.sel 1 O (.sel 1 O (.sel 1 O (.sel 2 O (.nil _)))))
 refine ck ?_
 refine bQ ?_
 refine bR ?_
 refine ae (aE ?_)
 refine vm O O ?_
 refine vq (ft O O O) O ?_
 refine va O O (ag ?_)
 exact bu (s := IntKind.i64.wrap (p - 1)) () ⟨O, O, O, O, trivial⟩ (.sel 2 O (.sel 2 O (.sel' 2 O (aC.mk ad) (.sel 2 O (.nil _)))))
 refine ck ?_
 refine bQ ?_
 refine bY ?_
 refine bR ?_
 exact fg (s := ()) () ⟨O, trivial⟩ (.sel 0 O (.sel 0 O (.sel 1 O (.nil _))))
 intro d4 d5
 refine sr ?_
 refine vq (eb (v := .agg #[.int .i64 0, .int .i64 0, .slice none 0 0]) O O (fun _ => by kernel_rfl)) O ?_
 refine aX (aV 1 O O O sizeOf27 O O (aY (by rfl)) O O) O O ?_
 intro _
 refine va O O ?_
 refine va O O (ag (ae (ak ?_)))
 exact gi (vs := [.agg #[.int .i64 0, .int .i64 0, .slice none 0 0], .int .i64 0, .int .i64 8]) (none, 0) O ⟨⟨t, O, fy 1 isAgg27 sizeOf27 O O⟩, O, O, trivial⟩ O (.row_nil (.sel 0 O (.sel 1 O (.nil _))))

def eD.f (k : Nat) (a : Int) (b : Int) (c : List UInt8) (d : Int) (e : Int) (g : List UInt8) : Option (Bool) := (bn.f k c g).bind fun h => (some ((h && (decide (a = d))) && (decide (b = e))))
theorem eD.calls (W : World) (F : HA) (k : Nat) (a : Int) (m : Int) (j : Option Addr) (h : Nat) (e : List UInt8) (c : Int) (n : Int) (l : Option Addr) (i : Nat) (g : List UInt8) (aa : Rd F j (ao e)) (t : e.length ≤ h) (u : h ≤ maxLen) (ab : Rd F l (ao g)) (v : g.length ≤ i) (w : i ≤ maxLen) :
    Fn Tryz.prog W 18 [.agg #[.int .i64 a, .int .i64 m, .slice j e.length h], .agg #[.int .i64 c, .int .i64 n, .slice l g.length i]] [] F (eD.f k a m e c n g) (fun (r : Bool) (y : Unit) => .bool r) (fun r y => []) := by
 unfold eD.f
 refine aJ 26 Tryz.func18 O Tryz.ntmps18 O ?_
 refine sr ?_
 refine ah (dL O O O) O O O ?_
 intro o
 refine ah (dL O O O) O O O ?_
 intro p
 refine va O O (nx ?_)
 refine vq (aw O O underlying27 O O sizeOf25 O) O ?_
 refine vq (ai O O isAgg25 (.obj 1 O O)) O ?_
 refine vq (aw O O underlying27 O O sizeOf25 O) O ?_
 refine vq (ai O O isAgg25 (.obj 0 O O)) O ?_
 refine am (fun d ad => ?_)
 refine ah (ar (vs := [.slice j e.length h, .slice l g.length i]) (cap := []) (A := []) (rst := [obj p 27 [.int .i64 c, .int .i64 n, .slice l g.length i], obj o 27 [.int .i64 a, .int .i64 m, .slice j e.length h], F]) O O O O O O call33 (.sel 0 O (.sel 0 O (.sel 0 O (.nil _)))) (bn.calls _ _ k j h e l i g (aa.lend 2 O) t u (ab.lend 2 O) v w) ad) O O O ?_
 intro a3
 refine va O O (nx ?_)
 refine vm O O ?_
 refine vm O O ?_
 refine az (b := d) (fun an => RQ.sub (E' := [(2, .pointer (some ⟨o, 0, none⟩))]) ⟨O, trivial⟩ (aw O O underlying27 O O sizeOf3 O)) O O O O O ?_
 refine az (b := d) (fun x => RQ.sub (E' := [(13, .pointer (some ⟨o, 0, none⟩))]) ⟨aZ O x, trivial⟩ (ai O O isAgg3 (.obj 1 O O))) O O O O O ?_
 refine az (b := d) (fun a0 => RQ.sub (E' := [(3, .pointer (some ⟨p, 0, none⟩))]) ⟨O, trivial⟩ (aw O O underlying27 O O sizeOf3 O)) O O O O O ?_
 refine az (b := d) (fun z => RQ.sub (E' := [(15, .pointer (some ⟨p, 0, none⟩))]) ⟨aZ O z, trivial⟩ (ai O O isAgg3 (.obj 0 O O))) O O O O O ?_
 refine az (b := d) (fun q => RQ.sub (E' := [(14, .int .i64 a), (16, .int .i64 c)]) ⟨aZ O q, aZ O q, trivial⟩ (bD O O O)) O O O O O ?_
 refine vq (dQ O O O) O ?_
 refine vm O O ?_
 refine az (b := d && (decide (a = c))) (fun a1 => RQ.sub (E' := [(2, .pointer (some ⟨o, 0, none⟩))]) ⟨O, trivial⟩ (aw O O underlying27 O O sizeOf3 O)) O O O O O ?_
 refine az (b := d && (decide (a = c))) (fun af => RQ.sub (E' := [(20, .pointer (some ⟨o, 1, none⟩))]) ⟨aZ O af, trivial⟩ (ai O O isAgg3 (.obj 1 O O))) O O O O O ?_
 refine az (b := d && (decide (a = c))) (fun a2 => RQ.sub (E' := [(3, .pointer (some ⟨p, 0, none⟩))]) ⟨O, trivial⟩ (aw O O underlying27 O O sizeOf3 O)) O O O O O ?_
 refine az (b := d && (decide (a = c))) (fun al => RQ.sub (E' := [(22, .pointer (some ⟨p, 1, none⟩))]) ⟨aZ O al, trivial⟩ (ai O O isAgg3 (.obj 0 O O))) O O O O O ?_
 refine az (b := d && (decide (a = c))) (fun s => RQ.sub (E' := [(21, .int .i64 m), (23, .int .i64 n)]) ⟨aZ O s, aZ O s, trivial⟩ (bD O O O)) O O O O O ?_
 refine vq (dQ O O O) O ?_
 refine va O O (ag (ae (ak ?_)))
 exact av () O O O (.sel 2 O (.nil _))

def cw.l0 (x0 : List Int) (x1 : List Int) : Nat → Int → Option ((Unit) ⊕ (Bool))
  | 0, _ => none
  | k + 1, a => if a < (x0.length : Int) then (if 0 ≤ a ∧ a < (x0.length : Int) then (if 0 ≤ a ∧ a < (x1.length : Int) then (if (x0.getD a.toNat (0 : Int)) = (x1.getD a.toNat (0 : Int)) then (cw.l0 x0 x1 k (IntKind.i64.wrap (a + 1))) else (some (.inr false))) else none) else none) else (some (.inl ()))
def cw.f (k : Nat) (x0 : List Int) (x1 : List Int) : Option (Bool) := if (x0.length : Int) = (x1.length : Int) then (orR (cw.l0 x0 x1 k 0) fun a => (some true)) else (some false)
theorem cw.calls (W : World) (F : HA) (k : Nat) (a0 : Option Addr) (c0 : Nat) (x0 : List Int) (a1 : Option Addr) (c1 : Nat) (x1 : List Int) (h0 : RdV F 1 (V3 tt) a0 x0) (ab : x0.length ≤ c0) (ad : c0 ≤ maxLen) (h1 : RdV F 1 (V3 tt) a1 x1) (af : x1.length ≤ c1) (al : c1 ≤ maxLen) :
    Fn Tryz.prog W 17 [.slice a0 x0.length c0, .slice a1 x1.length c1] [] F (cw.f k x0 x1) (fun (r : Bool) (y : Unit) => .bool r) (fun r y => []) := by
 unfold cw.f
 refine aJ 26 Tryz.func17 O Tryz.ntmps17 O ?_
 refine sr ?_
 refine va O O (ag (ae (ap (sr ?_))))
 refine vm O O ?_
 refine vq (bi O O O underlying23) O ?_
 refine vm O O ?_
 refine vq (bi O O O underlying23) O ?_
 refine vq (cz O O O) O (ag (ae ?_))
 refine br O (fun an => ?_) (fun a2 => ?_)
 refine au ?_
 refine ae ?_
 refine fx (S := Unit) (Unit) (fun s y => []) (fun s y => [F]) ?_ ?_
 refine sr ?_
 refine va O O (ag (ae ?_))
 refine aK ?_
 refine bX (S := Int) (Unit) (fun k s => cw.l0 x0 x1 k s) (fun s y => [(0, .slice a0 x0.length c0), (1, .slice a1 x1.length c1), (5, .int .i64 s)]) (fun s y => [F]) (fun _ => by rw [cw.l0]) ?_ k 0 () ⟨O, O, O, trivial⟩ (.sel 0 O (.nil _))
 intro k a a3
 refine cL (by rw [cw.l0]) ?_
 refine ap (sr ?_)
 refine vm O O ?_
 refine vm O O ?_
 refine vq (bi O O O underlying23) O ?_
 refine vq (bN O O O) O (ag (ae ?_))
 refine aL O (fun a4 => ?_) (fun a5 => ?_)
 refine au ?_
 refine ae (ap ?_)
 refine aK ?_
 refine ap ?_
 refine bv (fun b => ?_)
 obtain ⟨n, d, u, e, g, q, hcell17v⟩ := RdV.pos h0 (Up.refl _) rfl (i := a.toNat) (by omega) (0 : Int)
 obtain rfl := g
 refine bv (fun c => ?_)
 obtain ⟨p, h, w, l, m, t, hcell25v⟩ := RdV.pos h1 (Up.refl _) rfl (i := a.toNat) (by omega) (0 : Int)
 obtain rfl := m
 refine bp (Γ := Unit) () [[], [], [0, 1], [0, 1, 2], [], [], [4, 5], [4, 5, 6], rL 8] [] [0, 1, 2, 3, 4, 5, 6, 7, 8] (fun i => [[0], [0], [0], [0], [0], [0], [0], [0], [0]].getD i []) (fun i => [[], [], [], [], [], [], [], [], []].getD i []) (fun γ i => [.slice a0 x0.length c0, .int .i64 a, .pointer (some ⟨n, d + a.toNat * 1, none⟩), .int .i64 (x0.getD a.toNat (0 : Int)), .slice a1 x1.length c1, .int .i64 a, .pointer (some ⟨p, h + a.toNat * 1, none⟩), .int .i64 (x1.getD a.toNat (0 : Int)), .bool (!decide ((x0.getD a.toNat (0 : Int)) = (x1.getD a.toNat (0 : Int))))].getD i undef) (fun j γ => [[F]].getD j []) (fun γ => [(0, .slice a0 x0.length c0), (1, .slice a1 x1.length c1), (5, .int .i64 a), (25, .bool (!decide ((x0.getD a.toNat (0 : Int)) = (x1.getD a.toNat (0 : Int)))))]) mixed (by decide) (by decide) (by decide) (by decide) (by decide) (by decide) (by decide) 26 O (by decide) (by decide) (by decide) (Ent.refl _) ?_ ?_ (fun _ => ⟨O, O, O, O, trivial⟩) ?_
 exact (aq O (fun γ => qm O (.o (s := 0) O (by decide) .nil) O) (aq O (fun γ => qm O (.o (s := 5) O (by decide) .nil) O) (aq O (fun γ => qp O O (.v 0 O O (.v 1 O O .nil)) (ct O O O e underlying23 sizeOf3 b.1 b.2) O) (aq O (fun γ => qp O O (.v 2 O O .nil) (ai O O isAgg3 (hcell17v 0 O 0 _ O)) O) (aq O (fun γ => qm O (.o (s := 1) O (by decide) .nil) O) (aq O (fun γ => qm O (.o (s := 5) O (by decide) .nil) O) (aq O (fun γ => qp O O (.v 4 O O (.v 5 O O .nil)) (ct O O O l underlying23 sizeOf3 c.1 c.2) O) (aq O (fun γ => qp O O (.v 6 O O .nil) (ai O O isAgg3 (hcell25v 0 O 0 _ O)) O) (aq O (fun γ => qp O O (.v 3 O O (.v 7 O O .nil)) (cz O O O) O) zA)))))))))
 exact zA
 intro x
 refine ae ?_
 refine br O (fun z => ?_) (fun aa => ?_)
 refine au ?_
 refine bb (ae (aE ?_))
 refine vm O O ?_
 refine vq (bj O O O) O ?_
 refine va O O (ag ?_)
 exact bu (s := IntKind.i64.wrap (a + 1)) () ⟨O, O, O, trivial⟩ (.sel 0 O (.nil _))
 refine sr ?_
 refine va O O (ag (ae (ak ?_)))
 refine aP ?_
 refine ax ?_
 refine eS ?_
 refine aP ?_
 refine eG ?_
 exact av () O O O (.sel 0 O (.nil _))
 refine ck ?_
 refine bQ ?_
 refine bY ?_
 refine bR ?_
 exact fg (s := ()) () trivial (.sel 0 O (.nil _))
 intro a6 a7
 refine sr ?_
 refine va O O (ag (ae (ak ?_)))
 exact av () O O O (.sel 0 O (.nil _))
 refine sr ?_
 refine va O O (ag (ae (ak ?_)))
 refine ax ?_
 exact av () O O O (.sel 0 O (.nil _))

def cp.l0 (c : List ((List UInt8) × (List UInt8 × Int))) (b : List (List UInt8)) : Nat → List (ba) → Int → Option ((List (ba)))
  | 0, _, _ => none
  | k + 1, d, a => if a < (b.length : Int) then (if 0 ≤ a ∧ a < (b.length : Int) then (if (ay c (b.getD a.toNat ([] : List UInt8))).isSome = true then ((gN.f (((ay c (b.getD a.toNat ([] : List UInt8))).getD (([] : List UInt8), (0 : Int))).1)).bind fun e => (if (d.length + ([((b.getD a.toNat ([] : List UInt8)), e, ((ay c (b.getD a.toNat ([] : List UInt8))).getD (([] : List UInt8), (0 : Int))).2)] : List (ba)).length) * 48 ≤ 140737488355328 then (cp.l0 c b k (d ++ ([((b.getD a.toNat ([] : List UInt8)), e, ((ay c (b.getD a.toNat ([] : List UInt8))).getD (([] : List UInt8), (0 : Int))).2)] : List (ba))) (IntKind.i64.wrap (a + 1))) else none)) else (none)) else none) else (some d)
def cp.f (k : Nat) (a : List ((List UInt8) × (List UInt8 × Int))) (b : List UInt8) (c : Int) (d : Bool) : Option ((List (ba))) := ((dT.f a b c d).bind fun e => (cp.l0 a e k ([] : List (ba)) 0)).bind fun g => (some g)
theorem cp.calls (W : World) (F : HA) (k : Nat) (b0 : Nat) (h : Nat) (e : Kps) (c : List ((List UInt8) × (List UInt8 × Int))) (t : List UInt8) (u : Int) (w : Bool)  :
    Fn Tryz.prog W 32 [.pointer (some ⟨b0, 0, none⟩)] [obj b0 76 [.map (some h), str t, .int .i64 u, .bool w], aF (aB h aD aA e) aG e c] F (cp.f k c t u w) (fun (r : (List (ba))) (y : Option Addr × Nat × HA) => .slice y.1 r.length y.2.1) (fun r y => [aC 71 3 (gL (y.2.2)) y.1 r y.2.1, y.2.2, obj b0 76 [.map (some h), str t, .int .i64 u, .bool w], aF (aB h aD aA e) aG e c]) := by
 unfold cp.f
 refine aJ 36 Tryz.func32 O Tryz.ntmps32 O ?_
 refine sr ?_
 refine va O O (nx ?_)
 refine va O O (ag (ae ?_))
 refine bO (S := (List (ba))) (HA × Option Addr × Nat) (fun s y => [(3, .slice y.2.1 s.length y.2.2)]) (fun s y => [obj b0 76 [.map (some h), str t, .int .i64 u, .bool w], aC 71 3 (gL (y.1)) y.2.1 s y.2.2, aF (aB h aD aA e) aG e c, y.1, F]) ?_ ?_
 refine sr ?_
 refine vm O O ?_
 refine am (fun b b2 => ?_)
 refine ah (ar (vs := [.pointer (some ⟨b0, 0, none⟩)]) (cap := []) (A := [obj b0 76 [.map (some h), str t, .int .i64 u, .bool w], aF (aB h aD aA e) aG e c]) (rst := [F]) O O O O O O call46 (.sel 0 O (.sel 0 O (.sel 0 O (.nil _)))) (dT.calls _ _ b0 h e c t u w ) b2) O O O ?_
 intro q
 refine vq (bi O O O underlying90) O ?_
 refine vm O O (ag (ae ?_))
 refine aK ?_
 refine bX (S := (List (ba)) × Int) (HA × Option Addr × Nat) (fun k s => cp.l0 c b k s.1 s.2) (fun s y => [(0, .pointer (some ⟨b0, 0, none⟩)), (3, .slice y.2.1 s.1.length y.2.2), (8, .slice q.1 b.length q.2), (9, .int .i64 (b.length : Int)), (10, .int .i64 s.2)]) (fun s y => [obj b0 76 [.map (some h), str t, .int .i64 u, .bool w], aC 71 3 (gL (y.1)) y.2.1 s.1 y.2.2, aC 9 1 (V9 tt) q.1 b q.2, aF (aB h aD aA e) aG e c, y.1, F]) (fun _ => by rw [cp.l0]) ?_ k (([] : List (ba)), 0) (tt, none, 0) ⟨O, O, O, O, O, trivial⟩ (.sel 1 O (.rowV_nil (.sel 0 O (.sel 0 O (.tt_in (.sel 0 O (.nil _)))))))
 intro k a n
 refine cL (by rw [cp.l0]) ?_
 refine sr ?_
 refine vq (bN O O O) O (ag (ae (ap ?_)))
 refine aL O (fun b9 => ?_) (fun cd => ?_)
 refine au ?_
 refine ae (ap ?_)
 refine aK ?_
 refine sr ?_
 refine bd 2 O (fun aa a0 => ?_)
 refine aQ (fun a1 => ?_)
 refine dP 2 O a0 O (i := a.2.toNat) (by omega) ([] : List UInt8) (fun ch b4 cs a3 a4 b3 hcell19v => ?_)
 obtain rfl := a4
 refine vq (ct O O O a3 underlying90 sizeOf9 a1.1 a1.2) O ?_
 refine vq (ai O O isAgg9 (hcell19v 2 O 0 _ O)) O ?_
 refine va O O (ag (ae (ap ?_)))
 refine iq (fun ad => ?_) (fun ad => ?_)
 refine aE ?_
 refine vm O O ?_
 refine vn O O ?_
 refine vq (aw O O underlying76 O O sizeOf74 O) O ?_
 refine vq (ai O O isAgg74 (.obj 0 O O)) O ?_
 refine vm O O ?_
 refine vq ((ju (ek := aD) (b.getD a.2.toNat ([] : List UInt8)) (gX 3 O) ad O O O underlying74 iN : RQ _ _ _ _ (.pointer (some ⟨(bt e (b.getD a.2.toNat ([] : List UInt8))), 0, none⟩)))) O ?_
 refine va O O (ag (ae ?_))
 refine ia (v := ((ay c (b.getD a.2.toNat ([] : List UInt8))).getD (([] : List UInt8), (0 : Int)))) 3 O (ew ad) (fun g => ?_)
 refine fT (H' := [obj (bt e (b.getD a.2.toNat ([] : List UInt8))) 89 [.slice g.1 ((((ay c (b.getD a.2.toNat ([] : List UInt8))).getD (([] : List UInt8), (0 : Int))).1).length) g.2, .int .i64 (((ay c (b.getD a.2.toNat ([] : List UInt8))).getD (([] : List UInt8), (0 : Int))).2)], Row 5 1 g.1 (((ay c (b.getD a.2.toNat ([] : List UInt8))).getD (([] : List UInt8), (0 : Int))).1).length g.2 (ao (((ay c (b.getD a.2.toNat ([] : List UInt8))).getD (([] : List UInt8), (0 : Int))).1)), fK (aB h aD aA e) aG e c (b.getD a.2.toNat ([] : List UInt8)), obj b0 76 [.map (some h), str t, .int .i64 u, .bool w], aC 71 3 (gL (n.1)) n.2.1 a.1 n.2.2, Row 9 1 q.1 b.length q.2 aa.flatten, n.1, F]) (Ent.refl _) ?_
 refine fB 4 O (fun ab a5 => ?_)
 refine cu (fun d a6 => ?_)
 refine bv (fun a7 => ?_)
 refine bp (Γ := (Option Addr × Nat) × Nat × (Option Addr × Nat)) ((none, 0), 0, (none, 0)) [[], [], [], [2], [2, 3], [2, 3, 4], [2, 3, 4, 5], [], [7], [7, 8], [7, 8, 9], [1, 2, 3, 4, 5, 6, 7, 8, 9, 10], [1, 2, 3, 4, 5, 6, 7, 8, 9, 10, 11], rL 13, rL 14] [6, 12, 13] [0, 1, 2, 3, 4, 5, 7, 8, 9, 10, 11, 14] (fun i => [[0, 1, 2], [0, 1], [0], [0], [0], [0], [], [0, 1], [0, 1], [0, 1], [0, 1], [1], [], [], [3]].getD i []) (fun i => [[], [], [], [], [], [], [0, 1, 2, 3, 4, 5, 7, 8, 9, 10], [], [], [], [], [], rL 12, rL 13, []].getD i []) (fun γ i => [.slice n.2.1 a.1.length n.2.2, str (b.getD a.2.toNat ([] : List UInt8)), .pointer (some ⟨(bt e (b.getD a.2.toNat ([] : List UInt8))), 0, none⟩), .pointer (some ⟨(bt e (b.getD a.2.toNat ([] : List UInt8))), 0, none⟩), .pointer (some ⟨(bt e (b.getD a.2.toNat ([] : List UInt8))), 0, none⟩), .slice g.1 ((((ay c (b.getD a.2.toNat ([] : List UInt8))).getD (([] : List UInt8), (0 : Int))).1).length) g.2, .slice γ.1.1 d.length γ.1.2, .pointer (some ⟨(bt e (b.getD a.2.toNat ([] : List UInt8))), 0, none⟩), .pointer (some ⟨(bt e (b.getD a.2.toNat ([] : List UInt8))), 0, none⟩), .pointer (some ⟨(bt e (b.getD a.2.toNat ([] : List UInt8))), 1, none⟩), .int .i64 (((ay c (b.getD a.2.toNat ([] : List UInt8))).getD (([] : List UInt8), (0 : Int))).2), .agg #[str (b.getD a.2.toNat ([] : List UInt8)), .slice γ.1.1 d.length γ.1.2, .int .i64 (((ay c (b.getD a.2.toNat ([] : List UInt8))).getD (([] : List UInt8), (0 : Int))).2)], .slice (some ⟨γ.2.1, 0, none⟩) (([((b.getD a.2.toNat ([] : List UInt8)), d, ((ay c (b.getD a.2.toNat ([] : List UInt8))).getD (([] : List UInt8), (0 : Int))).2)] : List (ba)).length) 1, .slice γ.2.2.1 ((a.1 ++ ([((b.getD a.2.toNat ([] : List UInt8)), d, ((ay c (b.getD a.2.toNat ([] : List UInt8))).getD (([] : List UInt8), (0 : Int))).2)] : List (ba))).length) γ.2.2.2, .slice γ.2.2.1 ((a.1 ++ ([((b.getD a.2.toNat ([] : List UInt8)), d, ((ay c (b.getD a.2.toNat ([] : List UInt8))).getD (([] : List UInt8), (0 : Int))).2)] : List (ba))).length) γ.2.2.2].getD i undef) (fun j γ => [[obj (bt e (b.getD a.2.toNat ([] : List UInt8))) 89 [.slice g.1 ((((ay c (b.getD a.2.toNat ([] : List UInt8))).getD (([] : List UInt8), (0 : Int))).1).length) g.2, .int .i64 (((ay c (b.getD a.2.toNat ([] : List UInt8))).getD (([] : List UInt8), (0 : Int))).2)], Row 5 1 g.1 (((ay c (b.getD a.2.toNat ([] : List UInt8))).getD (([] : List UInt8), (0 : Int))).1).length g.2 (ao (((ay c (b.getD a.2.toNat ([] : List UInt8))).getD (([] : List UInt8), (0 : Int))).1)), fK (aB h aD aA e) aG e c (b.getD a.2.toNat ([] : List UInt8)), obj b0 76 [.map (some h), str t, .int .i64 u, .bool w], Row 71 3 n.2.1 a.1.length n.2.2 ab.flatten, Row 9 1 q.1 b.length q.2 aa.flatten, n.1, F], [Row 5 1 γ.1.1 d.length γ.1.2 (ao d), obj (bt e (b.getD a.2.toNat ([] : List UInt8))) 89 [.slice g.1 ((((ay c (b.getD a.2.toNat ([] : List UInt8))).getD (([] : List UInt8), (0 : Int))).1).length) g.2, .int .i64 (((ay c (b.getD a.2.toNat ([] : List UInt8))).getD (([] : List UInt8), (0 : Int))).2)], Row 5 1 g.1 (((ay c (b.getD a.2.toNat ([] : List UInt8))).getD (([] : List UInt8), (0 : Int))).1).length g.2 (ao (((ay c (b.getD a.2.toNat ([] : List UInt8))).getD (([] : List UInt8), (0 : Int))).1)), fK (aB h aD aA e) aG e c (b.getD a.2.toNat ([] : List UInt8)), obj b0 76 [.map (some h), str t, .int .i64 u, .bool w], Row 71 3 n.2.1 a.1.length n.2.2 ab.flatten, Row 9 1 q.1 b.length q.2 aa.flatten, n.1, F], [aC 71 3 (gL (Row 5 1 γ.1.1 d.length γ.1.2 (ao d))) (some ⟨γ.2.1, 0, none⟩) ([((b.getD a.2.toNat ([] : List UInt8)), d, ((ay c (b.getD a.2.toNat ([] : List UInt8))).getD (([] : List UInt8), (0 : Int))).2)] : List (ba)) 1, Row 5 1 γ.1.1 d.length γ.1.2 (ao d), obj (bt e (b.getD a.2.toNat ([] : List UInt8))) 89 [.slice g.1 ((((ay c (b.getD a.2.toNat ([] : List UInt8))).getD (([] : List UInt8), (0 : Int))).1).length) g.2, .int .i64 (((ay c (b.getD a.2.toNat ([] : List UInt8))).getD (([] : List UInt8), (0 : Int))).2)], Row 5 1 g.1 (((ay c (b.getD a.2.toNat ([] : List UInt8))).getD (([] : List UInt8), (0 : Int))).1).length g.2 (ao (((ay c (b.getD a.2.toNat ([] : List UInt8))).getD (([] : List UInt8), (0 : Int))).1)), fK (aB h aD aA e) aG e c (b.getD a.2.toNat ([] : List UInt8)), obj b0 76 [.map (some h), str t, .int .i64 u, .bool w], Row 71 3 n.2.1 a.1.length n.2.2 ab.flatten, Row 9 1 q.1 b.length q.2 aa.flatten, n.1, F], [aN [Row 5 1 γ.1.1 d.length γ.1.2 (ao d), n.1], aC 71 3 (gL (aN [Row 5 1 γ.1.1 d.length γ.1.2 (ao d), n.1])) (some ⟨γ.2.1, 0, none⟩) ([((b.getD a.2.toNat ([] : List UInt8)), d, ((ay c (b.getD a.2.toNat ([] : List UInt8))).getD (([] : List UInt8), (0 : Int))).2)] : List (ba)) 1, obj (bt e (b.getD a.2.toNat ([] : List UInt8))) 89 [.slice g.1 ((((ay c (b.getD a.2.toNat ([] : List UInt8))).getD (([] : List UInt8), (0 : Int))).1).length) g.2, .int .i64 (((ay c (b.getD a.2.toNat ([] : List UInt8))).getD (([] : List UInt8), (0 : Int))).2)], Row 5 1 g.1 (((ay c (b.getD a.2.toNat ([] : List UInt8))).getD (([] : List UInt8), (0 : Int))).1).length g.2 (ao (((ay c (b.getD a.2.toNat ([] : List UInt8))).getD (([] : List UInt8), (0 : Int))).1)), fK (aB h aD aA e) aG e c (b.getD a.2.toNat ([] : List UInt8)), obj b0 76 [.map (some h), str t, .int .i64 u, .bool w], aC 71 3 (gL (aN [Row 5 1 γ.1.1 d.length γ.1.2 (ao d), n.1])) γ.2.2.1 (a.1 ++ ([((b.getD a.2.toNat ([] : List UInt8)), d, ((ay c (b.getD a.2.toNat ([] : List UInt8))).getD (([] : List UInt8), (0 : Int))).2)] : List (ba))) γ.2.2.2, Row 9 1 q.1 b.length q.2 aa.flatten, F]].getD j []) (fun γ => [(0, .pointer (some ⟨b0, 0, none⟩)), (3, .slice γ.2.2.1 ((a.1 ++ ([((b.getD a.2.toNat ([] : List UInt8)), d, ((ay c (b.getD a.2.toNat ([] : List UInt8))).getD (([] : List UInt8), (0 : Int))).2)] : List (ba))).length) γ.2.2.2), (8, .slice q.1 b.length q.2), (9, .int .i64 (b.length : Int)), (10, .int .i64 a.2)]) mixed (by decide) (by decide) (by decide) (by decide) (by decide) (by decide) (by decide) 36 O (by decide) (by decide) (by decide) (Ent.refl _) ?_ ?_ (fun _ => ⟨O, O, O, O, O, trivial⟩) ?_
 exact (ac (fun γ => (ac (qm O (.o (s := 3) O (by decide) .nil) O) (ac (qm O (.o (s := 3) O (by decide) .nil) O) (ac (qm O (.o (s := 3) O (by decide) .nil) O) zA)))) (ac (fun γ => (ac (qm O (.o (s := 5) O (by decide) .nil) O) (ac (qm O (.o (s := 5) O (by decide) .nil) O) zA))) (aq O (fun γ => qm O (.o (s := 6) O (by decide) .nil) O) (aq O (fun γ => qp O O (.v 2 O O .nil) (cj O O) O) (aq O (fun γ => qp O O (.v 3 O O .nil) (aw O O underlying89 O O sizeOf25 O) O) (aq O (fun γ => qp O O (.v 4 O O .nil) (ai O O isAgg25 (.obj 0 O O)) O) (ac (fun γ => (ac (qm O (.o (s := 6) O (by decide) .nil) O) (ac (qm O (.o (s := 6) O (by decide) .nil) O) zA))) (ac (fun γ => (ac (qp O O (.v 7 O O .nil) (cj O O) O) (ac (qp O O (.v 7 O O .nil) (cj O O) O) zA))) (ac (fun γ => (ac (qp O O (.v 8 O O .nil) (aw O O underlying89 O O sizeOf3 O) O) (ac (qp O O (.v 8 O O .nil) (aw O O underlying89 O O sizeOf3 O) O) zA))) (ac (fun γ => (ac (qp O O (.v 9 O O .nil) (ai O O isAgg3 (.obj 0 O O)) O) (ac (qp O O (.v 9 O O .nil) (ai O O isAgg3 (.obj 1 O O)) O) zA))) (aq O (fun γ => qp O O (.v 1 O O (.v 6 O O (.v 10 O O .nil))) (eb (v := .agg #[str (b.getD a.2.toNat ([] : List UInt8)), .slice γ.1.1 d.length γ.1.2, .int .i64 (((ay c (b.getD a.2.toNat ([] : List UInt8))).getD (([] : List UInt8), (0 : Int))).2)]) O O (fun _ => by kernel_rfl)) O) (aq O (fun γ => qp O O (.v 13 O O .nil) (dA O O) O) zA))))))))))))
 exact (ac (fun γ => eo (Z := Option Addr × Nat) (fun z => (z, γ.2.1, γ.2.2)) O O (.v 5 O O .nil) (RE.lend 1 O (fun a8 a9 bc b5 => ar (vs := [.slice g.1 ((((ay c (b.getD a.2.toNat ([] : List UInt8))).getD (([] : List UInt8), (0 : Int))).1).length) g.2]) (cap := []) (A := []) (rst := [obj (bt e (b.getD a.2.toNat ([] : List UInt8))) 89 [.slice g.1 ((((ay c (b.getD a.2.toNat ([] : List UInt8))).getD (([] : List UInt8), (0 : Int))).1).length) g.2, .int .i64 (((ay c (b.getD a.2.toNat ([] : List UInt8))).getD (([] : List UInt8), (0 : Int))).2)], Row 5 1 g.1 (((ay c (b.getD a.2.toNat ([] : List UInt8))).getD (([] : List UInt8), (0 : Int))).1).length g.2 (ao (((ay c (b.getD a.2.toNat ([] : List UInt8))).getD (([] : List UInt8), (0 : Int))).1)), fK (aB h aD aA e) aG e c (b.getD a.2.toNat ([] : List UInt8)), obj b0 76 [.map (some h), str t, .int .i64 u, .bool w], Row 71 3 n.2.1 a.1.length n.2.2 ab.flatten, Row 9 1 q.1 b.length q.2 aa.flatten, n.1, F]) O O O O O O call70 (.sel 0 O (.sel 0 O (.sel 0 O (.sel 0 O (.sel 0 O (.sel 0 O (.sel 0 O (.sel 0 O (.nil _))))))))) (gN.calls _ _ g.1 g.2 (((ay c (b.getD a.2.toNat ([] : List UInt8))).getD (([] : List UInt8), (0 : Int))).1) (a8.lend 1 O) a9 bc) a6)) (fun _ => ⟨O, O, O, O, O, O, O, O, O, O, trivial⟩) (fun _ => .inr O) (fun z => Ent.refl _)) (ac (fun γ => eo (Z := Nat) (fun z => (γ.1, z, γ.2.2)) O O (.v 11 O O .nil) (RE.lend 0 O (fun be bs b1 b6 => xl (V := (gL (Row 5 1 γ.1.1 d.length γ.1.2 (ao d)))) (xs := ([((b.getD a.2.toNat ([] : List UInt8)), d, ((ay c (b.getD a.2.toNat ([] : List UInt8))).getD (([] : List UInt8), (0 : Int))).2)] : List (ba))) [[str (b.getD a.2.toNat ([] : List UInt8)), .slice γ.1.1 d.length γ.1.2, .int .i64 (((ay c (b.getD a.2.toNat ([] : List UInt8))).getD (([] : List UInt8), (0 : Int))).2)]] O O underlying47 ki O (by kernel_rfl) O (⟨⟨O, aY (by rfl), ⟨γ.1.1, γ.1.2, O, ⟨(RdW.row be), bs, b1⟩⟩⟩, trivial⟩ : bE 3 (gL (Row 5 1 γ.1.1 d.length γ.1.2 (ao d))) ([((b.getD a.2.toNat ([] : List UInt8)), d, ((ay c (b.getD a.2.toNat ([] : List UInt8))).getD (([] : List UInt8), (0 : Int))).2)] : List (ba)) [[str (b.getD a.2.toNat ([] : List UInt8)), .slice γ.1.1 d.length γ.1.2, .int .i64 (((ay c (b.getD a.2.toNat ([] : List UInt8))).getD (([] : List UInt8), (0 : Int))).2)]]) O O)) (fun _ => ⟨O, O, O, O, O, O, O, O, O, O, O, O, trivial⟩) (fun _ => .inr O) (fun z => Ent.refl _)) (ac (fun γ => eo (Z := Option Addr × Nat) (fun z => (γ.1, γ.2.1, z)) O O (.v 0 O O (.v 12 O O .nil)) (RE.openV 0 O (fun af al => RE.ent (H1 := [aN [Row 5 1 γ.1.1 d.length γ.1.2 (ao d), n.1], Row 71 3 (some ⟨γ.2.1, 0, none⟩) ([((b.getD a.2.toNat ([] : List UInt8)), d, ((ay c (b.getD a.2.toNat ([] : List UInt8))).getD (([] : List UInt8), (0 : Int))).2)] : List (ba)).length 1 af.flatten, obj (bt e (b.getD a.2.toNat ([] : List UInt8))) 89 [.slice g.1 ((((ay c (b.getD a.2.toNat ([] : List UInt8))).getD (([] : List UInt8), (0 : Int))).1).length) g.2, .int .i64 (((ay c (b.getD a.2.toNat ([] : List UInt8))).getD (([] : List UInt8), (0 : Int))).2)], Row 5 1 g.1 (((ay c (b.getD a.2.toNat ([] : List UInt8))).getD (([] : List UInt8), (0 : Int))).1).length g.2 (ao (((ay c (b.getD a.2.toNat ([] : List UInt8))).getD (([] : List UInt8), (0 : Int))).1)), fK (aB h aD aA e) aG e c (b.getD a.2.toNat ([] : List UInt8)), obj b0 76 [.map (some h), str t, .int .i64 u, .bool w], Row 71 3 n.2.1 a.1.length n.2.2 ab.flatten, Row 9 1 q.1 b.length q.2 aa.flatten, F]) (Ent.trans (m := [Row 5 1 γ.1.1 d.length γ.1.2 (ao d), n.1, Row 71 3 (some ⟨γ.2.1, 0, none⟩) ([((b.getD a.2.toNat ([] : List UInt8)), d, ((ay c (b.getD a.2.toNat ([] : List UInt8))).getD (([] : List UInt8), (0 : Int))).2)] : List (ba)).length 1 af.flatten, obj (bt e (b.getD a.2.toNat ([] : List UInt8))) 89 [.slice g.1 ((((ay c (b.getD a.2.toNat ([] : List UInt8))).getD (([] : List UInt8), (0 : Int))).1).length) g.2, .int .i64 (((ay c (b.getD a.2.toNat ([] : List UInt8))).getD (([] : List UInt8), (0 : Int))).2)], Row 5 1 g.1 (((ay c (b.getD a.2.toNat ([] : List UInt8))).getD (([] : List UInt8), (0 : Int))).1).length g.2 (ao (((ay c (b.getD a.2.toNat ([] : List UInt8))).getD (([] : List UInt8), (0 : Int))).1)), fK (aB h aD aA e) aG e c (b.getD a.2.toNat ([] : List UInt8)), obj b0 76 [.map (some h), str t, .int .i64 u, .bool w], Row 71 3 n.2.1 a.1.length n.2.2 ab.flatten, Row 9 1 q.1 b.length q.2 aa.flatten, F]) (.sel 1 O (.sel 7 O (.sel 0 O (.sel 0 O (.sel 0 O (.sel 0 O (.sel 0 O (.sel 0 O (.sel 0 O (.sel 0 O (.nil _))))))))))) (jy [Row 5 1 γ.1.1 d.length γ.1.2 (ao d), n.1] _)) (gM 6 O O O underlying47 ki O (a5.mono (gL.up (UpC.lend (l := [Row 5 1 γ.1.1 d.length γ.1.2 (ao d), n.1]) 1 O))) (lb.row (al.mono (gL.up (UpC.lend (l := [Row 5 1 γ.1.1 d.length γ.1.2 (ao d), n.1]) 0 O))) 1 O) a7)) (fun af al _ => (.sel 0 O (.sel' 0 O (aC.mk (al.mono (gL.up (UpC.lend (l := [Row 5 1 γ.1.1 d.length γ.1.2 (ao d), n.1]) 0 O)))) (.sel 0 O (.sel 0 O (.sel 0 O (.sel 0 O (.sel 0 O (.sel 0 O (.sel 0 O (.nil _)))))))))))) (fun _ => ⟨O, O, O, O, O, O, O, O, O, O, O, O, O, trivial⟩) (fun _ => .inr O) (fun z => Ent.refl _)) zA)))
 intro an
 refine bb (ae (aE ?_))
 refine vq (bj O O O) O ?_
 refine vm O O (ag ?_)
 exact bu (s := (a.1 ++ ([((b.getD a.2.toNat ([] : List UInt8)), d, ((ay c (b.getD a.2.toNat ([] : List UInt8))).getD (([] : List UInt8), (0 : Int))).2)] : List (ba)), IntKind.i64.wrap (a.2 + 1))) (aN [Row 5 1 an.1.1 d.length an.1.2 (ao d), n.1], an.2.2.1, an.2.2.2) ⟨O, O, O, O, O, trivial⟩ (.sel 5 O (.sel 5 O (.sel' 5 O (aC.mk a0) (.foldF0 (x := (b.getD a.2.toNat ([] : List UInt8))) (p := (bt e (b.getD a.2.toNat ([] : List UInt8)))) (v := ((ay c (b.getD a.2.toNat ([] : List UInt8))).getD (([] : List UInt8), (0 : Int)))) (g.1, g.2) O (ew ad) (.sel 4 O (.sel 2 O (.sel 2 O (.sel 0 O (.sel 1 O (.nil _))))))))))
 refine aE ?_
 refine vm O O ?_
 refine vn O O ?_
 refine vq (aw O O underlying76 O O sizeOf74 O) O ?_
 refine vq (ai O O isAgg74 (.obj 0 O O)) O ?_
 refine vm O O ?_
 refine vq (jv (ek := aD) (b.getD a.2.toNat ([] : List UInt8)) (gX 3 O) (iz ad) O O O underlying74 iN zeroValue87) O ?_
 refine va O O (ag (ae ?_))
 refine fB 1 O (fun b7 b8 => ?_)
 exact ox
 refine ck ?_
 refine bQ ?_
 refine bY ?_
 refine bR ?_
 exact aM (s := a.1) (n.1, n.2.1, n.2.2) ⟨O, trivial⟩ (.sel 0 O (.sel 0 O (.sel 1 O (.sel 1 O (.sel 1 O (.nil _))))))
 intro c0 a2
 refine sr ?_
 refine vm O O ?_
 refine va O O (ag (ae (ak ?_)))
 exact av (a2.2.1, a2.2.2, a2.1) O O O (.sel 1 O (.sel 2 O (.sel 0 O (.sel 0 O (.sel 0 O (.nil _))))))

def bA.l0 (x0 : List (ba)) (x1 : List (ba)) : Nat → Int → Option ((Unit) ⊕ (Bool))
  | 0, _ => none
  | k + 1, a => if a < (x0.length : Int) then (if 0 ≤ a ∧ a < (x0.length : Int) then (if 0 ≤ a ∧ a < (x1.length : Int) then ((bn.f k ((x0.getD a.toNat aj).2.1) ((x1.getD a.toNat aj).2.1)).bind fun b => ((if (!b) = true then (some true) else (if 0 ≤ a ∧ a < (x0.length : Int) then (if 0 ≤ a ∧ a < (x1.length : Int) then (if ((x0.getD a.toNat aj).1) = ((x1.getD a.toNat aj).1) then (if 0 ≤ a ∧ a < (x0.length : Int) then (if 0 ≤ a ∧ a < (x1.length : Int) then (some (!decide ((x0.getD a.toNat aj).2.2 = (x1.getD a.toNat aj).2.2))) else none) else none) else (some true)) else none) else none)).bind fun c => (if c = true then (some (.inr false)) else (bA.l0 x0 x1 k (IntKind.i64.wrap (a + 1)))))) else none) else none) else (some (.inl ()))
def bA.f (k : Nat) (x0 : List (ba)) (x1 : List (ba)) : Option (Bool) := if (x0.length : Int) = (x1.length : Int) then (orR (bA.l0 x0 x1 k 0) fun a => (some true)) else (some false)
theorem bA.calls (W : World) (F : HA) (k : Nat) (a0 : Option Addr) (c0 : Nat) (x0 : List (ba)) (a1 : Option Addr) (c1 : Nat) (x1 : List (ba)) (h0 : RdV F 3 (V71 F) a0 x0) (e6 : x0.length ≤ c0) (e7 : c0 ≤ maxLen) (h1 : RdV F 3 (V71 F) a1 x1) (e8 : x1.length ≤ c1) (e9 : c1 ≤ maxLen) :
    Fn Tryz.prog W 60 [.slice a0 x0.length c0, .slice a1 x1.length c1] [] F (bA.f k x0 x1) (fun (r : Bool) (y : Unit) => .bool r) (fun r y => []) := by
 unfold bA.f
 refine aJ 57 Tryz.func60 O Tryz.ntmps60 O ?_
 refine sr ?_
 refine va O O (ag (ae (ap (sr ?_))))
 refine vm O O ?_
 refine vq (bi O O O underlying47) O ?_
 refine vm O O ?_
 refine vq (bi O O O underlying47) O ?_
 refine vq (cz O O O) O (ag (ae ?_))
 refine br O (fun fn => ?_) (fun fp => ?_)
 refine au ?_
 refine ae ?_
 refine fx (S := Unit) (Unit) (fun s y => []) (fun s y => [F]) ?_ ?_
 refine sr ?_
 refine va O O (ag (ae ?_))
 refine aK ?_
 refine bX (S := Int) (Unit) (fun k s => bA.l0 x0 x1 k s) (fun s y => [(0, .slice a0 x0.length c0), (1, .slice a1 x1.length c1), (5, .int .i64 s)]) (fun s y => [F]) (fun _ => by rw [bA.l0]) ?_ k 0 () ⟨O, O, O, trivial⟩ (.sel 0 O (.nil _))
 intro k a fs
 refine cL (by rw [bA.l0]) ?_
 refine ap (sr ?_)
 refine vm O O ?_
 refine vm O O ?_
 refine vq (bi O O O underlying47) O ?_
 refine vq (bN O O O) O (ag (ae ?_))
 refine aL O (fun fw => ?_) (fun fz => ?_)
 refine au ?_
 refine ae (ap ?_)
 refine aK ?_
 refine ap ?_
 refine bv (fun ad => ?_)
 obtain ⟨a6, af, d9, a8, a9, cs, hcell17v⟩ := RdV.pos h0 (Up.refl _) rfl (i := a.toNat) (by omega) aj
 obtain ⟨w, x, rfl, ⟨bc, be, bs⟩⟩ := a9
 refine bv (fun al => ?_)
 obtain ⟨a7, an, ec, b0, b1, c2, hcell30v⟩ := RdV.pos h1 (Up.refl _) rfl (i := a.toNat) (by omega) aj
 obtain ⟨aa, ab, rfl, ⟨b2, b3, b4⟩⟩ := b1
 refine cu (fun d b5 => ?_)
 refine bp (Γ := Unit) () [[], [], [0, 1], [0, 1, 2], rL 4, [], [], [5, 6], [5, 6, 7], [5, 6, 7, 8], rL 10, rL 11] [10] [0, 1, 2, 3, 4, 5, 6, 7, 8, 9, 11] (fun i => [[0], [0], [0], [0], [0], [0], [0], [0], [0], [0], [], [1]].getD i []) (fun i => [[], [], [], [], [], [], [], [], [], [], rL 10, []].getD i []) (fun γ i => [.slice a0 x0.length c0, .int .i64 a, .pointer (some ⟨a6, af + a.toNat * 3, none⟩), .pointer (some ⟨a6, af + a.toNat * 3 + 1, none⟩), .slice w (((x0.getD a.toNat aj).2.1).length) x, .slice a1 x1.length c1, .int .i64 a, .pointer (some ⟨a7, an + a.toNat * 3, none⟩), .pointer (some ⟨a7, an + a.toNat * 3 + 1, none⟩), .slice aa (((x1.getD a.toNat aj).2.1).length) ab, .bool d, .bool d].getD i undef) (fun j γ => [[F], [F]].getD j []) (fun γ => [(0, .slice a0 x0.length c0), (1, .slice a1 x1.length c1), (5, .int .i64 a), (6, .bool d)]) mixed (by decide) (by decide) (by decide) (by decide) (by decide) (by decide) (by decide) 57 O (by decide) (by decide) (by decide) (Ent.refl _) ?_ ?_ (fun _ => ⟨O, O, O, O, trivial⟩) ?_
 exact (aq O (fun γ => qm O (.o (s := 0) O (by decide) .nil) O) (aq O (fun γ => qm O (.o (s := 5) O (by decide) .nil) O) (aq O (fun γ => qp O O (.v 0 O O (.v 1 O O .nil)) (ct O O O a8 underlying47 sizeOf71 ad.1 ad.2) O) (aq O (fun γ => qp O O (.v 2 O O .nil) (aw O O underlying71 O O sizeOf25 O) O) (aq O (fun γ => qp O O (.v 3 O O .nil) (ai O O isAgg25 (hcell17v 0 O 1 _ O)) O) (aq O (fun γ => qm O (.o (s := 1) O (by decide) .nil) O) (aq O (fun γ => qm O (.o (s := 5) O (by decide) .nil) O) (aq O (fun γ => qp O O (.v 5 O O (.v 6 O O .nil)) (ct O O O b0 underlying47 sizeOf71 al.1 al.2) O) (aq O (fun γ => qp O O (.v 7 O O .nil) (aw O O underlying71 O O sizeOf25 O) O) (aq O (fun γ => qp O O (.v 8 O O .nil) (ai O O isAgg25 (hcell30v 0 O 1 _ O)) O) (aq O (fun γ => qp O O (.v 10 O O .nil) (dA O O) O) zA)))))))))))
 exact (ac (fun γ => eo (Z := Unit) (fun z => ()) O O (.v 4 O O (.v 9 O O .nil)) (ar (val := fun (r : Bool) (y : Unit) => .bool r) (B := fun _ _ => []) (vs := [.slice w (((x0.getD a.toNat aj).2.1).length) x, .slice aa (((x1.getD a.toNat aj).2.1).length) ab]) (cap := []) (A := []) (rst := [F]) O O O O O O call33 (.sel 0 O (.nil _)) (bn.calls _ _ k w x ((x0.getD a.toNat aj).2.1) aa ab ((x1.getD a.toNat aj).2.1) (bc.lend 0 O) be bs (b2.lend 0 O) b3 b4) b5) (fun _ => ⟨O, O, O, O, O, O, O, O, O, O, trivial⟩) (fun _ => .inr O) (fun z => Ent.refl _)) zA)
 intro ed
 refine ae ?_
 refine bO (S := Bool) (Unit) (fun s y => [(0, .slice a0 x0.length c0), (1, .slice a1 x1.length c1), (5, .int .i64 a), (56, .bool s)]) (fun s y => [F]) ?_ ?_
 refine iq (fun b => ?_) (fun b => ?_)
 refine bp (Γ := Unit) () [[], [0], [0, 1], [0, 1, 2], [0, 1, 2], rL 5, rL 6, rL 7, [0, 1, 2], [0, 1, 2], [0, 1, 2, 8, 9], [0, 1, 2, 8, 9, 10], [0, 1, 2, 8, 9, 10, 11], rL 13, rL 14, rL 15, rL 16, rL 16, rL 18, rL 19, rL 20, rL 16, rL 16, [0, 1, 2, 3, 4, 5, 6, 7, 8, 9, 10, 11, 12, 13, 14, 15, 21, 22], [0, 1, 2, 3, 4, 5, 6, 7, 8, 9, 10, 11, 12, 13, 14, 15, 21, 22, 23], [0, 1, 2, 3, 4, 5, 6, 7, 8, 9, 10, 11, 12, 13, 14, 15, 21, 22, 23, 24], rL 26, rL 27] [] [0, 1, 2, 3, 4, 5, 6, 7, 8, 9, 10, 11, 12, 13, 14, 15, 16, 17, 18, 19, 20, 21, 22, 23, 24, 25, 26, 27] (fun i => [[0], [0], [0], [0], [0], [0], [0], [0], [0], [0], [0], [0], [0], [0], [0], [0], [0], [0], [0], [0], [0], [0], [0], [0], [0], [0], [0], [0]].getD i []) (fun i => [[], [], [], [], [], [], [], [], [], [], [], [], [], [], [], [], [], [], [], [], [], [], [], [], [], [], [], []].getD i []) (fun γ i => [.bool d, .bool (!d), .bool (!d), undef, undef, undef, undef, undef, undef, undef, undef, undef, undef, undef, .bool true, .bool true, undef, undef, undef, undef, undef, undef, undef, undef, undef, undef, undef, .bool true].getD i undef) (fun j γ => [[F]].getD j []) (fun γ => [(0, .slice a0 x0.length c0), (1, .slice a1 x1.length c1), (5, .int .i64 a), (32, undef), (33, undef), (34, undef), (35, undef), (36, undef), (37, undef), (38, undef), (39, undef), (40, undef), (41, undef), (42, undef), (45, undef), (46, undef), (47, undef), (48, undef), (49, undef), (50, undef), (51, undef), (52, undef), (53, undef), (54, undef), (55, undef), (56, .bool true)]) mixed (by decide) (by decide) (by decide) (by decide) (by decide) (by decide) (by decide) 57 O (by decide) (by decide) (by decide) (Ent.refl _) ?_ ?_ (fun _ => ⟨O, O, O, O, O, O, O, O, O, O, O, O, O, O, O, O, O, O, O, O, O, O, O, O, O, O, trivial⟩) ?_
 exact (aq O (fun γ => qm O (.o (s := 6) O (by decide) .nil) O) (aq O (fun γ => qp O O (.v 0 O O .nil) (fE O O) O) (aq O (fun γ => qm O (.v 1 O O .nil) O) (aq O (fun γ => qn O O (.o (s := 0) O (by decide) (.v 2 O O .nil)) O O (dG b) O) (aq O (fun γ => qn O O (.o (s := 5) O (by decide) (.v 2 O O .nil)) O O (dG b) O) (aq O (fun γ => qn O O (.v 2 O O (.v 3 O O (.v 4 O O .nil))) O O (dG b) O) (aq O (fun γ => qn O O (.v 2 O O (.v 5 O O .nil)) O O (dG b) O) (aq O (fun γ => qn O O (.v 2 O O (.v 6 O O .nil)) O O (dG b) O) (aq O (fun γ => qn O O (.o (s := 1) O (by decide) (.v 2 O O .nil)) O O (dG b) O) (aq O (fun γ => qn O O (.o (s := 5) O (by decide) (.v 2 O O .nil)) O O (dG b) O) (aq O (fun γ => qn O O (.v 2 O O (.v 8 O O (.v 9 O O .nil))) O O (dG b) O) (aq O (fun γ => qn O O (.v 2 O O (.v 10 O O .nil)) O O (dG b) O) (aq O (fun γ => qn O O (.v 2 O O (.v 11 O O .nil)) O O (dG b) O) (aq O (fun γ => qn O O (.v 2 O O (.v 7 O O (.v 12 O O .nil))) O O (dG b) O) (aq O (fun γ => qp O O (.v 2 O O (.v 13 O O .nil)) (bL O O O O (lM b _ _)) O) (aq O (fun γ => qm O (.v 14 O O .nil) O) (aq O (fun γ => qn O O (.o (s := 0) O (by decide) (.v 15 O O .nil)) O O O O) (aq O (fun γ => qn O O (.o (s := 5) O (by decide) (.v 15 O O .nil)) O O O O) (aq O (fun γ => qn O O (.v 15 O O (.v 16 O O (.v 17 O O .nil))) O O O O) (aq O (fun γ => qn O O (.v 15 O O (.v 18 O O .nil)) O O O O) (aq O (fun γ => qn O O (.v 15 O O (.v 19 O O .nil)) O O O O) (aq O (fun γ => qn O O (.o (s := 1) O (by decide) (.v 15 O O .nil)) O O O O) (aq O (fun γ => qn O O (.o (s := 5) O (by decide) (.v 15 O O .nil)) O O O O) (aq O (fun γ => qn O O (.v 15 O O (.v 21 O O (.v 22 O O .nil))) O O O O) (aq O (fun γ => qn O O (.v 15 O O (.v 23 O O .nil)) O O O O) (aq O (fun γ => qn O O (.v 15 O O (.v 24 O O .nil)) O O O O) (aq O (fun γ => qn O O (.v 15 O O (.v 20 O O (.v 25 O O .nil))) O O O O) (aq O (fun γ => qp O O (.v 15 O O (.v 26 O O .nil)) (bL O O O O O) O) zA))))))))))))))))))))))))))))
 exact zA
 intro ef
 exact aM (s := true) () ⟨O, O, O, O, trivial⟩ (.sel 0 O (.nil _))
 refine bv (fun m => ?_)
 obtain ⟨h, e, eg, a2, b6, c3, hcell51v⟩ := RdV.pos h0 (Up.refl _) rfl (i := a.toNat) (by omega) aj
 obtain ⟨ek, em, rfl, ⟨c7, c8, c9⟩⟩ := b6
 refine bv (fun n => ?_)
 obtain ⟨l, g, en, a3, b7, c4, hcell64v⟩ := RdV.pos h1 (Up.refl _) rfl (i := a.toNat) (by omega) aj
 obtain ⟨ep, er, rfl, ⟨dl, ds, d1⟩⟩ := b7
 refine iq (fun c => ?_) (fun c => ?_)
 refine bv (fun a4 => ?_)
 obtain ⟨t, p, es, b8, b9, c5, hcell79v⟩ := RdV.pos h0 (Up.refl _) rfl (i := a.toNat) (by omega) aj
 obtain ⟨et, ez, rfl, ⟨d2, d3, d4⟩⟩ := b9
 refine bv (fun a5 => ?_)
 obtain ⟨u, q, eA, cd, ch, c6, hcell92v⟩ := RdV.pos h1 (Up.refl _) rfl (i := a.toNat) (by omega) aj
 obtain ⟨eF, e0, rfl, ⟨d5, d6, d7⟩⟩ := ch
 refine bp (Γ := Unit) () [[], [0], [0, 1], [0, 1, 2], [0, 1, 2], rL 5, rL 6, rL 7, [0, 1, 2], [0, 1, 2], [0, 1, 2, 8, 9], [0, 1, 2, 8, 9, 10], [0, 1, 2, 8, 9, 10, 11], rL 13, rL 14, rL 15, rL 16, rL 16, rL 18, rL 19, rL 20, rL 16, rL 16, [0, 1, 2, 3, 4, 5, 6, 7, 8, 9, 10, 11, 12, 13, 14, 15, 21, 22], [0, 1, 2, 3, 4, 5, 6, 7, 8, 9, 10, 11, 12, 13, 14, 15, 21, 22, 23], [0, 1, 2, 3, 4, 5, 6, 7, 8, 9, 10, 11, 12, 13, 14, 15, 21, 22, 23, 24], rL 26, rL 27] [] [0, 1, 2, 3, 4, 5, 6, 7, 8, 9, 10, 11, 12, 13, 14, 15, 16, 17, 18, 19, 20, 21, 22, 23, 24, 25, 26, 27] (fun i => [[0], [0], [0], [0], [0], [0], [0], [0], [0], [0], [0], [0], [0], [0], [0], [0], [0], [0], [0], [0], [0], [0], [0], [0], [0], [0], [0], [0]].getD i []) (fun i => [[], [], [], [], [], [], [], [], [], [], [], [], [], [], [], [], [], [], [], [], [], [], [], [], [], [], [], []].getD i []) (fun γ i => [.bool d, .bool (!d), .bool (!d), .slice a0 x0.length c0, .int .i64 a, .pointer (some ⟨h, e + a.toNat * 3, none⟩), .pointer (some ⟨h, e + a.toNat * 3 + 0, none⟩), str ((x0.getD a.toNat aj).1), .slice a1 x1.length c1, .int .i64 a, .pointer (some ⟨l, g + a.toNat * 3, none⟩), .pointer (some ⟨l, g + a.toNat * 3 + 0, none⟩), str ((x1.getD a.toNat aj).1), .bool (!decide (((x0.getD a.toNat aj).1) = ((x1.getD a.toNat aj).1))), .bool (!decide (((x0.getD a.toNat aj).1) = ((x1.getD a.toNat aj).1))), .bool (!decide (((x0.getD a.toNat aj).1) = ((x1.getD a.toNat aj).1))), .slice a0 x0.length c0, .int .i64 a, .pointer (some ⟨t, p + a.toNat * 3, none⟩), .pointer (some ⟨t, p + a.toNat * 3 + 2, none⟩), .int .i64 ((x0.getD a.toNat aj).2.2), .slice a1 x1.length c1, .int .i64 a, .pointer (some ⟨u, q + a.toNat * 3, none⟩), .pointer (some ⟨u, q + a.toNat * 3 + 2, none⟩), .int .i64 ((x1.getD a.toNat aj).2.2), .bool (!decide ((x0.getD a.toNat aj).2.2 = (x1.getD a.toNat aj).2.2)), .bool (!decide ((x0.getD a.toNat aj).2.2 = (x1.getD a.toNat aj).2.2))].getD i undef) (fun j γ => [[F]].getD j []) (fun γ => [(0, .slice a0 x0.length c0), (1, .slice a1 x1.length c1), (5, .int .i64 a), (32, .slice a0 x0.length c0), (33, .int .i64 a), (34, .pointer (some ⟨h, e + a.toNat * 3, none⟩)), (35, .pointer (some ⟨h, e + a.toNat * 3 + 0, none⟩)), (36, str ((x0.getD a.toNat aj).1)), (37, .slice a1 x1.length c1), (38, .int .i64 a), (39, .pointer (some ⟨l, g + a.toNat * 3, none⟩)), (40, .pointer (some ⟨l, g + a.toNat * 3 + 0, none⟩)), (41, str ((x1.getD a.toNat aj).1)), (42, .bool (!decide (((x0.getD a.toNat aj).1) = ((x1.getD a.toNat aj).1)))), (45, .slice a0 x0.length c0), (46, .int .i64 a), (47, .pointer (some ⟨t, p + a.toNat * 3, none⟩)), (48, .pointer (some ⟨t, p + a.toNat * 3 + 2, none⟩)), (49, .int .i64 ((x0.getD a.toNat aj).2.2)), (50, .slice a1 x1.length c1), (51, .int .i64 a), (52, .pointer (some ⟨u, q + a.toNat * 3, none⟩)), (53, .pointer (some ⟨u, q + a.toNat * 3 + 2, none⟩)), (54, .int .i64 ((x1.getD a.toNat aj).2.2)), (55, .bool (!decide ((x0.getD a.toNat aj).2.2 = (x1.getD a.toNat aj).2.2))), (56, .bool (!decide ((x0.getD a.toNat aj).2.2 = (x1.getD a.toNat aj).2.2)))]) mixed (by decide) (by decide) (by decide) (by decide) (by decide) (by decide) (by decide) 57 O (by decide) (by decide) (by decide) (Ent.refl _) ?_ ?_ (fun _ => ⟨O, O, O, O, O, O, O, O, O, O, O, O, O, O, O, O, O, O, O, O, O, O, O, O, O, O, trivial⟩) ?_
 exact (aq O (fun γ => qm O (.o (s := 6) O (by decide) .nil) O) (aq O (fun γ => qp O O (.v 0 O O .nil) (fE O O) O) (aq O (fun γ => qm O (.v 1 O O .nil) O) (aq O (fun γ => qy O O (.o (s := 0) O (by decide) (.v 2 O O .nil)) O O (dp (eq_false_of_ne_true b)) (aS O O) O) (aq O (fun γ => qy O O (.o (s := 5) O (by decide) (.v 2 O O .nil)) O O (dp (eq_false_of_ne_true b)) (aS O O) O) (aq O (fun γ => qy O O (.v 2 O O (.v 3 O O (.v 4 O O .nil))) O O (dp (eq_false_of_ne_true b)) (ct O O O a2 underlying47 sizeOf71 m.1 m.2) O) (aq O (fun γ => qy O O (.v 2 O O (.v 5 O O .nil)) O O (dp (eq_false_of_ne_true b)) (aw O O underlying71 O O sizeOf9 O) O) (aq O (fun γ => qy O O (.v 2 O O (.v 6 O O .nil)) O O (dp (eq_false_of_ne_true b)) (ai O O isAgg9 (hcell51v 0 O 0 _ O)) O) (aq O (fun γ => qy O O (.o (s := 1) O (by decide) (.v 2 O O .nil)) O O (dp (eq_false_of_ne_true b)) (aS O O) O) (aq O (fun γ => qy O O (.o (s := 5) O (by decide) (.v 2 O O .nil)) O O (dp (eq_false_of_ne_true b)) (aS O O) O) (aq O (fun γ => qy O O (.v 2 O O (.v 8 O O (.v 9 O O .nil))) O O (dp (eq_false_of_ne_true b)) (ct O O O a3 underlying47 sizeOf71 n.1 n.2) O) (aq O (fun γ => qy O O (.v 2 O O (.v 10 O O .nil)) O O (dp (eq_false_of_ne_true b)) (aw O O underlying71 O O sizeOf9 O) O) (aq O (fun γ => qy O O (.v 2 O O (.v 11 O O .nil)) O O (dp (eq_false_of_ne_true b)) (ai O O isAgg9 (hcell64v 0 O 0 _ O)) O) (aq O (fun γ => qy O O (.v 2 O O (.v 7 O O (.v 12 O O .nil))) O O (dp (eq_false_of_ne_true b)) (pa O O O) O) (aq O (fun γ => qp O O (.v 2 O O (.v 13 O O .nil)) (bL O O O O (lN (eq_false_of_ne_true b) _ _)) O) (aq O (fun γ => qm O (.v 14 O O .nil) O) (aq O (fun γ => qy O O (.o (s := 0) O (by decide) (.v 15 O O .nil)) O O (dp (hT c)) (aS O O) O) (aq O (fun γ => qy O O (.o (s := 5) O (by decide) (.v 15 O O .nil)) O O (dp (hT c)) (aS O O) O) (aq O (fun γ => qy O O (.v 15 O O (.v 16 O O (.v 17 O O .nil))) O O (dp (hT c)) (ct O O O b8 underlying47 sizeOf71 a4.1 a4.2) O) (aq O (fun γ => qy O O (.v 15 O O (.v 18 O O .nil)) O O (dp (hT c)) (aw O O underlying71 O O sizeOf3 O) O) (aq O (fun γ => qy O O (.v 15 O O (.v 19 O O .nil)) O O (dp (hT c)) (ai O O isAgg3 (hcell79v 0 O 2 _ O)) O) (aq O (fun γ => qy O O (.o (s := 1) O (by decide) (.v 15 O O .nil)) O O (dp (hT c)) (aS O O) O) (aq O (fun γ => qy O O (.o (s := 5) O (by decide) (.v 15 O O .nil)) O O (dp (hT c)) (aS O O) O) (aq O (fun γ => qy O O (.v 15 O O (.v 21 O O (.v 22 O O .nil))) O O (dp (hT c)) (ct O O O cd underlying47 sizeOf71 a5.1 a5.2) O) (aq O (fun γ => qy O O (.v 15 O O (.v 23 O O .nil)) O O (dp (hT c)) (aw O O underlying71 O O sizeOf3 O) O) (aq O (fun γ => qy O O (.v 15 O O (.v 24 O O .nil)) O O (dp (hT c)) (ai O O isAgg3 (hcell92v 0 O 2 _ O)) O) (aq O (fun γ => qy O O (.v 15 O O (.v 20 O O (.v 25 O O .nil))) O O (dp (hT c)) (cz O O O) O) (aq O (fun γ => qp O O (.v 15 O O (.v 26 O O .nil)) (bL O O O O (lN (hT c) _ _)) O) zA))))))))))))))))))))))))))))
 exact zA
 intro e1
 exact aM (s := !decide ((x0.getD a.toNat aj).2.2 = (x1.getD a.toNat aj).2.2)) () ⟨O, O, O, O, trivial⟩ (.sel 0 O (.nil _))
 refine bp (Γ := Unit) () [[], [0], [0, 1], [0, 1, 2], [0, 1, 2], rL 5, rL 6, rL 7, [0, 1, 2], [0, 1, 2], [0, 1, 2, 8, 9], [0, 1, 2, 8, 9, 10], [0, 1, 2, 8, 9, 10, 11], rL 13, rL 14, rL 15, rL 16, rL 16, rL 18, rL 19, rL 20, rL 16, rL 16, [0, 1, 2, 3, 4, 5, 6, 7, 8, 9, 10, 11, 12, 13, 14, 15, 21, 22], [0, 1, 2, 3, 4, 5, 6, 7, 8, 9, 10, 11, 12, 13, 14, 15, 21, 22, 23], [0, 1, 2, 3, 4, 5, 6, 7, 8, 9, 10, 11, 12, 13, 14, 15, 21, 22, 23, 24], rL 26, rL 27] [] [0, 1, 2, 3, 4, 5, 6, 7, 8, 9, 10, 11, 12, 13, 14, 15, 16, 17, 18, 19, 20, 21, 22, 23, 24, 25, 26, 27] (fun i => [[0], [0], [0], [0], [0], [0], [0], [0], [0], [0], [0], [0], [0], [0], [0], [0], [0], [0], [0], [0], [0], [0], [0], [0], [0], [0], [0], [0]].getD i []) (fun i => [[], [], [], [], [], [], [], [], [], [], [], [], [], [], [], [], [], [], [], [], [], [], [], [], [], [], [], []].getD i []) (fun γ i => [.bool d, .bool (!d), .bool (!d), .slice a0 x0.length c0, .int .i64 a, .pointer (some ⟨h, e + a.toNat * 3, none⟩), .pointer (some ⟨h, e + a.toNat * 3 + 0, none⟩), str ((x0.getD a.toNat aj).1), .slice a1 x1.length c1, .int .i64 a, .pointer (some ⟨l, g + a.toNat * 3, none⟩), .pointer (some ⟨l, g + a.toNat * 3 + 0, none⟩), str ((x1.getD a.toNat aj).1), .bool (!decide (((x0.getD a.toNat aj).1) = ((x1.getD a.toNat aj).1))), .bool (!decide (((x0.getD a.toNat aj).1) = ((x1.getD a.toNat aj).1))), .bool (!decide (((x0.getD a.toNat aj).1) = ((x1.getD a.toNat aj).1))), undef, undef, undef, undef, undef, undef, undef, undef, undef, undef, undef, .bool true].getD i undef) (fun j γ => [[F]].getD j []) (fun γ => [(0, .slice a0 x0.length c0), (1, .slice a1 x1.length c1), (5, .int .i64 a), (32, .slice a0 x0.length c0), (33, .int .i64 a), (34, .pointer (some ⟨h, e + a.toNat * 3, none⟩)), (35, .pointer (some ⟨h, e + a.toNat * 3 + 0, none⟩)), (36, str ((x0.getD a.toNat aj).1)), (37, .slice a1 x1.length c1), (38, .int .i64 a), (39, .pointer (some ⟨l, g + a.toNat * 3, none⟩)), (40, .pointer (some ⟨l, g + a.toNat * 3 + 0, none⟩)), (41, str ((x1.getD a.toNat aj).1)), (42, .bool (!decide (((x0.getD a.toNat aj).1) = ((x1.getD a.toNat aj).1)))), (45, undef), (46, undef), (47, undef), (48, undef), (49, undef), (50, undef), (51, undef), (52, undef), (53, undef), (54, undef), (55, undef), (56, .bool true)]) mixed (by decide) (by decide) (by decide) (by decide) (by decide) (by decide) (by decide) 57 O (by decide) (by decide) (by decide) (Ent.refl _) ?_ ?_ (fun _ => ⟨O, O, O, O, O, O, O, O, O, O, O, O, O, O, O, O, O, O, O, O, O, O, O, O, O, O, trivial⟩) ?_
 exact (aq O (fun γ => qm O (.o (s := 6) O (by decide) .nil) O) (aq O (fun γ => qp O O (.v 0 O O .nil) (fE O O) O) (aq O (fun γ => qm O (.v 1 O O .nil) O) (aq O (fun γ => qy O O (.o (s := 0) O (by decide) (.v 2 O O .nil)) O O (dp (eq_false_of_ne_true b)) (aS O O) O) (aq O (fun γ => qy O O (.o (s := 5) O (by decide) (.v 2 O O .nil)) O O (dp (eq_false_of_ne_true b)) (aS O O) O) (aq O (fun γ => qy O O (.v 2 O O (.v 3 O O (.v 4 O O .nil))) O O (dp (eq_false_of_ne_true b)) (ct O O O a2 underlying47 sizeOf71 m.1 m.2) O) (aq O (fun γ => qy O O (.v 2 O O (.v 5 O O .nil)) O O (dp (eq_false_of_ne_true b)) (aw O O underlying71 O O sizeOf9 O) O) (aq O (fun γ => qy O O (.v 2 O O (.v 6 O O .nil)) O O (dp (eq_false_of_ne_true b)) (ai O O isAgg9 (hcell51v 0 O 0 _ O)) O) (aq O (fun γ => qy O O (.o (s := 1) O (by decide) (.v 2 O O .nil)) O O (dp (eq_false_of_ne_true b)) (aS O O) O) (aq O (fun γ => qy O O (.o (s := 5) O (by decide) (.v 2 O O .nil)) O O (dp (eq_false_of_ne_true b)) (aS O O) O) (aq O (fun γ => qy O O (.v 2 O O (.v 8 O O (.v 9 O O .nil))) O O (dp (eq_false_of_ne_true b)) (ct O O O a3 underlying47 sizeOf71 n.1 n.2) O) (aq O (fun γ => qy O O (.v 2 O O (.v 10 O O .nil)) O O (dp (eq_false_of_ne_true b)) (aw O O underlying71 O O sizeOf9 O) O) (aq O (fun γ => qy O O (.v 2 O O (.v 11 O O .nil)) O O (dp (eq_false_of_ne_true b)) (ai O O isAgg9 (hcell64v 0 O 0 _ O)) O) (aq O (fun γ => qy O O (.v 2 O O (.v 7 O O (.v 12 O O .nil))) O O (dp (eq_false_of_ne_true b)) (pa O O O) O) (aq O (fun γ => qp O O (.v 2 O O (.v 13 O O .nil)) (bL O O O O (lN (eq_false_of_ne_true b) _ _)) O) (aq O (fun γ => qm O (.v 14 O O .nil) O) (aq O (fun γ => qn O O (.o (s := 0) O (by decide) (.v 15 O O .nil)) O O (dG (gC c)) O) (aq O (fun γ => qn O O (.o (s := 5) O (by decide) (.v 15 O O .nil)) O O (dG (gC c)) O) (aq O (fun γ => qn O O (.v 15 O O (.v 16 O O (.v 17 O O .nil))) O O (dG (gC c)) O) (aq O (fun γ => qn O O (.v 15 O O (.v 18 O O .nil)) O O (dG (gC c)) O) (aq O (fun γ => qn O O (.v 15 O O (.v 19 O O .nil)) O O (dG (gC c)) O) (aq O (fun γ => qn O O (.o (s := 1) O (by decide) (.v 15 O O .nil)) O O (dG (gC c)) O) (aq O (fun γ => qn O O (.o (s := 5) O (by decide) (.v 15 O O .nil)) O O (dG (gC c)) O) (aq O (fun γ => qn O O (.v 15 O O (.v 21 O O (.v 22 O O .nil))) O O (dG (gC c)) O) (aq O (fun γ => qn O O (.v 15 O O (.v 23 O O .nil)) O O (dG (gC c)) O) (aq O (fun γ => qn O O (.v 15 O O (.v 24 O O .nil)) O O (dG (gC c)) O) (aq O (fun γ => qn O O (.v 15 O O (.v 20 O O (.v 25 O O .nil))) O O (dG (gC c)) O) (aq O (fun γ => qp O O (.v 15 O O (.v 26 O O .nil)) (bL O O O O (lM (gC c) _ _)) O) zA))))))))))))))))))))))))))))
 exact zA
 intro e2
 exact aM (s := true) () ⟨O, O, O, O, trivial⟩ (.sel 0 O (.nil _))
 intro e3 e4
 refine aT O (fun e5 => ?_) (fun d8 => ?_)
 refine sr ?_
 refine va O O (ag (ae (ak ?_)))
 refine aP ?_
 refine ax ?_
 refine eS ?_
 refine aP ?_
 refine eG ?_
 exact av () O O O (.sel 0 O (.nil _))
 refine au ?_
 refine bb (ae (aE ?_))
 refine vm O O ?_
 refine vq (bj O O O) O ?_
 refine va O O (ag ?_)
 exact bu (s := IntKind.i64.wrap (a + 1)) () ⟨O, O, O, trivial⟩ (.sel 0 O (.nil _))
 refine ck ?_
 refine bQ ?_
 refine bY ?_
 refine bR ?_
 exact fg (s := ()) () trivial (.sel 0 O (.nil _))
 intro go gs
 refine sr ?_
 refine va O O (ag (ae (ak ?_)))
 exact av () O O O (.sel 0 O (.nil _))
 refine sr ?_
 refine va O O (ag (ae (ak ?_)))
 refine ax ?_
 exact av () O O O (.sel 0 O (.nil _))

def ce.l0 (x0 : List (List UInt8)) (x1 : List (List UInt8)) : Nat → Int → Option ((Unit) ⊕ (Bool))
  | 0, _ => none
  | k + 1, a => if a < (x0.length : Int) then (if 0 ≤ a ∧ a < (x0.length : Int) then (if 0 ≤ a ∧ a < (x1.length : Int) then (if (x0.getD a.toNat ([] : List UInt8)) = (x1.getD a.toNat ([] : List UInt8)) then (ce.l0 x0 x1 k (IntKind.i64.wrap (a + 1))) else (some (.inr false))) else none) else none) else (some (.inl ()))
def ce.f (k : Nat) (x0 : List (List UInt8)) (x1 : List (List UInt8)) : Option (Bool) := if (x0.length : Int) = (x1.length : Int) then (orR (ce.l0 x0 x1 k 0) fun a => (some true)) else (some false)
theorem ce.calls (W : World) (F : HA) (k : Nat) (a0 : Option Addr) (c0 : Nat) (x0 : List (List UInt8)) (a1 : Option Addr) (c1 : Nat) (x1 : List (List UInt8)) (h0 : RdV F 1 (V9 tt) a0 x0) (ab : x0.length ≤ c0) (ad : c0 ≤ maxLen) (h1 : RdV F 1 (V9 tt) a1 x1) (af : x1.length ≤ c1) (al : c1 ≤ maxLen) :
    Fn Tryz.prog W 61 [.slice a0 x0.length c0, .slice a1 x1.length c1] [] F (ce.f k x0 x1) (fun (r : Bool) (y : Unit) => .bool r) (fun r y => []) := by
 unfold ce.f
 refine aJ 26 Tryz.func61 O Tryz.ntmps61 O ?_
 refine sr ?_
 refine va O O (ag (ae (ap (sr ?_))))
 refine vm O O ?_
 refine vq (bi O O O underlying90) O ?_
 refine vm O O ?_
 refine vq (bi O O O underlying90) O ?_
 refine vq (cz O O O) O (ag (ae ?_))
 refine br O (fun an => ?_) (fun a2 => ?_)
 refine au ?_
 refine ae ?_
 refine fx (S := Unit) (Unit) (fun s y => []) (fun s y => [F]) ?_ ?_
 refine sr ?_
 refine va O O (ag (ae ?_))
 refine aK ?_
 refine bX (S := Int) (Unit) (fun k s => ce.l0 x0 x1 k s) (fun s y => [(0, .slice a0 x0.length c0), (1, .slice a1 x1.length c1), (5, .int .i64 s)]) (fun s y => [F]) (fun _ => by rw [ce.l0]) ?_ k 0 () ⟨O, O, O, trivial⟩ (.sel 0 O (.nil _))
 intro k a a3
 refine cL (by rw [ce.l0]) ?_
 refine ap (sr ?_)
 refine vm O O ?_
 refine vm O O ?_
 refine vq (bi O O O underlying90) O ?_
 refine vq (bN O O O) O (ag (ae ?_))
 refine aL O (fun a4 => ?_) (fun a5 => ?_)
 refine au ?_
 refine ae (ap ?_)
 refine aK ?_
 refine ap ?_
 refine bv (fun b => ?_)
 obtain ⟨n, d, u, e, g, q, hcell17v⟩ := RdV.pos h0 (Up.refl _) rfl (i := a.toNat) (by omega) ([] : List UInt8)
 obtain rfl := g
 refine bv (fun c => ?_)
 obtain ⟨p, h, w, l, m, t, hcell25v⟩ := RdV.pos h1 (Up.refl _) rfl (i := a.toNat) (by omega) ([] : List UInt8)
 obtain rfl := m
 refine bp (Γ := Unit) () [[], [], [0, 1], [0, 1, 2], [], [], [4, 5], [4, 5, 6], rL 8] [] [0, 1, 2, 3, 4, 5, 6, 7, 8] (fun i => [[0], [0], [0], [0], [0], [0], [0], [0], [0]].getD i []) (fun i => [[], [], [], [], [], [], [], [], []].getD i []) (fun γ i => [.slice a0 x0.length c0, .int .i64 a, .pointer (some ⟨n, d + a.toNat * 1, none⟩), str (x0.getD a.toNat ([] : List UInt8)), .slice a1 x1.length c1, .int .i64 a, .pointer (some ⟨p, h + a.toNat * 1, none⟩), str (x1.getD a.toNat ([] : List UInt8)), .bool (!decide ((x0.getD a.toNat ([] : List UInt8)) = (x1.getD a.toNat ([] : List UInt8))))].getD i undef) (fun j γ => [[F]].getD j []) (fun γ => [(0, .slice a0 x0.length c0), (1, .slice a1 x1.length c1), (5, .int .i64 a), (25, .bool (!decide ((x0.getD a.toNat ([] : List UInt8)) = (x1.getD a.toNat ([] : List UInt8)))))]) mixed (by decide) (by decide) (by decide) (by decide) (by decide) (by decide) (by decide) 26 O (by decide) (by decide) (by decide) (Ent.refl _) ?_ ?_ (fun _ => ⟨O, O, O, O, trivial⟩) ?_
 exact (aq O (fun γ => qm O (.o (s := 0) O (by decide) .nil) O) (aq O (fun γ => qm O (.o (s := 5) O (by decide) .nil) O) (aq O (fun γ => qp O O (.v 0 O O (.v 1 O O .nil)) (ct O O O e underlying90 sizeOf9 b.1 b.2) O) (aq O (fun γ => qp O O (.v 2 O O .nil) (ai O O isAgg9 (hcell17v 0 O 0 _ O)) O) (aq O (fun γ => qm O (.o (s := 1) O (by decide) .nil) O) (aq O (fun γ => qm O (.o (s := 5) O (by decide) .nil) O) (aq O (fun γ => qp O O (.v 4 O O (.v 5 O O .nil)) (ct O O O l underlying90 sizeOf9 c.1 c.2) O) (aq O (fun γ => qp O O (.v 6 O O .nil) (ai O O isAgg9 (hcell25v 0 O 0 _ O)) O) (aq O (fun γ => qp O O (.v 3 O O (.v 7 O O .nil)) (pa O O O) O) zA)))))))))
 exact zA
 intro x
 refine ae ?_
 refine br O (fun z => ?_) (fun aa => ?_)
 refine au ?_
 refine bb (ae (aE ?_))
 refine vm O O ?_
 refine vq (bj O O O) O ?_
 refine va O O (ag ?_)
 exact bu (s := IntKind.i64.wrap (a + 1)) () ⟨O, O, O, trivial⟩ (.sel 0 O (.nil _))
 refine sr ?_
 refine va O O (ag (ae (ak ?_)))
 refine aP ?_
 refine ax ?_
 refine eS ?_
 refine aP ?_
 refine eG ?_
 exact av () O O O (.sel 0 O (.nil _))
 refine ck ?_
 refine bQ ?_
 refine bY ?_
 refine bR ?_
 exact fg (s := ()) () trivial (.sel 0 O (.nil _))
 intro a6 a7
 refine sr ?_
 refine va O O (ag (ae (ak ?_)))
 exact av () O O O (.sel 0 O (.nil _))
 refine sr ?_
 refine va O O (ag (ae (ak ?_)))
 refine ax ?_
 exact av () O O O (.sel 0 O (.nil _))

def cc.f (b : List ((List UInt8) × (List UInt8 × Int))) (c : List UInt8) (d : Int) (a : Bool) : Option (Bool) := some a
theorem cc.calls (W : World) (F : HA) (b0 : Nat) (a : Nat) (b : Kps) (c : List ((List UInt8) × (List UInt8 × Int))) (d : List UInt8) (e : Int) (g : Bool)  :
    Fn Tryz.prog W 64 [.pointer (some ⟨b0, 0, none⟩)] [obj b0 76 [.map (some a), str d, .int .i64 e, .bool g], aF (aB a aD aA b) aG b c] F (cc.f c d e g) (fun (r : Bool) (y : Unit) => .bool r) (fun r y => [obj b0 76 [.map (some a), str d, .int .i64 e, .bool g], aF (aB a aD aA b) aG b c]) := by
 unfold cc.f
 refine aJ 7 Tryz.func64 O Tryz.ntmps64 O ?_
 refine sr ?_
 refine va O O (nx ?_)
 refine vm O O ?_
 refine vn O O ?_
 refine vq (aw O O underlying76 O O sizeOf4 O) O ?_
 refine vq (ai O O isAgg4 (.obj 0 O O)) O ?_
 refine va O O (ag (ae (ak ?_)))
 exact av () O O O (.sel 0 O (.sel 0 O (.sel 0 O (.nil _))))
def cc.v (a : List ((List UInt8) × (List UInt8 × Int))) (b : List UInt8) (c : Int) (d : Bool) : Bool := (cc.f a b c d).getD false
theorem cc.tot (a : List ((List UInt8) × (List UInt8 × Int))) (b : List UInt8) (c : Int) (d : Bool) : cc.f a b c d = some (cc.v a b c d) := by
  have h : ∃ r, cc.f a b c d = some r := by
    unfold cc.f
    repeat' (first | exact ⟨_, rfl⟩ | split | simp only [Option.bind_some])
  obtain ⟨r, h⟩ := h
  unfold cc.v
  rw [h]; rfl

def bG.l1 (a : (List (ba)) × List (List UInt8) × Int) : Nat → Int → Option (Unit)
  | 0, _ => none
  | k + 1, b => if 0 ≤ a.2.2 ∧ a.2.2 < (a.1.length : Int) then (if b < (((a.1.getD a.2.2.toNat aj).2.1).length : Int) then (if 0 ≤ a.2.2 ∧ a.2.2 < (a.1.length : Int) then (if 0 ≤ b ∧ b < (((a.1.getD a.2.2.toNat aj).2.1).length : Int) then (bG.l1 a k (IntKind.i64.wrap (b + 1))) else none) else none) else (some ())) else none
def bG.l0 : Nat → List (ba) → List (List UInt8) → Int → Option (Unit)
  | 0, _, _, _ => none
  | k + 1, b, c, a => if a < (b.length : Int) then (((bG.l1 (b, c, a) k 0).bind fun d => (if 0 ≤ a ∧ a < (b.length : Int) then (if (((b.getD a.toNat aj).2.1).length + ([97] : List UInt8).length) * 1 ≤ 140737488355328 then (if 0 ≤ a ∧ a < (b.length : Int) then (if 0 ≤ a ∧ a < (c.length : Int) then (some ()) else none) else none) else none) else none)).bind fun e => (bG.l0 k (b.set a.toNat ((b.getD a.toNat aj).1, ((b.getD a.toNat aj).2.1) ++ ([97] : List UInt8), (b.getD a.toNat aj).2.2)) (c.set a.toNat ([111, 118, 101, 114] : List UInt8)) (IntKind.i64.wrap (a + 1)))) else (some ())
def bG.f (k : Nat) (a : List ((List UInt8) × (List UInt8 × Int))) (b : List UInt8) (c : Int) (d : Bool) (e : List (ba)) (l : Int) (h : Bool) (m : List UInt8) : Option (Bool) := (cp.f k a b c d).bind fun r => ((bA.f k r e).bind fun i => ((dT.f a b c d).bind fun n => ((bH.f k e l h m).bind fun s => ((ce.f k n s).bind fun j => ((bG.l0 k r n 0).bind fun t => ((cp.f k a b c d).bind fun o => ((bA.f k o e).bind fun g => ((if (((i && j) && g) == true) = true then (fd.f a b c d) else some 0).bind fun p => ((if (((i && j) && g) == true) = true then (bx.f k e l h m) else some 0).bind fun q => (some ((((i && j) && g) && (decide (p = q))) && ((cc.v a b c d) == h))))))))))))
theorem bG.calls (W : World) (F : HA) (k : Nat) (b0 : Nat) (m : Nat) (n : Kps) (t : List ((List UInt8) × (List UInt8 × Int))) (u : List UInt8) (w : Int) (aa : Bool) (b1 : Nat) (an : Option Addr) (al : Nat) (ab : List (ba)) (a1 : Int) (ad : Bool) (a2 : List UInt8) (b5 : RdV F 3 (V71 F) an ab) (a9 : ab.length ≤ al) (bc : al ≤ maxLen) :
    Fn Tryz.prog W 23 [.pointer (some ⟨b0, 0, none⟩), .pointer (some ⟨b1, 0, none⟩)] [obj b0 76 [.map (some m), str u, .int .i64 w, .bool aa], aF (aB m aD aA n) aG n t, obj b1 49 [.slice an ab.length al, .int .i64 a1, .bool ad, str a2]] F (bG.f k t u w aa ab a1 ad a2) (fun (r : Bool) (y : Unit) => .bool r) (fun r y => [obj b0 76 [.map (some m), str u, .int .i64 w, .bool aa], aF (aB m aD aA n) aG n t, obj b1 49 [.slice an ab.length al, .int .i64 a1, .bool ad, str a2]]) := by
 unfold bG.f
 refine aJ 93 Tryz.func23 O Tryz.ntmps23 O ?_
 refine sr ?_
 refine va O O (nx ?_)
 refine vm O O ?_
 refine am (fun a8 g1 => ?_)
 refine ah (ar (vs := [.pointer (some ⟨b0, 0, none⟩)]) (cap := []) (A := [obj b0 76 [.map (some m), str u, .int .i64 w, .bool aa], aF (aB m aD aA n) aG n t]) (rst := [obj b1 49 [.slice an ab.length al, .int .i64 a1, .bool ad, str a2], F]) O O O O O O call32 (.sel 0 O (.sel 0 O (.sel 0 O (.sel 0 O (.nil _))))) (cp.calls _ _ k b0 m n t u w aa ) g1) O O O ?_
 intro af
 refine va O O (nx ?_)
 refine vm O O ?_
 refine vm O O ?_
 refine vn O O ?_
 refine vq (aw O O underlying49 O O sizeOf47 O) O ?_
 refine vq (ai O O isAgg47 (.obj 4 O O)) O ?_
 refine bd 0 O (fun b2 d9 => ?_)
 refine am (fun g eF => ?_)
 refine bf 0 O (fun g2 g3 g4 hO => ?_)
 refine ah (ar (vs := [.slice af.1 a8.length af.2.1, .slice an ab.length al]) (cap := []) (A := []) (rst := [Row 71 3 af.1 a8.length af.2.1 b2.flatten, af.2.2, obj b0 76 [.map (some m), str u, .int .i64 w, .bool aa], aF (aB m aD aA n) aG n t, obj b1 49 [.slice an ab.length al, .int .i64 a1, .bool ad, str a2], F]) O O O O O O call60 (.sel 0 O (.sel 0 O (.sel 0 O (.sel 0 O (.sel 0 O (.sel 0 O (.nil _))))))) (bA.calls _ _ k af.1 af.2.1 a8 an al ab ((Rd.asV (d9.mono gL.rd) g2).up (Up.lend 0 O) (V71.up (Up.lend 1 O))) g3 g4 (b5.up (Up.lend 5 O) (V71.up (Up.lend 5 O))) a9 bc) eF) O O O ?_
 intro hR
 refine va O O (nx ?_)
 refine vm O O ?_
 refine am (fun a7 e0 => ?_)
 refine ah (ar (vs := [.pointer (some ⟨b0, 0, none⟩)]) (cap := []) (A := [obj b0 76 [.map (some m), str u, .int .i64 w, .bool aa], aF (aB m aD aA n) aG n t]) (rst := [Row 71 3 af.1 a8.length af.2.1 b2.flatten, af.2.2, obj b1 49 [.slice an ab.length al, .int .i64 a1, .bool ad, str a2], F]) O O O O O O call46 (.sel 2 O (.sel 2 O (.sel 0 O (.sel 0 O (.sel 0 O (.sel 0 O (.nil _))))))) (dT.calls _ _ b0 m n t u w aa ) e0) O O O ?_
 intro a0
 refine va O O (nx ?_)
 refine vm O O ?_
 refine vm O O ?_
 refine am (fun b6 e1 => ?_)
 refine ah (ar (vs := [.pointer (some ⟨b1, 0, none⟩)]) (cap := []) (A := [obj b1 49 [.slice an ab.length al, .int .i64 a1, .bool ad, str a2]]) (rst := [aC 9 1 (V9 tt) a0.1 a7 a0.2, obj b0 76 [.map (some m), str u, .int .i64 w, .bool aa], aF (aB m aD aA n) aG n t, Row 71 3 af.1 a8.length af.2.1 b2.flatten, af.2.2, F]) O O O O O O call59 (.sel 5 O (.sel 0 O (.sel 0 O (.sel 0 O (.sel 0 O (.sel 0 O (.sel 0 O (.nil _)))))))) (bH.calls _ _ k b1 an al ab a1 ad a2 (b5.up (Up.lend 5 O) (V71.up (Up.lend 5 O))) a9 bc) e1) O O O ?_
 intro a5
 refine bd 0 O (fun dl e2 => ?_)
 refine bd 2 O (fun ds d1 => ?_)
 refine am (fun l e3 => ?_)
 refine bf 2 O (fun e4 e5 e6 hs => ?_)
 refine bf 0 O (fun e7 e8 e9 ht => ?_)
 refine ah (ar (vs := [.slice a0.1 a7.length a0.2, .slice a5.1 b6.length a5.2]) (cap := []) (A := []) (rst := [Row 9 1 a5.1 b6.length a5.2 dl.flatten, obj b1 49 [.slice an ab.length al, .int .i64 a1, .bool ad, str a2], Row 9 1 a0.1 a7.length a0.2 ds.flatten, obj b0 76 [.map (some m), str u, .int .i64 w, .bool aa], aF (aB m aD aA n) aG n t, Row 71 3 af.1 a8.length af.2.1 b2.flatten, af.2.2, F]) O O O O O O call61 (.sel 0 O (.sel 0 O (.sel 0 O (.sel 0 O (.sel 0 O (.sel 0 O (.sel 0 O (.sel 0 O (.nil _))))))))) (ce.calls _ _ k a0.1 a0.2 a7 a5.1 a5.2 b6 ((Rd.asV d1 e4).up (Up.lend 2 O) (fun _ _ h => h)) e5 e6 ((Rd.asV e2 e7).up (Up.lend 0 O) (fun _ _ h => h)) e8 e9) e3) O O O ?_
 intro hS
 refine va O O (ag (ae ?_))
 refine bO (S := Unit) (Unit) (fun s y => [(0, .pointer (some ⟨b0, 0, none⟩)), (1, .pointer (some ⟨b1, 0, none⟩)), (6, .bool g), (8, .bool l)]) (fun s y => [obj b1 49 [.slice an ab.length al, .int .i64 a1, .bool ad, str a2], obj b0 76 [.map (some m), str u, .int .i64 w, .bool aa], aF (aB m aD aA n) aG n t, F]) ?_ ?_
 refine sr ?_
 refine va O O (ag (ae ?_))
 refine aK ?_
 refine fT (H' := [Row 9 1 a5.1 b6.length a5.2 dl.flatten, obj b1 49 [.slice an ab.length al, .int .i64 a1, .bool ad, str a2], Row 9 1 a0.1 a7.length a0.2 ds.flatten, obj b0 76 [.map (some m), str u, .int .i64 w, .bool aa], aF (aB m aD aA n) aG n t, Row 71 3 af.1 a8.length af.2.1 b2.flatten, (Shp af.2.2), F]) (Ent.set' 6 O (fun h x => Shp.of h x)) ?_
 refine bX (S := (List (ba)) × List (List UInt8) × Int) (HA) (fun k s => bG.l0 k s.1 s.2.1 s.2.2) (fun s y => [(0, .pointer (some ⟨b0, 0, none⟩)), (1, .pointer (some ⟨b1, 0, none⟩)), (5, .slice af.1 s.1.length af.2.1), (6, .bool g), (7, .slice a0.1 s.2.1.length a0.2), (8, .bool l), (9, .int .i64 s.2.2)]) (fun s y => [obj b1 49 [.slice an ab.length al, .int .i64 a1, .bool ad, str a2], obj b0 76 [.map (some m), str u, .int .i64 w, .bool aa], aC 71 3 (la (y)) af.1 s.1 af.2.1, aC 9 1 (V9 tt) a0.1 s.2.1 a0.2, aF (aB m aD aA n) aG n t, y, F]) (fun _ => by rw [bG.l0]) ?_ k (a8, a7, 0) (Shp af.2.2) ⟨O, O, O, O, O, O, O, trivial⟩ (.sel 1 O (.sel 2 O (.sel' 3 O (aC.mk (d9.mono gL.shp)) (.sel' 1 O (aC.mk d1) (.sel 1 O (.sel 1 O (.sel 1 O (.nil _))))))))
 intro k a b7
 refine cL (by rw [bG.l0]) ?_
 refine ap (sr ?_)
 refine vm O O ?_
 refine vm O O ?_
 refine vq (bi O O O underlying47) O ?_
 refine vq (bN O O O) O (ag (ae ?_))
 refine aL O (fun hU => ?_) (fun hV => ?_)
 refine au ?_
 refine ae ?_
 refine bO (S := Unit) (HA) (fun s y => [(0, .pointer (some ⟨b0, 0, none⟩)), (1, .pointer (some ⟨b1, 0, none⟩)), (5, .slice af.1 ((a.1.set a.2.2.toNat ((a.1.getD a.2.2.toNat aj).1, ((a.1.getD a.2.2.toNat aj).2.1) ++ ([97] : List UInt8), (a.1.getD a.2.2.toNat aj).2.2)).length) af.2.1), (6, .bool g), (7, .slice a0.1 ((a.2.1.set a.2.2.toNat ([111, 118, 101, 114] : List UInt8)).length) a0.2), (8, .bool l), (9, .int .i64 a.2.2)]) (fun s y => [obj b1 49 [.slice an ab.length al, .int .i64 a1, .bool ad, str a2], obj b0 76 [.map (some m), str u, .int .i64 w, .bool aa], aC 71 3 (la (y)) af.1 (a.1.set a.2.2.toNat ((a.1.getD a.2.2.toNat aj).1, ((a.1.getD a.2.2.toNat aj).2.1) ++ ([97] : List UInt8), (a.1.getD a.2.2.toNat aj).2.2)) af.2.1, aC 9 1 (V9 tt) a0.1 (a.2.1.set a.2.2.toNat ([111, 118, 101, 114] : List UInt8)) a0.2, aF (aB m aD aA n) aG n t, y, F]) ?_ ?_
 refine aK ?_
 refine bO (S := Unit) (Unit) (fun s y => [(0, .pointer (some ⟨b0, 0, none⟩)), (1, .pointer (some ⟨b1, 0, none⟩)), (5, .slice af.1 a.1.length af.2.1), (6, .bool g), (7, .slice a0.1 a.2.1.length a0.2), (8, .bool l), (9, .int .i64 a.2.2)]) (fun s y => [obj b1 49 [.slice an ab.length al, .int .i64 a1, .bool ad, str a2], obj b0 76 [.map (some m), str u, .int .i64 w, .bool aa], aC 71 3 (la (b7)) af.1 a.1 af.2.1, aC 9 1 (V9 tt) a0.1 a.2.1 a0.2, aF (aB m aD aA n) aG n t, b7, F]) ?_ ?_
 refine sr ?_
 refine va O O (ag (ae ?_))
 refine aK ?_
 refine bX (S := Int) (Unit) (fun k s => bG.l1 a k s) (fun s y => [(0, .pointer (some ⟨b0, 0, none⟩)), (1, .pointer (some ⟨b1, 0, none⟩)), (5, .slice af.1 a.1.length af.2.1), (6, .bool g), (7, .slice a0.1 a.2.1.length a0.2), (8, .bool l), (9, .int .i64 a.2.2), (10, .int .i64 s)]) (fun s y => [obj b1 49 [.slice an ab.length al, .int .i64 a1, .bool ad, str a2], obj b0 76 [.map (some m), str u, .int .i64 w, .bool aa], aC 71 3 (la (b7)) af.1 a.1 af.2.1, aC 9 1 (V9 tt) a0.1 a.2.1 a0.2, aF (aB m aD aA n) aG n t, b7, F]) (fun _ => by rw [bG.l1]) ?_ k 0 () ⟨O, O, O, O, O, O, O, O, trivial⟩ (.sel 0 O (.sel 0 O (.sel 0 O (.sel 0 O (.sel 0 O (.sel 0 O (.sel 0 O (.nil _))))))))
 intro k ec hW
 refine cL (by rw [bG.l1]) ?_
 refine ap (sr ?_)
 refine vm O O ?_
 refine vm O O ?_
 refine vm O O ?_
 refine bd 2 O (fun hu be => ?_)
 refine aQ (fun d2 => ?_)
 refine dP 2 O be O (i := a.2.2.toNat) (by omega) aj (fun hX hv hY fn fp g9 hcell57v => ?_)
 obtain ⟨h0, h2, rfl, ⟨hw, hx, hy⟩⟩ := fp
 refine vq (ct O O O fn underlying47 sizeOf71 d2.1 d2.2) O ?_
 refine vq (aw O O underlying71 O O sizeOf25 O) O ?_
 refine vq (ai O O isAgg25 (hcell57v 2 O 1 _ O)) O ?_
 refine vq (bi O O O underlying25) O ?_
 refine vq (bN O O O) O (ag (ae ?_))
 refine aL O (fun h3 => ?_) (fun h4 => ?_)
 refine au ?_
 refine ae (ap ?_)
 refine aK ?_
 refine aE ?_
 refine vm O O ?_
 refine vm O O ?_
 refine aQ (fun d3 => ?_)
 refine dP 2 O be O (i := a.2.2.toNat) (by omega) aj (fun h5 hz h6 fs fw ha hcell74v => ?_)
 obtain ⟨h7, g5, rfl, ⟨d4, d5, hA⟩⟩ := fw
 refine vq (ct O O O fs underlying47 sizeOf71 d3.1 d3.2) O ?_
 refine vq (aw O O underlying71 O O sizeOf25 O) O ?_
 refine vq (ai O O isAgg25 (hcell74v 2 O 1 _ O)) O ?_
 refine vm O O ?_
 refine aQ (fun d6 => ?_)
 refine xm 5 O d4 (by have := d5; omega) (fun h8 hB d7 => ?_)
 refine vq (el O O O d7 underlying25 sizeOf5 d6.1 d6.2) O ?_
 refine aX (wo (c := g5) (j := ec.toNat) 5 O O O sizeOf5 O (aY (by rfl)) O d4 d7 (by have := d5; omega)) O O ?_
 intro _
 refine ag (bb (ae (aE ?_)))
 refine vm O O ?_
 refine vq (bj O O O) O ?_
 refine va O O (ag ?_)
 exact bu (s := IntKind.i64.wrap (ec + 1)) () ⟨O, O, O, O, O, O, O, O, trivial⟩ (.sel 0 O (.sel 0 O (.sel' 0 O (aC.mk be) (.sel 0 O (.sel 0 O (.sel 0 O (.sel 0 O (.nil _))))))))
 refine ck ?_
 refine bQ ?_
 refine bY ?_
 refine bR ?_
 exact aM (s := ()) () ⟨O, O, O, O, O, O, O, trivial⟩ (.sel 0 O (.sel 0 O (.sel' 0 O (aC.mk be) (.sel 0 O (.sel 0 O (.sel 0 O (.sel 0 O (.nil _))))))))
 intro h9 ic
 refine sr ?_
 refine vm O O ?_
 refine vm O O ?_
 refine vm O O ?_
 refine vm O O ?_
 refine bd 2 O (fun hC b8 => ?_)
 refine aQ (fun d8 => ?_)
 refine dP 2 O b8 O (i := a.2.2.toNat) (by omega) aj (fun ih hE it fz go hb hcell91v => ?_)
 obtain ⟨jg, j0, rfl, ⟨gs, gy, g0⟩⟩ := go
 refine vq (ct O O O fz underlying47 sizeOf71 d8.1 d8.2) O ?_
 refine vq (aw O O underlying71 O O sizeOf25 O) O ?_
 refine vq (ai O O isAgg25 (hcell91v 2 O 1 _ O)) O ?_
 refine ah (jD (cs := [.int .u8 97]) ([97] : List UInt8) O O underlying25 eP O (by kernel_rfl) O O O) O O O ?_
 intro j1
 refine aQ (fun ed => ?_)
 refine ah (vk 6 O O O underlying25 eP O gs gy g0 (Rds.row 0 O) (by simp) ed) O O O ?_
 intro bs
 refine jF (fun b3 => ?_)
 refine jF (fun b9 => ?_)
 refine aQ (fun cd => ?_)
 refine dP 3 O (b8.mono (la.up b9)) O (i := a.2.2.toNat) (by omega) aj (fun hF hc hG ch ef g7 hcell112v => ?_)
 obtain ⟨hH, hI, rfl, ⟨he, hf, hg⟩⟩ := ef
 refine vq (ct O O O ch underlying47 sizeOf71 cd.1 cd.2) O ?_
 refine vq (aw O O underlying71 O O sizeOf25 O) O ?_
 refine aX (hZ (V := (la (bs.2.2))) ((a.1.getD a.2.2.toNat aj).1, ((a.1.getD a.2.2.toNat aj).2.1) ++ ([97] : List UInt8), (a.1.getD a.2.2.toNat aj).2.2) 1 aj 3 rfl rfl rfl sizeOf25 rfl rfl (aY (by rfl)) rfl (b8.mono (la.up b9)) ch (by omega) rfl (fun r hr _ _ => by obtain ⟨a1', c1', rfl, h1'⟩ := hr; exact ⟨bs.1, bs.2.1, rfl, ⟨b3.1, b3.2.1, b3.2.2⟩⟩)) rfl rfl ?_
 intro _
 refine eE (.slice af.1 ((a.1.set a.2.2.toNat ((a.1.getD a.2.2.toNat aj).1, ((a.1.getD a.2.2.toNat aj).2.1) ++ ([97] : List UInt8), (a.1.getD a.2.2.toNat aj).2.2)).length) af.2.1) (d := 5) O (fm (by simp)) ?_
 refine eE (.slice af.1 ((a.1.set a.2.2.toNat ((a.1.getD a.2.2.toNat aj).1, ((a.1.getD a.2.2.toNat aj).2.1) ++ ([97] : List UInt8), (a.1.getD a.2.2.toNat aj).2.2)).length) af.2.1) (d := 49) O (fm (by simp)) ?_
 refine eE (.slice af.1 ((a.1.set a.2.2.toNat ((a.1.getD a.2.2.toNat aj).1, ((a.1.getD a.2.2.toNat aj).2.1) ++ ([97] : List UInt8), (a.1.getD a.2.2.toNat aj).2.2)).length) af.2.1) (d := 51) O (fm (by simp)) ?_
 refine ny ?_
 refine vm O O ?_
 refine vm O O ?_
 refine bd 4 O (fun hh c0 => ?_)
 refine aQ (fun c1 => ?_)
 refine dP 4 O c0 O (i := a.2.2.toNat) (by omega) ([] : List UInt8) (fun hK hi hL c2 eg g8 hcell125v => ?_)
 obtain rfl := eg
 refine vq (ct O O O c2 underlying90 sizeOf9 c1.1 c1.2) O ?_
 refine aX (hZ (V := (V9 tt)) ([111, 118, 101, 114] : List UInt8) 0 ([] : List UInt8) 4 O O O sizeOf9 O O (aY (by rfl)) O c0 c2 (by omega) O (fun r hr _ _ => by cases (show r = _ from hr); exact O)) O O ?_
 intro _
 refine eE (.slice a0.1 ((a.2.1.set a.2.2.toNat ([111, 118, 101, 114] : List UInt8)).length) a0.2) (d := 7) O (fm (by simp)) ?_
 refine eE (.slice a0.1 ((a.2.1.set a.2.2.toNat ([111, 118, 101, 114] : List UInt8)).length) a0.2) (d := 60) O (fm (by simp)) ?_
 refine ag (bb ?_)
 exact aM (s := ()) bs.2.2 ⟨O, O, O, O, O, O, O, trivial⟩ (.sel 1 O (.sel 1 O (.sel 1 O (.sel 1 O (.sel 1 O (.sel 1 O (.sel 1 O (.nil _))))))))
 intro j2 g6
 refine aE ?_
 refine vm O O ?_
 refine vq (bj O O O) O ?_
 refine va O O (ag ?_)
 exact bu (s := (a.1.set a.2.2.toNat ((a.1.getD a.2.2.toNat aj).1, ((a.1.getD a.2.2.toNat aj).2.1) ++ ([97] : List UInt8), (a.1.getD a.2.2.toNat aj).2.2), a.2.1.set a.2.2.toNat ([111, 118, 101, 114] : List UInt8), IntKind.i64.wrap (a.2.2 + 1))) g6 ⟨O, O, O, O, O, O, O, trivial⟩ (.sel 0 O (.sel 0 O (.sel 0 O (.sel 0 O (.sel 0 O (.sel 0 O (.sel 0 O (.nil _))))))))
 refine ck ?_
 refine bQ ?_
 refine bY ?_
 refine bR ?_
 exact aM (s := ()) () ⟨O, O, O, O, trivial⟩ (.sel 0 O (.sel 0 O (.sel 2 O (.sel 3 O (.nil _)))))
 intro j3 j4
 refine ap ?_
 refine cu (fun a4 ek => ?_)
 refine cu (fun e em => ?_)
 refine bp (Γ := (Option Addr × Nat × HA)) (none, 0, tt) [[], [0], [], [2], [2, 3], [2, 3, 4], rL 6, rL 7] [1, 6] [0, 2, 3, 4, 5, 7] (fun i => [[0], [], [0, 1], [0, 1], [0, 1], [0, 1], [], [2]].getD i []) (fun i => [[], [0, 2, 3, 4, 5], [], [], [], [], rL 6, []].getD i []) (fun γ i => [.pointer (some ⟨b0, 0, none⟩), .slice γ.1 a4.length γ.2.1, .pointer (some ⟨b1, 0, none⟩), .pointer (some ⟨b1, 0, none⟩), .pointer (some ⟨b1, 0, none⟩), .slice an ab.length al, .bool e, .bool e].getD i undef) (fun j γ => [[obj b1 49 [.slice an ab.length al, .int .i64 a1, .bool ad, str a2], obj b0 76 [.map (some m), str u, .int .i64 w, .bool aa], aF (aB m aD aA n) aG n t, F], [aC 71 3 (gL (γ.2.2)) γ.1 a4 γ.2.1, γ.2.2, obj b0 76 [.map (some m), str u, .int .i64 w, .bool aa], aF (aB m aD aA n) aG n t, obj b1 49 [.slice an ab.length al, .int .i64 a1, .bool ad, str a2], F], [aC 71 3 (gL (γ.2.2)) γ.1 a4 γ.2.1, γ.2.2, obj b0 76 [.map (some m), str u, .int .i64 w, .bool aa], aF (aB m aD aA n) aG n t, obj b1 49 [.slice an ab.length al, .int .i64 a1, .bool ad, str a2], F]].getD j []) (fun γ => [(0, .pointer (some ⟨b0, 0, none⟩)), (1, .pointer (some ⟨b1, 0, none⟩)), (6, .bool g), (8, .bool l), (11, .bool e)]) mixed (by decide) (by decide) (by decide) (by decide) (by decide) (by decide) (by decide) 93 O (by decide) (by decide) (by decide) (Ent.refl _) ?_ ?_ (fun _ => ⟨O, O, O, O, O, trivial⟩) ?_
 exact (aq O (fun γ => qm O (.o (s := 0) O (by decide) .nil) O) (ac (fun γ => (ac (qm O (.o (s := 1) O (by decide) .nil) O) (ac (qm O (.o (s := 1) O (by decide) .nil) O) zA))) (ac (fun γ => (ac (qp O O (.v 2 O O .nil) (cj O O) O) (ac (qp O O (.v 2 O O .nil) (cj O O) O) zA))) (ac (fun γ => (ac (qp O O (.v 3 O O .nil) (aw O O underlying49 O O sizeOf47 O) O) (ac (qp O O (.v 3 O O .nil) (aw O O underlying49 O O sizeOf47 O) O) zA))) (ac (fun γ => (ac (qp O O (.v 4 O O .nil) (ai O O isAgg47 (.obj 0 O O)) O) (ac (qp O O (.v 4 O O .nil) (ai O O isAgg47 (.obj 4 O O)) O) zA))) (aq O (fun γ => qp O O (.v 6 O O .nil) (dA O O) O) zA))))))
 exact (ac (fun γ => eo (Z := Option Addr × Nat × HA) (fun z => z) O O (.v 0 O O .nil) (ar (vs := [.pointer (some ⟨b0, 0, none⟩)]) (cap := []) (A := [obj b0 76 [.map (some m), str u, .int .i64 w, .bool aa], aF (aB m aD aA n) aG n t]) (rst := [obj b1 49 [.slice an ab.length al, .int .i64 a1, .bool ad, str a2], F]) O O O O O O call32 (.sel 1 O (.sel 1 O (.sel 0 O (.sel 0 O (.nil _))))) (cp.calls _ _ k b0 m n t u w aa ) ek) (fun _ => ⟨O, O, O, O, O, trivial⟩) (fun _ => .inr O) (fun z => Ent.refl _)) (ac (fun γ => eo (Z := Unit) (fun z => γ) O O (.v 1 O O (.v 5 O O .nil)) (RE.openV 0 O (fun c3 b4 => RE.lend 0 O (fun en ep er hj => ar (val := fun (r : Bool) (y : Unit) => .bool r) (B := fun _ _ => []) (vs := [.slice γ.1 a4.length γ.2.1, .slice an ab.length al]) (cap := []) (A := []) (rst := [Row 71 3 γ.1 a4.length γ.2.1 c3.flatten, γ.2.2, obj b0 76 [.map (some m), str u, .int .i64 w, .bool aa], aF (aB m aD aA n) aG n t, obj b1 49 [.slice an ab.length al, .int .i64 a1, .bool ad, str a2], F]) O O O O O O call60 (.sel 0 O (.sel 0 O (.sel 0 O (.sel 0 O (.sel 0 O (.sel 0 O (.nil _))))))) (bA.calls _ _ k γ.1 γ.2.1 a4 an al ab ((Rd.asV (b4.mono gL.rd) en).up (Up.lend 0 O) (V71.up (Up.lend 1 O))) ep er (b5.up (Up.lend 5 O) (V71.up (Up.lend 5 O))) a9 bc) em)) (fun c3 b4 _ => (.sel' 0 O (aC.mk b4) (.sel 0 O (.sel 0 O (.sel 0 O (.sel 0 O (.sel 0 O (.nil _))))))))) (fun _ => ⟨O, O, O, O, O, O, trivial⟩) (fun _ => .inr O) (fun z => Ent.refl _)) zA))
 intro a3
 refine ae (ap ?_)
 refine fB 0 O (fun a6 hk => ?_)
 refine cu (fun p c4 => ?_)
 refine cu (fun q c5 => ?_)
 refine bp (Γ := Unit) () [[], [0], [0, 1], [0, 1, 2], rL 4, rL 5, rL 6, rL 7, rL 8, rL 9, rL 8, rL 11, rL 12, rL 13, rL 14, rL 15, rL 16, rL 15, [0, 1, 2, 3, 4, 5, 6, 7, 8, 9, 10, 11, 12, 13, 14, 17], [0, 1, 2, 3, 4, 5, 6, 7, 8, 9, 10, 11, 12, 13, 14, 17, 18], [0, 1, 2, 3, 4, 5, 6, 7, 8, 9, 10, 11, 12, 13, 14, 17, 18, 19], rL 21, rL 22, rL 23] [] [0, 1, 2, 3, 4, 5, 6, 7, 8, 9, 10, 11, 12, 13, 14, 15, 16, 17, 18, 19, 20, 21, 22, 23] (fun i => [[0], [0], [0], [0], [0], [0], [0], [0], [0], [0], [0], [0], [0], [0], [0], [0], [0], [0], [0], [0], [0], [0], [0], [0]].getD i []) (fun i => [[], [], [], [], [], [], [], [], [], [], [], [], [], [], [], [], [], [], [], [], [], [], [], []].getD i []) (fun γ i => [.bool g, .bool g, cv (g == true) (.bool l), .bool (g && l), .bool (g && l), cv ((g && l) == true) (.bool e), .bool ((g && l) && e), .bool ((g && l) && e), cv (((g && l) && e) == true) (.pointer (some ⟨b0, 0, none⟩)), cv (((g && l) && e) == true) (.int .i64 p), cv (((g && l) && e) == true) (.pointer (some ⟨b1, 0, none⟩)), cv (((g && l) && e) == true) (.int .i64 q), cv (((g && l) && e) == true) (.bool (decide (p = q))), .bool (((g && l) && e) && (decide (p = q))), .bool (((g && l) && e) && (decide (p = q))), cv ((((g && l) && e) && (decide (p = q))) == true) (.pointer (some ⟨b0, 0, none⟩)), cv ((((g && l) && e) && (decide (p = q))) == true) (.bool (cc.v t u w aa)), cv ((((g && l) && e) && (decide (p = q))) == true) (.pointer (some ⟨b1, 0, none⟩)), cv ((((g && l) && e) && (decide (p = q))) == true) (.pointer (some ⟨b1, 0, none⟩)), cv ((((g && l) && e) && (decide (p = q))) == true) (.pointer (some ⟨b1, 2, none⟩)), cv ((((g && l) && e) && (decide (p = q))) == true) (.bool ad), cv ((((g && l) && e) && (decide (p = q))) == true) (.bool ((cc.v t u w aa) == ad)), .bool ((((g && l) && e) && (decide (p = q))) && ((cc.v t u w aa) == ad)), .bool ((((g && l) && e) && (decide (p = q))) && ((cc.v t u w aa) == ad))].getD i undef) (fun j γ => [[Row 71 3 a3.1 a4.length a3.2.1 a6.flatten, a3.2.2, obj b0 76 [.map (some m), str u, .int .i64 w, .bool aa], aF (aB m aD aA n) aG n t, obj b1 49 [.slice an ab.length al, .int .i64 a1, .bool ad, str a2], F]].getD j []) (fun γ => [(4, .bool ((((g && l) && e) && (decide (p = q))) && ((cc.v t u w aa) == ad)))]) mixed (by decide) (by decide) (by decide) (by decide) (by decide) (by decide) (by decide) 93 O (by decide) (by decide) (by decide) (Ent.refl _) ?_ ?_ (fun _ => ⟨O, trivial⟩) ?_
 exact (aq O (fun γ => qm O (.o (s := 6) O (by decide) .nil) O) (aq O (fun γ => qm O (.v 0 O O .nil) O) (aq O (fun γ => QOb.grd (b := g) [(8, .bool l), (71, .bool g)] O O O O (.o (s := 8) O (by decide) (.v 1 O O .nil)) (fun hl => RQ.sub (E' := [(8, .bool l)]) ⟨O, trivial⟩ (aS O O)) O) (aq O (fun γ => qp O O (.v 1 O O (.v 2 O O .nil)) (dQ O O O) O) (aq O (fun γ => qm O (.v 3 O O .nil) O) (aq O (fun γ => QOb.grd (b := g && l) [(11, .bool e), (74, .bool (g && l))] O O O O (.o (s := 11) O (by decide) (.v 4 O O .nil)) (fun hm => RQ.sub (E' := [(11, .bool e)]) ⟨O, trivial⟩ (aS O O)) O) (aq O (fun γ => qp O O (.v 4 O O (.v 5 O O .nil)) (dQ O O O) O) (aq O (fun γ => qm O (.v 6 O O .nil) O) (aq O (fun γ => QOb.grd (b := (g && l) && e) [(0, .pointer (some ⟨b0, 0, none⟩)), (77, .bool ((g && l) && e))] O O O O (.o (s := 0) O (by decide) (.v 7 O O .nil)) (fun hn => RQ.sub (E' := [(0, .pointer (some ⟨b0, 0, none⟩))]) ⟨O, trivial⟩ (aS O O)) O) (aq O (fun γ => QOb.grd (b := (g && l) && e) [(77, .bool ((g && l) && e)), (78, cv (((g && l) && e) == true) (.pointer (some ⟨b0, 0, none⟩)))] O O O O (.v 7 O O (.v 8 O O .nil)) (fun c6 => RQ.sub (E' := [(78, .pointer (some ⟨b0, 0, none⟩))]) ⟨aZ O c6, trivial⟩ (RE.rq (ar (vs := [.pointer (some ⟨b0, 0, none⟩)]) (cap := []) (A := [obj b0 76 [.map (some m), str u, .int .i64 w, .bool aa], aF (aB m aD aA n) aG n t]) (rst := [Row 71 3 a3.1 a4.length a3.2.1 a6.flatten, a3.2.2, obj b1 49 [.slice an ab.length al, .int .i64 a1, .bool ad, str a2], F]) O O O O O O call62 (.sel 2 O (.sel 2 O (.sel 0 O (.sel 0 O (.sel 0 O (.sel 0 O (.nil _))))))) (fd.calls _ _ b0 m n t u w aa ) (by rw [if_pos c6] at c4; exact c4)) (fun _ => O) (fun _ => (.sel 2 O (.sel 2 O (.sel 0 O (.sel 0 O (.sel 0 O (.sel 0 O (.nil _)))))))))) O) (aq O (fun γ => QOb.grd (b := (g && l) && e) [(1, .pointer (some ⟨b1, 0, none⟩)), (77, .bool ((g && l) && e))] O O O O (.o (s := 1) O (by decide) (.v 7 O O .nil)) (fun ho => RQ.sub (E' := [(1, .pointer (some ⟨b1, 0, none⟩))]) ⟨O, trivial⟩ (aS O O)) O) (aq O (fun γ => QOb.grd (b := (g && l) && e) [(77, .bool ((g && l) && e)), (80, cv (((g && l) && e) == true) (.pointer (some ⟨b1, 0, none⟩)))] O O O O (.v 7 O O (.v 10 O O .nil)) (fun c7 => RQ.sub (E' := [(80, .pointer (some ⟨b1, 0, none⟩))]) ⟨aZ O c7, trivial⟩ (RE.rq (ar (vs := [.pointer (some ⟨b1, 0, none⟩)]) (cap := []) (A := [obj b1 49 [.slice an ab.length al, .int .i64 a1, .bool ad, str a2]]) (rst := [Row 71 3 a3.1 a4.length a3.2.1 a6.flatten, a3.2.2, obj b0 76 [.map (some m), str u, .int .i64 w, .bool aa], aF (aB m aD aA n) aG n t, F]) O O O O O O call63 (.sel 4 O (.sel 0 O (.sel 0 O (.sel 0 O (.sel 0 O (.sel 0 O (.nil _))))))) (bx.calls _ _ k b1 an al ab a1 ad a2 (b5.up (Up.lend 4 O) (V71.up (Up.lend 4 O))) a9 bc) (by rw [if_pos c7] at c5; exact c5)) (fun _ => O) (fun _ => (.sel 1 O (.sel 1 O (.sel 1 O (.sel 1 O (.sel 0 O (.sel 0 O (.nil _)))))))))) O) (aq O (fun γ => QOb.grd (b := (g && l) && e) [(77, .bool ((g && l) && e)), (79, cv (((g && l) && e) == true) (.int .i64 p)), (81, cv (((g && l) && e) == true) (.int .i64 q))] O O O O (.v 7 O O (.v 9 O O (.v 11 O O .nil))) (fun c8 => RQ.sub (E' := [(79, .int .i64 p), (81, .int .i64 q)]) ⟨aZ O c8, aZ O c8, trivial⟩ (bD O O O)) O) (aq O (fun γ => qp O O (.v 7 O O (.v 12 O O .nil)) (dQ O O O) O) (aq O (fun γ => qm O (.v 13 O O .nil) O) (aq O (fun γ => QOb.grd (b := ((g && l) && e) && (decide (p = q))) [(0, .pointer (some ⟨b0, 0, none⟩)), (84, .bool (((g && l) && e) && (decide (p = q))))] O O O O (.o (s := 0) O (by decide) (.v 14 O O .nil)) (fun hp => RQ.sub (E' := [(0, .pointer (some ⟨b0, 0, none⟩))]) ⟨O, trivial⟩ (aS O O)) O) (aq O (fun γ => QOb.grd (b := ((g && l) && e) && (decide (p = q))) [(84, .bool (((g && l) && e) && (decide (p = q)))), (85, cv ((((g && l) && e) && (decide (p = q))) == true) (.pointer (some ⟨b0, 0, none⟩)))] O O O O (.v 14 O O (.v 15 O O .nil)) (fun es => RQ.sub (E' := [(85, .pointer (some ⟨b0, 0, none⟩))]) ⟨aZ O es, trivial⟩ (RE.rq (ar (vs := [.pointer (some ⟨b0, 0, none⟩)]) (cap := []) (A := [obj b0 76 [.map (some m), str u, .int .i64 w, .bool aa], aF (aB m aD aA n) aG n t]) (rst := [Row 71 3 a3.1 a4.length a3.2.1 a6.flatten, a3.2.2, obj b1 49 [.slice an ab.length al, .int .i64 a1, .bool ad, str a2], F]) O O O O O O call64 (.sel 2 O (.sel 2 O (.sel 0 O (.sel 0 O (.sel 0 O (.sel 0 O (.nil _))))))) (cc.calls _ _ b0 m n t u w aa ) (cc.tot t u w aa)) (fun _ => O) (fun _ => (.sel 2 O (.sel 2 O (.sel 0 O (.sel 0 O (.sel 0 O (.sel 0 O (.nil _)))))))))) O) (aq O (fun γ => QOb.grd (b := ((g && l) && e) && (decide (p = q))) [(1, .pointer (some ⟨b1, 0, none⟩)), (84, .bool (((g && l) && e) && (decide (p = q))))] O O O O (.o (s := 1) O (by decide) (.v 14 O O .nil)) (fun hq => RQ.sub (E' := [(1, .pointer (some ⟨b1, 0, none⟩))]) ⟨O, trivial⟩ (aS O O)) O) (aq O (fun γ => QOb.grd (b := ((g && l) && e) && (decide (p = q))) [(84, .bool (((g && l) && e) && (decide (p = q)))), (87, cv ((((g && l) && e) && (decide (p = q))) == true) (.pointer (some ⟨b1, 0, none⟩)))] O O O O (.v 14 O O (.v 17 O O .nil)) (fun et => RQ.sub (E' := [(87, .pointer (some ⟨b1, 0, none⟩))]) ⟨aZ O et, trivial⟩ (cj O O)) O) (aq O (fun γ => QOb.grd (b := ((g && l) && e) && (decide (p = q))) [(84, .bool (((g && l) && e) && (decide (p = q)))), (88, cv ((((g && l) && e) && (decide (p = q))) == true) (.pointer (some ⟨b1, 0, none⟩)))] O O O O (.v 14 O O (.v 18 O O .nil)) (fun ez => RQ.sub (E' := [(88, .pointer (some ⟨b1, 0, none⟩))]) ⟨aZ O ez, trivial⟩ (aw O O underlying49 O O sizeOf4 O)) O) (aq O (fun γ => QOb.grd (b := ((g && l) && e) && (decide (p = q))) [(84, .bool (((g && l) && e) && (decide (p = q)))), (89, cv ((((g && l) && e) && (decide (p = q))) == true) (.pointer (some ⟨b1, 2, none⟩)))] O O O O (.v 14 O O (.v 19 O O .nil)) (fun eA => RQ.sub (E' := [(89, .pointer (some ⟨b1, 2, none⟩))]) ⟨aZ O eA, trivial⟩ (ai O O isAgg4 (.obj 4 O O))) O) (aq O (fun γ => QOb.grd (b := ((g && l) && e) && (decide (p = q))) [(84, .bool (((g && l) && e) && (decide (p = q)))), (86, cv ((((g && l) && e) && (decide (p = q))) == true) (.bool (cc.v t u w aa))), (90, cv ((((g && l) && e) && (decide (p = q))) == true) (.bool ad))] O O O O (.v 14 O O (.v 16 O O (.v 20 O O .nil))) (fun c9 => RQ.sub (E' := [(86, .bool (cc.v t u w aa)), (90, .bool ad)]) ⟨aZ O c9, aZ O c9, trivial⟩ (xO O O O underlying4)) O) (aq O (fun γ => qp O O (.v 14 O O (.v 21 O O .nil)) (dQ O O O) O) (aq O (fun γ => qp O O (.v 22 O O .nil) (dA O O) O) zA))))))))))))))))))))))))
 exact zA
 intro hM
 refine ae (ak ?_)
 exact av () O O O (.sel 2 O (.sel 2 O (.sel 2 O (.sel 2 O (.nil _)))))

def cn.l0 (x0 : List (oj)) : Nat → Int → List (ba) → Int → Bool → List UInt8 → List ((List UInt8) × (List UInt8 × Int)) → List UInt8 → Int → Bool → Option ((Unit) ⊕ (Bool))
  | 0, _, _, _, _, _, _, _, _, _ => none
  | k + 1, b, j, l, m, n, o, p, q, r => if b < (x0.length : Int) then (if 0 ≤ b ∧ b < (x0.length : Int) then ((gj.f k o p q r j l m n ((x0.getD b.toNat cg).1) ((x0.getD b.toNat cg).2.1) ((x0.getD b.toNat cg).2.2.1) ((x0.getD b.toNat cg).2.2.2.1) ((x0.getD b.toNat cg).2.2.2.2.1) ((x0.getD b.toNat cg).2.2.2.2.2.1) ((x0.getD b.toNat cg).2.2.2.2.2.2.1) ((x0.getD b.toNat cg).2.2.2.2.2.2.2.1) ((x0.getD b.toNat cg).2.2.2.2.2.2.2.2.1) ((x0.getD b.toNat cg).2.2.2.2.2.2.2.2.2)).bind fun a => ((dJ.f k a.2.1 a.2.2.1 a.2.2.2.1 a.2.2.2.2.1).bind fun c => ((cN.f k a.2.2.2.2.2.1 a.2.2.2.2.2.2.1 a.2.2.2.2.2.2.2.1 a.2.2.2.2.2.2.2.2).bind fun d => ((eD.f k c.1 c.2.1 c.2.2.1 d.1 d.2.1 d.2.2.1).bind fun s => ((di.f k a.2.1 a.2.2.1 a.2.2.2.1 a.2.2.2.2.1).bind fun t => ((cb.f k a.2.2.2.2.2.1 a.2.2.2.2.2.2.1 a.2.2.2.2.2.2.2.1 a.2.2.2.2.2.2.2.2).bind fun u => ((cw.f k t u).bind fun v => ((if ((((!a.1) || (!s)) || (!v)) || (!decide (c.2.2.2.1 = d.2.2.2.1))) = true then (some true) else ((aH.f c.2.2.2.2).bind fun e => (some (!decide (e = d.2.2.2.2))))).bind fun g => ((if g = true then (some true) else ((bG.f k a.2.1 a.2.2.1 a.2.2.2.1 a.2.2.2.2.1 a.2.2.2.2.2.1 a.2.2.2.2.2.2.1 a.2.2.2.2.2.2.2.1 a.2.2.2.2.2.2.2.2).bind fun h => (some (!h)))).bind fun i => (if i = true then (some (.inr false)) else (cn.l0 x0 k (IntKind.i64.wrap (b + 1)) a.2.2.2.2.2.1 a.2.2.2.2.2.2.1 a.2.2.2.2.2.2.2.1 a.2.2.2.2.2.2.2.2 a.2.1 a.2.2.1 a.2.2.2.1 a.2.2.2.2.1))))))))))) else none) else (some (.inl ()))
def cn.f (k : Nat) (x0 : List (oj)) : Option (Bool) := (fP.f k).bind fun b => ((dh.f k x0).bind fun c => (if ((!b) || (!c)) = true then (some b) else ((iW.f).bind fun a => (orR (cn.l0 x0 k 0 ([] : List (ba)) 0 false ([] : List UInt8) a.1 a.2.1 a.2.2.1 a.2.2.2) fun d => (some true)))))
theorem cn.calls (W : World) (F : HA) (k : Nat) (a0 : Option Addr) (c0 : Nat) (x0 : List (oj)) (h0 : RdV F 10 (V54 F) a0 x0) (e5 : x0.length ≤ c0) (e6 : c0 ≤ maxLen) (hgl : Glb Tryz.prog F) :
    Fn Tryz.prog W 4 [.slice a0 x0.length c0] [] F (cn.f k x0) (fun (r : Bool) (y : Unit) => .bool r) (fun r y => []) := by
 unfold cn.f
 refine aJ 90 Tryz.func4 O Tryz.ntmps4 O ?_
 refine sr ?_
 refine va O O (nx ?_)
 refine am (fun e1 e3 => ?_)
 refine ah (ar (vs := []) (cap := []) (A := []) (rst := [F]) O O O O O O call8 (.sel 0 O (.nil _)) (fP.calls _ _ k  (hgl.lend 0 O)) e3) O O O ?_
 intro hm
 refine va O O (nx ?_)
 refine vm O O ?_
 refine am (fun e2 e4 => ?_)
 refine ah (ar (vs := [.slice a0 x0.length c0]) (cap := []) (A := []) (rst := [F]) O O O O O O call19 (.sel 0 O (.nil _)) (dh.calls _ _ k a0 c0 x0 (h0.up (Up.lend 0 O) (V54.up (Up.lend 0 O))) e5 e6) e4) O O O ?_
 intro hn
 refine va O O (ag (ae (ap (sr ?_))))
 refine vm O O ?_
 refine vq (fE O O) O ?_
 refine vm O O ?_
 refine az (b := !e1) (fun e7 => RQ.sub (E' := [(4, .bool e2)]) ⟨O, trivial⟩ (aS O O)) O O O O O ?_
 refine az (b := !e1) (fun a5 => RQ.sub (E' := [(23, .bool e2)]) ⟨aZ O a5, trivial⟩ (fE O O)) O O O O O ?_
 refine vq (hP O O O) O (ag (ae ?_))
 refine aT O (fun ho => ?_) (fun hp => ?_)
 refine sr ?_
 refine vm O O ?_
 refine va O O (ag (ae (ak ?_)))
 refine ax ?_
 exact av () O O O (.sel 0 O (.nil _))
 refine au ?_
 refine ae (sr ?_)
 refine am (fun a1 b9 => ?_)
 refine ah (ar (vs := []) (cap := []) (A := []) (rst := [F]) O O O O O O call9 (.sel 0 O (.nil _)) (iW.calls _ _  ) b9) O O O ?_
 intro m
 refine va O O (nx ?_)
 refine vq (eb (v := .agg #[.slice none 0 0, .int .i64 0, .bool false, str ([] : List UInt8)]) O O (fun _ => by kernel_rfl)) O ?_
 refine ah (dL O O O) O O O ?_
 intro o
 refine va O O (ag (ae ?_))
 refine fx (S := Unit) (Unit) (fun s y => []) (fun s y => [F]) ?_ ?_
 refine sr ?_
 refine va O O (ag (ae ?_))
 refine aK ?_
 refine bX (S := Int × (List (ba)) × Int × Bool × List UInt8 × (List ((List UInt8) × (List UInt8 × Int))) × List UInt8 × Int × Bool) (HA × Option Addr × Nat × Nat × Kps) (fun k s => cn.l0 x0 k s.1 s.2.1 s.2.2.1 s.2.2.2.1 s.2.2.2.2.1 s.2.2.2.2.2.1 s.2.2.2.2.2.2.1 s.2.2.2.2.2.2.2.1 s.2.2.2.2.2.2.2.2) (fun s y => [(0, .slice a0 x0.length c0), (5, .pointer (some ⟨m.1, 0, none⟩)), (6, .pointer (some ⟨o, 0, none⟩)), (7, .int .i64 s.1)]) (fun s y => [obj o 49 [.slice y.2.1 s.2.1.length y.2.2.1, .int .i64 s.2.2.1, .bool s.2.2.2.1, str s.2.2.2.2.1], obj m.1 76 [.map (some y.2.2.2.1), str s.2.2.2.2.2.2.1, .int .i64 s.2.2.2.2.2.2.2.1, .bool s.2.2.2.2.2.2.2.2], aC 71 3 (V71 (y.1)) y.2.1 s.2.1 y.2.2.1, aF (aB y.2.2.2.1 aD aA y.2.2.2.2) aG y.2.2.2.2 s.2.2.2.2.2.1, y.1, F]) (fun _ => by rw [cn.l0]) ?_ k (0, ([] : List (ba)), 0, false, ([] : List UInt8), a1.1, a1.2.1, a1.2.2.1, a1.2.2.2) (tt, none, 0, m.2.1, m.2.2) ⟨O, O, O, O, trivial⟩ (.sel 0 O (.sel 0 O (.rowV_nil (.sel 0 O (.tt_in (.sel 0 O (.nil _)))))))
 intro k d p
 refine cL (by rw [cn.l0]) ?_
 refine ap (sr ?_)
 refine vm O O ?_
 refine vm O O ?_
 refine vq (bi O O O underlying44) O ?_
 refine vq (bN O O O) O (ag (ae ?_))
 refine aL O (fun he => ?_) (fun hf => ?_)
 refine au ?_
 refine ae (ap ?_)
 refine aK ?_
 refine sr ?_
 refine vm O O ?_
 refine vm O O ?_
 refine vm O O ?_
 refine vm O O ?_
 refine aQ (fun a2 => ?_)
 obtain ⟨hg, fz, hh, cd, ch, e8, hcell35v⟩ := RdV.pos h0 (Up.refl _) rfl (i := d.1.toNat) (by omega) cg
 obtain ⟨a6, a7, a8, a9, rfl, ⟨cs, c1, c2⟩, ⟨c3, c4, c5⟩⟩ := ch
 refine vq (ct O O O cd underlying44 sizeOf54 a2.1 a2.2) O ?_
 refine vq (lL O O isAgg54 sizeOf54 O (fun j v hj => hcell35v 5 O j v hj)) O ?_
 refine bd 2 O (fun go c6 => ?_)
 refine am (fun a c7 => ?_)
 refine ah (ar (vs := [.pointer (some ⟨m.1, 0, none⟩), .pointer (some ⟨o, 0, none⟩), .agg #[.int .i64 ((x0.getD d.1.toNat cg).1), .int .i64 ((x0.getD d.1.toNat cg).2.1), .int .i64 ((x0.getD d.1.toNat cg).2.2.1), .int .i64 ((x0.getD d.1.toNat cg).2.2.2.1), .slice a6 (((x0.getD d.1.toNat cg).2.2.2.2.1).length) a7, .int .i64 ((x0.getD d.1.toNat cg).2.2.2.2.2.1), .int .i64 ((x0.getD d.1.toNat cg).2.2.2.2.2.2.1), str ((x0.getD d.1.toNat cg).2.2.2.2.2.2.2.1), str ((x0.getD d.1.toNat cg).2.2.2.2.2.2.2.2.1), .slice a8 (((x0.getD d.1.toNat cg).2.2.2.2.2.2.2.2.2).length) a9]]) (cap := []) (A := [obj m.1 76 [.map (some p.2.2.2.1), str d.2.2.2.2.2.2.1, .int .i64 d.2.2.2.2.2.2.2.1, .bool d.2.2.2.2.2.2.2.2], aF (aB p.2.2.2.1 aD aA p.2.2.2.2) aG p.2.2.2.2 d.2.2.2.2.2.1, obj o 49 [.slice p.2.1 d.2.1.length p.2.2.1, .int .i64 d.2.2.1, .bool d.2.2.2.1, str d.2.2.2.2.1], aC 71 3 (V71 (p.1)) p.2.1 d.2.1 p.2.2.1, p.1]) (rst := [F]) O O O O O O call20 (.sel 1 O (.sel 2 O (.sel 0 O (.sel' 0 O (aC.mk c6) (.sel 0 O (.sel 0 O (.nil _))))))) (gj.calls _ _ k m.1 p.2.2.2.1 p.2.2.2.2 d.2.2.2.2.2.1 d.2.2.2.2.2.2.1 d.2.2.2.2.2.2.2.1 d.2.2.2.2.2.2.2.2 o p.2.1 p.2.2.1 d.2.1 p.1 d.2.2.1 d.2.2.2.1 d.2.2.2.2.1 ((x0.getD d.1.toNat cg).1) ((x0.getD d.1.toNat cg).2.1) ((x0.getD d.1.toNat cg).2.2.1) ((x0.getD d.1.toNat cg).2.2.2.1) a6 a7 ((x0.getD d.1.toNat cg).2.2.2.2.1) ((x0.getD d.1.toNat cg).2.2.2.2.2.1) ((x0.getD d.1.toNat cg).2.2.2.2.2.2.1) ((x0.getD d.1.toNat cg).2.2.2.2.2.2.2.1) ((x0.getD d.1.toNat cg).2.2.2.2.2.2.2.2.1) a8 a9 ((x0.getD d.1.toNat cg).2.2.2.2.2.2.2.2.2) (cs.lend 0 O) c1 c2 (c3.lend 0 O) c4 c5 (hgl.lend 0 O)) c7) O O O ?_
 intro c
 refine va O O (nx ?_)
 refine vm O O ?_
 refine am (fun e c8 => ?_)
 refine ah (ar (vs := [.pointer (some ⟨m.1, 0, none⟩)]) (cap := []) (A := [obj m.1 76 [.map (some c.1), str a.2.2.1, .int .i64 a.2.2.2.1, .bool a.2.2.2.2.1], aF (aB c.1 aD aA c.2.1) aG c.2.1 a.2.1]) (rst := [obj o 49 [.slice c.2.2.1 a.2.2.2.2.2.1.length c.2.2.2.1, .int .i64 a.2.2.2.2.2.2.1, .bool a.2.2.2.2.2.2.2.1, str a.2.2.2.2.2.2.2.2], aC 71 3 (V71 (c.2.2.2.2)) c.2.2.1 a.2.2.2.2.2.1 c.2.2.2.1, c.2.2.2.2, F]) O O O O O O call15 (.sel 0 O (.sel 0 O (.sel 0 O (.sel 0 O (.sel 0 O (.sel 0 O (.nil _))))))) (dJ.calls _ _ k m.1 c.1 c.2.1 a.2.1 a.2.2.1 a.2.2.2.1 a.2.2.2.2.1 (hgl.lend 3 O)) c8) O O O ?_
 intro l
 refine vm O O ?_
 refine vq (bh O O O) O ?_
 refine vq (bh O O O) O ?_
 refine vq (bh O O O) O ?_
 refine ah (df O zeroValue27 O) O O O ?_
 intro x
 refine aX (aV 0 O O O sizeOf27 O O (aY (by rfl)) O O) O O ?_
 intro _
 refine va O O ?_
 refine va O O (nx ?_)
 refine vm O O ?_
 refine bd 5 O (fun u z => ?_)
 refine am (fun g c9 => ?_)
 refine bf 5 O (fun dl ds d1 gs => ?_)
 refine ah (ar (vs := [.pointer (some ⟨o, 0, none⟩)]) (cap := []) (A := [obj o 49 [.slice c.2.2.1 a.2.2.2.2.2.1.length c.2.2.2.1, .int .i64 a.2.2.2.2.2.2.1, .bool a.2.2.2.2.2.2.2.1, str a.2.2.2.2.2.2.2.2]]) (rst := [obj x 27 [.int .i64 e.1, .int .i64 e.2.1, .slice l.1 e.2.2.1.length l.2], Row 5 1 l.1 e.2.2.1.length l.2 (ao e.2.2.1), obj m.1 76 [.map (some c.1), str a.2.2.1, .int .i64 a.2.2.2.1, .bool a.2.2.2.2.1], aF (aB c.1 aD aA c.2.1) aG c.2.1 a.2.1, Row 71 3 c.2.2.1 a.2.2.2.2.2.1.length c.2.2.2.1 u.flatten, c.2.2.2.2, F]) O O O O O O call21 (.sel 4 O (.sel 0 O (.sel 0 O (.sel 0 O (.sel 0 O (.sel 0 O (.sel 0 O (.sel 0 O (.nil _))))))))) (cN.calls _ _ k o c.2.2.1 c.2.2.2.1 a.2.2.2.2.2.1 a.2.2.2.2.2.2.1 a.2.2.2.2.2.2.2.1 a.2.2.2.2.2.2.2.2 ((Rd.asV z dl).up (Up.lend 4 O) (V71.up (Up.lend 5 O))) ds d1) c9) O O O ?_
 intro n
 refine vm O O ?_
 refine vq (bh O O O) O ?_
 refine vq (bh O O O) O ?_
 refine vq (bh O O O) O ?_
 refine ah (df O zeroValue27 O) O O O ?_
 intro aa
 refine aX (aV 0 O O O sizeOf27 O O (aY (by rfl)) O O) O O ?_
 intro _
 refine va O O ?_
 refine va O O (nx ?_)
 refine vq (du 3 O O isAgg27 sizeOf27 O O) O ?_
 refine vq (du 0 O O isAgg27 sizeOf27 O O) O ?_
 refine am (fun w d2 => ?_)
 refine bf 4 O (fun d3 d4 d5 gy => ?_)
 refine bf 1 O (fun d6 d7 d8 g0 => ?_)
 refine ah (ar (vs := [.agg #[.int .i64 e.1, .int .i64 e.2.1, .slice l.1 e.2.2.1.length l.2], .agg #[.int .i64 g.1, .int .i64 g.2.1, .slice n.1 g.2.2.1.length n.2]]) (cap := []) (A := []) (rst := [obj aa 27 [.int .i64 g.1, .int .i64 g.2.1, .slice n.1 g.2.2.1.length n.2], Row 5 1 n.1 g.2.2.1.length n.2 (ao g.2.2.1), obj o 49 [.slice c.2.2.1 a.2.2.2.2.2.1.length c.2.2.2.1, .int .i64 a.2.2.2.2.2.2.1, .bool a.2.2.2.2.2.2.2.1, str a.2.2.2.2.2.2.2.2], obj x 27 [.int .i64 e.1, .int .i64 e.2.1, .slice l.1 e.2.2.1.length l.2], Row 5 1 l.1 e.2.2.1.length l.2 (ao e.2.2.1), obj m.1 76 [.map (some c.1), str a.2.2.1, .int .i64 a.2.2.2.1, .bool a.2.2.2.2.1], aF (aB c.1 aD aA c.2.1) aG c.2.1 a.2.1, Row 71 3 c.2.2.1 a.2.2.2.2.2.1.length c.2.2.2.1 u.flatten, c.2.2.2.2, F]) O O O O O O call18 (.sel 0 O (.sel 0 O (.sel 0 O (.sel 0 O (.sel 0 O (.sel 0 O (.sel 0 O (.sel 0 O (.sel 0 O (.sel 0 O (.nil _))))))))))) (eD.calls _ _ k e.1 e.2.1 l.1 l.2 e.2.2.1 g.1 g.2.1 n.1 n.2 g.2.2.1 (d3.lend 4 O) d4 d5 (d6.lend 1 O) d7 d8) d2) O O O ?_
 intro hi
 refine va O O (nx ?_)
 refine vm O O ?_
 refine am (fun ab d9 => ?_)
 refine ah (ar (vs := [.pointer (some ⟨m.1, 0, none⟩)]) (cap := []) (A := [obj m.1 76 [.map (some c.1), str a.2.2.1, .int .i64 a.2.2.2.1, .bool a.2.2.2.2.1], aF (aB c.1 aD aA c.2.1) aG c.2.1 a.2.1]) (rst := [obj aa 27 [.int .i64 g.1, .int .i64 g.2.1, .slice n.1 g.2.2.1.length n.2], Row 5 1 n.1 g.2.2.1.length n.2 (ao g.2.2.1), obj o 49 [.slice c.2.2.1 a.2.2.2.2.2.1.length c.2.2.2.1, .int .i64 a.2.2.2.2.2.2.1, .bool a.2.2.2.2.2.2.2.1, str a.2.2.2.2.2.2.2.2], obj x 27 [.int .i64 e.1, .int .i64 e.2.1, .slice l.1 e.2.2.1.length l.2], Row 5 1 l.1 e.2.2.1.length l.2 (ao e.2.2.1), Row 71 3 c.2.2.1 a.2.2.2.2.2.1.length c.2.2.2.1 u.flatten, c.2.2.2.2, F]) O O O O O O call14 (.sel 5 O (.sel 5 O (.sel 0 O (.sel 0 O (.sel 0 O (.sel 0 O (.sel 0 O (.sel 0 O (.sel 0 O (.sel 0 O (.nil _))))))))))) (di.calls _ _ k m.1 c.1 c.2.1 a.2.1 a.2.2.1 a.2.2.2.1 a.2.2.2.2.1 (hgl.lend 7 O)) d9) O O O ?_
 intro q
 refine vm O O ?_
 refine am (fun af ec => ?_)
 refine bf 8 O (fun ed ef eg g1 => ?_)
 refine ah (ar (vs := [.pointer (some ⟨o, 0, none⟩)]) (cap := []) (A := [obj o 49 [.slice c.2.2.1 a.2.2.2.2.2.1.length c.2.2.2.1, .int .i64 a.2.2.2.2.2.2.1, .bool a.2.2.2.2.2.2.2.1, str a.2.2.2.2.2.2.2.2]]) (rst := [aC 3 1 (V3 tt) q.1 ab q.2, obj m.1 76 [.map (some c.1), str a.2.2.1, .int .i64 a.2.2.2.1, .bool a.2.2.2.2.1], aF (aB c.1 aD aA c.2.1) aG c.2.1 a.2.1, obj aa 27 [.int .i64 g.1, .int .i64 g.2.1, .slice n.1 g.2.2.1.length n.2], Row 5 1 n.1 g.2.2.1.length n.2 (ao g.2.2.1), obj x 27 [.int .i64 e.1, .int .i64 e.2.1, .slice l.1 e.2.2.1.length l.2], Row 5 1 l.1 e.2.2.1.length l.2 (ao e.2.2.1), Row 71 3 c.2.2.1 a.2.2.2.2.2.1.length c.2.2.2.1 u.flatten, c.2.2.2.2, F]) O O O O O O call22 (.sel 5 O (.sel 0 O (.sel 0 O (.sel 0 O (.sel 0 O (.sel 0 O (.sel 0 O (.sel 0 O (.sel 0 O (.sel 0 O (.sel 0 O (.nil _)))))))))))) (cb.calls _ _ k o c.2.2.1 c.2.2.2.1 a.2.2.2.2.2.1 a.2.2.2.2.2.2.1 a.2.2.2.2.2.2.2.1 a.2.2.2.2.2.2.2.2 ((Rd.asV z ed).up (Up.lend 7 O) (V71.up (Up.lend 8 O))) ef eg) ec) O O O ?_
 intro t
 refine bd 0 O (fun a3 ek => ?_)
 refine bd 2 O (fun a4 em => ?_)
 refine am (fun ad en => ?_)
 refine bf 2 O (fun ep er es g2 => ?_)
 refine bf 0 O (fun et ez eA g3 => ?_)
 refine ah (ar (vs := [.slice q.1 ab.length q.2, .slice t.1 af.length t.2]) (cap := []) (A := []) (rst := [Row 3 1 t.1 af.length t.2 a3.flatten, obj o 49 [.slice c.2.2.1 a.2.2.2.2.2.1.length c.2.2.2.1, .int .i64 a.2.2.2.2.2.2.1, .bool a.2.2.2.2.2.2.2.1, str a.2.2.2.2.2.2.2.2], Row 3 1 q.1 ab.length q.2 a4.flatten, obj m.1 76 [.map (some c.1), str a.2.2.1, .int .i64 a.2.2.2.1, .bool a.2.2.2.2.1], aF (aB c.1 aD aA c.2.1) aG c.2.1 a.2.1, obj aa 27 [.int .i64 g.1, .int .i64 g.2.1, .slice n.1 g.2.2.1.length n.2], Row 5 1 n.1 g.2.2.1.length n.2 (ao g.2.2.1), obj x 27 [.int .i64 e.1, .int .i64 e.2.1, .slice l.1 e.2.2.1.length l.2], Row 5 1 l.1 e.2.2.1.length l.2 (ao e.2.2.1), Row 71 3 c.2.2.1 a.2.2.2.2.2.1.length c.2.2.2.1 u.flatten, c.2.2.2.2, F]) O O O O O O call17 (.sel 0 O (.sel 0 O (.sel 0 O (.sel 0 O (.sel 0 O (.sel 0 O (.sel 0 O (.sel 0 O (.sel 0 O (.sel 0 O (.sel 0 O (.sel 0 O (.nil _))))))))))))) (cw.calls _ _ k q.1 q.2 ab t.1 t.2 af ((Rd.asV em ep).up (Up.lend 2 O) (fun _ _ h => h)) er es ((Rd.asV ek et).up (Up.lend 0 O) (fun _ _ h => h)) ez eA) en) O O O ?_
 intro g4
 refine va O O (nx ?_)
 refine vm O O ?_
 refine vq (fE O O) O ?_
 refine vm O O ?_
 refine az (b := !a.1) (fun e9 => RQ.sub (E' := [(15, .bool w)]) ⟨O, trivial⟩ (aS O O)) O O O O O ?_
 refine az (b := !a.1) (fun bc => RQ.sub (E' := [(66, .bool w)]) ⟨aZ O bc, trivial⟩ (fE O O)) O O O O O ?_
 refine vq (hP O O O) O ?_
 refine vm O O ?_
 refine az (b := (!a.1) || (!w)) (fun fn => RQ.sub (E' := [(16, .bool ad)]) ⟨O, trivial⟩ (aS O O)) O O O O O ?_
 refine az (b := (!a.1) || (!w)) (fun be => RQ.sub (E' := [(70, .bool ad)]) ⟨aZ O be, trivial⟩ (fE O O)) O O O O O ?_
 refine vq (hP O O O) O ?_
 refine vm O O ?_
 refine az (b := ((!a.1) || (!w)) || (!ad)) (fun fp => RQ.sub (E' := [(10, .int .i64 e.2.2.2.1)]) ⟨O, trivial⟩ (aS O O)) O O O O O ?_
 refine az (b := ((!a.1) || (!w)) || (!ad)) (fun fs => RQ.sub (E' := [(13, .int .i64 g.2.2.2.1)]) ⟨O, trivial⟩ (aS O O)) O O O O O ?_
 refine az (b := ((!a.1) || (!w)) || (!ad)) (fun al => RQ.sub (E' := [(74, .int .i64 e.2.2.2.1), (75, .int .i64 g.2.2.2.1)]) ⟨aZ O al, aZ O al, trivial⟩ (cz O O O)) O O O O O ?_
 refine vq (hP O O O) O ?_
 refine vm O O ?_
 refine dk 5 (S := Bool) (Unit) (fun s y => [(0, .slice a0 x0.length c0), (5, .pointer (some ⟨m.1, 0, none⟩)), (6, .pointer (some ⟨o, 0, none⟩)), (7, .int .i64 d.1), (83, .bool s)]) (fun s y => [obj o 49 [.slice c.2.2.1 a.2.2.2.2.2.1.length c.2.2.2.1, .int .i64 a.2.2.2.2.2.2.1, .bool a.2.2.2.2.2.2.2.1, str a.2.2.2.2.2.2.2.2], obj m.1 76 [.map (some c.1), str a.2.2.1, .int .i64 a.2.2.2.1, .bool a.2.2.2.2.1], aC 71 3 (V71 (c.2.2.2.2)) c.2.2.1 a.2.2.2.2.2.1 c.2.2.2.1, aF (aB c.1 aD aA c.2.1) aG c.2.1 a.2.1, c.2.2.2.2, F]) ?_ ?_
 refine eI (fun bs => ?_) (fun b0 => ?_)
 rw [bs]
 refine aI O O O O O O ?_
 refine aI O O O O O O ?_
 refine aI O O O O O O ?_
 refine aI O O O O O O ?_
 refine vq (bL O O O O O) O (ag ?_)
 exact aM (s := true) () ⟨O, O, O, O, O, trivial⟩ (.sel 1 O (.sel 2 O (.sel' 7 O (aC.mk z) (.sel 2 O (.sel 6 O (.sel 6 O (.nil _)))))))
 rw [b0]
 refine aO (aS O O) O O O O O O ?_
 refine am (fun eF b1 => ?_)
 refine fk (ar (vs := [.int .i64 e.2.2.2.2]) (cap := []) (A := []) (rst := [Row 3 1 t.1 af.length t.2 a3.flatten, obj o 49 [.slice c.2.2.1 a.2.2.2.2.2.1.length c.2.2.2.1, .int .i64 a.2.2.2.2.2.2.1, .bool a.2.2.2.2.2.2.2.1, str a.2.2.2.2.2.2.2.2], Row 3 1 q.1 ab.length q.2 a4.flatten, obj m.1 76 [.map (some c.1), str a.2.2.1, .int .i64 a.2.2.2.1, .bool a.2.2.2.2.1], aF (aB c.1 aD aA c.2.1) aG c.2.1 a.2.1, obj aa 27 [.int .i64 g.1, .int .i64 g.2.1, .slice n.1 g.2.2.1.length n.2], Row 5 1 n.1 g.2.2.1.length n.2 (ao g.2.2.1), obj x 27 [.int .i64 e.1, .int .i64 e.2.1, .slice l.1 e.2.2.1.length l.2], Row 5 1 l.1 e.2.2.1.length l.2 (ao e.2.2.1), Row 71 3 c.2.2.1 a.2.2.2.2.2.1.length c.2.2.2.1 u.flatten, c.2.2.2.2, F]) O O O O O O call12 (.sel 0 O (.sel 0 O (.sel 0 O (.sel 0 O (.sel 0 O (.sel 0 O (.sel 0 O (.sel 0 O (.sel 0 O (.sel 0 O (.sel 0 O (.sel 0 O (.nil _))))))))))))) (aH.calls _ _ e.2.2.2.2 ) b1) O O O O O O ?_
 intro g5
 refine aO (aS O O) O O O O O O ?_
 refine aO (cz O O O) O O O O O O ?_
 refine vq (bL O O O O O) O (ag ?_)
 exact aM (s := !decide (eF = g.2.2.2.2)) () ⟨O, O, O, O, O, trivial⟩ (.sel 1 O (.sel 2 O (.sel' 7 O (aC.mk z) (.sel 2 O (.sel 6 O (.sel 6 O (.nil _)))))))
 intro g6 g7
 refine vm O O ?_
 refine dk 5 (S := Bool) (Unit) (fun s y => [(0, .slice a0 x0.length c0), (5, .pointer (some ⟨m.1, 0, none⟩)), (6, .pointer (some ⟨o, 0, none⟩)), (7, .int .i64 d.1), (89, .bool s)]) (fun s y => [obj o 49 [.slice c.2.2.1 a.2.2.2.2.2.1.length c.2.2.2.1, .int .i64 a.2.2.2.2.2.2.1, .bool a.2.2.2.2.2.2.2.1, str a.2.2.2.2.2.2.2.2], obj m.1 76 [.map (some c.1), str a.2.2.1, .int .i64 a.2.2.2.1, .bool a.2.2.2.2.1], aC 71 3 (V71 (c.2.2.2.2)) c.2.2.1 a.2.2.2.2.2.1 c.2.2.2.1, aF (aB c.1 aD aA c.2.1) aG c.2.1 a.2.1, c.2.2.2.2, F]) ?_ ?_
 refine eI (fun b2 => ?_) (fun b3 => ?_)
 rw [b2]
 refine aI O O O O O O ?_
 refine aI O O O O O O ?_
 refine aI O O O O O O ?_
 refine aI O O O O O O ?_
 refine vq (bL O O O O O) O (ag ?_)
 exact aM (s := true) () ⟨O, O, O, O, O, trivial⟩ (.sel 0 O (.sel 0 O (.sel 0 O (.sel 0 O (.sel 0 O (.sel 0 O (.nil _)))))))
 rw [b3]
 refine aO (aS O O) O O O O O O ?_
 refine aO (aS O O) O O O O O O ?_
 refine bd 2 O (fun b4 an => ?_)
 refine am (fun e0 b5 => ?_)
 refine bf 2 O (fun b6 b7 b8 fw => ?_)
 refine fk (ar (vs := [.pointer (some ⟨m.1, 0, none⟩), .pointer (some ⟨o, 0, none⟩)]) (cap := []) (A := [obj m.1 76 [.map (some c.1), str a.2.2.1, .int .i64 a.2.2.2.1, .bool a.2.2.2.2.1], aF (aB c.1 aD aA c.2.1) aG c.2.1 a.2.1, obj o 49 [.slice c.2.2.1 a.2.2.2.2.2.1.length c.2.2.2.1, .int .i64 a.2.2.2.2.2.2.1, .bool a.2.2.2.2.2.2.2.1, str a.2.2.2.2.2.2.2.2]]) (rst := [Row 71 3 c.2.2.1 a.2.2.2.2.2.1.length c.2.2.2.1 b4.flatten, c.2.2.2.2, F]) O O O O O O call23 (.sel 1 O (.sel 2 O (.sel 0 O (.sel 0 O (.sel 0 O (.sel 0 O (.nil _))))))) (bG.calls _ _ k m.1 c.1 c.2.1 a.2.1 a.2.2.1 a.2.2.2.1 a.2.2.2.2.1 o c.2.2.1 c.2.2.2.1 a.2.2.2.2.2.1 a.2.2.2.2.2.2.1 a.2.2.2.2.2.2.2.1 a.2.2.2.2.2.2.2.2 ((Rd.asV an b6).up (Up.lend 0 O) (V71.up (Up.lend 1 O))) b7 b8) b5) O O O O O O ?_
 intro g8
 refine aO (fE O O) O O O O O O ?_
 refine vq (bL O O O O O) O (ag ?_)
 exact aM (s := !e0) () ⟨O, O, O, O, O, trivial⟩ (.sel 2 O (.sel 0 O (.sel' 1 O (aC.mk an) (.sel 0 O (.sel 0 O (.sel 0 O (.nil _)))))))
 intro g9 ha
 refine ag (ae ?_)
 refine aT O (fun hb => ?_) (fun hc => ?_)
 refine sr ?_
 refine va O O (ag (ae (ak ?_)))
 refine aP ?_
 refine ax ?_
 refine eS ?_
 refine aP ?_
 refine eG ?_
 exact av () O O O (.sel 5 O (.nil _))
 refine au ?_
 refine bb (ae (aE ?_))
 refine vm O O ?_
 refine vq (bj O O O) O ?_
 refine va O O (ag ?_)
 exact bu (s := (IntKind.i64.wrap (d.1 + 1), a.2.2.2.2.2.1, a.2.2.2.2.2.2.1, a.2.2.2.2.2.2.2.1, a.2.2.2.2.2.2.2.2, a.2.1, a.2.2.1, a.2.2.2.1, a.2.2.2.2.1)) (c.2.2.2.2, c.2.2.1, c.2.2.2.1, c.1, c.2.1) ⟨O, O, O, O, trivial⟩ (.sel 0 O (.sel 0 O (.sel 0 O (.sel 0 O (.sel 0 O (.sel 0 O (.nil _)))))))
 refine ck ?_
 refine bQ ?_
 refine bY ?_
 refine bR ?_
 exact fg (s := ()) () trivial (.sel 5 O (.nil _))
 intro hk hl
 refine sr ?_
 refine va O O (ag (ae (ak ?_)))
 exact av () O O O (.sel 0 O (.nil _))
end Go.Proofs.YtjkjlggbikeliaaGreatDoor

namespace Go.Proofs.YtjkjlggbikeliaaGreatDoor
set_option linter.unusedVariables false
set_option linter.unusedSimpArgs false
open Go.RowKit

theorem w64 {n : Int} (h0 : -9223372036854775808 ≤ n) (h1 : n ≤ 9223372036854775807) : IntKind.i64.wrap n = n := by rw [IntKind.wrap_i64]; omega
theorem w8 {n : Int} (h0 : 0 ≤ n) (h1 : n < 256) : IntKind.u8.wrap n = n := by rw [IntKind.wrap_u8]; omega
theorem mW (n : Int) (h₀ : 0 ≤ n) (h₁ : n < 2 ^ 63) : IntKind.i64.wrap n = n := by rw [IntKind.wrap_i64]; omega
theorem zz {n : Int} (h0 : 0 ≤ n) (h1 : n < 2 ^ 63) : bC .and .i64 n 127 = n % 128 := bits_mask .i64 63 (by decide) mW 7 (by decide) n h0 h1
theorem yz {n : Int} (h0 : 0 ≤ n) (h1 : n < 256) : bC .and .u8 n 127 = n % 128 := bits_mask .u8 8 (by decide) wraps_u8 7 (by decide) n h0 h1
theorem zR {n : Int} (h0 : 0 ≤ n) (h1 : n < 128) : bC .or .i64 n 128 = n + 128 := by
  obtain ⟨a, rfl⟩ := Int.eq_ofNat_of_zero_le h0
  have ha : a < 128 := by omega
  have e := (bits_nat .i64 63 (by decide) mW a 128 (by omega) (by decide)).2
  show bits .or .i64 (a : Int) ((128 : Nat) : Int) = _
  rw [e]
  have h2 := Nat.two_pow_add_eq_or_of_lt (i := 7) (b := a) ha 1
  have : a ||| 128 = 128 + a := by rw [Nat.or_comm]; simpa using h2.symm
  rw [this]; omega
theorem zx (n : Nat) : Int.fdiv (n : Int) (2 ^ (min (7 : Int).toNat IntKind.i64.bits)) = ((n / 128 : Nat) : Int) := by
  show Int.fdiv (n : Int) 128 = _
  rw [Int.fdiv_eq_ediv_of_nonneg _ (by decide)]
  simp
theorem wF (b : UInt8) : cS (b.toNat : Int) = b := by simp [cS]
theorem ux (n : Nat) : cS (n : Int) = UInt8.ofNat n := by simp [cS]
theorem lH (l : List UInt8) (i : Nat) : (l.getD i 0).toNat < 256 := UInt8.toNat_lt _

def sv (n : Nat) : List UInt8 := if h : n < 128 then [UInt8.ofNat n] else UInt8.ofNat (n % 128 + 128) :: sv (n / 128)
theorem nI {n : Nat} (h : n < 128) : sv n = [UInt8.ofNat n] := by rw [sv]; simp [h]
theorem pt {n : Nat} (h : 128 ≤ n) : sv n = UInt8.ofNat (n % 128 + 128) :: sv (n / 128) := by rw [sv]; simp [Nat.not_lt.2 h]
theorem zT (n : Nat) : sv n ≠ [] := by rw [sv]; split <;> simp
theorem ng (n : Nat) : 0 < (sv n).length := List.length_pos_iff.2 (zT n)
theorem wM : ∀ (j n : Nat), n < 128 ^ (j + 1) → (sv n).length ≤ j + 1
  | 0, n, h => by rw [nI (by simpa using h)]; simp
  | j + 1, n, h => by
    by_cases hn : n < 128
    · rw [nI hn]; simp
    · rw [pt (by omega)]
      have := wM j (n / 128) (by rw [Nat.pow_succ] at h; exact Nat.div_lt_of_lt_mul (by rw [Nat.mul_comm]; exact h))
      simp; omega
theorem sv9 {n : Nat} (h : n < 2 ^ 63) : (sv n).length ≤ 9 := wM 8 n (by omega)
def cH : List UInt8 → Nat
  | [] => 0
  | b :: l => if 128 ≤ b.toNat then cH l + 1 else 0
def mV : Nat → List UInt8 → Nat
  | 0, l => (l.getD 0 0).toNat % 128
  | k + 1, l => (l.getD 0 0).toNat % 128 + 128 * mV k (l.drop 1)
theorem nH : ∀ l : List UInt8, cH l ≤ l.length
  | [] => Nat.le_refl _
  | b :: l => by simp only [cH]; have := nH l; split <;> simp <;> omega
theorem mZ : ∀ (l : List UInt8) (i : Nat), i < cH l → 128 ≤ (l.getD i 0).toNat
  | [], i, h => by simp [cH] at h
  | b :: l, i, h => by
    simp only [cH] at h
    split at h
    · cases i with
      | zero => simpa
      | succ i => simpa using mZ l i (by omega)
    · omega
theorem mY : ∀ (l : List UInt8), cH l < l.length → (l.getD (cH l) 0).toNat < 128
  | [], h => by simp [cH] at h
  | b :: l, h => by
    simp only [cH] at h ⊢
    split
    · rename_i hb; rw [if_pos hb] at h; simpa using mY l (by simpa using h)
    · simp; omega
def dec (l : List UInt8) : Int × Int × Int :=
  if l = [] then (0, 0, 2) else
  if 9 ≤ cH l then (0, 0, 4) else
  if l.length ≤ cH l then (0, 0, 2) else
  if 0 < cH l ∧ (l.getD (cH l) 0).toNat = 0 then (0, 0, 4) else
  if 2 ^ 62 < mV (cH l) l then (0, 0, 1) else (((mV (cH l) l : Nat) : Int), ((cH l + 1 : Nat) : Int), (0 : Int))
end Go.Proofs.YtjkjlggbikeliaaGreatDoor

namespace Go.Proofs.YtjkjlggbikeliaaGreatDoor
set_option linter.unusedVariables false
set_option linter.unusedSimpArgs false
open Go.RowKit

theorem qH : ∀ (j n c k : Nat), n < 128 ^ (j + 1) → j + 1 ≤ k → c + j < 1000 → eT.l0 k (n : Int) (c : Int) = some (((c + ((sv n).length - 1) : Nat)) : Int)
  | j, n, c, 0, _, hk, _ => by omega
  | j, n, c, k + 1, h, hk, hc => by
    simp only [eT.l0]
    by_cases hn : n < 128
    · rw [if_neg (by omega), nI hn]; simp
    · rw [if_pos (by omega), zx]
      cases j with
      | zero => simp at h; omega
      | succ j =>
        rw [w64 (by omega) (by omega)]
        have := qH j (n / 128) (c + 1) k (by rw [Nat.pow_succ] at h; exact Nat.div_lt_of_lt_mul (by rw [Nat.mul_comm]; exact h)) (by omega) (by omega)
        have e : ((c : Int) + 1) = ((c + 1 : Nat) : Int) := by simp
        rw [e, this, pt (n := n) (by omega)]
        have := ng (n / 128)
        simp only [List.length_cons, Option.some.injEq, Int.ofNat_inj]
        omega
def okN (x : Int) : Prop := 0 ≤ x ∧ x ≤ 4611686018427387904
instance (x : Int) : Decidable (okN x) := by unfold okN; exact inferInstance
def nJ (x : Int) : Int := if okN x then ((sv x.toNat).length : Nat) else 0
theorem lw (x : Int) : ((decide (x < (0 : Int))) || (decide ((4611686018427387904 : Int) < x))) = true ↔ ¬ okN x := by
  unfold okN; simp; omega
theorem sk {k : Nat} (hk : 10 ≤ k) (x : Int) : eT.f k x = some (nJ x) := by
  unfold eT.f nJ
  by_cases h : okN x
  · rw [if_neg (by rw [lw]; simpa using h), if_pos h]
    obtain ⟨n, rfl⟩ := Int.eq_ofNat_of_zero_le h.1
    have h2 : n ≤ 4611686018427387904 := by have := h.2; omega
    have := qH 8 n 1 k (by omega) (by omega) (by omega)
    have e : ((1 : Nat) : Int) = 1 := rfl
    rw [e] at this
    rw [this]
    have := ng n
    simp; omega
  · rw [if_pos ((lw x).2 h), if_neg h]
theorem wE (n : Nat) (h : n < 2 ^ 63) : IntKind.i64.wrap (Int.tdiv (n : Int) 128) = ((n / 128 : Nat) : Int) := by
  rw [Int.tdiv_eq_ediv_of_nonneg (by omega), w64 (by omega) (by omega)]
  simp
theorem ww (n : Nat) : Int.tmod (n : Int) 128 = ((n % 128 : Nat) : Int) := by
  rw [Int.tmod_eq_emod_of_nonneg (by omega)]; simp
theorem nV : ∀ (j n c k : Nat), n < 128 ^ (j + 1) → j + 1 ≤ k → c + j < 1000 → n < 2 ^ 63 → cX.l0 k (n : Int) (c : Int) = some (((c + ((sv n).length - 1) : Nat)) : Int)
  | j, n, c, 0, _, hk, _, _ => by omega
  | j, n, c, k + 1, h, hk, hc, hs => by
    simp only [cX.l0]
    by_cases hn : n < 128
    · rw [if_neg (by omega), nI hn]; simp
    · rw [if_pos (by omega), wE n hs]
      cases j with
      | zero => simp at h; omega
      | succ j =>
        rw [w64 (by omega) (by omega)]
        have := nV j (n / 128) (c + 1) k (by rw [Nat.pow_succ] at h; exact Nat.div_lt_of_lt_mul (by rw [Nat.mul_comm]; exact h)) (by omega) (by omega) (by omega)
        have e : ((c : Int) + 1) = ((c + 1 : Nat) : Int) := by simp
        rw [e, this, pt (n := n) (by omega)]
        have := ng (n / 128)
        simp only [List.length_cons, Option.some.injEq, Int.ofNat_inj]
        omega
theorem tu {k : Nat} (hk : 10 ≤ k) (x : Int) : cX.f k x = some (nJ x) := by
  unfold cX.f nJ
  by_cases h : okN x
  · rw [if_neg (by rw [lw]; simpa using h), if_pos h]
    obtain ⟨n, rfl⟩ := Int.eq_ofNat_of_zero_le h.1
    have h2 : n ≤ 4611686018427387904 := by have := h.2; omega
    have := nV 8 n 1 k (by omega) (by omega) (by omega) (by omega)
    have e : ((1 : Nat) : Int) = 1 := rfl
    rw [e] at this
    rw [this]
    have := ng n
    simp; omega
  · rw [if_pos ((lw x).2 h), if_neg h]

/-! The bytes, one by one. -/
theorem zy {n : Nat} (hn : n < 2 ^ 63) : IntKind.u8.wrap (bC .or .i64 (bC .and .i64 (n : Int) 127) 128) = ((n % 128 + 128 : Nat) : Int) := by
  rw [zz (by omega) (by omega), zR (by omega) (by omega), w8 (by omega) (by omega)]
  simp
theorem nW {S : Type} (step : S → Int → Option S) : ∀ (j n : Nat) (s : S) (k : Nat), n < 128 ^ (j + 1) → j + 1 ≤ k → n < 2 ^ 63 → ((cQ.l0 step k (n : Int) s).bind fun r => step r.2 (IntKind.u8.wrap r.1)) = lu step s ((sv n).map fun b => (b.toNat : Int))
  | j, n, s, 0, _, hk, _ => by omega
  | j, n, s, k + 1, h, hk, hs => by
    simp only [cQ.l0]
    by_cases hn : n < 128
    · rw [if_neg (by omega), nI hn]
      have e : (UInt8.ofNat n).toNat = n := by rw [UInt8.toNat_ofNat']; omega
      simp only [Option.bind_some, List.map_cons, List.map_nil, lu, e]
      rw [w8 (by omega) (by omega)]
      cases step s (n : Int) <;> rfl
    · rw [if_pos (by omega), zx, zy hs, pt (by omega)]
      have e : (UInt8.ofNat (n % 128 + 128)).toNat = n % 128 + 128 := by rw [UInt8.toNat_ofNat']; omega
      simp only [List.map_cons, lu, e]
      cases j with
      | zero => simp at h; omega
      | succ j =>
        cases step s ((n % 128 + 128 : Nat) : Int) with
        | none => rfl
        | some s' => exact nW step j (n / 128) s' k (by rw [Nat.pow_succ] at h; exact Nat.div_lt_of_lt_mul (by rw [Nat.mul_comm]; exact h)) (by omega) (by omega)
theorem wm {S : Type} {k : Nat} (hk : 10 ≤ k) (step : S → Int → Option S) (s : S) {n : Nat} (hn : n < 2 ^ 63) : cQ.f k step s (n : Int) = lu step s ((sv n).map fun b => (b.toNat : Int)) := by
  rw [← nW step 8 n s k (by omega) (by omega) hn]
  unfold cQ.f
  congr 1
  funext r
  cases step r.2 (IntKind.u8.wrap r.1) <;> rfl
def sl (s : List UInt8) (x : Int) : Option (List UInt8) := if 0 ≤ x ∧ x < 256 then (if (s.length + ([(cS x)] : List UInt8).length) * 1 ≤ 140737488355328 then (some (s ++ ([(cS x)] : List UInt8))) else none) else none
theorem uh : ∀ (l s : List UInt8), s.length + l.length ≤ 140737488355328 → lu sl s (l.map fun b => (b.toNat : Int)) = some (s ++ l)
  | [], s, _ => by simp [lu]
  | b :: l, s, h => by
    have hb := UInt8.toNat_lt b
    simp only [List.length_cons] at h
    simp only [List.map_cons, lu, sl]
    rw [if_pos (by omega), if_pos (by simp; omega)]
    simp only [Option.bind_some, wF]
    rw [uh l (s ++ [b]) (by simp; omega)]
    simp
def gG (x : Int) : List UInt8 := if okN x then sv x.toNat else []
def erV (x : Int) : Int := if okN x then 0 else 1
theorem kQ (x : Int) : nJ x = 0 ↔ ¬ okN x := by
  unfold nJ
  have := ng x.toNat
  split
  · rename_i h; simp only [h, not_true_eq_false, iff_false]; omega
  · rename_i h; simp [h]
theorem pu : ∀ (j n k : Nat) (a : List UInt8), n < 128 ^ (j + 1) → j + 1 ≤ k → n < 2 ^ 63 → a.length + j < 1000 → ∃ q l, cE.l0 k (n : Int) a = some (((q : Nat) : Int), l) ∧ q < 128 ∧ l ++ [UInt8.ofNat q] = a ++ sv n ∧ l.length ≤ a.length + j
  | j, n, 0, a, _, hk, _, _ => by omega
  | j, n, k + 1, a, h, hk, hs, ha => by
    simp only [cE.l0]
    by_cases hn : n < 128
    · rw [if_neg (by omega), nI hn]; exact ⟨n, a, rfl, hn, rfl, by omega⟩
    · have e1 : IntKind.u8.wrap (IntKind.i64.wrap ((Int.tmod (n : Int) 128) + 128)) = ((n % 128 + 128 : Nat) : Int) := by
        rw [ww, w64 (by omega) (by omega), w8 (by omega) (by omega)]; simp
      rw [if_pos (by omega), wE n hs, e1, if_pos (by omega), if_pos (by simp; omega)]
      cases j with
      | zero => simp at h; omega
      | succ j =>
        rw [ux]
        obtain ⟨q, l, h1, h2, h3, h4⟩ := pu j (n / 128) k (a ++ [UInt8.ofNat (n % 128 + 128)]) (by rw [Nat.pow_succ] at h; exact Nat.div_lt_of_lt_mul (by rw [Nat.mul_comm]; exact h)) (by omega) (by omega) (by simp; omega)
        refine ⟨q, l, h1, h2, ?_, by simp at h4; omega⟩
        rw [h3, pt (n := n) (by omega)]; simp
theorem qV {k : Nat} (hk : 10 ≤ k) (x : Int) : cE.f k x = some (gG x, erV x) := by
  unfold cE.f gG erV
  rw [tu hk, Option.bind_some]
  by_cases h : okN x
  · obtain ⟨n, rfl⟩ := Int.eq_ofNat_of_zero_le h.1
    have h2 : n ≤ 4611686018427387904 := by have := h.2; omega
    obtain ⟨q, l, h3, h4, h5, h6⟩ := pu 8 n k [] (by omega) (by omega) (by omega) (by simp)
    rw [if_neg (by rw [kQ]; simpa using h), if_pos h, if_pos h, h3, Option.bind_some]
    simp only []
    simp at h6
    rw [w8 (by omega) (by omega), if_pos (by omega), if_pos (by simp; omega), ux, h5]
    rfl
  · rw [if_pos ((kQ x).2 h), if_neg h, if_neg h]

/-! Two byte lists. -/
end Go.Proofs.YtjkjlggbikeliaaGreatDoor

namespace Go.Proofs.YtjkjlggbikeliaaGreatDoor
set_option linter.unusedVariables false
set_option linter.unusedSimpArgs false
open Go.RowKit

def dN : Nat → List UInt8 → Nat
  | 0, _ => 0
  | i + 1, l => dN i l + (l.getD i 0).toNat % 128 * 128 ^ i
theorem oz : ∀ (i : Nat) (l : List UInt8), dN i l < 128 ^ i
  | 0, l => by simp [dN]
  | i + 1, l => by
    have := oz i l
    have h2 := Nat.mod_lt (l.getD i 0).toNat (show 128 > 0 by decide)
    simp only [dN]
    rw [Nat.pow_succ]
    have h3 : (l.getD i 0).toNat % 128 * 128 ^ i ≤ 127 * 128 ^ i := Nat.mul_le_mul_right _ (by omega)
    omega
theorem po : ∀ (i : Nat) (b : UInt8) (l : List UInt8), dN (i + 1) (b :: l) = b.toNat % 128 + 128 * dN i l
  | 0, b, l => by simp [dN]
  | i + 1, b, l => by
    rw [dN, po i b l, dN]
    simp only [List.getD_cons_succ]
    rw [Nat.pow_succ, Nat.mul_add, Nat.add_assoc]
    congr 2
    rw [Nat.mul_comm (128 ^ i) 128, ← Nat.mul_assoc, ← Nat.mul_assoc, Nat.mul_comm _ 128]
theorem qB : ∀ (k : Nat) (l : List UInt8), mV k l = dN (k + 1) l
  | 0, l => by simp [mV, dN]
  | k + 1, [] => by
    have z : ∀ k, mV k ([] : List UInt8) = 0 := by
      intro k; induction k with
      | zero => rfl
      | succ k ih => simp [mV, ih]
    have z2 : ∀ k, dN k ([] : List UInt8) = 0 := by
      intro k; induction k with
      | zero => rfl
      | succ k ih => simp [dN, ih]
    rw [z, z2]
  | k + 1, b :: l => by
    rw [po, mV, qB k]
    simp
theorem lv (l : List UInt8) (p i : Nat) : l.getD (p + i) 0 = (l.drop p).getD i 0 := by simp [List.getD_eq_getElem?_getD, List.getElem?_drop]
theorem yy {n c i : Nat} (hn : n < 128 ^ i) (hc : c < 128) (hi : i ≤ 8) : bC .or .i64 (n : Int) ((c * 128 ^ i : Nat) : Int) = ((n + c * 128 ^ i : Nat) : Int) := by
  have hp : (128 : Nat) ^ i = 2 ^ (7 * i) := by rw [Nat.pow_mul]
  have hle : (128 : Nat) ^ i ≤ 128 ^ 8 := Nat.pow_le_pow_right (by decide) hi
  have hcm : c * 128 ^ i ≤ 127 * 128 ^ i := Nat.mul_le_mul_right _ (by omega)
  have e := (bits_nat .i64 63 (by decide) mW n (c * 128 ^ i) (by omega) (by omega)).2
  show bits .or .i64 _ _ = _
  rw [e, Nat.or_comm, Nat.mul_comm, hp, ← Nat.two_pow_add_eq_or_of_lt (by rw [← hp]; exact hn) c, Nat.add_comm]
theorem xv {c i : Nat} (hc : c < 256) (hi : i ≤ 8) : IntKind.i64.wrap ((IntKind.i64.wrap (bC .and .u8 (c : Int) 127)) * 2 ^ (min (IntKind.i64.wrap (7 * (i : Int))).toNat IntKind.i64.bits)) = ((c % 128 * 128 ^ i : Nat) : Int) := by
  have e1 : IntKind.i64.wrap (7 * (i : Int)) = ((7 * i : Nat) : Int) := by rw [w64 (by omega) (by omega)]; simp
  have e2 : bC .and .u8 (c : Int) 127 = ((c % 128 : Nat) : Int) := by rw [yz (by omega) (by omega)]; simp
  have e3 : min ((7 * i : Nat) : Int).toNat IntKind.i64.bits = 7 * i := by
    show min ((7 * i : Nat) : Int).toNat 64 = 7 * i
    simp; omega
  have hp : (128 : Nat) ^ i = 2 ^ (7 * i) := by rw [Nat.pow_mul]
  have hle : (128 : Nat) ^ i ≤ 128 ^ 8 := Nat.pow_le_pow_right (by decide) hi
  have hcm : c % 128 * 128 ^ i ≤ 127 * 128 ^ i := Nat.mul_le_mul_right _ (by omega)
  rw [e1, e2, e3, w64 (n := ((c % 128 : Nat) : Int)) (by omega) (by omega)]
  have e4 : ((c % 128 : Nat) : Int) * 2 ^ (7 * i) = ((c % 128 * 128 ^ i : Nat) : Int) := by rw [hp]; simp
  rw [e4, w64 (by omega) (by omega)]
theorem lf {l : List UInt8} {i : Nat} (hi : cH l = i) (h9 : i < 9) (hlt : i < l.length) :
    dec l = if 0 < i ∧ (l.getD i 0).toNat = 0 then (0, 0, 4) else if 2 ^ 62 < dN (i + 1) l then (0, 0, 1) else (((dN (i + 1) l : Nat) : Int), ((i + 1 : Nat) : Int), (0 : Int)) := by
  have hne : l ≠ [] := by rintro rfl; simp at hlt
  unfold dec
  rw [if_neg hne, hi, if_neg (by omega), if_neg (by omega), qB]
theorem oA {l : List UInt8} (h9 : 9 ≤ cH l) : dec l = (0, 0, 4) := by
  have hne : l ≠ [] := by rintro rfl; simp [cH] at h9
  unfold dec
  rw [if_neg hne, if_pos h9]
theorem mX {l : List UInt8} (h9 : cH l < 9) (hl : l.length ≤ cH l) : dec l = (0, 0, 2) := by
  unfold dec
  by_cases hne : l = []
  · rw [if_pos hne]
  · rw [if_neg hne, if_neg (by omega), if_pos hl]
def iO (b : List UInt8) (at_ : Int) : Int × Int × Int := if at_ < 0 ∨ (b.length : Int) ≤ at_ then (0, 0, 2) else dec (b.drop at_.toNat)
theorem mr (b : List UInt8) (x : Int) : ((decide (x < (0 : Int))) || (decide ((b.length : Int) ≤ x))) = true ↔ (x < 0 ∨ (b.length : Int) ≤ x) := by simp
theorem sx (b : List UInt8) (p : Nat) (hp : p < b.length) (hb : b.length < 2 ^ 62) : ∀ (d i k : Nat), i + d = 9 → d + 1 ≤ k → i ≤ cH (b.drop p) →
    (orR (ff.l0 b (p : Int) k ((dN i (b.drop p) : Nat) : Int) (i : Int)) fun _ => some ((0 : Int), (0 : Int), (4 : Int))) = some (dec (b.drop p))
  | d, i, 0, _, hk, _ => by omega
  | 0, i, k + 1, hd, hk, hl => by
    have hne : b.drop p ≠ [] := by intro e; have := congrArg List.length e; simp at this; omega
    simp only [ff.l0]
    rw [if_neg (by omega)]
    simp only [orR, Option.some.injEq]
    unfold dec
    rw [if_neg hne, if_pos (by omega)]
  | d + 1, i, k + 1, hd, hk, hl => by
    have hne : b.drop p ≠ [] := by intro e; have := congrArg List.length e; simp at this; omega
    have hlen : (b.drop p).length = b.length - p := by simp
    have hll := nH (b.drop p)
    simp only [ff.l0]
    rw [if_pos (by omega)]
    by_cases hend : b.length - p ≤ i
    · rw [w64 (n := (b.length : Int) - (p : Int)) (by omega) (by omega), if_pos (by omega)]
      simp only [orR, Option.some.injEq]
      unfold dec
      rw [if_neg hne, if_neg (by omega), if_pos (by omega)]
    · have epi : IntKind.i64.wrap ((p : Int) + (i : Int)) = ((p + i : Nat) : Int) := by rw [w64 (by omega) (by omega)]; simp
      have e7 : IntKind.i64.wrap (7 * (i : Int)) = ((7 * i : Nat) : Int) := by rw [w64 (by omega) (by omega)]; simp
      have ei1 : IntKind.i64.wrap ((i : Int) + 1) = ((i + 1 : Nat) : Int) := by rw [w64 (by omega) (by omega)]; simp
      have hc := lH (b.drop p) i
      have hlt := oz i (b.drop p)
      have hst := xv (c := ((b.drop p).getD i 0).toNat) (i := i) hc (by omega)
      have hor := yy (c := ((b.drop p).getD i 0).toNat % 128) (i := i) hlt (Nat.mod_lt _ (by decide)) (by omega)
      have hnext : dN i (b.drop p) + ((b.drop p).getD i 0).toNat % 128 * 128 ^ i = dN (i + 1) (b.drop p) := rfl
      rw [hnext] at hor
      rw [w64 (n := (b.length : Int) - (p : Int)) (by omega) (by omega), if_neg (by omega)]
      rw [epi, if_pos (by omega)]
      rw [if_pos (by rw [e7]; omega)]
      simp only [Int.toNat_natCast, lv]
      rw [hst, hor, ei1]
      by_cases hcont : 128 ≤ ((b.drop p).getD i 0).toNat
      · rw [if_pos (by omega)]
        refine sx b p hp hb d (i + 1) k (by omega) (by omega) ?_
        refine Classical.byContradiction fun hx => ?_
        have hi : cH (b.drop p) = i := by omega
        have := mY (b.drop p) (by omega)
        rw [hi] at this
        omega
      · have hi : cH (b.drop p) = i := by
          refine Nat.le_antisymm (Nat.not_lt.1 fun hx => ?_) hl
          exact hcont (mZ _ i hx)
        rw [lf hi (by omega) (by omega), if_neg (by omega)]
        by_cases hz : 0 < i ∧ ((b.drop p).getD i 0).toNat = 0
        · rw [if_pos (by simp only [Bool.and_eq_true, decide_eq_true_eq]; omega), if_pos hz]
          rfl
        · rw [if_neg (by simp only [Bool.and_eq_true, decide_eq_true_eq]; omega), if_neg hz]
          by_cases hbig : 2 ^ 62 < dN (i + 1) (b.drop p)
          · rw [if_pos (by omega), if_pos hbig]; rfl
          · rw [if_neg (by omega), if_neg hbig]; rfl
theorem td {k : Nat} (hk : 10 ≤ k) {b : List UInt8} (hb : b.length < 2 ^ 62) (x : Int) : ff.f k b x = some (iO b x) := by
  unfold ff.f iO
  by_cases h : x < 0 ∨ (b.length : Int) ≤ x
  · rw [if_pos ((mr b x).2 h), if_pos h]
  · rw [if_neg (by rw [mr]; exact h), if_neg h]
    obtain ⟨p, rfl⟩ := Int.eq_ofNat_of_zero_le (show 0 ≤ x by omega)
    exact sx b p (by omega) hb 9 0 k (by omega) hk (Nat.zero_le _)
theorem ut (b : List UInt8) (p : Nat) (hp : p < b.length) (hb : b.length < 2 ^ 62) : ∀ (d i k : Nat), i + d = 9 → d + 1 ≤ k → i ≤ cH (b.drop p) →
    bM.l0 b (p : Int) k (i : Int) = some (((min (cH (b.drop p)) 9 : Nat)) : Int)
  | d, i, 0, _, hk, _ => by omega
  | 0, i, k + 1, hd, hk, hl => by
    simp only [bM.l0]
    rw [if_neg (by simp; omega)]
    have : min (cH (b.drop p)) 9 = i := by omega
    simp [this]
  | d + 1, i, k + 1, hd, hk, hl => by
    have epi : IntKind.i64.wrap ((p : Int) + (i : Int)) = ((p + i : Nat) : Int) := by rw [w64 (by omega) (by omega)]; simp
    have ei1 : IntKind.i64.wrap ((i : Int) + 1) = ((i + 1 : Nat) : Int) := by rw [w64 (by omega) (by omega)]; simp
    have hll := nH (b.drop p)
    have hlen : (b.drop p).length = b.length - p := by simp
    simp only [bM.l0]
    rw [epi, ei1]
    by_cases hend : p + i < b.length
    · rw [if_pos (by simp; omega), if_pos (by omega)]
      simp only [Option.bind_some, Int.toNat_natCast, lv, decide_eq_true_eq]
      by_cases hcont : 128 ≤ ((b.drop p).getD i 0).toNat
      · rw [if_pos (by omega)]
        refine ut b p hp hb d (i + 1) k (by omega) (by omega) ?_
        refine Classical.byContradiction fun hx => ?_
        have hi : cH (b.drop p) = i := by omega
        have := mY (b.drop p) (by omega)
        rw [hi] at this
        omega
      · have hi : cH (b.drop p) = i := by
          refine Nat.le_antisymm (Nat.not_lt.1 fun hx => ?_) hl
          exact hcont (mZ _ i hx)
        rw [if_neg (by omega), hi]
        have : min i 9 = i := by omega
        rw [this]
    · rw [if_neg (by simp; omega)]
      have : min (cH (b.drop p)) 9 = i := by omega
      simp [this]
theorem uu (b : List UInt8) (p : Nat) (hb : b.length < 2 ^ 62) : ∀ (i n k : Nat), i + 2 ≤ k → p + i < b.length → i ≤ 8 → n * 128 ^ (i + 1) + dN (i + 1) (b.drop p) < 2 ^ 63 →
    bM.l1 b (p : Int) k (n : Int) (i : Int) = some ((n * 128 ^ (i + 1) + dN (i + 1) (b.drop p) : Nat) : Int)
  | i, n, 0, hk, _, _, _ => by omega
  | i, n, k + 1, hk, hp, h8, hs => by
    have epi : IntKind.i64.wrap ((p : Int) + (i : Int)) = ((p + i : Nat) : Int) := by rw [w64 (by omega) (by omega)]; simp
    have hc := lH (b.drop p) i
    have hm := Nat.mod_lt ((b.drop p).getD i 0).toNat (show 128 > 0 by decide)
    have hmul : n * 128 ≤ n * 128 ^ (i + 1) := Nat.mul_le_mul_left _ (by rw [Nat.pow_succ]; exact Nat.le_mul_of_pos_left _ (Nat.pow_pos (by decide)))
    have hpart : ((b.drop p).getD i 0).toNat % 128 ≤ dN (i + 1) (b.drop p) := by
      simp only [dN]
      exact Nat.le_trans (Nat.le_mul_of_pos_right _ (Nat.pow_pos (by decide))) (Nat.le_add_left _ _)
    simp only [bM.l1]
    rw [if_pos (by omega), epi, if_pos (by omega)]
    simp only [Int.toNat_natCast, lv]
    have e1 : IntKind.i64.wrap (((b.drop p).getD i 0).toNat : Int) = (((b.drop p).getD i 0).toNat : Int) := w64 (by omega) (by omega)
    have e2 : IntKind.i64.wrap ((n : Int) * 128) = ((n * 128 : Nat) : Int) := by rw [w64 (by omega) (by omega)]; simp
    have e3 : IntKind.i64.wrap (((n * 128 : Nat) : Int) + ((((b.drop p).getD i 0).toNat % 128 : Nat) : Int)) = ((n * 128 + ((b.drop p).getD i 0).toNat % 128 : Nat) : Int) := by rw [w64 (by omega) (by omega)]; simp
    rw [e1, e2, ww, e3]
    cases i with
    | zero =>
      cases k with
      | zero => omega
      | succ k =>
        have em : IntKind.i64.wrap (((0 : Nat) : Int) - 1) = -1 := by rw [w64 (by omega) (by omega)]; rfl
        rw [em]
        simp only [bM.l1]
        rw [if_neg (by omega)]
        simp [dN]
    | succ i =>
      have em : IntKind.i64.wrap (((i + 1 : Nat) : Int) - 1) = ((i : Nat) : Int) := by rw [w64 (by omega) (by omega)]; omega
      rw [em]
      have key : (n * 128 + ((b.drop p).getD (i + 1) 0).toNat % 128) * 128 ^ (i + 1) + dN (i + 1) (b.drop p) = n * 128 ^ (i + 1 + 1) + dN (i + 1 + 1) (b.drop p) := by
        show _ = n * 128 ^ (i + 1 + 1) + (dN (i + 1) (b.drop p) + ((b.drop p).getD (i + 1) 0).toNat % 128 * 128 ^ (i + 1))
        rw [Nat.add_mul, Nat.pow_succ 128 (i + 1), Nat.mul_comm (128 ^ (i + 1)) 128, ← Nat.mul_assoc]
        omega
      rw [uu b p hb i _ k (by omega) (by omega) (by omega) (by rw [key]; exact hs), key]
theorem uU {k : Nat} (hk : 12 ≤ k) {b : List UInt8} (hb : b.length < 2 ^ 62) (x : Int) : bM.f k b x = some (iO b x) := by
  unfold bM.f iO
  by_cases h : x < 0 ∨ (b.length : Int) ≤ x
  · rw [if_pos ((mr b x).2 h), if_pos h]
  · rw [if_neg (by rw [mr]; exact h), if_neg h]
    obtain ⟨p, rfl⟩ := Int.eq_ofNat_of_zero_le (show 0 ≤ x by omega)
    have hp : p < b.length := by omega
    have hll := nH (b.drop p)
    have hlen : (b.drop p).length = b.length - p := by simp
    have hne : b.drop p ≠ [] := by intro e; have := congrArg List.length e; simp at this; omega
    have h0 := ut b p hp hb 9 0 k (by omega) (by omega) (Nat.zero_le _)
    rw [show ((0 : Nat) : Int) = 0 from rfl] at h0
    rw [h0, Option.bind_some, Int.toNat_natCast]
    by_cases h9 : 9 ≤ cH (b.drop p)
    · rw [oA h9, if_pos (by omega)]
    · rw [if_neg (by omega)]
      have hm : min (cH (b.drop p)) 9 = cH (b.drop p) := by omega
      rw [hm]
      have epi : IntKind.i64.wrap ((p : Int) + (cH (b.drop p) : Int)) = ((p + cH (b.drop p) : Nat) : Int) := by rw [w64 (by omega) (by omega)]; simp
      have ei1 : IntKind.i64.wrap ((cH (b.drop p) : Int) + 1) = ((cH (b.drop p) + 1 : Nat) : Int) := by rw [w64 (by omega) (by omega)]; simp
      rw [epi, ei1]
      by_cases hend : (b.drop p).length ≤ cH (b.drop p)
      · rw [mX (by omega) hend, if_pos (by omega)]
      · rw [if_neg (by omega)]
        have hlt := oz (cH (b.drop p) + 1) (b.drop p)
        have hpow : (128 : Nat) ^ (cH (b.drop p) + 1) ≤ 128 ^ 9 := Nat.pow_le_pow_right (by decide) (by omega)
        have h1 := uu b p hb (cH (b.drop p)) 0 k (by omega) (by omega) (by omega) (by omega)
        rw [show ((0 : Nat) : Int) = 0 from rfl] at h1
        simp only [Int.toNat_natCast, lv]
        have htail : ∀ z : Bool, (some z).bind (fun s28v => if s28v = true then some ((0 : Int), (0 : Int), (4 : Int)) else (bM.l1 b (p : Int) k 0 (cH (b.drop p) : Int)).bind fun s38v => if (4611686018427387904 : Int) < s38v then some (0, 0, 1) else some (s38v, ((cH (b.drop p) + 1 : Nat) : Int), 0)) =
            some (if z = true then (0, 0, 4) else if 2 ^ 62 < dN (cH (b.drop p) + 1) (b.drop p) then (0, 0, 1) else (((dN (cH (b.drop p) + 1) (b.drop p) : Nat) : Int), ((cH (b.drop p) + 1 : Nat) : Int), (0 : Int))) := by
          intro z
          simp only [Option.bind_some]
          cases z with
          | true => rfl
          | false =>
            rw [if_neg (by simp), if_neg (by simp), h1, Option.bind_some]
            simp only [Nat.zero_mul, Nat.zero_add]
            by_cases hbig : 2 ^ 62 < dN (cH (b.drop p) + 1) (b.drop p)
            · rw [if_pos (by omega), if_pos hbig]
            · rw [if_neg (by omega), if_neg hbig]
        rw [lf rfl (by omega) (by omega)]
        by_cases hz : 0 < cH (b.drop p)
        · rw [if_pos (by omega), if_pos (by omega), htail]
          by_cases hz2 : ((b.drop p).getD (cH (b.drop p)) 0).toNat = 0
          · rw [if_pos (by rw [decide_eq_true_eq]; omega), if_pos ⟨hz, hz2⟩]
          · rw [if_neg (by rw [decide_eq_true_eq]; omega), if_neg (fun x : 0 < _ ∧ _ => hz2 x.2)]
        · rw [if_neg (by omega), htail, if_neg (by simp), if_neg (fun x : 0 < _ ∧ _ => hz x.1)]
end Go.Proofs.YtjkjlggbikeliaaGreatDoor

namespace Go.Proofs.YtjkjlggbikeliaaGreatDoor
set_option linter.unusedVariables false
set_option linter.unusedSimpArgs false
open Go.RowKit
theorem fr (x : Int) : (gG x).length ≤ 9 := by
  unfold gG
  split
  · rename_i h; have := h.2; exact sv9 (by omega)
  · simp
theorem mS (x : Int) : erV x = 0 ↔ okN x := by unfold erV; split <;> simp_all
theorem xg {x : List UInt8} (h : x.length ≤ 140737488355328) : bl.f x = some x := by
  unfold bl.f
  rw [if_pos (by simp; omega)]; rfl
theorem ze {l : List UInt8} (h : (dec l).2.2 = 0) : ∃ i, cH l = i ∧ i < 9 ∧ i < l.length ∧ ¬ (0 < i ∧ (l.getD i 0).toNat = 0) ∧ dN (i + 1) l ≤ 2 ^ 62 ∧ dec l = (((dN (i + 1) l : Nat) : Int), ((i + 1 : Nat) : Int), (0 : Int)) := by
  by_cases h9 : 9 ≤ cH l
  · rw [oA h9] at h; simp at h
  by_cases hs : l.length ≤ cH l
  · rw [mX (by omega) hs] at h; simp at h
  rw [lf rfl (by omega) (by omega)] at h
  by_cases hz : 0 < cH l ∧ (l.getD (cH l) 0).toNat = 0
  · rw [if_pos hz] at h; simp at h
  rw [if_neg hz] at h
  by_cases hb : 2 ^ 62 < dN (cH l + 1) l
  · rw [if_pos hb] at h; simp at h
  refine ⟨cH l, rfl, by omega, by omega, hz, by omega, ?_⟩
  rw [lf rfl (by omega) (by omega), if_neg hz, if_neg hb]
theorem yh {l : List UInt8} (h : ¬ (dec l).2.2 = 0) : (dec l).1 = 0 ∧ (dec l).2.1 = 0 := by
  by_cases h9 : 9 ≤ cH l
  · rw [oA h9]; exact ⟨rfl, rfl⟩
  by_cases hs : l.length ≤ cH l
  · rw [mX (by omega) hs]; exact ⟨rfl, rfl⟩
  rw [lf rfl (by omega) (by omega)] at h ⊢
  by_cases hz : 0 < cH l ∧ (l.getD (cH l) 0).toNat = 0
  · rw [if_pos hz]; exact ⟨rfl, rfl⟩
  rw [if_neg hz] at h ⊢
  by_cases hb : 2 ^ 62 < dN (cH l + 1) l
  · rw [if_pos hb]; exact ⟨rfl, rfl⟩
  · rw [if_neg hb] at h; exact absurd rfl h
theorem pV (l : List UInt8) (p n : Nat) : cut l (p : Int) ((p + n : Nat) : Int) = (l.drop p).take n := by
  simp only [cut, Int.toNat_natCast]
  rw [List.drop_take]
  congr 1
  omega
end Go.Proofs.YtjkjlggbikeliaaGreatDoor

namespace Go.Proofs.YtjkjlggbikeliaaGreatDoor
set_option linter.unusedVariables false
set_option linter.unusedSimpArgs false
open Go.RowKit
theorem mM {x : List UInt8} (h : x.length ≤ 140737488355328) : fL.f x = some x := by
  unfold fL.f
  rw [if_pos (by omega)]
  simp [kj]
/-! ### The reader -/
theorem rQ {b : List UInt8} {p : Nat} (h : (iO b (p : Int)).2.2 = 0) : ∃ n j : Nat, iO b (p : Int) = ((n : Int), (j : Int), 0) ∧ 1 ≤ j ∧ p + j ≤ b.length ∧ n ≤ 2 ^ 62 := by
  unfold iO at h ⊢
  by_cases hat : (p : Int) < 0 ∨ (b.length : Int) ≤ (p : Int)
  · rw [if_pos hat] at h; simp at h
  · rw [if_neg hat] at h ⊢
    obtain ⟨i, hi, h9, hlt, hz, hv, hd⟩ := ze h
    simp only [Int.toNat_natCast, List.length_drop] at hlt hv hd ⊢
    exact ⟨_, _, hd, by omega, by omega, hv⟩
theorem qk {b : List UInt8} {p : Int} (h : ¬ (iO b p).2.2 = 0) : (iO b p).1 = 0 ∧ (iO b p).2.1 = 0 := by
  unfold iO at h ⊢
  by_cases hat : p < 0 ∨ (b.length : Int) ≤ p
  · rw [if_pos hat]; exact ⟨rfl, rfl⟩
  · rw [if_neg hat] at h ⊢; exact yh h
def gb (b : List UInt8) (p : Nat) (e : Int) : Int × Int × Int := if e = 0 then iO b (p : Int) else (0, 0, e)
theorem nw {b : List UInt8} {p : Nat} {e : Int} (h : (gb b p e).2.2 = 0) : ∃ n j : Nat, gb b p e = ((n : Int), (j : Int), 0) ∧ 1 ≤ j ∧ p + j ≤ b.length ∧ n ≤ 2 ^ 62 := by
  unfold gb at h ⊢
  by_cases he : e = 0
  · rw [if_pos he] at h ⊢; exact rQ h
  · rw [if_neg he] at h; exact absurd h he
theorem oo {b : List UInt8} {p : Nat} {e : Int} (h : ¬ (gb b p e).2.2 = 0) : (gb b p e).1 = 0 ∧ (gb b p e).2.1 = 0 := by
  unfold gb at h ⊢
  by_cases he : e = 0
  · rw [if_pos he] at h ⊢; exact qk h
  · rw [if_neg he]; exact ⟨rfl, rfl⟩
theorem tY {k : Nat} (hk : 12 ≤ k) {b : List UInt8} (hb : b.length < 2 ^ 62) (p : Nat) (e : Int) :
    ee.f k b (p : Int) e = some ((gb b p e).1, (gb b p e).2.1, decide ((gb b p e).2.2 = 0), (p : Int), (gb b p e).2.2) := by
  unfold ee.f gb
  by_cases he : e = 0
  · rw [if_pos he, if_pos he, td (by omega) hb]; rfl
  · rw [if_neg he, if_neg he]; simp [he]
def jw (b : List UInt8) (p : Nat) (e : Int) : Nat := p + (gb b p e).2.1.toNat
theorem tZ {b : List UInt8} {p : Nat} {e : Int} (hp : p ≤ b.length) : jw b p e ≤ b.length := by
  unfold jw
  by_cases h : (gb b p e).2.2 = 0
  · obtain ⟨n, j, hd, h1, h2, h3⟩ := nw h
    rw [hd]; simpa using h2
  · rw [(oo h).2]; simpa using hp
theorem yi {k : Nat} (hk : 12 ≤ k) {b : List UInt8} (hb : b.length < 2 ^ 62) (p : Nat) (e : Int) (hp : p ≤ b.length) :
    dX.f k b (p : Int) e = some ((gb b p e).1, ((jw b p e : Nat) : Int), (gb b p e).2.2) := by
  unfold dX.f jw
  rw [tY hk hb]
  simp only [Option.bind_some]
  by_cases h : (gb b p e).2.2 = 0
  · obtain ⟨n, j, hd, h1, h2, h3⟩ := nw h
    rw [hd]
    simp only [decide_true, Bool.not_true, Bool.false_eq_true, if_false, Int.toNat_natCast]
    rw [w64 (by omega) (by omega)]
    simp
  · obtain ⟨h1, h2⟩ := oo h
    rw [if_pos (by simp [h]), h1, h2]
    rfl
theorem ql {k : Nat} (hk : 12 ≤ k) {b : List UInt8} (hb : b.length < 2 ^ 62) (p : Nat) (e : Int) (hp : p ≤ b.length) :
    cr.f k b (p : Int) e = some ((gb b p e).1, ((jw b p e : Nat) : Int), (gb b p e).2.2) := by
  unfold cr.f jw
  by_cases he : e = 0
  · have hr : gb b p e = iO b (p : Int) := by unfold gb; rw [if_pos he]
    rw [if_pos he, uU (by omega) hb, hr, Option.bind_some]
    by_cases h : (iO b (p : Int)).2.2 = 0
    · obtain ⟨n, j, hd, h1, h2, h3⟩ := rQ h
      rw [hd]
      simp only [Int.toNat_natCast]
      rw [w64 (by omega) (by omega)]
      simp
    · obtain ⟨h1, h2⟩ := qk h
      rw [h1, h2, w64 (by omega) (by omega)]
      simp
  · have hr : gb b p e = (0, 0, e) := by unfold gb; rw [if_neg he]
    rw [if_neg he, hr]; simp
def gd (b : List UInt8) (p : Nat) (e : Int) (most : Int) : List UInt8 × Nat × Int :=
  let d := gb b p e
  if d.2.2 = 0 then
    if max most 0 < d.1 then ([], p, 3) else
    if (b.length : Int) - (jw b p e : Nat) < d.1 then ([], p, 2) else ((b.drop (jw b p e)).take d.1.toNat, jw b p e + d.1.toNat, 0)
  else ([], p, d.2.2)
theorem wb {k : Nat} (hk : 12 ≤ k) {b : List UInt8} (hb : b.length < 2 ^ 47) (p : Nat) (e most : Int) (hp : p ≤ b.length) :
    eB.f k b (p : Int) e most = some ((gd b p e most).1, (((gd b p e most).2.1 : Nat) : Int), (gd b p e most).2.2) := by
  unfold eB.f gd jw
  rw [tY hk (by omega)]
  simp only [Option.bind_some]
  by_cases h : (gb b p e).2.2 = 0
  · obtain ⟨n, j, hd, h1, h2, h3⟩ := nw h
    rw [hd]
    simp only [decide_true, Bool.not_true, Bool.false_eq_true, if_false, if_true, Int.toNat_natCast]
    by_cases hn : max most 0 < (n : Int)
    · rw [if_pos hn, if_pos hn]
    · rw [if_neg hn, if_neg hn]
      have e1 : IntKind.i64.wrap ((b.length : Int) - (p : Int)) = (b.length : Int) - (p : Int) := w64 (by omega) (by omega)
      have e2 : IntKind.i64.wrap (((b.length : Int) - (p : Int)) - (j : Int)) = (b.length : Int) - ((p + j : Nat) : Int) := by rw [w64 (by omega) (by omega)]; omega
      have e3 : IntKind.i64.wrap ((p : Int) + (j : Int)) = ((p + j : Nat) : Int) := by rw [w64 (by omega) (by omega)]; simp
      rw [e1, e2]
      by_cases hs : (b.length : Int) - ((p + j : Nat) : Int) < (n : Int)
      · rw [if_pos hs, if_pos hs]
      · have e4 : IntKind.i64.wrap (((p + j : Nat) : Int) + (n : Int)) = ((p + j + n : Nat) : Int) := by rw [w64 (by omega) (by omega)]; simp
        rw [if_neg hs, if_neg hs, e3, e4, if_pos (by omega), pV, mM (by rw [List.length_take, List.length_drop]; omega)]
        rfl
  · rw [if_pos (by simp [h])]; simp [h]
theorem te {k : Nat} (hk : 12 ≤ k) {b : List UInt8} (hb : b.length < 2 ^ 47) (p : Nat) (e most : Int) (hp : p ≤ b.length) :
    dr.f k b (p : Int) e most = some ((gd b p e most).1, (((gd b p e most).2.1 : Nat) : Int), (gd b p e most).2.2) := by
  unfold dr.f gd
  rw [ql hk (by omega) p e hp]
  simp only [Option.bind_some]
  by_cases h : (gb b p e).2.2 = 0
  · obtain ⟨n, j, hd, h1, h2, h3⟩ := nw h
    have hr : jw b p e = p + j := by unfold jw; rw [hd]; rfl
    rw [hr, hd]
    simp only [if_true, Int.toNat_natCast]
    by_cases hn : max most 0 < (n : Int)
    · rw [if_pos hn, if_pos hn]; simp
    · rw [if_neg hn, if_neg hn]
      have e2 : IntKind.i64.wrap ((b.length : Int) - ((p + j : Nat) : Int)) = (b.length : Int) - ((p + j : Nat) : Int) := w64 (by omega) (by omega)
      rw [e2]
      by_cases hs : (b.length : Int) - ((p + j : Nat) : Int) < (n : Int)
      · rw [if_pos hs, if_pos hs]; simp
      · have e4 : IntKind.i64.wrap (((p + j : Nat) : Int) + (n : Int)) = ((p + j + n : Nat) : Int) := by rw [w64 (by omega) (by omega)]; simp
        have e5 : IntKind.i64.wrap (((p + j + n : Nat) : Int) - (n : Int)) = ((p + j : Nat) : Int) := by rw [w64 (by omega) (by omega)]; omega
        rw [if_neg hs, if_neg hs]
        simp only [Option.bind_some, if_true]
        rw [e4, e5, if_pos (by omega), pV, xg (by rw [List.length_take, List.length_drop]; omega)]
        rfl
  · obtain ⟨h1, h2⟩ := oo h
    have : jw b p e = p := by unfold jw; rw [h2]; rfl
    rw [if_neg h, if_neg h, this]
theorem mN {b : List UInt8} {p : Nat} {e most : Int} (hp : p ≤ b.length) : (gd b p e most).2.1 ≤ b.length ∧ (gd b p e most).1.length ≤ b.length := by
  unfold gd
  simp only []
  have := tZ (e := e) hp
  split
  · split
    · exact ⟨hp, by simp⟩
    · split
      · exact ⟨hp, by simp⟩
      · rename_i h1 h2 h3
        refine ⟨by simp only []; omega, ?_⟩
        simp only [List.length_take, List.length_drop]; omega
  · exact ⟨hp, by simp⟩
end Go.Proofs.YtjkjlggbikeliaaGreatDoor

namespace Go.Proofs.YtjkjlggbikeliaaGreatDoor
set_option linter.unusedVariables false
set_option linter.unusedSimpArgs false
open Go.RowKit
def mR (b : List UInt8) (e x : Int) : List UInt8 × Int := if e = 0 then (b ++ gG x, erV x) else (b, e)
def lR (b : List UInt8) (e : Int) (l : List UInt8) (most : Int) : List UInt8 × Int :=
  if e = 0 then (if max most 0 < (l.length : Int) then (b, 3) else (b ++ gG (l.length : Int) ++ l, 0)) else (b, e)
theorem ug {k : Nat} (hk : 10 ≤ k) {b : List UInt8} (hb : b.length + 9 ≤ 140737488355328) (e x : Int) : dx.f k b e x = some (mR b e x) := by
  unfold dx.f mR
  by_cases he : e = 0
  · rw [if_pos he, if_pos he, sk hk, Option.bind_some]
    unfold gG erV
    by_cases h : okN x
    · obtain ⟨n, rfl⟩ := Int.eq_ofNat_of_zero_le h.1
      have h2 : n ≤ 4611686018427387904 := by have := h.2; omega
      have hl := sv9 (n := n) (by omega)
      rw [if_neg (by rw [kQ]; simpa using h), if_pos h, if_pos h]
      show ((cQ.f k sl b (n : Int)).bind _) = _
      rw [wm hk _ _ (by omega), uh _ _ (by omega), he]
      rfl
    · rw [if_pos ((kQ x).2 h), if_neg h, if_neg h]; simp
  · rw [if_neg he, if_neg he]
theorem pk {k : Nat} (hk : 10 ≤ k) {b : List UInt8} (hb : b.length + 9 ≤ 140737488355328) (e x : Int) : cA.f k b e x = some (mR b e x) := by
  unfold cA.f mR
  have := fr x
  by_cases he : e = 0
  · rw [if_pos he, if_pos he, qV hk, Option.bind_some, if_pos (by simp only []; omega)]
  · rw [if_neg he, if_neg he]
theorem ui {l : List UInt8} (h : l.length < 2 ^ 47) : okN (l.length : Int) := ⟨by omega, by omega⟩
theorem wn {k : Nat} (hk : 10 ≤ k) {b l : List UInt8} (hb : b.length + 9 + l.length < 140737488355328) (e most : Int) : eC.f k b e l most = some (lR b e l most) := by
  unfold eC.f lR
  by_cases he : e = 0
  · by_cases hm : max most 0 < (l.length : Int)
    · rw [if_pos (by simp [he]; omega), if_pos he, if_pos hm]; rfl
    · have hn := ui (l := l) (by omega)
      have hl := fr (l.length : Int)
      rw [if_neg (by simp; omega), if_pos he, if_neg hm, Option.bind_some, if_pos he, ug hk (by omega), Option.bind_some]
      unfold mR
      rw [if_pos he, (mS _).2 hn]
      simp only []
      rw [if_pos (by rw [List.length_append]; omega)]
  · rw [if_neg (by simp [he]), if_neg he, Option.bind_some, if_neg he]
theorem sm {k : Nat} (hk : 10 ≤ k) {b l : List UInt8} (hb : b.length + 9 + l.length < 140737488355328) (e most : Int) : dt.f k b e l most = some (lR b e l most) := by
  unfold dt.f lR
  by_cases he : e = 0
  · by_cases hm : max most 0 < (l.length : Int)
    · rw [if_pos he, if_pos hm, if_pos he, if_pos hm]
    · have hn := ui (l := l) (by omega)
      have hl := fr (l.length : Int)
      rw [if_pos he, if_neg hm, if_pos he, if_neg hm, pk hk (by omega), Option.bind_some]
      unfold mR
      rw [if_pos he, (mS _).2 hn]
      simp only []
      rw [if_pos (by rw [List.length_append]; omega)]
  · rw [if_neg he, if_neg he]
def nE (b : List UInt8) (e : Int) : List UInt8 × Int := if e = 0 then (b, 0) else ([], e)
theorem xk {b : List UInt8} (hb : b.length ≤ 140737488355328) (e : Int) : eW.f b e = some (nE b e) := by
  unfold eW.f nE
  by_cases he : e = 0
  · rw [if_pos he, if_pos he, mM hb]; rfl
  · rw [if_neg he, if_neg he]
end Go.Proofs.YtjkjlggbikeliaaGreatDoor

namespace Go.Proofs.YtjkjlggbikeliaaGreatDoor
set_option linter.unusedVariables false
set_option linter.unusedSimpArgs false
open Go.RowKit
def rg (x l : Int) : Prop := l ≤ x ∧ x ≤ 4611686018427387904
instance (x l : Int) : Decidable (rg x l) := by unfold rg; infer_instance
theorem rj {x l : Int} (h : rg x l) (hl : 0 ≤ l) : okN x := ⟨Int.le_trans hl h.1, h.2⟩
theorem uB (x l : Int) : cU.f x l = some (decide (rg x l)) := by
  have : (decide (l ≤ x) && decide (x ≤ 4611686018427387904)) = decide (rg x l) := by rw [Bool.eq_iff_iff, Bool.and_eq_true, decide_eq_true_iff, decide_eq_true_iff, decide_eq_true_iff]; rfl
  unfold cU.f; rw [this]
theorem yG (x l m : Int) : ci.f x l m = some (decide (l ≤ x ∧ x ≤ m)) := by
  unfold ci.f; congr 1; rw [Bool.eq_iff_iff]; simp
theorem vD (x l : Int) : ci.f x l 4611686018427387904 = some (decide (rg x l)) := yG x l _
/-! ### Checks -/
def kp (i t : Int) (d : List UInt8) : Prop := (i = 0 ∧ t = 0) ∧ (d.length : Int) = 0
instance (i t : Int) (d : List UInt8) : Decidable (kp i t d) := by unfold kp; infer_instance
def gq (i t : Int) (d : List UInt8) : Int := if kp i t d then 0 else if ¬ (rg i 1 ∧ rg t 1) then 1 else if 524288 < (d.length : Int) then 3 else 0
theorem xT (i t : Int) (d : List UInt8) : dR.f i t d = some (decide (kp i t d)) := by
  unfold dR.f kp; congr 1; rw [Bool.eq_iff_iff]; simp
theorem xR (i t : Int) (d : List UInt8) : cG.f i t d = some (decide (kp i t d)) := by
  unfold cG.f kp; congr 1; rw [Bool.eq_iff_iff]; simp
theorem cP (i t : Int) (d : List UInt8) : bK.f i t d = some (gq i t d) := by
  unfold bK.f gq
  simp only [uB, xT, Option.bind_some]
  by_cases h0 : kp i t d
  · simp [h0]
  · by_cases h1 : rg i 1 <;> by_cases h2 : rg t 1 <;> simp [h0, h1, h2] <;> split <;> rfl
theorem rP (i t : Int) (d : List UInt8) : dC.f i t d = some (gq i t d) := by
  rw [← cP]; unfold bK.f dC.f; simp only [uB, vD, xT, xR]
end Go.Proofs.YtjkjlggbikeliaaGreatDoor

namespace Go.Proofs.YtjkjlggbikeliaaGreatDoor
set_option linter.unusedVariables false
set_option linter.unusedSimpArgs false
open Go.RowKit
theorem xU {x : Int} (h : okN x) (b : List UInt8) : mR b 0 x = (b ++ gG x, 0) := by unfold mR; rw [if_pos rfl, (mS x).2 h]
theorem uE {d : List UInt8} {m : Int} (h : (d.length : Int) ≤ m) (b : List UInt8) : lR b 0 d m = (b ++ gG (d.length : Int) ++ d, 0) := by
  unfold lR; rw [if_pos rfl, if_neg (by omega)]
theorem wN (b : List UInt8) : nE b 0 = (b, 0) := by unfold nE; rw [if_pos rfl]
theorem xI (b : List UInt8) (e : Int) : cJ.f b e = some (nE b e) := by
  unfold cJ.f nE
  by_cases he : e = 0
  · rw [if_pos he, if_pos he]
  · rw [if_neg he, if_neg he]
theorem wI {k : Nat} (hk : 10 ≤ k) {b : List UInt8} (hb : b.length ≤ 100000000) {x : Int} (h : okN x) : dx.f k b 0 x = some (b ++ gG x, 0) := by
  rw [ug hk (by omega), xU h]
theorem wB {k : Nat} (hk : 10 ≤ k) {b d : List UInt8} (hb : b.length ≤ 100000000) {m : Int} (h : (d.length : Int) ≤ m) (hd : d.length ≤ 100000000) : eC.f k b 0 d m = some (b ++ gG (d.length : Int) ++ d, 0) := by
  rw [wn hk (by omega), uE h]
theorem wD {b : List UInt8} (hb : b.length ≤ 100000000) : eW.f b 0 = some (b, 0) := by rw [xk (by omega), wN]
theorem rwI {k : Nat} (hk : 10 ≤ k) {b : List UInt8} (hb : b.length ≤ 100000000) {x : Int} (h : okN x) : cA.f k b 0 x = some (b ++ gG x, 0) := by
  rw [pk hk (by omega), xU h]
theorem rwB {k : Nat} (hk : 10 ≤ k) {b d : List UInt8} (hb : b.length ≤ 100000000) {m : Int} (h : (d.length : Int) ≤ m) (hd : d.length ≤ 100000000) : dt.f k b 0 d m = some (b ++ gG (d.length : Int) ++ d, 0) := by
  rw [sm hk (by omega), uE h]
theorem rwD (b : List UInt8) : cJ.f b 0 = some (b, 0) := by rw [xI, wN]
/-! ### Texts -/
def bB (d : List UInt8) : List UInt8 := gG (d.length : Int) ++ d
def txP (i t : Int) (d : List UInt8) : List UInt8 := gG i ++ (gG t ++ bB d)
theorem uF {i t : Int} {d : List UInt8} (h : gq i t d = 0) : rg i 0 ∧ rg t 0 ∧ (d.length : Int) ≤ 524288 := by
  unfold gq at h
  split at h
  · rename_i h1
    obtain ⟨⟨rfl, rfl⟩, h3⟩ := h1
    refine ⟨?_, ?_, by omega⟩ <;> (unfold rg; omega)
  · split at h
    · omega
    · split at h
      · omega
      · rename_i h1 h2 h3
        have h2 := Classical.not_not.1 h2
        unfold rg at *
        omega
def mG (c : Int) (t : List UInt8) : List UInt8 × Int := if c = 0 then (t, 0) else ([], c)
theorem xN {k : Nat} (hk : 10 ≤ k) (i t : Int) (d : List UInt8) : eH.f k i t d = some (mG (gq i t d) (txP i t d)) := by
  unfold eH.f dv.f fU.f mG
  rw [cP, Option.bind_some]
  by_cases h : gq i t d = 0
  · obtain ⟨h1, h2, h4⟩ := uF h
    have b1 := fr i; have b2 := fr t; have b4 := fr (d.length : Int)
    rw [if_pos h, if_pos h, show gU.f = some ([], 0) from rfl]
    simp only [Option.bind_some]
    rw [wI hk (by simp) (rj h1 (by decide)), Option.bind_some, wI hk (by simp; omega) (rj h2 (by decide)), Option.bind_some, wB hk (by simp; omega) h4 (by omega), Option.bind_some]
    simp only [Option.bind_some]
    rw [wD (by simp; omega)]
    simp [txP, bB]
  · rw [if_neg h, if_neg h]; rfl
theorem xQ {k : Nat} (hk : 10 ≤ k) (i t : Int) (d : List UInt8) : dS.f k i t d = some (mG (gq i t d) (txP i t d)) := by
  unfold dS.f mG
  rw [rP, Option.bind_some]
  by_cases h : gq i t d = 0
  · obtain ⟨h1, h2, h4⟩ := uF h
    have b1 := fr i; have b2 := fr t; have b4 := fr (d.length : Int)
    rw [if_pos h, if_pos h]
    rw [rwI hk (by simp) (rj h1 (by decide)), Option.bind_some, rwI hk (by simp; omega) (rj h2 (by decide)), Option.bind_some, rwB hk (by simp; omega) h4 (by omega), Option.bind_some]
    rw [rwD]
    simp [txP, bB]
  · rw [if_neg h, if_neg h]
end Go.Proofs.YtjkjlggbikeliaaGreatDoor

namespace Go.Proofs.YtjkjlggbikeliaaGreatDoor
set_option linter.unusedVariables false
set_option linter.unusedSimpArgs false
open Go.RowKit
def rI (b : List UInt8) (p : Nat) (e : Int) : Int × Nat × Int := ((gb b p e).1, jw b p e, (gb b p e).2.2)
def rR (b : List UInt8) (p : Nat) (e : Int) : Int := if e = 0 ∧ p < b.length then 3 else e
theorem nz {b : List UInt8} {p : Nat} {e : Int} (hp : p ≤ b.length) : (rI b p e).2.1 ≤ b.length := tZ hp
theorem cI {k : Nat} (hk : 12 ≤ k) {b : List UInt8} (hb : b.length ≤ 100000000) {p : Nat} (hp : p ≤ b.length) (e : Int) : dX.f k b (p : Int) e = some ((rI b p e).1, (((rI b p e).2.1 : Nat) : Int), (rI b p e).2.2) := yi hk (by omega) p e hp
theorem rI' {k : Nat} (hk : 12 ≤ k) {b : List UInt8} (hb : b.length ≤ 100000000) {p : Nat} (hp : p ≤ b.length) (e : Int) : cr.f k b (p : Int) e = some ((rI b p e).1, (((rI b p e).2.1 : Nat) : Int), (rI b p e).2.2) := ql hk (by omega) p e hp
theorem rI0 {k : Nat} (hk : 12 ≤ k) {b : List UInt8} (hb : b.length ≤ 100000000) : cr.f k b 0 0 = some ((rI b 0 0).1, (((rI b 0 0).2.1 : Nat) : Int), (rI b 0 0).2.2) := rI' hk hb (Nat.zero_le _) 0
theorem cB {k : Nat} (hk : 12 ≤ k) {b : List UInt8} (hb : b.length ≤ 100000000) {p : Nat} (hp : p ≤ b.length) (e most : Int) : eB.f k b (p : Int) e most = some ((gd b p e most).1, (((gd b p e most).2.1 : Nat) : Int), (gd b p e most).2.2) := wb hk (by omega) p e most hp
theorem rB' {k : Nat} (hk : 12 ≤ k) {b : List UInt8} (hb : b.length ≤ 100000000) {p : Nat} (hp : p ≤ b.length) (e most : Int) : dr.f k b (p : Int) e most = some ((gd b p e most).1, (((gd b p e most).2.1 : Nat) : Int), (gd b p e most).2.2) := te hk (by omega) p e most hp
theorem zY {b : List UInt8} (hb : b.length ≤ 100000000) : gh.f b = some (b, ((0 : Nat) : Int), 0) := by unfold gh.f; rw [mM (by omega)]; rfl
theorem ua {b : List UInt8} (hb : b.length ≤ 100000000) {p : Nat} (hp : p ≤ b.length) : IntKind.i64.wrap ((b.length : Int) - (p : Int)) = (b.length : Int) - (p : Int) := w64 (by omega) (by omega)
theorem zM {b : List UInt8} (hb : b.length ≤ 100000000) {p : Nat} (hp : p ≤ b.length) (e : Int) : cm.f b (p : Int) e = some (rR b p e) := by
  unfold cm.f cD.f rR
  simp only [ua hb hp, Option.bind_some]
  by_cases h1 : e = 0 <;> by_cases h2 : p < b.length <;> simp [h1, h2] <;> (repeat' split) <;> first | rfl | omega
theorem zN {b : List UInt8} (hb : b.length ≤ 100000000) {p : Nat} (hp : p ≤ b.length) (e : Int) : dW.f b (p : Int) e = some (rR b p e) := by
  unfold dW.f bW.f rR
  simp only [ua hb hp, Option.bind_some]
  by_cases h1 : e = 0 <;> by_cases h2 : p < b.length <;> simp [h1, h2] <;> (repeat' split) <;> first | rfl | omega
/-! ### What is read of any bytes -/
def xh (e c : Int) : Int := if e = 0 then c else e
def kE (b : List UInt8) : Int × Int × List UInt8 × Int :=
  let i := rI b 0 0; let t := rI b i.2.1 i.2.2; let d := gd b t.2.1 t.2.2 524288
  let e := xh (rR b d.2.1 d.2.2) (gq i.1 t.1 d.1); if e = 0 then (i.1, t.1, d.1, 0) else (0, 0, [], e)
theorem qr {e c : Int} : (if e = 0 then some c else some e) = some (xh e c) := by unfold xh; split <;> rfl
section
variable {k : Nat} (hk : 12 ≤ k) {b : List UInt8} (hb : b.length ≤ 100000000)
include hk hb
theorem zJ : fM.f k b = some (kE b) := by
  have p0 : (0 : Nat) ≤ b.length := Nat.zero_le _
  have p1 := nz (e := 0) p0; have p2 := nz (e := (rI b 0 0).2.2) p1
  unfold fM.f dV.f
  rw [zY hb, Option.bind_some]; simp only []
  rw [cI hk hb p0, Option.bind_some]; simp only []
  rw [cI hk hb p1, Option.bind_some]; simp only []
  rw [cB hk hb p2, Option.bind_some]; simp only []
  rw [zM hb (mN p2).1, Option.bind_some, cP]; simp only [Option.bind_some, qr]
  unfold kE; simp only []
  split <;> rfl
theorem zO : fh.f k b = some (kE b) := by
  have p0 : (0 : Nat) ≤ b.length := Nat.zero_le _
  have p1 := nz (e := 0) p0; have p2 := nz (e := (rI b 0 0).2.2) p1
  unfold fh.f
  rw [rI0 hk hb, Option.bind_some]; simp only []
  rw [rI' hk hb p1, Option.bind_some]; simp only []
  rw [rB' hk hb p2, Option.bind_some]; simp only []
  rw [zN hb (mN p2).1, Option.bind_some, rP]; simp only [Option.bind_some, qr]
  unfold kE; simp only []
  split
  · rename_i h; rw [h]
  · rfl
end
/-! ### What is read of a text -/
theorem xi (b : List UInt8) : (kE b).2.2.1.length ≤ b.length := by
  have p0 : (0 : Nat) ≤ b.length := Nat.zero_le _
  have p1 := nz (e := 0) p0; have p2 := nz (e := (rI b 0 0).2.2) p1
  have h := (mN (b := b) (e := (rI b (rI b 0 0).2.1 (rI b 0 0).2.2).2.2) (most := 524288) p2).2
  unfold kE
  simp only []
  split
  · exact h
  · simp
end Go.Proofs.YtjkjlggbikeliaaGreatDoor

namespace Go.Proofs.YtjkjlggbikeliaaGreatDoor
set_option linter.unusedVariables false
set_option linter.unusedSimpArgs false
set_option linter.unusedSectionVars false
open Go.RowKit
section
variable {α β : Type} [DecidableEq α]
theorem fW : ∀ (l : List (α × β)) (x : α) (y : β) (z : α), ay (bk l x y) z = if x = z then some y else ay l z
  | [], x, y, z => by simp [bk, ay]
  | p :: l, x, y, z => by
    by_cases h : p.1 = x
    · by_cases hz : x = z <;> simp [bk, ay, h, hz]
    · by_cases hz : p.1 = z
      · have hxz : x ≠ z := fun e => h (hz.trans e.symm)
        subst hz
        simp [bk, ay, h, hxz]
      · simp [bk, ay, h, hz, fW l x y z]
theorem kA : ∀ (l : List (α × β)) (x : α) (y : β), (bk l x y).map (·.1) = if x ∈ l.map (·.1) then l.map (·.1) else l.map (·.1) ++ [x]
  | [], x, y => by simp [bk]
  | p :: l, x, y => by
    by_cases h : p.1 = x
    · simp [bk, h]
    · have ih := kA l x y
      have h' : ¬ x = p.1 := fun e => h e.symm
      by_cases hm : x ∈ l.map (·.1)
      · rw [if_pos hm] at ih; rw [if_pos (by simp only [List.map_cons]; exact List.mem_cons_of_mem _ hm)]; simp [bk, h, ih]
      · rw [if_neg hm] at ih; rw [if_neg (by rw [List.map_cons, List.mem_cons]; rintro (e | e); exact h' e; exact hm e)]; simp [bk, h, ih]
theorem jj {l : List (α × β)} {x : α} {y : β} (h : (l.map (·.1)).Nodup) : ((bk l x y).map (·.1)).Nodup := by
  rw [kA]
  split
  · exact h
  · rename_i hx
    exact List.nodup_append.2 ⟨h, by simp, fun a ha b hb => by simp at hb; subst hb; exact fun e => hx (e ▸ ha)⟩
theorem qU {l : List (α × β)} {x z : α} {y : β} : z ∈ (bk l x y).map (·.1) ↔ z = x ∨ z ∈ l.map (·.1) := by
  rw [kA]
  split
  · rename_i hx
    constructor
    · exact .inr
    · rintro (rfl | h)
      · exact hx
      · exact h
  · rw [List.mem_append, List.mem_singleton]; exact Or.comm
theorem tv {l : List (α × β)} {x : α} {y : β} : (bk l x y).length ≤ l.length + 1 := by
  have := congrArg List.length (kA l x y)
  rw [List.length_map] at this
  split at this <;> simp at this <;> omega
theorem oD : ∀ (l : List (α × β)) (x : α) (y : β) (e : α × β), e ∈ bk l x y → e = (x, y) ∨ e ∈ l
  | [], x, y, e, h => by simp [bk] at h; exact .inl h
  | p :: l, x, y, e, h => by
    by_cases hp : p.1 = x
    · simp only [bk, if_pos hp, List.mem_cons] at h
      rcases h with h | h
      · exact .inl h
      · exact .inr (List.mem_cons_of_mem _ h)
    · simp only [bk, if_neg hp, List.mem_cons] at h
      rcases h with h | h
      · exact .inr (h ▸ List.mem_cons_self)
      · rcases oD l x y e h with h | h
        · exact .inl h
        · exact .inr (List.mem_cons_of_mem _ h)
theorem lD : ∀ (l : List (α × β)) (x : α) (y : β), (bk l x y).length = if (ay l x).isSome then l.length else l.length + 1
  | [], x, y => by simp [bk, ay]
  | p :: l, x, y => by
    by_cases h : p.1 = x
    · simp [bk, ay, h]
    · simp only [bk, ay, if_neg h, List.length_cons, lD l x y]; split <;> rfl
theorem kX : ∀ (l : List (α × β)) (x : α), (bU l x).Sublist l
  | [], x => by simp [bU]
  | p :: l, x => by
    by_cases h : p.1 = x
    · simp only [bU, if_pos h]; exact List.sublist_cons_self _ _
    · simp only [bU, if_neg h]; exact (kX l x).cons_cons p
theorem jA : ∀ (l : List (α × β)) (x : α) (y : β), ay l x = some y → (x, y) ∈ l
  | [], x, y, h => by simp [ay] at h
  | p :: l, x, y, h => by
    by_cases hp : p.1 = x
    · simp only [ay, if_pos hp, Option.some.injEq] at h; subst hp; subst h; exact List.mem_cons_self
    · simp only [ay, if_neg hp] at h; exact List.mem_cons_of_mem _ (jA l x y h)
theorem iD : ∀ (l : List (α × β)) (x : α), x ∈ l.map (·.1) ↔ (ay l x).isSome = true
  | [], x => by simp [ay]
  | p :: l, x => by
    by_cases hp : p.1 = x
    · simp [ay, hp]
    · have h' : ¬ x = p.1 := fun e => hp e.symm
      rw [List.map_cons, List.mem_cons, iD l x]; simp [ay, hp, h']
theorem lE : ∀ (l : List (α × β)) (x : α) (y : β), (l.map (·.1)).Nodup → (x, y) ∈ l → ay l x = some y
  | [], x, y, _, h => by simp at h
  | p :: l, x, y, hn, h => by
    rw [List.map_cons, List.nodup_cons] at hn
    rcases List.mem_cons.1 h with h | h
    · subst h; simp [ay]
    · have : p.1 ≠ x := fun e => hn.1 (e ▸ List.mem_map_of_mem (f := (·.1)) h)
      simp only [ay, if_neg this]; exact lE l x y hn.2 h
theorem gm : ∀ (l : List (α × β)) (x z : α), (l.map (·.1)).Nodup → ay (bU l x) z = if x = z then none else ay l z
  | [], x, z, _ => by simp [bU, ay]
  | p :: l, x, z, hn => by
    rw [List.map_cons, List.nodup_cons] at hn
    by_cases h : p.1 = x
    · simp only [bU, if_pos h]
      by_cases hz : x = z
      · rw [if_pos hz]
        cases hm : ay l z with
        | none => rfl
        | some y => exact absurd (by rw [h, hz]; exact (iD l z).2 (by rw [hm]; rfl)) hn.1
      · have : ¬ p.1 = z := fun e => hz (h.symm.trans e)
        rw [if_neg hz]; simp only [ay, if_neg this]
    · simp only [bU, if_neg h]
      by_cases hp : p.1 = z
      · have : ¬ x = z := fun e => h (hp.trans e.symm)
        rw [if_neg this]; simp only [ay, if_pos hp]
      · simp only [ay, if_neg hp]; exact gm l x z hn.2
theorem sI : ∀ (l : List (α × β)) (x : α), (ay l x).isSome = true → (bU l x).length + 1 = l.length
  | [], x, h => by simp [ay] at h
  | p :: l, x, h => by
    by_cases hp : p.1 = x
    · simp [bU, hp]
    · simp only [ay, if_neg hp] at h
      simp only [bU, if_neg hp, List.length_cons, sI l x h]
theorem wg {l m : List (α × β)} (hl : (l.map (·.1)).Nodup) (hm : (m.map (·.1)).Nodup) (h : ∀ x, ay l x = ay m x) : (l.map (·.1)).Perm (m.map (·.1)) := by
  refine (List.perm_ext_iff_of_nodup hl hm).2 fun x => ?_
  rw [iD, iD, h]
end
theorem sO {β : Type} (kvs : List (List UInt8 × β)) : (dz kvs).Pairwise (· ≤ ·) := by
  have := List.pairwise_mergeSort (le := fun x y : List UInt8 => decide (x ≤ y)) (fun a b c h1 h2 => by simp only [decide_eq_true_eq] at *; exact List.le_trans h1 h2) (fun a b => by simp only [Bool.or_eq_true, decide_eq_true_eq]; exact List.le_total a b) (kvs.map (·.1))
  exact this.imp fun h => of_decide_eq_true h
theorem ji {β : Type} (kvs : List (List UInt8 × β)) : (dz kvs).Perm (kvs.map (·.1)) := List.mergeSort_perm _ _
theorem kW {β : Type} {kvs : List (List UInt8 × β)} (h : (kvs.map (·.1)).Nodup) : (dz kvs).Pairwise (· < ·) := by
  have h1 := sO kvs
  have h2 : (dz kvs).Nodup := (ji kvs).nodup_iff.2 h
  refine (h1.and h2).imp fun {a b} ⟨x, y⟩ => ?_
  rcases List.le_iff_lt_or_eq.1 x with h | h
  · exact h
  · exact absurd h y
theorem qt : ∀ {l m : List (List UInt8)}, l.Pairwise (· < ·) → m.Pairwise (· < ·) → (∀ x, x ∈ l ↔ x ∈ m) → l = m
  | [], [], _, _, _ => rfl
  | [], b :: m, _, _, h => absurd ((h b).2 (by simp)) (by simp)
  | a :: l, [], _, _, h => absurd ((h a).1 (by simp)) (by simp)
  | a :: l, b :: m, hl, hm, h => by
    have hl' := List.pairwise_cons.1 hl
    have hm' := List.pairwise_cons.1 hm
    have hab : a = b := by
      have h1 := (h a).1 (by simp)
      have h2 := (h b).2 (by simp)
      simp only [List.mem_cons] at h1 h2
      rcases h1 with h1 | h1
      · exact h1
      · rcases h2 with h2 | h2
        · exact h2.symm
        · exact absurd (hl'.1 b h2) (List.lt_asymm (hm'.1 a h1))
    subst hab
    refine congrArg _ (qt hl'.2 hm'.2 fun x => ?_)
    have hx := h x
    simp only [List.mem_cons] at hx
    constructor
    · intro hx'
      rcases hx.1 (.inr hx') with e | e
      · subst e; exact absurd (hl'.1 x hx') (List.lt_irrefl _)
      · exact e
    · intro hx'
      rcases hx.2 (.inr hx') with e | e
      · subst e; exact absurd (hm'.1 x hx') (List.lt_irrefl _)
      · exact e
end Go.Proofs.YtjkjlggbikeliaaGreatDoor

namespace Go.Proofs.YtjkjlggbikeliaaGreatDoor
set_option linter.unusedVariables false
set_option linter.unusedSimpArgs false
set_option linter.unusedSectionVars false
open Go.RowKit
theorem ke {α : Type} (l : List α) (d : α) (i : Nat) (h : i < l.length) : l.getD i d = l[i] := by simp [List.getD_eq_getElem?_getD, List.getElem?_eq_getElem h]
theorem kU {α : Type} (l : List α) (d : α) {i : Nat} (h : i < l.length) : l.drop i = l.getD i d :: l.drop (i + 1) := by rw [ke _ _ _ h]; exact List.drop_eq_getElem_cons h
theorem wi1 {i : Nat} (h : i < 2 ^ 62) : IntKind.i64.wrap ((i : Int) + 1) = ((i + 1 : Nat) : Int) := by rw [w64 (by omega) (by omega)]; simp
/-! ### Names -/
def mb (c : UInt8) : Bool := ((((decide (((c.toNat : Int)) < (97 : Int))) || (decide ((122 : Int) < (c.toNat : Int)))) && ((decide ((c.toNat : Int) < (48 : Int))) || (decide ((57 : Int) < (c.toNat : Int))))) && (!decide ((c.toNat : Int) = (45 : Int)))) && (!decide ((c.toNat : Int) = (46 : Int)))
def nmB (x : List UInt8) : Bool := (x.all fun c => !mb c) && (decide ((0 : Int) < (x.length : Int)) && decide ((x.length : Int) ≤ (32 : Int)))
theorem pD (x : List UInt8) (hl : x.length < 2 ^ 62) : ∀ (d i k : Nat), i + d = x.length → d + 1 ≤ k → dE.l0 x k (i : Int) = some (if (x.drop i).all (fun c => !mb c) then .inl () else .inr false)
  | d, i, 0, _, hk => by omega
  | 0, i, k + 1, h, _ => by
    simp only [dE.l0]
    rw [if_neg (by omega), List.drop_of_length_le (by omega)]; rfl
  | d + 1, i, k + 1, h, hk => by
    simp only [dE.l0]
    rw [if_pos (by omega), if_pos (by omega), wi1 (by omega), pD x hl d (i + 1) k (by omega) (by omega), kU x 0 (i := i) (by omega)]
    simp only [Int.toNat_natCast, List.all_cons]
    obtain ⟨c, hc⟩ : ∃ c, x.getD i 0 = c := ⟨_, rfl⟩
    simp only [hc]
    have e : ((if ((decide (((c.toNat : Int)) < (97 : Int))) || (decide ((122 : Int) < (c.toNat : Int)))) = true then (some ((decide ((c.toNat : Int) < (48 : Int))) || (decide ((57 : Int) < (c.toNat : Int))))) else (some false)) : Option Bool) = some (((decide (((c.toNat : Int)) < (97 : Int))) || (decide ((122 : Int) < (c.toNat : Int)))) && ((decide ((c.toNat : Int) < (48 : Int))) || (decide ((57 : Int) < (c.toNat : Int))))) := by
      cases ((decide (((c.toNat : Int)) < (97 : Int))) || (decide ((122 : Int) < (c.toNat : Int)))) <;> rfl
    rw [e, Option.bind_some]
    show (if mb c = true then _ else _) = _
    cases mb c <;> rfl
theorem sR {x : List UInt8} {k : Nat} (hl : x.length < 2 ^ 62) (hk : x.length + 1 ≤ k) : dE.f k x = some (nmB x) := by
  unfold dE.f nmB
  have := pD x hl x.length 0 k (by omega) (by omega)
  rw [show ((0 : Nat) : Int) = 0 from rfl, List.drop_zero] at this
  rw [this]
  cases x.all fun c => !mb c <;> rfl
theorem uy {x : List UInt8} (h : nmB x = true) : x.length ≤ 32 := by
  unfold nmB at h
  simp at h
  omega
/-! ### What a disk is -/
abbrev FSt := List (List UInt8 × (List UInt8 × Int))
abbrev DS := FSt × List UInt8 × Int × Bool
def szF (fs : FSt) : Nat := (fs.map fun p => p.2.1.length).sum
structure cx (n : Nat) (fs : FSt) : Prop where
  nd : (fs.map (·.1)).Nodup
  sy : ∀ p ∈ fs, 0 ≤ p.2.2 ∧ p.2.2 ≤ (p.2.1.length : Int)
  nm : ∀ p ∈ fs, p.1.length ≤ 32
  sz : szF fs ≤ 16777216
  ln : fs.length ≤ n
theorem Ab (n : Nat) : cx n [] := ⟨by simp, by simp, by simp, by simp [szF], by simp⟩
def bw (fs : FSt) (x : List UInt8) : List UInt8 × Int := (ay fs x).getD ([], 0)
theorem gg {fs : FSt} {x : List UInt8} (h : (ay fs x).isSome = true) : (x, bw fs x) ∈ fs := jA _ _ _ (by rw [bw]; exact ew h)
theorem yK {fs : FSt} (h : (fs.map (·.1)).Nodup) {p : List UInt8 × (List UInt8 × Int)} (hp : p ∈ fs) : bw fs p.1 = p.2 := by
  rw [bw, lE fs p.1 p.2 h hp]; rfl
theorem iJ : ∀ {fs : FSt} {p : List UInt8 × (List UInt8 × Int)}, p ∈ fs → p.2.1.length ≤ szF fs
  | [], _, h => by cases h
  | q :: l, p, h => by
    rcases List.mem_cons.1 h with rfl | h
    · simp [szF]
    · have := iJ h
      simp only [szF, List.map_cons, List.sum_cons] at this ⊢; omega
/-! ### Sizes -/
def jN (fs : FSt) (x : List UInt8) : Nat := (bw fs x).1.length
theorem qN (fs : FSt) : ∀ (l : List (List UInt8)) (s : Nat), (∀ x ∈ l, (ay fs x).isSome = true) → s + (l.map (jN fs)).sum < 2 ^ 62 →
    gD (fun (s : Int) (x : List UInt8) (v : List UInt8 × Int) => some (IntKind.i64.wrap (s + (v.1.length : Int)), v)) l (s : Int) fs = some (((s + (l.map (jN fs)).sum : Nat) : Int), fs)
  | [], s, _, _ => by simp [gD]
  | x :: l, s, h, hb => by
    have hx := h x (by simp)
    have hv : ay fs x = some (bw fs x) := by rw [bw]; exact ew hx
    simp only [List.map_cons, List.sum_cons] at hb ⊢
    have hle : (bw fs x).1.length = jN fs x := rfl
    rw [gD, hv, Option.bind_some]
    simp only [Option.bind_some]
    rw [kz hv, w64 (by omega) (by omega)]
    have := qN fs l (s + jN fs x) (fun y hy => h y (List.mem_cons_of_mem _ hy)) (by omega)
    rw [show (s : Int) + ((bw fs x).1.length : Int) = ((s + jN fs x : Nat) : Int) by rw [hle]; omega, this]
    congr 2
    omega
theorem ou {fs : FSt} (h : (fs.map (·.1)).Nodup) : ((fs.map (·.1)).map (jN fs)).sum = szF fs := by
  unfold szF
  rw [List.map_map]
  congr 1
  refine List.map_congr_left fun p hp => ?_
  simp only [Function.comp, jN, yK h hp]
theorem nh {fs : FSt} {x : List UInt8} (h : x ∈ fs.map (·.1)) : (ay fs x).isSome = true := (iD fs x).1 h
theorem ur {n : Nat} {fs : FSt} (h : cx n fs) (l : List UInt8) (a : Int) (d : Bool) : fd.f fs l a d = some (szF fs : Int) := by
  unfold fd.f nc iZ
  have hsum := ou h.nd
  have hsz := h.sz
  have h1 : ∀ m, m.Perm (fs.map (·.1)) → gD (fun (s : Int) (x : List UInt8) (v : List UInt8 × Int) => (some (IntKind.i64.wrap (s + (v.1.length : Int)))).map fun s' => (s', v)) m 0 fs = some ((szF fs : Int), fs) := fun m hm => by
    have hs : (m.map (jN fs)).sum = szF fs := by rw [← hsum]; exact (hm.map _).sum_nat
    have := qN fs m 0 (fun x hx => nh (hm.mem_iff.1 hx)) (by omega)
    rw [hs, Nat.zero_add] at this
    exact this
  rw [if_pos ⟨h.nd, fun m hm => by rw [h1 m (kR hm), h1 _ (List.Perm.refl _)]⟩, h1 _ (List.Perm.refl _)]
  rfl
/-! ### What single operations do -/
def cl (l : List UInt8) (a : Int) (d : Bool) : Bool × List UInt8 × Int × Bool := if a = 0 then (false, l, a, d) else (decide (IntKind.i64.wrap (a - 1) = 0), l, IntKind.i64.wrap (a - 1), decide (IntKind.i64.wrap (a - 1) = 0))
theorem kh (fs : FSt) (l : List UInt8) (a : Int) (d : Bool) : bm.f fs l a d = some (cl l a d) := by
  unfold bm.f cl; split <;> rfl
def dZ (fs : FSt) (l : List UInt8) (a : Int) (d : Bool) (x : List UInt8) : Int × DS :=
  if d = true then (11, fs, l, a, d) else if nmB x = false then (7, fs, l, a, d) else if (ay fs x).isSome = true then (9, fs, l, a, d) else if (256 : Int) ≤ (fs.length : Int) then (10, fs, l, a, d)
  else if (cl l a d).1 = true then (11, fs, (cl l a d).2) else (0, bk fs x ([], 0), (cl l a d).2)
theorem oU (fs : FSt) (l : List UInt8) (a : Int) (d : Bool) (x : List UInt8) : bZ.f fs l a d x = some (ay fs x).isSome := by
  unfold bZ.f; cases (ay fs x).isSome <;> rfl
theorem qf (fs : FSt) (l : List UInt8) (a : Int) (d : Bool) (x : List UInt8) {k : Nat} (hl : x.length < 2 ^ 62) (hk : x.length + 1 ≤ k) : eh.f k fs l a d x = some (dZ fs l a d x) := by
  unfold eh.f dZ
  rw [sR hl hk, oU, kh]
  simp only [Option.bind_some]
  cases d <;> cases nmB x <;> cases (ay fs x).isSome <;> simp <;> (repeat' split) <;> rfl
def ea (fs : FSt) (l : List UInt8) (a : Int) (d : Bool) (x b : List UInt8) : Int × DS :=
  if (ay fs x).isSome = true then (if d = true then (11, fs, l, a, d) else if 16777216 - (szF fs : Int) < (b.length : Int) then (10, fs, l, a, d)
    else if (cl l a d).1 = true then (11, bk fs x ((bw fs x).1 ++ b.take (b.length / 2), (bw fs x).2), x, (cl l a d).2.2) else (0, bk fs x ((bw fs x).1 ++ b, (bw fs x).2), x, (cl l a d).2.2))
  else if d = true then (11, fs, l, a, d) else (8, fs, l, a, d)
theorem tJ (b : List UInt8) (h : b.length < 2 ^ 62) : IntKind.i64.wrap (Int.tdiv (b.length : Int) 2) = ((b.length / 2 : Nat) : Int) := by
  have : Int.tdiv (b.length : Int) 2 = ((b.length / 2 : Nat) : Int) := by rw [Int.tdiv_eq_ediv_of_nonneg (by omega)]; omega
  rw [this, w64 (by omega) (by omega)]
theorem qg {n : Nat} {fs : FSt} (h : cx n fs) (l : List UInt8) (a : Int) (d : Bool) (x b : List UInt8) (hb : b.length < 2 ^ 40) : ei.f fs l a d x b = some (ea fs l a d x b) := by
  unfold ei.f ea
  rw [ur h, kh]
  have hsz := h.sz
  simp only [Option.bind_some]
  by_cases hm : (ay fs x).isSome = true
  · rw [if_pos hm, if_pos hm]
    cases d with
    | true => rfl
    | false =>
      have hlen : (bw fs x).1.length ≤ 16777216 := Nat.le_trans (iJ (gg hm)) hsz
      rw [w64 (n := 16777216 - (szF fs : Int)) (by omega) (by omega), tJ b (by omega)]
      simp only [Bool.false_eq_true, if_false]
      by_cases hs : 16777216 - (szF fs : Int) < (b.length : Int)
      · rw [if_pos hs, if_pos hs]
      · rw [if_neg hs, if_neg hs]
        by_cases hf : (cl l a false).1 = true
        · rw [if_pos hf, if_pos hf, if_pos ⟨by omega, by omega, by omega⟩, Option.bind_some]
          have ec : cut b (0 : Int) ((b.length / 2 : Nat) : Int) = b.take (b.length / 2) := by
            show (b.take ((b.length / 2 : Nat) : Int).toNat).drop 0 = _
            rw [Int.toNat_natCast, List.drop_zero]
          rw [ec]
          show (if ((bw fs x).1.length + (b.take (b.length / 2)).length) * 1 ≤ 140737488355328 then _ else _) = _
          rw [if_pos (by simp only [List.length_take]; omega)]
          rfl
        · rw [if_neg hf, if_neg hf, Option.bind_some]
          show (if ((bw fs x).1.length + b.length) * 1 ≤ 140737488355328 then _ else _) = _
          rw [if_pos (by omega)]
          rfl
  · rw [if_neg hm, if_neg hm]
    split <;> rfl
def gc (fs : FSt) (l : List UInt8) (a : Int) (d : Bool) (x : List UInt8) : Int × DS :=
  if (ay fs x).isSome = true then (if d = true then (11, fs, l, a, d) else if (cl l a d).1 = true then (11, fs, (cl l a d).2) else (0, bk fs x ((bw fs x).1, ((bw fs x).1.length : Int)), (cl l a d).2))
  else if d = true then (11, fs, l, a, d) else (8, fs, l, a, d)
theorem tR (fs : FSt) (l : List UInt8) (a : Int) (d : Bool) (x : List UInt8) : cF.f fs l a d x = some (gc fs l a d x) := by
  unfold cF.f gc
  rw [kh]
  simp only [Option.bind_some]
  repeat' split
  all_goals first | rfl | simp_all
def jM (fs : FSt) (l : List UInt8) (a : Int) (d : Bool) (x : List UInt8) (n : Int) : Int × DS :=
  if (ay fs x).isSome = true then (if d = true then (11, fs, l, a, d) else if n < 0 ∨ ((bw fs x).1.length : Int) < n then (1, fs, l, a, d) else if (cl l a d).1 = true then (11, fs, (cl l a d).2) else (0, bk fs x ((bw fs x).1.take n.toNat, min (bw fs x).2 n), (cl l a d).2))
  else if d = true then (11, fs, l, a, d) else (8, fs, l, a, d)
theorem zt (fs : FSt) (l : List UInt8) (a : Int) (d : Bool) (x : List UInt8) (n : Int) : gz.f fs l a d x n = some (jM fs l a d x n) := by
  unfold gz.f jM
  have eF : (ay fs x).getD (([] : List UInt8), (0 : Int)) = bw fs x := rfl
  rw [kh]
  simp only [eF]
  simp only [Option.bind_some]
  by_cases hm : (ay fs x).isSome = true
  · rw [if_pos hm, if_pos hm]
    cases d with
    | true => rfl
    | false =>
      simp only [Bool.false_eq_true, if_false]
      by_cases hn : n < 0 ∨ ((bw fs x).1.length : Int) < n
      · rw [if_pos hn, if_pos (by rcases hn with h | h <;> simp [h])]
      · have hn' : ¬ ((decide (n < (0 : Int))) || (decide (((bw fs x).1.length : Int) < n))) = true := by simpa using hn
        rw [if_neg hn, if_neg hn']
        split
        · rfl
        · have hb : 0 ≤ (0 : Int) ∧ (0 : Int) ≤ n ∧ n ≤ ((bw fs x).1.length : Int) := ⟨by omega, by omega, by omega⟩
          refine (if_pos hb).trans ?_
          have ec : cut (bw fs x).1 (0 : Int) n = (bw fs x).1.take n.toNat := by simp [cut]
          show some (0, bk fs x (cut (bw fs x).1 (0 : Int) n, min (bw fs x).2 n), _) = _
          rw [ec]
  · rw [if_neg hm, if_neg hm]
    split <;> rfl
def kq (l x y : List UInt8) : List UInt8 := if l = x then y else if l = y then [] else l
def eM (fs : FSt) (l : List UInt8) (a : Int) (d : Bool) (x y : List UInt8) : Int × DS :=
  if (ay fs x).isSome = true then (if d = true then (11, fs, l, a, d) else if nmB y = false then (7, fs, l, a, d) else if (cl l a d).1 = true then (11, fs, (cl l a d).2) else if x = y then (0, fs, (cl l a d).2)
    else (0, bk (bU fs x) y (bw fs x), kq l x y, (cl l a d).2.2))
  else if d = true then (11, fs, l, a, d) else (8, fs, l, a, d)
theorem fa (l : List UInt8) (a : Int) (d : Bool) : (cl l a d).2.1 = l := by unfold cl; split <;> rfl
theorem qh (fs : FSt) (l : List UInt8) (a : Int) (d : Bool) (x y : List UInt8) {k : Nat} (hl : y.length < 2 ^ 62) (hk : y.length + 1 ≤ k) : ej.f k fs l a d x y = some (eM fs l a d x y) := by
  unfold ej.f eM
  rw [kh, sR hl hk]
  simp only [Option.bind_some]
  by_cases hm : (ay fs x).isSome = true
  · rw [if_pos hm, if_pos hm]
    cases d <;> cases nmB y <;> simp only [Bool.not_true, Bool.not_false, if_true, if_false, Bool.false_eq_true, Bool.true_eq_false, reduceCtorEq]
    split
    · rfl
    · split
      · rfl
      · rw [fa]
        have e : ((if l = x then (some y) else (if l = y then (some ([] : List UInt8)) else (some l))) : Option (List UInt8)) = some (kq l x y) := by
          unfold kq
          by_cases h1 : l = x
          · rw [if_pos h1, if_pos h1]
          · rw [if_neg h1, if_neg h1]
            by_cases h2 : l = y
            · rw [if_pos h2, if_pos h2]
            · rw [if_neg h2, if_neg h2]
        rw [e]; rfl
  · rw [if_neg hm, if_neg hm]
    split <;> rfl
def fl (fs : FSt) (l : List UInt8) (a : Int) (d : Bool) (x : List UInt8) : Int × DS :=
  if d = true then (11, fs, l, a, d) else if (ay fs x).isSome = false then (8, fs, l, a, d) else if (cl l a d).1 = true then (11, fs, (cl l a d).2) else (0, bU fs x, (if l = x then [] else l), (cl l a d).2.2)
theorem mF (fs : FSt) (l : List UInt8) (a : Int) (d : Bool) (x : List UInt8) : bS.f fs l a d x = some (fl fs l a d x) := by
  unfold bS.f fl
  rw [kh, oU]
  simp only [Option.bind_some]
  cases d <;> cases (ay fs x).isSome <;> simp only [Bool.not_true, Bool.not_false, if_true, if_false, Bool.false_eq_true, Bool.true_eq_false, reduceCtorEq]
  split
  · rfl
  · rw [fa]
    split <;> rfl
/-! ### A crash -/
def crN (l : List UInt8) (keep : Int) (x : List UInt8) (v : List UInt8 × Int) : Int := if x = l then v.2 + min (max keep 0) ((v.1.length : Int) - v.2) else v.2
def crF (l : List UInt8) (keep : Int) (x : List UInt8) (v : List UInt8 × Int) : List UInt8 × Int := (v.1.take (crN l keep x v).toNat, crN l keep x v)
def gf (fs : FSt) (l : List UInt8) (keep : Int) : FSt := fs.map fun p => (p.1, crF l keep p.1 p.2)
section
variable {α β : Type} [DecidableEq α]
theorem sS {x : α} {u : β} : ∀ {kvs : List (α × β)}, (kvs.map (·.1)).Nodup → (ay kvs x).isSome = true → bk kvs x u = kvs.map fun p => if p.1 = x then (p.1, u) else p
  | [], _, h => by simp [ay] at h
  | p :: l, hn, h => by
    rw [List.map_cons, List.nodup_cons] at hn
    rw [ay] at h
    rw [bk, List.map_cons]
    by_cases hp : p.1 = x
    · rw [if_pos hp, if_pos hp, hp]
      congr 1
      refine (List.map_id l).symm.trans (List.map_congr_left fun q hq => ?_)
      rw [if_neg (fun e => hn.1 (by rw [hp, ← e]; exact List.mem_map.2 ⟨q, hq, rfl⟩))]; rfl
    · rw [if_neg hp] at h
      rw [if_neg hp, if_neg hp, sS hn.2 h]
theorem sT {step : Unit → α → β → Option (Unit × β)} {g : α → β → β} : ∀ (l : List α) (kvs : List (α × β)), (kvs.map (·.1)).Nodup → l.Nodup → (∀ x ∈ l, ∃ v, ay kvs x = some v ∧ step () x v = some ((), g x v)) →
    gD step l () kvs = some ((), kvs.map fun p => if p.1 ∈ l then (p.1, g p.1 p.2) else p)
  | [], kvs, _, _, _ => by simp [gD]
  | x :: l, kvs, hn, hl, h => by
    obtain ⟨v, hv, hs⟩ := h x (by simp)
    rw [List.nodup_cons] at hl
    rw [gD, hv, Option.bind_some, hs, Option.bind_some]
    have hx : (ay kvs x).isSome = true := by rw [hv]; rfl
    have hk : ((bk kvs x (g x v)).map (·.1)).Nodup := jj hn
    rw [sT l (bk kvs x (g x v)) hk hl.2 (fun y hy => by
      obtain ⟨w, hw, hw2⟩ := h y (List.mem_cons_of_mem _ hy)
      refine ⟨w, ?_, hw2⟩
      rw [fW, if_neg (fun e => hl.1 (by rw [e]; exact hy))]; exact hw)]
    congr 2
    rw [sS hn hx, List.map_map]
    refine List.map_congr_left fun p hp => ?_
    simp only [Function.comp]
    by_cases hpx : p.1 = x
    · have hpv : p.2 = v := by
        have h1 := lE kvs p.1 p.2 hn hp
        rw [hpx, hv] at h1
        exact (Option.some.inj h1).symm
      rw [if_pos hpx]
      simp only [hpx, hl.1, if_false, List.mem_cons_self, if_true, hpv]
    · rw [if_neg hpx]
      simp only [List.mem_cons, hpx, false_or]
end
theorem sH {l : List UInt8} {keep : Int} {x : List UInt8} {v : List UInt8 × Int} (h : 0 ≤ v.2 ∧ v.2 ≤ (v.1.length : Int)) : 0 ≤ crN l keep x v ∧ crN l keep x v ≤ (v.1.length : Int) ∧ v.2 ≤ crN l keep x v := by
  unfold crN
  split <;> omega
theorem su {n : Nat} {fs : FSt} (h : cx n fs) (l : List UInt8) (a : Int) (d : Bool) (keep : Int) : eJ.f fs l a d keep = some (gf fs l keep, [], 0, false) := by
  unfold eJ.f iZ
  have h1 : ∀ m, m.Perm (fs.map (·.1)) → gD (fun (s9v : Unit) (x4v : List UInt8) (v5v : List UInt8 × Int) => (if x4v = l then (some (IntKind.i64.wrap (v5v.2 + (min (max keep (0 : Int)) (IntKind.i64.wrap ((v5v.1.length : Int) - v5v.2)))))) else (some v5v.2)).bind fun s13v => (if 0 ≤ s13v ∧ s13v ≤ (v5v.1.length : Int) then (some ((), (List.take s13v.toNat v5v.1, s13v))) else none)) m () fs = some ((), gf fs l keep) := fun m hm => by
    rw [sT (g := crF l keep) m fs h.nd (hm.nodup_iff.2 h.nd) fun x hx => ?_]
    · congr 2
      refine List.map_congr_left fun p hp => ?_
      rw [if_pos (hm.mem_iff.2 (List.mem_map.2 ⟨p, hp, rfl⟩))]
    · have hsome := nh (hm.mem_iff.1 hx)
      have hmem := gg hsome
      have hsy := h.sy _ hmem
      have hlen : (bw fs x).1.length ≤ 16777216 := Nat.le_trans (iJ hmem) h.sz
      simp only at hsy
      refine ⟨bw fs x, by rw [bw]; exact ew hsome, ?_⟩
      generalize bw fs x = v at hsy hlen
      have e : ((if x = l then (some (IntKind.i64.wrap (v.2 + (min (max keep (0 : Int)) (IntKind.i64.wrap ((v.1.length : Int) - v.2)))))) else (some v.2)) : Option Int) = some (crN l keep x v) := by
        unfold crN
        split
        · rw [w64 (n := (v.1.length : Int) - v.2) (by omega) (by omega), w64 (by omega) (by omega)]
        · rfl
      rw [e, Option.bind_some]
      have hb := sH (l := l) (keep := keep) (x := x) hsy
      rw [if_pos ⟨hb.1, hb.2.1⟩]; rfl
  rw [if_pos ⟨h.nd, fun m hm => by rw [h1 m (kR hm), h1 _ (List.Perm.refl _)]⟩, h1 _ (List.Perm.refl _)]
  rfl
end Go.Proofs.YtjkjlggbikeliaaGreatDoor

/- Texts that lead to the law SnapPlays: G5. Conditions: as each says. -/
import Derived.Test.YtjkjlggbikeliaaGreatDoorM6
namespace Go.Proofs.YtjkjlggbikeliaaGreatDoor
open Go.RowKit Tryz
set_option linter.unusedVariables false
set_option linter.unusedSimpArgs false
set_option maxRecDepth 20000
set_option maxHeartbeats 20000000
def bF.l1 : Nat → List UInt8 → Int → Option (Unit)
  | 0, _, _ => none
  | k + 1, b, a => if a < (b.length : Int) then (if 0 ≤ a ∧ a < (b.length : Int) then (bF.l1 k (b.set a.toNat 98) (IntKind.i64.wrap (a + 1))) else none) else (some ())
def bF.l0 : Nat → List UInt8 → Int → Option (Unit)
  | 0, _, _ => none
  | k + 1, b, a => if a < (b.length : Int) then (if 0 ≤ a ∧ a < (b.length : Int) then (bF.l0 k (b.set a.toNat 99) (IntKind.i64.wrap (a + 1))) else none) else (some ())
def bF.f (k : Nat) (b : List ((List UInt8) × (List UInt8 × Int))) (c : List UInt8) (d : Int) (e : Bool) (g : List (ba)) (j : Int) (h : Bool) (i : List UInt8) (l : Int) (q : Int) (a : List UInt8) (a1 : List UInt8) (a0 : List UInt8) : Option (Bool × (List ((List UInt8) × (List UInt8 × Int))) × List UInt8 × Int × Bool × (List (ba)) × Int × Bool × List UInt8) := if l = (0 : Int) then ((eh.f k b c d e a).bind fun an => ((db.f k g j h i a).bind fun t => (some (decide ((aH.v an.1) = t.1), an.2.1, an.2.2.1, an.2.2.2.1, an.2.2.2.2, t.2.1, t.2.2.1, t.2.2.2.1, t.2.2.2.2)))) else (if l = (1 : Int) then ((eX.f a0).bind fun ab => ((ei.f b c d e a ab.1).bind fun u => ((fu.f k ab.1 ab.2 a0).bind fun a7 => ((bF.l0 k ab.1 0).bind fun a9 => ((dc.f k g j h i a a0).bind fun w => (some ((decide ((aH.v u.1) = w.1)) && a7, u.2.1, u.2.2.1, u.2.2.2.1, u.2.2.2.2, w.2.1, w.2.2.1, w.2.2.2.1, w.2.2.2.2))))))) else (if l = (2 : Int) then ((cF.f b c d e a).bind fun x => ((dB.f k g j h i a).bind fun y => (some (decide ((aH.v x.1) = y.1), x.2.1, x.2.2.1, x.2.2.2.1, x.2.2.2.2, y.2.1, y.2.2.1, y.2.2.2.1, y.2.2.2.2)))) else (if l = (3 : Int) then ((gz.f b c d e a q).bind fun z => ((eU.f k g j h i a q).bind fun aa => (some (decide ((aH.v z.1) = aa.1), z.2.1, z.2.2.1, z.2.2.2.1, z.2.2.2.2, aa.2.1, aa.2.2.1, aa.2.2.2.1, aa.2.2.2.2)))) else (if l = (4 : Int) then ((ej.f k b c d e a a1).bind fun m => ((de.f k g j h i a a1).bind fun n => (some (decide ((aH.v m.1) = n.1), m.2.1, m.2.2.1, m.2.2.2.1, m.2.2.2.2, n.2.1, n.2.2.1, n.2.2.2.1, n.2.2.2.2)))) else (if l = (5 : Int) then ((bS.f b c d e a).bind fun o => ((bV.f k g j h i a).bind fun p => (some (decide ((aH.v o.1) = p.1), o.2.1, o.2.2.1, o.2.2.2.1, o.2.2.2.2, p.2.1, p.2.2.1, p.2.2.2.1, p.2.2.2.2)))) else (if l = (6 : Int) then ((gA.f b c d e q).bind fun ad => (some (true, b, ad.1, ad.2.1, ad.2.2, g, max q (0 : Int), h, i))) else (if l = (7 : Int) then ((eJ.f b c d e q).bind fun r => ((bz.f k g j h i q).bind fun s => (some (true, r.1, r.2.1, r.2.2.1, r.2.2.2, s.1, s.2.1, s.2.2.1, s.2.2.2)))) else ((fb.f b c d e a).bind fun af => ((co.f k g j h i a).bind fun al => ((bn.f k af.1 al.1).bind fun a2 => ((bF.l1 k af.1 0).bind fun a8 => ((if a2 = true then ((aH.f af.2).bind fun a3 => (some (decide (a3 = al.2)))) else (some false)).bind fun a4 => ((if a4 = true then ((bZ.f b c d e a).bind fun a5 => (some (a5 == (decide (al.2 = (0 : Int)))))) else (some false)).bind fun a6 => (some (a6, b, c, d, e, g, j, h, i)))))))))))))))
theorem bF.calls (W : World) (F : HA) (k : Nat) (b0 : Nat) (n : Nat) (p : Kps) (al : List ((List UInt8) × (List UInt8 × Int))) (an : List UInt8) (a0 : Int) (a1 : Bool) (b1 : Nat) (a : Option Addr) (c : Nat) (e : List (ba)) (h : HA) (w : Int) (x : Bool) (aa : List UInt8) (ad : Int) (l : Int) (g : List UInt8) (u : List UInt8) (t : Option Addr) (q : Nat) (m : List UInt8) (d8 : Rd F t (ao m)) (d1 : m.length ≤ q) (d2 : q ≤ maxLen) :
    Fn Tryz.prog W 55 [.pointer (some ⟨b0, 0, none⟩), .pointer (some ⟨b1, 0, none⟩), .agg #[.int .i64 ad, .int .i64 l, str g, str u, .slice t m.length q]] [obj b0 76 [.map (some n), str an, .int .i64 a0, .bool a1], aF (aB n aD aA p) aG p al, obj b1 49 [.slice a e.length c, .int .i64 w, .bool x, str aa], aC 71 3 (V71 h) a e c, h] F (bF.f k al an a0 a1 e w x aa ad l g u m) (fun (r : Bool × (List ((List UInt8) × (List UInt8 × Int))) × List UInt8 × Int × Bool × (List (ba)) × Int × Bool × List UInt8) (y : Nat × Kps × Option Addr × Nat × HA) => .bool r.1) (fun r y => [obj b0 76 [.map (some y.1), str r.2.2.1, .int .i64 r.2.2.2.1, .bool r.2.2.2.2.1], aF (aB y.1 aD aA y.2.1) aG y.2.1 r.2.1, obj b1 49 [.slice y.2.2.1 r.2.2.2.2.2.1.length y.2.2.2.1, .int .i64 r.2.2.2.2.2.2.1, .bool r.2.2.2.2.2.2.2.1, str r.2.2.2.2.2.2.2.2], aC 71 3 (V71 (y.2.2.2.2)) y.2.2.1 r.2.2.2.2.2.1 y.2.2.2.1, y.2.2.2.2]) := by
 unfold bF.f
 refine aJ 186 Tryz.func55 O Tryz.ntmps55 O ?_
 refine sr ?_
 refine ah (dL O O O) O O O ?_
 intro ab
 refine va O O (ag (ae (ap (sr ?_))))
 refine vq (aw O O underlying52 O O sizeOf3 O) O ?_
 refine vq (ai O O isAgg3 (.obj 0 O O)) O (ag (ae ?_))
 refine aK ?_
 refine sr ?_
 refine vq (bD O O O) O ?_
 refine va O O (ag (ae ?_))
 refine aL O (fun jg => ?_) (fun j0 => ?_)
 refine ap ?_
 refine fB 4 O (fun d3 hk => ?_)
 refine cu (fun a9 hl => ?_)
 refine cu (fun b7 g0 => ?_)
 refine bp (Γ := (Nat × Kps) × (Option Addr × Nat × HA)) ((0, ([] : Kps)), (none, 0, tt)) [[], [], [1], [0, 1, 2], rL 4, [], [], [6], rL 8, rL 9, rL 10] [3, 8] [0, 1, 2, 4, 5, 6, 7, 9, 10] (fun i => [[0], [0], [0], [], [1], [0, 1], [0, 1], [0, 1], [], [2], [2]].getD i []) (fun i => [[], [], [], [0, 1, 2, 5, 6, 7], [], [], [], [], rL 8, [], []].getD i []) (fun γ i => [.pointer (some ⟨b0, 0, none⟩), .pointer (some ⟨ab, 2, none⟩), str g, .int .i64 a9.1, .int .i64 (aH.v a9.1), .pointer (some ⟨b1, 0, none⟩), .pointer (some ⟨ab, 2, none⟩), str g, .int .i64 b7.1, .bool (decide ((aH.v a9.1) = b7.1)), .bool (decide ((aH.v a9.1) = b7.1))].getD i undef) (fun j γ => [[obj ab 52 [.int .i64 ad, .int .i64 l, str g, str u, .slice t m.length q], obj b0 76 [.map (some n), str an, .int .i64 a0, .bool a1], aF (aB n aD aA p) aG p al, obj b1 49 [.slice a e.length c, .int .i64 w, .bool x, str aa], Row 71 3 a e.length c d3.flatten, h, F], [obj b0 76 [.map (some γ.1.1), str a9.2.2.1, .int .i64 a9.2.2.2.1, .bool a9.2.2.2.2], aF (aB γ.1.1 aD aA γ.1.2) aG γ.1.2 a9.2.1, obj ab 52 [.int .i64 ad, .int .i64 l, str g, str u, .slice t m.length q], obj b1 49 [.slice a e.length c, .int .i64 w, .bool x, str aa], Row 71 3 a e.length c d3.flatten, h, F], [obj b1 49 [.slice γ.2.1 b7.2.1.length γ.2.2.1, .int .i64 b7.2.2.1, .bool b7.2.2.2.1, str b7.2.2.2.2], aC 71 3 (V71 (γ.2.2.2)) γ.2.1 b7.2.1 γ.2.2.1, γ.2.2.2, obj b0 76 [.map (some γ.1.1), str a9.2.2.1, .int .i64 a9.2.2.2.1, .bool a9.2.2.2.2], aF (aB γ.1.1 aD aA γ.1.2) aG γ.1.2 a9.2.1, obj ab 52 [.int .i64 ad, .int .i64 l, str g, str u, .slice t m.length q], F]].getD j []) (fun γ => [(6, .bool (decide ((aH.v a9.1) = b7.1)))]) mixed (by decide) (by decide) (by decide) (by decide) (by decide) (by decide) (by decide) 186 O (by decide) (by decide) (by decide) (Ent.refl _) ?_ ?_ (fun _ => ⟨O, trivial⟩) ?_
 exact (aq O (fun γ => qm O (.o (s := 0) O (by decide) .nil) O) (aq O (fun γ => qp O O (.o (s := 5) O (by decide) .nil) (aw O O underlying52 O O sizeOf9 O) O) (aq O (fun γ => qp O O (.v 1 O O .nil) (ai O O isAgg9 (.obj 0 O O)) O) (aq O (fun γ => qp O O (.v 3 O O .nil) (RE.rq (ar (vs := [.int .i64 a9.1]) (cap := []) (A := []) (rst := [obj b0 76 [.map (some γ.1.1), str a9.2.2.1, .int .i64 a9.2.2.2.1, .bool a9.2.2.2.2], aF (aB γ.1.1 aD aA γ.1.2) aG γ.1.2 a9.2.1, obj ab 52 [.int .i64 ad, .int .i64 l, str g, str u, .slice t m.length q], obj b1 49 [.slice a e.length c, .int .i64 w, .bool x, str aa], Row 71 3 a e.length c d3.flatten, h, F]) O O O O O O call12 (.sel 0 O (.sel 0 O (.sel 0 O (.sel 0 O (.sel 0 O (.sel 0 O (.sel 0 O (.nil _)))))))) (aH.calls _ _ a9.1 ) (aH.tot a9.1)) (fun _ => O) (fun _ => (.sel 0 O (.sel 0 O (.sel 0 O (.sel 0 O (.sel 0 O (.sel 0 O (.sel 0 O (.nil _)))))))))) O) (ac (fun γ => (ac (qm O (.o (s := 1) O (by decide) .nil) O) (ac (qm O (.o (s := 1) O (by decide) .nil) O) zA))) (ac (fun γ => (ac (qp O O (.o (s := 5) O (by decide) .nil) (aw O O underlying52 O O sizeOf9 O) O) (ac (qp O O (.o (s := 5) O (by decide) .nil) (aw O O underlying52 O O sizeOf9 O) O) zA))) (ac (fun γ => (ac (qp O O (.v 6 O O .nil) (ai O O isAgg9 (.obj 0 O O)) O) (ac (qp O O (.v 6 O O .nil) (ai O O isAgg9 (.obj 2 O O)) O) zA))) (aq O (fun γ => qp O O (.v 4 O O (.v 8 O O .nil)) (bD O O O) O) (aq O (fun γ => qp O O (.v 9 O O .nil) (dA O O) O) zA)))))))))
 exact (ac (fun γ => eo (Z := Nat × Kps) (fun z => (z, γ.2)) O O (.v 0 O O (.v 2 O O .nil)) (ar (vs := [.pointer (some ⟨b0, 0, none⟩), str g]) (cap := []) (A := [obj b0 76 [.map (some n), str an, .int .i64 a0, .bool a1], aF (aB n aD aA p) aG p al]) (rst := [obj ab 52 [.int .i64 ad, .int .i64 l, str g, str u, .slice t m.length q], obj b1 49 [.slice a e.length c, .int .i64 w, .bool x, str aa], Row 71 3 a e.length c d3.flatten, h, F]) O O O O O O call29 (.sel 1 O (.sel 1 O (.sel 0 O (.sel 0 O (.sel 0 O (.sel 0 O (.sel 0 O (.nil _)))))))) (eh.calls _ _ k b0 n p al an a0 a1 g ) hl) (fun _ => ⟨O, O, O, O, O, O, trivial⟩) (fun _ => .inr O) (fun z => Ent.refl _)) (ac (fun γ => eo (Z := Option Addr × Nat × HA) (fun z => (γ.1, z)) O O (.v 5 O O (.v 7 O O .nil)) (ar (vs := [.pointer (some ⟨b1, 0, none⟩), str g]) (cap := []) (A := [obj b1 49 [.slice a e.length c, .int .i64 w, .bool x, str aa], aC 71 3 (V71 h) a e c, h]) (rst := [obj b0 76 [.map (some γ.1.1), str a9.2.2.1, .int .i64 a9.2.2.2.1, .bool a9.2.2.2.2], aF (aB γ.1.1 aD aA γ.1.2) aG γ.1.2 a9.2.1, obj ab 52 [.int .i64 ad, .int .i64 l, str g, str u, .slice t m.length q], F]) O O O O O O call94 (.sel 3 O (.sel' 3 O (aC.mk hk) (.sel 3 O (.sel 0 O (.sel 0 O (.sel 0 O (.sel 0 O (.nil _)))))))) (db.calls _ _ k b1 a c e h w x aa g ) g0) (fun _ => ⟨O, O, O, O, O, O, O, O, trivial⟩) (fun _ => .inr O) (fun z => Ent.refl _)) zA))
 intro c9
 refine ae (ak ?_)
 refine aP ?_
 refine ax ?_
 exact av (c9.1.1, c9.1.2, c9.2.1, c9.2.2.1, c9.2.2.2) O O O (.sel 3 O (.sel 3 O (.sel 0 O (.sel 0 O (.sel 0 O (.sel 1 O (.nil _)))))))
 refine sr ?_
 refine vq (bD O O O) O ?_
 refine va O O (ag (ae ?_))
 refine aL O (fun hW => ?_) (fun hX => ?_)
 refine sr ?_
 refine vq (aw O O underlying52 O O sizeOf25 O) O ?_
 refine vq (ai O O isAgg25 (.obj 0 O O)) O ?_
 refine am (fun bs g1 => ?_)
 refine ah (ar (vs := [.slice t m.length q]) (cap := []) (A := []) (rst := [obj ab 52 [.int .i64 ad, .int .i64 l, str g, str u, .slice t m.length q], obj b0 76 [.map (some n), str an, .int .i64 a0, .bool a1], aF (aB n aD aA p) aG p al, obj b1 49 [.slice a e.length c, .int .i64 w, .bool x, str aa], aC 71 3 (V71 h) a e c, h, F]) O O O O O O call50 (.sel 0 O (.sel 0 O (.sel 0 O (.sel 0 O (.sel 0 O (.sel 0 O (.sel 0 O (.nil _)))))))) (eX.calls _ _ t q m (d8.lend 6 O) d1 d2) g1) O O O ?_
 intro a8
 refine va O O (nx ?_)
 refine vm O O ?_
 refine vq (aw O O underlying52 O O sizeOf9 O) O ?_
 refine vq (ai O O isAgg9 (.obj 1 O O)) O ?_
 refine vm O O ?_
 refine am (fun af g2 => ?_)
 refine bf 0 O (fun g3 g4 g5 hr => ?_)
 refine ah (ar (vs := [.pointer (some ⟨b0, 0, none⟩), str g, .slice a8.1 bs.1.length a8.2]) (cap := []) (A := [obj b0 76 [.map (some n), str an, .int .i64 a0, .bool a1], aF (aB n aD aA p) aG p al]) (rst := [Row 5 1 a8.1 bs.1.length a8.2 (ao (bs.1 ++ bs.2)), obj ab 52 [.int .i64 ad, .int .i64 l, str g, str u, .slice t m.length q], obj b1 49 [.slice a e.length c, .int .i64 w, .bool x, str aa], aC 71 3 (V71 h) a e c, h, F]) O O O O O O call30 (.sel 2 O (.sel 2 O (.sel 0 O (.sel 0 O (.sel 0 O (.sel 0 O (.sel 0 O (.sel 0 O (.nil _))))))))) (ei.calls _ _ b0 n p al an a0 a1 g a8.1 a8.2 bs.1 ((oq g3).lend 0 O) g4 g5) g2) O O O ?_
 intro a4
 refine va O O (nx ?_)
 refine vm O O ?_
 refine vq (aw O O underlying52 O O sizeOf25 O) O ?_
 refine vq (ai O O isAgg25 (.obj 3 O O)) O ?_
 refine am (fun cd g6 => ?_)
 refine pe 2 O (fun g7 ec g8 => ?_)
 refine ah (ar (vs := [.slice a8.1 bs.1.length a8.2, .slice t m.length q]) (cap := []) (A := []) (rst := [obj b0 76 [.map (some a4.1), str af.2.2.1, .int .i64 af.2.2.2.1, .bool af.2.2.2.2], aF (aB a4.1 aD aA a4.2) aG a4.2 af.2.1, Row 5 1 a8.1 bs.1.length a8.2 (ao (bs.1 ++ bs.2)), obj ab 52 [.int .i64 ad, .int .i64 l, str g, str u, .slice t m.length q], obj b1 49 [.slice a e.length c, .int .i64 w, .bool x, str aa], aC 71 3 (V71 h) a e c, h, F]) O O O O O O call51 (.sel 0 O (.sel 0 O (.sel 0 O (.sel 0 O (.sel 0 O (.sel 0 O (.sel 0 O (.sel 0 O (.nil _))))))))) (fu.calls _ _ k a8.1 a8.2 bs.1 bs.2 t q m (g7.lend 2 O) (by rw [bT, Nat.mul_one] at ec; exact ec) g8 (d8.lend 7 O) d1 d2) g6) O O O ?_
 intro hY
 refine va O O (ag (ae ?_))
 refine bO (S := Unit) (Unit) (fun s y => [(1, .pointer (some ⟨b1, 0, none⟩)), (5, .pointer (some ⟨ab, 0, none⟩)), (8, .int .i64 af.1), (9, .bool cd)]) (fun s y => [obj b0 76 [.map (some a4.1), str af.2.2.1, .int .i64 af.2.2.2.1, .bool af.2.2.2.2], obj ab 52 [.int .i64 ad, .int .i64 l, str g, str u, .slice t m.length q], obj b1 49 [.slice a e.length c, .int .i64 w, .bool x, str aa], aF (aB a4.1 aD aA a4.2) aG a4.2 af.2.1, aC 71 3 (V71 (h)) a e c, h, F]) ?_ ?_
 refine sr ?_
 refine va O O (ag (ae ?_))
 refine aK ?_
 refine bX (S := List UInt8 × Int) (Unit) (fun k s => bF.l0 k s.1 s.2) (fun s y => [(1, .pointer (some ⟨b1, 0, none⟩)), (5, .pointer (some ⟨ab, 0, none⟩)), (7, .slice a8.1 s.1.length a8.2), (8, .int .i64 af.1), (9, .bool cd), (10, .int .i64 s.2)]) (fun s y => [obj b0 76 [.map (some a4.1), str af.2.2.1, .int .i64 af.2.2.2.1, .bool af.2.2.2.2], obj ab 52 [.int .i64 ad, .int .i64 l, str g, str u, .slice t m.length q], obj b1 49 [.slice a e.length c, .int .i64 w, .bool x, str aa], Row 5 1 a8.1 s.1.length a8.2 (ao (s.1 ++ bs.2)), aF (aB a4.1 aD aA a4.2) aG a4.2 af.2.1, aC 71 3 (V71 (h)) a e c, h, F]) (fun _ => by rw [bF.l0]) ?_ k (bs.1, 0) () ⟨O, O, O, O, O, O, trivial⟩ (.sel 0 O (.sel 2 O (.sel 2 O (.sel 1 O (.sel 0 O (.sel 0 O (.sel 0 O (.sel 0 O (.nil _)))))))))
 intro k b6 h0
 refine cL (by rw [bF.l0]) ?_
 refine ap (sr ?_)
 refine vm O O ?_
 refine vm O O ?_
 refine vq (bi O O O underlying25) O ?_
 refine vq (bN O O O) O (ag (ae ?_))
 refine aL O (fun h2 => ?_) (fun h3 => ?_)
 refine au ?_
 refine ae (ap ?_)
 refine aK ?_
 refine aE ?_
 refine vm O O ?_
 refine vm O O ?_
 refine aQ (fun c5 => ?_)
 refine ot 3 O (fc (j := b6.2.toNat) (by rw [List.length_append]; omega)) (fun h4 hs ed => ?_)
 refine vq (el O O O ed underlying25 sizeOf5 c5.1 c5.2) O ?_
 refine aX (uV 99 3 O O O sizeOf5 O ed c5.2 c5.1 O) O O ?_
 intro _
 refine eE (.slice a8.1 ((b6.1.set b6.2.toNat 99).length) a8.2) (d := 7) O (fm (by simp)) ?_
 refine eE (.slice a8.1 ((b6.1.set b6.2.toNat 99).length) a8.2) (d := 46) O (fm (by simp)) ?_
 refine eE (.slice a8.1 ((b6.1.set b6.2.toNat 99).length) a8.2) (d := 51) O (fm (by simp)) ?_
 refine ag (bb (ae (aE ?_)))
 refine vm O O ?_
 refine vq (bj O O O) O ?_
 refine va O O (ag ?_)
 exact bu (s := (b6.1.set b6.2.toNat 99, IntKind.i64.wrap (b6.2 + 1))) () ⟨O, O, O, O, O, O, trivial⟩ (.sel 0 O (.sel 0 O (.sel 0 O (.sel 0 O (.sel 0 O (.sel 0 O (.sel 0 O (.sel 0 O (.nil _)))))))))
 refine ck ?_
 refine bQ ?_
 refine bY ?_
 refine bR ?_
 exact aM (s := ()) () ⟨O, O, O, O, trivial⟩ (.sel 0 O (.sel 0 O (.sel 0 O (.sel 1 O (.sel 1 O (.sel 1 O (.sel 1 O (.nil _))))))))
 intro h5 h6
 refine ap ?_
 refine fB 4 O (fun ef g9 => ?_)
 refine cu (fun bc ha => ?_)
 refine bp (Γ := (Option Addr × Nat × HA)) (none, 0, tt) [[], [0], [], [], [3], [], [5], rL 7, rL 8, rL 9, rL 10, rL 11, rL 12] [7] [0, 1, 2, 3, 4, 5, 6, 8, 9, 10, 11, 12] (fun i => [[0], [0], [0], [0], [0], [0], [0], [], [1], [1], [1], [1], [1]].getD i []) (fun i => [[], [], [], [], [], [], [], rL 7, [], [], [], [], []].getD i []) (fun γ i => [.int .i64 af.1, .int .i64 (aH.v af.1), .pointer (some ⟨b1, 0, none⟩), .pointer (some ⟨ab, 2, none⟩), str g, .pointer (some ⟨ab, 4, none⟩), .slice t m.length q, .int .i64 bc.1, .bool (decide ((aH.v af.1) = bc.1)), .bool (decide ((aH.v af.1) = bc.1)), cv ((decide ((aH.v af.1) = bc.1)) == true) (.bool cd), .bool ((decide ((aH.v af.1) = bc.1)) && cd), .bool ((decide ((aH.v af.1) = bc.1)) && cd)].getD i undef) (fun j γ => [[obj b0 76 [.map (some a4.1), str af.2.2.1, .int .i64 af.2.2.2.1, .bool af.2.2.2.2], obj ab 52 [.int .i64 ad, .int .i64 l, str g, str u, .slice t m.length q], obj b1 49 [.slice a e.length c, .int .i64 w, .bool x, str aa], aF (aB a4.1 aD aA a4.2) aG a4.2 af.2.1, Row 71 3 a e.length c ef.flatten, h, F], [obj b1 49 [.slice γ.1 bc.2.1.length γ.2.1, .int .i64 bc.2.2.1, .bool bc.2.2.2.1, str bc.2.2.2.2], aC 71 3 (V71 (γ.2.2)) γ.1 bc.2.1 γ.2.1, γ.2.2, obj b0 76 [.map (some a4.1), str af.2.2.1, .int .i64 af.2.2.2.1, .bool af.2.2.2.2], obj ab 52 [.int .i64 ad, .int .i64 l, str g, str u, .slice t m.length q], aF (aB a4.1 aD aA a4.2) aG a4.2 af.2.1, F]].getD j []) (fun γ => [(6, .bool ((decide ((aH.v af.1) = bc.1)) && cd))]) mixed (by decide) (by decide) (by decide) (by decide) (by decide) (by decide) (by decide) 186 O (by decide) (by decide) (by decide) (Ent.refl _) ?_ ?_ (fun _ => ⟨O, trivial⟩) ?_
 exact (aq O (fun γ => qm O (.o (s := 8) O (by decide) .nil) O) (aq O (fun γ => qp O O (.v 0 O O .nil) (RE.rq (ar (vs := [.int .i64 af.1]) (cap := []) (A := []) (rst := [obj b0 76 [.map (some a4.1), str af.2.2.1, .int .i64 af.2.2.2.1, .bool af.2.2.2.2], obj ab 52 [.int .i64 ad, .int .i64 l, str g, str u, .slice t m.length q], obj b1 49 [.slice a e.length c, .int .i64 w, .bool x, str aa], aF (aB a4.1 aD aA a4.2) aG a4.2 af.2.1, Row 71 3 a e.length c ef.flatten, h, F]) O O O O O O call12 (.sel 0 O (.sel 0 O (.sel 0 O (.sel 0 O (.sel 0 O (.sel 0 O (.sel 0 O (.nil _)))))))) (aH.calls _ _ af.1 ) (aH.tot af.1)) (fun _ => O) (fun _ => (.sel 0 O (.sel 0 O (.sel 0 O (.sel 0 O (.sel 0 O (.sel 0 O (.sel 0 O (.nil _)))))))))) O) (aq O (fun γ => qm O (.o (s := 1) O (by decide) .nil) O) (aq O (fun γ => qp O O (.o (s := 5) O (by decide) .nil) (aw O O underlying52 O O sizeOf9 O) O) (aq O (fun γ => qp O O (.v 3 O O .nil) (ai O O isAgg9 (.obj 1 O O)) O) (aq O (fun γ => qp O O (.o (s := 5) O (by decide) .nil) (aw O O underlying52 O O sizeOf25 O) O) (aq O (fun γ => qp O O (.v 5 O O .nil) (ai O O isAgg25 (.obj 1 O O)) O) (aq O (fun γ => qp O O (.v 1 O O (.v 7 O O .nil)) (bD O O O) O) (aq O (fun γ => qm O (.v 8 O O .nil) O) (aq O (fun γ => QOb.grd (b := decide ((aH.v af.1) = bc.1)) [(9, .bool cd), (63, .bool (decide ((aH.v af.1) = bc.1)))] O O O O (.o (s := 9) O (by decide) (.v 9 O O .nil)) (fun ht => RQ.sub (E' := [(9, .bool cd)]) ⟨O, trivial⟩ (aS O O)) O) (aq O (fun γ => qp O O (.v 9 O O (.v 10 O O .nil)) (dQ O O O) O) (aq O (fun γ => qp O O (.v 11 O O .nil) (dA O O) O) zA))))))))))))
 exact (ac (fun γ => eo (Z := Option Addr × Nat × HA) (fun z => z) O O (.v 2 O O (.v 4 O O (.v 6 O O .nil))) (ar (vs := [.pointer (some ⟨b1, 0, none⟩), str g, .slice t m.length q]) (cap := []) (A := [obj b1 49 [.slice a e.length c, .int .i64 w, .bool x, str aa], aC 71 3 (V71 (h)) a e c, h]) (rst := [obj b0 76 [.map (some a4.1), str af.2.2.1, .int .i64 af.2.2.2.1, .bool af.2.2.2.2], obj ab 52 [.int .i64 ad, .int .i64 l, str g, str u, .slice t m.length q], aF (aB a4.1 aD aA a4.2) aG a4.2 af.2.1, F]) O O O O O O call95 (.sel 2 O (.sel' 3 O (aC.mk g9) (.sel 3 O (.sel 0 O (.sel 0 O (.sel 0 O (.sel 0 O (.nil _)))))))) (dc.calls _ _ k b1 a c e h w x aa g t q m (d8.lend 3 O) d1 d2) ha) (fun _ => ⟨O, O, O, O, O, O, O, trivial⟩) (fun _ => .inr O) (fun z => Ent.refl _)) zA)
 intro d9
 refine ae (ak ?_)
 refine aP ?_
 refine ax ?_
 exact av (a4.1, a4.2, d9.1, d9.2.1, d9.2.2) O O O (.sel 3 O (.sel 4 O (.sel 0 O (.sel 0 O (.sel 0 O (.sel 1 O (.nil _)))))))
 refine sr ?_
 refine vq (bD O O O) O ?_
 refine va O O (ag (ae ?_))
 refine aL O (fun h7 => ?_) (fun h8 => ?_)
 refine ap ?_
 refine fB 4 O (fun c6 hb => ?_)
 refine cu (fun a5 hc => ?_)
 refine cu (fun b8 he => ?_)
 refine bp (Γ := (Nat × Kps) × (Option Addr × Nat × HA)) ((0, ([] : Kps)), (none, 0, tt)) [[], [], [1], [0, 1, 2], rL 4, [], [], [6], rL 8, rL 9, rL 10] [3, 8] [0, 1, 2, 4, 5, 6, 7, 9, 10] (fun i => [[0], [0], [0], [], [1], [0, 1], [0, 1], [0, 1], [], [2], [2]].getD i []) (fun i => [[], [], [], [0, 1, 2, 5, 6, 7], [], [], [], [], rL 8, [], []].getD i []) (fun γ i => [.pointer (some ⟨b0, 0, none⟩), .pointer (some ⟨ab, 2, none⟩), str g, .int .i64 a5.1, .int .i64 (aH.v a5.1), .pointer (some ⟨b1, 0, none⟩), .pointer (some ⟨ab, 2, none⟩), str g, .int .i64 b8.1, .bool (decide ((aH.v a5.1) = b8.1)), .bool (decide ((aH.v a5.1) = b8.1))].getD i undef) (fun j γ => [[obj ab 52 [.int .i64 ad, .int .i64 l, str g, str u, .slice t m.length q], obj b0 76 [.map (some n), str an, .int .i64 a0, .bool a1], aF (aB n aD aA p) aG p al, obj b1 49 [.slice a e.length c, .int .i64 w, .bool x, str aa], Row 71 3 a e.length c c6.flatten, h, F], [obj b0 76 [.map (some γ.1.1), str a5.2.2.1, .int .i64 a5.2.2.2.1, .bool a5.2.2.2.2], aF (aB γ.1.1 aD aA γ.1.2) aG γ.1.2 a5.2.1, obj ab 52 [.int .i64 ad, .int .i64 l, str g, str u, .slice t m.length q], obj b1 49 [.slice a e.length c, .int .i64 w, .bool x, str aa], Row 71 3 a e.length c c6.flatten, h, F], [obj b1 49 [.slice γ.2.1 b8.2.1.length γ.2.2.1, .int .i64 b8.2.2.1, .bool b8.2.2.2.1, str b8.2.2.2.2], aC 71 3 (V71 (γ.2.2.2)) γ.2.1 b8.2.1 γ.2.2.1, γ.2.2.2, obj b0 76 [.map (some γ.1.1), str a5.2.2.1, .int .i64 a5.2.2.2.1, .bool a5.2.2.2.2], aF (aB γ.1.1 aD aA γ.1.2) aG γ.1.2 a5.2.1, obj ab 52 [.int .i64 ad, .int .i64 l, str g, str u, .slice t m.length q], F]].getD j []) (fun γ => [(6, .bool (decide ((aH.v a5.1) = b8.1)))]) mixed (by decide) (by decide) (by decide) (by decide) (by decide) (by decide) (by decide) 186 O (by decide) (by decide) (by decide) (Ent.refl _) ?_ ?_ (fun _ => ⟨O, trivial⟩) ?_
 exact (aq O (fun γ => qm O (.o (s := 0) O (by decide) .nil) O) (aq O (fun γ => qp O O (.o (s := 5) O (by decide) .nil) (aw O O underlying52 O O sizeOf9 O) O) (aq O (fun γ => qp O O (.v 1 O O .nil) (ai O O isAgg9 (.obj 0 O O)) O) (aq O (fun γ => qp O O (.v 3 O O .nil) (RE.rq (ar (vs := [.int .i64 a5.1]) (cap := []) (A := []) (rst := [obj b0 76 [.map (some γ.1.1), str a5.2.2.1, .int .i64 a5.2.2.2.1, .bool a5.2.2.2.2], aF (aB γ.1.1 aD aA γ.1.2) aG γ.1.2 a5.2.1, obj ab 52 [.int .i64 ad, .int .i64 l, str g, str u, .slice t m.length q], obj b1 49 [.slice a e.length c, .int .i64 w, .bool x, str aa], Row 71 3 a e.length c c6.flatten, h, F]) O O O O O O call12 (.sel 0 O (.sel 0 O (.sel 0 O (.sel 0 O (.sel 0 O (.sel 0 O (.sel 0 O (.nil _)))))))) (aH.calls _ _ a5.1 ) (aH.tot a5.1)) (fun _ => O) (fun _ => (.sel 0 O (.sel 0 O (.sel 0 O (.sel 0 O (.sel 0 O (.sel 0 O (.sel 0 O (.nil _)))))))))) O) (ac (fun γ => (ac (qm O (.o (s := 1) O (by decide) .nil) O) (ac (qm O (.o (s := 1) O (by decide) .nil) O) zA))) (ac (fun γ => (ac (qp O O (.o (s := 5) O (by decide) .nil) (aw O O underlying52 O O sizeOf9 O) O) (ac (qp O O (.o (s := 5) O (by decide) .nil) (aw O O underlying52 O O sizeOf9 O) O) zA))) (ac (fun γ => (ac (qp O O (.v 6 O O .nil) (ai O O isAgg9 (.obj 0 O O)) O) (ac (qp O O (.v 6 O O .nil) (ai O O isAgg9 (.obj 2 O O)) O) zA))) (aq O (fun γ => qp O O (.v 4 O O (.v 8 O O .nil)) (bD O O O) O) (aq O (fun γ => qp O O (.v 9 O O .nil) (dA O O) O) zA)))))))))
 exact (ac (fun γ => eo (Z := Nat × Kps) (fun z => (z, γ.2)) O O (.v 0 O O (.v 2 O O .nil)) (ar (vs := [.pointer (some ⟨b0, 0, none⟩), str g]) (cap := []) (A := [obj b0 76 [.map (some n), str an, .int .i64 a0, .bool a1], aF (aB n aD aA p) aG p al]) (rst := [obj ab 52 [.int .i64 ad, .int .i64 l, str g, str u, .slice t m.length q], obj b1 49 [.slice a e.length c, .int .i64 w, .bool x, str aa], Row 71 3 a e.length c c6.flatten, h, F]) O O O O O O call31 (.sel 1 O (.sel 1 O (.sel 0 O (.sel 0 O (.sel 0 O (.sel 0 O (.sel 0 O (.nil _)))))))) (cF.calls _ _ b0 n p al an a0 a1 g ) hc) (fun _ => ⟨O, O, O, O, O, O, trivial⟩) (fun _ => .inr O) (fun z => Ent.refl _)) (ac (fun γ => eo (Z := Option Addr × Nat × HA) (fun z => (γ.1, z)) O O (.v 5 O O (.v 7 O O .nil)) (ar (vs := [.pointer (some ⟨b1, 0, none⟩), str g]) (cap := []) (A := [obj b1 49 [.slice a e.length c, .int .i64 w, .bool x, str aa], aC 71 3 (V71 h) a e c, h]) (rst := [obj b0 76 [.map (some γ.1.1), str a5.2.2.1, .int .i64 a5.2.2.2.1, .bool a5.2.2.2.2], aF (aB γ.1.1 aD aA γ.1.2) aG γ.1.2 a5.2.1, obj ab 52 [.int .i64 ad, .int .i64 l, str g, str u, .slice t m.length q], F]) O O O O O O call96 (.sel 3 O (.sel' 3 O (aC.mk hb) (.sel 3 O (.sel 0 O (.sel 0 O (.sel 0 O (.sel 0 O (.nil _)))))))) (dB.calls _ _ k b1 a c e h w x aa g ) he) (fun _ => ⟨O, O, O, O, O, O, O, O, trivial⟩) (fun _ => .inr O) (fun z => Ent.refl _)) zA))
 intro dl
 refine ae (ak ?_)
 refine aP ?_
 refine ax ?_
 exact av (dl.1.1, dl.1.2, dl.2.1, dl.2.2.1, dl.2.2.2) O O O (.sel 3 O (.sel 3 O (.sel 0 O (.sel 0 O (.sel 0 O (.sel 1 O (.nil _)))))))
 refine sr ?_
 refine vq (bD O O O) O ?_
 refine va O O (ag (ae ?_))
 refine aL O (fun h9 => ?_) (fun ic => ?_)
 refine ap ?_
 refine fB 4 O (fun c7 hf => ?_)
 refine cu (fun a6 hg => ?_)
 refine cu (fun b9 hh => ?_)
 refine bp (Γ := (Nat × Kps) × (Option Addr × Nat × HA)) ((0, ([] : Kps)), (none, 0, tt)) [[], [], [1], [], [3], rL 5, rL 6, [], [], [8], [], [10], rL 12, rL 13, rL 14] [5, 12] [0, 1, 2, 3, 4, 6, 7, 8, 9, 10, 11, 13, 14] (fun i => [[0], [0], [0], [0], [0], [], [1], [0, 1], [0, 1], [0, 1], [0, 1], [0, 1], [], [2], [2]].getD i []) (fun i => [[], [], [], [], [], [0, 1, 2, 3, 4, 7, 8, 9, 10, 11], [], [], [], [], [], [], rL 12, [], []].getD i []) (fun γ i => [.pointer (some ⟨b0, 0, none⟩), .pointer (some ⟨ab, 2, none⟩), str g, .pointer (some ⟨ab, 1, none⟩), .int .i64 l, .int .i64 a6.1, .int .i64 (aH.v a6.1), .pointer (some ⟨b1, 0, none⟩), .pointer (some ⟨ab, 2, none⟩), str g, .pointer (some ⟨ab, 1, none⟩), .int .i64 l, .int .i64 b9.1, .bool (decide ((aH.v a6.1) = b9.1)), .bool (decide ((aH.v a6.1) = b9.1))].getD i undef) (fun j γ => [[obj ab 52 [.int .i64 ad, .int .i64 l, str g, str u, .slice t m.length q], obj b0 76 [.map (some n), str an, .int .i64 a0, .bool a1], aF (aB n aD aA p) aG p al, obj b1 49 [.slice a e.length c, .int .i64 w, .bool x, str aa], Row 71 3 a e.length c c7.flatten, h, F], [obj b0 76 [.map (some γ.1.1), str a6.2.2.1, .int .i64 a6.2.2.2.1, .bool a6.2.2.2.2], aF (aB γ.1.1 aD aA γ.1.2) aG γ.1.2 a6.2.1, obj ab 52 [.int .i64 ad, .int .i64 l, str g, str u, .slice t m.length q], obj b1 49 [.slice a e.length c, .int .i64 w, .bool x, str aa], Row 71 3 a e.length c c7.flatten, h, F], [obj b1 49 [.slice γ.2.1 b9.2.1.length γ.2.2.1, .int .i64 b9.2.2.1, .bool b9.2.2.2.1, str b9.2.2.2.2], aC 71 3 (V71 (γ.2.2.2)) γ.2.1 b9.2.1 γ.2.2.1, γ.2.2.2, obj b0 76 [.map (some γ.1.1), str a6.2.2.1, .int .i64 a6.2.2.2.1, .bool a6.2.2.2.2], aF (aB γ.1.1 aD aA γ.1.2) aG γ.1.2 a6.2.1, obj ab 52 [.int .i64 ad, .int .i64 l, str g, str u, .slice t m.length q], F]].getD j []) (fun γ => [(6, .bool (decide ((aH.v a6.1) = b9.1)))]) mixed (by decide) (by decide) (by decide) (by decide) (by decide) (by decide) (by decide) 186 O (by decide) (by decide) (by decide) (Ent.refl _) ?_ ?_ (fun _ => ⟨O, trivial⟩) ?_
 exact (aq O (fun γ => qm O (.o (s := 0) O (by decide) .nil) O) (aq O (fun γ => qp O O (.o (s := 5) O (by decide) .nil) (aw O O underlying52 O O sizeOf9 O) O) (aq O (fun γ => qp O O (.v 1 O O .nil) (ai O O isAgg9 (.obj 0 O O)) O) (aq O (fun γ => qp O O (.o (s := 5) O (by decide) .nil) (aw O O underlying52 O O sizeOf3 O) O) (aq O (fun γ => qp O O (.v 3 O O .nil) (ai O O isAgg3 (.obj 0 O O)) O) (aq O (fun γ => qp O O (.v 5 O O .nil) (RE.rq (ar (vs := [.int .i64 a6.1]) (cap := []) (A := []) (rst := [obj b0 76 [.map (some γ.1.1), str a6.2.2.1, .int .i64 a6.2.2.2.1, .bool a6.2.2.2.2], aF (aB γ.1.1 aD aA γ.1.2) aG γ.1.2 a6.2.1, obj ab 52 [.int .i64 ad, .int .i64 l, str g, str u, .slice t m.length q], obj b1 49 [.slice a e.length c, .int .i64 w, .bool x, str aa], Row 71 3 a e.length c c7.flatten, h, F]) O O O O O O call12 (.sel 0 O (.sel 0 O (.sel 0 O (.sel 0 O (.sel 0 O (.sel 0 O (.sel 0 O (.nil _)))))))) (aH.calls _ _ a6.1 ) (aH.tot a6.1)) (fun _ => O) (fun _ => (.sel 0 O (.sel 0 O (.sel 0 O (.sel 0 O (.sel 0 O (.sel 0 O (.sel 0 O (.nil _)))))))))) O) (ac (fun γ => (ac (qm O (.o (s := 1) O (by decide) .nil) O) (ac (qm O (.o (s := 1) O (by decide) .nil) O) zA))) (ac (fun γ => (ac (qp O O (.o (s := 5) O (by decide) .nil) (aw O O underlying52 O O sizeOf9 O) O) (ac (qp O O (.o (s := 5) O (by decide) .nil) (aw O O underlying52 O O sizeOf9 O) O) zA))) (ac (fun γ => (ac (qp O O (.v 8 O O .nil) (ai O O isAgg9 (.obj 0 O O)) O) (ac (qp O O (.v 8 O O .nil) (ai O O isAgg9 (.obj 2 O O)) O) zA))) (ac (fun γ => (ac (qp O O (.o (s := 5) O (by decide) .nil) (aw O O underlying52 O O sizeOf3 O) O) (ac (qp O O (.o (s := 5) O (by decide) .nil) (aw O O underlying52 O O sizeOf3 O) O) zA))) (ac (fun γ => (ac (qp O O (.v 10 O O .nil) (ai O O isAgg3 (.obj 0 O O)) O) (ac (qp O O (.v 10 O O .nil) (ai O O isAgg3 (.obj 2 O O)) O) zA))) (aq O (fun γ => qp O O (.v 6 O O (.v 12 O O .nil)) (bD O O O) O) (aq O (fun γ => qp O O (.v 13 O O .nil) (dA O O) O) zA)))))))))))))
 exact (ac (fun γ => eo (Z := Nat × Kps) (fun z => (z, γ.2)) O O (.v 0 O O (.v 2 O O (.v 4 O O .nil))) (ar (vs := [.pointer (some ⟨b0, 0, none⟩), str g, .int .i64 l]) (cap := []) (A := [obj b0 76 [.map (some n), str an, .int .i64 a0, .bool a1], aF (aB n aD aA p) aG p al]) (rst := [obj ab 52 [.int .i64 ad, .int .i64 l, str g, str u, .slice t m.length q], obj b1 49 [.slice a e.length c, .int .i64 w, .bool x, str aa], Row 71 3 a e.length c c7.flatten, h, F]) O O O O O O call13 (.sel 1 O (.sel 1 O (.sel 0 O (.sel 0 O (.sel 0 O (.sel 0 O (.sel 0 O (.nil _)))))))) (gz.calls _ _ b0 n p al an a0 a1 g l ) hg) (fun _ => ⟨O, O, O, O, O, O, O, O, O, O, trivial⟩) (fun _ => .inr O) (fun z => Ent.refl _)) (ac (fun γ => eo (Z := Option Addr × Nat × HA) (fun z => (γ.1, z)) O O (.v 7 O O (.v 9 O O (.v 11 O O .nil))) (ar (vs := [.pointer (some ⟨b1, 0, none⟩), str g, .int .i64 l]) (cap := []) (A := [obj b1 49 [.slice a e.length c, .int .i64 w, .bool x, str aa], aC 71 3 (V71 h) a e c, h]) (rst := [obj b0 76 [.map (some γ.1.1), str a6.2.2.1, .int .i64 a6.2.2.2.1, .bool a6.2.2.2.2], aF (aB γ.1.1 aD aA γ.1.2) aG γ.1.2 a6.2.1, obj ab 52 [.int .i64 ad, .int .i64 l, str g, str u, .slice t m.length q], F]) O O O O O O call98 (.sel 3 O (.sel' 3 O (aC.mk hf) (.sel 3 O (.sel 0 O (.sel 0 O (.sel 0 O (.sel 0 O (.nil _)))))))) (eU.calls _ _ k b1 a c e h w x aa g l ) hh) (fun _ => ⟨O, O, O, O, O, O, O, O, O, O, O, O, trivial⟩) (fun _ => .inr O) (fun z => Ent.refl _)) zA))
 intro ds
 refine ae (ak ?_)
 refine aP ?_
 refine ax ?_
 exact av (ds.1.1, ds.1.2, ds.2.1, ds.2.2.1, ds.2.2.2) O O O (.sel 3 O (.sel 3 O (.sel 0 O (.sel 0 O (.sel 0 O (.sel 1 O (.nil _)))))))
 refine sr ?_
 refine vq (bD O O O) O ?_
 refine va O O (ag (ae ?_))
 refine aL O (fun ih => ?_) (fun it => ?_)
 refine ap ?_
 refine fB 4 O (fun c0 ek => ?_)
 refine cu (fun a2 em => ?_)
 refine cu (fun b3 en => ?_)
 refine bp (Γ := (Nat × Kps) × (Option Addr × Nat × HA)) ((0, ([] : Kps)), (none, 0, tt)) [[], [], [1], [], [3], rL 5, rL 6, [], [], [8], [], [10], rL 12, rL 13, rL 14] [5, 12] [0, 1, 2, 3, 4, 6, 7, 8, 9, 10, 11, 13, 14] (fun i => [[0], [0], [0], [0], [0], [], [1], [0, 1], [0, 1], [0, 1], [0, 1], [0, 1], [], [2], [2]].getD i []) (fun i => [[], [], [], [], [], [0, 1, 2, 3, 4, 7, 8, 9, 10, 11], [], [], [], [], [], [], rL 12, [], []].getD i []) (fun γ i => [.pointer (some ⟨b0, 0, none⟩), .pointer (some ⟨ab, 2, none⟩), str g, .pointer (some ⟨ab, 3, none⟩), str u, .int .i64 a2.1, .int .i64 (aH.v a2.1), .pointer (some ⟨b1, 0, none⟩), .pointer (some ⟨ab, 2, none⟩), str g, .pointer (some ⟨ab, 3, none⟩), str u, .int .i64 b3.1, .bool (decide ((aH.v a2.1) = b3.1)), .bool (decide ((aH.v a2.1) = b3.1))].getD i undef) (fun j γ => [[obj ab 52 [.int .i64 ad, .int .i64 l, str g, str u, .slice t m.length q], obj b0 76 [.map (some n), str an, .int .i64 a0, .bool a1], aF (aB n aD aA p) aG p al, obj b1 49 [.slice a e.length c, .int .i64 w, .bool x, str aa], Row 71 3 a e.length c c0.flatten, h, F], [obj b0 76 [.map (some γ.1.1), str a2.2.2.1, .int .i64 a2.2.2.2.1, .bool a2.2.2.2.2], aF (aB γ.1.1 aD aA γ.1.2) aG γ.1.2 a2.2.1, obj ab 52 [.int .i64 ad, .int .i64 l, str g, str u, .slice t m.length q], obj b1 49 [.slice a e.length c, .int .i64 w, .bool x, str aa], Row 71 3 a e.length c c0.flatten, h, F], [obj b1 49 [.slice γ.2.1 b3.2.1.length γ.2.2.1, .int .i64 b3.2.2.1, .bool b3.2.2.2.1, str b3.2.2.2.2], aC 71 3 (V71 (γ.2.2.2)) γ.2.1 b3.2.1 γ.2.2.1, γ.2.2.2, obj b0 76 [.map (some γ.1.1), str a2.2.2.1, .int .i64 a2.2.2.2.1, .bool a2.2.2.2.2], aF (aB γ.1.1 aD aA γ.1.2) aG γ.1.2 a2.2.1, obj ab 52 [.int .i64 ad, .int .i64 l, str g, str u, .slice t m.length q], F]].getD j []) (fun γ => [(6, .bool (decide ((aH.v a2.1) = b3.1)))]) mixed (by decide) (by decide) (by decide) (by decide) (by decide) (by decide) (by decide) 186 O (by decide) (by decide) (by decide) (Ent.refl _) ?_ ?_ (fun _ => ⟨O, trivial⟩) ?_
 exact (aq O (fun γ => qm O (.o (s := 0) O (by decide) .nil) O) (aq O (fun γ => qp O O (.o (s := 5) O (by decide) .nil) (aw O O underlying52 O O sizeOf9 O) O) (aq O (fun γ => qp O O (.v 1 O O .nil) (ai O O isAgg9 (.obj 0 O O)) O) (aq O (fun γ => qp O O (.o (s := 5) O (by decide) .nil) (aw O O underlying52 O O sizeOf9 O) O) (aq O (fun γ => qp O O (.v 3 O O .nil) (ai O O isAgg9 (.obj 0 O O)) O) (aq O (fun γ => qp O O (.v 5 O O .nil) (RE.rq (ar (vs := [.int .i64 a2.1]) (cap := []) (A := []) (rst := [obj b0 76 [.map (some γ.1.1), str a2.2.2.1, .int .i64 a2.2.2.2.1, .bool a2.2.2.2.2], aF (aB γ.1.1 aD aA γ.1.2) aG γ.1.2 a2.2.1, obj ab 52 [.int .i64 ad, .int .i64 l, str g, str u, .slice t m.length q], obj b1 49 [.slice a e.length c, .int .i64 w, .bool x, str aa], Row 71 3 a e.length c c0.flatten, h, F]) O O O O O O call12 (.sel 0 O (.sel 0 O (.sel 0 O (.sel 0 O (.sel 0 O (.sel 0 O (.sel 0 O (.nil _)))))))) (aH.calls _ _ a2.1 ) (aH.tot a2.1)) (fun _ => O) (fun _ => (.sel 0 O (.sel 0 O (.sel 0 O (.sel 0 O (.sel 0 O (.sel 0 O (.sel 0 O (.nil _)))))))))) O) (ac (fun γ => (ac (qm O (.o (s := 1) O (by decide) .nil) O) (ac (qm O (.o (s := 1) O (by decide) .nil) O) zA))) (ac (fun γ => (ac (qp O O (.o (s := 5) O (by decide) .nil) (aw O O underlying52 O O sizeOf9 O) O) (ac (qp O O (.o (s := 5) O (by decide) .nil) (aw O O underlying52 O O sizeOf9 O) O) zA))) (ac (fun γ => (ac (qp O O (.v 8 O O .nil) (ai O O isAgg9 (.obj 0 O O)) O) (ac (qp O O (.v 8 O O .nil) (ai O O isAgg9 (.obj 2 O O)) O) zA))) (ac (fun γ => (ac (qp O O (.o (s := 5) O (by decide) .nil) (aw O O underlying52 O O sizeOf9 O) O) (ac (qp O O (.o (s := 5) O (by decide) .nil) (aw O O underlying52 O O sizeOf9 O) O) zA))) (ac (fun γ => (ac (qp O O (.v 10 O O .nil) (ai O O isAgg9 (.obj 0 O O)) O) (ac (qp O O (.v 10 O O .nil) (ai O O isAgg9 (.obj 2 O O)) O) zA))) (aq O (fun γ => qp O O (.v 6 O O (.v 12 O O .nil)) (bD O O O) O) (aq O (fun γ => qp O O (.v 13 O O .nil) (dA O O) O) zA)))))))))))))
 exact (ac (fun γ => eo (Z := Nat × Kps) (fun z => (z, γ.2)) O O (.v 0 O O (.v 2 O O (.v 4 O O .nil))) (ar (vs := [.pointer (some ⟨b0, 0, none⟩), str g, str u]) (cap := []) (A := [obj b0 76 [.map (some n), str an, .int .i64 a0, .bool a1], aF (aB n aD aA p) aG p al]) (rst := [obj ab 52 [.int .i64 ad, .int .i64 l, str g, str u, .slice t m.length q], obj b1 49 [.slice a e.length c, .int .i64 w, .bool x, str aa], Row 71 3 a e.length c c0.flatten, h, F]) O O O O O O call42 (.sel 1 O (.sel 1 O (.sel 0 O (.sel 0 O (.sel 0 O (.sel 0 O (.sel 0 O (.nil _)))))))) (ej.calls _ _ k b0 n p al an a0 a1 g u ) em) (fun _ => ⟨O, O, O, O, O, O, O, O, O, O, trivial⟩) (fun _ => .inr O) (fun z => Ent.refl _)) (ac (fun γ => eo (Z := Option Addr × Nat × HA) (fun z => (γ.1, z)) O O (.v 7 O O (.v 9 O O (.v 11 O O .nil))) (ar (vs := [.pointer (some ⟨b1, 0, none⟩), str g, str u]) (cap := []) (A := [obj b1 49 [.slice a e.length c, .int .i64 w, .bool x, str aa], aC 71 3 (V71 h) a e c, h]) (rst := [obj b0 76 [.map (some γ.1.1), str a2.2.2.1, .int .i64 a2.2.2.2.1, .bool a2.2.2.2.2], aF (aB γ.1.1 aD aA γ.1.2) aG γ.1.2 a2.2.1, obj ab 52 [.int .i64 ad, .int .i64 l, str g, str u, .slice t m.length q], F]) O O O O O O call97 (.sel 3 O (.sel' 3 O (aC.mk ek) (.sel 3 O (.sel 0 O (.sel 0 O (.sel 0 O (.sel 0 O (.nil _)))))))) (de.calls _ _ k b1 a c e h w x aa g u ) en) (fun _ => ⟨O, O, O, O, O, O, O, O, O, O, O, O, trivial⟩) (fun _ => .inr O) (fun z => Ent.refl _)) zA))
 intro c1
 refine ae (ak ?_)
 refine aP ?_
 refine ax ?_
 exact av (c1.1.1, c1.1.2, c1.2.1, c1.2.2.1, c1.2.2.2) O O O (.sel 3 O (.sel 3 O (.sel 0 O (.sel 0 O (.sel 0 O (.sel 1 O (.nil _)))))))
 refine sr ?_
 refine vq (bD O O O) O ?_
 refine va O O (ag (ae ?_))
 refine aL O (fun hu => ?_) (fun hv => ?_)
 refine ap ?_
 refine fB 4 O (fun c2 ep => ?_)
 refine cu (fun a3 er => ?_)
 refine cu (fun b4 es => ?_)
 refine bp (Γ := (Nat × Kps) × (Option Addr × Nat × HA)) ((0, ([] : Kps)), (none, 0, tt)) [[], [], [1], [0, 1, 2], rL 4, [], [], [6], rL 8, rL 9, rL 10] [3, 8] [0, 1, 2, 4, 5, 6, 7, 9, 10] (fun i => [[0], [0], [0], [], [1], [0, 1], [0, 1], [0, 1], [], [2], [2]].getD i []) (fun i => [[], [], [], [0, 1, 2, 5, 6, 7], [], [], [], [], rL 8, [], []].getD i []) (fun γ i => [.pointer (some ⟨b0, 0, none⟩), .pointer (some ⟨ab, 2, none⟩), str g, .int .i64 a3.1, .int .i64 (aH.v a3.1), .pointer (some ⟨b1, 0, none⟩), .pointer (some ⟨ab, 2, none⟩), str g, .int .i64 b4.1, .bool (decide ((aH.v a3.1) = b4.1)), .bool (decide ((aH.v a3.1) = b4.1))].getD i undef) (fun j γ => [[obj ab 52 [.int .i64 ad, .int .i64 l, str g, str u, .slice t m.length q], obj b0 76 [.map (some n), str an, .int .i64 a0, .bool a1], aF (aB n aD aA p) aG p al, obj b1 49 [.slice a e.length c, .int .i64 w, .bool x, str aa], Row 71 3 a e.length c c2.flatten, h, F], [obj b0 76 [.map (some γ.1.1), str a3.2.2.1, .int .i64 a3.2.2.2.1, .bool a3.2.2.2.2], aF (aB γ.1.1 aD aA γ.1.2) aG γ.1.2 a3.2.1, obj ab 52 [.int .i64 ad, .int .i64 l, str g, str u, .slice t m.length q], obj b1 49 [.slice a e.length c, .int .i64 w, .bool x, str aa], Row 71 3 a e.length c c2.flatten, h, F], [obj b1 49 [.slice γ.2.1 b4.2.1.length γ.2.2.1, .int .i64 b4.2.2.1, .bool b4.2.2.2.1, str b4.2.2.2.2], aC 71 3 (V71 (γ.2.2.2)) γ.2.1 b4.2.1 γ.2.2.1, γ.2.2.2, obj b0 76 [.map (some γ.1.1), str a3.2.2.1, .int .i64 a3.2.2.2.1, .bool a3.2.2.2.2], aF (aB γ.1.1 aD aA γ.1.2) aG γ.1.2 a3.2.1, obj ab 52 [.int .i64 ad, .int .i64 l, str g, str u, .slice t m.length q], F]].getD j []) (fun γ => [(6, .bool (decide ((aH.v a3.1) = b4.1)))]) mixed (by decide) (by decide) (by decide) (by decide) (by decide) (by decide) (by decide) 186 O (by decide) (by decide) (by decide) (Ent.refl _) ?_ ?_ (fun _ => ⟨O, trivial⟩) ?_
 exact (aq O (fun γ => qm O (.o (s := 0) O (by decide) .nil) O) (aq O (fun γ => qp O O (.o (s := 5) O (by decide) .nil) (aw O O underlying52 O O sizeOf9 O) O) (aq O (fun γ => qp O O (.v 1 O O .nil) (ai O O isAgg9 (.obj 0 O O)) O) (aq O (fun γ => qp O O (.v 3 O O .nil) (RE.rq (ar (vs := [.int .i64 a3.1]) (cap := []) (A := []) (rst := [obj b0 76 [.map (some γ.1.1), str a3.2.2.1, .int .i64 a3.2.2.2.1, .bool a3.2.2.2.2], aF (aB γ.1.1 aD aA γ.1.2) aG γ.1.2 a3.2.1, obj ab 52 [.int .i64 ad, .int .i64 l, str g, str u, .slice t m.length q], obj b1 49 [.slice a e.length c, .int .i64 w, .bool x, str aa], Row 71 3 a e.length c c2.flatten, h, F]) O O O O O O call12 (.sel 0 O (.sel 0 O (.sel 0 O (.sel 0 O (.sel 0 O (.sel 0 O (.sel 0 O (.nil _)))))))) (aH.calls _ _ a3.1 ) (aH.tot a3.1)) (fun _ => O) (fun _ => (.sel 0 O (.sel 0 O (.sel 0 O (.sel 0 O (.sel 0 O (.sel 0 O (.sel 0 O (.nil _)))))))))) O) (ac (fun γ => (ac (qm O (.o (s := 1) O (by decide) .nil) O) (ac (qm O (.o (s := 1) O (by decide) .nil) O) zA))) (ac (fun γ => (ac (qp O O (.o (s := 5) O (by decide) .nil) (aw O O underlying52 O O sizeOf9 O) O) (ac (qp O O (.o (s := 5) O (by decide) .nil) (aw O O underlying52 O O sizeOf9 O) O) zA))) (ac (fun γ => (ac (qp O O (.v 6 O O .nil) (ai O O isAgg9 (.obj 0 O O)) O) (ac (qp O O (.v 6 O O .nil) (ai O O isAgg9 (.obj 2 O O)) O) zA))) (aq O (fun γ => qp O O (.v 4 O O (.v 8 O O .nil)) (bD O O O) O) (aq O (fun γ => qp O O (.v 9 O O .nil) (dA O O) O) zA)))))))))
 exact (ac (fun γ => eo (Z := Nat × Kps) (fun z => (z, γ.2)) O O (.v 0 O O (.v 2 O O .nil)) (ar (vs := [.pointer (some ⟨b0, 0, none⟩), str g]) (cap := []) (A := [obj b0 76 [.map (some n), str an, .int .i64 a0, .bool a1], aF (aB n aD aA p) aG p al]) (rst := [obj ab 52 [.int .i64 ad, .int .i64 l, str g, str u, .slice t m.length q], obj b1 49 [.slice a e.length c, .int .i64 w, .bool x, str aa], Row 71 3 a e.length c c2.flatten, h, F]) O O O O O O call49 (.sel 1 O (.sel 1 O (.sel 0 O (.sel 0 O (.sel 0 O (.sel 0 O (.sel 0 O (.nil _)))))))) (bS.calls _ _ b0 n p al an a0 a1 g ) er) (fun _ => ⟨O, O, O, O, O, O, trivial⟩) (fun _ => .inr O) (fun z => Ent.refl _)) (ac (fun γ => eo (Z := Option Addr × Nat × HA) (fun z => (γ.1, z)) O O (.v 5 O O (.v 7 O O .nil)) (ar (vs := [.pointer (some ⟨b1, 0, none⟩), str g]) (cap := []) (A := [obj b1 49 [.slice a e.length c, .int .i64 w, .bool x, str aa], aC 71 3 (V71 h) a e c, h]) (rst := [obj b0 76 [.map (some γ.1.1), str a3.2.2.1, .int .i64 a3.2.2.2.1, .bool a3.2.2.2.2], aF (aB γ.1.1 aD aA γ.1.2) aG γ.1.2 a3.2.1, obj ab 52 [.int .i64 ad, .int .i64 l, str g, str u, .slice t m.length q], F]) O O O O O O call93 (.sel 3 O (.sel' 3 O (aC.mk ep) (.sel 3 O (.sel 0 O (.sel 0 O (.sel 0 O (.sel 0 O (.nil _)))))))) (bV.calls _ _ k b1 a c e h w x aa g ) es) (fun _ => ⟨O, O, O, O, O, O, O, O, trivial⟩) (fun _ => .inr O) (fun z => Ent.refl _)) zA))
 intro c3
 refine ae (ak ?_)
 refine aP ?_
 refine ax ?_
 exact av (c3.1.1, c3.1.2, c3.2.1, c3.2.2.1, c3.2.2.2) O O O (.sel 3 O (.sel 3 O (.sel 0 O (.sel 0 O (.sel 0 O (.sel 1 O (.nil _)))))))
 refine sr ?_
 refine vq (bD O O O) O ?_
 refine va O O (ag (ae ?_))
 refine aL O (fun hw => ?_) (fun hx => ?_)
 refine sr ?_
 refine vm O O ?_
 refine vq (aw O O underlying52 O O sizeOf3 O) O ?_
 refine vq (ai O O isAgg3 (.obj 0 O O)) O ?_
 refine am (fun hy et => ?_)
 refine ah (ar (vs := [.pointer (some ⟨b0, 0, none⟩), .int .i64 l]) (cap := []) (A := [obj b0 76 [.map (some n), str an, .int .i64 a0, .bool a1], aF (aB n aD aA p) aG p al]) (rst := [obj ab 52 [.int .i64 ad, .int .i64 l, str g, str u, .slice t m.length q], obj b1 49 [.slice a e.length c, .int .i64 w, .bool x, str aa], aC 71 3 (V71 h) a e c, h, F]) O O O O O O call27 (.sel 1 O (.sel 1 O (.sel 0 O (.sel 0 O (.sel 0 O (.sel 0 O (.sel 0 O (.nil _)))))))) (gA.calls _ _ b0 n p al an a0 a1 l ) et) O O O ?_
 intro hz
 refine nx ?_
 refine vm O O ?_
 refine vq (aw O O underlying52 O O sizeOf3 O) O ?_
 refine vq (ai O O isAgg3 (.obj 2 O O)) O ?_
 refine vq (kM O O O) O ?_
 refine vn O O ?_
 refine vq (aw O O underlying49 O O sizeOf3 O) O ?_
 refine aX (aV 3 O O O sizeOf3 O O (aY (by rfl)) O O) O O ?_
 intro _
 refine nx ?_
 refine va O O (ag (ae (ak ?_)))
 refine aP ?_
 refine ax ?_
 exact av (n, p, a, c, h) O O O (.sel 0 O (.sel 0 O (.sel 1 O (.sel 1 O (.sel 1 O (.sel 1 O (.nil _)))))))
 refine sr ?_
 refine vq (bD O O O) O ?_
 refine va O O (ag (ae ?_))
 refine aL O (fun hA => ?_) (fun hB => ?_)
 refine sr ?_
 refine vm O O ?_
 refine vq (aw O O underlying52 O O sizeOf3 O) O ?_
 refine vq (ai O O isAgg3 (.obj 0 O O)) O ?_
 refine am (fun c8 ez => ?_)
 refine ah (ar (vs := [.pointer (some ⟨b0, 0, none⟩), .int .i64 l]) (cap := []) (A := [obj b0 76 [.map (some n), str an, .int .i64 a0, .bool a1], aF (aB n aD aA p) aG p al]) (rst := [obj ab 52 [.int .i64 ad, .int .i64 l, str g, str u, .slice t m.length q], obj b1 49 [.slice a e.length c, .int .i64 w, .bool x, str aa], aC 71 3 (V71 h) a e c, h, F]) O O O O O O call28 (.sel 1 O (.sel 1 O (.sel 0 O (.sel 0 O (.sel 0 O (.sel 0 O (.sel 0 O (.nil _)))))))) (eJ.calls _ _ b0 n p al an a0 a1 l ) ez) O O O ?_
 intro ch
 refine nx ?_
 refine vm O O ?_
 refine vq (aw O O underlying52 O O sizeOf3 O) O ?_
 refine vq (ai O O isAgg3 (.obj 2 O O)) O ?_
 refine bd 4 O (fun hm eA => ?_)
 refine am (fun hC eF => ?_)
 refine ah (ar (vs := [.pointer (some ⟨b1, 0, none⟩), .int .i64 l]) (cap := []) (A := [obj b1 49 [.slice a e.length c, .int .i64 w, .bool x, str aa], aC 71 3 (V71 h) a e c, h]) (rst := [obj b0 76 [.map (some ch.1), str c8.2.1, .int .i64 c8.2.2.1, .bool c8.2.2.2], aF (aB ch.1 aD aA ch.2) aG ch.2 c8.1, obj ab 52 [.int .i64 ad, .int .i64 l, str g, str u, .slice t m.length q], F]) O O O O O O call54 (.sel 3 O (.sel' 3 O (aC.mk eA) (.sel 3 O (.sel 0 O (.sel 0 O (.sel 0 O (.sel 0 O (.nil _)))))))) (bz.calls _ _ k b1 a c e h w x aa l ) eF) O O O ?_
 intro d4
 refine nx ?_
 refine va O O (ag (ae (ak ?_)))
 refine aP ?_
 refine ax ?_
 exact av (ch.1, ch.2, d4.1, d4.2.1, d4.2.2) O O O (.sel 3 O (.sel 3 O (.sel 0 O (.sel 0 O (.sel 0 O (.sel 1 O (.nil _)))))))
 refine au ?_
 refine bb (ae (sr ?_))
 refine vm O O ?_
 refine vq (aw O O underlying52 O O sizeOf9 O) O ?_
 refine vq (ai O O isAgg9 (.obj 0 O O)) O ?_
 refine am (fun be e0 => ?_)
 refine ah (ar (vs := [.pointer (some ⟨b0, 0, none⟩), str g]) (cap := []) (A := [obj b0 76 [.map (some n), str an, .int .i64 a0, .bool a1], aF (aB n aD aA p) aG p al]) (rst := [obj ab 52 [.int .i64 ad, .int .i64 l, str g, str u, .slice t m.length q], obj b1 49 [.slice a e.length c, .int .i64 w, .bool x, str aa], aC 71 3 (V71 h) a e c, h, F]) O O O O O O call86 (.sel 1 O (.sel 1 O (.sel 0 O (.sel 0 O (.sel 0 O (.sel 0 O (.sel 0 O (.nil _)))))))) (fb.calls _ _ b0 n p al an a0 a1 g ) e0) O O O ?_
 intro a7
 refine vm O O ?_
 refine vq (bh O O O) O ?_
 refine vq (bh O O O) O ?_
 refine va O O ?_
 refine va O O (nx ?_)
 refine vm O O ?_
 refine vq (aw O O underlying52 O O sizeOf9 O) O ?_
 refine vq (ai O O isAgg9 (.obj 3 O O)) O ?_
 refine bd 5 O (fun d5 d6 => ?_)
 refine am (fun b5 e1 => ?_)
 refine bf 5 O (fun e2 e3 e4 hn => ?_)
 refine ah (ar (vs := [.pointer (some ⟨b1, 0, none⟩), str g]) (cap := []) (A := [obj b1 49 [.slice a e.length c, .int .i64 w, .bool x, str aa]]) (rst := [Row 5 1 a7.1 be.1.length a7.2 (ao be.1), obj b0 76 [.map (some n), str an, .int .i64 a0, .bool a1], aF (aB n aD aA p) aG p al, obj ab 52 [.int .i64 ad, .int .i64 l, str g, str u, .slice t m.length q], Row 71 3 a e.length c d5.flatten, h, F]) O O O O O O call56 (.sel 4 O (.sel 0 O (.sel 0 O (.sel 0 O (.sel 0 O (.sel 0 O (.sel 0 O (.sel 0 O (.nil _))))))))) (co.calls _ _ k b1 a c e w x aa g ((Rd.asV d6 e2).up (Up.lend 4 O) (V71.up (Up.lend 5 O))) e3 e4) e1) O O O ?_
 intro cs
 refine vm O O ?_
 refine vq (bh O O O) O ?_
 refine vq (bh O O O) O ?_
 refine va O O ?_
 refine va O O (nx ?_)
 refine vm O O ?_
 refine vm O O ?_
 refine am (fun eg e5 => ?_)
 refine bf 2 O (fun e6 e7 e8 ho => ?_)
 refine bf 0 O (fun e9 fn fp hp => ?_)
 refine ah (ar (vs := [.slice a7.1 be.1.length a7.2, .slice cs.1 b5.1.length cs.2]) (cap := []) (A := []) (rst := [Row 5 1 cs.1 b5.1.length cs.2 (ao b5.1), obj b1 49 [.slice a e.length c, .int .i64 w, .bool x, str aa], Row 5 1 a7.1 be.1.length a7.2 (ao be.1), obj b0 76 [.map (some n), str an, .int .i64 a0, .bool a1], aF (aB n aD aA p) aG p al, obj ab 52 [.int .i64 ad, .int .i64 l, str g, str u, .slice t m.length q], Row 71 3 a e.length c d5.flatten, h, F]) O O O O O O call33 (.sel 0 O (.sel 0 O (.sel 0 O (.sel 0 O (.sel 0 O (.sel 0 O (.sel 0 O (.sel 0 O (.sel 0 O (.nil _)))))))))) (bn.calls _ _ k a7.1 a7.2 be.1 cs.1 cs.2 b5.1 (e6.lend 2 O) e7 e8 (e9.lend 0 O) fn fp) e5) O O O ?_
 intro hE
 refine va O O (ag (ae ?_))
 refine bO (S := Unit) (Unit) (fun s y => [(0, .pointer (some ⟨b0, 0, none⟩)), (5, .pointer (some ⟨ab, 0, none⟩)), (12, .int .i64 be.2), (14, .int .i64 b5.2), (15, .bool eg)]) (fun s y => [obj b1 49 [.slice a e.length c, .int .i64 w, .bool x, str aa], obj b0 76 [.map (some n), str an, .int .i64 a0, .bool a1], obj ab 52 [.int .i64 ad, .int .i64 l, str g, str u, .slice t m.length q], aC 71 3 (V71 (h)) a e c, aF (aB n aD aA p) aG p al, h, F]) ?_ ?_
 refine sr ?_
 refine va O O (ag (ae ?_))
 refine aK ?_
 refine bX (S := List UInt8 × Int) (Unit) (fun k s => bF.l1 k s.1 s.2) (fun s y => [(0, .pointer (some ⟨b0, 0, none⟩)), (5, .pointer (some ⟨ab, 0, none⟩)), (11, .slice a7.1 s.1.length a7.2), (12, .int .i64 be.2), (14, .int .i64 b5.2), (15, .bool eg), (16, .int .i64 s.2)]) (fun s y => [obj b1 49 [.slice a e.length c, .int .i64 w, .bool x, str aa], obj b0 76 [.map (some n), str an, .int .i64 a0, .bool a1], obj ab 52 [.int .i64 ad, .int .i64 l, str g, str u, .slice t m.length q], Row 5 1 a7.1 s.1.length a7.2 (ao s.1), aC 71 3 (V71 (h)) a e c, aF (aB n aD aA p) aG p al, h, F]) (fun _ => by rw [bF.l1]) ?_ k (be.1, 0) () ⟨O, O, O, O, O, O, O, trivial⟩ (.sel 1 O (.sel 2 O (.sel 3 O (.sel 1 O (.sel' 2 O (aC.mk d6) (.sel 1 O (.sel 1 O (.sel 1 O (.nil _)))))))))
 intro k b2 hF
 refine cL (by rw [bF.l1]) ?_
 refine ap (sr ?_)
 refine vm O O ?_
 refine vm O O ?_
 refine vq (bi O O O underlying25) O ?_
 refine vq (bN O O O) O (ag (ae ?_))
 refine aL O (fun hG => ?_) (fun hH => ?_)
 refine au ?_
 refine ae (ap ?_)
 refine aK ?_
 refine aE ?_
 refine vm O O ?_
 refine vm O O ?_
 refine aQ (fun c4 => ?_)
 refine ot 3 O (fc (j := b2.2.toNat) (by omega)) (fun hI hq d7 => ?_)
 refine vq (el O O O d7 underlying25 sizeOf5 c4.1 c4.2) O ?_
 refine aX (wc 98 3 O O O sizeOf5 O d7 c4.2 c4.1 O) O O ?_
 intro _
 refine eE (.slice a7.1 ((b2.1.set b2.2.toNat 98).length) a7.2) (d := 11) O (fm (by simp)) ?_
 refine eE (.slice a7.1 ((b2.1.set b2.2.toNat 98).length) a7.2) (d := 162) O (fm (by simp)) ?_
 refine eE (.slice a7.1 ((b2.1.set b2.2.toNat 98).length) a7.2) (d := 167) O (fm (by simp)) ?_
 refine ag (bb (ae (aE ?_)))
 refine vm O O ?_
 refine vq (bj O O O) O ?_
 refine va O O (ag ?_)
 exact bu (s := (b2.1.set b2.2.toNat 98, IntKind.i64.wrap (b2.2 + 1))) () ⟨O, O, O, O, O, O, O, trivial⟩ (.sel 0 O (.sel 0 O (.sel 0 O (.sel 0 O (.sel 0 O (.sel 0 O (.sel 0 O (.sel 0 O (.nil _)))))))))
 refine ck ?_
 refine bQ ?_
 refine bY ?_
 refine bR ?_
 exact aM (s := ()) () ⟨O, O, O, O, O, trivial⟩ (.sel 0 O (.sel 0 O (.sel 0 O (.sel 1 O (.sel 1 O (.sel 1 O (.sel 1 O (.nil _))))))))
 intro hK hL
 refine sr ?_
 refine vm O O ?_
 refine vm O O ?_
 refine dk 5 (S := Bool) (Unit) (fun s y => [(0, .pointer (some ⟨b0, 0, none⟩)), (5, .pointer (some ⟨ab, 0, none⟩)), (14, .int .i64 b5.2), (176, .bool s)]) (fun s y => [obj b1 49 [.slice a e.length c, .int .i64 w, .bool x, str aa], obj b0 76 [.map (some n), str an, .int .i64 a0, .bool a1], obj ab 52 [.int .i64 ad, .int .i64 l, str g, str u, .slice t m.length q], aC 71 3 (V71 (h)) a e c, aF (aB n aD aA p) aG p al, h, F]) ?_ ?_
 refine eI (fun fs => ?_) (fun fw => ?_)
 rw [fs]
 refine aO (aS O O) O O O O O O ?_
 refine am (fun hi fz => ?_)
 refine fk (ar (vs := [.int .i64 be.2]) (cap := []) (A := []) (rst := [obj b1 49 [.slice a e.length c, .int .i64 w, .bool x, str aa], obj b0 76 [.map (some n), str an, .int .i64 a0, .bool a1], obj ab 52 [.int .i64 ad, .int .i64 l, str g, str u, .slice t m.length q], aC 71 3 (V71 (h)) a e c, aF (aB n aD aA p) aG p al, h, F]) O O O O O O call12 (.sel 0 O (.sel 0 O (.sel 0 O (.sel 0 O (.sel 0 O (.sel 0 O (.sel 0 O (.nil _)))))))) (aH.calls _ _ be.2 ) fz) O O O O O O ?_
 intro hM
 refine aO (aS O O) O O O O O O ?_
 refine aO (bD O O O) O O O O O O ?_
 refine vq (bL O O O O O) O (ag ?_)
 exact aM (s := decide (hi = b5.2)) () ⟨O, O, O, O, trivial⟩ (.sel 0 O (.sel 0 O (.sel 0 O (.sel 0 O (.sel 0 O (.sel 0 O (.sel 0 O (.nil _))))))))
 rw [fw]
 refine aI O O O O O O ?_
 refine aI O O O O O O ?_
 refine aI O O O O O O ?_
 refine aI O O O O O O ?_
 refine vq (bL O O O O O) O (ag ?_)
 exact aM (s := false) () ⟨O, O, O, O, trivial⟩ (.sel 0 O (.sel 0 O (.sel 0 O (.sel 0 O (.sel 0 O (.sel 0 O (.sel 0 O (.nil _))))))))
 intro hO hR
 refine vm O O ?_
 refine dk 8 (S := Bool) (Unit) (fun s y => [(185, .bool s)]) (fun s y => [obj b0 76 [.map (some n), str an, .int .i64 a0, .bool a1], obj b1 49 [.slice a e.length c, .int .i64 w, .bool x, str aa], aF (aB n aD aA p) aG p al, aC 71 3 (V71 (h)) a e c, h, F]) ?_ ?_
 refine eI (fun go => ?_) (fun gs => ?_)
 rw [go]
 refine aO (aS O O) O O O O O O ?_
 refine aO (aw O O underlying52 O O sizeOf9 O) O O O O O O ?_
 refine aO (ai O O isAgg9 (.obj 2 O O)) O O O O O O ?_
 refine am (fun hj gy => ?_)
 refine fk (ar (vs := [.pointer (some ⟨b0, 0, none⟩), str g]) (cap := []) (A := [obj b0 76 [.map (some n), str an, .int .i64 a0, .bool a1], aF (aB n aD aA p) aG p al]) (rst := [obj b1 49 [.slice a e.length c, .int .i64 w, .bool x, str aa], obj ab 52 [.int .i64 ad, .int .i64 l, str g, str u, .slice t m.length q], aC 71 3 (V71 (h)) a e c, h, F]) O O O O O O call69 (.sel 1 O (.sel 3 O (.sel 0 O (.sel 0 O (.sel 0 O (.sel 0 O (.sel 0 O (.nil _)))))))) (bZ.calls _ _ b0 n p al an a0 a1 g ) gy) O O O O O O ?_
 intro hS
 refine aO (aS O O) O O O O O O ?_
 refine aO (bD O O O) O O O O O O ?_
 refine aO (xO O O O underlying4) O O O O O O ?_
 refine vq (bL O O O O O) O (ag ?_)
 exact aM (s := hj == (decide (b5.2 = (0 : Int)))) () ⟨O, trivial⟩ (.sel 0 O (.sel 1 O (.sel 0 O (.sel 1 O (.sel 1 O (.sel 1 O (.nil _)))))))
 rw [gs]
 refine aI O O O O O O ?_
 refine aI O O O O O O ?_
 refine aI O O O O O O ?_
 refine aI O O O O O O ?_
 refine aI O O O O O O ?_
 refine aI O O O O O O ?_
 refine aI O O O O O O ?_
 refine vq (bL O O O O O) O (ag ?_)
 exact aM (s := false) () ⟨O, trivial⟩ (.sel 1 O (.sel 0 O (.sel 2 O (.sel 1 O (.sel 1 O (.sel 1 O (.nil _)))))))
 intro hU hV
 refine va O O (ag (ae (ak ?_)))
 exact av (n, p, a, c, h) O O O (.sel 0 O (.sel 1 O (.sel 0 O (.sel 0 O (.sel 0 O (.sel 0 O (.nil _)))))))

def gj.f (k : Nat) (b : List ((List UInt8) × (List UInt8 × Int))) (j : List UInt8) (l : Int) (m : Bool) (c : List (ba)) (n : Int) (d : Bool) (e : List UInt8) (r : Int) (g : Int) (x : Int) (y : Int) (u : List UInt8) (aa : Int) (ab : Int) (ad : List UInt8) (af : List UInt8) (al : List UInt8) : Option (Bool × (List ((List UInt8) × (List UInt8 × Int))) × List UInt8 × Int × Bool × (List (ba)) × Int × Bool × List UInt8) := if r = (0 : Int) then ((eX.f u).bind fun z => ((fX.f k b j l m x y z.1).bind fun o => ((fu.f k z.1 z.2 u).bind fun an => ((if an = true then ((fC.f k c n d e x y u).bind fun p => (some (decide ((aH.v o.1) = p.1), p.2.1, p.2.2.1, p.2.2.2.1, p.2.2.2.2))) else (some (false, c, n, d, e))).bind fun q => (some (q.1, o.2.1, o.2.2.1, o.2.2.2.1, o.2.2.2.2, q.2.1, q.2.2.1, q.2.2.2.1, q.2.2.2.2)))))) else (if r = (1 : Int) then ((eV.f k b j l m g).bind fun h => ((cM.f k c n d e g).bind fun i => ((if h.1 = i.1 then ((aH.f h.2.1).bind fun a0 => (some (decide (a0 = i.2.1)))) else (some false)).bind fun a1 => (some (a1, h.2.2.1, h.2.2.2.1, h.2.2.2.2.1, h.2.2.2.2.2, i.2.2.1, i.2.2.2.1, i.2.2.2.2.1, i.2.2.2.2.2))))) else (if r = (2 : Int) then ((gA.f b j l m g).bind fun w => (some (true, b, w.1, w.2.1, w.2.2, c, max g (0 : Int), d, e))) else (if r = (3 : Int) then ((eJ.f b j l m g).bind fun s => ((bz.f k c n d e g).bind fun t => (some (true, s.1, s.2.1, s.2.2.1, s.2.2.2, t.1, t.2.1, t.2.2.1, t.2.2.2)))) else ((bF.f k b j l m c n d e aa ab ad af al).bind fun a => (some (a.1, a.2.1, a.2.2.1, a.2.2.2.1, a.2.2.2.2.1, a.2.2.2.2.2.1, a.2.2.2.2.2.2.1, a.2.2.2.2.2.2.2.1, a.2.2.2.2.2.2.2.2))))))
theorem gj.calls (W : World) (F : HA) (k : Nat) (b0 : Nat) (u : Nat) (w : Kps) (a7 : List ((List UInt8) × (List UInt8 × Int))) (a8 : List UInt8) (a9 : Int) (bc : Bool) (b1 : Nat) (a : Option Addr) (b : Nat) (c : List (ba)) (p : HA) (ad : Int) (af : Bool) (al : List UInt8) (a4 : Int) (t : Int) (e : Int) (g : Int) (q : Option Addr) (m : Nat) (l : List UInt8) (an : Int) (a0 : Int) (a1 : List UInt8) (a2 : List UInt8) (a3 : Option Addr) (ab : Nat) (aa : List UInt8) (cd : Rd F q (ao l)) (b7 : l.length ≤ m) (b8 : m ≤ maxLen) (ep : Rd F a3 (ao aa)) (c6 : aa.length ≤ ab) (c7 : ab ≤ maxLen) (hgl : Glb Tryz.prog F) :
    Fn Tryz.prog W 20 [.pointer (some ⟨b0, 0, none⟩), .pointer (some ⟨b1, 0, none⟩), .agg #[.int .i64 a4, .int .i64 t, .int .i64 e, .int .i64 g, .slice q l.length m, .int .i64 an, .int .i64 a0, str a1, str a2, .slice a3 aa.length ab]] [obj b0 76 [.map (some u), str a8, .int .i64 a9, .bool bc], aF (aB u aD aA w) aG w a7, obj b1 49 [.slice a c.length b, .int .i64 ad, .bool af, str al], aC 71 3 (V71 p) a c b, p] F (gj.f k a7 a8 a9 bc c ad af al a4 t e g l an a0 a1 a2 aa) (fun (r : Bool × (List ((List UInt8) × (List UInt8 × Int))) × List UInt8 × Int × Bool × (List (ba)) × Int × Bool × List UInt8) (y : Nat × Kps × Option Addr × Nat × HA) => .bool r.1) (fun r y => [obj b0 76 [.map (some y.1), str r.2.2.1, .int .i64 r.2.2.2.1, .bool r.2.2.2.2.1], aF (aB y.1 aD aA y.2.1) aG y.2.1 r.2.1, obj b1 49 [.slice y.2.2.1 r.2.2.2.2.2.1.length y.2.2.2.1, .int .i64 r.2.2.2.2.2.2.1, .bool r.2.2.2.2.2.2.2.1, str r.2.2.2.2.2.2.2.2], aC 71 3 (V71 (y.2.2.2.2)) y.2.2.1 r.2.2.2.2.2.1 y.2.2.2.1, y.2.2.2.2]) := by
 unfold gj.f
 refine aJ 100 Tryz.func20 O Tryz.ntmps20 O ?_
 refine sr ?_
 refine ah (dL O O O) O O O ?_
 intro a5
 refine va O O (ag (ae (ap (sr ?_))))
 refine vq (aw O O underlying54 O O sizeOf3 O) O ?_
 refine vq (ai O O isAgg3 (.obj 0 O O)) O (ag (ae ?_))
 refine aK ?_
 refine sr ?_
 refine vq (bD O O O) O ?_
 refine va O O (ag (ae ?_))
 refine aL O (fun go => ?_) (fun gs => ?_)
 refine ap ?_
 refine fB 4 O (fun b4 c4 => ?_)
 refine cu (fun n c5 => ?_)
 refine wd (Γ := (Option Addr × Nat) × Nat) ((none, 0), 0) [[], [0], [0, 1], [], [3], [3, 4], [], [6], [6, 7], [6, 7, 8], rL 10, [], rL 12] [9, 11, 12] [0, 1, 2, 3, 4, 5, 6, 7, 8, 10] [[], [9], [11], [9, 11], [9, 11, 12]] 4 (fun i => [rL 4, rL 4, rL 4, rL 4, rL 4, rL 4, [0, 2], [0, 2], [0, 2], [0, 2], [1, 3], [0, 1], [3]].getD i []) (fun i s => ([[], [], [], [], [], [], [], [], [], [1, 0, 3, 0, 0], [], [2, 3, 0, 0, 0], [0, 0, 0, 4, 0]].getD i []).getD s 0) (fun i => [[], [], [], [], [], [], [], [], [], [0, 1, 2, 3, 4, 5, 6, 7, 8, 11], [], rL 11, rL 12].getD i []) (fun γ i => [.pointer (some ⟨a5, 2, none⟩), .pointer (some ⟨a5, 2, none⟩), .int .i64 e, .pointer (some ⟨a5, 2, none⟩), .pointer (some ⟨a5, 3, none⟩), .int .i64 g, .pointer (some ⟨a5, 2, none⟩), .pointer (some ⟨a5, 4, none⟩), .slice q l.length m, .slice γ.1.1 n.1.length γ.1.2, .agg #[.int .i64 e, .int .i64 g, .slice γ.1.1 n.1.length γ.1.2], .pointer (some ⟨γ.2, 0, none⟩), undef].getD i undef) (fun j γ => [[obj a5 54 [.int .i64 a4, .int .i64 t, .int .i64 e, .int .i64 g, .slice q l.length m, .int .i64 an, .int .i64 a0, str a1, str a2, .slice a3 aa.length ab], obj b0 76 [.map (some u), str a8, .int .i64 a9, .bool bc], aF (aB u aD aA w) aG w a7, obj b1 49 [.slice a c.length b, .int .i64 ad, .bool af, str al], Row 71 3 a c.length b b4.flatten, p, F], [Row 5 1 γ.1.1 n.1.length γ.1.2 (ao (n.1 ++ n.2)), obj a5 54 [.int .i64 a4, .int .i64 t, .int .i64 e, .int .i64 g, .slice q l.length m, .int .i64 an, .int .i64 a0, str a1, str a2, .slice a3 aa.length ab], obj b0 76 [.map (some u), str a8, .int .i64 a9, .bool bc], aF (aB u aD aA w) aG w a7, obj b1 49 [.slice a c.length b, .int .i64 ad, .bool af, str al], Row 71 3 a c.length b b4.flatten, p, F], [obj γ.2 27 [.int .i64 0, .int .i64 0, .slice none 0 0], obj a5 54 [.int .i64 a4, .int .i64 t, .int .i64 e, .int .i64 g, .slice q l.length m, .int .i64 an, .int .i64 a0, str a1, str a2, .slice a3 aa.length ab], obj b0 76 [.map (some u), str a8, .int .i64 a9, .bool bc], aF (aB u aD aA w) aG w a7, obj b1 49 [.slice a c.length b, .int .i64 ad, .bool af, str al], Row 71 3 a c.length b b4.flatten, p, F], [obj γ.2 27 [.int .i64 0, .int .i64 0, .slice none 0 0], Row 5 1 γ.1.1 n.1.length γ.1.2 (ao (n.1 ++ n.2)), obj a5 54 [.int .i64 a4, .int .i64 t, .int .i64 e, .int .i64 g, .slice q l.length m, .int .i64 an, .int .i64 a0, str a1, str a2, .slice a3 aa.length ab], obj b0 76 [.map (some u), str a8, .int .i64 a9, .bool bc], aF (aB u aD aA w) aG w a7, obj b1 49 [.slice a c.length b, .int .i64 ad, .bool af, str al], Row 71 3 a c.length b b4.flatten, p, F], [obj γ.2 27 [.int .i64 e, .int .i64 g, .slice γ.1.1 n.1.length γ.1.2], Row 5 1 γ.1.1 n.1.length γ.1.2 (ao (n.1 ++ n.2)), obj a5 54 [.int .i64 a4, .int .i64 t, .int .i64 e, .int .i64 g, .slice q l.length m, .int .i64 an, .int .i64 a0, str a1, str a2, .slice a3 aa.length ab], obj b0 76 [.map (some u), str a8, .int .i64 a9, .bool bc], aF (aB u aD aA w) aG w a7, obj b1 49 [.slice a c.length b, .int .i64 ad, .bool af, str al], Row 71 3 a c.length b b4.flatten, p, F]].getD j []) (fun γ => [(0, .pointer (some ⟨b0, 0, none⟩)), (1, .pointer (some ⟨b1, 0, none⟩)), (5, .pointer (some ⟨a5, 0, none⟩)), (7, .pointer (some ⟨γ.2, 0, none⟩))]) mixed (by decide) (by decide) (by decide) (by decide) (by decide) (by decide) 100 O (by decide) (by decide) (by decide) (by decide) (by decide) (by decide) (Ent.refl _) ?_ ?_ (fun _ => ⟨O, O, O, O, trivial⟩) ?_
 exact (ac (fun γ => (ac (qp O O (.o (s := 5) O (by decide) .nil) (aw O O underlying54 O O sizeOf27 O) O) (ac (qp O O (.o (s := 5) O (by decide) .nil) (aw O O underlying54 O O sizeOf27 O) O) (ac (qp O O (.o (s := 5) O (by decide) .nil) (aw O O underlying54 O O sizeOf27 O) O) (ac (qp O O (.o (s := 5) O (by decide) .nil) (aw O O underlying54 O O sizeOf27 O) O) zA))))) (ac (fun γ => (ac (qp O O (.v 0 O O .nil) (aw O O underlying27 O O sizeOf3 O) O) (ac (qp O O (.v 0 O O .nil) (aw O O underlying27 O O sizeOf3 O) O) (ac (qp O O (.v 0 O O .nil) (aw O O underlying27 O O sizeOf3 O) O) (ac (qp O O (.v 0 O O .nil) (aw O O underlying27 O O sizeOf3 O) O) zA))))) (ac (fun γ => (ac (qp O O (.v 1 O O .nil) (ai O O isAgg3 (.obj 0 O O)) O) (ac (qp O O (.v 1 O O .nil) (ai O O isAgg3 (.obj 1 O O)) O) (ac (qp O O (.v 1 O O .nil) (ai O O isAgg3 (.obj 1 O O)) O) (ac (qp O O (.v 1 O O .nil) (ai O O isAgg3 (.obj 2 O O)) O) zA))))) (ac (fun γ => (ac (qp O O (.o (s := 5) O (by decide) .nil) (aw O O underlying54 O O sizeOf27 O) O) (ac (qp O O (.o (s := 5) O (by decide) .nil) (aw O O underlying54 O O sizeOf27 O) O) (ac (qp O O (.o (s := 5) O (by decide) .nil) (aw O O underlying54 O O sizeOf27 O) O) (ac (qp O O (.o (s := 5) O (by decide) .nil) (aw O O underlying54 O O sizeOf27 O) O) zA))))) (ac (fun γ => (ac (qp O O (.v 3 O O .nil) (aw O O underlying27 O O sizeOf3 O) O) (ac (qp O O (.v 3 O O .nil) (aw O O underlying27 O O sizeOf3 O) O) (ac (qp O O (.v 3 O O .nil) (aw O O underlying27 O O sizeOf3 O) O) (ac (qp O O (.v 3 O O .nil) (aw O O underlying27 O O sizeOf3 O) O) zA))))) (ac (fun γ => (ac (qp O O (.v 4 O O .nil) (ai O O isAgg3 (.obj 0 O O)) O) (ac (qp O O (.v 4 O O .nil) (ai O O isAgg3 (.obj 1 O O)) O) (ac (qp O O (.v 4 O O .nil) (ai O O isAgg3 (.obj 1 O O)) O) (ac (qp O O (.v 4 O O .nil) (ai O O isAgg3 (.obj 2 O O)) O) zA))))) (ac (fun γ => (ac (qp O O (.o (s := 5) O (by decide) .nil) (aw O O underlying54 O O sizeOf27 O) O) (ac (qp O O (.o (s := 5) O (by decide) .nil) (aw O O underlying54 O O sizeOf27 O) O) zA))) (ac (fun γ => (ac (qp O O (.v 6 O O .nil) (aw O O underlying27 O O sizeOf25 O) O) (ac (qp O O (.v 6 O O .nil) (aw O O underlying27 O O sizeOf25 O) O) zA))) (ac (fun γ => (ac (qp O O (.v 7 O O .nil) (ai O O isAgg25 (.obj 0 O O)) O) (ac (qp O O (.v 7 O O .nil) (ai O O isAgg25 (.obj 1 O O)) O) zA))) (ac (fun γ => (ac (qp O O (.v 2 O O (.v 5 O O (.v 9 O O .nil))) (eb (v := .agg #[.int .i64 e, .int .i64 g, .slice γ.1.1 n.1.length γ.1.2]) O O (fun _ => by kernel_rfl)) O) (ac (qp O O (.v 2 O O (.v 5 O O (.v 9 O O .nil))) (eb (v := .agg #[.int .i64 e, .int .i64 g, .slice γ.1.1 n.1.length γ.1.2]) O O (fun _ => by kernel_rfl)) O) zA))) zA))))))))))
 exact (ac (fun γ => (ac (eoI (Z := Option Addr × Nat) (fun z => (z, γ.2)) O O (.v 8 O O .nil) (ar (vs := [.slice q l.length m]) (cap := []) (A := []) (rst := [obj a5 54 [.int .i64 a4, .int .i64 t, .int .i64 e, .int .i64 g, .slice q l.length m, .int .i64 an, .int .i64 a0, str a1, str a2, .slice a3 aa.length ab], obj b0 76 [.map (some u), str a8, .int .i64 a9, .bool bc], aF (aB u aD aA w) aG w a7, obj b1 49 [.slice a c.length b, .int .i64 ad, .bool af, str al], Row 71 3 a c.length b b4.flatten, p, F]) O O O O O O call50 (.sel 0 O (.sel 0 O (.sel 0 O (.sel 0 O (.sel 0 O (.sel 0 O (.sel 0 O (.nil _)))))))) (eX.calls _ _ q m l (cd.lend 6 O) b7 b8) c5) (fun _ => ⟨O, O, O, O, O, O, O, O, O, O, trivial⟩) (fun _ => .inr O) (fun z => (.sel 0 O (.sel 0 O (.sel 0 O (.sel 0 O (.sel 0 O (.sel 0 O (.sel 0 O (.sel 0 O (.nil _))))))))))) (ac (eoI (Z := Option Addr × Nat) (fun z => (z, γ.2)) O O (.v 8 O O .nil) (ar (vs := [.slice q l.length m]) (cap := []) (A := []) (rst := [obj γ.2 27 [.int .i64 0, .int .i64 0, .slice none 0 0], obj a5 54 [.int .i64 a4, .int .i64 t, .int .i64 e, .int .i64 g, .slice q l.length m, .int .i64 an, .int .i64 a0, str a1, str a2, .slice a3 aa.length ab], obj b0 76 [.map (some u), str a8, .int .i64 a9, .bool bc], aF (aB u aD aA w) aG w a7, obj b1 49 [.slice a c.length b, .int .i64 ad, .bool af, str al], Row 71 3 a c.length b b4.flatten, p, F]) O O O O O O call50 (.sel 0 O (.sel 0 O (.sel 0 O (.sel 0 O (.sel 0 O (.sel 0 O (.sel 0 O (.sel 0 O (.nil _))))))))) (eX.calls _ _ q m l (cd.lend 7 O) b7 b8) c5) (fun _ => ⟨O, O, O, O, O, O, O, O, O, O, trivial⟩) (fun _ => .inr O) (fun z => (.sel 1 O (.sel 0 O (.sel 0 O (.sel 0 O (.sel 0 O (.sel 0 O (.sel 0 O (.sel 0 O (.sel 0 O (.nil _)))))))))))) zA))) (ac (fun γ => (ac (eoI (Z := Nat) (fun z => (γ.1, z)) O O .nil (df O zeroValue27 O) (fun _ => ⟨O, O, O, O, O, O, O, O, O, O, O, trivial⟩) (fun _ => .inr O) (fun z => (.sel 0 O (.sel 0 O (.sel 0 O (.sel 0 O (.sel 0 O (.sel 0 O (.sel 0 O (.sel 0 O (.nil _))))))))))) (ac (eoI (Z := Nat) (fun z => (γ.1, z)) O O .nil (df O zeroValue27 O) (fun _ => ⟨O, O, O, O, O, O, O, O, O, O, O, trivial⟩) (fun _ => .inr O) (fun z => (.sel 0 O (.sel 0 O (.sel 0 O (.sel 0 O (.sel 0 O (.sel 0 O (.sel 0 O (.sel 0 O (.sel 0 O (.nil _)))))))))))) zA))) (aq O (fun γ => eoI (Z := Unit) (fun z => (γ.1, γ.2)) O O (.v 11 O O (.v 10 O O .nil)) (aV 0 O O O sizeOf27 O O (aY (by rfl)) O O) (fun _ => ⟨O, O, O, O, O, O, O, O, O, O, O, O, trivial⟩) (fun _ => .inl O) (fun z => (.sel 0 O (.sel 0 O (.sel 0 O (.sel 0 O (.sel 0 O (.sel 0 O (.sel 0 O (.sel 0 O (.sel 0 O (.nil _)))))))))))) zA)))
 intro d
 refine ae (sr ?_)
 refine vm O O ?_
 refine vq (du 0 O O isAgg27 sizeOf27 O O) O ?_
 refine am (fun h c8 => ?_)
 refine bf 1 O (fun c9 dl ds es => ?_)
 refine ah (ar (vs := [.pointer (some ⟨b0, 0, none⟩), .agg #[.int .i64 e, .int .i64 g, .slice d.1.1 n.1.length d.1.2]]) (cap := []) (A := [obj b0 76 [.map (some u), str a8, .int .i64 a9, .bool bc], aF (aB u aD aA w) aG w a7]) (rst := [obj d.2 27 [.int .i64 e, .int .i64 g, .slice d.1.1 n.1.length d.1.2], Row 5 1 d.1.1 n.1.length d.1.2 (ao (n.1 ++ n.2)), obj a5 54 [.int .i64 a4, .int .i64 t, .int .i64 e, .int .i64 g, .slice q l.length m, .int .i64 an, .int .i64 a0, str a1, str a2, .slice a3 aa.length ab], obj b1 49 [.slice a c.length b, .int .i64 ad, .bool af, str al], Row 71 3 a c.length b b4.flatten, p, F]) O O O O O O call10 (.sel 3 O (.sel 3 O (.sel 0 O (.sel 0 O (.sel 0 O (.sel 0 O (.sel 0 O (.sel 0 O (.sel 0 O (.nil _)))))))))) (fX.calls _ _ k b0 u w a7 a8 a9 bc e g d.1.1 d.1.2 n.1 ((oq c9).lend 1 O) dl ds (hgl.lend 6 O)) c8) O O O ?_
 intro x
 refine va O O (nx ?_)
 refine vq (aw O O underlying27 O O sizeOf25 O) O ?_
 refine vq (ai O O isAgg25 (.obj 2 O O)) O ?_
 refine vq (aw O O underlying54 O O sizeOf27 O) O ?_
 refine vq (aw O O underlying27 O O sizeOf25 O) O ?_
 refine vq (ai O O isAgg25 (.obj 4 O O)) O ?_
 refine am (fun ch d1 => ?_)
 refine pe 3 O (fun d2 c3 d3 => ?_)
 refine ah (ar (vs := [.slice d.1.1 n.1.length d.1.2, .slice q l.length m]) (cap := []) (A := []) (rst := [obj b0 76 [.map (some x.1), str h.2.2.1, .int .i64 h.2.2.2.1, .bool h.2.2.2.2], aF (aB x.1 aD aA x.2) aG x.2 h.2.1, obj d.2 27 [.int .i64 e, .int .i64 g, .slice d.1.1 n.1.length d.1.2], Row 5 1 d.1.1 n.1.length d.1.2 (ao (n.1 ++ n.2)), obj a5 54 [.int .i64 a4, .int .i64 t, .int .i64 e, .int .i64 g, .slice q l.length m, .int .i64 an, .int .i64 a0, str a1, str a2, .slice a3 aa.length ab], obj b1 49 [.slice a c.length b, .int .i64 ad, .bool af, str al], Row 71 3 a c.length b b4.flatten, p, F]) O O O O O O call51 (.sel 0 O (.sel 0 O (.sel 0 O (.sel 0 O (.sel 0 O (.sel 0 O (.sel 0 O (.sel 0 O (.sel 0 O (.nil _)))))))))) (fu.calls _ _ k d.1.1 d.1.2 n.1 n.2 q m l (d2.lend 3 O) (by rw [bT, Nat.mul_one] at c3; exact c3) d3 (cd.lend 8 O) b7 b8) d1) O O O ?_
 intro eF
 refine va O O (ag (ae ?_))
 refine bO (S := Bool × (List (ba)) × Int × Bool × List UInt8) (HA × Option Addr × Nat) (fun s y => [(6, .bool s.1)]) (fun s y => [obj b1 49 [.slice y.2.1 s.2.1.length y.2.2, .int .i64 s.2.2.1, .bool s.2.2.2.1, str s.2.2.2.2], obj b0 76 [.map (some x.1), str h.2.2.1, .int .i64 h.2.2.2.1, .bool h.2.2.2.2], aC 71 3 (V71 (y.1)) y.2.1 s.2.1 y.2.2, aF (aB x.1 aD aA x.2) aG x.2 h.2.1, y.1, F]) ?_ ?_
 refine iq (fun a6 => ?_) (fun a6 => ?_)
 refine cu (fun be d4 => ?_)
 refine bp (Γ := (Option Addr × Nat × HA)) (none, 0, tt) [[], [0], [0, 1], [0, 1, 2], [0, 1], [0, 1], [0, 1, 5], rL 7, rL 8, rL 9, rL 10] [7] [0, 1, 2, 3, 4, 5, 6, 8, 9, 10] (fun i => [[0], [0], [0], [0], [0], [0], [0], [], [1], [1], [1]].getD i []) (fun i => [[], [], [], [], [], [], [], rL 7, [], [], []].getD i []) (fun γ i => [.bool ch, .bool ch, .int .i64 h.1, .int .i64 (aH.v h.1), .pointer (some ⟨b1, 0, none⟩), .pointer (some ⟨a5, 2, none⟩), .agg #[.int .i64 e, .int .i64 g, .slice q l.length m], .int .i64 be.1, .bool (decide ((aH.v h.1) = be.1)), .bool (decide ((aH.v h.1) = be.1)), .bool (decide ((aH.v h.1) = be.1))].getD i undef) (fun j γ => [[obj b0 76 [.map (some x.1), str h.2.2.1, .int .i64 h.2.2.2.1, .bool h.2.2.2.2], aF (aB x.1 aD aA x.2) aG x.2 h.2.1, obj d.2 27 [.int .i64 e, .int .i64 g, .slice d.1.1 n.1.length d.1.2], Row 5 1 d.1.1 n.1.length d.1.2 (ao (n.1 ++ n.2)), obj a5 54 [.int .i64 a4, .int .i64 t, .int .i64 e, .int .i64 g, .slice q l.length m, .int .i64 an, .int .i64 a0, str a1, str a2, .slice a3 aa.length ab], obj b1 49 [.slice a c.length b, .int .i64 ad, .bool af, str al], Row 71 3 a c.length b b4.flatten, p, F], [obj b1 49 [.slice γ.1 be.2.1.length γ.2.1, .int .i64 be.2.2.1, .bool be.2.2.2.1, str be.2.2.2.2], aC 71 3 (V71 (γ.2.2)) γ.1 be.2.1 γ.2.1, γ.2.2, obj b0 76 [.map (some x.1), str h.2.2.1, .int .i64 h.2.2.2.1, .bool h.2.2.2.2], aF (aB x.1 aD aA x.2) aG x.2 h.2.1, obj d.2 27 [.int .i64 e, .int .i64 g, .slice d.1.1 n.1.length d.1.2], Row 5 1 d.1.1 n.1.length d.1.2 (ao (n.1 ++ n.2)), obj a5 54 [.int .i64 a4, .int .i64 t, .int .i64 e, .int .i64 g, .slice q l.length m, .int .i64 an, .int .i64 a0, str a1, str a2, .slice a3 aa.length ab], F]].getD j []) (fun γ => [(6, .bool (decide ((aH.v h.1) = be.1)))]) mixed (by decide) (by decide) (by decide) (by decide) (by decide) (by decide) (by decide) 100 O (by decide) (by decide) (by decide) (Ent.refl _) ?_ ?_ (fun _ => ⟨O, trivial⟩) ?_
 exact (aq O (fun γ => qm O (.o (s := 9) O (by decide) .nil) O) (aq O (fun γ => qm O (.v 0 O O .nil) O) (aq O (fun γ => qy O O (.o (s := 8) O (by decide) (.v 1 O O .nil)) O O (dH a6) (aS O O) O) (aq O (fun γ => qy O O (.v 1 O O (.v 2 O O .nil)) O O (dH a6) (RE.rq (ar (vs := [.int .i64 h.1]) (cap := []) (A := []) (rst := [obj b0 76 [.map (some x.1), str h.2.2.1, .int .i64 h.2.2.2.1, .bool h.2.2.2.2], aF (aB x.1 aD aA x.2) aG x.2 h.2.1, obj d.2 27 [.int .i64 e, .int .i64 g, .slice d.1.1 n.1.length d.1.2], Row 5 1 d.1.1 n.1.length d.1.2 (ao (n.1 ++ n.2)), obj a5 54 [.int .i64 a4, .int .i64 t, .int .i64 e, .int .i64 g, .slice q l.length m, .int .i64 an, .int .i64 a0, str a1, str a2, .slice a3 aa.length ab], obj b1 49 [.slice a c.length b, .int .i64 ad, .bool af, str al], Row 71 3 a c.length b b4.flatten, p, F]) O O O O O O call12 (.sel 0 O (.sel 0 O (.sel 0 O (.sel 0 O (.sel 0 O (.sel 0 O (.sel 0 O (.sel 0 O (.sel 0 O (.nil _)))))))))) (aH.calls _ _ h.1 ) (aH.tot h.1)) (fun _ => O) (fun _ => (.sel 0 O (.sel 0 O (.sel 0 O (.sel 0 O (.sel 0 O (.sel 0 O (.sel 0 O (.sel 0 O (.sel 0 O (.nil _)))))))))))) O) (aq O (fun γ => qy O O (.o (s := 1) O (by decide) (.v 1 O O .nil)) O O (dH a6) (aS O O) O) (aq O (fun γ => qy O O (.o (s := 5) O (by decide) (.v 1 O O .nil)) O O (dH a6) (aw O O underlying54 O O sizeOf27 O) O) (aq O (fun γ => qy O O (.v 1 O O (.v 5 O O .nil)) O O (dH a6) (lL (vs := [.int .i64 e, .int .i64 g, .slice q l.length m]) O O isAgg27 sizeOf27 O (qo 4 O (qq O))) O) (aq O (fun γ => qy O O (.v 1 O O (.v 3 O O (.v 7 O O .nil))) O O (dH a6) (bD O O O) O) (aq O (fun γ => qp O O (.v 1 O O (.v 8 O O .nil)) (bL O O O O (lM a6 _ _)) O) (aq O (fun γ => qp O O (.v 9 O O .nil) (dA O O) O) zA))))))))))
 exact (ac (fun γ => ey (Z := Option Addr × Nat × HA) (fun z => z) O O (.v 1 O O (.v 4 O O (.v 6 O O .nil))) O O (dH a6) (ar (vs := [.pointer (some ⟨b1, 0, none⟩), .agg #[.int .i64 e, .int .i64 g, .slice q l.length m]]) (cap := []) (A := [obj b1 49 [.slice a c.length b, .int .i64 ad, .bool af, str al], aC 71 3 (V71 p) a c b, p]) (rst := [obj b0 76 [.map (some x.1), str h.2.2.1, .int .i64 h.2.2.2.1, .bool h.2.2.2.2], aF (aB x.1 aD aA x.2) aG x.2 h.2.1, obj d.2 27 [.int .i64 e, .int .i64 g, .slice d.1.1 n.1.length d.1.2], Row 5 1 d.1.1 n.1.length d.1.2 (ao (n.1 ++ n.2)), obj a5 54 [.int .i64 a4, .int .i64 t, .int .i64 e, .int .i64 g, .slice q l.length m, .int .i64 an, .int .i64 a0, str a1, str a2, .slice a3 aa.length ab], F]) O O O O O O call52 (.sel 5 O (.sel' 5 O (aC.mk c4) (.sel 5 O (.sel 0 O (.sel 0 O (.sel 0 O (.sel 0 O (.sel 0 O (.sel 0 O (.nil _)))))))))) (fC.calls _ _ k b1 a b c p ad af al e g q m l (cd.lend 5 O) b7 b8) d4) (fun _ => ⟨O, O, O, O, O, O, O, trivial⟩) (fun _ => .inr O) (fun z => Ent.refl _)) zA)
 intro c0
 exact aM (s := (decide ((aH.v h.1) = be.1), be.2.1, be.2.2.1, be.2.2.2.1, be.2.2.2.2)) (c0.2.2, c0.1, c0.2.1) ⟨O, trivial⟩ (.sel 0 O (.sel 2 O (.sel 0 O (.sel 1 O (.sel 0 O (.sel 3 O (.nil _)))))))
 refine bp (Γ := Unit) () [[], [0], [0, 1], [0, 1, 2], [0, 1], [0, 1], [0, 1, 5], rL 7, rL 8, rL 9, rL 10] [] [0, 1, 2, 3, 4, 5, 6, 7, 8, 9, 10] (fun i => [[0], [0], [0], [0], [0], [0], [0], [0], [0], [0], [0]].getD i []) (fun i => [[], [], [], [], [], [], [], [], [], [], []].getD i []) (fun γ i => [.bool ch, .bool ch, undef, undef, undef, undef, undef, undef, undef, .bool false, .bool false].getD i undef) (fun j γ => [[obj b0 76 [.map (some x.1), str h.2.2.1, .int .i64 h.2.2.2.1, .bool h.2.2.2.2], aF (aB x.1 aD aA x.2) aG x.2 h.2.1, obj d.2 27 [.int .i64 e, .int .i64 g, .slice d.1.1 n.1.length d.1.2], Row 5 1 d.1.1 n.1.length d.1.2 (ao (n.1 ++ n.2)), obj a5 54 [.int .i64 a4, .int .i64 t, .int .i64 e, .int .i64 g, .slice q l.length m, .int .i64 an, .int .i64 a0, str a1, str a2, .slice a3 aa.length ab], obj b1 49 [.slice a c.length b, .int .i64 ad, .bool af, str al], Row 71 3 a c.length b b4.flatten, p, F]].getD j []) (fun γ => [(6, .bool false)]) mixed (by decide) (by decide) (by decide) (by decide) (by decide) (by decide) (by decide) 100 O (by decide) (by decide) (by decide) (Ent.refl _) ?_ ?_ (fun _ => ⟨O, trivial⟩) ?_
 exact (aq O (fun γ => qm O (.o (s := 9) O (by decide) .nil) O) (aq O (fun γ => qm O (.v 0 O O .nil) O) (aq O (fun γ => qn O O (.o (s := 8) O (by decide) (.v 1 O O .nil)) O O (dI (eq_false_of_ne_true a6)) O) (aq O (fun γ => qn O O (.v 1 O O (.v 2 O O .nil)) O O (dI (eq_false_of_ne_true a6)) O) (aq O (fun γ => qn O O (.o (s := 1) O (by decide) (.v 1 O O .nil)) O O (dI (eq_false_of_ne_true a6)) O) (aq O (fun γ => qn O O (.o (s := 5) O (by decide) (.v 1 O O .nil)) O O (dI (eq_false_of_ne_true a6)) O) (aq O (fun γ => qn O O (.v 1 O O (.v 5 O O .nil)) O O (dI (eq_false_of_ne_true a6)) O) (aq O (fun γ => qn O O (.v 1 O O (.v 4 O O (.v 6 O O .nil))) O O (dI (eq_false_of_ne_true a6)) O) (aq O (fun γ => qn O O (.v 1 O O (.v 3 O O (.v 7 O O .nil))) O O (dI (eq_false_of_ne_true a6)) O) (aq O (fun γ => qp O O (.v 1 O O (.v 8 O O .nil)) (bL O O O O (lN (eq_false_of_ne_true a6) _ _)) O) (aq O (fun γ => qp O O (.v 9 O O .nil) (dA O O) O) zA)))))))))))
 exact zA
 intro e0
 exact aM (s := (false, c, ad, af, al)) (p, a, b) ⟨O, trivial⟩ (.sel 5 O (.sel 0 O (.sel' 4 O (aC.mk c4) (.sel 0 O (.sel 3 O (.sel 3 O (.nil _)))))))
 intro e1 c1
 refine ak ?_
 refine aP ?_
 refine ax ?_
 exact av (x.1, x.2, c1.2.1, c1.2.2, c1.1) O O O (.sel 1 O (.sel 2 O (.sel 0 O (.sel 0 O (.sel 0 O (.sel 0 O (.nil _)))))))
 refine sr ?_
 refine vq (bD O O O) O ?_
 refine va O O (ag (ae ?_))
 refine aL O (fun e2 => ?_) (fun e3 => ?_)
 refine sr ?_
 refine vm O O ?_
 refine vq (aw O O underlying54 O O sizeOf3 O) O ?_
 refine vq (ai O O isAgg3 (.obj 0 O O)) O ?_
 refine am (fun b2 d5 => ?_)
 refine ah (ar (vs := [.pointer (some ⟨b0, 0, none⟩), .int .i64 t]) (cap := []) (A := [obj b0 76 [.map (some u), str a8, .int .i64 a9, .bool bc], aF (aB u aD aA w) aG w a7]) (rst := [obj a5 54 [.int .i64 a4, .int .i64 t, .int .i64 e, .int .i64 g, .slice q l.length m, .int .i64 an, .int .i64 a0, str a1, str a2, .slice a3 aa.length ab], obj b1 49 [.slice a c.length b, .int .i64 ad, .bool af, str al], aC 71 3 (V71 p) a c b, p, F]) O O O O O O call16 (.sel 1 O (.sel 1 O (.sel 0 O (.sel 0 O (.sel 0 O (.sel 0 O (.sel 0 O (.nil _)))))))) (eV.calls _ _ k b0 u w a7 a8 a9 bc t (hgl.lend 4 O)) d5) O O O ?_
 intro b3
 refine vm O O ?_
 refine vq (bh O O O) O ?_
 refine vq (bh O O O) O ?_
 refine va O O ?_
 refine va O O (nx ?_)
 refine vm O O ?_
 refine vq (aw O O underlying54 O O sizeOf3 O) O ?_
 refine vq (ai O O isAgg3 (.obj 2 O O)) O ?_
 refine bd 4 O (fun et d6 => ?_)
 refine am (fun b5 d7 => ?_)
 refine ah (ar (vs := [.pointer (some ⟨b1, 0, none⟩), .int .i64 t]) (cap := []) (A := [obj b1 49 [.slice a c.length b, .int .i64 ad, .bool af, str al], aC 71 3 (V71 p) a c b, p]) (rst := [obj b0 76 [.map (some b3.1), str b2.2.2.2.1, .int .i64 b2.2.2.2.2.1, .bool b2.2.2.2.2.2], aF (aB b3.1 aD aA b3.2) aG b3.2 b2.2.2.1, obj a5 54 [.int .i64 a4, .int .i64 t, .int .i64 e, .int .i64 g, .slice q l.length m, .int .i64 an, .int .i64 a0, str a1, str a2, .slice a3 aa.length ab], F]) O O O O O O call53 (.sel 3 O (.sel' 3 O (aC.mk d6) (.sel 3 O (.sel 0 O (.sel 0 O (.sel 0 O (.sel 0 O (.nil _)))))))) (cM.calls _ _ k b1 a b c p ad af al t ) d7) O O O ?_
 intro bs
 refine vm O O ?_
 refine vq (bh O O O) O ?_
 refine vq (bh O O O) O ?_
 refine va O O ?_
 refine va O O (nx ?_)
 refine vm O O ?_
 refine vm O O ?_
 refine vq (bD O O O) O ?_
 refine vm O O ?_
 refine dk 5 (S := Bool) (Unit) (fun s y => [(72, .bool s)]) (fun s y => [obj b1 49 [.slice bs.1 b5.2.2.1.length bs.2.1, .int .i64 b5.2.2.2.1, .bool b5.2.2.2.2.1, str b5.2.2.2.2.2], obj b0 76 [.map (some b3.1), str b2.2.2.2.1, .int .i64 b2.2.2.2.2.1, .bool b2.2.2.2.2.2], aC 71 3 (V71 (bs.2.2)) bs.1 b5.2.2.1 bs.2.1, aF (aB b3.1 aD aA b3.2) aG b3.2 b2.2.2.1, bs.2.2, F]) ?_ ?_
 refine iH (fun d8 => ?_) (fun d9 => ?_)
 rw [d8]
 refine aO (aS O O) O O O O O O ?_
 refine am (fun er ec => ?_)
 refine fk (ar (vs := [.int .i64 b2.2.1]) (cap := []) (A := []) (rst := [obj b1 49 [.slice bs.1 b5.2.2.1.length bs.2.1, .int .i64 b5.2.2.2.1, .bool b5.2.2.2.2.1, str b5.2.2.2.2.2], aC 71 3 (V71 (bs.2.2)) bs.1 b5.2.2.1 bs.2.1, bs.2.2, obj b0 76 [.map (some b3.1), str b2.2.2.2.1, .int .i64 b2.2.2.2.2.1, .bool b2.2.2.2.2.2], aF (aB b3.1 aD aA b3.2) aG b3.2 b2.2.2.1, obj a5 54 [.int .i64 a4, .int .i64 t, .int .i64 e, .int .i64 g, .slice q l.length m, .int .i64 an, .int .i64 a0, str a1, str a2, .slice a3 aa.length ab], F]) O O O O O O call12 (.sel 0 O (.sel 0 O (.sel 0 O (.sel 0 O (.sel 0 O (.sel 0 O (.sel 0 O (.nil _)))))))) (aH.calls _ _ b2.2.1 ) ec) O O O O O O ?_
 intro e4
 refine aO (aS O O) O O O O O O ?_
 refine aO (bD O O O) O O O O O O ?_
 refine vq (bL O O O O O) O (ag ?_)
 exact aM (s := decide (er = b5.2.1)) () ⟨O, trivial⟩ (.sel 0 O (.sel 2 O (.sel 0 O (.sel 1 O (.sel 0 O (.sel 1 O (.nil _)))))))
 rw [d9]
 refine aI O O O O O O ?_
 refine aI O O O O O O ?_
 refine aI O O O O O O ?_
 refine aI O O O O O O ?_
 refine vq (bL O O O O O) O (ag ?_)
 exact aM (s := false) () ⟨O, trivial⟩ (.sel 0 O (.sel 2 O (.sel 0 O (.sel 1 O (.sel 0 O (.sel 1 O (.nil _)))))))
 intro e5 e6
 refine va O O (ag (ae (ak ?_)))
 refine aP ?_
 refine ax ?_
 exact av (b3.1, b3.2, bs.1, bs.2.1, bs.2.2) O O O (.sel 1 O (.sel 2 O (.sel 0 O (.sel 0 O (.sel 0 O (.sel 0 O (.nil _)))))))
 refine sr ?_
 refine vq (bD O O O) O ?_
 refine va O O (ag (ae ?_))
 refine aL O (fun e7 => ?_) (fun e8 => ?_)
 refine sr ?_
 refine vm O O ?_
 refine vq (aw O O underlying54 O O sizeOf3 O) O ?_
 refine vq (ai O O isAgg3 (.obj 0 O O)) O ?_
 refine am (fun e9 ed => ?_)
 refine ah (ar (vs := [.pointer (some ⟨b0, 0, none⟩), .int .i64 t]) (cap := []) (A := [obj b0 76 [.map (some u), str a8, .int .i64 a9, .bool bc], aF (aB u aD aA w) aG w a7]) (rst := [obj a5 54 [.int .i64 a4, .int .i64 t, .int .i64 e, .int .i64 g, .slice q l.length m, .int .i64 an, .int .i64 a0, str a1, str a2, .slice a3 aa.length ab], obj b1 49 [.slice a c.length b, .int .i64 ad, .bool af, str al], aC 71 3 (V71 p) a c b, p, F]) O O O O O O call27 (.sel 1 O (.sel 1 O (.sel 0 O (.sel 0 O (.sel 0 O (.sel 0 O (.sel 0 O (.nil _)))))))) (gA.calls _ _ b0 u w a7 a8 a9 bc t ) ed) O O O ?_
 intro fn
 refine nx ?_
 refine vm O O ?_
 refine vq (aw O O underlying54 O O sizeOf3 O) O ?_
 refine vq (ai O O isAgg3 (.obj 2 O O)) O ?_
 refine vq (kM O O O) O ?_
 refine vn O O ?_
 refine vq (aw O O underlying49 O O sizeOf3 O) O ?_
 refine aX (aV 3 O O O sizeOf3 O O (aY (by rfl)) O O) O O ?_
 intro _
 refine nx ?_
 refine va O O (ag (ae (ak ?_)))
 refine aP ?_
 refine ax ?_
 exact av (u, w, a, b, p) O O O (.sel 0 O (.sel 0 O (.sel 1 O (.sel 1 O (.sel 1 O (.sel 1 O (.nil _)))))))
 refine sr ?_
 refine vq (bD O O O) O ?_
 refine va O O (ag (ae ?_))
 refine aL O (fun fp => ?_) (fun fs => ?_)
 refine sr ?_
 refine vm O O ?_
 refine vq (aw O O underlying54 O O sizeOf3 O) O ?_
 refine vq (ai O O isAgg3 (.obj 0 O O)) O ?_
 refine am (fun cs ef => ?_)
 refine ah (ar (vs := [.pointer (some ⟨b0, 0, none⟩), .int .i64 t]) (cap := []) (A := [obj b0 76 [.map (some u), str a8, .int .i64 a9, .bool bc], aF (aB u aD aA w) aG w a7]) (rst := [obj a5 54 [.int .i64 a4, .int .i64 t, .int .i64 e, .int .i64 g, .slice q l.length m, .int .i64 an, .int .i64 a0, str a1, str a2, .slice a3 aa.length ab], obj b1 49 [.slice a c.length b, .int .i64 ad, .bool af, str al], aC 71 3 (V71 p) a c b, p, F]) O O O O O O call28 (.sel 1 O (.sel 1 O (.sel 0 O (.sel 0 O (.sel 0 O (.sel 0 O (.sel 0 O (.nil _)))))))) (eJ.calls _ _ b0 u w a7 a8 a9 bc t ) ef) O O O ?_
 intro b6
 refine nx ?_
 refine vm O O ?_
 refine vq (aw O O underlying54 O O sizeOf3 O) O ?_
 refine vq (ai O O isAgg3 (.obj 2 O O)) O ?_
 refine bd 4 O (fun ez eg => ?_)
 refine am (fun fw ek => ?_)
 refine ah (ar (vs := [.pointer (some ⟨b1, 0, none⟩), .int .i64 t]) (cap := []) (A := [obj b1 49 [.slice a c.length b, .int .i64 ad, .bool af, str al], aC 71 3 (V71 p) a c b, p]) (rst := [obj b0 76 [.map (some b6.1), str cs.2.1, .int .i64 cs.2.2.1, .bool cs.2.2.2], aF (aB b6.1 aD aA b6.2) aG b6.2 cs.1, obj a5 54 [.int .i64 a4, .int .i64 t, .int .i64 e, .int .i64 g, .slice q l.length m, .int .i64 an, .int .i64 a0, str a1, str a2, .slice a3 aa.length ab], F]) O O O O O O call54 (.sel 3 O (.sel' 3 O (aC.mk eg) (.sel 3 O (.sel 0 O (.sel 0 O (.sel 0 O (.sel 0 O (.nil _)))))))) (bz.calls _ _ k b1 a b c p ad af al t ) ek) O O O ?_
 intro c2
 refine nx ?_
 refine va O O (ag (ae (ak ?_)))
 refine aP ?_
 refine ax ?_
 exact av (b6.1, b6.2, c2.1, c2.2.1, c2.2.2) O O O (.sel 3 O (.sel 3 O (.sel 0 O (.sel 0 O (.sel 0 O (.sel 1 O (.nil _)))))))
 refine au ?_
 refine bb (ae (sr ?_))
 refine vm O O ?_
 refine vm O O ?_
 refine vq (aw O O underlying54 O O sizeOf52 O) O ?_
 refine vq (lL (vs := [.int .i64 an, .int .i64 a0, str a1, str a2, .slice a3 aa.length ab]) O O isAgg52 sizeOf52 O (qo 0 O (qq O))) O ?_
 refine bd 4 O (fun eA em => ?_)
 refine am (fun fz en => ?_)
 refine ah (ar (vs := [.pointer (some ⟨b0, 0, none⟩), .pointer (some ⟨b1, 0, none⟩), .agg #[.int .i64 an, .int .i64 a0, str a1, str a2, .slice a3 aa.length ab]]) (cap := []) (A := [obj b0 76 [.map (some u), str a8, .int .i64 a9, .bool bc], aF (aB u aD aA w) aG w a7, obj b1 49 [.slice a c.length b, .int .i64 ad, .bool af, str al], aC 71 3 (V71 p) a c b, p]) (rst := [obj a5 54 [.int .i64 a4, .int .i64 t, .int .i64 e, .int .i64 g, .slice q l.length m, .int .i64 an, .int .i64 a0, str a1, str a2, .slice a3 aa.length ab], F]) O O O O O O call55 (.sel 1 O (.sel 1 O (.sel 1 O (.sel' 1 O (aC.mk em) (.sel 1 O (.sel 0 O (.sel 0 O (.nil _)))))))) (bF.calls _ _ k b0 u w a7 a8 a9 bc b1 a b c p ad af al an a0 a1 a2 a3 ab aa (ep.lend 1 O) c6 c7) en) O O O ?_
 intro b9
 refine va O O (ag (ae (ak ?_)))
 exact av (b9.1, b9.2.1, b9.2.2.1, b9.2.2.2.1, b9.2.2.2.2) O O O (.sel 0 O (.sel 0 O (.sel 0 O (.sel 0 O (.sel 0 O (.sel 1 O (.nil _)))))))

def eK.f (x0 : List UInt8) : Option (Int) := if 0 ≤ (0 : Int) ∧ (0 : Int) < (x0.length : Int) then (if 0 ≤ (1 : Int) ∧ (1 : Int) < (x0.length : Int) then (if 0 ≤ (2 : Int) ∧ (2 : Int) < (x0.length : Int) then (if 0 ≤ (3 : Int) ∧ (3 : Int) < (x0.length : Int) then (some (IntKind.i64.wrap ((IntKind.i64.wrap ((IntKind.i64.wrap ((IntKind.i64.wrap ((x0.getD (0 : Int).toNat 0).toNat : Int)) + (IntKind.i64.wrap (256 * (IntKind.i64.wrap ((x0.getD (1 : Int).toNat 0).toNat : Int)))))) + (IntKind.i64.wrap (65536 * (IntKind.i64.wrap ((x0.getD (2 : Int).toNat 0).toNat : Int)))))) + (IntKind.i64.wrap (16777216 * (IntKind.i64.wrap ((x0.getD (3 : Int).toNat 0).toNat : Int))))))) else none) else none) else none) else none
theorem eK.calls (W : World) (F : HA) (a0 : Option Addr) (c0 : Nat) (x0 : List UInt8) (h0 : Rd F a0 (ao x0)) (z : x0.length ≤ c0) (aa : c0 ≤ maxLen) :
    Fn Tryz.prog W 146 [.slice a0 x0.length c0] [] F (eK.f x0) (fun (r : Int) (y : Unit) => .int .i64 r) (fun r y => []) := by
 unfold eK.f
 refine aJ 25 Tryz.func146 O Tryz.ntmps146 O ?_
 refine sr ?_
 refine va O O (ag (ae (ap ?_)))
 refine bv (fun d => ?_)
 obtain ⟨u, n, e⟩ := h0.pos (fc (j := (0 : Int).toNat) (by omega))
 refine bv (fun g => ?_)
 obtain ⟨w, p, h⟩ := h0.pos (fc (j := (1 : Int).toNat) (by omega))
 refine bv (fun k => ?_)
 obtain ⟨q, l, a⟩ := h0.pos (fc (j := (2 : Int).toNat) (by omega))
 refine bv (fun b => ?_)
 obtain ⟨t, m, c⟩ := h0.pos (fc (j := (3 : Int).toNat) (by omega))
 refine bp (Γ := Unit) () [[], [0], [0, 1], [0, 1, 2], [], [4], [4, 5], [4, 5, 6], [4, 5, 6, 7], rL 9, [], [10], [10, 11], [10, 11, 12], [10, 11, 12, 13], rL 15, [], [16], [16, 17], [16, 17, 18], [16, 17, 18, 19], rL 21, rL 22] [] [0, 1, 2, 3, 4, 5, 6, 7, 8, 9, 10, 11, 12, 13, 14, 15, 16, 17, 18, 19, 20, 21, 22] (fun i => [[0], [0], [0], [0], [0], [0], [0], [0], [0], [0], [0], [0], [0], [0], [0], [0], [0], [0], [0], [0], [0], [0], [0]].getD i []) (fun i => [[], [], [], [], [], [], [], [], [], [], [], [], [], [], [], [], [], [], [], [], [], [], []].getD i []) (fun γ i => [.slice a0 x0.length c0, .pointer (some ⟨u, n + (0 : Int).toNat, none⟩), .int .u8 ((x0.getD (0 : Int).toNat 0).toNat : Int), .int .i64 (IntKind.i64.wrap ((x0.getD (0 : Int).toNat 0).toNat : Int)), .slice a0 x0.length c0, .pointer (some ⟨w, p + (1 : Int).toNat, none⟩), .int .u8 ((x0.getD (1 : Int).toNat 0).toNat : Int), .int .i64 (IntKind.i64.wrap ((x0.getD (1 : Int).toNat 0).toNat : Int)), .int .i64 (IntKind.i64.wrap (256 * (IntKind.i64.wrap ((x0.getD (1 : Int).toNat 0).toNat : Int)))), .int .i64 (IntKind.i64.wrap ((IntKind.i64.wrap ((x0.getD (0 : Int).toNat 0).toNat : Int)) + (IntKind.i64.wrap (256 * (IntKind.i64.wrap ((x0.getD (1 : Int).toNat 0).toNat : Int)))))), .slice a0 x0.length c0, .pointer (some ⟨q, l + (2 : Int).toNat, none⟩), .int .u8 ((x0.getD (2 : Int).toNat 0).toNat : Int), .int .i64 (IntKind.i64.wrap ((x0.getD (2 : Int).toNat 0).toNat : Int)), .int .i64 (IntKind.i64.wrap (65536 * (IntKind.i64.wrap ((x0.getD (2 : Int).toNat 0).toNat : Int)))), .int .i64 (IntKind.i64.wrap ((IntKind.i64.wrap ((IntKind.i64.wrap ((x0.getD (0 : Int).toNat 0).toNat : Int)) + (IntKind.i64.wrap (256 * (IntKind.i64.wrap ((x0.getD (1 : Int).toNat 0).toNat : Int)))))) + (IntKind.i64.wrap (65536 * (IntKind.i64.wrap ((x0.getD (2 : Int).toNat 0).toNat : Int)))))), .slice a0 x0.length c0, .pointer (some ⟨t, m + (3 : Int).toNat, none⟩), .int .u8 ((x0.getD (3 : Int).toNat 0).toNat : Int), .int .i64 (IntKind.i64.wrap ((x0.getD (3 : Int).toNat 0).toNat : Int)), .int .i64 (IntKind.i64.wrap (16777216 * (IntKind.i64.wrap ((x0.getD (3 : Int).toNat 0).toNat : Int)))), .int .i64 (IntKind.i64.wrap ((IntKind.i64.wrap ((IntKind.i64.wrap ((IntKind.i64.wrap ((x0.getD (0 : Int).toNat 0).toNat : Int)) + (IntKind.i64.wrap (256 * (IntKind.i64.wrap ((x0.getD (1 : Int).toNat 0).toNat : Int)))))) + (IntKind.i64.wrap (65536 * (IntKind.i64.wrap ((x0.getD (2 : Int).toNat 0).toNat : Int)))))) + (IntKind.i64.wrap (16777216 * (IntKind.i64.wrap ((x0.getD (3 : Int).toNat 0).toNat : Int)))))), .int .i64 (IntKind.i64.wrap ((IntKind.i64.wrap ((IntKind.i64.wrap ((IntKind.i64.wrap ((x0.getD (0 : Int).toNat 0).toNat : Int)) + (IntKind.i64.wrap (256 * (IntKind.i64.wrap ((x0.getD (1 : Int).toNat 0).toNat : Int)))))) + (IntKind.i64.wrap (65536 * (IntKind.i64.wrap ((x0.getD (2 : Int).toNat 0).toNat : Int)))))) + (IntKind.i64.wrap (16777216 * (IntKind.i64.wrap ((x0.getD (3 : Int).toNat 0).toNat : Int))))))].getD i undef) (fun j γ => [[F]].getD j []) (fun γ => [(2, .int .i64 (IntKind.i64.wrap ((IntKind.i64.wrap ((IntKind.i64.wrap ((IntKind.i64.wrap ((x0.getD (0 : Int).toNat 0).toNat : Int)) + (IntKind.i64.wrap (256 * (IntKind.i64.wrap ((x0.getD (1 : Int).toNat 0).toNat : Int)))))) + (IntKind.i64.wrap (65536 * (IntKind.i64.wrap ((x0.getD (2 : Int).toNat 0).toNat : Int)))))) + (IntKind.i64.wrap (16777216 * (IntKind.i64.wrap ((x0.getD (3 : Int).toNat 0).toNat : Int)))))))]) mixed (by decide) (by decide) (by decide) (by decide) (by decide) (by decide) (by decide) 25 O (by decide) (by decide) (by decide) (Ent.refl _) ?_ ?_ (fun _ => ⟨O, trivial⟩) ?_
 exact (aq O (fun γ => qm O (.o (s := 0) O (by decide) .nil) O) (aq O (fun γ => qp O O (.v 0 O O .nil) (el O O O e underlying25 sizeOf5 d.1 d.2) O) (aq O (fun γ => qp O O (.v 1 O O .nil) (ai O O isAgg5 (h0.cell 0 O e (eQ (by omega)))) O) (aq O (fun γ => qp O O (.v 2 O O .nil) (dy O O underlying5 underlying3) O) (aq O (fun γ => qm O (.o (s := 0) O (by decide) .nil) O) (aq O (fun γ => qp O O (.v 4 O O .nil) (el O O O h underlying25 sizeOf5 g.1 g.2) O) (aq O (fun γ => qp O O (.v 5 O O .nil) (ai O O isAgg5 (h0.cell 0 O h (eQ (by omega)))) O) (aq O (fun γ => qp O O (.v 6 O O .nil) (dy O O underlying5 underlying3) O) (aq O (fun γ => qp O O (.v 7 O O .nil) (nt O O O) O) (aq O (fun γ => qp O O (.v 3 O O (.v 8 O O .nil)) (bj O O O) O) (aq O (fun γ => qm O (.o (s := 0) O (by decide) .nil) O) (aq O (fun γ => qp O O (.v 10 O O .nil) (el O O O a underlying25 sizeOf5 k.1 k.2) O) (aq O (fun γ => qp O O (.v 11 O O .nil) (ai O O isAgg5 (h0.cell 0 O a (eQ (by omega)))) O) (aq O (fun γ => qp O O (.v 12 O O .nil) (dy O O underlying5 underlying3) O) (aq O (fun γ => qp O O (.v 13 O O .nil) (nt O O O) O) (aq O (fun γ => qp O O (.v 9 O O (.v 14 O O .nil)) (bj O O O) O) (aq O (fun γ => qm O (.o (s := 0) O (by decide) .nil) O) (aq O (fun γ => qp O O (.v 16 O O .nil) (el O O O c underlying25 sizeOf5 b.1 b.2) O) (aq O (fun γ => qp O O (.v 17 O O .nil) (ai O O isAgg5 (h0.cell 0 O c (eQ (by omega)))) O) (aq O (fun γ => qp O O (.v 18 O O .nil) (dy O O underlying5 underlying3) O) (aq O (fun γ => qp O O (.v 19 O O .nil) (nt O O O) O) (aq O (fun γ => qp O O (.v 15 O O (.v 20 O O .nil)) (bj O O O) O) (aq O (fun γ => qp O O (.v 21 O O .nil) (dA O O) O) zA)))))))))))))))))))))))
 exact zA
 intro x
 refine ae (ak ?_)
 exact av () O O O (.sel 0 O (.nil _))

def fZ.f (k : Nat) (x0 : List UInt8) (x1 : Int) : Option (List UInt8 × Int × Int) := if (((decide (x1 < (0 : Int))) || (decide ((x0.length : Int) < x1))) || (decide (IntKind.i64.wrap ((x0.length : Int) - x1) < (4 : Int)))) = true then (some (([] : List UInt8), 0, 2)) else (if 0 ≤ x1 ∧ x1 ≤ IntKind.i64.wrap (x1 + 4) ∧ IntKind.i64.wrap (x1 + 4) ≤ (x0.length : Int) then ((eK.f (cut x0 x1 (IntKind.i64.wrap (x1 + 4)))).bind fun a => (if (1048576 : Int) < a then (some (([] : List UInt8), 0, 3)) else (if IntKind.i64.wrap ((x0.length : Int) - x1) < IntKind.i64.wrap (8 + a) then (some (([] : List UInt8), 0, 2)) else (if 0 ≤ IntKind.i64.wrap (x1 + 8) ∧ IntKind.i64.wrap (x1 + 8) ≤ IntKind.i64.wrap ((IntKind.i64.wrap (x1 + 8)) + a) ∧ IntKind.i64.wrap ((IntKind.i64.wrap (x1 + 8)) + a) ≤ (x0.length : Int) then (if 0 ≤ IntKind.i64.wrap (x1 + 4) ∧ IntKind.i64.wrap (x1 + 4) ≤ IntKind.i64.wrap (x1 + 8) ∧ IntKind.i64.wrap (x1 + 8) ≤ (x0.length : Int) then ((eK.f (cut x0 (IntKind.i64.wrap (x1 + 4)) (IntKind.i64.wrap (x1 + 8)))).bind fun c => (if 0 ≤ x1 ∧ x1 ≤ IntKind.i64.wrap (x1 + 4) ∧ IntKind.i64.wrap (x1 + 4) ≤ (x0.length : Int) then ((bl.f (cut x0 x1 (IntKind.i64.wrap (x1 + 4)))).bind fun b => (if (b.length + (cut x0 (IntKind.i64.wrap (x1 + 8)) (IntKind.i64.wrap ((IntKind.i64.wrap (x1 + 8)) + a))).length) * 1 ≤ 140737488355328 then ((cO.f k (b ++ (cut x0 (IntKind.i64.wrap (x1 + 8)) (IntKind.i64.wrap ((IntKind.i64.wrap (x1 + 8)) + a))))).bind fun d => (if c = IntKind.i64.wrap d then ((bl.f (cut x0 (IntKind.i64.wrap (x1 + 8)) (IntKind.i64.wrap ((IntKind.i64.wrap (x1 + 8)) + a)))).bind fun e => (some (e, IntKind.i64.wrap (8 + a), 0))) else (some (([] : List UInt8), 0, 5)))) else none)) else none)) else none) else none)))) else none)
theorem fZ.calls (W : World) (F : HA) (k : Nat) (a0 : Option Addr) (c0 : Nat) (x0 : List UInt8) (x1 : Int) (h0 : Rd F a0 (ao x0)) (d : x0.length ≤ c0) (w : c0 ≤ maxLen) :
    Fn Tryz.prog W 100 [.slice a0 x0.length c0, .int .i64 x1] [] F (fZ.f k x0 x1) (fun (r : List UInt8 × Int × Int) (y : Option Addr × Nat) => .tuple #[.slice y.1 r.1.length y.2, .int .i64 r.2.1, .int .i64 r.2.2]) (fun r y => [Row 5 1 y.1 r.1.length y.2 (ao r.1)]) := by
 unfold fZ.f
 refine aJ 69 Tryz.func100 O Tryz.ntmps100 O ?_
 refine sr ?_
 refine va O O ?_
 refine va O O ?_
 refine va O O (ag (ae (ap (sr ?_))))
 refine vm O O ?_
 refine vq (bN O O O) O ?_
 refine vm O O ?_
 refine az (b := decide (x1 < (0 : Int))) (fun c6 => RQ.sub (E' := [(1, .int .i64 x1)]) ⟨O, trivial⟩ (aS O O)) O O O O O ?_
 refine az (b := decide (x1 < (0 : Int))) (fun c7 => RQ.sub (E' := [(0, .slice a0 x0.length c0)]) ⟨O, trivial⟩ (aS O O)) O O O O O ?_
 refine az (b := decide (x1 < (0 : Int))) (fun a3 => RQ.sub (E' := [(13, .slice a0 x0.length c0)]) ⟨aZ O a3, trivial⟩ (bi O O O underlying25)) O O O O O ?_
 refine az (b := decide (x1 < (0 : Int))) (fun x => RQ.sub (E' := [(12, .int .i64 x1), (14, .int .i64 (x0.length : Int))]) ⟨aZ O x, aZ O x, trivial⟩ (dw O O O)) O O O O O ?_
 refine vq (hP O O O) O ?_
 refine vm O O ?_
 refine az (b := (decide (x1 < (0 : Int))) || (decide ((x0.length : Int) < x1))) (fun c8 => RQ.sub (E' := [(0, .slice a0 x0.length c0)]) ⟨O, trivial⟩ (aS O O)) O O O O O ?_
 refine az (b := (decide (x1 < (0 : Int))) || (decide ((x0.length : Int) < x1))) (fun a4 => RQ.sub (E' := [(18, .slice a0 x0.length c0)]) ⟨aZ O a4, trivial⟩ (bi O O O underlying25)) O O O O O ?_
 refine az (b := (decide (x1 < (0 : Int))) || (decide ((x0.length : Int) < x1))) (fun c9 => RQ.sub (E' := [(1, .int .i64 x1)]) ⟨O, trivial⟩ (aS O O)) O O O O O ?_
 refine az (b := (decide (x1 < (0 : Int))) || (decide ((x0.length : Int) < x1))) (fun aa => RQ.sub (E' := [(19, .int .i64 (x0.length : Int)), (20, .int .i64 x1)]) ⟨aZ O aa, aZ O aa, trivial⟩ (ft O O O)) O O O O O ?_
 refine az (b := (decide (x1 < (0 : Int))) || (decide ((x0.length : Int) < x1))) (fun a5 => RQ.sub (E' := [(21, .int .i64 (IntKind.i64.wrap ((x0.length : Int) - x1)))]) ⟨aZ O a5, trivial⟩ (bN O O O)) O O O O O ?_
 refine vq (hP O O O) O (ag (ae ?_))
 refine aT O (fun d8 => ?_) (fun d9 => ?_)
 refine sr ?_
 refine va O O ?_
 refine va O O ?_
 refine va O O (ag (ae (ak ?_)))
 refine ax ?_
 exact av (none, 0) O O O (.row_nil (.sel 0 O (.nil _)))
 refine au ?_
 refine ae (sr ?_)
 refine vm O O ?_
 refine vm O O ?_
 refine vm O O ?_
 refine vq (bj O O O) O ?_
 refine aQ (fun an => ?_)
 obtain ⟨cs, c1, c2, c3, c4, c5⟩ := ex (lo := x1) (hi := IntKind.i64.wrap (x1 + 4)) h0 d an
 refine vq (dU (l := x0) (lo' := x1) (hi' := IntKind.i64.wrap (x1 + 4)) O O O O underlying25 sizeOf5 (.inr ⟨_, O⟩) (.inr ⟨_, O⟩) an d c2) O ?_
 refine am (fun a a6 => ?_)
 refine ah (ar (vs := [.slice cs ((cut x0 x1 (IntKind.i64.wrap (x1 + 4))).length) c1]) (cap := []) (A := []) (rst := [F]) O O O O O O call146 (.sel 0 O (.nil _)) (eK.calls _ _ cs c1 (cut x0 x1 (IntKind.i64.wrap (x1 + 4))) (c3.lend 0 O) c4 (Nat.le_trans c5 w)) a6) O O O ?_
 intro ds
 refine va O O (ag (ae (ap (sr ?_))))
 refine vm O O ?_
 refine vq (dw O O O) O (ag (ae ?_))
 refine aL O (fun d1 => ?_) (fun d2 => ?_)
 refine sr ?_
 refine va O O ?_
 refine va O O ?_
 refine va O O (ag (ae (ak ?_)))
 refine ax ?_
 exact av (none, 0) O O O (.row_nil (.sel 0 O (.nil _)))
 refine au ?_
 refine ae (ap (sr ?_))
 refine vm O O ?_
 refine vq (bi O O O underlying25) O ?_
 refine vm O O ?_
 refine vq (ft O O O) O ?_
 refine vm O O ?_
 refine vq (bj O O O) O ?_
 refine vq (bN O O O) O (ag (ae ?_))
 refine aL O (fun d3 => ?_) (fun d4 => ?_)
 refine sr ?_
 refine va O O ?_
 refine va O O ?_
 refine va O O (ag (ae (ak ?_)))
 refine ax ?_
 exact av (none, 0) O O O (.row_nil (.sel 0 O (.nil _)))
 refine au ?_
 refine ae (sr ?_)
 refine vm O O ?_
 refine vm O O ?_
 refine vq (bj O O O) O ?_
 refine vm O O ?_
 refine vq (bj O O O) O ?_
 refine vm O O ?_
 refine vq (bj O O O) O ?_
 refine aQ (fun ab => ?_)
 obtain ⟨e, g, a7, ad, a8, a9⟩ := ex (lo := IntKind.i64.wrap (x1 + 8)) (hi := IntKind.i64.wrap ((IntKind.i64.wrap (x1 + 8)) + a)) h0 d ab
 refine vq (dU (l := x0) (lo' := IntKind.i64.wrap (x1 + 8)) (hi' := IntKind.i64.wrap ((IntKind.i64.wrap (x1 + 8)) + a)) O O O O underlying25 sizeOf5 (.inr ⟨_, O⟩) (.inr ⟨_, O⟩) ab d a7) O ?_
 refine va O O (ag (ae (ap (ap ?_))))
 refine bv (fun af => ?_)
 obtain ⟨n, p, bc, be, bs, b0⟩ := ex (lo := IntKind.i64.wrap (x1 + 4)) (hi := IntKind.i64.wrap (x1 + 8)) h0 d af
 refine cu (fun q b1 => ?_)
 refine bv (fun h => ?_)
 obtain ⟨t, u, al, b2, b3, b4⟩ := ex (lo := x1) (hi := IntKind.i64.wrap (x1 + 4)) h0 d h
 refine cu (fun c b5 => ?_)
 refine bv (fun b6 => ?_)
 refine cu (fun m b7 => ?_)
 refine bp (Γ := (Option Addr × Nat) × (Option Addr × Nat)) ((none, 0), (none, 0)) [[], [], [1], [], [3], rL 5, rL 6, [], [], [], [9], [7, 8, 9, 10], rL 12, [], rL 14, rL 15, rL 16, rL 17] [6, 12, 14, 15] [0, 1, 2, 3, 4, 5, 7, 8, 9, 10, 11, 13, 16, 17] (fun i => [[0], [0], [0], [0], [0], [0], [], [0, 1], [0, 1], [0, 1], [0, 1], [0, 1], [], [0, 1, 2], [], [], [4], [4]].getD i []) (fun i => [[], [], [], [], [], [], [0, 1, 2, 3, 4, 5, 7, 8, 9, 10, 11, 13], [], [], [], [], [], [0, 1, 2, 3, 4, 5, 6, 7, 8, 9, 10, 11, 13], [], rL 14, rL 15, [], []].getD i []) (fun γ i => [.slice a0 x0.length c0, .int .i64 x1, .int .i64 (IntKind.i64.wrap (x1 + 4)), .int .i64 x1, .int .i64 (IntKind.i64.wrap (x1 + 8)), .slice n ((cut x0 (IntKind.i64.wrap (x1 + 4)) (IntKind.i64.wrap (x1 + 8))).length) p, .int .i64 q, .slice a0 x0.length c0, .int .i64 x1, .int .i64 x1, .int .i64 (IntKind.i64.wrap (x1 + 4)), .slice t ((cut x0 x1 (IntKind.i64.wrap (x1 + 4))).length) u, .slice γ.1.1 c.length γ.1.2, .slice e ((cut x0 (IntKind.i64.wrap (x1 + 8)) (IntKind.i64.wrap ((IntKind.i64.wrap (x1 + 8)) + a))).length) g, .slice γ.2.1 ((c ++ (cut x0 (IntKind.i64.wrap (x1 + 8)) (IntKind.i64.wrap ((IntKind.i64.wrap (x1 + 8)) + a)))).length) γ.2.2, .int .u32 m, .int .i64 (IntKind.i64.wrap m), .bool (!decide (q = IntKind.i64.wrap m))].getD i undef) (fun j γ => [[F], [F], [Row 5 1 γ.1.1 c.length γ.1.2 (ao c), F], [Row 5 1 γ.2.1 (c ++ (cut x0 (IntKind.i64.wrap (x1 + 8)) (IntKind.i64.wrap ((IntKind.i64.wrap (x1 + 8)) + a)))).length γ.2.2 (ao (c ++ (cut x0 (IntKind.i64.wrap (x1 + 8)) (IntKind.i64.wrap ((IntKind.i64.wrap (x1 + 8)) + a))))), F], [Row 5 1 γ.2.1 (c ++ (cut x0 (IntKind.i64.wrap (x1 + 8)) (IntKind.i64.wrap ((IntKind.i64.wrap (x1 + 8)) + a)))).length γ.2.2 (ao (c ++ (cut x0 (IntKind.i64.wrap (x1 + 8)) (IntKind.i64.wrap ((IntKind.i64.wrap (x1 + 8)) + a))))), F]].getD j []) (fun γ => [(7, .int .i64 a), (8, .slice e ((cut x0 (IntKind.i64.wrap (x1 + 8)) (IntKind.i64.wrap ((IntKind.i64.wrap (x1 + 8)) + a))).length) g), (64, .bool (!decide (q = IntKind.i64.wrap m)))]) mixed (by decide) (by decide) (by decide) (by decide) (by decide) (by decide) (by decide) 69 O (by decide) (by decide) (by decide) (Ent.refl _) ?_ ?_ (fun _ => ⟨O, O, O, trivial⟩) ?_
 exact (aq O (fun γ => qm O (.o (s := 0) O (by decide) .nil) O) (aq O (fun γ => qm O (.o (s := 1) O (by decide) .nil) O) (aq O (fun γ => qp O O (.v 1 O O .nil) (bj O O O) O) (aq O (fun γ => qm O (.o (s := 1) O (by decide) .nil) O) (aq O (fun γ => qp O O (.v 3 O O .nil) (bj O O O) O) (aq O (fun γ => qp O O (.v 0 O O (.v 2 O O (.v 4 O O .nil))) (dU (l := x0) (lo' := IntKind.i64.wrap (x1 + 4)) (hi' := IntKind.i64.wrap (x1 + 8)) O O O O underlying25 sizeOf5 (.inr ⟨_, O⟩) (.inr ⟨_, O⟩) af d bc) O) (ac (fun γ => (ac (qm O (.o (s := 0) O (by decide) .nil) O) (ac (qm O (.o (s := 0) O (by decide) .nil) O) zA))) (ac (fun γ => (ac (qm O (.o (s := 1) O (by decide) .nil) O) (ac (qm O (.o (s := 1) O (by decide) .nil) O) zA))) (ac (fun γ => (ac (qm O (.o (s := 1) O (by decide) .nil) O) (ac (qm O (.o (s := 1) O (by decide) .nil) O) zA))) (ac (fun γ => (ac (qp O O (.v 9 O O .nil) (bj O O O) O) (ac (qp O O (.v 9 O O .nil) (bj O O O) O) zA))) (ac (fun γ => (ac (qp O O (.v 7 O O (.v 8 O O (.v 10 O O .nil))) (dU (l := x0) (lo' := x1) (hi' := IntKind.i64.wrap (x1 + 4)) O O O O underlying25 sizeOf5 (.inr ⟨_, O⟩) (.inr ⟨_, O⟩) h d al) O) (ac (qp O O (.v 7 O O (.v 8 O O (.v 10 O O .nil))) (dU (l := x0) (lo' := x1) (hi' := IntKind.i64.wrap (x1 + 4)) O O O O underlying25 sizeOf5 (.inr ⟨_, O⟩) (.inr ⟨_, O⟩) h d al) O) zA))) (ac (fun γ => (ac (qm O (.o (s := 8) O (by decide) .nil) O) (ac (qm O (.o (s := 8) O (by decide) .nil) O) (ac (qm O (.o (s := 8) O (by decide) .nil) O) zA)))) (aq O (fun γ => qp O O (.v 15 O O .nil) (dy O O underlying170 underlying3) O) (aq O (fun γ => qp O O (.v 6 O O (.v 16 O O .nil)) (cz O O O) O) zA))))))))))))))
 exact (ac (fun γ => eo (Z := Unit) (fun z => (γ.1, γ.2)) O O (.v 5 O O .nil) (ar (val := fun (r : Int) (y : Unit) => .int .i64 r) (B := fun _ _ => []) (vs := [.slice n ((cut x0 (IntKind.i64.wrap (x1 + 4)) (IntKind.i64.wrap (x1 + 8))).length) p]) (cap := []) (A := []) (rst := [F]) O O O O O O call146 (.sel 0 O (.nil _)) (eK.calls _ _ n p (cut x0 (IntKind.i64.wrap (x1 + 4)) (IntKind.i64.wrap (x1 + 8))) (be.lend 0 O) bs (Nat.le_trans b0 w)) b1) (fun _ => ⟨O, O, O, O, O, O, O, O, O, O, O, O, trivial⟩) (fun _ => .inr O) (fun z => Ent.refl _)) (ac (fun γ => eo (Z := Option Addr × Nat) (fun z => (z, γ.2)) O O (.v 11 O O .nil) (ar (vs := [.slice t ((cut x0 x1 (IntKind.i64.wrap (x1 + 4))).length) u]) (cap := []) (A := []) (rst := [F]) O O O O O O call89 (.sel 0 O (.nil _)) (bl.calls _ _ t u (cut x0 x1 (IntKind.i64.wrap (x1 + 4))) (b2.lend 0 O) b3 (Nat.le_trans b4 w)) b5) (fun _ => ⟨O, O, O, O, O, O, O, O, O, O, O, O, O, trivial⟩) (fun _ => .inr O) (fun z => Ent.refl _)) (ac (fun γ => eo (Z := Option Addr × Nat) (fun z => (γ.1, z)) O O (.v 12 O O (.v 13 O O .nil)) (dd 0 O O O underlying25 eP O (ad.rds 0 O) b6) (fun _ => ⟨O, O, O, O, O, O, O, O, O, O, O, O, O, O, trivial⟩) (fun _ => .inr O) (fun z => Ent.refl _)) (ac (fun γ => eo (Z := Unit) (fun z => (γ.1, γ.2)) O O (.v 14 O O .nil) (RE.lend 0 O (fun b8 b9 cd dl => ar (val := fun (r : Int) (y : Unit) => .int .u32 r) (B := fun _ _ => []) (vs := [.slice γ.2.1 ((c ++ (cut x0 (IntKind.i64.wrap (x1 + 8)) (IntKind.i64.wrap ((IntKind.i64.wrap (x1 + 8)) + a)))).length) γ.2.2]) (cap := []) (A := []) (rst := [Row 5 1 γ.2.1 (c ++ (cut x0 (IntKind.i64.wrap (x1 + 8)) (IntKind.i64.wrap ((IntKind.i64.wrap (x1 + 8)) + a)))).length γ.2.2 (ao (c ++ (cut x0 (IntKind.i64.wrap (x1 + 8)) (IntKind.i64.wrap ((IntKind.i64.wrap (x1 + 8)) + a))))), F]) O O O O O O call141 (.sel 0 O (.sel 0 O (.nil _))) (cO.calls _ _ k γ.2.1 γ.2.2 (c ++ (cut x0 (IntKind.i64.wrap (x1 + 8)) (IntKind.i64.wrap ((IntKind.i64.wrap (x1 + 8)) + a)))) (b8.lend 0 O) b9 cd) b7)) (fun _ => ⟨O, O, O, O, O, O, O, O, O, O, O, O, O, O, O, trivial⟩) (fun _ => .inr O) (fun z => Ent.refl _)) zA))))
 intro a1
 refine ae ?_
 refine br O (fun d5 => ?_) (fun d6 => ?_)
 refine au ?_
 refine ae (sr ?_)
 refine vm O O ?_
 refine am (fun d7 ch => ?_)
 refine ah (ar (vs := [.slice e ((cut x0 (IntKind.i64.wrap (x1 + 8)) (IntKind.i64.wrap ((IntKind.i64.wrap (x1 + 8)) + a))).length) g]) (cap := []) (A := []) (rst := [Row 5 1 a1.2.1 (c ++ (cut x0 (IntKind.i64.wrap (x1 + 8)) (IntKind.i64.wrap ((IntKind.i64.wrap (x1 + 8)) + a)))).length a1.2.2 (ao (c ++ (cut x0 (IntKind.i64.wrap (x1 + 8)) (IntKind.i64.wrap ((IntKind.i64.wrap (x1 + 8)) + a))))), F]) O O O O O O call89 (.sel 0 O (.sel 0 O (.nil _))) (bl.calls _ _ e g (cut x0 (IntKind.i64.wrap (x1 + 8)) (IntKind.i64.wrap ((IntKind.i64.wrap (x1 + 8)) + a))) (ad.lend 1 O) a8 (Nat.le_trans a9 w)) ch) O O O ?_
 intro a2
 refine vm O O ?_
 refine vq (bj O O O) O ?_
 refine va O O ?_
 refine va O O ?_
 refine va O O (ag (ae (ak ?_)))
 exact av (a2.1, a2.2) O O O (.sel 0 O (.sel 1 O (.nil _)))
 refine sr ?_
 refine va O O ?_
 refine va O O ?_
 refine va O O (ag (ae (ak ?_)))
 refine ax ?_
 exact av (none, 0) O O O (.row_nil (.sel 1 O (.nil _)))

def gB.f (k : Nat) (x0 : List UInt8) : Option (List UInt8 × Int) := (fZ.f k x0 (0 : Int)).bind fun a => (if a.2.2 = (0 : Int) then (if a.2.1 < (x0.length : Int) then (some (([] : List UInt8), 4)) else (some (a.1, 0))) else (some (([] : List UInt8), a.2.2)))
theorem gB.calls (W : World) (F : HA) (k : Nat) (a0 : Option Addr) (c0 : Nat) (x0 : List UInt8) (h0 : Rd F a0 (ao x0)) (c : x0.length ≤ c0) (d : c0 ≤ maxLen) :
    Fn Tryz.prog W 57 [.slice a0 x0.length c0] [] F (gB.f k x0) (fun (r : List UInt8 × Int) (y : Option Addr × Nat) => .tuple #[.slice y.1 r.1.length y.2, .int .i64 r.2]) (fun r y => [Row 5 1 y.1 r.1.length y.2 (ao r.1)]) := by
 unfold gB.f
 refine aJ 21 Tryz.func57 O Tryz.ntmps57 O ?_
 refine sr ?_
 refine va O O ?_
 refine va O O (nx ?_)
 refine vm O O ?_
 refine am (fun e b => ?_)
 refine ah (ar (vs := [.slice a0 x0.length c0, .int .i64 0]) (cap := []) (A := []) (rst := [F]) O O O O O O call100 (.sel 0 O (.nil _)) (fZ.calls _ _ k a0 c0 x0 (0 : Int) (h0.lend 0 O) c d) b) O O O ?_
 intro a
 refine vm O O ?_
 refine vq (bh O O O) O ?_
 refine vq (bh O O O) O ?_
 refine vq (bh O O O) O ?_
 refine va O O ?_
 refine va O O ?_
 refine va O O (ag (ae (ap (sr ?_))))
 refine vm O O ?_
 refine vq (cz O O O) O (ag (ae ?_))
 refine br O (fun g => ?_) (fun h => ?_)
 refine au ?_
 refine ae (ap (sr ?_))
 refine vm O O ?_
 refine vm O O ?_
 refine vq (bi O O O underlying25) O ?_
 refine vq (bN O O O) O (ag (ae ?_))
 refine aL O (fun i => ?_) (fun j => ?_)
 refine sr ?_
 refine va O O ?_
 refine va O O (ag (ae (ak ?_)))
 refine ax ?_
 exact av (none, 0) O O O (.row_nil (.sel 1 O (.nil _)))
 refine au ?_
 refine ae (sr ?_)
 refine vm O O ?_
 refine va O O ?_
 refine va O O (ag (ae (ak ?_)))
 exact av (a.1, a.2) O O O (.sel 0 O (.sel 0 O (.nil _)))
 refine sr ?_
 refine vm O O ?_
 refine va O O ?_
 refine va O O (ag (ae (ak ?_)))
 refine ax ?_
 exact av (none, 0) O O O (.row_nil (.sel 1 O (.nil _)))

def bM.l1 (x0 : List UInt8) (x1 : Int) : Nat → Int → Int → Option (Int)
  | 0, _, _ => none
  | k + 1, b, a => if (0 : Int) ≤ a then (if 0 ≤ IntKind.i64.wrap (x1 + a) ∧ IntKind.i64.wrap (x1 + a) < (x0.length : Int) then (bM.l1 x0 x1 k (IntKind.i64.wrap ((IntKind.i64.wrap (b * 128)) + (Int.tmod (IntKind.i64.wrap ((x0.getD (IntKind.i64.wrap (x1 + a)).toNat 0).toNat : Int)) 128))) (IntKind.i64.wrap (a - 1))) else none) else (some b)
def bM.l0 (x0 : List UInt8) (x1 : Int) : Nat → Int → Option (Int)
  | 0, _ => none
  | k + 1, a => (if ((decide (a < (9 : Int))) && (decide (IntKind.i64.wrap (x1 + a) < (x0.length : Int)))) = true then (if 0 ≤ IntKind.i64.wrap (x1 + a) ∧ IntKind.i64.wrap (x1 + a) < (x0.length : Int) then (some (decide ((128 : Int) ≤ ((x0.getD (IntKind.i64.wrap (x1 + a)).toNat 0).toNat : Int)))) else none) else (some false)).bind fun b => (if b = true then (bM.l0 x0 x1 k (IntKind.i64.wrap (a + 1))) else (some a))
def bM.f (k : Nat) (x0 : List UInt8) (x1 : Int) : Option (Int × Int × Int) := if ((decide (x1 < (0 : Int))) || (decide ((x0.length : Int) ≤ x1))) = true then (some (0, 0, 2)) else ((bM.l0 x0 x1 k 0).bind fun a => (if a = (9 : Int) then (some (0, 0, 4)) else (if (x0.length : Int) ≤ IntKind.i64.wrap (x1 + a) then (some (0, 0, 2)) else ((if (0 : Int) < a then (if 0 ≤ IntKind.i64.wrap (x1 + a) ∧ IntKind.i64.wrap (x1 + a) < (x0.length : Int) then (some (decide (((x0.getD (IntKind.i64.wrap (x1 + a)).toNat 0).toNat : Int) = (0 : Int)))) else none) else (some false)).bind fun c => (if c = true then (some (0, 0, 4)) else ((bM.l1 x0 x1 k 0 a).bind fun b => (if (4611686018427387904 : Int) < b then (some (0, 0, 1)) else (some (b, IntKind.i64.wrap (a + 1), 0)))))))))
theorem bM.calls (W : World) (F : HA) (k : Nat) (a0 : Option Addr) (c0 : Nat) (x0 : List UInt8) (x1 : Int) (h0 : Rd F a0 (ao x0)) (b9 : x0.length ≤ c0) (cd : c0 ≤ maxLen) :
    Fn Tryz.prog W 147 [.slice a0 x0.length c0, .int .i64 x1] [] F (bM.f k x0 x1) (fun (r : Int × Int × Int) (y : Unit) => .tuple #[.int .i64 r.1, .int .i64 r.2.1, .int .i64 r.2.2]) (fun r y => []) := by
 unfold bM.f
 refine aJ 79 Tryz.func147 O Tryz.ntmps147 O ?_
 refine sr ?_
 refine va O O ?_
 refine va O O ?_
 refine va O O (ag (ae (ap (sr ?_))))
 refine vm O O ?_
 refine vq (bN O O O) O ?_
 refine vm O O ?_
 refine az (b := decide (x1 < (0 : Int))) (fun z => RQ.sub (E' := [(1, .int .i64 x1)]) ⟨O, trivial⟩ (aS O O)) O O O O O ?_
 refine az (b := decide (x1 < (0 : Int))) (fun aa => RQ.sub (E' := [(0, .slice a0 x0.length c0)]) ⟨O, trivial⟩ (aS O O)) O O O O O ?_
 refine az (b := decide (x1 < (0 : Int))) (fun q => RQ.sub (E' := [(14, .slice a0 x0.length c0)]) ⟨aZ O q, trivial⟩ (bi O O O underlying25)) O O O O O ?_
 refine az (b := decide (x1 < (0 : Int))) (fun e => RQ.sub (E' := [(13, .int .i64 x1), (15, .int .i64 (x0.length : Int))]) ⟨aZ O e, aZ O e, trivial⟩ (gP O O O)) O O O O O ?_
 refine vq (hP O O O) O (ag (ae ?_))
 refine aT O (fun ch => ?_) (fun cs => ?_)
 refine sr ?_
 refine va O O ?_
 refine va O O ?_
 refine va O O (ag (ae (ak ?_)))
 refine ax ?_
 exact av () O O O (.sel 0 O (.nil _))
 refine au ?_
 refine ae (sr ?_)
 refine va O O (ag (ae ?_))
 refine bO (S := Int) (Unit) (fun s y => [(0, .slice a0 x0.length c0), (1, .int .i64 x1), (7, .int .i64 s)]) (fun s y => [F]) ?_ ?_
 refine aK ?_
 refine bX (S := Int) (Unit) (fun k s => bM.l0 x0 x1 k s) (fun s y => [(0, .slice a0 x0.length c0), (1, .int .i64 x1), (7, .int .i64 s)]) (fun s y => [F]) (fun _ => by rw [bM.l0]) ?_ k 0 () ⟨O, O, O, trivial⟩ (.sel 0 O (.nil _))
 intro k a c1
 refine cL (by rw [bM.l0]) ?_
 refine ap (sr ?_)
 refine vm O O ?_
 refine vq (bN O O O) O ?_
 refine vm O O ?_
 refine az (b := decide (a < (9 : Int))) (fun ab => RQ.sub (E' := [(1, .int .i64 x1)]) ⟨O, trivial⟩ (aS O O)) O O O O O ?_
 refine az (b := decide (a < (9 : Int))) (fun ad => RQ.sub (E' := [(7, .int .i64 a)]) ⟨O, trivial⟩ (aS O O)) O O O O O ?_
 refine az (b := decide (a < (9 : Int))) (fun g => RQ.sub (E' := [(21, .int .i64 x1), (22, .int .i64 a)]) ⟨aZ O g, aZ O g, trivial⟩ (bj O O O)) O O O O O ?_
 refine az (b := decide (a < (9 : Int))) (fun af => RQ.sub (E' := [(0, .slice a0 x0.length c0)]) ⟨O, trivial⟩ (aS O O)) O O O O O ?_
 refine az (b := decide (a < (9 : Int))) (fun t => RQ.sub (E' := [(24, .slice a0 x0.length c0)]) ⟨aZ O t, trivial⟩ (bi O O O underlying25)) O O O O O ?_
 refine az (b := decide (a < (9 : Int))) (fun h => RQ.sub (E' := [(23, .int .i64 (IntKind.i64.wrap (x1 + a))), (25, .int .i64 (x0.length : Int))]) ⟨aZ O h, aZ O h, trivial⟩ (bN O O O)) O O O O O ?_
 refine vq (dQ O O O) O ?_
 refine vm O O ?_
 refine dk 8 (S := Bool) (Unit) (fun s y => [(0, .slice a0 x0.length c0), (1, .int .i64 x1), (7, .int .i64 a), (36, .bool s)]) (fun s y => [F]) ?_ ?_
 refine eI (fun u => ?_) (fun v => ?_)
 rw [u]
 refine aO (aS O O) O O O O O O ?_
 refine aO (aS O O) O O O O O O ?_
 refine aO (aS O O) O O O O O O ?_
 refine aO (bj O O O) O O O O O O ?_
 refine aQ (fun i => ?_)
 obtain ⟨a2, al, l⟩ := h0.pos (fc (j := (IntKind.i64.wrap (x1 + a)).toNat) (by omega))
 refine aO (el O O O l underlying25 sizeOf5 i.1 i.2) O O O O O O ?_
 refine aO (ai O O isAgg5 (h0.cell 0 O l (eQ (by omega)))) O O O O O O ?_
 refine aO (gP O O O) O O O O O O ?_
 refine vq (bL O O O O O) O (ag ?_)
 exact aM (s := decide ((128 : Int) ≤ ((x0.getD (IntKind.i64.wrap (x1 + a)).toNat 0).toNat : Int))) () ⟨O, O, O, O, trivial⟩ (.sel 0 O (.nil _))
 rw [v]
 refine aI O O O O O O ?_
 refine aI O O O O O O ?_
 refine aI O O O O O O ?_
 refine aI O O O O O O ?_
 refine aI O O O O O O ?_
 refine aI O O O O O O ?_
 refine aI O O O O O O ?_
 refine vq (bL O O O O O) O (ag ?_)
 exact aM (s := false) () ⟨O, O, O, O, trivial⟩ (.sel 0 O (.nil _))
 intro c2 c3
 refine ag (ae ?_)
 refine aT O (fun a3 => ?_) (fun a4 => ?_)
 refine au ?_
 refine ae ?_
 refine aK ?_
 refine aE ?_
 refine vm O O ?_
 refine vq (bj O O O) O ?_
 refine va O O (ag (bb ?_))
 exact bu (s := IntKind.i64.wrap (a + 1)) () ⟨O, O, O, trivial⟩ (.sel 0 O (.nil _))
 refine ck ?_
 refine bQ ?_
 refine bY ?_
 refine bR ?_
 exact aM (s := a) () ⟨O, O, O, trivial⟩ (.sel 0 O (.nil _))
 intro d c4
 refine ap (sr ?_)
 refine vm O O ?_
 refine vq (bD O O O) O (ag (ae ?_))
 refine aL O (fun a5 => ?_) (fun a6 => ?_)
 refine sr ?_
 refine va O O ?_
 refine va O O ?_
 refine va O O (ag (ae (ak ?_)))
 refine ax ?_
 exact av () O O O (.sel 0 O (.nil _))
 refine au ?_
 refine ae (ap (sr ?_))
 refine vm O O ?_
 refine vm O O ?_
 refine vq (bj O O O) O ?_
 refine vm O O ?_
 refine vq (bi O O O underlying25) O ?_
 refine vq (gP O O O) O (ag (ae ?_))
 refine aL O (fun a7 => ?_) (fun a8 => ?_)
 refine sr ?_
 refine va O O ?_
 refine va O O ?_
 refine va O O (ag (ae (ak ?_)))
 refine ax ?_
 exact av () O O O (.sel 0 O (.nil _))
 refine au ?_
 refine ae (ap (sr ?_))
 refine vm O O ?_
 refine vq (dw O O O) O ?_
 refine vm O O ?_
 refine dk 8 (S := Bool) (Unit) (fun s y => [(0, .slice a0 x0.length c0), (1, .int .i64 x1), (7, .int .i64 d), (57, .bool s)]) (fun s y => [F]) ?_ ?_
 refine iH (fun w => ?_) (fun x => ?_)
 rw [w]
 refine aO (aS O O) O O O O O O ?_
 refine aO (aS O O) O O O O O O ?_
 refine aO (aS O O) O O O O O O ?_
 refine aO (bj O O O) O O O O O O ?_
 refine aQ (fun m => ?_)
 obtain ⟨a9, an, n⟩ := h0.pos (fc (j := (IntKind.i64.wrap (x1 + d)).toNat) (by omega))
 refine aO (el O O O n underlying25 sizeOf5 m.1 m.2) O O O O O O ?_
 refine aO (ai O O isAgg5 (h0.cell 0 O n (eQ (by omega)))) O O O O O O ?_
 refine aO (bD O O O) O O O O O O ?_
 refine vq (bL O O O O O) O (ag ?_)
 exact aM (s := decide (((x0.getD (IntKind.i64.wrap (x1 + d)).toNat 0).toNat : Int) = (0 : Int))) () ⟨O, O, O, O, trivial⟩ (.sel 0 O (.nil _))
 rw [x]
 refine aI O O O O O O ?_
 refine aI O O O O O O ?_
 refine aI O O O O O O ?_
 refine aI O O O O O O ?_
 refine aI O O O O O O ?_
 refine aI O O O O O O ?_
 refine aI O O O O O O ?_
 refine vq (bL O O O O O) O (ag ?_)
 exact aM (s := false) () ⟨O, O, O, O, trivial⟩ (.sel 0 O (.nil _))
 intro bc be
 refine ag (ae ?_)
 refine aT O (fun bs => ?_) (fun b0 => ?_)
 refine sr ?_
 refine va O O ?_
 refine va O O ?_
 refine va O O (ag (ae (ak ?_)))
 refine ax ?_
 exact av () O O O (.sel 0 O (.nil _))
 refine au ?_
 refine ae (sr ?_)
 refine va O O (ag (ae ?_))
 refine bO (S := Int) (Unit) (fun s y => [(7, .int .i64 d), (8, .int .i64 s)]) (fun s y => [F]) ?_ ?_
 refine sr ?_
 refine vm O O ?_
 refine va O O (ag (ae ?_))
 refine aK ?_
 refine bX (S := Int × Int) (Unit) (fun k s => bM.l1 x0 x1 k s.1 s.2) (fun s y => [(0, .slice a0 x0.length c0), (1, .int .i64 x1), (7, .int .i64 d), (8, .int .i64 s.1), (9, .int .i64 s.2)]) (fun s y => [F]) (fun _ => by rw [bM.l1]) ?_ k (0, d) () ⟨O, O, O, O, O, trivial⟩ (.sel 0 O (.nil _))
 intro k c b1
 refine cL (by rw [bM.l1]) ?_
 refine ap (sr ?_)
 refine vm O O ?_
 refine vq (gP O O O) O (ag (ae ?_))
 refine aL O (fun b2 => ?_) (fun b3 => ?_)
 refine au ?_
 refine ae (ap ?_)
 refine aK ?_
 refine aE ?_
 refine vm O O ?_
 refine vq (nt O O O) O ?_
 refine vm O O ?_
 refine vm O O ?_
 refine vm O O ?_
 refine vq (bj O O O) O ?_
 refine aQ (fun o => ?_)
 obtain ⟨b4, a1, p⟩ := h0.pos (fc (j := (IntKind.i64.wrap (x1 + c.2)).toNat) (by omega))
 refine vq (el O O O p underlying25 sizeOf5 o.1 o.2) O ?_
 refine vq (ai O O isAgg5 (h0.cell 0 O p (eQ (by omega)))) O ?_
 refine vq (dy O O underlying5 underlying3) O ?_
 refine vq (rc O O O (by decide)) O ?_
 refine vq (bj O O O) O ?_
 refine va O O (ag (bb (ae (aE ?_))))
 refine vm O O ?_
 refine vq (ft O O O) O ?_
 refine va O O (ag ?_)
 exact bu (s := (IntKind.i64.wrap ((IntKind.i64.wrap (c.1 * 128)) + (Int.tmod (IntKind.i64.wrap ((x0.getD (IntKind.i64.wrap (x1 + c.2)).toNat 0).toNat : Int)) 128)), IntKind.i64.wrap (c.2 - 1))) () ⟨O, O, O, O, O, trivial⟩ (.sel 0 O (.nil _))
 refine ck ?_
 refine bQ ?_
 refine bY ?_
 refine bR ?_
 exact aM (s := c.1) () ⟨O, O, trivial⟩ (.sel 0 O (.nil _))
 intro b5 b6
 refine ap (sr ?_)
 refine vm O O ?_
 refine vq (dw O O O) O (ag (ae ?_))
 refine aL O (fun b7 => ?_) (fun b8 => ?_)
 refine sr ?_
 refine va O O ?_
 refine va O O ?_
 refine va O O (ag (ae (ak ?_)))
 refine ax ?_
 exact av () O O O (.sel 0 O (.nil _))
 refine au ?_
 refine ae (sr ?_)
 refine vm O O ?_
 refine vm O O ?_
 refine vq (bj O O O) O ?_
 refine va O O ?_
 refine va O O ?_
 refine va O O (ag (ae (ak ?_)))
 exact av () O O O (.sel 0 O (.nil _))

def cr.f (k : Nat) (d : List UInt8) (a : Int) (b : Int) : Option (Int × Int × Int) := if b = (0 : Int) then ((bM.f k d a).bind fun c => (some (c.1, IntKind.i64.wrap (a + c.2.1), c.2.2))) else (some (0, a, b))
theorem cr.calls (W : World) (F : HA) (k : Nat) (b0 : Nat) (d : Option Addr) (c : Nat) (a : List UInt8) (e : Int) (g : Int) (m : Rd F d (ao a)) (h : a.length ≤ c) (l : c ≤ maxLen) :
    Fn Tryz.prog W 101 [.pointer (some ⟨b0, 0, none⟩)] [obj b0 149 [.slice d a.length c, .int .i64 e, .int .i64 g]] F (cr.f k a e g) (fun (r : Int × Int × Int) (y : Unit) => .int .i64 r.1) (fun r y => [obj b0 149 [.slice d a.length c, .int .i64 r.2.1, .int .i64 r.2.2]]) := by
 unfold cr.f
 refine aJ 38 Tryz.func101 O Tryz.ntmps101 O ?_
 refine sr ?_
 refine va O O (ag (ae (ap (sr ?_))))
 refine vm O O ?_
 refine vn O O ?_
 refine vq (aw O O underlying149 O O sizeOf3 O) O ?_
 refine vq (ai O O isAgg3 (.obj 0 O O)) O ?_
 refine vq (cz O O O) O (ag (ae ?_))
 refine br O (fun p => ?_) (fun q => ?_)
 refine au ?_
 refine ae (ap ?_)
 refine cu (fun b n => ?_)
 refine bp (Γ := Unit) () [[], [0], [0, 1], [0, 1, 2], [], [4], [4, 5], [4, 5, 6], rL 8, rL 9, rL 10, rL 10, rL 10, rL 11, [0, 1, 2, 3, 4, 5, 6, 7, 8, 9, 10, 11, 13], rL 15] [8] [0, 1, 2, 3, 4, 5, 6, 7, 9, 10, 11, 12, 13, 14, 15] (fun i => [[0], [0], [0], [0], [0], [0], [0], [0], [], [1], [1], [1], [1], [1], [1], [1]].getD i []) (fun i => [[], [], [], [], [], [], [], [], rL 8, [], [], [], [], [], [], []].getD i []) (fun γ i => [.pointer (some ⟨b0, 0, none⟩), .pointer (some ⟨b0, 0, none⟩), .pointer (some ⟨b0, 0, none⟩), .slice d a.length c, .pointer (some ⟨b0, 0, none⟩), .pointer (some ⟨b0, 0, none⟩), .pointer (some ⟨b0, 1, none⟩), .int .i64 e, .tuple #[.int .i64 b.1, .int .i64 b.2.1, .int .i64 b.2.2], .tuple #[.int .i64 b.1, .int .i64 b.2.1, .int .i64 b.2.2], .int .i64 b.1, .int .i64 b.2.1, .int .i64 b.2.2, .int .i64 b.1, .int .i64 b.2.1, .int .i64 b.2.2].getD i undef) (fun j γ => [[obj b0 149 [.slice d a.length c, .int .i64 e, .int .i64 g], F], [obj b0 149 [.slice d a.length c, .int .i64 e, .int .i64 g], F]].getD j []) (fun γ => [(0, .pointer (some ⟨b0, 0, none⟩)), (3, .int .i64 b.1), (4, .int .i64 b.2.1), (5, .int .i64 b.2.2)]) mixed (by decide) (by decide) (by decide) (by decide) (by decide) (by decide) (by decide) 38 O (by decide) (by decide) (by decide) (Ent.refl _) ?_ ?_ (fun _ => ⟨O, O, O, O, trivial⟩) ?_
 exact (aq O (fun γ => qm O (.o (s := 0) O (by decide) .nil) O) (aq O (fun γ => qp O O (.v 0 O O .nil) (cj O O) O) (aq O (fun γ => qp O O (.v 1 O O .nil) (aw O O underlying149 O O sizeOf25 O) O) (aq O (fun γ => qp O O (.v 2 O O .nil) (ai O O isAgg25 (.obj 0 O O)) O) (aq O (fun γ => qm O (.o (s := 0) O (by decide) .nil) O) (aq O (fun γ => qp O O (.v 4 O O .nil) (cj O O) O) (aq O (fun γ => qp O O (.v 5 O O .nil) (aw O O underlying149 O O sizeOf3 O) O) (aq O (fun γ => qp O O (.v 6 O O .nil) (ai O O isAgg3 (.obj 0 O O)) O) (aq O (fun γ => qm O (.v 8 O O .nil) O) (aq O (fun γ => qp O O (.v 9 O O .nil) (bh O O O) O) (aq O (fun γ => qp O O (.v 9 O O .nil) (bh O O O) O) (aq O (fun γ => qp O O (.v 9 O O .nil) (bh O O O) O) (aq O (fun γ => qp O O (.v 10 O O .nil) (dA O O) O) (aq O (fun γ => qp O O (.v 11 O O .nil) (dA O O) O) (aq O (fun γ => qp O O (.v 12 O O .nil) (dA O O) O) zA)))))))))))))))
 exact (ac (fun γ => eo (Z := Unit) (fun z => ()) O O (.v 3 O O (.v 7 O O .nil)) (ar (val := fun (r : Int × Int × Int) (y : Unit) => .tuple #[.int .i64 r.1, .int .i64 r.2.1, .int .i64 r.2.2]) (B := fun _ _ => []) (vs := [.slice d a.length c, .int .i64 e]) (cap := []) (A := []) (rst := [obj b0 149 [.slice d a.length c, .int .i64 e, .int .i64 g], F]) O O O O O O call147 (.sel 0 O (.sel 0 O (.nil _))) (bM.calls _ _ k d c a e (m.lend 1 O) h l) n) (fun _ => ⟨O, O, O, O, O, O, O, O, trivial⟩) (fun _ => .inr O) (fun z => Ent.refl _)) zA)
 intro t
 refine ae (sr ?_)
 refine vm O O ?_
 refine vm O O ?_
 refine vn O O ?_
 refine vq (aw O O underlying149 O O sizeOf3 O) O ?_
 refine aX (aV 0 O O O sizeOf3 O O (aY (by rfl)) O O) O O ?_
 intro _
 refine nx ?_
 refine vm O O ?_
 refine vm O O ?_
 refine vn O O ?_
 refine vq (aw O O underlying149 O O sizeOf3 O) O ?_
 refine vq (ai O O isAgg3 (.obj 0 O O)) O ?_
 refine vm O O ?_
 refine vq (bj O O O) O ?_
 refine vn O O ?_
 refine vq (aw O O underlying149 O O sizeOf3 O) O ?_
 refine aX (aV 0 O O O sizeOf3 O O (aY (by rfl)) O O) O O ?_
 intro _
 refine nx ?_
 refine vm O O ?_
 refine va O O (ag (ae (ak ?_)))
 exact av () O O O (.sel 0 O (.sel 0 O (.nil _)))
 refine sr ?_
 refine va O O (ag (ae (ak ?_)))
 refine ax ?_
 exact av () O O O (.sel 0 O (.sel 0 O (.nil _)))

def dr.f (k : Nat) (b : List UInt8) (c : Int) (e : Int) (x1 : Int) : Option (List UInt8 × Int × Int) := (cr.f k b c e).bind fun a => (if a.2.2 = (0 : Int) then ((if max x1 (0 : Int) < a.1 then (some 3) else (if IntKind.i64.wrap ((b.length : Int) - a.2.1) < a.1 then (some 2) else (some a.2.2))).bind fun d => (if d = (0 : Int) then (if 0 ≤ IntKind.i64.wrap ((IntKind.i64.wrap (a.2.1 + a.1)) - a.1) ∧ IntKind.i64.wrap ((IntKind.i64.wrap (a.2.1 + a.1)) - a.1) ≤ IntKind.i64.wrap (a.2.1 + a.1) ∧ IntKind.i64.wrap (a.2.1 + a.1) ≤ (b.length : Int) then ((bl.f (cut b (IntKind.i64.wrap ((IntKind.i64.wrap (a.2.1 + a.1)) - a.1)) (IntKind.i64.wrap (a.2.1 + a.1)))).bind fun g => (some (g, IntKind.i64.wrap (a.2.1 + a.1), d))) else none) else (some (([] : List UInt8), c, d)))) else (some (([] : List UInt8), a.2.1, a.2.2)))
theorem dr.calls (W : World) (F : HA) (k : Nat) (b0 : Nat) (d : Option Addr) (c : Nat) (b : List UInt8) (e : Int) (h : Int) (x1 : Int) (u : Rd F d (ao b)) (m : b.length ≤ c) (q : c ≤ maxLen) :
    Fn Tryz.prog W 102 [.pointer (some ⟨b0, 0, none⟩), .int .i64 x1] [obj b0 149 [.slice d b.length c, .int .i64 e, .int .i64 h]] F (dr.f k b e h x1) (fun (r : List UInt8 × Int × Int) (y : Option Addr × Nat) => .slice y.1 r.1.length y.2) (fun r y => [Row 5 1 y.1 r.1.length y.2 (ao r.1), obj b0 149 [.slice d b.length c, .int .i64 r.2.1, .int .i64 r.2.2]]) := by
 unfold dr.f
 refine aJ 74 Tryz.func102 O Tryz.ntmps102 O ?_
 refine sr ?_
 refine va O O (nx ?_)
 refine vm O O ?_
 refine vn O O ?_
 refine vq (aw O O underlying149 O O sizeOf3 O) O ?_
 refine vq (ai O O isAgg3 (.obj 0 O O)) O ?_
 refine va O O (nx ?_)
 refine vm O O ?_
 refine am (fun a an => ?_)
 refine ah (ar (vs := [.pointer (some ⟨b0, 0, none⟩)]) (cap := []) (A := [obj b0 149 [.slice d b.length c, .int .i64 e, .int .i64 h]]) (rst := [F]) O O O O O O call101 (.sel 0 O (.sel 0 O (.nil _))) (cr.calls _ _ k b0 d c b e h (u.lend 0 O) m q) an) O O O ?_
 intro a5
 refine va O O (ag (ae (ap (sr ?_))))
 refine vm O O ?_
 refine vn O O ?_
 refine vq (aw O O underlying149 O O sizeOf3 O) O ?_
 refine vq (ai O O isAgg3 (.obj 0 O O)) O ?_
 refine vq (cz O O O) O (ag (ae ?_))
 refine br O (fun a6 => ?_) (fun a7 => ?_)
 refine au ?_
 refine ae ?_
 refine bO (S := Int) (Unit) (fun s y => [(0, .pointer (some ⟨b0, 0, none⟩)), (5, .int .i64 e), (6, .int .i64 a.1)]) (fun s y => [obj b0 149 [.slice d b.length c, .int .i64 a.2.1, .int .i64 s], F]) ?_ ?_
 refine sr ?_
 refine vm O O ?_
 refine vm O O ?_
 refine vq (kM O O O) O ?_
 refine vq (dw O O O) O (ag (ae ?_))
 refine aL O (fun a8 => ?_) (fun a9 => ?_)
 refine aE ?_
 refine vm O O ?_
 refine vn O O ?_
 refine vq (aw O O underlying149 O O sizeOf3 O) O ?_
 refine aX (aV 0 O O O sizeOf3 O O (aY (by rfl)) O O) O O ?_
 intro _
 refine ag ?_
 exact aM (s := 3) () ⟨O, O, O, trivial⟩ (.sel 0 O (.sel 0 O (.nil _)))
 refine ap ?_
 refine bp (Γ := Unit) () [[], [], [1], [1, 2], [1, 2, 3], [1, 2, 3, 4], [], [6], [6, 7], [6, 7, 8], [1, 2, 3, 4, 5, 6, 7, 8, 9], rL 11] [] [0, 1, 2, 3, 4, 5, 6, 7, 8, 9, 10, 11] (fun i => [[0], [0], [0], [0], [0], [0], [0], [0], [0], [0], [0], [0]].getD i []) (fun i => [[], [], [], [], [], [], [], [], [], [], [], []].getD i []) (fun γ i => [.int .i64 a.1, .pointer (some ⟨b0, 0, none⟩), .pointer (some ⟨b0, 0, none⟩), .pointer (some ⟨b0, 0, none⟩), .slice d b.length c, .int .i64 (b.length : Int), .pointer (some ⟨b0, 0, none⟩), .pointer (some ⟨b0, 0, none⟩), .pointer (some ⟨b0, 1, none⟩), .int .i64 a.2.1, .int .i64 (IntKind.i64.wrap ((b.length : Int) - a.2.1)), .bool (decide (IntKind.i64.wrap ((b.length : Int) - a.2.1) < a.1))].getD i undef) (fun j γ => [[obj b0 149 [.slice d b.length c, .int .i64 a.2.1, .int .i64 a.2.2], F]].getD j []) (fun γ => [(0, .pointer (some ⟨b0, 0, none⟩)), (5, .int .i64 e), (6, .int .i64 a.1), (36, .bool (decide (IntKind.i64.wrap ((b.length : Int) - a.2.1) < a.1)))]) mixed (by decide) (by decide) (by decide) (by decide) (by decide) (by decide) (by decide) 74 O (by decide) (by decide) (by decide) (Ent.refl _) ?_ ?_ (fun _ => ⟨O, O, O, O, trivial⟩) ?_
 exact (aq O (fun γ => qm O (.o (s := 6) O (by decide) .nil) O) (aq O (fun γ => qm O (.o (s := 0) O (by decide) .nil) O) (aq O (fun γ => qp O O (.v 1 O O .nil) (cj O O) O) (aq O (fun γ => qp O O (.v 2 O O .nil) (aw O O underlying149 O O sizeOf25 O) O) (aq O (fun γ => qp O O (.v 3 O O .nil) (ai O O isAgg25 (.obj 0 O O)) O) (aq O (fun γ => qp O O (.v 4 O O .nil) (bi O O O underlying25) O) (aq O (fun γ => qm O (.o (s := 0) O (by decide) .nil) O) (aq O (fun γ => qp O O (.v 6 O O .nil) (cj O O) O) (aq O (fun γ => qp O O (.v 7 O O .nil) (aw O O underlying149 O O sizeOf3 O) O) (aq O (fun γ => qp O O (.v 8 O O .nil) (ai O O isAgg3 (.obj 0 O O)) O) (aq O (fun γ => qp O O (.v 5 O O (.v 9 O O .nil)) (ft O O O) O) (aq O (fun γ => qp O O (.v 0 O O (.v 10 O O .nil)) (dw O O O) O) zA))))))))))))
 exact zA
 intro a0
 refine ae ?_
 refine aL O (fun a1 => ?_) (fun a2 => ?_)
 refine aE ?_
 refine vm O O ?_
 refine vn O O ?_
 refine vq (aw O O underlying149 O O sizeOf3 O) O ?_
 refine aX (aV 0 O O O sizeOf3 O O (aY (by rfl)) O O) O O ?_
 intro _
 refine ag ?_
 exact aM (s := 2) () ⟨O, O, O, trivial⟩ (.sel 0 O (.sel 0 O (.nil _)))
 refine au ?_
 exact aM (s := a.2.2) () ⟨O, O, O, trivial⟩ (.sel 0 O (.sel 0 O (.nil _)))
 intro w bc
 refine ap (sr ?_)
 refine vm O O ?_
 refine vn O O ?_
 refine vq (aw O O underlying149 O O sizeOf3 O) O ?_
 refine vq (ai O O isAgg3 (.obj 0 O O)) O ?_
 refine vq (cz O O O) O (ag (ae ?_))
 refine br O (fun a3 => ?_) (fun a4 => ?_)
 refine au ?_
 refine ae (sr ?_)
 refine vm O O ?_
 refine vm O O ?_
 refine vn O O ?_
 refine vq (aw O O underlying149 O O sizeOf3 O) O ?_
 refine vq (ai O O isAgg3 (.obj 0 O O)) O ?_
 refine vm O O ?_
 refine vq (bj O O O) O ?_
 refine vn O O ?_
 refine vq (aw O O underlying149 O O sizeOf3 O) O ?_
 refine aX (aV 0 O O O sizeOf3 O O (aY (by rfl)) O O) O O ?_
 intro _
 refine ag (ae (ap ?_))
 refine bv (fun t => ?_)
 obtain ⟨n, p, aa, ab, ad, af⟩ := ex (lo := IntKind.i64.wrap ((IntKind.i64.wrap (a.2.1 + a.1)) - a.1)) (hi := IntKind.i64.wrap (a.2.1 + a.1)) u m t
 refine cu (fun g al => ?_)
 refine bp (Γ := (Option Addr × Nat)) (none, 0) [[], [0], [0, 1], [0, 1, 2], [], [4], [4, 5], [4, 5, 6], [], [4, 5, 6, 7, 8], [], [10], [10, 11], [10, 11, 12], rL 14, rL 15, rL 16] [15] [0, 1, 2, 3, 4, 5, 6, 7, 8, 9, 10, 11, 12, 13, 14, 16] (fun i => [[0], [0], [0], [0], [0], [0], [0], [0], [0], [0], [0], [0], [0], [0], [0], [], [1]].getD i []) (fun i => [[], [], [], [], [], [], [], [], [], [], [], [], [], [], [], rL 15, []].getD i []) (fun γ i => [.pointer (some ⟨b0, 0, none⟩), .pointer (some ⟨b0, 0, none⟩), .pointer (some ⟨b0, 0, none⟩), .slice d b.length c, .pointer (some ⟨b0, 0, none⟩), .pointer (some ⟨b0, 0, none⟩), .pointer (some ⟨b0, 1, none⟩), .int .i64 (IntKind.i64.wrap (a.2.1 + a.1)), .int .i64 a.1, .int .i64 (IntKind.i64.wrap ((IntKind.i64.wrap (a.2.1 + a.1)) - a.1)), .pointer (some ⟨b0, 0, none⟩), .pointer (some ⟨b0, 0, none⟩), .pointer (some ⟨b0, 1, none⟩), .int .i64 (IntKind.i64.wrap (a.2.1 + a.1)), .slice n ((cut b (IntKind.i64.wrap ((IntKind.i64.wrap (a.2.1 + a.1)) - a.1)) (IntKind.i64.wrap (a.2.1 + a.1))).length) p, .slice γ.1 g.length γ.2, .slice γ.1 g.length γ.2].getD i undef) (fun j γ => [[obj b0 149 [.slice d b.length c, .int .i64 (IntKind.i64.wrap (a.2.1 + a.1)), .int .i64 w], F], [Row 5 1 γ.1 g.length γ.2 (ao g), obj b0 149 [.slice d b.length c, .int .i64 (IntKind.i64.wrap (a.2.1 + a.1)), .int .i64 w], F]].getD j []) (fun γ => [(4, .slice γ.1 g.length γ.2)]) mixed (by decide) (by decide) (by decide) (by decide) (by decide) (by decide) (by decide) 74 O (by decide) (by decide) (by decide) (Ent.refl _) ?_ ?_ (fun _ => ⟨O, trivial⟩) ?_
 exact (aq O (fun γ => qm O (.o (s := 0) O (by decide) .nil) O) (aq O (fun γ => qp O O (.v 0 O O .nil) (cj O O) O) (aq O (fun γ => qp O O (.v 1 O O .nil) (aw O O underlying149 O O sizeOf25 O) O) (aq O (fun γ => qp O O (.v 2 O O .nil) (ai O O isAgg25 (.obj 0 O O)) O) (aq O (fun γ => qm O (.o (s := 0) O (by decide) .nil) O) (aq O (fun γ => qp O O (.v 4 O O .nil) (cj O O) O) (aq O (fun γ => qp O O (.v 5 O O .nil) (aw O O underlying149 O O sizeOf3 O) O) (aq O (fun γ => qp O O (.v 6 O O .nil) (ai O O isAgg3 (.obj 0 O O)) O) (aq O (fun γ => qm O (.o (s := 6) O (by decide) .nil) O) (aq O (fun γ => qp O O (.v 7 O O (.v 8 O O .nil)) (ft O O O) O) (aq O (fun γ => qm O (.o (s := 0) O (by decide) .nil) O) (aq O (fun γ => qp O O (.v 10 O O .nil) (cj O O) O) (aq O (fun γ => qp O O (.v 11 O O .nil) (aw O O underlying149 O O sizeOf3 O) O) (aq O (fun γ => qp O O (.v 12 O O .nil) (ai O O isAgg3 (.obj 0 O O)) O) (aq O (fun γ => qp O O (.v 3 O O (.v 9 O O (.v 13 O O .nil))) (dU (l := b) (lo' := IntKind.i64.wrap ((IntKind.i64.wrap (a.2.1 + a.1)) - a.1)) (hi' := IntKind.i64.wrap (a.2.1 + a.1)) O O O O underlying25 sizeOf5 (.inr ⟨_, O⟩) (.inr ⟨_, O⟩) t m aa) O) (aq O (fun γ => qp O O (.v 15 O O .nil) (dA O O) O) zA))))))))))))))))
 exact (ac (fun γ => eo (Z := Option Addr × Nat) (fun z => z) O O (.v 14 O O .nil) (ar (vs := [.slice n ((cut b (IntKind.i64.wrap ((IntKind.i64.wrap (a.2.1 + a.1)) - a.1)) (IntKind.i64.wrap (a.2.1 + a.1))).length) p]) (cap := []) (A := []) (rst := [obj b0 149 [.slice d b.length c, .int .i64 (IntKind.i64.wrap (a.2.1 + a.1)), .int .i64 w], F]) O O O O O O call89 (.sel 0 O (.sel 0 O (.nil _))) (bl.calls _ _ n p (cut b (IntKind.i64.wrap ((IntKind.i64.wrap (a.2.1 + a.1)) - a.1)) (IntKind.i64.wrap (a.2.1 + a.1))) (ab.lend 1 O) ad (Nat.le_trans af q)) al) (fun _ => ⟨O, O, O, O, O, O, O, O, O, O, O, O, O, O, O, trivial⟩) (fun _ => .inr O) (fun z => Ent.refl _)) zA)
 intro x
 refine ae (ak ?_)
 exact av (x.1, x.2) O O O (.sel 0 O (.sel 0 O (.sel 0 O (.nil _))))
 refine sr ?_
 refine vm O O ?_
 refine vm O O ?_
 refine vn O O ?_
 refine vq (aw O O underlying149 O O sizeOf3 O) O ?_
 refine aX (aV 0 O O O sizeOf3 O O (aY (by rfl)) O O) O O ?_
 intro _
 refine nx ?_
 refine va O O (ag (ae (ak ?_)))
 refine ax ?_
 exact av (none, 0) O O O (.row_nil (.sel 0 O (.sel 0 O (.nil _))))
 refine sr ?_
 refine va O O (ag (ae (ak ?_)))
 refine ax ?_
 exact av (none, 0) O O O (.row_nil (.sel 0 O (.sel 0 O (.nil _))))

def bW.f (a : List UInt8) (b : Int) (c : Int) : Option (Int) := some (IntKind.i64.wrap ((a.length : Int) - b))
theorem bW.calls (W : World) (F : HA) (b0 : Nat) (d : Option Addr) (c : Nat) (a : List UInt8) (b : Int) (e : Int) (k : Rd F d (ao a)) (g : a.length ≤ c) (h : c ≤ maxLen) :
    Fn Tryz.prog W 148 [.pointer (some ⟨b0, 0, none⟩)] [obj b0 149 [.slice d a.length c, .int .i64 b, .int .i64 e]] F (bW.f a b e) (fun (r : Int) (y : Unit) => .int .i64 r) (fun r y => [obj b0 149 [.slice d a.length c, .int .i64 b, .int .i64 e]]) := by
 unfold bW.f
 refine aJ 13 Tryz.func148 O Tryz.ntmps148 O ?_
 refine sr ?_
 refine va O O (ag (ae (ap ?_)))
 refine bp (Γ := Unit) () [[], [0], [0, 1], [0, 1, 2], rL 4, [], [5], [5, 6], [5, 6, 7], rL 9, rL 10] [] [0, 1, 2, 3, 4, 5, 6, 7, 8, 9, 10] (fun i => [[0], [0], [0], [0], [0], [0], [0], [0], [0], [0], [0]].getD i []) (fun i => [[], [], [], [], [], [], [], [], [], [], []].getD i []) (fun γ i => [.pointer (some ⟨b0, 0, none⟩), .pointer (some ⟨b0, 0, none⟩), .pointer (some ⟨b0, 0, none⟩), .slice d a.length c, .int .i64 (a.length : Int), .pointer (some ⟨b0, 0, none⟩), .pointer (some ⟨b0, 0, none⟩), .pointer (some ⟨b0, 1, none⟩), .int .i64 b, .int .i64 (IntKind.i64.wrap ((a.length : Int) - b)), .int .i64 (IntKind.i64.wrap ((a.length : Int) - b))].getD i undef) (fun j γ => [[obj b0 149 [.slice d a.length c, .int .i64 b, .int .i64 e], F]].getD j []) (fun γ => [(2, .int .i64 (IntKind.i64.wrap ((a.length : Int) - b)))]) mixed (by decide) (by decide) (by decide) (by decide) (by decide) (by decide) (by decide) 13 O (by decide) (by decide) (by decide) (Ent.refl _) ?_ ?_ (fun _ => ⟨O, trivial⟩) ?_
 exact (aq O (fun γ => qm O (.o (s := 0) O (by decide) .nil) O) (aq O (fun γ => qp O O (.v 0 O O .nil) (cj O O) O) (aq O (fun γ => qp O O (.v 1 O O .nil) (aw O O underlying149 O O sizeOf25 O) O) (aq O (fun γ => qp O O (.v 2 O O .nil) (ai O O isAgg25 (.obj 0 O O)) O) (aq O (fun γ => qp O O (.v 3 O O .nil) (bi O O O underlying25) O) (aq O (fun γ => qm O (.o (s := 0) O (by decide) .nil) O) (aq O (fun γ => qp O O (.v 5 O O .nil) (cj O O) O) (aq O (fun γ => qp O O (.v 6 O O .nil) (aw O O underlying149 O O sizeOf3 O) O) (aq O (fun γ => qp O O (.v 7 O O .nil) (ai O O isAgg3 (.obj 0 O O)) O) (aq O (fun γ => qp O O (.v 4 O O (.v 8 O O .nil)) (ft O O O) O) (aq O (fun γ => qp O O (.v 9 O O .nil) (dA O O) O) zA)))))))))))
 exact zA
 intro l
 refine ae (ak ?_)
 exact av () O O O (.sel 0 O (.sel 0 O (.nil _)))
def bW.v (a : List UInt8) (b : Int) (c : Int) : Int := (bW.f a b c).getD 0
theorem bW.tot (a : List UInt8) (b : Int) (c : Int) : bW.f a b c = some (bW.v a b c) := by
  have h : ∃ r, bW.f a b c = some r := by
    unfold bW.f
    repeat' (first | exact ⟨_, rfl⟩ | split | simp only [Option.bind_some])
  obtain ⟨r, h⟩ := h
  unfold bW.v
  rw [h]; rfl

def dW.f (b : List UInt8) (c : Int) (a : Int) : Option (Int) := (if a = (0 : Int) then ((bW.f b c a).bind fun d => (some (decide ((0 : Int) < d)))) else (some false)).bind fun e => (if e = true then (some 3) else (some a))
theorem dW.calls (W : World) (F : HA) (b0 : Nat) (c : Option Addr) (b : Nat) (a : List UInt8) (d : Int) (e : Int) (i : Rd F c (ao a)) (g : a.length ≤ b) (h : b ≤ maxLen) :
    Fn Tryz.prog W 103 [.pointer (some ⟨b0, 0, none⟩)] [obj b0 149 [.slice c a.length b, .int .i64 d, .int .i64 e]] F (dW.f a d e) (fun (r : Int) (y : Unit) => .int .i64 r) (fun r y => [obj b0 149 [.slice c a.length b, .int .i64 d, .int .i64 e]]) := by
 unfold dW.f
 refine aJ 17 Tryz.func103 O Tryz.ntmps103 O ?_
 refine sr ?_
 refine va O O (ag (ae (ap (sr ?_))))
 refine vm O O ?_
 refine vn O O ?_
 refine vq (aw O O underlying149 O O sizeOf3 O) O ?_
 refine vq (ai O O isAgg3 (.obj 0 O O)) O ?_
 refine vq (bD O O O) O ?_
 refine vm O O ?_
 refine dk 4 (S := Bool) (Unit) (fun s y => [(0, .pointer (some ⟨b0, 0, none⟩)), (12, .bool s)]) (fun s y => [obj b0 149 [.slice c a.length b, .int .i64 d, .int .i64 e], F]) ?_ ?_
 refine iH (fun j => ?_) (fun k => ?_)
 rw [j]
 refine aO (aS O O) O O O O O O ?_
 refine am (fun m l => ?_)
 refine fk (ar (vs := [.pointer (some ⟨b0, 0, none⟩)]) (cap := []) (A := [obj b0 149 [.slice c a.length b, .int .i64 d, .int .i64 e]]) (rst := [F]) O O O O O O call148 (.sel 0 O (.sel 0 O (.nil _))) (bW.calls _ _ b0 c b a d e (i.lend 0 O) g h) l) O O O O O O ?_
 intro n
 refine aO (dw O O O) O O O O O O ?_
 refine vq (bL O O O O O) O (ag ?_)
 exact aM (s := decide ((0 : Int) < m)) () ⟨O, O, trivial⟩ (.sel 0 O (.sel 0 O (.nil _)))
 rw [k]
 refine aI O O O O O O ?_
 refine aI O O O O O O ?_
 refine aI O O O O O O ?_
 refine vq (bL O O O O O) O (ag ?_)
 exact aM (s := false) () ⟨O, O, trivial⟩ (.sel 0 O (.sel 0 O (.nil _)))
 intro o p
 refine ag (ae ?_)
 refine aT O (fun q => ?_) (fun t => ?_)
 refine sr ?_
 refine va O O (ag (ae (ak ?_)))
 refine ax ?_
 exact av () O O O (.sel 0 O (.sel 0 O (.nil _)))
 refine au ?_
 refine ae (sr ?_)
 refine vm O O ?_
 refine vn O O ?_
 refine vq (aw O O underlying149 O O sizeOf3 O) O ?_
 refine vq (ai O O isAgg3 (.obj 0 O O)) O ?_
 refine va O O (ag (ae (ak ?_)))
 exact av () O O O (.sel 0 O (.sel 0 O (.nil _)))

def fh.f (k : Nat) (x0 : List UInt8) : Option (Int × Int × List UInt8 × Int) := (cr.f k x0 (0 : Int) (0 : Int)).bind fun b => ((cr.f k x0 b.2.1 b.2.2).bind fun c => ((dr.f k x0 c.2.1 c.2.2 (524288 : Int)).bind fun d => ((dW.f x0 d.2.1 d.2.2).bind fun e => ((if e = (0 : Int) then ((dC.f b.1 c.1 d.1).bind fun g => (some g)) else (some e)).bind fun a => (if a = (0 : Int) then (some (b.1, c.1, d.1, a)) else (some (0, 0, ([] : List UInt8), a)))))))
theorem fh.calls (W : World) (F : HA) (k : Nat) (a0 : Option Addr) (c0 : Nat) (x0 : List UInt8) (h0 : Rd F a0 (ao x0)) (i : x0.length ≤ c0) (j : c0 ≤ maxLen) :
    Fn Tryz.prog W 58 [.slice a0 x0.length c0] [] F (fh.f k x0) (fun (r : Int × Int × List UInt8 × Int) (y : Option Addr × Nat) => .tuple #[.agg #[.int .i64 r.1, .int .i64 r.2.1, .slice y.1 r.2.2.1.length y.2], .int .i64 r.2.2.2]) (fun r y => [Row 5 1 y.1 r.2.2.1.length y.2 (ao r.2.2.1)]) := by
 unfold fh.f
 refine aJ 29 Tryz.func58 O Tryz.ntmps58 O ?_
 refine sr ?_
 refine ah (df O zeroValue27 O) O O O ?_
 intro g
 refine va O O (nx ?_)
 refine vm O O ?_
 refine vq (eb (v := .agg #[.slice a0 x0.length c0, .int .i64 0, .int .i64 0]) O O (fun _ => by kernel_rfl)) O ?_
 refine ah (dL O O O) O O O ?_
 intro c
 refine va O O (nx ?_)
 refine vm O O ?_
 refine am (fun d u => ?_)
 refine ah (ar (vs := [.pointer (some ⟨c, 0, none⟩)]) (cap := []) (A := [obj c 149 [.slice a0 x0.length c0, .int .i64 0, .int .i64 0]]) (rst := [obj g 27 [.int .i64 0, .int .i64 0, .slice none 0 0], F]) O O O O O O call101 (.sel 0 O (.sel 0 O (.sel 0 O (.nil _)))) (cr.calls _ _ k c a0 c0 x0 (0 : Int) (0 : Int) (h0.lend 1 O) i j) u) O O O ?_
 intro a3
 refine vm O O ?_
 refine am (fun e w => ?_)
 refine ah (ar (vs := [.pointer (some ⟨c, 0, none⟩)]) (cap := []) (A := [obj c 149 [.slice a0 x0.length c0, .int .i64 d.2.1, .int .i64 d.2.2]]) (rst := [obj g 27 [.int .i64 0, .int .i64 0, .slice none 0 0], F]) O O O O O O call101 (.sel 0 O (.sel 0 O (.sel 0 O (.nil _)))) (cr.calls _ _ k c a0 c0 x0 d.2.1 d.2.2 (h0.lend 1 O) i j) w) O O O ?_
 intro a4
 refine vm O O ?_
 refine am (fun b m => ?_)
 refine ah (ar (vs := [.pointer (some ⟨c, 0, none⟩), .int .i64 524288]) (cap := []) (A := [obj c 149 [.slice a0 x0.length c0, .int .i64 e.2.1, .int .i64 e.2.2]]) (rst := [obj g 27 [.int .i64 0, .int .i64 0, .slice none 0 0], F]) O O O O O O call102 (.sel 0 O (.sel 0 O (.sel 0 O (.nil _)))) (dr.calls _ _ k c a0 c0 x0 e.2.1 e.2.2 (524288 : Int) (h0.lend 1 O) i j) m) O O O ?_
 intro a
 refine vq (eb (v := .agg #[.int .i64 d.1, .int .i64 e.1, .slice a.1 b.1.length a.2]) O O (fun _ => by kernel_rfl)) O ?_
 refine ah (df O zeroValue27 O) O O O ?_
 intro h
 refine aX (aV 0 O O O sizeOf27 O O (aY (by rfl)) O O) O O ?_
 intro _
 refine nx ?_
 refine vm O O ?_
 refine am (fun x n => ?_)
 refine ah (ar (vs := [.pointer (some ⟨c, 0, none⟩)]) (cap := []) (A := [obj c 149 [.slice a0 x0.length c0, .int .i64 b.2.1, .int .i64 b.2.2]]) (rst := [obj h 27 [.int .i64 d.1, .int .i64 e.1, .slice a.1 b.1.length a.2], Row 5 1 a.1 b.1.length a.2 (ao b.1), obj g 27 [.int .i64 0, .int .i64 0, .slice none 0 0], F]) O O O O O O call103 (.sel 2 O (.sel 0 O (.sel 0 O (.sel 0 O (.sel 0 O (.nil _)))))) (dW.calls _ _ c a0 c0 x0 b.2.1 b.2.2 (h0.lend 3 O) i j) n) O O O ?_
 intro ab
 refine va O O (ag (ae ?_))
 refine bO (S := Int) (Unit) (fun s y => [(2, .pointer (some ⟨g, 0, none⟩)), (5, .pointer (some ⟨h, 0, none⟩)), (6, .int .i64 s)]) (fun s y => [obj h 27 [.int .i64 d.1, .int .i64 e.1, .slice a.1 b.1.length a.2], obj g 27 [.int .i64 0, .int .i64 0, .slice none 0 0], Row 5 1 a.1 b.1.length a.2 (ao b.1), F]) ?_ ?_
 refine sr ?_
 refine vm O O ?_
 refine vq (bD O O O) O (ag (ae ?_))
 refine aL O (fun ad => ?_) (fun af => ?_)
 refine aE ?_
 refine vq (du 1 O O isAgg27 sizeOf27 O O) O ?_
 refine am (fun z o => ?_)
 refine bf 2 O (fun p q t aa => ?_)
 refine ah (ar (vs := [.agg #[.int .i64 d.1, .int .i64 e.1, .slice a.1 b.1.length a.2]]) (cap := []) (A := []) (rst := [obj c 149 [.slice a0 x0.length c0, .int .i64 b.2.1, .int .i64 b.2.2], obj h 27 [.int .i64 d.1, .int .i64 e.1, .slice a.1 b.1.length a.2], Row 5 1 a.1 b.1.length a.2 (ao b.1), obj g 27 [.int .i64 0, .int .i64 0, .slice none 0 0], F]) O O O O O O call104 (.sel 0 O (.sel 0 O (.sel 0 O (.sel 0 O (.sel 0 O (.nil _)))))) (dC.calls _ _ d.1 e.1 a.1 a.2 b.1 (p.lend 2 O) q t) o) O O O ?_
 intro al
 refine va O O (ag ?_)
 exact aM (s := z) () ⟨O, O, O, trivial⟩ (.sel 1 O (.sel 2 O (.sel 1 O (.sel 1 O (.nil _)))))
 refine au ?_
 exact aM (s := x) () ⟨O, O, O, trivial⟩ (.sel 1 O (.sel 2 O (.sel 1 O (.sel 1 O (.nil _)))))
 intro l an
 refine ap (sr ?_)
 refine vm O O ?_
 refine vq (cz O O O) O (ag (ae ?_))
 refine br O (fun a1 => ?_) (fun a2 => ?_)
 refine au ?_
 refine ae (sr ?_)
 refine vq (du 0 O O isAgg27 sizeOf27 O O) O ?_
 refine vm O O ?_
 refine aX (aV 1 O O O sizeOf27 O O (aY (by rfl)) O O) O O ?_
 intro _
 refine va O O (ag (ae (ak ?_)))
 exact gi (vs := [.agg #[.int .i64 d.1, .int .i64 e.1, .slice a.1 b.1.length a.2], .int .i64 l]) (a.1, a.2) O ⟨⟨g, O, fy 1 isAgg27 sizeOf27 O O⟩, O, trivial⟩ O (.sel 2 O (.sel 2 O (.nil _)))
 refine sr ?_
 refine vq (eb (v := .agg #[.int .i64 0, .int .i64 0, .slice none 0 0]) O O (fun _ => by kernel_rfl)) O ?_
 refine vm O O ?_
 refine aX (aV 1 O O O sizeOf27 O O (aY (by rfl)) O O) O O ?_
 intro _
 refine va O O (ag (ae (ak ?_)))
 refine ax ?_
 exact gi (vs := [.agg #[.int .i64 0, .int .i64 0, .slice none 0 0], .int .i64 l]) (none, 0) O ⟨⟨g, O, fy 1 isAgg27 sizeOf27 O O⟩, O, trivial⟩ O (.row_nil (.sel 3 O (.nil _)))
end Go.Proofs.YtjkjlggbikeliaaGreatDoor

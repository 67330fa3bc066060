/- Texts that lead to the law WalSplits: G6. Conditions: as each says. -/
import Derived.Test.YtndjkejhacfpdaaGreatDoorM7
namespace Go.Proofs.YtndjkejhacfpdaaGreatDoor
open Go.RowKit _root_.Go.Proofs.Tryz
set_option linter.unusedVariables false
set_option linter.unusedSimpArgs false
set_option maxRecDepth 20000
set_option maxHeartbeats 20000000
def bm.l1 (q : (List ((List UInt8) × (List UInt8 × Int))) × List UInt8 × Int × Bool × Int × List Int × Int × Int × Int × Int × Int × Int × (List (aG)) × Bool) (b : List (cV)) (d : (List ((List UInt8) × (List UInt8 × Int))) × List UInt8 × Int × Bool) : Nat → Int → Int → List Int → Int → Int → Int → Int → Int → Int → List (aG) → Bool → Option ((List ((List UInt8) × (List UInt8 × Int))) × List UInt8 × Int × Bool × Int × List Int × Int × Int × Int × Int × Int × Int × (List (aG)) × Bool)
  | 0, _, _, _, _, _, _, _, _, _, _, _ => none
  | k + 1, a, e, g, h, i, j, l, m, n, o, p => if a < (b.length : Int) then (if 0 ≤ a ∧ a < (b.length : Int) then ((dy.f d.1 d.2.1 d.2.2.1 d.2.2.2 e g h i j l m n o p ((b.getD a.toNat aI).1) ((b.getD a.toNat aI).2.1) ((b.getD a.toNat aI).2.2.1) ((b.getD a.toNat aI).2.2.2.1) ((b.getD a.toNat aI).2.2.2.2.1) ((b.getD a.toNat aI).2.2.2.2.2.1) ((b.getD a.toNat aI).2.2.2.2.2.2.1) ((b.getD a.toNat aI).2.2.2.2.2.2.2.1) ((b.getD a.toNat aI).2.2.2.2.2.2.2.2.1) ((b.getD a.toNat aI).2.2.2.2.2.2.2.2.2.1) ((b.getD a.toNat aI).2.2.2.2.2.2.2.2.2.2) (q.2.2.2.2.2.1.getD (IntKind.i64.wrap ((q.2.2.2.2.2.1.length : Int) - 1)).toNat (0 : Int))).bind fun c => (bm.l1 q b d k (IntKind.i64.wrap (a + 1)) c.2.1 c.2.2.1 c.2.2.2.1 c.2.2.2.2.1 c.2.2.2.2.2.1 c.2.2.2.2.2.2.1 c.2.2.2.2.2.2.2.1 c.2.2.2.2.2.2.2.2.1 c.2.2.2.2.2.2.2.2.2.1 c.2.2.2.2.2.2.2.2.2.2)) else none) else (some (d.1, d.2.1, d.2.2.1, d.2.2.2, e, g, h, i, j, l, m, n, o, p))
def bm.l0 (b : List (cV)) : Nat → List UInt8 → Int → Option (List UInt8)
  | 0, _, _ => none
  | k + 1, c, a => if a < (b.length : Int) then (if 0 ≤ a ∧ a < (b.length : Int) then ((dn.f k ((b.getD a.toNat aI).1) ((b.getD a.toNat aI).2.1) ((b.getD a.toNat aI).2.2.1) ((b.getD a.toNat aI).2.2.2.1) ((b.getD a.toNat aI).2.2.2.2.1) ((b.getD a.toNat aI).2.2.2.2.2.1) ((b.getD a.toNat aI).2.2.2.2.2.2.1) ((b.getD a.toNat aI).2.2.2.2.2.2.2.1) ((b.getD a.toNat aI).2.2.2.2.2.2.2.2.1) ((b.getD a.toNat aI).2.2.2.2.2.2.2.2.2.1) ((b.getD a.toNat aI).2.2.2.2.2.2.2.2.2.2)).bind fun d => (if (c.length + d.length) * 1 ≤ 140737488355328 then (bm.l0 b k (c ++ d) (IntKind.i64.wrap (a + 1))) else none)) else none) else (some c)
def bm.f (k : Nat) (l : List ((List UInt8) × (List UInt8 × Int))) (m : List UInt8) (n : Int) (o : Bool) (g : Int) (c : List Int) (h : Int) (p : Int) (q : Int) (r : Int) (s : Int) (t : Int) (u : List (aG)) (i : Bool) (w : Bool) (x : Int) (y : Int) (z : Int) (ab : Int) (ad : Int) (af : List (bz)) : Option ((List ((List UInt8) × (List UInt8 × Int))) × List UInt8 × Int × Bool × Int × List Int × Int × Int × Int × Int × Int × Int × (List (aG)) × Bool) := (if g ≤ h then (if 0 ≤ IntKind.i64.wrap ((c.length : Int) - 1) ∧ IntKind.i64.wrap ((c.length : Int) - 1) < (c.length : Int) then ((cr.f k (c.getD (IntKind.i64.wrap ((c.length : Int) - 1)).toNat (0 : Int))).bind fun al => ((cK.f l m n o al).bind fun e => ((bw.f e.1).bind fun a1 => ((de.f k e.2.1 e.2.2.1 e.2.2.2.1 e.2.2.2.2 g c h p q r s t u i (IntKind.i64.wrap ((c.getD (IntKind.i64.wrap ((c.length : Int) - 1)).toNat (0 : Int)) + 1))).bind fun b => (some (b.1, b.2.1, b.2.2.1, b.2.2.2.1, b.2.2.2.2.1, b.2.2.2.2.2.1, b.2.2.2.2.2.2.1, b.2.2.2.2.2.2.2.1, b.2.2.2.2.2.2.2.2.1, b.2.2.2.2.2.2.2.2.2.1, b.2.2.2.2.2.2.2.2.2.2.1, b.2.2.2.2.2.2.2.2.2.2.2.1, b.2.2.2.2.2.2.2.2.2.2.2.2.1, b.2.2.2.2.2.2.2.2.2.2.2.2.2)))))) else none) else (some (l, m, n, o, g, c, h, p, q, r, s, t, u, i))).bind fun a => (if 0 ≤ IntKind.i64.wrap ((a.2.2.2.2.2.1.length : Int) - 1) ∧ IntKind.i64.wrap ((a.2.2.2.2.2.1.length : Int) - 1) < (a.2.2.2.2.2.1.length : Int) then ((bZ.f k a.1 a.2.1 a.2.2.1 a.2.2.2.1 a.2.2.2.2.1 a.2.2.2.2.2.1 a.2.2.2.2.2.2.1 a.2.2.2.2.2.2.2.1 a.2.2.2.2.2.2.2.2.1 a.2.2.2.2.2.2.2.2.2.1 a.2.2.2.2.2.2.2.2.2.2.1 a.2.2.2.2.2.2.2.2.2.2.2.1 a.2.2.2.2.2.2.2.2.2.2.2.2.1 a.2.2.2.2.2.2.2.2.2.2.2.2.2 w x y z ab ad af).bind fun j => ((bm.l0 j k ([] : List UInt8) 0).bind fun v => ((if (0 : Int) < (j.length : Int) then ((cr.f k (a.2.2.2.2.2.1.getD (IntKind.i64.wrap ((a.2.2.2.2.2.1.length : Int) - 1)).toNat (0 : Int))).bind fun an => ((dA.f a.1 a.2.1 a.2.2.1 a.2.2.2.1 an v).bind fun d => ((bw.f d.1).bind fun a0 => (some (d.2.1, d.2.2.1, d.2.2.2.1, d.2.2.2.2))))) else (some (a.1, a.2.1, a.2.2.1, a.2.2.2.1))).bind fun az => (bm.l1 a j az k 0 a.2.2.2.2.1 a.2.2.2.2.2.1 (IntKind.i64.wrap (a.2.2.2.2.2.2.1 + (v.length : Int))) a.2.2.2.2.2.2.2.1 a.2.2.2.2.2.2.2.2.1 a.2.2.2.2.2.2.2.2.2.1 a.2.2.2.2.2.2.2.2.2.2.1 a.2.2.2.2.2.2.2.2.2.2.2.1 a.2.2.2.2.2.2.2.2.2.2.2.2.1 a.2.2.2.2.2.2.2.2.2.2.2.2.2)))) else none)
theorem bm.calls (W : World) (F : HA) (k : Nat) (a3 : Nat) (g : Nat) (n : Nat) (b2 : Nat) (b3 : Kps) (cs : List ((List UInt8) × (List UInt8 × Int))) (c0 : List UInt8) (c1 : Int) (c2 : Bool) (bt : Int) (a5 : Option Addr) (a6 : Nat) (p : List Int) (b0 : Int) (b6 : Int) (b7 : Int) (b8 : Int) (b9 : Int) (cd : Int) (a9 : Option Addr) (bc : Nat) (a8 : List (aG)) (b4 : HA) (b1 : Bool) (a7 : Nat) (w : Bool) (x : Int) (ab : Int) (ad : Int) (af : Int) (al : Int) (an : Option Addr) (u : Nat) (q : List (bz)) (g5 : RdV F 4 (V35 F) an q) (e0 : q.length ≤ u) (e1 : u ≤ maxLen) (hgl : Glb Tryz.prog F) :
    Fn Tryz.prog W 50 [.pointer (some ⟨a3, 0, none⟩), .pointer (some ⟨a7, 0, none⟩)] [obj n 97 [.map (some b2), str c0, .int .i64 c1, .bool c2], am (aj b2 ao ak b3) ai b3 cs, obj g 91 [.pointer (some ⟨n, 0, none⟩), .int .i64 bt, .slice a5 p.length a6, .int .i64 b0, .int .i64 b6, .int .i64 b7, .int .i64 b8, .int .i64 b9, .int .i64 cd, .slice a9 a8.length bc, .bool b1], ap 3 1 (V3 tt) a5 p a6, ap 144 5 (aQ b4) a9 a8 bc, b4, obj a3 36 [.pointer (some ⟨g, 0, none⟩)], obj a7 45 [.bool w, .int .i64 x, .int .i64 ab, .int .i64 ad, .int .i64 af, .int .i64 al, .slice an q.length u]] F (bm.f k cs c0 c1 c2 bt p b0 b6 b7 b8 b9 cd a8 b1 w x ab ad af al q) (fun (r : (List ((List UInt8) × (List UInt8 × Int))) × List UInt8 × Int × Bool × Int × List Int × Int × Int × Int × Int × Int × Int × (List (aG)) × Bool) (y : Nat × Kps × Option Addr × Nat × Option Addr × Nat × HA) => .tuple #[]) (fun r y => [obj n 97 [.map (some y.1), str r.2.1, .int .i64 r.2.2.1, .bool r.2.2.2.1], am (aj y.1 ao ak y.2.1) ai y.2.1 r.1, obj g 91 [.pointer (some ⟨n, 0, none⟩), .int .i64 r.2.2.2.2.1, .slice y.2.2.1 r.2.2.2.2.2.1.length y.2.2.2.1, .int .i64 r.2.2.2.2.2.2.1, .int .i64 r.2.2.2.2.2.2.2.1, .int .i64 r.2.2.2.2.2.2.2.2.1, .int .i64 r.2.2.2.2.2.2.2.2.2.1, .int .i64 r.2.2.2.2.2.2.2.2.2.2.1, .int .i64 r.2.2.2.2.2.2.2.2.2.2.2.1, .slice y.2.2.2.2.1 r.2.2.2.2.2.2.2.2.2.2.2.2.1.length y.2.2.2.2.2.1, .bool r.2.2.2.2.2.2.2.2.2.2.2.2.2], ap 3 1 (V3 tt) y.2.2.1 r.2.2.2.2.2.1 y.2.2.2.1, ap 144 5 (aQ (y.2.2.2.2.2.2)) y.2.2.2.2.1 r.2.2.2.2.2.2.2.2.2.2.2.2.1 y.2.2.2.2.2.1, y.2.2.2.2.2.2, obj a3 36 [.pointer (some ⟨g, 0, none⟩)], obj a7 45 [.bool w, .int .i64 x, .int .i64 ab, .int .i64 ad, .int .i64 af, .int .i64 al, .slice an q.length u]]) := by
 unfold bm.f
 refine aN 103 Tryz.func50 O Tryz.ntmps50 O ?_
 refine bE (S := (List ((List UInt8) × (List UInt8 × Int))) × List UInt8 × Int × Bool × Int × List Int × Int × Int × Int × Int × Int × Int × (List (aG)) × Bool) (Nat × Kps × Option Addr × Nat × HA × Option Addr × Nat) (fun s y => [(0, .pointer (some ⟨a3, 0, none⟩)), (1, .pointer (some ⟨a7, 0, none⟩))]) (fun s y => [obj n 97 [.map (some y.1), str s.2.1, .int .i64 s.2.2.1, .bool s.2.2.2.1], obj g 91 [.pointer (some ⟨n, 0, none⟩), .int .i64 s.2.2.2.2.1, .slice y.2.2.1 s.2.2.2.2.2.1.length y.2.2.2.1, .int .i64 s.2.2.2.2.2.2.1, .int .i64 s.2.2.2.2.2.2.2.1, .int .i64 s.2.2.2.2.2.2.2.2.1, .int .i64 s.2.2.2.2.2.2.2.2.2.1, .int .i64 s.2.2.2.2.2.2.2.2.2.2.1, .int .i64 s.2.2.2.2.2.2.2.2.2.2.2.1, .slice y.2.2.2.2.2.1 s.2.2.2.2.2.2.2.2.2.2.2.2.1.length y.2.2.2.2.2.2, .bool s.2.2.2.2.2.2.2.2.2.2.2.2.2], obj a3 36 [.pointer (some ⟨g, 0, none⟩)], obj a7 45 [.bool w, .int .i64 x, .int .i64 ab, .int .i64 ad, .int .i64 af, .int .i64 al, .slice an q.length u], am (aj y.1 ao ak y.2.1) ai y.2.1 s.1, ap 3 1 (V3 tt) y.2.2.1 s.2.2.2.2.2.1 y.2.2.2.1, ap 144 5 (aQ (y.2.2.2.2.1)) y.2.2.2.2.2.1 s.2.2.2.2.2.2.2.2.2.2.2.2.1 y.2.2.2.2.2.2, y.2.2.2.2.1, F]) ?_ ?_
 refine ay ?_
 refine bn 3 O (fun c3 eb => ?_)
 refine bn 4 O (fun c4 e2 => ?_)
 refine bb (Γ := Unit) () [[], [0], [0, 1], [0, 1, 2], [], [4], [4, 5], [4, 5, 6], rL 8] [] [0, 1, 2, 3, 4, 5, 6, 7, 8] (fun i => [[0], [0], [0], [0], [0], [0], [0], [0], [0]].getD i []) (fun i => [[], [], [], [], [], [], [], [], []].getD i []) (fun γ i => [.pointer (some ⟨g, 0, none⟩), .pointer (some ⟨g, 0, none⟩), .pointer (some ⟨g, 3, none⟩), .int .i64 b0, .pointer (some ⟨g, 0, none⟩), .pointer (some ⟨g, 0, none⟩), .pointer (some ⟨g, 1, none⟩), .int .i64 bt, .bool (decide (bt ≤ b0))].getD i undef) (fun j γ => [[obj n 97 [.map (some b2), str c0, .int .i64 c1, .bool c2], am (aj b2 ao ak b3) ai b3 cs, obj g 91 [.pointer (some ⟨n, 0, none⟩), .int .i64 bt, .slice a5 p.length a6, .int .i64 b0, .int .i64 b6, .int .i64 b7, .int .i64 b8, .int .i64 b9, .int .i64 cd, .slice a9 a8.length bc, .bool b1], Row 3 1 a5 p.length a6 c3.flatten, Row 144 5 a9 a8.length bc c4.flatten, b4, obj a3 36 [.pointer (some ⟨g, 0, none⟩)], obj a7 45 [.bool w, .int .i64 x, .int .i64 ab, .int .i64 ad, .int .i64 af, .int .i64 al, .slice an q.length u], F]].getD j []) (fun γ => [(0, .pointer (some ⟨a3, 0, none⟩)), (1, .pointer (some ⟨a7, 0, none⟩)), (18, .bool (decide (bt ≤ b0)))]) mixed (by decide) (by decide) (by decide) (by decide) (by decide) (by decide) (by decide) 103 O (by decide) (by decide) (by decide) (Ent.refl _) ?_ ?_ (fun _ => ⟨O, O, O, trivial⟩) ?_
 exact (aq O (fun γ => qp O O (.o (s := 0) O (by decide) .nil) (ag O O isAgg36 (.obj 6 O O)) O) (aq O (fun γ => qp O O (.v 0 O O .nil) (aX O O) O) (aq O (fun γ => qp O O (.v 1 O O .nil) (ar O O underlying91 O O sizeOf3 O) O) (aq O (fun γ => qp O O (.v 2 O O .nil) (ag O O isAgg3 (.obj 2 O O)) O) (aq O (fun γ => qp O O (.o (s := 0) O (by decide) .nil) (ag O O isAgg36 (.obj 6 O O)) O) (aq O (fun γ => qp O O (.v 4 O O .nil) (aX O O) O) (aq O (fun γ => qp O O (.v 5 O O .nil) (ar O O underlying91 O O sizeOf3 O) O) (aq O (fun γ => qp O O (.v 6 O O .nil) (ag O O isAgg3 (.obj 2 O O)) O) (aq O (fun γ => qp O O (.v 3 O O (.v 7 O O .nil)) (jo O O O) O) zA)))))))))
 exact zA
 intro j0
 refine aa ?_
 refine bf O (fun j1 => ?_) (fun j2 => ?_)
 refine ay ?_
 refine cU (fun ee => ?_)
 refine jh 3 O eb O (i := (IntKind.i64.wrap ((p.length : Int) - 1)).toNat) (by omega) (0 : Int) (fun hC g6 h0 g7 g8 hH hcell17v => ?_)
 obtain rfl := g8
 refine bb (Γ := Unit) () [[], [0], [0, 1], [0, 1, 2], [], [4], [4, 5], [4, 5, 6], [4, 5, 6, 7], [4, 5, 6, 7, 8], rL 10, rL 11, rL 12] [] [0, 1, 2, 3, 4, 5, 6, 7, 8, 9, 10, 11, 12] (fun i => [[0], [0], [0], [0], [0], [0], [0], [0], [0], [0], [0], [0], [0]].getD i []) (fun i => [[], [], [], [], [], [], [], [], [], [], [], [], []].getD i []) (fun γ i => [.pointer (some ⟨g, 0, none⟩), .pointer (some ⟨g, 0, none⟩), .pointer (some ⟨g, 2, none⟩), .slice a5 p.length a6, .pointer (some ⟨g, 0, none⟩), .pointer (some ⟨g, 0, none⟩), .pointer (some ⟨g, 2, none⟩), .slice a5 p.length a6, .int .i64 (p.length : Int), .int .i64 (IntKind.i64.wrap ((p.length : Int) - 1)), .pointer (some ⟨hC, g6 + (IntKind.i64.wrap ((p.length : Int) - 1)).toNat * 1, none⟩), .int .i64 (p.getD (IntKind.i64.wrap ((p.length : Int) - 1)).toNat (0 : Int)), .int .i64 (p.getD (IntKind.i64.wrap ((p.length : Int) - 1)).toNat (0 : Int))].getD i undef) (fun j γ => [[obj n 97 [.map (some b2), str c0, .int .i64 c1, .bool c2], am (aj b2 ao ak b3) ai b3 cs, obj g 91 [.pointer (some ⟨n, 0, none⟩), .int .i64 bt, .slice a5 p.length a6, .int .i64 b0, .int .i64 b6, .int .i64 b7, .int .i64 b8, .int .i64 b9, .int .i64 cd, .slice a9 a8.length bc, .bool b1], Row 3 1 a5 p.length a6 c3.flatten, Row 144 5 a9 a8.length bc c4.flatten, b4, obj a3 36 [.pointer (some ⟨g, 0, none⟩)], obj a7 45 [.bool w, .int .i64 x, .int .i64 ab, .int .i64 ad, .int .i64 af, .int .i64 al, .slice an q.length u], F]].getD j []) (fun γ => [(0, .pointer (some ⟨a3, 0, none⟩)), (1, .pointer (some ⟨a7, 0, none⟩)), (2, .int .i64 (p.getD (IntKind.i64.wrap ((p.length : Int) - 1)).toNat (0 : Int)))]) mixed (by decide) (by decide) (by decide) (by decide) (by decide) (by decide) (by decide) 103 O (by decide) (by decide) (by decide) (Ent.refl _) ?_ ?_ (fun _ => ⟨O, O, O, trivial⟩) ?_
 exact (aq O (fun γ => qp O O (.o (s := 0) O (by decide) .nil) (ag O O isAgg36 (.obj 6 O O)) O) (aq O (fun γ => qp O O (.v 0 O O .nil) (aX O O) O) (aq O (fun γ => qp O O (.v 1 O O .nil) (ar O O underlying91 O O sizeOf78 O) O) (aq O (fun γ => qp O O (.v 2 O O .nil) (ag O O isAgg78 (.obj 2 O O)) O) (aq O (fun γ => qp O O (.o (s := 0) O (by decide) .nil) (ag O O isAgg36 (.obj 6 O O)) O) (aq O (fun γ => qp O O (.v 4 O O .nil) (aX O O) O) (aq O (fun γ => qp O O (.v 5 O O .nil) (ar O O underlying91 O O sizeOf78 O) O) (aq O (fun γ => qp O O (.v 6 O O .nil) (ag O O isAgg78 (.obj 2 O O)) O) (aq O (fun γ => qp O O (.v 7 O O .nil) (bD O O O underlying78) O) (aq O (fun γ => qp O O (.v 8 O O .nil) (dc O O O) O) (aq O (fun γ => qp O O (.v 3 O O (.v 9 O O .nil)) (dC O O O g7 underlying78 sizeOf3 ee.1 ee.2) O) (aq O (fun γ => qp O O (.v 10 O O .nil) (ag O O isAgg3 (hcell17v 3 O 0 _ O)) O) (aq O (fun γ => qp O O (.v 11 O O .nil) (ci O O) O) zA)))))))))))))
 exact zA
 intro h2
 refine aa (ay ?_)
 refine bp (fun ec g9 => ?_)
 refine bp (fun bs ha => ?_)
 refine bp (fun h3 hb => ?_)
 refine bb (Γ := (Nat × Kps)) (0, ([] : Kps)) [[], [0], [0, 1], [0, 1, 2], [], [4], rL 6, rL 7] [5, 6, 7] [0, 1, 2, 3, 4] (fun i => [[0, 1], [0, 1], [0, 1], [0, 1], [0], [], [], []].getD i []) (fun i => [[], [], [], [], [], rL 5, rL 6, rL 7].getD i []) (fun γ i => [.pointer (some ⟨g, 0, none⟩), .pointer (some ⟨g, 0, none⟩), .pointer (some ⟨g, 0, none⟩), .pointer (some ⟨n, 0, none⟩), .int .i64 (p.getD (IntKind.i64.wrap ((p.length : Int) - 1)).toNat (0 : Int)), str ec, .int .i64 bs.1, .tuple #[]].getD i undef) (fun j γ => [[obj n 97 [.map (some b2), str c0, .int .i64 c1, .bool c2], am (aj b2 ao ak b3) ai b3 cs, obj g 91 [.pointer (some ⟨n, 0, none⟩), .int .i64 bt, .slice a5 p.length a6, .int .i64 b0, .int .i64 b6, .int .i64 b7, .int .i64 b8, .int .i64 b9, .int .i64 cd, .slice a9 a8.length bc, .bool b1], Row 3 1 a5 p.length a6 c3.flatten, Row 144 5 a9 a8.length bc c4.flatten, b4, obj a3 36 [.pointer (some ⟨g, 0, none⟩)], obj a7 45 [.bool w, .int .i64 x, .int .i64 ab, .int .i64 ad, .int .i64 af, .int .i64 al, .slice an q.length u], F], [obj n 97 [.map (some b2), str c0, .int .i64 c1, .bool c2], am (aj b2 ao ak b3) ai b3 cs, obj g 91 [.pointer (some ⟨n, 0, none⟩), .int .i64 bt, .slice a5 p.length a6, .int .i64 b0, .int .i64 b6, .int .i64 b7, .int .i64 b8, .int .i64 b9, .int .i64 cd, .slice a9 a8.length bc, .bool b1], Row 3 1 a5 p.length a6 c3.flatten, Row 144 5 a9 a8.length bc c4.flatten, b4, obj a3 36 [.pointer (some ⟨g, 0, none⟩)], obj a7 45 [.bool w, .int .i64 x, .int .i64 ab, .int .i64 ad, .int .i64 af, .int .i64 al, .slice an q.length u], F], [obj n 97 [.map (some γ.1), str bs.2.2.1, .int .i64 bs.2.2.2.1, .bool bs.2.2.2.2], am (aj γ.1 ao ak γ.2) ai γ.2 bs.2.1, obj g 91 [.pointer (some ⟨n, 0, none⟩), .int .i64 bt, .slice a5 p.length a6, .int .i64 b0, .int .i64 b6, .int .i64 b7, .int .i64 b8, .int .i64 b9, .int .i64 cd, .slice a9 a8.length bc, .bool b1], Row 3 1 a5 p.length a6 c3.flatten, Row 144 5 a9 a8.length bc c4.flatten, b4, obj a3 36 [.pointer (some ⟨g, 0, none⟩)], obj a7 45 [.bool w, .int .i64 x, .int .i64 ab, .int .i64 ad, .int .i64 af, .int .i64 al, .slice an q.length u], F], [obj n 97 [.map (some γ.1), str bs.2.2.1, .int .i64 bs.2.2.2.1, .bool bs.2.2.2.2], am (aj γ.1 ao ak γ.2) ai γ.2 bs.2.1, obj g 91 [.pointer (some ⟨n, 0, none⟩), .int .i64 bt, .slice a5 p.length a6, .int .i64 b0, .int .i64 b6, .int .i64 b7, .int .i64 b8, .int .i64 b9, .int .i64 cd, .slice a9 a8.length bc, .bool b1], Row 3 1 a5 p.length a6 c3.flatten, Row 144 5 a9 a8.length bc c4.flatten, b4, obj a3 36 [.pointer (some ⟨g, 0, none⟩)], obj a7 45 [.bool w, .int .i64 x, .int .i64 ab, .int .i64 ad, .int .i64 af, .int .i64 al, .slice an q.length u], F]].getD j []) (fun γ => [(0, .pointer (some ⟨a3, 0, none⟩)), (1, .pointer (some ⟨a7, 0, none⟩)), (2, .int .i64 (p.getD (IntKind.i64.wrap ((p.length : Int) - 1)).toNat (0 : Int)))]) mixed (by decide) (by decide) (by decide) (by decide) (by decide) (by decide) (by decide) 103 O (by decide) (by decide) (by decide) (Ent.refl _) ?_ ?_ (fun _ => ⟨O, O, O, trivial⟩) ?_
 exact (ac (fun γ => (ac (qp O O (.o (s := 0) O (by decide) .nil) (ag O O isAgg36 (.obj 6 O O)) O) (ac (qp O O (.o (s := 0) O (by decide) .nil) (ag O O isAgg36 (.obj 6 O O)) O) zA))) (ac (fun γ => (ac (qp O O (.v 0 O O .nil) (aX O O) O) (ac (qp O O (.v 0 O O .nil) (aX O O) O) zA))) (ac (fun γ => (ac (qp O O (.v 1 O O .nil) (ar O O underlying91 O O sizeOf39 O) O) (ac (qp O O (.v 1 O O .nil) (ar O O underlying91 O O sizeOf39 O) O) zA))) (ac (fun γ => (ac (qp O O (.v 2 O O .nil) (ag O O isAgg39 (.obj 2 O O)) O) (ac (qp O O (.v 2 O O .nil) (ag O O isAgg39 (.obj 2 O O)) O) zA))) (aq O (fun γ => qm O (.o (s := 2) O (by decide) .nil) O) zA)))))
 exact (ac (fun γ => eo (Z := Unit) (fun z => γ) O O (.v 4 O O .nil) (av (val := fun (r : List UInt8) (y : Unit) => str r) (B := fun _ _ => []) (vs := [.int .i64 (p.getD (IntKind.i64.wrap ((p.length : Int) - 1)).toNat (0 : Int))]) (cap := []) (A := []) (rst := [obj n 97 [.map (some b2), str c0, .int .i64 c1, .bool c2], am (aj b2 ao ak b3) ai b3 cs, obj g 91 [.pointer (some ⟨n, 0, none⟩), .int .i64 bt, .slice a5 p.length a6, .int .i64 b0, .int .i64 b6, .int .i64 b7, .int .i64 b8, .int .i64 b9, .int .i64 cd, .slice a9 a8.length bc, .bool b1], Row 3 1 a5 p.length a6 c3.flatten, Row 144 5 a9 a8.length bc c4.flatten, b4, obj a3 36 [.pointer (some ⟨g, 0, none⟩)], obj a7 45 [.bool w, .int .i64 x, .int .i64 ab, .int .i64 ad, .int .i64 af, .int .i64 al, .slice an q.length u], F]) O O O O O O call47 (.sel 0 O (.sel 0 O (.sel 0 O (.sel 0 O (.sel 0 O (.sel 0 O (.sel 0 O (.sel 0 O (.sel 0 O (.nil _)))))))))) (cr.calls _ _ k (p.getD (IntKind.i64.wrap ((p.length : Int) - 1)).toNat (0 : Int)) (hgl.lend 8 O)) g9) (fun _ => ⟨O, O, O, O, O, trivial⟩) (fun _ => .inr O) (fun z => Ent.refl _)) (ac (fun γ => eo (Z := Nat × Kps) (fun z => z) O O (.v 3 O O (.v 5 O O .nil)) (av (vs := [.pointer (some ⟨n, 0, none⟩), str ec]) (cap := []) (A := [obj n 97 [.map (some b2), str c0, .int .i64 c1, .bool c2], am (aj b2 ao ak b3) ai b3 cs]) (rst := [obj g 91 [.pointer (some ⟨n, 0, none⟩), .int .i64 bt, .slice a5 p.length a6, .int .i64 b0, .int .i64 b6, .int .i64 b7, .int .i64 b8, .int .i64 b9, .int .i64 cd, .slice a9 a8.length bc, .bool b1], Row 3 1 a5 p.length a6 c3.flatten, Row 144 5 a9 a8.length bc c4.flatten, b4, obj a3 36 [.pointer (some ⟨g, 0, none⟩)], obj a7 45 [.bool w, .int .i64 x, .int .i64 ab, .int .i64 ad, .int .i64 af, .int .i64 al, .slice an q.length u], F]) O O O O O O call46 (.sel 0 O (.sel 0 O (.sel 0 O (.sel 0 O (.sel 0 O (.sel 0 O (.sel 0 O (.sel 0 O (.sel 0 O (.nil _)))))))))) (cK.calls _ _ n b2 b3 cs c0 c1 c2 ec ) ha) (fun _ => ⟨O, O, O, O, O, O, trivial⟩) (fun _ => .inr O) (fun z => Ent.refl _)) (ac (fun γ => eo (Z := Unit) (fun z => γ) O O (.v 6 O O .nil) (av (vs := [.int .i64 bs.1]) (cap := []) (A := []) (rst := [obj n 97 [.map (some γ.1), str bs.2.2.1, .int .i64 bs.2.2.2.1, .bool bs.2.2.2.2], am (aj γ.1 ao ak γ.2) ai γ.2 bs.2.1, obj g 91 [.pointer (some ⟨n, 0, none⟩), .int .i64 bt, .slice a5 p.length a6, .int .i64 b0, .int .i64 b6, .int .i64 b7, .int .i64 b8, .int .i64 b9, .int .i64 cd, .slice a9 a8.length bc, .bool b1], Row 3 1 a5 p.length a6 c3.flatten, Row 144 5 a9 a8.length bc c4.flatten, b4, obj a3 36 [.pointer (some ⟨g, 0, none⟩)], obj a7 45 [.bool w, .int .i64 x, .int .i64 ab, .int .i64 ad, .int .i64 af, .int .i64 al, .slice an q.length u], F]) O O O O O O call43 (.sel 0 O (.sel 0 O (.sel 0 O (.sel 0 O (.sel 0 O (.sel 0 O (.sel 0 O (.sel 0 O (.sel 0 O (.nil _)))))))))) (bw.calls _ _ bs.1 ) hb) (fun _ => ⟨O, O, O, O, O, O, O, trivial⟩) (fun _ => .inr O) (fun z => Ent.refl _)) zA)))
 intro d2
 refine aa (aJ ?_)
 refine vq (ag O O isAgg36 (.obj 6 O O)) O ?_
 refine vm O O ?_
 refine vq (cb O O O) O ?_
 refine aw (fun ch hc => ?_)
 refine ah (av (vs := [.pointer (some ⟨g, 0, none⟩), .int .i64 (IntKind.i64.wrap ((p.getD (IntKind.i64.wrap ((p.length : Int) - 1)).toNat (0 : Int)) + 1))]) (cap := []) (A := [obj n 97 [.map (some d2.1), str bs.2.2.1, .int .i64 bs.2.2.2.1, .bool bs.2.2.2.2], am (aj d2.1 ao ak d2.2) ai d2.2 bs.2.1, obj g 91 [.pointer (some ⟨n, 0, none⟩), .int .i64 bt, .slice a5 p.length a6, .int .i64 b0, .int .i64 b6, .int .i64 b7, .int .i64 b8, .int .i64 b9, .int .i64 cd, .slice a9 a8.length bc, .bool b1], ap 3 1 (V3 tt) a5 p a6, ap 144 5 (aQ b4) a9 a8 bc, b4]) (rst := [obj a3 36 [.pointer (some ⟨g, 0, none⟩)], obj a7 45 [.bool w, .int .i64 x, .int .i64 ab, .int .i64 ad, .int .i64 af, .int .i64 al, .slice an q.length u], F]) O O O O O O call42 (.sel 0 O (.sel 0 O (.sel 0 O (.sel' 0 O (ap.mk eb) (.sel' 0 O (ap.mk e2) (.sel 0 O (.sel 0 O (.sel 0 O (.sel 0 O (.nil _)))))))))) (de.calls _ _ k g n d2.1 d2.2 bs.2.1 bs.2.2.1 bs.2.2.2.1 bs.2.2.2.2 bt a5 a6 p b0 b6 b7 b8 b9 cd a9 bc a8 b4 b1 (IntKind.i64.wrap ((p.getD (IntKind.i64.wrap ((p.length : Int) - 1)).toNat (0 : Int)) + 1)) (hgl.lend 2 O)) hc) O O O ?_
 intro dl
 refine ae ?_
 exact aF (s := (ch.1, ch.2.1, ch.2.2.1, ch.2.2.2.1, ch.2.2.2.2.1, ch.2.2.2.2.2.1, ch.2.2.2.2.2.2.1, ch.2.2.2.2.2.2.2.1, ch.2.2.2.2.2.2.2.2.1, ch.2.2.2.2.2.2.2.2.2.1, ch.2.2.2.2.2.2.2.2.2.2.1, ch.2.2.2.2.2.2.2.2.2.2.2.1, ch.2.2.2.2.2.2.2.2.2.2.2.2.1, ch.2.2.2.2.2.2.2.2.2.2.2.2.2)) (dl.1, dl.2.1, dl.2.2.1, dl.2.2.2.1, dl.2.2.2.2.2.2, dl.2.2.2.2.1, dl.2.2.2.2.2.1) ⟨O, O, trivial⟩ (.sel 0 O (.sel 1 O (.sel 4 O (.sel 4 O (.sel 0 O (.sel 0 O (.sel 0 O (.sel 0 O (.sel 0 O (.nil _))))))))))
 refine aC ?_
 exact aF (s := (cs, c0, c1, c2, bt, p, b0, b6, b7, b8, b9, cd, a8, b1)) (b2, b3, a5, a6, b4, a9, bc) ⟨O, O, trivial⟩ (.sel 0 O (.sel 1 O (.sel 4 O (.sel 4 O (.sel 0 O (.sel' 0 O (ap.mk eb) (.sel' 0 O (ap.mk e2) (.sel 0 O (.sel 0 O (.nil _))))))))))
 intro a b
 refine ay ?_
 refine bn 5 O (fun ef d5 => ?_)
 refine bn 6 O (fun ei ek => ?_)
 refine cU (fun el => ?_)
 refine jh 5 O d5 O (i := (IntKind.i64.wrap ((a.2.2.2.2.2.1.length : Int) - 1)).toNat) (by omega) (0 : Int) (fun hE he h4 hf hg hI hcell43v => ?_)
 obtain rfl := hg
 refine bb (Γ := Unit) () [[], [0], [0, 1], [0, 1, 2], [], [4], [4, 5], [4, 5, 6], [4, 5, 6, 7], [4, 5, 6, 7, 8], rL 10, rL 11, rL 12] [] [0, 1, 2, 3, 4, 5, 6, 7, 8, 9, 10, 11, 12] (fun i => [[0], [0], [0], [0], [0], [0], [0], [0], [0], [0], [0], [0], [0]].getD i []) (fun i => [[], [], [], [], [], [], [], [], [], [], [], [], []].getD i []) (fun γ i => [.pointer (some ⟨g, 0, none⟩), .pointer (some ⟨g, 0, none⟩), .pointer (some ⟨g, 2, none⟩), .slice b.2.2.1 a.2.2.2.2.2.1.length b.2.2.2.1, .pointer (some ⟨g, 0, none⟩), .pointer (some ⟨g, 0, none⟩), .pointer (some ⟨g, 2, none⟩), .slice b.2.2.1 a.2.2.2.2.2.1.length b.2.2.2.1, .int .i64 (a.2.2.2.2.2.1.length : Int), .int .i64 (IntKind.i64.wrap ((a.2.2.2.2.2.1.length : Int) - 1)), .pointer (some ⟨hE, he + (IntKind.i64.wrap ((a.2.2.2.2.2.1.length : Int) - 1)).toNat * 1, none⟩), .int .i64 (a.2.2.2.2.2.1.getD (IntKind.i64.wrap ((a.2.2.2.2.2.1.length : Int) - 1)).toNat (0 : Int)), .int .i64 (a.2.2.2.2.2.1.getD (IntKind.i64.wrap ((a.2.2.2.2.2.1.length : Int) - 1)).toNat (0 : Int))].getD i undef) (fun j γ => [[obj n 97 [.map (some b.1), str a.2.1, .int .i64 a.2.2.1, .bool a.2.2.2.1], obj g 91 [.pointer (some ⟨n, 0, none⟩), .int .i64 a.2.2.2.2.1, .slice b.2.2.1 a.2.2.2.2.2.1.length b.2.2.2.1, .int .i64 a.2.2.2.2.2.2.1, .int .i64 a.2.2.2.2.2.2.2.1, .int .i64 a.2.2.2.2.2.2.2.2.1, .int .i64 a.2.2.2.2.2.2.2.2.2.1, .int .i64 a.2.2.2.2.2.2.2.2.2.2.1, .int .i64 a.2.2.2.2.2.2.2.2.2.2.2.1, .slice b.2.2.2.2.2.1 a.2.2.2.2.2.2.2.2.2.2.2.2.1.length b.2.2.2.2.2.2, .bool a.2.2.2.2.2.2.2.2.2.2.2.2.2], obj a3 36 [.pointer (some ⟨g, 0, none⟩)], obj a7 45 [.bool w, .int .i64 x, .int .i64 ab, .int .i64 ad, .int .i64 af, .int .i64 al, .slice an q.length u], am (aj b.1 ao ak b.2.1) ai b.2.1 a.1, Row 3 1 b.2.2.1 a.2.2.2.2.2.1.length b.2.2.2.1 ef.flatten, Row 144 5 b.2.2.2.2.2.1 a.2.2.2.2.2.2.2.2.2.2.2.2.1.length b.2.2.2.2.2.2 ei.flatten, b.2.2.2.2.1, F]].getD j []) (fun γ => [(0, .pointer (some ⟨a3, 0, none⟩)), (1, .pointer (some ⟨a7, 0, none⟩)), (3, .int .i64 (a.2.2.2.2.2.1.getD (IntKind.i64.wrap ((a.2.2.2.2.2.1.length : Int) - 1)).toNat (0 : Int)))]) mixed (by decide) (by decide) (by decide) (by decide) (by decide) (by decide) (by decide) 103 O (by decide) (by decide) (by decide) (Ent.refl _) ?_ ?_ (fun _ => ⟨O, O, O, trivial⟩) ?_
 exact (aq O (fun γ => qp O O (.o (s := 0) O (by decide) .nil) (ag O O isAgg36 (.obj 2 O O)) O) (aq O (fun γ => qp O O (.v 0 O O .nil) (aX O O) O) (aq O (fun γ => qp O O (.v 1 O O .nil) (ar O O underlying91 O O sizeOf78 O) O) (aq O (fun γ => qp O O (.v 2 O O .nil) (ag O O isAgg78 (.obj 1 O O)) O) (aq O (fun γ => qp O O (.o (s := 0) O (by decide) .nil) (ag O O isAgg36 (.obj 2 O O)) O) (aq O (fun γ => qp O O (.v 4 O O .nil) (aX O O) O) (aq O (fun γ => qp O O (.v 5 O O .nil) (ar O O underlying91 O O sizeOf78 O) O) (aq O (fun γ => qp O O (.v 6 O O .nil) (ag O O isAgg78 (.obj 1 O O)) O) (aq O (fun γ => qp O O (.v 7 O O .nil) (bD O O O underlying78) O) (aq O (fun γ => qp O O (.v 8 O O .nil) (dc O O O) O) (aq O (fun γ => qp O O (.v 3 O O (.v 9 O O .nil)) (dC O O O hf underlying78 sizeOf3 el.1 el.2) O) (aq O (fun γ => qp O O (.v 10 O O .nil) (ag O O isAgg3 (hcell43v 5 O 0 _ O)) O) (aq O (fun γ => qp O O (.v 11 O O .nil) (ci O O) O) zA)))))))))))))
 exact zA
 intro h5
 refine aa (sr ?_)
 refine vq (ag O O isAgg36 (.obj 2 O O)) O ?_
 refine vq (bU 3 O O isAgg45 sizeOf45 O O) O ?_
 refine aw (fun c hh => ?_)
 refine bd 5 O (fun hi hk hl hR => ?_)
 refine bd 6 O (fun hm hn ho hS => ?_)
 refine ah (av (vs := [.pointer (some ⟨g, 0, none⟩), .agg #[.bool w, .int .i64 x, .int .i64 ab, .int .i64 ad, .int .i64 af, .int .i64 al, .slice an q.length u]]) (cap := []) (A := [obj n 97 [.map (some b.1), str a.2.1, .int .i64 a.2.2.1, .bool a.2.2.2.1], am (aj b.1 ao ak b.2.1) ai b.2.1 a.1, obj g 91 [.pointer (some ⟨n, 0, none⟩), .int .i64 a.2.2.2.2.1, .slice b.2.2.1 a.2.2.2.2.2.1.length b.2.2.2.1, .int .i64 a.2.2.2.2.2.2.1, .int .i64 a.2.2.2.2.2.2.2.1, .int .i64 a.2.2.2.2.2.2.2.2.1, .int .i64 a.2.2.2.2.2.2.2.2.2.1, .int .i64 a.2.2.2.2.2.2.2.2.2.2.1, .int .i64 a.2.2.2.2.2.2.2.2.2.2.2.1, .slice b.2.2.2.2.2.1 a.2.2.2.2.2.2.2.2.2.2.2.2.1.length b.2.2.2.2.2.2, .bool a.2.2.2.2.2.2.2.2.2.2.2.2.2]]) (rst := [obj a3 36 [.pointer (some ⟨g, 0, none⟩)], obj a7 45 [.bool w, .int .i64 x, .int .i64 ab, .int .i64 ad, .int .i64 af, .int .i64 al, .slice an q.length u], Row 3 1 b.2.2.1 a.2.2.2.2.2.1.length b.2.2.2.1 ef.flatten, Row 144 5 b.2.2.2.2.2.1 a.2.2.2.2.2.2.2.2.2.2.2.2.1.length b.2.2.2.2.2.2 ei.flatten, b.2.2.2.2.1, F]) O O O O O O call51 (.sel 0 O (.sel 3 O (.sel 0 O (.sel 0 O (.sel 0 O (.sel 0 O (.sel 0 O (.sel 0 O (.sel 0 O (.nil _)))))))))) (bZ.calls _ _ k g n b.1 b.2.1 a.1 a.2.1 a.2.2.1 a.2.2.2.1 a.2.2.2.2.1 b.2.2.1 b.2.2.2.1 a.2.2.2.2.2.1 a.2.2.2.2.2.2.1 a.2.2.2.2.2.2.2.1 a.2.2.2.2.2.2.2.2.1 a.2.2.2.2.2.2.2.2.2.1 a.2.2.2.2.2.2.2.2.2.2.1 a.2.2.2.2.2.2.2.2.2.2.2.1 b.2.2.2.2.2.1 b.2.2.2.2.2.2 a.2.2.2.2.2.2.2.2.2.2.2.2.1 a.2.2.2.2.2.2.2.2.2.2.2.2.2 w x ab ad af al an u q ((Rd.asV d5 hi).up (Up.lend 2 O) (fun _ _ h => h)) hk hl ((Rd.asV ek hm).up (Up.lend 3 O) (aQ.up (Up.lend 4 O))) hn ho (g5.up (Up.lend 5 O) (V35.up (Up.lend 5 O))) e0 e1) hh) O O O ?_
 intro e
 refine va O O (nx ?_)
 refine va O O (ae (aa ?_))
 refine bE (S := List UInt8) (Option Addr × Nat) (fun s y => [(0, .pointer (some ⟨a3, 0, none⟩)), (3, .int .i64 (a.2.2.2.2.2.1.getD (IntKind.i64.wrap ((a.2.2.2.2.2.1.length : Int) - 1)).toNat (0 : Int))), (4, .slice e.1 c.length e.2.1), (5, .slice y.1 s.length y.2)]) (fun s y => [obj n 97 [.map (some b.1), str a.2.1, .int .i64 a.2.2.1, .bool a.2.2.2.1], obj g 91 [.pointer (some ⟨n, 0, none⟩), .int .i64 a.2.2.2.2.1, .slice b.2.2.1 a.2.2.2.2.2.1.length b.2.2.2.1, .int .i64 a.2.2.2.2.2.2.1, .int .i64 a.2.2.2.2.2.2.2.1, .int .i64 a.2.2.2.2.2.2.2.2.1, .int .i64 a.2.2.2.2.2.2.2.2.2.1, .int .i64 a.2.2.2.2.2.2.2.2.2.2.1, .int .i64 a.2.2.2.2.2.2.2.2.2.2.2.1, .slice b.2.2.2.2.2.1 a.2.2.2.2.2.2.2.2.2.2.2.2.1.length b.2.2.2.2.2.2, .bool a.2.2.2.2.2.2.2.2.2.2.2.2.2], obj a3 36 [.pointer (some ⟨g, 0, none⟩)], obj a7 45 [.bool w, .int .i64 x, .int .i64 ab, .int .i64 ad, .int .i64 af, .int .i64 al, .slice an q.length u], ap 102 11 (dT (e.2.2)) e.1 c e.2.1, Row 5 1 y.1 s.length y.2 (ax s), am (aj b.1 ao ak b.2.1) ai b.2.1 a.1, ap 3 1 (V3 tt) b.2.2.1 a.2.2.2.2.2.1 b.2.2.2.1, ap 144 5 (aQ (b.2.2.2.2.1)) b.2.2.2.2.2.1 a.2.2.2.2.2.2.2.2.2.2.2.2.1 b.2.2.2.2.2.2, e.2.2, b.2.2.2.2.1, F]) ?_ ?_
 refine sr ?_
 refine vm O O ?_
 refine vq (bD O O O underlying99) O ?_
 refine vm O O (ae (aa ?_))
 refine aT ?_
 refine cC (S := List UInt8 × Int) (Option Addr × Nat) (fun k s => bm.l0 c k s.1 s.2) (fun s y => [(0, .pointer (some ⟨a3, 0, none⟩)), (3, .int .i64 (a.2.2.2.2.2.1.getD (IntKind.i64.wrap ((a.2.2.2.2.2.1.length : Int) - 1)).toNat (0 : Int))), (4, .slice e.1 c.length e.2.1), (5, .slice y.1 s.1.length y.2), (58, .slice e.1 c.length e.2.1), (59, .int .i64 (c.length : Int)), (60, .int .i64 s.2)]) (fun s y => [obj n 97 [.map (some b.1), str a.2.1, .int .i64 a.2.2.1, .bool a.2.2.2.1], obj g 91 [.pointer (some ⟨n, 0, none⟩), .int .i64 a.2.2.2.2.1, .slice b.2.2.1 a.2.2.2.2.2.1.length b.2.2.2.1, .int .i64 a.2.2.2.2.2.2.1, .int .i64 a.2.2.2.2.2.2.2.1, .int .i64 a.2.2.2.2.2.2.2.2.1, .int .i64 a.2.2.2.2.2.2.2.2.2.1, .int .i64 a.2.2.2.2.2.2.2.2.2.2.1, .int .i64 a.2.2.2.2.2.2.2.2.2.2.2.1, .slice b.2.2.2.2.2.1 a.2.2.2.2.2.2.2.2.2.2.2.2.1.length b.2.2.2.2.2.2, .bool a.2.2.2.2.2.2.2.2.2.2.2.2.2], obj a3 36 [.pointer (some ⟨g, 0, none⟩)], obj a7 45 [.bool w, .int .i64 x, .int .i64 ab, .int .i64 ad, .int .i64 af, .int .i64 al, .slice an q.length u], ap 102 11 (dT (e.2.2)) e.1 c e.2.1, Row 5 1 y.1 s.1.length y.2 (ax s.1), am (aj b.1 ao ak b.2.1) ai b.2.1 a.1, ap 3 1 (V3 tt) b.2.2.1 a.2.2.2.2.2.1 b.2.2.2.1, ap 144 5 (aQ (b.2.2.2.2.1)) b.2.2.2.2.2.1 a.2.2.2.2.2.2.2.2.2.2.2.2.1 b.2.2.2.2.2.2, e.2.2, b.2.2.2.2.1, F]) (fun _ => by rw [bm.l0]) ?_ k (([] : List UInt8), 0) (none, 0) ⟨O, O, O, O, O, O, O, trivial⟩ (.sel 2 O (.sel 3 O (.sel 3 O (.sel 3 O (.sel 0 O (.row_nil (.sel 1 O (.sel' 1 O (ap.mk d5) (.sel' 1 O (ap.mk ek) (.sel 0 O (.sel 0 O (.sel 0 O (.nil _)))))))))))))
 intro k t d3
 refine df (by rw [bm.l0]) ?_
 refine sr ?_
 refine vq (cH O O O) O (ae (aa (ay ?_)))
 refine bf O (fun h6 => ?_) (fun h7 => ?_)
 refine aC ?_
 refine aa (ay ?_)
 refine aT ?_
 refine sr ?_
 refine bg 4 O (fun em er => ?_)
 refine bh (fun es => ?_)
 refine fw 4 O er O (i := t.2.toNat) (by omega) aI (fun h8 hT h9 hp hq hK hcell71v => ?_)
 obtain ⟨d6, d7, rfl, ⟨hr, hs, ht⟩⟩ := hq
 refine vq (dC O O O hp underlying99 sizeOf102 es.1 es.2) O ?_
 refine vq (cf O O isAgg102 sizeOf102 O (fun j v hj => hcell71v 4 O j v hj)) O ?_
 refine ah (bL O zeroValue102 O) O O O ?_
 intro e3
 refine aU (aH 0 O O O sizeOf102 O O (aM (by rfl)) O O) O O ?_
 intro _
 refine bR (H' := [obj e3 102 [.int .i64 ((c.getD t.2.toNat aI).1), .int .i64 ((c.getD t.2.toNat aI).2.1), .int .i64 ((c.getD t.2.toNat aI).2.2.1), .int .i64 ((c.getD t.2.toNat aI).2.2.2.1), .int .i64 ((c.getD t.2.toNat aI).2.2.2.2.1), .int .i64 ((c.getD t.2.toNat aI).2.2.2.2.2.1), .int .i64 ((c.getD t.2.toNat aI).2.2.2.2.2.2.1), .int .i64 ((c.getD t.2.toNat aI).2.2.2.2.2.2.2.1), .int .i64 ((c.getD t.2.toNat aI).2.2.2.2.2.2.2.2.1), .int .i64 ((c.getD t.2.toNat aI).2.2.2.2.2.2.2.2.2.1), .slice d6 (((c.getD t.2.toNat aI).2.2.2.2.2.2.2.2.2.2).length) d7], obj n 97 [.map (some b.1), str a.2.1, .int .i64 a.2.2.1, .bool a.2.2.2.1], obj g 91 [.pointer (some ⟨n, 0, none⟩), .int .i64 a.2.2.2.2.1, .slice b.2.2.1 a.2.2.2.2.2.1.length b.2.2.2.1, .int .i64 a.2.2.2.2.2.2.1, .int .i64 a.2.2.2.2.2.2.2.1, .int .i64 a.2.2.2.2.2.2.2.2.1, .int .i64 a.2.2.2.2.2.2.2.2.2.1, .int .i64 a.2.2.2.2.2.2.2.2.2.2.1, .int .i64 a.2.2.2.2.2.2.2.2.2.2.2.1, .slice b.2.2.2.2.2.1 a.2.2.2.2.2.2.2.2.2.2.2.2.1.length b.2.2.2.2.2.2, .bool a.2.2.2.2.2.2.2.2.2.2.2.2.2], obj a3 36 [.pointer (some ⟨g, 0, none⟩)], obj a7 45 [.bool w, .int .i64 x, .int .i64 ab, .int .i64 ad, .int .i64 af, .int .i64 al, .slice an q.length u], Row 102 11 e.1 c.length e.2.1 em.flatten, Row 5 1 d3.1 t.1.length d3.2 (ax t.1), am (aj b.1 ao ak b.2.1) ai b.2.1 a.1, ap 3 1 (V3 tt) b.2.2.1 a.2.2.2.2.2.1 b.2.2.2.1, ap 144 5 (aQ (b.2.2.2.2.1)) b.2.2.2.2.2.1 a.2.2.2.2.2.2.2.2.2.2.2.2.1 b.2.2.2.2.2.2, e.2.2, b.2.2.2.2.1, F]) (Ent.refl _) ?_
 refine ny ?_
 refine vm O O ?_
 refine vq (bU 0 O O isAgg102 sizeOf102 O O) O ?_
 refine aw (fun hF hu => ?_)
 refine ah (av (vs := [.agg #[.int .i64 ((c.getD t.2.toNat aI).1), .int .i64 ((c.getD t.2.toNat aI).2.1), .int .i64 ((c.getD t.2.toNat aI).2.2.1), .int .i64 ((c.getD t.2.toNat aI).2.2.2.1), .int .i64 ((c.getD t.2.toNat aI).2.2.2.2.1), .int .i64 ((c.getD t.2.toNat aI).2.2.2.2.2.1), .int .i64 ((c.getD t.2.toNat aI).2.2.2.2.2.2.1), .int .i64 ((c.getD t.2.toNat aI).2.2.2.2.2.2.2.1), .int .i64 ((c.getD t.2.toNat aI).2.2.2.2.2.2.2.2.1), .int .i64 ((c.getD t.2.toNat aI).2.2.2.2.2.2.2.2.2.1), .slice d6 (((c.getD t.2.toNat aI).2.2.2.2.2.2.2.2.2.2).length) d7]]) (cap := []) (A := []) (rst := [obj e3 102 [.int .i64 ((c.getD t.2.toNat aI).1), .int .i64 ((c.getD t.2.toNat aI).2.1), .int .i64 ((c.getD t.2.toNat aI).2.2.1), .int .i64 ((c.getD t.2.toNat aI).2.2.2.1), .int .i64 ((c.getD t.2.toNat aI).2.2.2.2.1), .int .i64 ((c.getD t.2.toNat aI).2.2.2.2.2.1), .int .i64 ((c.getD t.2.toNat aI).2.2.2.2.2.2.1), .int .i64 ((c.getD t.2.toNat aI).2.2.2.2.2.2.2.1), .int .i64 ((c.getD t.2.toNat aI).2.2.2.2.2.2.2.2.1), .int .i64 ((c.getD t.2.toNat aI).2.2.2.2.2.2.2.2.2.1), .slice d6 (((c.getD t.2.toNat aI).2.2.2.2.2.2.2.2.2.2).length) d7], obj n 97 [.map (some b.1), str a.2.1, .int .i64 a.2.2.1, .bool a.2.2.2.1], obj g 91 [.pointer (some ⟨n, 0, none⟩), .int .i64 a.2.2.2.2.1, .slice b.2.2.1 a.2.2.2.2.2.1.length b.2.2.2.1, .int .i64 a.2.2.2.2.2.2.1, .int .i64 a.2.2.2.2.2.2.2.1, .int .i64 a.2.2.2.2.2.2.2.2.1, .int .i64 a.2.2.2.2.2.2.2.2.2.1, .int .i64 a.2.2.2.2.2.2.2.2.2.2.1, .int .i64 a.2.2.2.2.2.2.2.2.2.2.2.1, .slice b.2.2.2.2.2.1 a.2.2.2.2.2.2.2.2.2.2.2.2.1.length b.2.2.2.2.2.2, .bool a.2.2.2.2.2.2.2.2.2.2.2.2.2], obj a3 36 [.pointer (some ⟨g, 0, none⟩)], obj a7 45 [.bool w, .int .i64 x, .int .i64 ab, .int .i64 ad, .int .i64 af, .int .i64 al, .slice an q.length u], Row 102 11 e.1 c.length e.2.1 em.flatten, Row 5 1 d3.1 t.1.length d3.2 (ax t.1), am (aj b.1 ao ak b.2.1) ai b.2.1 a.1, ap 3 1 (V3 tt) b.2.2.1 a.2.2.2.2.2.1 b.2.2.2.1, ap 144 5 (aQ (b.2.2.2.2.1)) b.2.2.2.2.2.1 a.2.2.2.2.2.2.2.2.2.2.2.2.1 b.2.2.2.2.2.2, e.2.2, b.2.2.2.2.1, F]) O O O O O O call52 (.sel 0 O (.sel 0 O (.sel 0 O (.sel 0 O (.sel 0 O (.sel 0 O (.sel 0 O (.sel 0 O (.sel 0 O (.sel 0 O (.sel 0 O (.sel 0 O (.sel 0 O (.nil _)))))))))))))) (dn.calls _ _ k ((c.getD t.2.toNat aI).1) ((c.getD t.2.toNat aI).2.1) ((c.getD t.2.toNat aI).2.2.1) ((c.getD t.2.toNat aI).2.2.2.1) ((c.getD t.2.toNat aI).2.2.2.2.1) ((c.getD t.2.toNat aI).2.2.2.2.2.1) ((c.getD t.2.toNat aI).2.2.2.2.2.2.1) ((c.getD t.2.toNat aI).2.2.2.2.2.2.2.1) ((c.getD t.2.toNat aI).2.2.2.2.2.2.2.2.1) ((c.getD t.2.toNat aI).2.2.2.2.2.2.2.2.2.1) d6 d7 ((c.getD t.2.toNat aI).2.2.2.2.2.2.2.2.2.2) (hr.lend 10 O) hs ht) hu) O O O ?_
 intro ih
 refine bh (fun hv => ?_)
 refine ah (eG 7 O O O underlying33 fV O (Rds.row 0 O) hv) O O O ?_
 intro e4
 refine va O O (ae (bv (aa (aJ ?_))))
 refine vq (cb O O O) O ?_
 refine vm O O (ae ?_)
 exact bV (s := (t.1 ++ hF, IntKind.i64.wrap (t.2 + 1))) (e4.1, e4.2) ⟨O, O, O, O, O, O, O, trivial⟩ (.sel 2 O (.sel 2 O (.sel 2 O (.sel 2 O (.sel' 2 O (ap.mk er) (.sel 2 O (.sel 2 O (.sel 2 O (.sel 2 O (.sel 2 O (.sel 2 O (.sel 2 O (.nil _)))))))))))))
 refine cN ?_
 refine ct ?_
 refine cD ?_
 refine cu ?_
 exact aF (s := t.1) (d3.1, d3.2) ⟨O, O, O, O, trivial⟩ (.sel 0 O (.sel 0 O (.sel 0 O (.sel 0 O (.sel 0 O (.sel 0 O (.sel 0 O (.sel 0 O (.sel 0 O (.sel 0 O (.sel 0 O (.sel 0 O (.nil _)))))))))))))
 intro a2 a4
 refine bE (S := (List ((List UInt8) × (List UInt8 × Int))) × List UInt8 × Int × Bool) (Nat × Kps) (fun s y => [(0, .pointer (some ⟨a3, 0, none⟩)), (3, .int .i64 (a.2.2.2.2.2.1.getD (IntKind.i64.wrap ((a.2.2.2.2.2.1.length : Int) - 1)).toNat (0 : Int))), (4, .slice e.1 c.length e.2.1), (5, .slice a4.1 a2.length a4.2)]) (fun s y => [obj n 97 [.map (some y.1), str s.2.1, .int .i64 s.2.2.1, .bool s.2.2.2], obj g 91 [.pointer (some ⟨n, 0, none⟩), .int .i64 a.2.2.2.2.1, .slice b.2.2.1 a.2.2.2.2.2.1.length b.2.2.2.1, .int .i64 a.2.2.2.2.2.2.1, .int .i64 a.2.2.2.2.2.2.2.1, .int .i64 a.2.2.2.2.2.2.2.2.1, .int .i64 a.2.2.2.2.2.2.2.2.2.1, .int .i64 a.2.2.2.2.2.2.2.2.2.2.1, .int .i64 a.2.2.2.2.2.2.2.2.2.2.2.1, .slice b.2.2.2.2.2.1 a.2.2.2.2.2.2.2.2.2.2.2.2.1.length b.2.2.2.2.2.2, .bool a.2.2.2.2.2.2.2.2.2.2.2.2.2], obj a3 36 [.pointer (some ⟨g, 0, none⟩)], obj a7 45 [.bool w, .int .i64 x, .int .i64 ab, .int .i64 ad, .int .i64 af, .int .i64 al, .slice an q.length u], ap 102 11 (dT (e.2.2)) e.1 c e.2.1, Row 5 1 a4.1 a2.length a4.2 (ax a2), am (aj y.1 ao ak y.2) ai y.2 s.1, ap 3 1 (V3 tt) b.2.2.1 a.2.2.2.2.2.1 b.2.2.2.1, ap 144 5 (aQ (b.2.2.2.2.1)) b.2.2.2.2.2.1 a.2.2.2.2.2.2.2.2.2.2.2.2.1 b.2.2.2.2.2.2, e.2.2, b.2.2.2.2.1, F]) ?_ ?_
 refine sr ?_
 refine vm O O ?_
 refine vq (bD O O O underlying99) O ?_
 refine vq (cI O O O) O (ae (aa ?_))
 refine bf O (fun it => ?_) (fun jg => ?_)
 refine bn 4 O (fun c5 hw => ?_)
 refine bn 7 O (fun c6 hx => ?_)
 refine bn 8 O (fun c7 hy => ?_)
 refine bp (fun ed hz => ?_)
 refine bp (fun br e5 => ?_)
 refine bp (fun hV e6 => ?_)
 refine bb (Γ := (Nat × Kps)) (0, ([] : Kps)) [[], [0], [0, 1], [0, 1, 2], [], [4], [], rL 7, rL 8] [5, 7, 8] [0, 1, 2, 3, 4, 6] (fun i => [[0, 1], [0, 1], [0, 1], [0, 1], [0], [], [0, 1], [], []].getD i []) (fun i => [[], [], [], [], [], [0, 1, 2, 3, 4, 6], [], rL 7, rL 8].getD i []) (fun γ i => [.pointer (some ⟨g, 0, none⟩), .pointer (some ⟨g, 0, none⟩), .pointer (some ⟨g, 0, none⟩), .pointer (some ⟨n, 0, none⟩), .int .i64 (a.2.2.2.2.2.1.getD (IntKind.i64.wrap ((a.2.2.2.2.2.1.length : Int) - 1)).toNat (0 : Int)), str ed, .slice a4.1 a2.length a4.2, .int .i64 br.1, .tuple #[]].getD i undef) (fun j γ => [[obj n 97 [.map (some b.1), str a.2.1, .int .i64 a.2.2.1, .bool a.2.2.2.1], obj g 91 [.pointer (some ⟨n, 0, none⟩), .int .i64 a.2.2.2.2.1, .slice b.2.2.1 a.2.2.2.2.2.1.length b.2.2.2.1, .int .i64 a.2.2.2.2.2.2.1, .int .i64 a.2.2.2.2.2.2.2.1, .int .i64 a.2.2.2.2.2.2.2.2.1, .int .i64 a.2.2.2.2.2.2.2.2.2.1, .int .i64 a.2.2.2.2.2.2.2.2.2.2.1, .int .i64 a.2.2.2.2.2.2.2.2.2.2.2.1, .slice b.2.2.2.2.2.1 a.2.2.2.2.2.2.2.2.2.2.2.2.1.length b.2.2.2.2.2.2, .bool a.2.2.2.2.2.2.2.2.2.2.2.2.2], obj a3 36 [.pointer (some ⟨g, 0, none⟩)], obj a7 45 [.bool w, .int .i64 x, .int .i64 ab, .int .i64 ad, .int .i64 af, .int .i64 al, .slice an q.length u], Row 102 11 e.1 c.length e.2.1 c5.flatten, Row 5 1 a4.1 a2.length a4.2 (ax a2), am (aj b.1 ao ak b.2.1) ai b.2.1 a.1, Row 3 1 b.2.2.1 a.2.2.2.2.2.1.length b.2.2.2.1 c6.flatten, Row 144 5 b.2.2.2.2.2.1 a.2.2.2.2.2.2.2.2.2.2.2.2.1.length b.2.2.2.2.2.2 c7.flatten, e.2.2, b.2.2.2.2.1, F], [obj n 97 [.map (some b.1), str a.2.1, .int .i64 a.2.2.1, .bool a.2.2.2.1], obj g 91 [.pointer (some ⟨n, 0, none⟩), .int .i64 a.2.2.2.2.1, .slice b.2.2.1 a.2.2.2.2.2.1.length b.2.2.2.1, .int .i64 a.2.2.2.2.2.2.1, .int .i64 a.2.2.2.2.2.2.2.1, .int .i64 a.2.2.2.2.2.2.2.2.1, .int .i64 a.2.2.2.2.2.2.2.2.2.1, .int .i64 a.2.2.2.2.2.2.2.2.2.2.1, .int .i64 a.2.2.2.2.2.2.2.2.2.2.2.1, .slice b.2.2.2.2.2.1 a.2.2.2.2.2.2.2.2.2.2.2.2.1.length b.2.2.2.2.2.2, .bool a.2.2.2.2.2.2.2.2.2.2.2.2.2], obj a3 36 [.pointer (some ⟨g, 0, none⟩)], obj a7 45 [.bool w, .int .i64 x, .int .i64 ab, .int .i64 ad, .int .i64 af, .int .i64 al, .slice an q.length u], Row 102 11 e.1 c.length e.2.1 c5.flatten, Row 5 1 a4.1 a2.length a4.2 (ax a2), am (aj b.1 ao ak b.2.1) ai b.2.1 a.1, Row 3 1 b.2.2.1 a.2.2.2.2.2.1.length b.2.2.2.1 c6.flatten, Row 144 5 b.2.2.2.2.2.1 a.2.2.2.2.2.2.2.2.2.2.2.2.1.length b.2.2.2.2.2.2 c7.flatten, e.2.2, b.2.2.2.2.1, F], [obj n 97 [.map (some γ.1), str br.2.2.1, .int .i64 br.2.2.2.1, .bool br.2.2.2.2], am (aj γ.1 ao ak γ.2) ai γ.2 br.2.1, obj g 91 [.pointer (some ⟨n, 0, none⟩), .int .i64 a.2.2.2.2.1, .slice b.2.2.1 a.2.2.2.2.2.1.length b.2.2.2.1, .int .i64 a.2.2.2.2.2.2.1, .int .i64 a.2.2.2.2.2.2.2.1, .int .i64 a.2.2.2.2.2.2.2.2.1, .int .i64 a.2.2.2.2.2.2.2.2.2.1, .int .i64 a.2.2.2.2.2.2.2.2.2.2.1, .int .i64 a.2.2.2.2.2.2.2.2.2.2.2.1, .slice b.2.2.2.2.2.1 a.2.2.2.2.2.2.2.2.2.2.2.2.1.length b.2.2.2.2.2.2, .bool a.2.2.2.2.2.2.2.2.2.2.2.2.2], obj a3 36 [.pointer (some ⟨g, 0, none⟩)], obj a7 45 [.bool w, .int .i64 x, .int .i64 ab, .int .i64 ad, .int .i64 af, .int .i64 al, .slice an q.length u], Row 102 11 e.1 c.length e.2.1 c5.flatten, Row 5 1 a4.1 a2.length a4.2 (ax a2), Row 3 1 b.2.2.1 a.2.2.2.2.2.1.length b.2.2.2.1 c6.flatten, Row 144 5 b.2.2.2.2.2.1 a.2.2.2.2.2.2.2.2.2.2.2.2.1.length b.2.2.2.2.2.2 c7.flatten, e.2.2, b.2.2.2.2.1, F], [obj n 97 [.map (some γ.1), str br.2.2.1, .int .i64 br.2.2.2.1, .bool br.2.2.2.2], am (aj γ.1 ao ak γ.2) ai γ.2 br.2.1, obj g 91 [.pointer (some ⟨n, 0, none⟩), .int .i64 a.2.2.2.2.1, .slice b.2.2.1 a.2.2.2.2.2.1.length b.2.2.2.1, .int .i64 a.2.2.2.2.2.2.1, .int .i64 a.2.2.2.2.2.2.2.1, .int .i64 a.2.2.2.2.2.2.2.2.1, .int .i64 a.2.2.2.2.2.2.2.2.2.1, .int .i64 a.2.2.2.2.2.2.2.2.2.2.1, .int .i64 a.2.2.2.2.2.2.2.2.2.2.2.1, .slice b.2.2.2.2.2.1 a.2.2.2.2.2.2.2.2.2.2.2.2.1.length b.2.2.2.2.2.2, .bool a.2.2.2.2.2.2.2.2.2.2.2.2.2], obj a3 36 [.pointer (some ⟨g, 0, none⟩)], obj a7 45 [.bool w, .int .i64 x, .int .i64 ab, .int .i64 ad, .int .i64 af, .int .i64 al, .slice an q.length u], Row 102 11 e.1 c.length e.2.1 c5.flatten, Row 5 1 a4.1 a2.length a4.2 (ax a2), Row 3 1 b.2.2.1 a.2.2.2.2.2.1.length b.2.2.2.1 c6.flatten, Row 144 5 b.2.2.2.2.2.1 a.2.2.2.2.2.2.2.2.2.2.2.2.1.length b.2.2.2.2.2.2 c7.flatten, e.2.2, b.2.2.2.2.1, F]].getD j []) (fun γ => [(0, .pointer (some ⟨a3, 0, none⟩)), (3, .int .i64 (a.2.2.2.2.2.1.getD (IntKind.i64.wrap ((a.2.2.2.2.2.1.length : Int) - 1)).toNat (0 : Int))), (4, .slice e.1 c.length e.2.1), (5, .slice a4.1 a2.length a4.2)]) mixed (by decide) (by decide) (by decide) (by decide) (by decide) (by decide) (by decide) 103 O (by decide) (by decide) (by decide) (Ent.refl _) ?_ ?_ (fun _ => ⟨O, O, O, O, trivial⟩) ?_
 exact (ac (fun γ => (ac (qp O O (.o (s := 0) O (by decide) .nil) (ag O O isAgg36 (.obj 2 O O)) O) (ac (qp O O (.o (s := 0) O (by decide) .nil) (ag O O isAgg36 (.obj 2 O O)) O) zA))) (ac (fun γ => (ac (qp O O (.v 0 O O .nil) (aX O O) O) (ac (qp O O (.v 0 O O .nil) (aX O O) O) zA))) (ac (fun γ => (ac (qp O O (.v 1 O O .nil) (ar O O underlying91 O O sizeOf39 O) O) (ac (qp O O (.v 1 O O .nil) (ar O O underlying91 O O sizeOf39 O) O) zA))) (ac (fun γ => (ac (qp O O (.v 2 O O .nil) (ag O O isAgg39 (.obj 1 O O)) O) (ac (qp O O (.v 2 O O .nil) (ag O O isAgg39 (.obj 1 O O)) O) zA))) (aq O (fun γ => qm O (.o (s := 3) O (by decide) .nil) O) (ac (fun γ => (ac (qm O (.o (s := 5) O (by decide) .nil) O) (ac (qm O (.o (s := 5) O (by decide) .nil) O) zA))) zA))))))
 exact (ac (fun γ => eo (Z := Unit) (fun z => γ) O O (.v 4 O O .nil) (av (val := fun (r : List UInt8) (y : Unit) => str r) (B := fun _ _ => []) (vs := [.int .i64 (a.2.2.2.2.2.1.getD (IntKind.i64.wrap ((a.2.2.2.2.2.1.length : Int) - 1)).toNat (0 : Int))]) (cap := []) (A := []) (rst := [obj n 97 [.map (some b.1), str a.2.1, .int .i64 a.2.2.1, .bool a.2.2.2.1], obj g 91 [.pointer (some ⟨n, 0, none⟩), .int .i64 a.2.2.2.2.1, .slice b.2.2.1 a.2.2.2.2.2.1.length b.2.2.2.1, .int .i64 a.2.2.2.2.2.2.1, .int .i64 a.2.2.2.2.2.2.2.1, .int .i64 a.2.2.2.2.2.2.2.2.1, .int .i64 a.2.2.2.2.2.2.2.2.2.1, .int .i64 a.2.2.2.2.2.2.2.2.2.2.1, .int .i64 a.2.2.2.2.2.2.2.2.2.2.2.1, .slice b.2.2.2.2.2.1 a.2.2.2.2.2.2.2.2.2.2.2.2.1.length b.2.2.2.2.2.2, .bool a.2.2.2.2.2.2.2.2.2.2.2.2.2], obj a3 36 [.pointer (some ⟨g, 0, none⟩)], obj a7 45 [.bool w, .int .i64 x, .int .i64 ab, .int .i64 ad, .int .i64 af, .int .i64 al, .slice an q.length u], Row 102 11 e.1 c.length e.2.1 c5.flatten, Row 5 1 a4.1 a2.length a4.2 (ax a2), am (aj b.1 ao ak b.2.1) ai b.2.1 a.1, Row 3 1 b.2.2.1 a.2.2.2.2.2.1.length b.2.2.2.1 c6.flatten, Row 144 5 b.2.2.2.2.2.1 a.2.2.2.2.2.2.2.2.2.2.2.2.1.length b.2.2.2.2.2.2 c7.flatten, e.2.2, b.2.2.2.2.1, F]) O O O O O O call47 (.sel 0 O (.sel 0 O (.sel 0 O (.sel 0 O (.sel 0 O (.sel 0 O (.sel 0 O (.sel 0 O (.sel 0 O (.sel 0 O (.sel 0 O (.sel 0 O (.nil _))))))))))))) (cr.calls _ _ k (a.2.2.2.2.2.1.getD (IntKind.i64.wrap ((a.2.2.2.2.2.1.length : Int) - 1)).toNat (0 : Int)) (hgl.lend 11 O)) hz) (fun _ => ⟨O, O, O, O, O, O, trivial⟩) (fun _ => .inr O) (fun z => Ent.refl _)) (ac (fun γ => eo (Z := Nat × Kps) (fun z => z) O O (.v 3 O O (.v 5 O O (.v 6 O O .nil))) (RE.lend 5 O (fun hA hB e7 hL => av (vs := [.pointer (some ⟨n, 0, none⟩), str ed, .slice a4.1 a2.length a4.2]) (cap := []) (A := [obj n 97 [.map (some b.1), str a.2.1, .int .i64 a.2.2.1, .bool a.2.2.2.1], am (aj b.1 ao ak b.2.1) ai b.2.1 a.1]) (rst := [obj g 91 [.pointer (some ⟨n, 0, none⟩), .int .i64 a.2.2.2.2.1, .slice b.2.2.1 a.2.2.2.2.2.1.length b.2.2.2.1, .int .i64 a.2.2.2.2.2.2.1, .int .i64 a.2.2.2.2.2.2.2.1, .int .i64 a.2.2.2.2.2.2.2.2.1, .int .i64 a.2.2.2.2.2.2.2.2.2.1, .int .i64 a.2.2.2.2.2.2.2.2.2.2.1, .int .i64 a.2.2.2.2.2.2.2.2.2.2.2.1, .slice b.2.2.2.2.2.1 a.2.2.2.2.2.2.2.2.2.2.2.2.1.length b.2.2.2.2.2.2, .bool a.2.2.2.2.2.2.2.2.2.2.2.2.2], obj a3 36 [.pointer (some ⟨g, 0, none⟩)], obj a7 45 [.bool w, .int .i64 x, .int .i64 ab, .int .i64 ad, .int .i64 af, .int .i64 al, .slice an q.length u], Row 102 11 e.1 c.length e.2.1 c5.flatten, Row 5 1 a4.1 a2.length a4.2 (ax a2), Row 3 1 b.2.2.1 a.2.2.2.2.2.1.length b.2.2.2.1 c6.flatten, Row 144 5 b.2.2.2.2.2.1 a.2.2.2.2.2.2.2.2.2.2.2.2.1.length b.2.2.2.2.2.2 c7.flatten, e.2.2, b.2.2.2.2.1, F]) O O O O O O call22 (.sel 0 O (.sel 5 O (.sel 0 O (.sel 0 O (.sel 0 O (.sel 0 O (.sel 0 O (.sel 0 O (.sel 0 O (.sel 0 O (.sel 0 O (.sel 0 O (.nil _))))))))))))) (dA.calls _ _ n b.1 b.2.1 a.1 a.2.1 a.2.2.1 a.2.2.2.1 ed a4.1 a4.2 a2 (hA.lend 4 O) hB e7) e5)) (fun _ => ⟨O, O, O, O, O, O, O, trivial⟩) (fun _ => .inr O) (fun z => Ent.refl _)) (ac (fun γ => eo (Z := Unit) (fun z => γ) O O (.v 7 O O .nil) (av (vs := [.int .i64 br.1]) (cap := []) (A := []) (rst := [obj n 97 [.map (some γ.1), str br.2.2.1, .int .i64 br.2.2.2.1, .bool br.2.2.2.2], am (aj γ.1 ao ak γ.2) ai γ.2 br.2.1, obj g 91 [.pointer (some ⟨n, 0, none⟩), .int .i64 a.2.2.2.2.1, .slice b.2.2.1 a.2.2.2.2.2.1.length b.2.2.2.1, .int .i64 a.2.2.2.2.2.2.1, .int .i64 a.2.2.2.2.2.2.2.1, .int .i64 a.2.2.2.2.2.2.2.2.1, .int .i64 a.2.2.2.2.2.2.2.2.2.1, .int .i64 a.2.2.2.2.2.2.2.2.2.2.1, .int .i64 a.2.2.2.2.2.2.2.2.2.2.2.1, .slice b.2.2.2.2.2.1 a.2.2.2.2.2.2.2.2.2.2.2.2.1.length b.2.2.2.2.2.2, .bool a.2.2.2.2.2.2.2.2.2.2.2.2.2], obj a3 36 [.pointer (some ⟨g, 0, none⟩)], obj a7 45 [.bool w, .int .i64 x, .int .i64 ab, .int .i64 ad, .int .i64 af, .int .i64 al, .slice an q.length u], Row 102 11 e.1 c.length e.2.1 c5.flatten, Row 5 1 a4.1 a2.length a4.2 (ax a2), Row 3 1 b.2.2.1 a.2.2.2.2.2.1.length b.2.2.2.1 c6.flatten, Row 144 5 b.2.2.2.2.2.1 a.2.2.2.2.2.2.2.2.2.2.2.2.1.length b.2.2.2.2.2.2 c7.flatten, e.2.2, b.2.2.2.2.1, F]) O O O O O O call43 (.sel 0 O (.sel 0 O (.sel 0 O (.sel 0 O (.sel 0 O (.sel 0 O (.sel 0 O (.sel 0 O (.sel 0 O (.sel 0 O (.sel 0 O (.sel 0 O (.nil _))))))))))))) (bw.calls _ _ br.1 ) e6) (fun _ => ⟨O, O, O, O, O, O, O, O, trivial⟩) (fun _ => .inr O) (fun z => Ent.refl _)) zA)))
 intro et
 exact aF (s := (br.2.1, br.2.2.1, br.2.2.2.1, br.2.2.2.2)) (et.1, et.2) ⟨O, O, O, O, trivial⟩ (.sel 0 O (.sel 1 O (.sel 1 O (.sel 1 O (.sel' 1 O (ap.mk hw) (.sel 1 O (.sel 0 O (.sel' 0 O (ap.mk hx) (.sel' 0 O (ap.mk hy) (.sel 0 O (.sel 0 O (.sel 0 O (.nil _)))))))))))))
 refine aC ?_
 exact aF (s := (a.1, a.2.1, a.2.2.1, a.2.2.2.1)) (b.1, b.2.1) ⟨O, O, O, O, trivial⟩ (.sel 0 O (.sel 0 O (.sel 0 O (.sel 0 O (.sel 0 O (.sel 0 O (.sel 0 O (.sel 0 O (.sel 0 O (.sel 0 O (.sel 0 O (.sel 0 O (.nil _)))))))))))))
 intro a0 a1
 refine sr ?_
 refine vq (ag O O isAgg36 (.obj 2 O O)) O ?_
 refine vn O O ?_
 refine vq (ar O O underlying91 O O sizeOf3 O) O ?_
 refine vq (ag O O isAgg3 (.obj 1 O O)) O ?_
 refine vm O O ?_
 refine vq (bD O O O underlying33) O ?_
 refine vq (cb O O O) O ?_
 refine vn O O ?_
 refine vq (ar O O underlying91 O O sizeOf3 O) O ?_
 refine aU (aH 1 O O O sizeOf3 O O (aM (by rfl)) O O) O O ?_
 intro _
 refine bR (H' := [obj n 97 [.map (some a1.1), str a0.2.1, .int .i64 a0.2.2.1, .bool a0.2.2.2], obj g 91 [.pointer (some ⟨n, 0, none⟩), .int .i64 a.2.2.2.2.1, .slice b.2.2.1 a.2.2.2.2.2.1.length b.2.2.2.1, .int .i64 (IntKind.i64.wrap (a.2.2.2.2.2.2.1 + (a2.length : Int))), .int .i64 a.2.2.2.2.2.2.2.1, .int .i64 a.2.2.2.2.2.2.2.2.1, .int .i64 a.2.2.2.2.2.2.2.2.2.1, .int .i64 a.2.2.2.2.2.2.2.2.2.2.1, .int .i64 a.2.2.2.2.2.2.2.2.2.2.2.1, .slice b.2.2.2.2.2.1 a.2.2.2.2.2.2.2.2.2.2.2.2.1.length b.2.2.2.2.2.2, .bool a.2.2.2.2.2.2.2.2.2.2.2.2.2], obj a3 36 [.pointer (some ⟨g, 0, none⟩)], obj a7 45 [.bool w, .int .i64 x, .int .i64 ab, .int .i64 ad, .int .i64 af, .int .i64 al, .slice an q.length u], ap 102 11 (dT (e.2.2)) e.1 c e.2.1, Row 5 1 a4.1 a2.length a4.2 (ax a2), am (aj a1.1 ao ak a1.2) ai a1.2 a0.1, ap 3 1 (V3 tt) b.2.2.1 a.2.2.2.2.2.1 b.2.2.2.1, ap 144 5 (aQ (b.2.2.2.2.1)) b.2.2.2.2.2.1 a.2.2.2.2.2.2.2.2.2.2.2.2.1 b.2.2.2.2.2.2, e.2.2, b.2.2.2.2.1, F]) (Ent.refl _) ?_
 refine nx ?_
 refine vm O O ?_
 refine vq (bD O O O underlying99) O ?_
 refine vm O O (ae (aa ?_))
 refine aT ?_
 refine bn 4 O (fun b5 e8 => ?_)
 refine il 4 O (fun e9 fn fp hM => ?_)
 refine eD (H' := [aP [Row 102 11 e.1 c.length e.2.1 b5.flatten, e.2.2], obj n 97 [.map (some a1.1), str a0.2.1, .int .i64 a0.2.2.1, .bool a0.2.2.2], obj g 91 [.pointer (some ⟨n, 0, none⟩), .int .i64 a.2.2.2.2.1, .slice b.2.2.1 a.2.2.2.2.2.1.length b.2.2.2.1, .int .i64 (IntKind.i64.wrap (a.2.2.2.2.2.2.1 + (a2.length : Int))), .int .i64 a.2.2.2.2.2.2.2.1, .int .i64 a.2.2.2.2.2.2.2.2.1, .int .i64 a.2.2.2.2.2.2.2.2.2.1, .int .i64 a.2.2.2.2.2.2.2.2.2.2.1, .int .i64 a.2.2.2.2.2.2.2.2.2.2.2.1, .slice b.2.2.2.2.2.1 a.2.2.2.2.2.2.2.2.2.2.2.2.1.length b.2.2.2.2.2.2, .bool a.2.2.2.2.2.2.2.2.2.2.2.2.2], obj a3 36 [.pointer (some ⟨g, 0, none⟩)], obj a7 45 [.bool w, .int .i64 x, .int .i64 ab, .int .i64 ad, .int .i64 af, .int .i64 al, .slice an q.length u], Row 5 1 a4.1 a2.length a4.2 (ax a2), am (aj a1.1 ao ak a1.2) ai a1.2 a0.1, ap 3 1 (V3 tt) b.2.2.1 a.2.2.2.2.2.1 b.2.2.2.1, ap 144 5 (aQ (b.2.2.2.2.1)) b.2.2.2.2.2.1 a.2.2.2.2.2.2.2.2.2.2.2.2.1 b.2.2.2.2.2.2, b.2.2.2.2.1, F]) (Ent.trans (m := [Row 102 11 e.1 c.length e.2.1 b5.flatten, e.2.2, obj n 97 [.map (some a1.1), str a0.2.1, .int .i64 a0.2.2.1, .bool a0.2.2.2], obj g 91 [.pointer (some ⟨n, 0, none⟩), .int .i64 a.2.2.2.2.1, .slice b.2.2.1 a.2.2.2.2.2.1.length b.2.2.2.1, .int .i64 (IntKind.i64.wrap (a.2.2.2.2.2.2.1 + (a2.length : Int))), .int .i64 a.2.2.2.2.2.2.2.1, .int .i64 a.2.2.2.2.2.2.2.2.1, .int .i64 a.2.2.2.2.2.2.2.2.2.1, .int .i64 a.2.2.2.2.2.2.2.2.2.2.1, .int .i64 a.2.2.2.2.2.2.2.2.2.2.2.1, .slice b.2.2.2.2.2.1 a.2.2.2.2.2.2.2.2.2.2.2.2.1.length b.2.2.2.2.2.2, .bool a.2.2.2.2.2.2.2.2.2.2.2.2.2], obj a3 36 [.pointer (some ⟨g, 0, none⟩)], obj a7 45 [.bool w, .int .i64 x, .int .i64 ab, .int .i64 ad, .int .i64 af, .int .i64 al, .slice an q.length u], Row 5 1 a4.1 a2.length a4.2 (ax a2), am (aj a1.1 ao ak a1.2) ai a1.2 a0.1, ap 3 1 (V3 tt) b.2.2.1 a.2.2.2.2.2.1 b.2.2.2.1, ap 144 5 (aQ (b.2.2.2.2.1)) b.2.2.2.2.2.1 a.2.2.2.2.2.2.2.2.2.2.2.2.1 b.2.2.2.2.2.2, b.2.2.2.2.1, F]) (.sel 4 O (.sel 8 O (.sel 0 O (.sel 0 O (.sel 0 O (.sel 0 O (.sel 0 O (.sel 0 O (.sel 0 O (.sel 0 O (.sel 0 O (.sel 0 O (.nil _))))))))))))) (gq [Row 102 11 e.1 c.length e.2.1 b5.flatten, e.2.2] _)) ?_
 refine bn 8 O (fun d8 fr => ?_)
 refine eD (H' := [aP [aP [Row 102 11 e.1 c.length e.2.1 b5.flatten, e.2.2], b.2.2.2.2.1], obj n 97 [.map (some a1.1), str a0.2.1, .int .i64 a0.2.2.1, .bool a0.2.2.2], obj g 91 [.pointer (some ⟨n, 0, none⟩), .int .i64 a.2.2.2.2.1, .slice b.2.2.1 a.2.2.2.2.2.1.length b.2.2.2.1, .int .i64 (IntKind.i64.wrap (a.2.2.2.2.2.2.1 + (a2.length : Int))), .int .i64 a.2.2.2.2.2.2.2.1, .int .i64 a.2.2.2.2.2.2.2.2.1, .int .i64 a.2.2.2.2.2.2.2.2.2.1, .int .i64 a.2.2.2.2.2.2.2.2.2.2.1, .int .i64 a.2.2.2.2.2.2.2.2.2.2.2.1, .slice b.2.2.2.2.2.1 a.2.2.2.2.2.2.2.2.2.2.2.2.1.length b.2.2.2.2.2.2, .bool a.2.2.2.2.2.2.2.2.2.2.2.2.2], obj a3 36 [.pointer (some ⟨g, 0, none⟩)], obj a7 45 [.bool w, .int .i64 x, .int .i64 ab, .int .i64 ad, .int .i64 af, .int .i64 al, .slice an q.length u], Row 5 1 a4.1 a2.length a4.2 (ax a2), am (aj a1.1 ao ak a1.2) ai a1.2 a0.1, ap 3 1 (V3 tt) b.2.2.1 a.2.2.2.2.2.1 b.2.2.2.1, Row 144 5 b.2.2.2.2.2.1 a.2.2.2.2.2.2.2.2.2.2.2.2.1.length b.2.2.2.2.2.2 d8.flatten, F]) (Ent.trans (m := [aP [Row 102 11 e.1 c.length e.2.1 b5.flatten, e.2.2], b.2.2.2.2.1, obj n 97 [.map (some a1.1), str a0.2.1, .int .i64 a0.2.2.1, .bool a0.2.2.2], obj g 91 [.pointer (some ⟨n, 0, none⟩), .int .i64 a.2.2.2.2.1, .slice b.2.2.1 a.2.2.2.2.2.1.length b.2.2.2.1, .int .i64 (IntKind.i64.wrap (a.2.2.2.2.2.2.1 + (a2.length : Int))), .int .i64 a.2.2.2.2.2.2.2.1, .int .i64 a.2.2.2.2.2.2.2.2.1, .int .i64 a.2.2.2.2.2.2.2.2.2.1, .int .i64 a.2.2.2.2.2.2.2.2.2.2.1, .int .i64 a.2.2.2.2.2.2.2.2.2.2.2.1, .slice b.2.2.2.2.2.1 a.2.2.2.2.2.2.2.2.2.2.2.2.1.length b.2.2.2.2.2.2, .bool a.2.2.2.2.2.2.2.2.2.2.2.2.2], obj a3 36 [.pointer (some ⟨g, 0, none⟩)], obj a7 45 [.bool w, .int .i64 x, .int .i64 ab, .int .i64 ad, .int .i64 af, .int .i64 al, .slice an q.length u], Row 5 1 a4.1 a2.length a4.2 (ax a2), am (aj a1.1 ao ak a1.2) ai a1.2 a0.1, ap 3 1 (V3 tt) b.2.2.1 a.2.2.2.2.2.1 b.2.2.2.1, Row 144 5 b.2.2.2.2.2.1 a.2.2.2.2.2.2.2.2.2.2.2.2.1.length b.2.2.2.2.2.2 d8.flatten, F]) (.sel 0 O (.sel 8 O (.sel 0 O (.sel 0 O (.sel 0 O (.sel 0 O (.sel 0 O (.sel 0 O (.sel 0 O (.sel 0 O (.sel 0 O (.nil _)))))))))))) (gq [aP [Row 102 11 e.1 c.length e.2.1 b5.flatten, e.2.2], b.2.2.2.2.1] _)) ?_
 refine cC (S := Int × Int × List Int × Int × Int × Int × Int × Int × Int × (List (aG)) × Bool) (Option Addr × Nat × HA × Option Addr × Nat) (fun k s => bm.l1 a c a0 k s.1 s.2.1 s.2.2.1 s.2.2.2.1 s.2.2.2.2.1 s.2.2.2.2.2.1 s.2.2.2.2.2.2.1 s.2.2.2.2.2.2.2.1 s.2.2.2.2.2.2.2.2.1 s.2.2.2.2.2.2.2.2.2.1 s.2.2.2.2.2.2.2.2.2.2) (fun s y => [(0, .pointer (some ⟨a3, 0, none⟩)), (3, .int .i64 (a.2.2.2.2.2.1.getD (IntKind.i64.wrap ((a.2.2.2.2.2.1.length : Int) - 1)).toNat (0 : Int))), (90, .slice e.1 c.length e.2.1), (91, .int .i64 (c.length : Int)), (92, .int .i64 s.1)]) (fun s y => [pr (RdV (y.2.2.1) 11 (dT (y.2.2.1)) e.1 c ∧ c.length ≤ e.2.1 ∧ e.2.1 ≤ maxLen), obj n 97 [.map (some a1.1), str a0.2.1, .int .i64 a0.2.2.1, .bool a0.2.2.2], obj g 91 [.pointer (some ⟨n, 0, none⟩), .int .i64 s.2.1, .slice y.1 s.2.2.1.length y.2.1, .int .i64 s.2.2.2.1, .int .i64 s.2.2.2.2.1, .int .i64 s.2.2.2.2.2.1, .int .i64 s.2.2.2.2.2.2.1, .int .i64 s.2.2.2.2.2.2.2.1, .int .i64 s.2.2.2.2.2.2.2.2.1, .slice y.2.2.2.1 s.2.2.2.2.2.2.2.2.2.1.length y.2.2.2.2, .bool s.2.2.2.2.2.2.2.2.2.2], obj a3 36 [.pointer (some ⟨g, 0, none⟩)], obj a7 45 [.bool w, .int .i64 x, .int .i64 ab, .int .i64 ad, .int .i64 af, .int .i64 al, .slice an q.length u], am (aj a1.1 ao ak a1.2) ai a1.2 a0.1, ap 3 1 (V3 tt) y.1 s.2.2.1 y.2.1, ap 144 5 (aQ (y.2.2.1)) y.2.2.2.1 s.2.2.2.2.2.2.2.2.2.1 y.2.2.2.2, y.2.2.1, F]) (fun _ => by rw [bm.l1]) ?_ k (0, a.2.2.2.2.1, a.2.2.2.2.2.1, IntKind.i64.wrap (a.2.2.2.2.2.2.1 + (a2.length : Int)), a.2.2.2.2.2.2.2.1, a.2.2.2.2.2.2.2.2.1, a.2.2.2.2.2.2.2.2.2.1, a.2.2.2.2.2.2.2.2.2.2.1, a.2.2.2.2.2.2.2.2.2.2.2.1, a.2.2.2.2.2.2.2.2.2.2.2.2.1, a.2.2.2.2.2.2.2.2.2.2.2.2.2) (b.2.2.1, b.2.2.2.1, aP [aP [Row 102 11 e.1 c.length e.2.1 b5.flatten, e.2.2], b.2.2.2.2.1], b.2.2.2.2.2.1, b.2.2.2.2.2.2) ⟨O, O, O, O, O, trivial⟩ (.pr_in ⟨((Rd.asV (e8.mono (dT.up (Up.lend (l := [Row 102 11 e.1 c.length e.2.1 b5.flatten, e.2.2]) 1 O))) (Rd.lend (l := [Row 102 11 e.1 c.length e.2.1 b5.flatten, e.2.2]) e9 0 O)).up (Up.lend (l := [aP [Row 102 11 e.1 c.length e.2.1 b5.flatten, e.2.2], b.2.2.2.2.1]) 0 O) (dT.up (Up.lend (l := [aP [Row 102 11 e.1 c.length e.2.1 b5.flatten, e.2.2], b.2.2.2.2.1]) 0 O))), fn, fp⟩ (.sel 1 O (.sel 1 O (.sel 1 O (.sel 1 O (.sel 2 O (.sel 2 O (.sel' 2 O (ap.mk (fr.mono (aQ.up (Up.lend (l := [aP [Row 102 11 e.1 c.length e.2.1 b5.flatten, e.2.2], b.2.2.2.2.1]) 1 O)))) (.sel 0 O (.sel 1 O (.nil _)))))))))))
 intro k d az
 refine df (by rw [bm.l1]) ?_
 refine lL (fun ds => ?_)
 refine sr ?_
 refine vq (cH O O O) O (ae (aa (ay ?_)))
 refine bf O (fun hW => ?_) (fun hX => ?_)
 refine aC ?_
 refine aa (ay ?_)
 refine aT ?_
 refine sr ?_
 refine bh (fun d9 => ?_)
 obtain ⟨hY, hO, hZ, fs, fz, hG, hcell140v⟩ := RdV.pos ds.1 (Up.refl _) rfl (i := d.1.toNat) (by omega) aI
 obtain ⟨c8, c9, rfl, ⟨go, gs, gy⟩⟩ := fz
 refine vq (dC O O O fs underlying99 sizeOf102 d9.1 d9.2) O ?_
 refine vq (cf O O isAgg102 sizeOf102 O (fun j v hj => hcell140v 7 O j v hj)) O ?_
 refine ah (bL O zeroValue102 O) O O O ?_
 intro d4
 refine aU (aH 0 O O O sizeOf102 O O (aM (by rfl)) O O) O O ?_
 intro _
 refine bR (H' := [obj d4 102 [.int .i64 ((c.getD d.1.toNat aI).1), .int .i64 ((c.getD d.1.toNat aI).2.1), .int .i64 ((c.getD d.1.toNat aI).2.2.1), .int .i64 ((c.getD d.1.toNat aI).2.2.2.1), .int .i64 ((c.getD d.1.toNat aI).2.2.2.2.1), .int .i64 ((c.getD d.1.toNat aI).2.2.2.2.2.1), .int .i64 ((c.getD d.1.toNat aI).2.2.2.2.2.2.1), .int .i64 ((c.getD d.1.toNat aI).2.2.2.2.2.2.2.1), .int .i64 ((c.getD d.1.toNat aI).2.2.2.2.2.2.2.2.1), .int .i64 ((c.getD d.1.toNat aI).2.2.2.2.2.2.2.2.2.1), .slice c8 (((c.getD d.1.toNat aI).2.2.2.2.2.2.2.2.2.2).length) c9], obj n 97 [.map (some a1.1), str a0.2.1, .int .i64 a0.2.2.1, .bool a0.2.2.2], obj g 91 [.pointer (some ⟨n, 0, none⟩), .int .i64 d.2.1, .slice az.1 d.2.2.1.length az.2.1, .int .i64 d.2.2.2.1, .int .i64 d.2.2.2.2.1, .int .i64 d.2.2.2.2.2.1, .int .i64 d.2.2.2.2.2.2.1, .int .i64 d.2.2.2.2.2.2.2.1, .int .i64 d.2.2.2.2.2.2.2.2.1, .slice az.2.2.2.1 d.2.2.2.2.2.2.2.2.2.1.length az.2.2.2.2, .bool d.2.2.2.2.2.2.2.2.2.2], obj a3 36 [.pointer (some ⟨g, 0, none⟩)], obj a7 45 [.bool w, .int .i64 x, .int .i64 ab, .int .i64 ad, .int .i64 af, .int .i64 al, .slice an q.length u], am (aj a1.1 ao ak a1.2) ai a1.2 a0.1, ap 3 1 (V3 tt) az.1 d.2.2.1 az.2.1, ap 144 5 (aQ (az.2.2.1)) az.2.2.2.1 d.2.2.2.2.2.2.2.2.2.1 az.2.2.2.2, az.2.2.1, F]) (Ent.refl _) ?_
 refine ae (aa ?_)
 refine bn 6 O (fun g0 g1 => ?_)
 refine bn 7 O (fun g2 g3 => ?_)
 refine bp (fun be g4 => ?_)
 refine bb (Γ := (Option Addr × Nat × Option Addr × Nat × HA)) (none, 0, none, 0, tt) [[], [0], [0, 1], [], [], rL 5] [5] [0, 1, 2, 3, 4] (fun i => [[0], [0], [0], [0], [0], []].getD i []) (fun i => [[], [], [], [], [], rL 5].getD i []) (fun γ i => [.pointer (some ⟨g, 0, none⟩), .pointer (some ⟨g, 0, none⟩), .pointer (some ⟨g, 4, none⟩), .agg #[.int .i64 ((c.getD d.1.toNat aI).1), .int .i64 ((c.getD d.1.toNat aI).2.1), .int .i64 ((c.getD d.1.toNat aI).2.2.1), .int .i64 ((c.getD d.1.toNat aI).2.2.2.1), .int .i64 ((c.getD d.1.toNat aI).2.2.2.2.1), .int .i64 ((c.getD d.1.toNat aI).2.2.2.2.2.1), .int .i64 ((c.getD d.1.toNat aI).2.2.2.2.2.2.1), .int .i64 ((c.getD d.1.toNat aI).2.2.2.2.2.2.2.1), .int .i64 ((c.getD d.1.toNat aI).2.2.2.2.2.2.2.2.1), .int .i64 ((c.getD d.1.toNat aI).2.2.2.2.2.2.2.2.2.1), .slice c8 (((c.getD d.1.toNat aI).2.2.2.2.2.2.2.2.2.2).length) c9], .int .i64 (a.2.2.2.2.2.1.getD (IntKind.i64.wrap ((a.2.2.2.2.2.1.length : Int) - 1)).toNat (0 : Int)), .bool be.1].getD i undef) (fun j γ => [[obj d4 102 [.int .i64 ((c.getD d.1.toNat aI).1), .int .i64 ((c.getD d.1.toNat aI).2.1), .int .i64 ((c.getD d.1.toNat aI).2.2.1), .int .i64 ((c.getD d.1.toNat aI).2.2.2.1), .int .i64 ((c.getD d.1.toNat aI).2.2.2.2.1), .int .i64 ((c.getD d.1.toNat aI).2.2.2.2.2.1), .int .i64 ((c.getD d.1.toNat aI).2.2.2.2.2.2.1), .int .i64 ((c.getD d.1.toNat aI).2.2.2.2.2.2.2.1), .int .i64 ((c.getD d.1.toNat aI).2.2.2.2.2.2.2.2.1), .int .i64 ((c.getD d.1.toNat aI).2.2.2.2.2.2.2.2.2.1), .slice c8 (((c.getD d.1.toNat aI).2.2.2.2.2.2.2.2.2.2).length) c9], obj n 97 [.map (some a1.1), str a0.2.1, .int .i64 a0.2.2.1, .bool a0.2.2.2], obj g 91 [.pointer (some ⟨n, 0, none⟩), .int .i64 d.2.1, .slice az.1 d.2.2.1.length az.2.1, .int .i64 d.2.2.2.1, .int .i64 d.2.2.2.2.1, .int .i64 d.2.2.2.2.2.1, .int .i64 d.2.2.2.2.2.2.1, .int .i64 d.2.2.2.2.2.2.2.1, .int .i64 d.2.2.2.2.2.2.2.2.1, .slice az.2.2.2.1 d.2.2.2.2.2.2.2.2.2.1.length az.2.2.2.2, .bool d.2.2.2.2.2.2.2.2.2.2], obj a3 36 [.pointer (some ⟨g, 0, none⟩)], obj a7 45 [.bool w, .int .i64 x, .int .i64 ab, .int .i64 ad, .int .i64 af, .int .i64 al, .slice an q.length u], am (aj a1.1 ao ak a1.2) ai a1.2 a0.1, Row 3 1 az.1 d.2.2.1.length az.2.1 g0.flatten, Row 144 5 az.2.2.2.1 d.2.2.2.2.2.2.2.2.2.1.length az.2.2.2.2 g2.flatten, az.2.2.1, F], [pr (Up az.2.2.1 γ.2.2.2.2), obj n 97 [.map (some a1.1), str a0.2.1, .int .i64 a0.2.2.1, .bool a0.2.2.2], am (aj a1.1 ao ak a1.2) ai a1.2 a0.1, obj g 91 [.pointer (some ⟨n, 0, none⟩), .int .i64 be.2.1, .slice γ.1 be.2.2.1.length γ.2.1, .int .i64 be.2.2.2.1, .int .i64 be.2.2.2.2.1, .int .i64 be.2.2.2.2.2.1, .int .i64 be.2.2.2.2.2.2.1, .int .i64 be.2.2.2.2.2.2.2.1, .int .i64 be.2.2.2.2.2.2.2.2.1, .slice γ.2.2.1 be.2.2.2.2.2.2.2.2.2.1.length γ.2.2.2.1, .bool be.2.2.2.2.2.2.2.2.2.2], ap 3 1 (V3 tt) γ.1 be.2.2.1 γ.2.1, ap 144 5 (aQ (γ.2.2.2.2)) γ.2.2.1 be.2.2.2.2.2.2.2.2.2.1 γ.2.2.2.1, γ.2.2.2.2, obj d4 102 [.int .i64 ((c.getD d.1.toNat aI).1), .int .i64 ((c.getD d.1.toNat aI).2.1), .int .i64 ((c.getD d.1.toNat aI).2.2.1), .int .i64 ((c.getD d.1.toNat aI).2.2.2.1), .int .i64 ((c.getD d.1.toNat aI).2.2.2.2.1), .int .i64 ((c.getD d.1.toNat aI).2.2.2.2.2.1), .int .i64 ((c.getD d.1.toNat aI).2.2.2.2.2.2.1), .int .i64 ((c.getD d.1.toNat aI).2.2.2.2.2.2.2.1), .int .i64 ((c.getD d.1.toNat aI).2.2.2.2.2.2.2.2.1), .int .i64 ((c.getD d.1.toNat aI).2.2.2.2.2.2.2.2.2.1), .slice c8 (((c.getD d.1.toNat aI).2.2.2.2.2.2.2.2.2.2).length) c9], obj a3 36 [.pointer (some ⟨g, 0, none⟩)], obj a7 45 [.bool w, .int .i64 x, .int .i64 ab, .int .i64 ad, .int .i64 af, .int .i64 al, .slice an q.length u], F]].getD j []) (fun γ => [(0, .pointer (some ⟨a3, 0, none⟩)), (3, .int .i64 (a.2.2.2.2.2.1.getD (IntKind.i64.wrap ((a.2.2.2.2.2.1.length : Int) - 1)).toNat (0 : Int))), (90, .slice e.1 c.length e.2.1), (91, .int .i64 (c.length : Int)), (92, .int .i64 d.1)]) mixed (by decide) (by decide) (by decide) (by decide) (by decide) (by decide) (by decide) 103 O (by decide) (by decide) (by decide) (Ent.refl _) ?_ ?_ (fun _ => ⟨O, O, O, O, O, trivial⟩) ?_
 exact (aq O (fun γ => qp O O (.o (s := 0) O (by decide) .nil) (ag O O isAgg36 (.obj 3 O O)) O) (aq O (fun γ => qp O O (.v 0 O O .nil) (aX O O) O) (aq O (fun γ => qp O O (.v 1 O O .nil) (ar O O underlying91 O O sizeOf89 O) O) (aq O (fun γ => qp O O (.o (s := 9) O (by decide) .nil) (bU 0 O O isAgg102 sizeOf102 O O) O) (aq O (fun γ => qm O (.o (s := 3) O (by decide) .nil) O) zA)))))
 exact (ac (fun γ => eo (Z := Option Addr × Nat × Option Addr × Nat × HA) (fun z => z) O O (.v 2 O O (.v 3 O O (.v 4 O O .nil))) (av (vs := [.pointer (some ⟨g, 4, none⟩), .agg #[.int .i64 ((c.getD d.1.toNat aI).1), .int .i64 ((c.getD d.1.toNat aI).2.1), .int .i64 ((c.getD d.1.toNat aI).2.2.1), .int .i64 ((c.getD d.1.toNat aI).2.2.2.1), .int .i64 ((c.getD d.1.toNat aI).2.2.2.2.1), .int .i64 ((c.getD d.1.toNat aI).2.2.2.2.2.1), .int .i64 ((c.getD d.1.toNat aI).2.2.2.2.2.2.1), .int .i64 ((c.getD d.1.toNat aI).2.2.2.2.2.2.2.1), .int .i64 ((c.getD d.1.toNat aI).2.2.2.2.2.2.2.2.1), .int .i64 ((c.getD d.1.toNat aI).2.2.2.2.2.2.2.2.2.1), .slice c8 (((c.getD d.1.toNat aI).2.2.2.2.2.2.2.2.2.2).length) c9], .int .i64 (a.2.2.2.2.2.1.getD (IntKind.i64.wrap ((a.2.2.2.2.2.1.length : Int) - 1)).toNat (0 : Int))]) (cap := []) (A := [obj n 97 [.map (some a1.1), str a0.2.1, .int .i64 a0.2.2.1, .bool a0.2.2.2], am (aj a1.1 ao ak a1.2) ai a1.2 a0.1, obj g 91 [.pointer (some ⟨n, 0, none⟩), .int .i64 d.2.1, .slice az.1 d.2.2.1.length az.2.1, .int .i64 d.2.2.2.1, .int .i64 d.2.2.2.2.1, .int .i64 d.2.2.2.2.2.1, .int .i64 d.2.2.2.2.2.2.1, .int .i64 d.2.2.2.2.2.2.2.1, .int .i64 d.2.2.2.2.2.2.2.2.1, .slice az.2.2.2.1 d.2.2.2.2.2.2.2.2.2.1.length az.2.2.2.2, .bool d.2.2.2.2.2.2.2.2.2.2], ap 3 1 (V3 tt) az.1 d.2.2.1 az.2.1, ap 144 5 (aQ (az.2.2.1)) az.2.2.2.1 d.2.2.2.2.2.2.2.2.2.1 az.2.2.2.2, az.2.2.1]) (rst := [obj d4 102 [.int .i64 ((c.getD d.1.toNat aI).1), .int .i64 ((c.getD d.1.toNat aI).2.1), .int .i64 ((c.getD d.1.toNat aI).2.2.1), .int .i64 ((c.getD d.1.toNat aI).2.2.2.1), .int .i64 ((c.getD d.1.toNat aI).2.2.2.2.1), .int .i64 ((c.getD d.1.toNat aI).2.2.2.2.2.1), .int .i64 ((c.getD d.1.toNat aI).2.2.2.2.2.2.1), .int .i64 ((c.getD d.1.toNat aI).2.2.2.2.2.2.2.1), .int .i64 ((c.getD d.1.toNat aI).2.2.2.2.2.2.2.2.1), .int .i64 ((c.getD d.1.toNat aI).2.2.2.2.2.2.2.2.2.1), .slice c8 (((c.getD d.1.toNat aI).2.2.2.2.2.2.2.2.2.2).length) c9], obj a3 36 [.pointer (some ⟨g, 0, none⟩)], obj a7 45 [.bool w, .int .i64 x, .int .i64 ab, .int .i64 ad, .int .i64 af, .int .i64 al, .slice an q.length u], F]) O O O O O O call53 (.sel 1 O (.sel 4 O (.sel 1 O (.sel' 3 O (ap.mk g1) (.sel' 3 O (ap.mk g3) (.sel 3 O (.sel 0 O (.sel 0 O (.sel 0 O (.sel 0 O (.nil _))))))))))) (dy.calls _ _ g n a1.1 a1.2 a0.1 a0.2.1 a0.2.2.1 a0.2.2.2 d.2.1 az.1 az.2.1 d.2.2.1 d.2.2.2.1 d.2.2.2.2.1 d.2.2.2.2.2.1 d.2.2.2.2.2.2.1 d.2.2.2.2.2.2.2.1 d.2.2.2.2.2.2.2.2.1 az.2.2.2.1 az.2.2.2.2 d.2.2.2.2.2.2.2.2.2.1 az.2.2.1 d.2.2.2.2.2.2.2.2.2.2 ((c.getD d.1.toNat aI).1) ((c.getD d.1.toNat aI).2.1) ((c.getD d.1.toNat aI).2.2.1) ((c.getD d.1.toNat aI).2.2.2.1) ((c.getD d.1.toNat aI).2.2.2.2.1) ((c.getD d.1.toNat aI).2.2.2.2.2.1) ((c.getD d.1.toNat aI).2.2.2.2.2.2.1) ((c.getD d.1.toNat aI).2.2.2.2.2.2.2.1) ((c.getD d.1.toNat aI).2.2.2.2.2.2.2.2.1) ((c.getD d.1.toNat aI).2.2.2.2.2.2.2.2.2.1) c8 c9 ((c.getD d.1.toNat aI).2.2.2.2.2.2.2.2.2.2) (a.2.2.2.2.2.1.getD (IntKind.i64.wrap ((a.2.2.2.2.2.1.length : Int) - 1)).toNat (0 : Int)) go gs gy) g4) (fun _ => ⟨O, O, O, O, O, trivial⟩) (fun _ => .inr O) (fun z => Ent.refl _)) zA)
 intro d1
 refine iY 0 O (fun ea => ?_)
 refine bv (aa (aJ ?_))
 refine vq (cb O O O) O ?_
 refine vm O O (ae ?_)
 exact bV (s := (IntKind.i64.wrap (d.1 + 1), be.2.1, be.2.2.1, be.2.2.2.1, be.2.2.2.2.1, be.2.2.2.2.2.1, be.2.2.2.2.2.2.1, be.2.2.2.2.2.2.2.1, be.2.2.2.2.2.2.2.2.1, be.2.2.2.2.2.2.2.2.2.1, be.2.2.2.2.2.2.2.2.2.2)) (d1.1, d1.2.1, d1.2.2.2.2, d1.2.2.1, d1.2.2.2.1) ⟨O, O, O, O, O, trivial⟩ (.pr_in ⟨(ds.1.up ea (dT.up ea)), ds.2.1, ds.2.2⟩ (.sel 1 O (.sel 2 O (.sel 6 O (.sel 6 O (.sel 1 O (.sel 1 O (.sel 1 O (.sel 1 O (.sel 2 O (.nil _)))))))))))
 refine cN ?_
 refine ct ?_
 refine cD ?_
 refine cu ?_
 exact gb (a1.1, a1.2, az.1, az.2.1, az.2.2.2.1, az.2.2.2.2, az.2.2.1) O O O (.sel 0 O (.sel 3 O (.sel 0 O (.sel 2 O (.sel 2 O (.sel 2 O (.sel 0 O (.sel 0 O (.sel 0 O (.nil _))))))))))

def cB.f (k : Nat) (c : List ((List UInt8) × (List UInt8 × Int))) (d : List UInt8) (e : Int) (g : Bool) (h : Int) (i : List Int) (j : Int) (l : Int) (m : Int) (n : Int) (o : Int) (p : Int) (q : List (aG)) (b : Bool) (r : Bool) (s : Int) (t : Int) (u : Int) (v : Int) (w : Int) (x : List (bz)) : Option (Int × (List ((List UInt8) × (List UInt8 × Int))) × List UInt8 × Int × Bool × Int × List Int × Int × Int × Int × Int × Int × Int × (List (aG)) × Bool) := (bm.f k c d e g h i j l m n o p q b r s t u v w x).bind fun a => (some (0, a.1, a.2.1, a.2.2.1, a.2.2.2.1, a.2.2.2.2.1, a.2.2.2.2.2.1, a.2.2.2.2.2.2.1, a.2.2.2.2.2.2.2.1, a.2.2.2.2.2.2.2.2.1, a.2.2.2.2.2.2.2.2.2.1, a.2.2.2.2.2.2.2.2.2.2.1, a.2.2.2.2.2.2.2.2.2.2.2.1, a.2.2.2.2.2.2.2.2.2.2.2.2.1, a.2.2.2.2.2.2.2.2.2.2.2.2.2))
theorem cB.calls (W : World) (F : HA) (k : Nat) (e : Nat) (a3 : Nat) (g : Nat) (h : Kps) (x : List ((List UInt8) × (List UInt8 × Int))) (z : List UInt8) (ab : Int) (ad : Bool) (af : Int) (i : Option Addr) (j : Nat) (b : List Int) (al : Int) (an : Int) (az : Int) (a0 : Int) (a1 : Int) (a2 : Int) (l : Option Addr) (m : Nat) (c : List (aG)) (n : HA) (o : Bool) (a5 : Nat) (a6 : Nat) (p : Bool) (q : Int) (s : Int) (t : Int) (u : Int) (v : Int) (w : Option Addr) (d : Nat) (a : List (bz)) (be : RdV F 4 (V35 F) w a) (a9 : a.length ≤ d) (bc : d ≤ maxLen) (hgl : Glb Tryz.prog F) :
    Fn Tryz.prog W 49 [.pointer (some ⟨e, 0, none⟩), .func (.func 50) #[] #[.pointer (some ⟨a5, 0, none⟩), .pointer (some ⟨a6, 0, none⟩)]] [obj a3 97 [.map (some g), str z, .int .i64 ab, .bool ad], am (aj g ao ak h) ai h x, obj e 91 [.pointer (some ⟨a3, 0, none⟩), .int .i64 af, .slice i b.length j, .int .i64 al, .int .i64 an, .int .i64 az, .int .i64 a0, .int .i64 a1, .int .i64 a2, .slice l c.length m, .bool o], ap 3 1 (V3 tt) i b j, ap 144 5 (aQ n) l c m, n, obj a5 36 [.pointer (some ⟨e, 0, none⟩)], obj a6 45 [.bool p, .int .i64 q, .int .i64 s, .int .i64 t, .int .i64 u, .int .i64 v, .slice w a.length d]] F (cB.f k x z ab ad af b al an az a0 a1 a2 c o p q s t u v a) (fun (r : Int × (List ((List UInt8) × (List UInt8 × Int))) × List UInt8 × Int × Bool × Int × List Int × Int × Int × Int × Int × Int × Int × (List (aG)) × Bool) (y : Nat × Kps × Option Addr × Nat × Option Addr × Nat × HA) => .int .i64 r.1) (fun r y => [obj a3 97 [.map (some y.1), str r.2.2.1, .int .i64 r.2.2.2.1, .bool r.2.2.2.2.1], am (aj y.1 ao ak y.2.1) ai y.2.1 r.2.1, obj e 91 [.pointer (some ⟨a3, 0, none⟩), .int .i64 r.2.2.2.2.2.1, .slice y.2.2.1 r.2.2.2.2.2.2.1.length y.2.2.2.1, .int .i64 r.2.2.2.2.2.2.2.1, .int .i64 r.2.2.2.2.2.2.2.2.1, .int .i64 r.2.2.2.2.2.2.2.2.2.1, .int .i64 r.2.2.2.2.2.2.2.2.2.2.1, .int .i64 r.2.2.2.2.2.2.2.2.2.2.2.1, .int .i64 r.2.2.2.2.2.2.2.2.2.2.2.2.1, .slice y.2.2.2.2.1 r.2.2.2.2.2.2.2.2.2.2.2.2.2.1.length y.2.2.2.2.2.1, .bool r.2.2.2.2.2.2.2.2.2.2.2.2.2.2], ap 3 1 (V3 tt) y.2.2.1 r.2.2.2.2.2.2.1 y.2.2.2.1, ap 144 5 (aQ (y.2.2.2.2.2.2)) y.2.2.2.2.1 r.2.2.2.2.2.2.2.2.2.2.2.2.2.1 y.2.2.2.2.2.1, y.2.2.2.2.2.2, obj a5 36 [.pointer (some ⟨e, 0, none⟩)], obj a6 45 [.bool p, .int .i64 q, .int .i64 s, .int .i64 t, .int .i64 u, .int .i64 v, .slice w a.length d]]) := by
 unfold cB.f
 refine kq 8 Tryz.func49 O Tryz.ntmps49 O ?_
 refine sr ?_
 refine ah (cy O O O) O O O ?_
 intro a8
 refine ah (bL O zeroValue23 O) O O O ?_
 intro a7
 refine nx ?_
 refine vq (hD O O O) O ?_
 refine jN (cap := [.pointer (some ⟨a8, 0, none⟩), .pointer (some ⟨a7, 0, none⟩)]) O O O O O O O ?_
 refine nx ?_
 refine vm O O ?_
 refine bg 5 O (fun b0 br => ?_)
 refine bg 6 O (fun b1 bs => ?_)
 refine aw (fun b2 bt => ?_)
 refine ah (av (vs := []) (cap := [.pointer (some ⟨a5, 0, none⟩), .pointer (some ⟨a6, 0, none⟩)]) (A := [obj a3 97 [.map (some g), str z, .int .i64 ab, .bool ad], am (aj g ao ak h) ai h x, obj e 91 [.pointer (some ⟨a3, 0, none⟩), .int .i64 af, .slice i b.length j, .int .i64 al, .int .i64 an, .int .i64 az, .int .i64 a0, .int .i64 a1, .int .i64 a2, .slice l c.length m, .bool o], ap 3 1 (V3 tt) i b j, ap 144 5 (aQ n) l c m, n, obj a5 36 [.pointer (some ⟨e, 0, none⟩)], obj a6 45 [.bool p, .int .i64 q, .int .i64 s, .int .i64 t, .int .i64 u, .int .i64 v, .slice w a.length d]]) (rst := [obj a7 23 [.int .i64 0], obj a8 36 [.pointer (some ⟨e, 0, none⟩)], F]) O O O O O O call50 (.sel 2 O (.sel 2 O (.sel 2 O (.sel' 2 O (ap.mk br) (.sel' 2 O (ap.mk bs) (.sel 2 O (.sel 2 O (.sel 2 O (.sel 0 O (.sel 0 O (.sel 0 O (.nil _)))))))))))) (bm.calls _ _ k a5 e a3 g h x z ab ad af i j b al an az a0 a1 a2 l m c n o a6 p q s t u v w d a (be.up (Up.lend 2 O) (V35.up (Up.lend 2 O))) a9 bc (hgl.lend 2 O)) bt) O O O ?_
 intro a4
 refine nx ?_
 refine aU (aH 8 O O O sizeOf23 O O (aM (by rfl)) O O) O O ?_
 intro _
 refine ae (aa (aA ?_))
 exact jQ (vs := [.int .i64 0]) 81 [.pointer (some ⟨a8, 0, none⟩), .pointer (some ⟨a7, 0, none⟩)] (iP.quiet a8 a7) call81 (a4.1, a4.2.1, a4.2.2.1, a4.2.2.2.1, a4.2.2.2.2.1, a4.2.2.2.2.2.1, a4.2.2.2.2.2.2) O ⟨⟨a7, O, eZ isAgg23 (.obj 8 O O)⟩, trivial⟩ O (.sel 0 O (.sel 0 O (.sel 0 O (.sel 0 O (.sel 0 O (.sel 0 O (.sel 0 O (.sel 0 O (.sel 2 O (.nil _))))))))))

def ce.f (k : Nat) (c : List ((List UInt8) × (List UInt8 × Int))) (d : List UInt8) (e : Int) (g : Bool) (h : Int) (i : List Int) (j : Int) (l : Int) (m : Int) (n : Int) (o : Int) (p : Int) (q : List (aG)) (b : Bool) (r : Bool) (s : Int) (t : Int) (u : Int) (v : Int) (w : Int) (x : List (bz)) : Option (Int × (List ((List UInt8) × (List UInt8 × Int))) × List UInt8 × Int × Bool × Int × List Int × Int × Int × Int × Int × Int × Int × (List (aG)) × Bool) := if b = true then (some (11, c, d, e, g, h, i, j, l, m, n, o, p, q, b)) else ((bA.f k c d e g h i j l m n o p q b r s t u v w x).bind fun y => (if y = (0 : Int) then ((cB.f k c d e g h i j l m n o p q b r s t u v w x).bind fun a => (some (a.1, a.2.1, a.2.2.1, a.2.2.2.1, a.2.2.2.2.1, a.2.2.2.2.2.1, a.2.2.2.2.2.2.1, a.2.2.2.2.2.2.2.1, a.2.2.2.2.2.2.2.2.1, a.2.2.2.2.2.2.2.2.2.1, a.2.2.2.2.2.2.2.2.2.2.1, a.2.2.2.2.2.2.2.2.2.2.2.1, a.2.2.2.2.2.2.2.2.2.2.2.2.1, a.2.2.2.2.2.2.2.2.2.2.2.2.2.1, a.2.2.2.2.2.2.2.2.2.2.2.2.2.2))) else (some (y, c, d, e, g, h, i, j, l, m, n, o, p, q, b))))
theorem ce.calls (W : World) (F : HA) (k : Nat) (o : Nat) (al : Nat) (a : Nat) (b : Kps) (q : List ((List UInt8) × (List UInt8 × Int))) (s : List UInt8) (t : Int) (u : Bool) (v : Int) (c : Option Addr) (d : Nat) (i : List Int) (w : Int) (x : Int) (z : Int) (ab : Int) (ad : Int) (af : Int) (e : Option Addr) (g : Nat) (j : List (aG)) (l : HA) (m : Bool) (an : Bool) (az : Int) (a0 : Int) (a1 : Int) (a2 : Int) (a3 : Int) (a4 : Option Addr) (p : Nat) (n : List (bz)) (br : RdV F 4 (V35 F) a4 n) (a8 : n.length ≤ p) (a9 : p ≤ maxLen) (hgl : Glb Tryz.prog F) :
    Fn Tryz.prog W 17 [.pointer (some ⟨o, 0, none⟩), .agg #[.bool an, .int .i64 az, .int .i64 a0, .int .i64 a1, .int .i64 a2, .int .i64 a3, .slice a4 n.length p]] [obj al 97 [.map (some a), str s, .int .i64 t, .bool u], am (aj a ao ak b) ai b q, obj o 91 [.pointer (some ⟨al, 0, none⟩), .int .i64 v, .slice c i.length d, .int .i64 w, .int .i64 x, .int .i64 z, .int .i64 ab, .int .i64 ad, .int .i64 af, .slice e j.length g, .bool m], ap 3 1 (V3 tt) c i d, ap 144 5 (aQ l) e j g, l] F (ce.f k q s t u v i w x z ab ad af j m an az a0 a1 a2 a3 n) (fun (r : Int × (List ((List UInt8) × (List UInt8 × Int))) × List UInt8 × Int × Bool × Int × List Int × Int × Int × Int × Int × Int × Int × (List (aG)) × Bool) (y : Nat × Kps × Option Addr × Nat × Option Addr × Nat × HA) => .int .i64 r.1) (fun r y => [obj al 97 [.map (some y.1), str r.2.2.1, .int .i64 r.2.2.2.1, .bool r.2.2.2.2.1], am (aj y.1 ao ak y.2.1) ai y.2.1 r.2.1, obj o 91 [.pointer (some ⟨al, 0, none⟩), .int .i64 r.2.2.2.2.2.1, .slice y.2.2.1 r.2.2.2.2.2.2.1.length y.2.2.2.1, .int .i64 r.2.2.2.2.2.2.2.1, .int .i64 r.2.2.2.2.2.2.2.2.1, .int .i64 r.2.2.2.2.2.2.2.2.2.1, .int .i64 r.2.2.2.2.2.2.2.2.2.2.1, .int .i64 r.2.2.2.2.2.2.2.2.2.2.2.1, .int .i64 r.2.2.2.2.2.2.2.2.2.2.2.2.1, .slice y.2.2.2.2.1 r.2.2.2.2.2.2.2.2.2.2.2.2.2.1.length y.2.2.2.2.2.1, .bool r.2.2.2.2.2.2.2.2.2.2.2.2.2.2], ap 3 1 (V3 tt) y.2.2.1 r.2.2.2.2.2.2.1 y.2.2.2.1, ap 144 5 (aQ (y.2.2.2.2.2.2)) y.2.2.2.2.1 r.2.2.2.2.2.2.2.2.2.2.2.2.2.1 y.2.2.2.2.2.1, y.2.2.2.2.2.2]) := by
 unfold ce.f
 refine aN 19 Tryz.func17 O Tryz.ntmps17 O ?_
 refine sr ?_
 refine ah (cy O O O) O O O ?_
 intro bc
 refine ah (cy O O O) O O O ?_
 intro be
 refine va O O (ae (aa (ay (sr ?_))))
 refine vq (ag O O isAgg36 (.obj 1 O O)) O ?_
 refine vn O O ?_
 refine vq (ar O O underlying91 O O sizeOf4 O) O ?_
 refine vq (ag O O isAgg4 (.obj 4 O O)) O (ae (aa ?_))
 refine aY O (fun c2 => ?_) (fun c3 => ?_)
 refine sr ?_
 refine va O O (ae (aa (aA ?_)))
 refine aK ?_
 exact aD (a, b, c, d, e, g, l) O O O (.sel 2 O (.sel 2 O (.sel 2 O (.sel 2 O (.sel 2 O (.sel 2 O (.sel 2 O (.nil _))))))))
 refine aC ?_
 refine aa (ay (sr ?_))
 refine vq (ag O O isAgg36 (.obj 1 O O)) O ?_
 refine vq (bU 0 O O isAgg45 sizeOf45 O O) O ?_
 refine bg 5 O (fun b5 a6 => ?_)
 refine bg 6 O (fun b6 a7 => ?_)
 refine aw (fun cd bs => ?_)
 refine bd 5 O (fun b7 bt b0 b8 => ?_)
 refine bd 6 O (fun b1 b2 b3 b9 => ?_)
 refine ah (av (vs := [.pointer (some ⟨o, 0, none⟩), .agg #[.bool an, .int .i64 az, .int .i64 a0, .int .i64 a1, .int .i64 a2, .int .i64 a3, .slice a4 n.length p]]) (cap := []) (A := [obj al 97 [.map (some a), str s, .int .i64 t, .bool u], am (aj a ao ak b) ai b q, obj o 91 [.pointer (some ⟨al, 0, none⟩), .int .i64 v, .slice c i.length d, .int .i64 w, .int .i64 x, .int .i64 z, .int .i64 ab, .int .i64 ad, .int .i64 af, .slice e j.length g, .bool m]]) (rst := [obj be 45 [.bool an, .int .i64 az, .int .i64 a0, .int .i64 a1, .int .i64 a2, .int .i64 a3, .slice a4 n.length p], obj bc 36 [.pointer (some ⟨o, 0, none⟩)], Row 3 1 c i.length d b5.flatten, Row 144 5 e j.length g b6.flatten, l, F]) O O O O O O call48 (.sel 2 O (.sel 2 O (.sel 2 O (.sel 0 O (.sel 0 O (.sel 0 O (.sel 0 O (.sel 0 O (.sel 0 O (.nil _)))))))))) (bA.calls _ _ k o al a b q s t u v c d i w x z ab ad af e g j m an az a0 a1 a2 a3 a4 p n ((Rd.asV a6 b7).up (Up.lend 2 O) (fun _ _ h => h)) bt b0 ((Rd.asV a7 b1).up (Up.lend 3 O) (aQ.up (Up.lend 4 O))) b2 b3 (br.up (Up.lend 5 O) (V35.up (Up.lend 5 O))) a8 a9) bs) O O O ?_
 intro ch
 refine va O O (nx ?_)
 refine vm O O ?_
 refine vq (cZ O O O) O (ae (aa ?_))
 refine cS O (fun cs => ?_) (fun c0 => ?_)
 refine aC ?_
 refine aa (sr ?_)
 refine vq (ag O O isAgg36 (.obj 4 O O)) O ?_
 refine vq (hD O O O) O ?_
 refine aw (fun c1 b4 => ?_)
 refine ah (av (vs := [.pointer (some ⟨o, 0, none⟩), .func (.func 50) #[] #[.pointer (some ⟨bc, 0, none⟩), .pointer (some ⟨be, 0, none⟩)]]) (cap := []) (A := [obj al 97 [.map (some a), str s, .int .i64 t, .bool u], am (aj a ao ak b) ai b q, obj o 91 [.pointer (some ⟨al, 0, none⟩), .int .i64 v, .slice c i.length d, .int .i64 w, .int .i64 x, .int .i64 z, .int .i64 ab, .int .i64 ad, .int .i64 af, .slice e j.length g, .bool m], ap 3 1 (V3 tt) c i d, ap 144 5 (aQ l) e j g, l, obj bc 36 [.pointer (some ⟨o, 0, none⟩)], obj be 45 [.bool an, .int .i64 az, .int .i64 a0, .int .i64 a1, .int .i64 a2, .int .i64 a3, .slice a4 n.length p]]) (rst := [F]) O O O O O O call49 (.sel 0 O (.sel 0 O (.sel 0 O (.sel' 2 O (ap.mk a6) (.sel' 2 O (ap.mk a7) (.sel 2 O (.sel 1 O (.sel 0 O (.sel 0 O (.nil _)))))))))) (cB.calls _ _ k o al a b q s t u v c d i w x z ab ad af e g j l m bc be an az a0 a1 a2 a3 a4 p n (br.up (Up.lend 0 O) (V35.up (Up.lend 0 O))) a8 a9 (hgl.lend 0 O)) b4) O O O ?_
 intro a5
 refine va O O (ae (aa (aA ?_)))
 exact aD (a5.1, a5.2.1, a5.2.2.1, a5.2.2.2.1, a5.2.2.2.2.1, a5.2.2.2.2.2.1, a5.2.2.2.2.2.2) O O O (.sel 0 O (.sel 0 O (.sel 0 O (.sel 0 O (.sel 0 O (.sel 0 O (.sel 2 O (.nil _))))))))
 refine sr ?_
 refine vm O O ?_
 refine va O O (ae (aa (aA ?_)))
 refine aK ?_
 exact aD (a, b, c, d, e, g, l) O O O (.sel 0 O (.sel 0 O (.sel 0 O (.sel' 2 O (ap.mk a6) (.sel' 2 O (ap.mk a7) (.sel 2 O (.sel 2 O (.nil _))))))))

def fi.f (k : Nat) (c : List ((List UInt8) × (List UInt8 × Int))) (d : List UInt8) (e : Int) (g : Bool) (j : Int) (a : List Int) (l : Int) (m : Int) (n : Int) (o : Int) (p : Int) (q : Int) (r : List (aG)) (h : Bool) : Option ((List ((List UInt8) × (List UInt8 × Int))) × List UInt8 × Int × Bool) := if 0 ≤ IntKind.i64.wrap ((a.length : Int) - 1) ∧ IntKind.i64.wrap ((a.length : Int) - 1) < (a.length : Int) then ((cr.f k (a.getD (IntKind.i64.wrap ((a.length : Int) - 1)).toNat (0 : Int))).bind fun i => ((cK.f c d e g i).bind fun b => ((bw.f b.1).bind fun s => (some (b.2.1, b.2.2.1, b.2.2.2.1, b.2.2.2.2))))) else none
theorem fi.calls (W : World) (F : HA) (k : Nat) (a1 : Nat) (b : Nat) (d : Nat) (m : Nat) (n : Kps) (al : List ((List UInt8) × (List UInt8 × Int))) (an : List UInt8) (az : Int) (a0 : Bool) (q : Int) (g : Option Addr) (c : Nat) (a : List Int) (t : Int) (u : Int) (w : Int) (x : Int) (ab : Int) (ad : Int) (af : Option Addr) (p : Nat) (h : List (aG)) (e : Bool) (a5 : RdV F 1 (V3 tt) g a) (br : a.length ≤ c) (bs : c ≤ maxLen) (b2 : RdV F 5 (aQ F) af h) (bt : h.length ≤ p) (b0 : p ≤ maxLen) (hgl : Glb Tryz.prog F) :
    Fn Tryz.prog W 60 [.pointer (some ⟨a1, 0, none⟩)] [obj d 97 [.map (some m), str an, .int .i64 az, .bool a0], am (aj m ao ak n) ai n al, obj b 91 [.pointer (some ⟨d, 0, none⟩), .int .i64 q, .slice g a.length c, .int .i64 t, .int .i64 u, .int .i64 w, .int .i64 x, .int .i64 ab, .int .i64 ad, .slice af h.length p, .bool e], obj a1 36 [.pointer (some ⟨b, 0, none⟩)]] F (fi.f k al an az a0 q a t u w x ab ad h e) (fun (r : (List ((List UInt8) × (List UInt8 × Int))) × List UInt8 × Int × Bool) (y : Nat × Kps) => .tuple #[]) (fun r y => [obj d 97 [.map (some y.1), str r.2.1, .int .i64 r.2.2.1, .bool r.2.2.2], am (aj y.1 ao ak y.2) ai y.2 r.1, obj b 91 [.pointer (some ⟨d, 0, none⟩), .int .i64 q, .slice g a.length c, .int .i64 t, .int .i64 u, .int .i64 w, .int .i64 x, .int .i64 ab, .int .i64 ad, .slice af h.length p, .bool e], obj a1 36 [.pointer (some ⟨b, 0, none⟩)]]) := by
 unfold fi.f
 refine aN 20 Tryz.func60 O Tryz.ntmps60 O ?_
 refine cU (fun a2 => ?_)
 obtain ⟨b1, a9, b5, bc, be, b3, hcell8v⟩ := RdV.pos a5 (Up.refl _) rfl (i := (IntKind.i64.wrap ((a.length : Int) - 1)).toNat) (by omega) (0 : Int)
 obtain rfl := be
 refine bp (fun a3 a6 => ?_)
 refine bp (fun l a7 => ?_)
 refine bp (fun b4 a8 => ?_)
 refine bb (Γ := (Nat × Kps)) (0, ([] : Kps)) [[], [0], [0, 1], [0, 1, 2], [], [4], [4, 5], [4, 5, 6], [], [8], [8, 9], [8, 9, 10], [8, 9, 10, 11], [8, 9, 10, 11, 12], [4, 5, 6, 7, 8, 9, 10, 11, 12, 13], [4, 5, 6, 7, 8, 9, 10, 11, 12, 13, 14], [4, 5, 6, 7, 8, 9, 10, 11, 12, 13, 14, 15], rL 17, rL 18] [16, 17, 18] [0, 1, 2, 3, 4, 5, 6, 7, 8, 9, 10, 11, 12, 13, 14, 15] (fun i => [[0, 1], [0, 1], [0, 1], [0, 1], [0], [0], [0], [0], [0], [0], [0], [0], [0], [0], [0], [0], [], [], []].getD i []) (fun i => [[], [], [], [], [], [], [], [], [], [], [], [], [], [], [], [], rL 16, rL 17, rL 18].getD i []) (fun γ i => [.pointer (some ⟨b, 0, none⟩), .pointer (some ⟨b, 0, none⟩), .pointer (some ⟨b, 0, none⟩), .pointer (some ⟨d, 0, none⟩), .pointer (some ⟨b, 0, none⟩), .pointer (some ⟨b, 0, none⟩), .pointer (some ⟨b, 2, none⟩), .slice g a.length c, .pointer (some ⟨b, 0, none⟩), .pointer (some ⟨b, 0, none⟩), .pointer (some ⟨b, 2, none⟩), .slice g a.length c, .int .i64 (a.length : Int), .int .i64 (IntKind.i64.wrap ((a.length : Int) - 1)), .pointer (some ⟨b1, a9 + (IntKind.i64.wrap ((a.length : Int) - 1)).toNat * 1, none⟩), .int .i64 (a.getD (IntKind.i64.wrap ((a.length : Int) - 1)).toNat (0 : Int)), str a3, .int .i64 l.1, .tuple #[]].getD i undef) (fun j γ => [[obj d 97 [.map (some m), str an, .int .i64 az, .bool a0], am (aj m ao ak n) ai n al, obj b 91 [.pointer (some ⟨d, 0, none⟩), .int .i64 q, .slice g a.length c, .int .i64 t, .int .i64 u, .int .i64 w, .int .i64 x, .int .i64 ab, .int .i64 ad, .slice af h.length p, .bool e], obj a1 36 [.pointer (some ⟨b, 0, none⟩)], F], [obj d 97 [.map (some m), str an, .int .i64 az, .bool a0], am (aj m ao ak n) ai n al, obj b 91 [.pointer (some ⟨d, 0, none⟩), .int .i64 q, .slice g a.length c, .int .i64 t, .int .i64 u, .int .i64 w, .int .i64 x, .int .i64 ab, .int .i64 ad, .slice af h.length p, .bool e], obj a1 36 [.pointer (some ⟨b, 0, none⟩)], F], [obj d 97 [.map (some γ.1), str l.2.2.1, .int .i64 l.2.2.2.1, .bool l.2.2.2.2], am (aj γ.1 ao ak γ.2) ai γ.2 l.2.1, obj b 91 [.pointer (some ⟨d, 0, none⟩), .int .i64 q, .slice g a.length c, .int .i64 t, .int .i64 u, .int .i64 w, .int .i64 x, .int .i64 ab, .int .i64 ad, .slice af h.length p, .bool e], obj a1 36 [.pointer (some ⟨b, 0, none⟩)], F], [obj d 97 [.map (some γ.1), str l.2.2.1, .int .i64 l.2.2.2.1, .bool l.2.2.2.2], am (aj γ.1 ao ak γ.2) ai γ.2 l.2.1, obj b 91 [.pointer (some ⟨d, 0, none⟩), .int .i64 q, .slice g a.length c, .int .i64 t, .int .i64 u, .int .i64 w, .int .i64 x, .int .i64 ab, .int .i64 ad, .slice af h.length p, .bool e], obj a1 36 [.pointer (some ⟨b, 0, none⟩)], F]].getD j []) (fun γ => []) mixed (by decide) (by decide) (by decide) (by decide) (by decide) (by decide) (by decide) 20 O (by decide) (by decide) (by decide) (Ent.refl _) ?_ ?_ (fun _ => trivial) ?_
 exact (ac (fun γ => (ac (qp O O (.o (s := 0) O (by decide) .nil) (ag O O isAgg36 (.obj 3 O O)) O) (ac (qp O O (.o (s := 0) O (by decide) .nil) (ag O O isAgg36 (.obj 3 O O)) O) zA))) (ac (fun γ => (ac (qp O O (.v 0 O O .nil) (aX O O) O) (ac (qp O O (.v 0 O O .nil) (aX O O) O) zA))) (ac (fun γ => (ac (qp O O (.v 1 O O .nil) (ar O O underlying91 O O sizeOf39 O) O) (ac (qp O O (.v 1 O O .nil) (ar O O underlying91 O O sizeOf39 O) O) zA))) (ac (fun γ => (ac (qp O O (.v 2 O O .nil) (ag O O isAgg39 (.obj 2 O O)) O) (ac (qp O O (.v 2 O O .nil) (ag O O isAgg39 (.obj 2 O O)) O) zA))) (aq O (fun γ => qp O O (.o (s := 0) O (by decide) .nil) (ag O O isAgg36 (.obj 3 O O)) O) (aq O (fun γ => qp O O (.v 4 O O .nil) (aX O O) O) (aq O (fun γ => qp O O (.v 5 O O .nil) (ar O O underlying91 O O sizeOf78 O) O) (aq O (fun γ => qp O O (.v 6 O O .nil) (ag O O isAgg78 (.obj 2 O O)) O) (aq O (fun γ => qp O O (.o (s := 0) O (by decide) .nil) (ag O O isAgg36 (.obj 3 O O)) O) (aq O (fun γ => qp O O (.v 8 O O .nil) (aX O O) O) (aq O (fun γ => qp O O (.v 9 O O .nil) (ar O O underlying91 O O sizeOf78 O) O) (aq O (fun γ => qp O O (.v 10 O O .nil) (ag O O isAgg78 (.obj 2 O O)) O) (aq O (fun γ => qp O O (.v 11 O O .nil) (bD O O O underlying78) O) (aq O (fun γ => qp O O (.v 12 O O .nil) (dc O O O) O) (aq O (fun γ => qp O O (.v 7 O O (.v 13 O O .nil)) (dC O O O bc underlying78 sizeOf3 a2.1 a2.2) O) (aq O (fun γ => qp O O (.v 14 O O .nil) (ag O O isAgg3 (hcell8v 4 O 0 _ O)) O) zA))))))))))))))))
 exact (ac (fun γ => eo (Z := Unit) (fun z => γ) O O (.v 15 O O .nil) (av (val := fun (r : List UInt8) (y : Unit) => str r) (B := fun _ _ => []) (vs := [.int .i64 (a.getD (IntKind.i64.wrap ((a.length : Int) - 1)).toNat (0 : Int))]) (cap := []) (A := []) (rst := [obj d 97 [.map (some m), str an, .int .i64 az, .bool a0], am (aj m ao ak n) ai n al, obj b 91 [.pointer (some ⟨d, 0, none⟩), .int .i64 q, .slice g a.length c, .int .i64 t, .int .i64 u, .int .i64 w, .int .i64 x, .int .i64 ab, .int .i64 ad, .slice af h.length p, .bool e], obj a1 36 [.pointer (some ⟨b, 0, none⟩)], F]) O O O O O O call47 (.sel 0 O (.sel 0 O (.sel 0 O (.sel 0 O (.sel 0 O (.nil _)))))) (cr.calls _ _ k (a.getD (IntKind.i64.wrap ((a.length : Int) - 1)).toNat (0 : Int)) (hgl.lend 4 O)) a6) (fun _ => ⟨O, O, O, O, O, O, O, O, O, O, O, O, O, O, O, O, trivial⟩) (fun _ => .inr O) (fun z => Ent.refl _)) (ac (fun γ => eo (Z := Nat × Kps) (fun z => z) O O (.v 3 O O (.v 16 O O .nil)) (av (vs := [.pointer (some ⟨d, 0, none⟩), str a3]) (cap := []) (A := [obj d 97 [.map (some m), str an, .int .i64 az, .bool a0], am (aj m ao ak n) ai n al]) (rst := [obj b 91 [.pointer (some ⟨d, 0, none⟩), .int .i64 q, .slice g a.length c, .int .i64 t, .int .i64 u, .int .i64 w, .int .i64 x, .int .i64 ab, .int .i64 ad, .slice af h.length p, .bool e], obj a1 36 [.pointer (some ⟨b, 0, none⟩)], F]) O O O O O O call46 (.sel 0 O (.sel 0 O (.sel 0 O (.sel 0 O (.sel 0 O (.nil _)))))) (cK.calls _ _ d m n al an az a0 a3 ) a7) (fun _ => ⟨O, O, O, O, O, O, O, O, O, O, O, O, O, O, O, O, O, trivial⟩) (fun _ => .inr O) (fun z => Ent.refl _)) (ac (fun γ => eo (Z := Unit) (fun z => γ) O O (.v 17 O O .nil) (av (vs := [.int .i64 l.1]) (cap := []) (A := []) (rst := [obj d 97 [.map (some γ.1), str l.2.2.1, .int .i64 l.2.2.2.1, .bool l.2.2.2.2], am (aj γ.1 ao ak γ.2) ai γ.2 l.2.1, obj b 91 [.pointer (some ⟨d, 0, none⟩), .int .i64 q, .slice g a.length c, .int .i64 t, .int .i64 u, .int .i64 w, .int .i64 x, .int .i64 ab, .int .i64 ad, .slice af h.length p, .bool e], obj a1 36 [.pointer (some ⟨b, 0, none⟩)], F]) O O O O O O call43 (.sel 0 O (.sel 0 O (.sel 0 O (.sel 0 O (.sel 0 O (.nil _)))))) (bw.calls _ _ l.1 ) a8) (fun _ => ⟨O, O, O, O, O, O, O, O, O, O, O, O, O, O, O, O, O, O, trivial⟩) (fun _ => .inr O) (fun z => Ent.refl _)) zA)))
 intro a4
 exact gb (a4.1, a4.2) O O O (.sel 0 O (.sel 0 O (.sel 0 O (.sel 0 O (.sel 0 O (.nil _))))))

def di.f (k : Nat) (c : List ((List UInt8) × (List UInt8 × Int))) (d : List UInt8) (e : Int) (g : Bool) (h : Int) (i : List Int) (j : Int) (l : Int) (m : Int) (n : Int) (o : Int) (p : Int) (q : List (aG)) (b : Bool) : Option (Int × (List ((List UInt8) × (List UInt8 × Int))) × List UInt8 × Int × Bool) := (fi.f k c d e g h i j l m n o p q b).bind fun a => (some (0, a.1, a.2.1, a.2.2.1, a.2.2.2))
theorem di.calls (W : World) (F : HA) (k : Nat) (g : Nat) (ab : Nat) (i : Nat) (j : Kps) (v : List ((List UInt8) × (List UInt8 × Int))) (w : List UInt8) (x : Int) (z : Bool) (l : Int) (m : Option Addr) (d : Nat) (a : List Int) (n : Int) (o : Int) (p : Int) (q : Int) (s : Int) (t : Int) (u : Option Addr) (e : Nat) (b : List (aG)) (c : Bool) (ad : Nat) (a2 : RdV F 1 (V3 tt) m a) (an : a.length ≤ d) (az : d ≤ maxLen) (a3 : RdV F 5 (aQ F) u b) (a0 : b.length ≤ e) (a1 : e ≤ maxLen) (hgl : Glb Tryz.prog F) :
    Fn Tryz.prog W 49 [.pointer (some ⟨g, 0, none⟩), .func (.func 60) #[] #[.pointer (some ⟨ad, 0, none⟩)]] [obj ab 97 [.map (some i), str w, .int .i64 x, .bool z], am (aj i ao ak j) ai j v, obj g 91 [.pointer (some ⟨ab, 0, none⟩), .int .i64 l, .slice m a.length d, .int .i64 n, .int .i64 o, .int .i64 p, .int .i64 q, .int .i64 s, .int .i64 t, .slice u b.length e, .bool c], obj ad 36 [.pointer (some ⟨g, 0, none⟩)]] F (di.f k v w x z l a n o p q s t b c) (fun (r : Int × (List ((List UInt8) × (List UInt8 × Int))) × List UInt8 × Int × Bool) (y : Nat × Kps) => .int .i64 r.1) (fun r y => [obj ab 97 [.map (some y.1), str r.2.2.1, .int .i64 r.2.2.2.1, .bool r.2.2.2.2], am (aj y.1 ao ak y.2) ai y.2 r.2.1, obj g 91 [.pointer (some ⟨ab, 0, none⟩), .int .i64 l, .slice m a.length d, .int .i64 n, .int .i64 o, .int .i64 p, .int .i64 q, .int .i64 s, .int .i64 t, .slice u b.length e, .bool c], obj ad 36 [.pointer (some ⟨g, 0, none⟩)]]) := by
 unfold di.f
 refine kq 8 Tryz.func49 O Tryz.ntmps49 O ?_
 refine sr ?_
 refine ah (cy O O O) O O O ?_
 intro al
 refine ah (bL O zeroValue23 O) O O O ?_
 intro af
 refine nx ?_
 refine vq (hD O O O) O ?_
 refine jN (cap := [.pointer (some ⟨al, 0, none⟩), .pointer (some ⟨af, 0, none⟩)]) O O O O O O O ?_
 refine nx ?_
 refine vm O O ?_
 refine aw (fun a6 a5 => ?_)
 refine ah (av (vs := []) (cap := [.pointer (some ⟨ad, 0, none⟩)]) (A := [obj ab 97 [.map (some i), str w, .int .i64 x, .bool z], am (aj i ao ak j) ai j v, obj g 91 [.pointer (some ⟨ab, 0, none⟩), .int .i64 l, .slice m a.length d, .int .i64 n, .int .i64 o, .int .i64 p, .int .i64 q, .int .i64 s, .int .i64 t, .slice u b.length e, .bool c], obj ad 36 [.pointer (some ⟨g, 0, none⟩)]]) (rst := [obj af 23 [.int .i64 0], obj al 36 [.pointer (some ⟨g, 0, none⟩)], F]) O O O O O O call60 (.sel 2 O (.sel 2 O (.sel 2 O (.sel 2 O (.sel 0 O (.sel 0 O (.sel 0 O (.nil _)))))))) (fi.calls _ _ k ad g ab i j v w x z l m d a n o p q s t u e b c (a2.up (Up.lend 2 O) (fun _ _ h => h)) an az (a3.up (Up.lend 2 O) (aQ.up (Up.lend 2 O))) a0 a1 (hgl.lend 2 O)) a5) O O O ?_
 intro a4
 refine nx ?_
 refine aU (aH 4 O O O sizeOf23 O O (aM (by rfl)) O O) O O ?_
 intro _
 refine ae (aa (aA ?_))
 exact jQ (vs := [.int .i64 0]) 81 [.pointer (some ⟨al, 0, none⟩), .pointer (some ⟨af, 0, none⟩)] (iP.quiet al af) call81 (a4.1, a4.2) O ⟨⟨af, O, eZ isAgg23 (.obj 4 O O)⟩, trivial⟩ O (.sel 0 O (.sel 0 O (.sel 0 O (.sel 0 O (.sel 2 O (.nil _))))))

def fN.f (k : Nat) (c : List ((List UInt8) × (List UInt8 × Int))) (d : List UInt8) (e : Int) (g : Bool) (h : Int) (i : List Int) (j : Int) (l : Int) (m : Int) (n : Int) (o : Int) (p : Int) (q : List (aG)) (a : Bool) : Option (Int × (List ((List UInt8) × (List UInt8 × Int))) × List UInt8 × Int × Bool) := if a = true then (some (11, c, d, e, g)) else ((di.f k c d e g h i j l m n o p q a).bind fun b => (some (b.1, b.2.1, b.2.2.1, b.2.2.2.1, b.2.2.2.2)))
theorem fN.calls (W : World) (F : HA) (k : Nat) (z : Nat) (ab : Nat) (d : Nat) (e : Kps) (u : List ((List UInt8) × (List UInt8 × Int))) (v : List UInt8) (w : Int) (x : Bool) (j : Int) (l : Option Addr) (g : Nat) (a : List Int) (m : Int) (n : Int) (o : Int) (p : Int) (q : Int) (s : Int) (t : Option Addr) (i : Nat) (b : List (aG)) (c : Bool) (a0 : RdV F 1 (V3 tt) l a) (ad : a.length ≤ g) (af : g ≤ maxLen) (a1 : RdV F 5 (aQ F) t b) (al : b.length ≤ i) (an : i ≤ maxLen) (hgl : Glb Tryz.prog F) :
    Fn Tryz.prog W 23 [.pointer (some ⟨z, 0, none⟩)] [obj ab 97 [.map (some d), str v, .int .i64 w, .bool x], am (aj d ao ak e) ai e u, obj z 91 [.pointer (some ⟨ab, 0, none⟩), .int .i64 j, .slice l a.length g, .int .i64 m, .int .i64 n, .int .i64 o, .int .i64 p, .int .i64 q, .int .i64 s, .slice t b.length i, .bool c]] F (fN.f k u v w x j a m n o p q s b c) (fun (r : Int × (List ((List UInt8) × (List UInt8 × Int))) × List UInt8 × Int × Bool) (y : Nat × Kps) => .int .i64 r.1) (fun r y => [obj ab 97 [.map (some y.1), str r.2.2.1, .int .i64 r.2.2.2.1, .bool r.2.2.2.2], am (aj y.1 ao ak y.2) ai y.2 r.2.1, obj z 91 [.pointer (some ⟨ab, 0, none⟩), .int .i64 j, .slice l a.length g, .int .i64 m, .int .i64 n, .int .i64 o, .int .i64 p, .int .i64 q, .int .i64 s, .slice t b.length i, .bool c]]) := by
 unfold fN.f
 refine aN 10 Tryz.func23 O Tryz.ntmps23 O ?_
 refine sr ?_
 refine ah (cy O O O) O O O ?_
 intro az
 refine va O O (ae (aa (ay (sr ?_))))
 refine vq (ag O O isAgg36 (.obj 0 O O)) O ?_
 refine vn O O ?_
 refine vq (ar O O underlying91 O O sizeOf4 O) O ?_
 refine vq (ag O O isAgg4 (.obj 3 O O)) O (ae (aa ?_))
 refine aY O (fun a4 => ?_) (fun a5 => ?_)
 refine sr ?_
 refine va O O (ae (aa (aA ?_)))
 refine aK ?_
 exact aD (d, e) O O O (.sel 1 O (.sel 1 O (.sel 1 O (.sel 1 O (.nil _)))))
 refine aC ?_
 refine aa (sr ?_)
 refine vq (ag O O isAgg36 (.obj 0 O O)) O ?_
 refine vq (hD O O O) O ?_
 refine aw (fun a6 a3 => ?_)
 refine ah (av (vs := [.pointer (some ⟨z, 0, none⟩), .func (.func 60) #[] #[.pointer (some ⟨az, 0, none⟩)]]) (cap := []) (A := [obj ab 97 [.map (some d), str v, .int .i64 w, .bool x], am (aj d ao ak e) ai e u, obj z 91 [.pointer (some ⟨ab, 0, none⟩), .int .i64 j, .slice l a.length g, .int .i64 m, .int .i64 n, .int .i64 o, .int .i64 p, .int .i64 q, .int .i64 s, .slice t b.length i, .bool c], obj az 36 [.pointer (some ⟨z, 0, none⟩)]]) (rst := [F]) O O O O O O call49 (.sel 1 O (.sel 1 O (.sel 1 O (.sel 0 O (.sel 0 O (.nil _)))))) (di.calls _ _ k z ab d e u v w x j l g a m n o p q s t i b c az (a0.up (Up.lend 0 O) (fun _ _ h => h)) ad af (a1.up (Up.lend 0 O) (aQ.up (Up.lend 0 O))) al an (hgl.lend 0 O)) a3) O O O ?_
 intro a2
 refine va O O (ae (aa (aA ?_)))
 exact aD (a2.1, a2.2) O O O (.sel 0 O (.sel 0 O (.sel 0 O (.sel 1 O (.nil _)))))

def fO.f (b : List ((List UInt8) × (List UInt8 × Int))) (c : List UInt8) (d : Int) (e : Bool) (g : Int) (h : List Int) (i : Int) (j : Int) (k : Int) (l : Int) (m : Int) (n : Int) (o : List (aG)) (a : Bool) : Option (Int × Int) := (cA.f b c d e g h i j k l m n o a).bind fun p => (some (p.1, p.2))
theorem fO.calls (W : World) (F : HA) (z : Nat) (x : Nat) (a : Nat) (b : Kps) (j : List ((List UInt8) × (List UInt8 × Int))) (k : List UInt8) (l : Int) (m : Bool) (n : Int) (o : Option Addr) (g : Nat) (c : List Int) (p : Int) (q : Int) (s : Int) (t : Int) (u : Int) (v : Int) (w : Option Addr) (i : Nat) (d : List (aG)) (e : Bool) (an : RdV F 1 (V3 tt) o c) (ab : c.length ≤ g) (ad : g ≤ maxLen) (az : RdV F 5 (aQ F) w d) (af : d.length ≤ i) (al : i ≤ maxLen) :
    Fn Tryz.prog W 31 [.pointer (some ⟨z, 0, none⟩)] [obj x 97 [.map (some a), str k, .int .i64 l, .bool m], am (aj a ao ak b) ai b j, obj z 91 [.pointer (some ⟨x, 0, none⟩), .int .i64 n, .slice o c.length g, .int .i64 p, .int .i64 q, .int .i64 s, .int .i64 t, .int .i64 u, .int .i64 v, .slice w d.length i, .bool e]] F (fO.f j k l m n c p q s t u v d e) (fun (r : Int × Int) (y : Unit) => .tuple #[.int .i64 r.1, .int .i64 r.2]) (fun r y => [obj x 97 [.map (some a), str k, .int .i64 l, .bool m], am (aj a ao ak b) ai b j, obj z 91 [.pointer (some ⟨x, 0, none⟩), .int .i64 n, .slice o c.length g, .int .i64 p, .int .i64 q, .int .i64 s, .int .i64 t, .int .i64 u, .int .i64 v, .slice w d.length i, .bool e]]) := by
 unfold fO.f
 refine aN 10 Tryz.func31 O Tryz.ntmps31 O ?_
 refine sr ?_
 refine va O O ?_
 refine va O O (nx ?_)
 refine vm O O ?_
 refine vn O O ?_
 refine vq (ar O O underlying91 O O sizeOf89 O) O ?_
 refine aw (fun a1 a0 => ?_)
 refine ah (av (vs := [.pointer (some ⟨z, 4, none⟩)]) (cap := []) (A := [obj x 97 [.map (some a), str k, .int .i64 l, .bool m], am (aj a ao ak b) ai b j, obj z 91 [.pointer (some ⟨x, 0, none⟩), .int .i64 n, .slice o c.length g, .int .i64 p, .int .i64 q, .int .i64 s, .int .i64 t, .int .i64 u, .int .i64 v, .slice w d.length i, .bool e]]) (rst := [F]) O O O O O O call61 (.sel 0 O (.sel 0 O (.sel 0 O (.sel 0 O (.nil _))))) (cA.calls _ _ z x a b j k l m n o g c p q s t u v w i d e (an.up (Up.lend 0 O) (fun _ _ h => h)) ab ad (az.up (Up.lend 0 O) (aQ.up (Up.lend 0 O))) af al) a0) O O O ?_
 intro a2
 refine vq (bu O O O) O ?_
 refine vq (bu O O O) O ?_
 refine va O O ?_
 refine va O O (ae (aa (aA ?_)))
 exact aD () O O O (.sel 0 O (.sel 0 O (.sel 0 O (.sel 0 O (.nil _)))))

def cg.l0 (a : List Int) : Nat → List (List UInt8) → Int → Option (List (List UInt8))
  | 0, _, _ => none
  | k + 1, c, b => if b < (a.length : Int) then (if 0 ≤ b ∧ b < (a.length : Int) then ((cr.f k (a.getD b.toNat (0 : Int))).bind fun d => (if (c.length + ([d] : List (List UInt8)).length) * 16 ≤ 140737488355328 then (cg.l0 a k (c ++ ([d] : List (List UInt8))) (IntKind.i64.wrap (b + 1))) else none)) else none) else (some c)
def cg.f (k : Nat) (d : List ((List UInt8) × (List UInt8 × Int))) (e : List UInt8) (g : Int) (h : Bool) (i : Int) (a : List Int) (j : Int) (l : Int) (m : Int) (n : Int) (o : Int) (p : Int) (q : List (aG)) (b : Bool) : Option (List (List UInt8)) := (cg.l0 a k ([] : List (List UInt8)) 0).bind fun c => (some c)
theorem cg.calls (W : World) (F : HA) (k : Nat) (al : Nat) (ab : Nat) (b : Nat) (c : Kps) (l : List ((List UInt8) × (List UInt8 × Int))) (m : List UInt8) (n : Int) (o : Bool) (p : Int) (h : Option Addr) (d : Nat) (a : List Int) (q : Int) (t : Int) (u : Int) (v : Int) (w : Int) (x : Int) (z : Option Addr) (j : Nat) (e : List (aG)) (g : Bool) (a2 : RdV F 1 (V3 tt) h a) (a9 : a.length ≤ d) (bc : d ≤ maxLen) (bt : RdV F 5 (aQ F) z e) (be : e.length ≤ j) (br : j ≤ maxLen) (hgl : Glb Tryz.prog F) :
    Fn Tryz.prog W 25 [.pointer (some ⟨al, 0, none⟩)] [obj ab 97 [.map (some b), str m, .int .i64 n, .bool o], am (aj b ao ak c) ai c l, obj al 91 [.pointer (some ⟨ab, 0, none⟩), .int .i64 p, .slice h a.length d, .int .i64 q, .int .i64 t, .int .i64 u, .int .i64 v, .int .i64 w, .int .i64 x, .slice z e.length j, .bool g]] F (cg.f k l m n o p a q t u v w x e g) (fun (r : List (List UInt8)) (y : Option Addr × Nat) => .slice y.1 r.length y.2) (fun r y => [ap 9 1 (V9 tt) y.1 r y.2, obj ab 97 [.map (some b), str m, .int .i64 n, .bool o], am (aj b ao ak c) ai c l, obj al 91 [.pointer (some ⟨ab, 0, none⟩), .int .i64 p, .slice h a.length d, .int .i64 q, .int .i64 t, .int .i64 u, .int .i64 v, .int .i64 w, .int .i64 x, .slice z e.length j, .bool g]]) := by
 unfold cg.f
 refine aN 22 Tryz.func25 O Tryz.ntmps25 O ?_
 refine sr ?_
 refine va O O (nx ?_)
 refine va O O (ae (aa ?_))
 refine bE (S := List (List UInt8)) (Option Addr × Nat) (fun s y => [(3, .slice y.1 s.length y.2)]) (fun s y => [obj ab 97 [.map (some b), str m, .int .i64 n, .bool o], obj al 91 [.pointer (some ⟨ab, 0, none⟩), .int .i64 p, .slice h a.length d, .int .i64 q, .int .i64 t, .int .i64 u, .int .i64 v, .int .i64 w, .int .i64 x, .slice z e.length j, .bool g], ap 9 1 (V9 tt) y.1 s y.2, am (aj b ao ak c) ai c l, F]) ?_ ?_
 refine sr ?_
 refine vm O O ?_
 refine vn O O ?_
 refine vq (ar O O underlying91 O O sizeOf78 O) O ?_
 refine vq (ag O O isAgg78 (.obj 2 O O)) O ?_
 refine vq (bD O O O underlying78) O ?_
 refine vm O O (ae (aa ?_))
 refine aT ?_
 refine cC (S := List (List UInt8) × Int) (Option Addr × Nat) (fun k s => cg.l0 a k s.1 s.2) (fun s y => [(3, .slice y.1 s.1.length y.2), (9, .slice h a.length d), (10, .int .i64 (a.length : Int)), (11, .int .i64 s.2)]) (fun s y => [obj ab 97 [.map (some b), str m, .int .i64 n, .bool o], obj al 91 [.pointer (some ⟨ab, 0, none⟩), .int .i64 p, .slice h a.length d, .int .i64 q, .int .i64 t, .int .i64 u, .int .i64 v, .int .i64 w, .int .i64 x, .slice z e.length j, .bool g], ap 9 1 (V9 tt) y.1 s.1 y.2, am (aj b ao ak c) ai c l, F]) (fun _ => by rw [cg.l0]) ?_ k (([] : List (List UInt8)), 0) (none, 0) ⟨O, O, O, O, trivial⟩ (.sel 0 O (.sel 1 O (.rowV_nil (.sel 0 O (.sel 0 O (.nil _))))))
 intro k ad az
 refine df (by rw [cg.l0]) ?_
 refine sr ?_
 refine vq (cH O O O) O (ae (aa (ay ?_)))
 refine bf O (fun b6 => ?_) (fun b7 => ?_)
 refine aC ?_
 refine aa (ay ?_)
 refine aT ?_
 refine sr ?_
 refine bh (fun a0 => ?_)
 obtain ⟨b2, b0, b3, a3, a4, bs, hcell16v⟩ := RdV.pos a2 (Up.refl _) rfl (i := ad.2.toNat) (by omega) (0 : Int)
 obtain rfl := a4
 refine vq (dC O O O a3 underlying78 sizeOf3 a0.1 a0.2) O ?_
 refine vq (ag O O isAgg3 (hcell16v 4 O 0 _ O)) O ?_
 refine va O O (ny ?_)
 refine vm O O ?_
 refine vm O O ?_
 refine aw (fun af a5 => ?_)
 refine ah (av (vs := [.int .i64 (a.getD ad.2.toNat (0 : Int))]) (cap := []) (A := []) (rst := [obj ab 97 [.map (some b), str m, .int .i64 n, .bool o], obj al 91 [.pointer (some ⟨ab, 0, none⟩), .int .i64 p, .slice h a.length d, .int .i64 q, .int .i64 t, .int .i64 u, .int .i64 v, .int .i64 w, .int .i64 x, .slice z e.length j, .bool g], ap 9 1 (V9 tt) az.1 ad.1 az.2, am (aj b ao ak c) ai c l, F]) O O O O O O call47 (.sel 0 O (.sel 0 O (.sel 0 O (.sel 0 O (.sel 0 O (.nil _)))))) (cr.calls _ _ k (a.getD ad.2.toNat (0 : Int)) (hgl.lend 4 O)) a5) O O O ?_
 intro b4
 have an : bx 1 (V9 tt) ([af] : List (List UInt8)) [[str af]] := ⟨⟨rfl, aM (by rfl), rfl⟩, trivial⟩
 refine ah (eB (V := (V9 tt)) (xs := ([af] : List (List UInt8))) [[str af]] O O underlying60 tU O (by kernel_rfl) O an O O) O O O ?_
 intro b5
 refine bg 3 O (fun b1 a6 => ?_)
 refine bh (fun a7 => ?_)
 refine ah (ej 3 O O O underlying60 tU O a6 (fI.row an 0 O) a7) O O O ?_
 intro a1
 refine va O O (ae (bv (aa (aJ ?_))))
 refine vq (cb O O O) O ?_
 refine vm O O (ae ?_)
 exact bV (s := (ad.1 ++ ([af] : List (List UInt8)), IntKind.i64.wrap (ad.2 + 1))) (a1.1, a1.2) ⟨O, O, O, O, trivial⟩ (.sel 1 O (.sel 1 O (.sel 1 O (.sel 1 O (.sel 1 O (.nil _))))))
 refine cN ?_
 refine ct ?_
 refine cD ?_
 refine cu ?_
 exact aF (s := ad.1) (az.1, az.2) ⟨O, trivial⟩ (.sel 0 O (.sel 0 O (.sel 0 O (.sel 0 O (.sel 0 O (.nil _))))))
 intro b8 a8
 refine sr ?_
 refine vm O O ?_
 refine va O O (ae (aa (aA ?_)))
 exact aD (a8.1, a8.2) O O O (.sel 2 O (.sel 0 O (.sel 1 O (.sel 0 O (.sel 0 O (.nil _))))))

def dk.l0 (b : List ((List UInt8) × (List UInt8 × Int))) (c : List UInt8) (d : Int) (e : Bool) (g : List (List UInt8)) : Nat → Int → Int → Option (Int)
  | 0, _, _ => none
  | k + 1, h, a => if a < (g.length : Int) then (if 0 ≤ a ∧ a < (g.length : Int) then ((eC.f b c d e (g.getD a.toNat ([] : List UInt8))).bind fun i => (dk.l0 b c d e g k (IntKind.i64.wrap (h + (i.1.length : Int))) (IntKind.i64.wrap (a + 1)))) else none) else (some h)
def dk.f (k : Nat) (a : List ((List UInt8) × (List UInt8 × Int))) (b : List UInt8) (c : Int) (d : Bool) (g : Int) (h : List Int) (i : Int) (j : Int) (l : Int) (m : Int) (n : Int) (o : Int) (p : List (aG)) (e : Bool) : Option (Int) := ((cg.f k a b c d g h i j l m n o p e).bind fun q => (dk.l0 a b c d q k 0 0)).bind fun r => (some r)
theorem dk.calls (W : World) (F : HA) (k : Nat) (af : Nat) (p : Nat) (a : Nat) (b : Kps) (c : List ((List UInt8) × (List UInt8 × Int))) (d : List UInt8) (e : Int) (g : Bool) (q : Int) (t : Option Addr) (n : Nat) (j : List Int) (u : Int) (v : Int) (w : Int) (x : Int) (z : Int) (ab : Int) (ad : Option Addr) (o : Nat) (l : List (aG)) (m : Bool) (a6 : RdV F 1 (V3 tt) t j) (a2 : j.length ≤ n) (a3 : n ≤ maxLen) (a7 : RdV F 5 (aQ F) ad l) (a4 : l.length ≤ o) (a5 : o ≤ maxLen) (hgl : Glb Tryz.prog F) :
    Fn Tryz.prog W 28 [.pointer (some ⟨af, 0, none⟩)] [obj p 97 [.map (some a), str d, .int .i64 e, .bool g], am (aj a ao ak b) ai b c, obj af 91 [.pointer (some ⟨p, 0, none⟩), .int .i64 q, .slice t j.length n, .int .i64 u, .int .i64 v, .int .i64 w, .int .i64 x, .int .i64 z, .int .i64 ab, .slice ad l.length o, .bool m]] F (dk.f k c d e g q j u v w x z ab l m) (fun (r : Int) (y : Unit) => .int .i64 r) (fun r y => [obj p 97 [.map (some a), str d, .int .i64 e, .bool g], am (aj a ao ak b) ai b c, obj af 91 [.pointer (some ⟨p, 0, none⟩), .int .i64 q, .slice t j.length n, .int .i64 u, .int .i64 v, .int .i64 w, .int .i64 x, .int .i64 z, .int .i64 ab, .slice ad l.length o, .bool m]]) := by
 unfold dk.f
 refine aN 30 Tryz.func28 O Tryz.ntmps28 O ?_
 refine sr ?_
 refine va O O (nx ?_)
 refine va O O (ae (aa ?_))
 refine bE (S := Int) (Unit) (fun s y => [(3, .int .i64 s)]) (fun s y => [obj p 97 [.map (some a), str d, .int .i64 e, .bool g], obj af 91 [.pointer (some ⟨p, 0, none⟩), .int .i64 q, .slice t j.length n, .int .i64 u, .int .i64 v, .int .i64 w, .int .i64 x, .int .i64 z, .int .i64 ab, .slice ad l.length o, .bool m], am (aj a ao ak b) ai b c, F]) ?_ ?_
 refine sr ?_
 refine vm O O ?_
 refine aw (fun al br => ?_)
 refine ah (av (vs := [.pointer (some ⟨af, 0, none⟩)]) (cap := []) (A := [obj p 97 [.map (some a), str d, .int .i64 e, .bool g], am (aj a ao ak b) ai b c, obj af 91 [.pointer (some ⟨p, 0, none⟩), .int .i64 q, .slice t j.length n, .int .i64 u, .int .i64 v, .int .i64 w, .int .i64 x, .int .i64 z, .int .i64 ab, .slice ad l.length o, .bool m]]) (rst := [F]) O O O O O O call25 (.sel 0 O (.sel 0 O (.sel 0 O (.sel 0 O (.nil _))))) (cg.calls _ _ k af p a b c d e g q t n j u v w x z ab ad o l m (a6.up (Up.lend 0 O) (fun _ _ h => h)) a2 a3 (a7.up (Up.lend 0 O) (aQ.up (Up.lend 0 O))) a4 a5 (hgl.lend 0 O)) br) O O O ?_
 intro an
 refine vq (bD O O O underlying60) O ?_
 refine vm O O (ae (aa ?_))
 refine aT ?_
 refine cC (S := Int × Int) (Unit) (fun k s => dk.l0 c d e g al k s.1 s.2) (fun s y => [(0, .pointer (some ⟨af, 0, none⟩)), (3, .int .i64 s.1), (9, .slice an.1 al.length an.2), (10, .int .i64 (al.length : Int)), (11, .int .i64 s.2)]) (fun s y => [obj p 97 [.map (some a), str d, .int .i64 e, .bool g], obj af 91 [.pointer (some ⟨p, 0, none⟩), .int .i64 q, .slice t j.length n, .int .i64 u, .int .i64 v, .int .i64 w, .int .i64 x, .int .i64 z, .int .i64 ab, .slice ad l.length o, .bool m], ap 9 1 (V9 tt) an.1 al an.2, am (aj a ao ak b) ai b c, F]) (fun _ => by rw [dk.l0]) ?_ k (0, 0) () ⟨O, O, O, O, O, trivial⟩ (.sel 1 O (.sel 2 O (.sel 0 O (.sel 0 O (.sel 0 O (.nil _))))))
 intro k az b6
 refine df (by rw [dk.l0]) ?_
 refine sr ?_
 refine vq (cH O O O) O (ae (aa (ay ?_)))
 refine bf O (fun b1 => ?_) (fun b2 => ?_)
 refine aC ?_
 refine aa (ay ?_)
 refine aT ?_
 refine sr ?_
 refine bg 2 O (fun a8 a0 => ?_)
 refine bh (fun a1 => ?_)
 refine fw 2 O a0 O (i := az.2.toNat) (by omega) ([] : List UInt8) (fun b3 b0 b4 a9 bc bt hcell19v => ?_)
 obtain rfl := bc
 refine vq (dC O O O a9 underlying60 sizeOf9 a1.1 a1.2) O ?_
 refine vq (ag O O isAgg9 (hcell19v 2 O 0 _ O)) O ?_
 refine va O O (nx ?_)
 refine vm O O ?_
 refine vn O O ?_
 refine vq (ar O O underlying91 O O sizeOf39 O) O ?_
 refine vq (ag O O isAgg39 (.obj 1 O O)) O ?_
 refine vm O O ?_
 refine aw (fun bs be => ?_)
 refine ah (av (vs := [.pointer (some ⟨p, 0, none⟩), str (al.getD az.2.toNat ([] : List UInt8))]) (cap := []) (A := [obj p 97 [.map (some a), str d, .int .i64 e, .bool g], am (aj a ao ak b) ai b c]) (rst := [obj af 91 [.pointer (some ⟨p, 0, none⟩), .int .i64 q, .slice t j.length n, .int .i64 u, .int .i64 v, .int .i64 w, .int .i64 x, .int .i64 z, .int .i64 ab, .slice ad l.length o, .bool m], Row 9 1 an.1 al.length an.2 a8.flatten, F]) O O O O O O call26 (.sel 0 O (.sel 2 O (.sel 0 O (.sel 0 O (.sel 0 O (.nil _)))))) (eC.calls _ _ p a b c d e g (al.getD az.2.toNat ([] : List UInt8)) ) be) O O O ?_
 intro b5
 refine vm O O ?_
 refine vq (bu O O O) O ?_
 refine vq (bu O O O) O ?_
 refine va O O ?_
 refine va O O (ny ?_)
 refine vm O O ?_
 refine vm O O ?_
 refine vq (bD O O O underlying33) O ?_
 refine vq (cb O O O) O ?_
 refine va O O (ae (bv (aa (aJ ?_))))
 refine vq (cb O O O) O ?_
 refine vm O O (ae ?_)
 exact bV (s := (IntKind.i64.wrap (az.1 + (bs.1.length : Int)), IntKind.i64.wrap (az.2 + 1))) () ⟨O, O, O, O, O, trivial⟩ (.sel 1 O (.sel 2 O (.sel' 2 O (ap.mk a0) (.sel 1 O (.sel 1 O (.nil _))))))
 refine cN ?_
 refine ct ?_
 refine cD ?_
 refine cu ?_
 exact aF (s := az.1) () ⟨O, trivial⟩ (.sel 0 O (.sel 0 O (.sel 1 O (.sel 1 O (.nil _)))))
 intro b7 b8
 refine sr ?_
 refine vm O O ?_
 refine va O O (ae (aa (aA ?_)))
 exact aD () O O O (.sel 0 O (.sel 1 O (.sel 0 O (.sel 0 O (.nil _)))))

def eh.f (k : Nat)  : Option (Bool) := (eL.f).bind fun g => ((bC.f k g.1 g.2.1 g.2.2.1 g.2.2.2 (64 : Int)).bind fun c => (if c.1 = true then ((if c.2.2.2.2.2.2.2.2.2.2.2.1 = true then (some true) else ((cl.f c.2.2.2.2.2.2.2.2.2.2.2.2.1).bind fun m => (some (!decide (m = (0 : Int)))))).bind fun s => (if s = true then (some false) else ((ce.f k c.2.2.2.2.2.2.2.2.2.2.2.2.2.1 c.2.2.2.2.2.2.2.2.2.2.2.2.2.2.1 c.2.2.2.2.2.2.2.2.2.2.2.2.2.2.2.1 c.2.2.2.2.2.2.2.2.2.2.2.2.2.2.2.2 c.2.1 c.2.2.1 c.2.2.2.1 c.2.2.2.2.1 c.2.2.2.2.2.1 c.2.2.2.2.2.2.1 c.2.2.2.2.2.2.2.1 c.2.2.2.2.2.2.2.2.1 c.2.2.2.2.2.2.2.2.2.1 c.2.2.2.2.2.2.2.2.2.2.1 true (1 : Int) (1 : Int) (0 : Int) (0 : Int) (0 : Int) ([((1 : Int), (1 : Int), (0 : Int), ([] : List UInt8)), ((1 : Int), (2 : Int), (1 : Int), ([97, 98] : List UInt8))] : List (bz))).bind fun b => ((fN.f k b.2.1 b.2.2.1 b.2.2.2.1 b.2.2.2.2.1 b.2.2.2.2.2.1 b.2.2.2.2.2.2.1 b.2.2.2.2.2.2.2.1 b.2.2.2.2.2.2.2.2.1 b.2.2.2.2.2.2.2.2.2.1 b.2.2.2.2.2.2.2.2.2.2.1 b.2.2.2.2.2.2.2.2.2.2.2.1 b.2.2.2.2.2.2.2.2.2.2.2.2.1 b.2.2.2.2.2.2.2.2.2.2.2.2.2.1 b.2.2.2.2.2.2.2.2.2.2.2.2.2.2).bind fun d => ((ce.f k d.2.1 d.2.2.1 d.2.2.2.1 d.2.2.2.2 b.2.2.2.2.2.1 b.2.2.2.2.2.2.1 b.2.2.2.2.2.2.2.1 b.2.2.2.2.2.2.2.2.1 b.2.2.2.2.2.2.2.2.2.1 b.2.2.2.2.2.2.2.2.2.2.1 b.2.2.2.2.2.2.2.2.2.2.2.1 b.2.2.2.2.2.2.2.2.2.2.2.2.1 b.2.2.2.2.2.2.2.2.2.2.2.2.2.1 b.2.2.2.2.2.2.2.2.2.2.2.2.2.2 false (0 : Int) (0 : Int) (0 : Int) (0 : Int) (0 : Int) ([((1 : Int), (4 : Int), (0 : Int), ([] : List UInt8))] : List (bz))).bind fun a => ((fO.f a.2.1 a.2.2.1 a.2.2.2.1 a.2.2.2.2.1 a.2.2.2.2.2.1 a.2.2.2.2.2.2.1 a.2.2.2.2.2.2.2.1 a.2.2.2.2.2.2.2.2.1 a.2.2.2.2.2.2.2.2.2.1 a.2.2.2.2.2.2.2.2.2.2.1 a.2.2.2.2.2.2.2.2.2.2.2.1 a.2.2.2.2.2.2.2.2.2.2.2.2.1 a.2.2.2.2.2.2.2.2.2.2.2.2.2.1 a.2.2.2.2.2.2.2.2.2.2.2.2.2.2).bind fun h => ((cg.f k a.2.1 a.2.2.1 a.2.2.2.1 a.2.2.2.2.1 a.2.2.2.2.2.1 a.2.2.2.2.2.2.1 a.2.2.2.2.2.2.2.1 a.2.2.2.2.2.2.2.2.1 a.2.2.2.2.2.2.2.2.2.1 a.2.2.2.2.2.2.2.2.2.2.1 a.2.2.2.2.2.2.2.2.2.2.2.1 a.2.2.2.2.2.2.2.2.2.2.2.2.1 a.2.2.2.2.2.2.2.2.2.2.2.2.2.1 a.2.2.2.2.2.2.2.2.2.2.2.2.2.2).bind fun e => ((cl.f b.1).bind fun n => ((if n = (0 : Int) then ((cl.f d.1).bind fun o => (some (decide (o = (0 : Int))))) else (some false)).bind fun p => ((if p = true then ((cl.f a.1).bind fun q => (some (decide (q = (13 : Int))))) else (some false)).bind fun r => ((if ((r && (decide (h.1 = (2 : Int)))) && (decide (h.2 = (1 : Int)))) = true then ((dk.f k a.2.1 a.2.2.1 a.2.2.2.1 a.2.2.2.2.1 a.2.2.2.2.2.1 a.2.2.2.2.2.2.1 a.2.2.2.2.2.2.2.1 a.2.2.2.2.2.2.2.2.1 a.2.2.2.2.2.2.2.2.2.1 a.2.2.2.2.2.2.2.2.2.2.1 a.2.2.2.2.2.2.2.2.2.2.2.1 a.2.2.2.2.2.2.2.2.2.2.2.2.1 a.2.2.2.2.2.2.2.2.2.2.2.2.2.1 a.2.2.2.2.2.2.2.2.2.2.2.2.2.2).bind fun i => (some (decide (i = (57 : Int))))) else (some false)).bind fun j => ((if (j && (decide ((e.length : Int) = (1 : Int)))) = true then (if 0 ≤ (0 : Int) ∧ (0 : Int) < (e.length : Int) then (some (decide ((e.getD (0 : Int).toNat ([] : List UInt8)) = ([119, 97, 108, 45, 48, 48, 48, 48, 48, 48, 48, 49] : List UInt8)))) else none) else (some false)).bind fun l => (some l))))))))))))) else (some false)))
theorem eh.calls (W : World) (F : HA) (k : Nat)  (hgl : Glb Tryz.prog F) :
    Fn Tryz.prog W 9 [] [] F (eh.f k ) (fun (r : Bool) (y : Unit) => .bool r) (fun r y => []) := by
 unfold eh.f
 refine aN 88 Tryz.func9 O Tryz.ntmps9 O ?_
 refine sr ?_
 refine va O O (nx ?_)
 refine aw (fun p fz => ?_)
 refine ah (av (vs := []) (cap := []) (A := []) (rst := [F]) O O O O O O call16 (.sel 0 O (.nil _)) (eL.calls _ _  ) fz) O O O ?_
 intro j
 refine va O O (nx ?_)
 refine vm O O ?_
 refine aw (fun g a5 => ?_)
 refine gT (fun a2 => ?_) (fun a2 => ?_)
 refine ah (av (vs := [.pointer (some ⟨j.1, 0, none⟩), .int .i64 64]) (cap := []) (A := [obj j.1 97 [.map (some j.2.1), str p.2.1, .int .i64 p.2.2.1, .bool p.2.2.2], am (aj j.2.1 ao ak j.2.2) ai j.2.2 p.1]) (rst := [F]) O O O O O O call15 (.sel 0 O (.sel 0 O (.sel 0 O (.nil _)))) (bC.callsT _ _ k j.1 j.2.1 j.2.2 p.1 p.2.1 p.2.2.1 p.2.2.2 (64 : Int) (hgl.lend 0 O)) (gU a5 a2)) O O O ?_
 intro d
 refine vm O O ?_
 refine vq (bu O O O) O ?_
 refine vq (bu O O O) O ?_
 refine vq (bu O O O) O ?_
 refine va O O ?_
 refine va O O ?_
 refine va O O (ae (aa (ay (sr ?_))))
 refine vm O O ?_
 refine vq (jr O O O underlying36) O ?_
 refine vm O O ?_
 refine aZ (ba O O) O O O O O O ?_
 refine vq (bW O O O O O) O ?_
 refine vm O O ?_
 refine dG 4 (S := Bool) (Unit) (fun s y => [(2, .pointer (some ⟨d.1, 0, none⟩)), (27, .bool s)]) (fun s y => [obj d.1 91 [.pointer (some ⟨j.1, 0, none⟩), .int .i64 g.2.1, .slice d.2.1 g.2.2.1.length d.2.2.1, .int .i64 g.2.2.2.1, .int .i64 g.2.2.2.2.1, .int .i64 g.2.2.2.2.2.1, .int .i64 g.2.2.2.2.2.2.1, .int .i64 g.2.2.2.2.2.2.2.1, .int .i64 g.2.2.2.2.2.2.2.2.1, .slice d.2.2.2.1 g.2.2.2.2.2.2.2.2.2.1.length d.2.2.2.2.1, .bool g.2.2.2.2.2.2.2.2.2.2.1], obj j.1 97 [.map (some d.2.2.2.2.2.2.1), str g.2.2.2.2.2.2.2.2.2.2.2.2.2.2.1, .int .i64 g.2.2.2.2.2.2.2.2.2.2.2.2.2.2.2.1, .bool g.2.2.2.2.2.2.2.2.2.2.2.2.2.2.2.2], ap 3 1 (V3 tt) d.2.1 g.2.2.1 d.2.2.1, ap 144 5 (aQ (d.2.2.2.2.2.1)) d.2.2.2.1 g.2.2.2.2.2.2.2.2.2.1 d.2.2.2.2.1, am (aj d.2.2.2.2.2.2.1 ao ak d.2.2.2.2.2.2.2) ai d.2.2.2.2.2.2.2 g.2.2.2.2.2.2.2.2.2.2.2.2.2.1, d.2.2.2.2.2.1, F]) ?_ ?_
 refine eS (fun c3 => ?_) (fun c4 => ?_)
 rw [c3]
 refine aO O O O O O O ?_
 refine aO O O O O O O ?_
 refine aO O O O O O O ?_
 refine vq (bW O O O O O) O (ae ?_)
 exact aF (s := true) () ⟨O, O, trivial⟩ (.sel 0 O (.sel 3 O (.sel 0 O (.sel 0 O (.sel 1 O (.sel 0 O (.sel 0 O (.nil _))))))))
 rw [c4]
 refine aZ (ba O O) O O O O O O ?_
 refine aw (fun go c5 => ?_)
 refine fC (av (vs := [.int .i64 g.2.2.2.2.2.2.2.2.2.2.2.2.1]) (cap := []) (A := []) (rst := [obj d.1 91 [.pointer (some ⟨j.1, 0, none⟩), .int .i64 g.2.1, .slice d.2.1 g.2.2.1.length d.2.2.1, .int .i64 g.2.2.2.1, .int .i64 g.2.2.2.2.1, .int .i64 g.2.2.2.2.2.1, .int .i64 g.2.2.2.2.2.2.1, .int .i64 g.2.2.2.2.2.2.2.1, .int .i64 g.2.2.2.2.2.2.2.2.1, .slice d.2.2.2.1 g.2.2.2.2.2.2.2.2.2.1.length d.2.2.2.2.1, .bool g.2.2.2.2.2.2.2.2.2.2.1], ap 3 1 (V3 tt) d.2.1 g.2.2.1 d.2.2.1, ap 144 5 (aQ (d.2.2.2.2.2.1)) d.2.2.2.1 g.2.2.2.2.2.2.2.2.2.1 d.2.2.2.2.1, d.2.2.2.2.2.1, obj j.1 97 [.map (some d.2.2.2.2.2.2.1), str g.2.2.2.2.2.2.2.2.2.2.2.2.2.2.1, .int .i64 g.2.2.2.2.2.2.2.2.2.2.2.2.2.2.2.1, .bool g.2.2.2.2.2.2.2.2.2.2.2.2.2.2.2.2], am (aj d.2.2.2.2.2.2.1 ao ak d.2.2.2.2.2.2.2) ai d.2.2.2.2.2.2.2 g.2.2.2.2.2.2.2.2.2.2.2.2.2.1, F]) O O O O O O call13 (.sel 0 O (.sel 0 O (.sel 0 O (.sel 0 O (.sel 0 O (.sel 0 O (.sel 0 O (.nil _)))))))) (cl.calls _ _ g.2.2.2.2.2.2.2.2.2.2.2.2.1 ) c5) O O O O O O ?_
 intro hs
 refine aZ (cZ O O O) O O O O O O ?_
 refine vq (bW O O O O O) O (ae ?_)
 exact aF (s := !decide (go = (0 : Int))) () ⟨O, O, trivial⟩ (.sel 0 O (.sel 3 O (.sel 0 O (.sel 0 O (.sel 1 O (.sel 0 O (.sel 0 O (.nil _))))))))
 intro hC hE
 refine ae (aa ?_)
 refine aY O (fun ht => ?_) (fun hu => ?_)
 refine sr ?_
 refine va O O (ae (aa (aA ?_)))
 refine aK ?_
 exact aD () O O O (.sel 6 O (.nil _))
 refine aC ?_
 refine aa (sr ?_)
 refine vm O O ?_
 refine vq (cx (v := .agg #[.int .i64 1, .int .i64 1, .int .i64 0]) O O (fun _ => by kernel_rfl)) O ?_
 refine vq (cx (v := .agg #[.int .i64 1, .int .i64 1, .int .i64 0, .slice none 0 0]) O O (fun _ => by kernel_rfl)) O ?_
 refine ah (mB (cs := [.int .u8 97, .int .u8 98]) ([97, 98] : List UInt8) O O underlying33 fV O (by kernel_rfl) O O O) O O O ?_
 intro n
 refine ah (sS 0 O O underlying33 underlying5 O O) O O O ?_
 intro _
 refine vq (cx (v := .agg #[.int .i64 1, .int .i64 2, .int .i64 1, .slice (some ⟨n, 0, none⟩) (([97, 98] : List UInt8).length) 2]) O O (fun _ => by kernel_rfl)) O ?_
 refine bd 0 O (fun c6 c7 c8 g8 => ?_)
 have az : bx 4 (V35 (Row 5 1 (some ⟨n, 0, none⟩) ([97, 98] : List UInt8).length 2 (ax ([97, 98] : List UInt8)))) ([((1 : Int), (1 : Int), (0 : Int), ([] : List UInt8)), ((1 : Int), (2 : Int), (1 : Int), ([97, 98] : List UInt8))] : List (bz)) [[.int .i64 1, .int .i64 1, .int .i64 0, .slice none 0 0], [.int .i64 1, .int .i64 2, .int .i64 1, .slice (some ⟨n, 0, none⟩) (([97, 98] : List UInt8).length) 2]] := ⟨⟨rfl, aM (by rfl), ⟨none, 0, rfl, ⟨Rd.nil _ _, Nat.le_refl _, Nat.zero_le _⟩⟩⟩, ⟨rfl, aM (by rfl), ⟨(some ⟨n, 0, none⟩), 2, rfl, ⟨c6, c7, c8⟩⟩⟩, trivial⟩
 refine ah (eB (V := (V35 (Row 5 1 (some ⟨n, 0, none⟩) ([97, 98] : List UInt8).length 2 (ax ([97, 98] : List UInt8))))) (xs := ([((1 : Int), (1 : Int), (0 : Int), ([] : List UInt8)), ((1 : Int), (2 : Int), (1 : Int), ([97, 98] : List UInt8))] : List (bz))) [[.int .i64 1, .int .i64 1, .int .i64 0, .slice none 0 0], [.int .i64 1, .int .i64 2, .int .i64 1, .slice (some ⟨n, 0, none⟩) (([97, 98] : List UInt8).length) 2]] O O underlying32 jV O (by kernel_rfl) O az O O) O O O ?_
 intro q
 refine vq (cx (v := .agg #[.bool true, .int .i64 1, .int .i64 1, .int .i64 0, .int .i64 0, .int .i64 0, .slice (some ⟨q, 0, none⟩) (([((1 : Int), (1 : Int), (0 : Int), ([] : List UInt8)), ((1 : Int), (2 : Int), (1 : Int), ([97, 98] : List UInt8))] : List (bz)).length) 2]) O O (fun _ => by kernel_rfl)) O ?_
 refine bg 4 O (fun g9 c9 => ?_)
 refine bg 5 O (fun ha dl => ?_)
 refine aw (fun e ds => ?_)
 refine bd 0 O (fun d1 d2 d3 hb => ?_)
 refine ah (av (vs := [.pointer (some ⟨d.1, 0, none⟩), .agg #[.bool true, .int .i64 1, .int .i64 1, .int .i64 0, .int .i64 0, .int .i64 0, .slice (some ⟨q, 0, none⟩) (([((1 : Int), (1 : Int), (0 : Int), ([] : List UInt8)), ((1 : Int), (2 : Int), (1 : Int), ([97, 98] : List UInt8))] : List (bz)).length) 2]]) (cap := []) (A := [obj j.1 97 [.map (some d.2.2.2.2.2.2.1), str g.2.2.2.2.2.2.2.2.2.2.2.2.2.2.1, .int .i64 g.2.2.2.2.2.2.2.2.2.2.2.2.2.2.2.1, .bool g.2.2.2.2.2.2.2.2.2.2.2.2.2.2.2.2], am (aj d.2.2.2.2.2.2.1 ao ak d.2.2.2.2.2.2.2) ai d.2.2.2.2.2.2.2 g.2.2.2.2.2.2.2.2.2.2.2.2.2.1, obj d.1 91 [.pointer (some ⟨j.1, 0, none⟩), .int .i64 g.2.1, .slice d.2.1 g.2.2.1.length d.2.2.1, .int .i64 g.2.2.2.1, .int .i64 g.2.2.2.2.1, .int .i64 g.2.2.2.2.2.1, .int .i64 g.2.2.2.2.2.2.1, .int .i64 g.2.2.2.2.2.2.2.1, .int .i64 g.2.2.2.2.2.2.2.2.1, .slice d.2.2.2.1 g.2.2.2.2.2.2.2.2.2.1.length d.2.2.2.2.1, .bool g.2.2.2.2.2.2.2.2.2.2.1], ap 3 1 (V3 tt) d.2.1 g.2.2.1 d.2.2.1, ap 144 5 (aQ (d.2.2.2.2.2.1)) d.2.2.2.1 g.2.2.2.2.2.2.2.2.2.1 d.2.2.2.2.1, d.2.2.2.2.2.1]) (rst := [Row 35 4 (some ⟨q, 0, none⟩) ([((1 : Int), (1 : Int), (0 : Int), ([] : List UInt8)), ((1 : Int), (2 : Int), (1 : Int), ([97, 98] : List UInt8))] : List (bz)).length 2 [[.int .i64 1, .int .i64 1, .int .i64 0, .slice none 0 0], [.int .i64 1, .int .i64 2, .int .i64 1, .slice (some ⟨n, 0, none⟩) (([97, 98] : List UInt8).length) 2]].flatten, Row 5 1 (some ⟨n, 0, none⟩) ([97, 98] : List UInt8).length 2 (ax ([97, 98] : List UInt8)), F]) O O O O O O call17 (.sel 3 O (.sel 5 O (.sel 2 O (.sel' 2 O (ap.mk c9) (.sel' 2 O (ap.mk dl) (.sel 2 O (.sel 0 O (.sel 0 O (.sel 0 O (.nil _)))))))))) (ce.calls _ _ k d.1 j.1 d.2.2.2.2.2.2.1 d.2.2.2.2.2.2.2 g.2.2.2.2.2.2.2.2.2.2.2.2.2.1 g.2.2.2.2.2.2.2.2.2.2.2.2.2.2.1 g.2.2.2.2.2.2.2.2.2.2.2.2.2.2.2.1 g.2.2.2.2.2.2.2.2.2.2.2.2.2.2.2.2 g.2.1 d.2.1 d.2.2.1 g.2.2.1 g.2.2.2.1 g.2.2.2.2.1 g.2.2.2.2.2.1 g.2.2.2.2.2.2.1 g.2.2.2.2.2.2.2.1 g.2.2.2.2.2.2.2.2.1 d.2.2.2.1 d.2.2.2.2.1 g.2.2.2.2.2.2.2.2.2.1 d.2.2.2.2.2.1 g.2.2.2.2.2.2.2.2.2.2.1 true (1 : Int) (1 : Int) (0 : Int) (0 : Int) (0 : Int) (some ⟨q, 0, none⟩) 2 ([((1 : Int), (1 : Int), (0 : Int), ([] : List UInt8)), ((1 : Int), (2 : Int), (1 : Int), ([97, 98] : List UInt8))] : List (bz)) ((Rd.asV az d1).up (Up.lend 0 O) (V35.up (Up.lend 1 O))) d2 d3 (hgl.lend 2 O)) ds) O O O ?_
 intro l
 refine va O O (nx ?_)
 refine vm O O ?_
 refine bg 3 O (fun d4 a3 => ?_)
 refine bg 4 O (fun d5 a4 => ?_)
 refine aw (fun t d6 => ?_)
 refine bd 3 O (fun d7 d8 d9 hc => ?_)
 refine bd 4 O (fun ea eb ec he => ?_)
 refine ah (av (vs := [.pointer (some ⟨d.1, 0, none⟩)]) (cap := []) (A := [obj j.1 97 [.map (some l.1), str e.2.2.1, .int .i64 e.2.2.2.1, .bool e.2.2.2.2.1], am (aj l.1 ao ak l.2.1) ai l.2.1 e.2.1, obj d.1 91 [.pointer (some ⟨j.1, 0, none⟩), .int .i64 e.2.2.2.2.2.1, .slice l.2.2.1 e.2.2.2.2.2.2.1.length l.2.2.2.1, .int .i64 e.2.2.2.2.2.2.2.1, .int .i64 e.2.2.2.2.2.2.2.2.1, .int .i64 e.2.2.2.2.2.2.2.2.2.1, .int .i64 e.2.2.2.2.2.2.2.2.2.2.1, .int .i64 e.2.2.2.2.2.2.2.2.2.2.2.1, .int .i64 e.2.2.2.2.2.2.2.2.2.2.2.2.1, .slice l.2.2.2.2.1 e.2.2.2.2.2.2.2.2.2.2.2.2.2.1.length l.2.2.2.2.2.1, .bool e.2.2.2.2.2.2.2.2.2.2.2.2.2.2]]) (rst := [Row 3 1 l.2.2.1 e.2.2.2.2.2.2.1.length l.2.2.2.1 d4.flatten, Row 144 5 l.2.2.2.2.1 e.2.2.2.2.2.2.2.2.2.2.2.2.2.1.length l.2.2.2.2.2.1 d5.flatten, l.2.2.2.2.2.2, Row 35 4 (some ⟨q, 0, none⟩) ([((1 : Int), (1 : Int), (0 : Int), ([] : List UInt8)), ((1 : Int), (2 : Int), (1 : Int), ([97, 98] : List UInt8))] : List (bz)).length 2 [[.int .i64 1, .int .i64 1, .int .i64 0, .slice none 0 0], [.int .i64 1, .int .i64 2, .int .i64 1, .slice (some ⟨n, 0, none⟩) (([97, 98] : List UInt8).length) 2]].flatten, Row 5 1 (some ⟨n, 0, none⟩) ([97, 98] : List UInt8).length 2 (ax ([97, 98] : List UInt8)), F]) O O O O O O call23 (.sel 0 O (.sel 0 O (.sel 0 O (.sel 0 O (.sel 0 O (.sel 0 O (.sel 0 O (.sel 0 O (.sel 0 O (.nil _)))))))))) (fN.calls _ _ k d.1 j.1 l.1 l.2.1 e.2.1 e.2.2.1 e.2.2.2.1 e.2.2.2.2.1 e.2.2.2.2.2.1 l.2.2.1 l.2.2.2.1 e.2.2.2.2.2.2.1 e.2.2.2.2.2.2.2.1 e.2.2.2.2.2.2.2.2.1 e.2.2.2.2.2.2.2.2.2.1 e.2.2.2.2.2.2.2.2.2.2.1 e.2.2.2.2.2.2.2.2.2.2.2.1 e.2.2.2.2.2.2.2.2.2.2.2.2.1 l.2.2.2.2.1 l.2.2.2.2.2.1 e.2.2.2.2.2.2.2.2.2.2.2.2.2.1 e.2.2.2.2.2.2.2.2.2.2.2.2.2.2 ((Rd.asV a3 d7).up (Up.lend 0 O) (fun _ _ h => h)) d8 d9 ((Rd.asV a4 ea).up (Up.lend 1 O) (aQ.up (Up.lend 2 O))) eb ec (hgl.lend 5 O)) d6) O O O ?_
 intro x
 refine va O O (nx ?_)
 refine vm O O ?_
 refine vq (cx (v := .agg #[.int .i64 1, .int .i64 4, .int .i64 0, .slice none 0 0]) O O (fun _ => by kernel_rfl)) O ?_
 have a0 : bx 4 (V35 F) ([((1 : Int), (4 : Int), (0 : Int), ([] : List UInt8))] : List (bz)) [[.int .i64 1, .int .i64 4, .int .i64 0, .slice none 0 0]] := ⟨⟨rfl, aM (by rfl), ⟨none, 0, rfl, ⟨Rd.nil _ _, Nat.le_refl _, Nat.zero_le _⟩⟩⟩, trivial⟩
 refine ah (eB (V := (V35 F)) (xs := ([((1 : Int), (4 : Int), (0 : Int), ([] : List UInt8))] : List (bz))) [[.int .i64 1, .int .i64 4, .int .i64 0, .slice none 0 0]] O O underlying32 jV O (by kernel_rfl) O a0 O O) O O O ?_
 intro w
 refine vq (cx (v := .agg #[.bool false, .int .i64 0, .int .i64 0, .int .i64 0, .int .i64 0, .int .i64 0, .slice (some ⟨w, 0, none⟩) (([((1 : Int), (4 : Int), (0 : Int), ([] : List UInt8))] : List (bz)).length) 1]) O O (fun _ => by kernel_rfl)) O ?_
 refine aw (fun a ed => ?_)
 refine bd 0 O (fun ee ef ei hf => ?_)
 refine ah (av (vs := [.pointer (some ⟨d.1, 0, none⟩), .agg #[.bool false, .int .i64 0, .int .i64 0, .int .i64 0, .int .i64 0, .int .i64 0, .slice (some ⟨w, 0, none⟩) (([((1 : Int), (4 : Int), (0 : Int), ([] : List UInt8))] : List (bz)).length) 1]]) (cap := []) (A := [obj j.1 97 [.map (some x.1), str t.2.2.1, .int .i64 t.2.2.2.1, .bool t.2.2.2.2], am (aj x.1 ao ak x.2) ai x.2 t.2.1, obj d.1 91 [.pointer (some ⟨j.1, 0, none⟩), .int .i64 e.2.2.2.2.2.1, .slice l.2.2.1 e.2.2.2.2.2.2.1.length l.2.2.2.1, .int .i64 e.2.2.2.2.2.2.2.1, .int .i64 e.2.2.2.2.2.2.2.2.1, .int .i64 e.2.2.2.2.2.2.2.2.2.1, .int .i64 e.2.2.2.2.2.2.2.2.2.2.1, .int .i64 e.2.2.2.2.2.2.2.2.2.2.2.1, .int .i64 e.2.2.2.2.2.2.2.2.2.2.2.2.1, .slice l.2.2.2.2.1 e.2.2.2.2.2.2.2.2.2.2.2.2.2.1.length l.2.2.2.2.2.1, .bool e.2.2.2.2.2.2.2.2.2.2.2.2.2.2], ap 3 1 (V3 tt) l.2.2.1 e.2.2.2.2.2.2.1 l.2.2.2.1, ap 144 5 (aQ (l.2.2.2.2.2.2)) l.2.2.2.2.1 e.2.2.2.2.2.2.2.2.2.2.2.2.2.1 l.2.2.2.2.2.1, l.2.2.2.2.2.2]) (rst := [Row 35 4 (some ⟨w, 0, none⟩) ([((1 : Int), (4 : Int), (0 : Int), ([] : List UInt8))] : List (bz)).length 1 [[.int .i64 1, .int .i64 4, .int .i64 0, .slice none 0 0]].flatten, Row 35 4 (some ⟨q, 0, none⟩) ([((1 : Int), (1 : Int), (0 : Int), ([] : List UInt8)), ((1 : Int), (2 : Int), (1 : Int), ([97, 98] : List UInt8))] : List (bz)).length 2 [[.int .i64 1, .int .i64 1, .int .i64 0, .slice none 0 0], [.int .i64 1, .int .i64 2, .int .i64 1, .slice (some ⟨n, 0, none⟩) (([97, 98] : List UInt8).length) 2]].flatten, Row 5 1 (some ⟨n, 0, none⟩) ([97, 98] : List UInt8).length 2 (ax ([97, 98] : List UInt8)), F]) O O O O O O call17 (.sel 1 O (.sel 1 O (.sel 1 O (.sel' 1 O (ap.mk a3) (.sel' 1 O (ap.mk a4) (.sel 1 O (.sel 0 O (.sel 0 O (.sel 0 O (.sel 0 O (.nil _))))))))))) (ce.calls _ _ k d.1 j.1 x.1 x.2 t.2.1 t.2.2.1 t.2.2.2.1 t.2.2.2.2 e.2.2.2.2.2.1 l.2.2.1 l.2.2.2.1 e.2.2.2.2.2.2.1 e.2.2.2.2.2.2.2.1 e.2.2.2.2.2.2.2.2.1 e.2.2.2.2.2.2.2.2.2.1 e.2.2.2.2.2.2.2.2.2.2.1 e.2.2.2.2.2.2.2.2.2.2.2.1 e.2.2.2.2.2.2.2.2.2.2.2.2.1 l.2.2.2.2.1 l.2.2.2.2.2.1 e.2.2.2.2.2.2.2.2.2.2.2.2.2.1 l.2.2.2.2.2.2 e.2.2.2.2.2.2.2.2.2.2.2.2.2.2 false (0 : Int) (0 : Int) (0 : Int) (0 : Int) (0 : Int) (some ⟨w, 0, none⟩) 1 ([((1 : Int), (4 : Int), (0 : Int), ([] : List UInt8))] : List (bz)) ((Rd.asV a0 ee).up (Up.lend 0 O) (V35.up (Up.lend 3 O))) ef ei (hgl.lend 3 O)) ed) O O O ?_
 intro c
 refine va O O (nx ?_)
 refine vm O O ?_
 refine bg 3 O (fun z ab => ?_)
 refine bg 4 O (fun ad af => ?_)
 refine aw (fun u ek => ?_)
 refine bd 3 O (fun el em er hg => ?_)
 refine bd 4 O (fun es et e0 hh => ?_)
 refine ah (av (vs := [.pointer (some ⟨d.1, 0, none⟩)]) (cap := []) (A := [obj j.1 97 [.map (some c.1), str a.2.2.1, .int .i64 a.2.2.2.1, .bool a.2.2.2.2.1], am (aj c.1 ao ak c.2.1) ai c.2.1 a.2.1, obj d.1 91 [.pointer (some ⟨j.1, 0, none⟩), .int .i64 a.2.2.2.2.2.1, .slice c.2.2.1 a.2.2.2.2.2.2.1.length c.2.2.2.1, .int .i64 a.2.2.2.2.2.2.2.1, .int .i64 a.2.2.2.2.2.2.2.2.1, .int .i64 a.2.2.2.2.2.2.2.2.2.1, .int .i64 a.2.2.2.2.2.2.2.2.2.2.1, .int .i64 a.2.2.2.2.2.2.2.2.2.2.2.1, .int .i64 a.2.2.2.2.2.2.2.2.2.2.2.2.1, .slice c.2.2.2.2.1 a.2.2.2.2.2.2.2.2.2.2.2.2.2.1.length c.2.2.2.2.2.1, .bool a.2.2.2.2.2.2.2.2.2.2.2.2.2.2]]) (rst := [Row 3 1 c.2.2.1 a.2.2.2.2.2.2.1.length c.2.2.2.1 z.flatten, Row 144 5 c.2.2.2.2.1 a.2.2.2.2.2.2.2.2.2.2.2.2.2.1.length c.2.2.2.2.2.1 ad.flatten, c.2.2.2.2.2.2, Row 35 4 (some ⟨w, 0, none⟩) ([((1 : Int), (4 : Int), (0 : Int), ([] : List UInt8))] : List (bz)).length 1 [[.int .i64 1, .int .i64 4, .int .i64 0, .slice none 0 0]].flatten, Row 35 4 (some ⟨q, 0, none⟩) ([((1 : Int), (1 : Int), (0 : Int), ([] : List UInt8)), ((1 : Int), (2 : Int), (1 : Int), ([97, 98] : List UInt8))] : List (bz)).length 2 [[.int .i64 1, .int .i64 1, .int .i64 0, .slice none 0 0], [.int .i64 1, .int .i64 2, .int .i64 1, .slice (some ⟨n, 0, none⟩) (([97, 98] : List UInt8).length) 2]].flatten, Row 5 1 (some ⟨n, 0, none⟩) ([97, 98] : List UInt8).length 2 (ax ([97, 98] : List UInt8)), F]) O O O O O O call31 (.sel 0 O (.sel 0 O (.sel 0 O (.sel 0 O (.sel 0 O (.sel 0 O (.sel 0 O (.sel 0 O (.sel 0 O (.sel 0 O (.nil _))))))))))) (fO.calls _ _ d.1 j.1 c.1 c.2.1 a.2.1 a.2.2.1 a.2.2.2.1 a.2.2.2.2.1 a.2.2.2.2.2.1 c.2.2.1 c.2.2.2.1 a.2.2.2.2.2.2.1 a.2.2.2.2.2.2.2.1 a.2.2.2.2.2.2.2.2.1 a.2.2.2.2.2.2.2.2.2.1 a.2.2.2.2.2.2.2.2.2.2.1 a.2.2.2.2.2.2.2.2.2.2.2.1 a.2.2.2.2.2.2.2.2.2.2.2.2.1 c.2.2.2.2.1 c.2.2.2.2.2.1 a.2.2.2.2.2.2.2.2.2.2.2.2.2.1 a.2.2.2.2.2.2.2.2.2.2.2.2.2.2 ((Rd.asV ab el).up (Up.lend 0 O) (fun _ _ h => h)) em er ((Rd.asV af es).up (Up.lend 1 O) (aQ.up (Up.lend 2 O))) et e0) ek) O O O ?_
 intro hv
 refine vm O O ?_
 refine vq (bu O O O) O ?_
 refine vq (bu O O O) O ?_
 refine va O O ?_
 refine va O O (nx ?_)
 refine vm O O ?_
 refine aw (fun o e1 => ?_)
 refine bd 3 O (fun e2 e3 e4 hi => ?_)
 refine bd 4 O (fun e5 e6 e7 hj => ?_)
 refine ah (av (vs := [.pointer (some ⟨d.1, 0, none⟩)]) (cap := []) (A := [obj j.1 97 [.map (some c.1), str a.2.2.1, .int .i64 a.2.2.2.1, .bool a.2.2.2.2.1], am (aj c.1 ao ak c.2.1) ai c.2.1 a.2.1, obj d.1 91 [.pointer (some ⟨j.1, 0, none⟩), .int .i64 a.2.2.2.2.2.1, .slice c.2.2.1 a.2.2.2.2.2.2.1.length c.2.2.2.1, .int .i64 a.2.2.2.2.2.2.2.1, .int .i64 a.2.2.2.2.2.2.2.2.1, .int .i64 a.2.2.2.2.2.2.2.2.2.1, .int .i64 a.2.2.2.2.2.2.2.2.2.2.1, .int .i64 a.2.2.2.2.2.2.2.2.2.2.2.1, .int .i64 a.2.2.2.2.2.2.2.2.2.2.2.2.1, .slice c.2.2.2.2.1 a.2.2.2.2.2.2.2.2.2.2.2.2.2.1.length c.2.2.2.2.2.1, .bool a.2.2.2.2.2.2.2.2.2.2.2.2.2.2]]) (rst := [Row 3 1 c.2.2.1 a.2.2.2.2.2.2.1.length c.2.2.2.1 z.flatten, Row 144 5 c.2.2.2.2.1 a.2.2.2.2.2.2.2.2.2.2.2.2.2.1.length c.2.2.2.2.2.1 ad.flatten, c.2.2.2.2.2.2, Row 35 4 (some ⟨w, 0, none⟩) ([((1 : Int), (4 : Int), (0 : Int), ([] : List UInt8))] : List (bz)).length 1 [[.int .i64 1, .int .i64 4, .int .i64 0, .slice none 0 0]].flatten, Row 35 4 (some ⟨q, 0, none⟩) ([((1 : Int), (1 : Int), (0 : Int), ([] : List UInt8)), ((1 : Int), (2 : Int), (1 : Int), ([97, 98] : List UInt8))] : List (bz)).length 2 [[.int .i64 1, .int .i64 1, .int .i64 0, .slice none 0 0], [.int .i64 1, .int .i64 2, .int .i64 1, .slice (some ⟨n, 0, none⟩) (([97, 98] : List UInt8).length) 2]].flatten, Row 5 1 (some ⟨n, 0, none⟩) ([97, 98] : List UInt8).length 2 (ax ([97, 98] : List UInt8)), F]) O O O O O O call25 (.sel 0 O (.sel 0 O (.sel 0 O (.sel 0 O (.sel 0 O (.sel 0 O (.sel 0 O (.sel 0 O (.sel 0 O (.sel 0 O (.nil _))))))))))) (cg.calls _ _ k d.1 j.1 c.1 c.2.1 a.2.1 a.2.2.1 a.2.2.2.1 a.2.2.2.2.1 a.2.2.2.2.2.1 c.2.2.1 c.2.2.2.1 a.2.2.2.2.2.2.1 a.2.2.2.2.2.2.2.1 a.2.2.2.2.2.2.2.2.1 a.2.2.2.2.2.2.2.2.2.1 a.2.2.2.2.2.2.2.2.2.2.1 a.2.2.2.2.2.2.2.2.2.2.2.1 a.2.2.2.2.2.2.2.2.2.2.2.2.1 c.2.2.2.2.1 c.2.2.2.2.2.1 a.2.2.2.2.2.2.2.2.2.2.2.2.2.1 a.2.2.2.2.2.2.2.2.2.2.2.2.2.2 ((Rd.asV ab e2).up (Up.lend 0 O) (fun _ _ h => h)) e3 e4 ((Rd.asV af e5).up (Up.lend 1 O) (aQ.up (Up.lend 2 O))) e6 e7 (hgl.lend 6 O)) e1) O O O ?_
 intro m
 refine va O O (nx ?_)
 refine vm O O ?_
 refine aw (fun hw e8 => ?_)
 refine ah (av (vs := [.int .i64 e.1]) (cap := []) (A := []) (rst := [ap 9 1 (V9 tt) m.1 o m.2, obj j.1 97 [.map (some c.1), str a.2.2.1, .int .i64 a.2.2.2.1, .bool a.2.2.2.2.1], am (aj c.1 ao ak c.2.1) ai c.2.1 a.2.1, obj d.1 91 [.pointer (some ⟨j.1, 0, none⟩), .int .i64 a.2.2.2.2.2.1, .slice c.2.2.1 a.2.2.2.2.2.2.1.length c.2.2.2.1, .int .i64 a.2.2.2.2.2.2.2.1, .int .i64 a.2.2.2.2.2.2.2.2.1, .int .i64 a.2.2.2.2.2.2.2.2.2.1, .int .i64 a.2.2.2.2.2.2.2.2.2.2.1, .int .i64 a.2.2.2.2.2.2.2.2.2.2.2.1, .int .i64 a.2.2.2.2.2.2.2.2.2.2.2.2.1, .slice c.2.2.2.2.1 a.2.2.2.2.2.2.2.2.2.2.2.2.2.1.length c.2.2.2.2.2.1, .bool a.2.2.2.2.2.2.2.2.2.2.2.2.2.2], Row 3 1 c.2.2.1 a.2.2.2.2.2.2.1.length c.2.2.2.1 z.flatten, Row 144 5 c.2.2.2.2.1 a.2.2.2.2.2.2.2.2.2.2.2.2.2.1.length c.2.2.2.2.2.1 ad.flatten, c.2.2.2.2.2.2, Row 35 4 (some ⟨w, 0, none⟩) ([((1 : Int), (4 : Int), (0 : Int), ([] : List UInt8))] : List (bz)).length 1 [[.int .i64 1, .int .i64 4, .int .i64 0, .slice none 0 0]].flatten, Row 35 4 (some ⟨q, 0, none⟩) ([((1 : Int), (1 : Int), (0 : Int), ([] : List UInt8)), ((1 : Int), (2 : Int), (1 : Int), ([97, 98] : List UInt8))] : List (bz)).length 2 [[.int .i64 1, .int .i64 1, .int .i64 0, .slice none 0 0], [.int .i64 1, .int .i64 2, .int .i64 1, .slice (some ⟨n, 0, none⟩) (([97, 98] : List UInt8).length) 2]].flatten, Row 5 1 (some ⟨n, 0, none⟩) ([97, 98] : List UInt8).length 2 (ax ([97, 98] : List UInt8)), F]) O O O O O O call13 (.sel 0 O (.sel 0 O (.sel 0 O (.sel 0 O (.sel 0 O (.sel 0 O (.sel 0 O (.sel 0 O (.sel 0 O (.sel 0 O (.sel 0 O (.nil _)))))))))))) (cl.calls _ _ e.1 ) e8) O O O ?_
 intro hx
 refine vq (bI O O O) O ?_
 refine vm O O ?_
 refine dG 4 (S := Bool) (Unit) (fun s y => [(2, .pointer (some ⟨d.1, 0, none⟩)), (7, .int .i64 a.1), (8, .int .i64 u.1), (9, .int .i64 u.2), (10, .slice m.1 o.length m.2), (58, .bool s)]) (fun s y => [obj j.1 97 [.map (some c.1), str a.2.2.1, .int .i64 a.2.2.2.1, .bool a.2.2.2.2.1], obj d.1 91 [.pointer (some ⟨j.1, 0, none⟩), .int .i64 a.2.2.2.2.2.1, .slice c.2.2.1 a.2.2.2.2.2.2.1.length c.2.2.2.1, .int .i64 a.2.2.2.2.2.2.2.1, .int .i64 a.2.2.2.2.2.2.2.2.1, .int .i64 a.2.2.2.2.2.2.2.2.2.1, .int .i64 a.2.2.2.2.2.2.2.2.2.2.1, .int .i64 a.2.2.2.2.2.2.2.2.2.2.2.1, .int .i64 a.2.2.2.2.2.2.2.2.2.2.2.2.1, .slice c.2.2.2.2.1 a.2.2.2.2.2.2.2.2.2.2.2.2.2.1.length c.2.2.2.2.2.1, .bool a.2.2.2.2.2.2.2.2.2.2.2.2.2.2], ap 9 1 (V9 tt) m.1 o m.2, am (aj c.1 ao ak c.2.1) ai c.2.1 a.2.1, ap 3 1 (V3 tt) c.2.2.1 a.2.2.2.2.2.2.1 c.2.2.2.1, ap 144 5 (aQ (c.2.2.2.2.2.2)) c.2.2.2.2.1 a.2.2.2.2.2.2.2.2.2.2.2.2.2.1 c.2.2.2.2.2.1, c.2.2.2.2.2.2, F]) ?_ ?_
 refine iV (fun e9 => ?_) (fun fn => ?_)
 rw [e9]
 refine aZ (ba O O) O O O O O O ?_
 refine aw (fun gs fp => ?_)
 refine fC (av (vs := [.int .i64 t.1]) (cap := []) (A := []) (rst := [ap 9 1 (V9 tt) m.1 o m.2, obj j.1 97 [.map (some c.1), str a.2.2.1, .int .i64 a.2.2.2.1, .bool a.2.2.2.2.1], am (aj c.1 ao ak c.2.1) ai c.2.1 a.2.1, obj d.1 91 [.pointer (some ⟨j.1, 0, none⟩), .int .i64 a.2.2.2.2.2.1, .slice c.2.2.1 a.2.2.2.2.2.2.1.length c.2.2.2.1, .int .i64 a.2.2.2.2.2.2.2.1, .int .i64 a.2.2.2.2.2.2.2.2.1, .int .i64 a.2.2.2.2.2.2.2.2.2.1, .int .i64 a.2.2.2.2.2.2.2.2.2.2.1, .int .i64 a.2.2.2.2.2.2.2.2.2.2.2.1, .int .i64 a.2.2.2.2.2.2.2.2.2.2.2.2.1, .slice c.2.2.2.2.1 a.2.2.2.2.2.2.2.2.2.2.2.2.2.1.length c.2.2.2.2.2.1, .bool a.2.2.2.2.2.2.2.2.2.2.2.2.2.2], Row 3 1 c.2.2.1 a.2.2.2.2.2.2.1.length c.2.2.2.1 z.flatten, Row 144 5 c.2.2.2.2.1 a.2.2.2.2.2.2.2.2.2.2.2.2.2.1.length c.2.2.2.2.2.1 ad.flatten, c.2.2.2.2.2.2, Row 35 4 (some ⟨w, 0, none⟩) ([((1 : Int), (4 : Int), (0 : Int), ([] : List UInt8))] : List (bz)).length 1 [[.int .i64 1, .int .i64 4, .int .i64 0, .slice none 0 0]].flatten, Row 35 4 (some ⟨q, 0, none⟩) ([((1 : Int), (1 : Int), (0 : Int), ([] : List UInt8)), ((1 : Int), (2 : Int), (1 : Int), ([97, 98] : List UInt8))] : List (bz)).length 2 [[.int .i64 1, .int .i64 1, .int .i64 0, .slice none 0 0], [.int .i64 1, .int .i64 2, .int .i64 1, .slice (some ⟨n, 0, none⟩) (([97, 98] : List UInt8).length) 2]].flatten, Row 5 1 (some ⟨n, 0, none⟩) ([97, 98] : List UInt8).length 2 (ax ([97, 98] : List UInt8)), F]) O O O O O O call13 (.sel 0 O (.sel 0 O (.sel 0 O (.sel 0 O (.sel 0 O (.sel 0 O (.sel 0 O (.sel 0 O (.sel 0 O (.sel 0 O (.sel 0 O (.nil _)))))))))))) (cl.calls _ _ t.1 ) fp) O O O O O O ?_
 intro hy
 refine aZ (bI O O O) O O O O O O ?_
 refine vq (bW O O O O O) O (ae ?_)
 exact aF (s := decide (gs = (0 : Int))) () ⟨O, O, O, O, O, O, trivial⟩ (.sel 1 O (.sel 2 O (.sel 0 O (.sel 0 O (.sel' 0 O (ap.mk ab) (.sel' 0 O (ap.mk af) (.sel 0 O (.sel 3 O (.nil _)))))))))
 rw [fn]
 refine aO O O O O O O ?_
 refine aO O O O O O O ?_
 refine aO O O O O O O ?_
 refine vq (bW O O O O O) O (ae ?_)
 exact aF (s := false) () ⟨O, O, O, O, O, O, trivial⟩ (.sel 1 O (.sel 2 O (.sel 0 O (.sel 0 O (.sel' 0 O (ap.mk ab) (.sel' 0 O (ap.mk af) (.sel 0 O (.sel 3 O (.nil _)))))))))
 intro hz hA
 refine vm O O ?_
 refine dG 4 (S := Bool) (Unit) (fun s y => [(2, .pointer (some ⟨d.1, 0, none⟩)), (8, .int .i64 u.1), (9, .int .i64 u.2), (10, .slice m.1 o.length m.2), (63, .bool s)]) (fun s y => [obj j.1 97 [.map (some c.1), str a.2.2.1, .int .i64 a.2.2.2.1, .bool a.2.2.2.2.1], obj d.1 91 [.pointer (some ⟨j.1, 0, none⟩), .int .i64 a.2.2.2.2.2.1, .slice c.2.2.1 a.2.2.2.2.2.2.1.length c.2.2.2.1, .int .i64 a.2.2.2.2.2.2.2.1, .int .i64 a.2.2.2.2.2.2.2.2.1, .int .i64 a.2.2.2.2.2.2.2.2.2.1, .int .i64 a.2.2.2.2.2.2.2.2.2.2.1, .int .i64 a.2.2.2.2.2.2.2.2.2.2.2.1, .int .i64 a.2.2.2.2.2.2.2.2.2.2.2.2.1, .slice c.2.2.2.2.1 a.2.2.2.2.2.2.2.2.2.2.2.2.2.1.length c.2.2.2.2.2.1, .bool a.2.2.2.2.2.2.2.2.2.2.2.2.2.2], ap 9 1 (V9 tt) m.1 o m.2, am (aj c.1 ao ak c.2.1) ai c.2.1 a.2.1, ap 3 1 (V3 tt) c.2.2.1 a.2.2.2.2.2.2.1 c.2.2.2.1, ap 144 5 (aQ (c.2.2.2.2.2.2)) c.2.2.2.2.1 a.2.2.2.2.2.2.2.2.2.2.2.2.2.1 c.2.2.2.2.2.1, c.2.2.2.2.2.2, F]) ?_ ?_
 refine eS (fun a6 => ?_) (fun a7 => ?_)
 rw [a6]
 refine aZ (ba O O) O O O O O O ?_
 refine aw (fun gy fr => ?_)
 refine fC (av (vs := [.int .i64 a.1]) (cap := []) (A := []) (rst := [obj j.1 97 [.map (some c.1), str a.2.2.1, .int .i64 a.2.2.2.1, .bool a.2.2.2.2.1], obj d.1 91 [.pointer (some ⟨j.1, 0, none⟩), .int .i64 a.2.2.2.2.2.1, .slice c.2.2.1 a.2.2.2.2.2.2.1.length c.2.2.2.1, .int .i64 a.2.2.2.2.2.2.2.1, .int .i64 a.2.2.2.2.2.2.2.2.1, .int .i64 a.2.2.2.2.2.2.2.2.2.1, .int .i64 a.2.2.2.2.2.2.2.2.2.2.1, .int .i64 a.2.2.2.2.2.2.2.2.2.2.2.1, .int .i64 a.2.2.2.2.2.2.2.2.2.2.2.2.1, .slice c.2.2.2.2.1 a.2.2.2.2.2.2.2.2.2.2.2.2.2.1.length c.2.2.2.2.2.1, .bool a.2.2.2.2.2.2.2.2.2.2.2.2.2.2], ap 9 1 (V9 tt) m.1 o m.2, am (aj c.1 ao ak c.2.1) ai c.2.1 a.2.1, ap 3 1 (V3 tt) c.2.2.1 a.2.2.2.2.2.2.1 c.2.2.2.1, ap 144 5 (aQ (c.2.2.2.2.2.2)) c.2.2.2.2.1 a.2.2.2.2.2.2.2.2.2.2.2.2.2.1 c.2.2.2.2.2.1, c.2.2.2.2.2.2, F]) O O O O O O call13 (.sel 0 O (.sel 0 O (.sel 0 O (.sel 0 O (.sel 0 O (.sel 0 O (.sel 0 O (.sel 0 O (.nil _))))))))) (cl.calls _ _ a.1 ) fr) O O O O O O ?_
 intro hk
 refine aZ (bI O O O) O O O O O O ?_
 refine vq (bW O O O O O) O (ae ?_)
 exact aF (s := decide (gy = (13 : Int))) () ⟨O, O, O, O, O, trivial⟩ (.sel 0 O (.sel 0 O (.sel 0 O (.sel 0 O (.sel 0 O (.sel 0 O (.sel 0 O (.sel 0 O (.nil _)))))))))
 rw [a7]
 refine aO O O O O O O ?_
 refine aO O O O O O O ?_
 refine aO O O O O O O ?_
 refine vq (bW O O O O O) O (ae ?_)
 exact aF (s := false) () ⟨O, O, O, O, O, trivial⟩ (.sel 0 O (.sel 0 O (.sel 0 O (.sel 0 O (.sel 0 O (.sel 0 O (.sel 0 O (.sel 0 O (.nil _)))))))))
 intro al hB
 refine vm O O ?_
 refine au (b := al) (fun g1 => RQ.sub (E' := [(8, .int .i64 u.1)]) ⟨O, trivial⟩ (ba O O)) O O O O O ?_
 refine au (b := al) (fun a8 => RQ.sub (E' := [(65, .int .i64 u.1)]) ⟨aE O a8, trivial⟩ (bI O O O)) O O O O O ?_
 refine vq (db O O O) O ?_
 refine vm O O ?_
 refine au (b := al && (decide (u.1 = (2 : Int)))) (fun g2 => RQ.sub (E' := [(9, .int .i64 u.2)]) ⟨O, trivial⟩ (ba O O)) O O O O O ?_
 refine au (b := al && (decide (u.1 = (2 : Int)))) (fun a9 => RQ.sub (E' := [(69, .int .i64 u.2)]) ⟨aE O a9, trivial⟩ (bI O O O)) O O O O O ?_
 refine vq (db O O O) O ?_
 refine vm O O ?_
 refine dG 4 (S := Bool) (Unit) (fun s y => [(10, .slice m.1 o.length m.2), (76, .bool s)]) (fun s y => [ap 9 1 (V9 tt) m.1 o m.2, F]) ?_ ?_
 refine eS (fun bc => ?_) (fun be => ?_)
 rw [bc]
 refine aZ (ba O O) O O O O O O ?_
 refine bg 4 O (fun br bs => ?_)
 refine bg 5 O (fun bt b0 => ?_)
 refine aw (fun fs b1 => ?_)
 refine bd 4 O (fun b2 b3 b4 g3 => ?_)
 refine bd 5 O (fun b5 b6 b7 g4 => ?_)
 refine fC (av (vs := [.pointer (some ⟨d.1, 0, none⟩)]) (cap := []) (A := [obj j.1 97 [.map (some c.1), str a.2.2.1, .int .i64 a.2.2.2.1, .bool a.2.2.2.2.1], am (aj c.1 ao ak c.2.1) ai c.2.1 a.2.1, obj d.1 91 [.pointer (some ⟨j.1, 0, none⟩), .int .i64 a.2.2.2.2.2.1, .slice c.2.2.1 a.2.2.2.2.2.2.1.length c.2.2.2.1, .int .i64 a.2.2.2.2.2.2.2.1, .int .i64 a.2.2.2.2.2.2.2.2.1, .int .i64 a.2.2.2.2.2.2.2.2.2.1, .int .i64 a.2.2.2.2.2.2.2.2.2.2.1, .int .i64 a.2.2.2.2.2.2.2.2.2.2.2.1, .int .i64 a.2.2.2.2.2.2.2.2.2.2.2.2.1, .slice c.2.2.2.2.1 a.2.2.2.2.2.2.2.2.2.2.2.2.2.1.length c.2.2.2.2.2.1, .bool a.2.2.2.2.2.2.2.2.2.2.2.2.2.2]]) (rst := [ap 9 1 (V9 tt) m.1 o m.2, Row 3 1 c.2.2.1 a.2.2.2.2.2.2.1.length c.2.2.2.1 br.flatten, Row 144 5 c.2.2.2.2.1 a.2.2.2.2.2.2.2.2.2.2.2.2.2.1.length c.2.2.2.2.2.1 bt.flatten, c.2.2.2.2.2.2, F]) O O O O O O call28 (.sel 0 O (.sel 2 O (.sel 0 O (.sel 0 O (.sel 0 O (.sel 0 O (.sel 0 O (.sel 0 O (.nil _))))))))) (dk.calls _ _ k d.1 j.1 c.1 c.2.1 a.2.1 a.2.2.1 a.2.2.2.1 a.2.2.2.2.1 a.2.2.2.2.2.1 c.2.2.1 c.2.2.2.1 a.2.2.2.2.2.2.1 a.2.2.2.2.2.2.2.1 a.2.2.2.2.2.2.2.2.1 a.2.2.2.2.2.2.2.2.2.1 a.2.2.2.2.2.2.2.2.2.2.1 a.2.2.2.2.2.2.2.2.2.2.2.1 a.2.2.2.2.2.2.2.2.2.2.2.2.1 c.2.2.2.2.1 c.2.2.2.2.2.1 a.2.2.2.2.2.2.2.2.2.2.2.2.2.1 a.2.2.2.2.2.2.2.2.2.2.2.2.2.2 ((Rd.asV bs b2).up (Up.lend 1 O) (fun _ _ h => h)) b3 b4 ((Rd.asV b0 b5).up (Up.lend 2 O) (aQ.up (Up.lend 3 O))) b6 b7 (hgl.lend 4 O)) b1) O O O O O O ?_
 intro hl
 refine aZ (bI O O O) O O O O O O ?_
 refine vq (bW O O O O O) O (ae ?_)
 exact aF (s := decide (fs = (57 : Int))) () ⟨O, O, trivial⟩ (.sel 3 O (.sel 6 O (.nil _)))
 rw [be]
 refine aO O O O O O O ?_
 refine aO O O O O O O ?_
 refine aO O O O O O O ?_
 refine vq (bW O O O O O) O (ae ?_)
 exact aF (s := false) () ⟨O, O, trivial⟩ (.sel 2 O (.sel 6 O (.nil _)))
 intro an hm
 refine vm O O ?_
 refine au (b := an) (fun g5 => RQ.sub (E' := [(10, .slice m.1 o.length m.2)]) ⟨O, trivial⟩ (ba O O)) O O O O O ?_
 refine au (b := an) (fun b8 => RQ.sub (E' := [(78, .slice m.1 o.length m.2)]) ⟨aE O b8, trivial⟩ (bD O O O underlying60)) O O O O O ?_
 refine au (b := an) (fun b9 => RQ.sub (E' := [(79, .int .i64 (o.length : Int))]) ⟨aE O b9, trivial⟩ (bI O O O)) O O O O O ?_
 refine vq (db O O O) O ?_
 refine vm O O ?_
 refine dG 5 (S := Bool) (Unit) (fun s y => [(87, .bool s)]) (fun s y => [F]) ?_ ?_
 refine eS (fun cd => ?_) (fun ch => ?_)
 rw [cd]
 refine aZ (ba O O) O O O O O O ?_
 refine bg 0 O (fun g6 c0 => ?_)
 refine bh (fun a1 => ?_)
 refine fw 0 O c0 O (i := (0 : Int).toNat) (by omega) ([] : List UInt8) (fun hn g7 ho c1 c2 g0 hcell131v => ?_)
 obtain rfl := c2
 refine aZ (dC O O O c1 underlying60 sizeOf9 a1.1 a1.2) O O O O O O ?_
 refine aZ (ag O O isAgg9 (hcell131v 0 O 0 _ O)) O O O O O O ?_
 refine aZ (sx O O O) O O O O O O ?_
 refine vq (bW O O O O O) O (ae ?_)
 exact aF (s := decide ((o.getD (0 : Int).toNat ([] : List UInt8)) = ([119, 97, 108, 45, 48, 48, 48, 48, 48, 48, 48, 49] : List UInt8))) () ⟨O, trivial⟩ (.sel 1 O (.nil _))
 rw [ch]
 refine aO O O O O O O ?_
 refine aO O O O O O O ?_
 refine aO O O O O O O ?_
 refine aO O O O O O O ?_
 refine vq (bW O O O O O) O (ae ?_)
 exact aF (s := false) () ⟨O, trivial⟩ (.sel 1 O (.nil _))
 intro hp hq
 refine va O O (ae (aa (aA ?_)))
 exact aD () O O O (.sel 0 O (.nil _))
 refine ah (av (vs := [.pointer (some ⟨j.1, 0, none⟩), .int .i64 64]) (cap := []) (A := [obj j.1 97 [.map (some j.2.1), str p.2.1, .int .i64 p.2.2.1, .bool p.2.2.2], am (aj j.2.1 ao ak j.2.2) ai j.2.2 p.1]) (rst := [F]) O O O O O O call15 (.sel 0 O (.sel 0 O (.sel 0 O (.nil _)))) (bC.callsN _ _ k j.1 j.2.1 j.2.2 p.1 p.2.1 p.2.2.1 p.2.2.2 (64 : Int) (hgl.lend 0 O)) (gU a5 (eq_false_of_ne_true a2))) O O O ?_
 intro hr
 refine vm O O ?_
 refine vq (bu O O O) O ?_
 refine vq (bu O O O) O ?_
 refine vq (bu O O O) O ?_
 refine va O O ?_
 refine va O O ?_
 refine va O O (ae (aa (ay (sr ?_))))
 refine vm O O ?_
 refine vq (iE O O O underlying36) O ?_
 refine vm O O ?_
 refine aO O O O O O O ?_
 refine vq (bW O O O O O) O ?_
 refine vm O O ?_
 refine aO O O O O O O ?_
 refine aO O O O O O O ?_
 refine aO O O O O O O ?_
 refine vq (bW O O O O O) O (ae (aa ?_))
 refine eM O ?_
 refine sr ?_
 refine va O O (ae (aa (aA ?_)))
 refine aK ?_
 exact aD () O O O (.sel 2 O (.nil _))
end Go.Proofs.YtndjkejhacfpdaaGreatDoor

/- Texts that lead to the law WalSplits: G5. Conditions: as each says. -/
import Derived.Test.YtndjkejhacfpdaaGreatDoorM6
namespace Go.Proofs.YtndjkejhacfpdaaGreatDoor
open Go.RowKit _root_.Go.Proofs.Tryz
set_option linter.unusedVariables false
set_option linter.unusedSimpArgs false
set_option maxRecDepth 20000
set_option maxHeartbeats 20000000
def bC.l2 (c : List Int) : Nat → Int → List ((List UInt8) × (List UInt8 × Int)) → List UInt8 → Int → Bool → Int → List Int → Int → Int → Int → Int → Int → Int → List (aG) → Bool → Bool → Option ((List ((List UInt8) × (List UInt8 × Int))) × List UInt8 × Int × Bool × Int × List Int × Int × Int × Int × Int × Int × Int × (List (aG)) × Bool × Bool)
  | 0, _, _, _, _, _, _, _, _, _, _, _, _, _, _, _, _ => none
  | k + 1, b, m, n, o, p, q, r, s, d, e, g, h, i, j, l, t => if b < (c.length : Int) then (if 0 ≤ b ∧ b < (c.length : Int) then ((da.f k m n o p q r s d e g h i j l (c.getD b.toNat (0 : Int))).bind fun a => (bC.l2 c k (IntKind.i64.wrap (b + 1)) a.2.1 a.2.2.1 a.2.2.2.1 a.2.2.2.2.1 a.2.2.2.2.2.1 a.2.2.2.2.2.2.1 a.2.2.2.2.2.2.2.1 a.2.2.2.2.2.2.2.2.1 a.2.2.2.2.2.2.2.2.2.1 a.2.2.2.2.2.2.2.2.2.2.1 a.2.2.2.2.2.2.2.2.2.2.2.1 a.2.2.2.2.2.2.2.2.2.2.2.2.1 a.2.2.2.2.2.2.2.2.2.2.2.2.2.1 a.2.2.2.2.2.2.2.2.2.2.2.2.2.2 a.1)) else none) else (some (m, n, o, p, q, r, s, d, e, g, h, i, j, l, t))
def bC.l1 (b : List Int) : Nat → Int → Option (Unit)
  | 0, _ => none
  | k + 1, a => if a < (b.length : Int) then (if 0 ≤ a ∧ a < (b.length : Int) then (if 0 ≤ (0 : Int) ∧ (0 : Int) < (b.length : Int) then (if (b.getD a.toNat (0 : Int)) = IntKind.i64.wrap ((b.getD (0 : Int).toNat (0 : Int)) + a) then (bC.l1 b k (IntKind.i64.wrap (a + 1))) else ((bw.f (12 : Int)).bind fun c => (bC.l1 b k (IntKind.i64.wrap (a + 1))))) else none) else none) else (some ())
def bC.l0 (c : List (List UInt8)) : Nat → Int → List Int → Option (List Int)
  | 0, _, _ => none
  | k + 1, a, b => if a < (c.length : Int) then (if 0 ≤ a ∧ a < (c.length : Int) then ((dz.f k (c.getD a.toNat ([] : List UInt8))).bind fun d => (if d.2 = true then (if (b.length + ([d.1] : List Int).length) * 8 ≤ 140737488355328 then (bC.l0 c k (IntKind.i64.wrap (a + 1)) (b ++ ([d.1] : List Int))) else none) else (bC.l0 c k (IntKind.i64.wrap (a + 1)) b))) else none) else (some b)
def bC.f (k : Nat) (d : List ((List UInt8) × (List UInt8 × Int))) (e : List UInt8) (g : Int) (h : Bool) (x1 : Int) : Option (Bool × Int × List Int × Int × Int × Int × Int × Int × Int × (List (aG)) × Bool × Bool × Int × (List ((List UInt8) × (List UInt8 × Int))) × List UInt8 × Int × Bool) := if ((decide (x1 < (64 : Int))) || (decide ((1048576 : Int) < x1))) = true then (some (false, (0 : Int), ([] : List Int), (0 : Int), (0 : Int), (0 : Int), (0 : Int), (0 : Int), (0 : Int), ([] : List (aG)), false, false, 15, d, e, g, h)) else (((eA.f d e g h).bind fun m => (bC.l0 m k 0 ([] : List Int))).bind fun i => (if (i.length : Int) = (0 : Int) then ((de.f k d e g h x1 i (0 : Int) (0 : Int) (0 : Int) (0 : Int) (0 : Int) (0 : Int) ([] : List (aG)) false (1 : Int)).bind fun b => (some (true, b.2.2.2.2.1, b.2.2.2.2.2.1, b.2.2.2.2.2.2.1, b.2.2.2.2.2.2.2.1, b.2.2.2.2.2.2.2.2.1, b.2.2.2.2.2.2.2.2.2.1, b.2.2.2.2.2.2.2.2.2.2.1, b.2.2.2.2.2.2.2.2.2.2.2.1, b.2.2.2.2.2.2.2.2.2.2.2.2.1, b.2.2.2.2.2.2.2.2.2.2.2.2.2, false, 0, b.1, b.2.1, b.2.2.1, b.2.2.2.1))) else ((bC.l1 i k 0).bind fun o => (((dX.f i).bind fun l => (bC.l2 l k 0 d e g h x1 i 0 0 0 0 0 0 ([] : List (aG)) false false)).bind fun a => (if 0 ≤ IntKind.i64.wrap ((a.2.2.2.2.2.1.length : Int) - 1) ∧ IntKind.i64.wrap ((a.2.2.2.2.2.1.length : Int) - 1) < (a.2.2.2.2.2.1.length : Int) then ((cr.f k (a.2.2.2.2.2.1.getD (IntKind.i64.wrap ((a.2.2.2.2.2.1.length : Int) - 1)).toNat (0 : Int))).bind fun j => ((cK.f a.1 a.2.1 a.2.2.1 a.2.2.2.1 j).bind fun c => ((bw.f c.1).bind fun n => (some (true, a.2.2.2.2.1, a.2.2.2.2.2.1, a.2.2.2.2.2.2.1, a.2.2.2.2.2.2.2.1, a.2.2.2.2.2.2.2.2.1, a.2.2.2.2.2.2.2.2.2.1, a.2.2.2.2.2.2.2.2.2.2.1, a.2.2.2.2.2.2.2.2.2.2.2.1, a.2.2.2.2.2.2.2.2.2.2.2.2.1, a.2.2.2.2.2.2.2.2.2.2.2.2.2.1, a.2.2.2.2.2.2.2.2.2.2.2.2.2.2, 0, c.2.1, c.2.2.1, c.2.2.2.1, c.2.2.2.2))))) else none)))))
theorem bC.calls (W : World) (F : HA) (k : Nat) (b0 : Nat) (p : Nat) (q : Kps) (af : List ((List UInt8) × (List UInt8 × Int))) (al : List UInt8) (an : Int) (az : Bool) (x1 : Int) (hgl : Glb Tryz.prog F) :
    Fn Tryz.prog W 15 [.pointer (some ⟨b0, 0, none⟩), .int .i64 x1] [obj b0 97 [.map (some p), str al, .int .i64 an, .bool az], am (aj p ao ak q) ai q af] F (bC.f k af al an az x1) (fun (r : Bool × Int × List Int × Int × Int × Int × Int × Int × Int × (List (aG)) × Bool × Bool × Int × (List ((List UInt8) × (List UInt8 × Int))) × List UInt8 × Int × Bool) (y : Nat × Option Addr × Nat × Option Addr × Nat × HA × Nat × Kps) => .tuple #[.pointer (uw r.1 y.1), .bool r.2.2.2.2.2.2.2.2.2.2.2.1, .int .i64 r.2.2.2.2.2.2.2.2.2.2.2.2.1]) (fun r y => [lJ r.1 [obj y.1 91 [.pointer (some ⟨b0, 0, none⟩), .int .i64 r.2.1, .slice y.2.1 r.2.2.1.length y.2.2.1, .int .i64 r.2.2.2.1, .int .i64 r.2.2.2.2.1, .int .i64 r.2.2.2.2.2.1, .int .i64 r.2.2.2.2.2.2.1, .int .i64 r.2.2.2.2.2.2.2.1, .int .i64 r.2.2.2.2.2.2.2.2.1, .slice y.2.2.2.1 r.2.2.2.2.2.2.2.2.2.1.length y.2.2.2.2.1, .bool r.2.2.2.2.2.2.2.2.2.2.1], ap 3 1 (V3 tt) y.2.1 r.2.2.1 y.2.2.1, ap 144 5 (aQ (y.2.2.2.2.2.1)) y.2.2.2.1 r.2.2.2.2.2.2.2.2.2.1 y.2.2.2.2.1, y.2.2.2.2.2.1], obj b0 97 [.map (some y.2.2.2.2.2.2.1), str r.2.2.2.2.2.2.2.2.2.2.2.2.2.2.1, .int .i64 r.2.2.2.2.2.2.2.2.2.2.2.2.2.2.2.1, .bool r.2.2.2.2.2.2.2.2.2.2.2.2.2.2.2.2], am (aj y.2.2.2.2.2.2.1 ao ak y.2.2.2.2.2.2.2) ai y.2.2.2.2.2.2.2 r.2.2.2.2.2.2.2.2.2.2.2.2.2.1]) := by
 unfold bC.f
 refine kq 116 Tryz.func15 O Tryz.ntmps15 O ?_
 refine sr ?_
 refine ah (bL O zeroValue36 O) O O O ?_
 intro l
 refine ah (bL O zeroValue4 O) O O O ?_
 intro m
 refine ah (bL O zeroValue23 O) O O O ?_
 intro n
 refine ae (aa (ay (sr ?_)))
 refine vm O O ?_
 refine vq (cH O O O) O ?_
 refine vm O O ?_
 refine au (b := decide (x1 < (64 : Int))) (fun e1 => RQ.sub (E' := [(1, .int .i64 x1)]) ⟨O, trivial⟩ (ba O O)) O O O O O ?_
 refine au (b := decide (x1 < (64 : Int))) (fun ch => RQ.sub (E' := [(18, .int .i64 x1)]) ⟨aE O ch, trivial⟩ (cI O O O)) O O O O O ?_
 refine vq (ex O O O) O (ae (aa ?_))
 refine aY O (fun hq => ?_) (fun hr => ?_)
 refine sr ?_
 refine aU (aH 2 O O O sizeOf36 O O (aM (by rfl)) O O) O O ?_
 intro _
 refine aU (aH 1 O O O sizeOf4 O O (aM (by rfl)) O O) O O ?_
 intro _
 refine aU (aH 0 O O O sizeOf23 O O (aM (by rfl)) O O) O O ?_
 intro _
 refine ae (aa (aA ?_))
 refine aK ?_
 exact rD (vs := [.pointer none, .bool false, .int .i64 15]) (0, none, 0, none, 0, tt, p, q) O ⟨⟨l, O, eZ isAgg36 (.obj 2 O O)⟩, ⟨m, O, eZ isAgg4 (.obj 1 O O)⟩, ⟨n, O, eZ isAgg23 (.obj 0 O O)⟩, trivial⟩ O (.when_no O (.sel 3 O (.sel 3 O (.sel 3 O (.nil _)))))
 refine aC ?_
 refine aa (sr ?_)
 refine vq (hD O O O) O ?_
 refine jN (cap := [.pointer (some ⟨l, 0, none⟩), .pointer (some ⟨m, 0, none⟩), .pointer (some ⟨n, 0, none⟩)]) O O O O O O O ?_
 refine nx ?_
 refine vm O O ?_
 refine vm O O ?_
 refine vq (cx (v := .agg #[.pointer (some ⟨b0, 0, none⟩), .int .i64 x1, .slice none 0 0, .int .i64 0, .int .i64 0, .int .i64 0, .int .i64 0, .int .i64 0, .int .i64 0, .slice none 0 0, .bool false]) O O (fun _ => by kernel_rfl)) O ?_
 refine ah (cy O O O) O O O ?_
 intro d
 refine aU (aH 3 O O O sizeOf36 O O (aM (by rfl)) O O) O O ?_
 intro _
 refine ae (aa ?_)
 refine bE (S := List Int) (Option Addr × Nat) (fun s y => [(4, .pointer (some ⟨l, 0, none⟩)), (5, .pointer (some ⟨m, 0, none⟩)), (6, .pointer (some ⟨n, 0, none⟩))]) (fun s y => [obj b0 97 [.map (some p), str al, .int .i64 an, .bool az], obj d 91 [.pointer (some ⟨b0, 0, none⟩), .int .i64 x1, .slice y.1 s.length y.2, .int .i64 0, .int .i64 0, .int .i64 0, .int .i64 0, .int .i64 0, .int .i64 0, .slice none 0 0, .bool false], obj n 23 [.int .i64 0], obj m 4 [.bool false], obj l 36 [.pointer (some ⟨d, 0, none⟩)], am (aj p ao ak q) ai q af, ap 3 1 (V3 tt) y.1 s y.2, F]) ?_ ?_
 refine sr ?_
 refine vm O O ?_
 refine aw (fun a5 d2 => ?_)
 refine ah (av (vs := [.pointer (some ⟨b0, 0, none⟩)]) (cap := []) (A := [obj b0 97 [.map (some p), str al, .int .i64 an, .bool az], am (aj p ao ak q) ai q af]) (rst := [obj d 91 [.pointer (some ⟨b0, 0, none⟩), .int .i64 x1, .slice none 0 0, .int .i64 0, .int .i64 0, .int .i64 0, .int .i64 0, .int .i64 0, .int .i64 0, .slice none 0 0, .bool false], obj n 23 [.int .i64 0], obj m 4 [.bool false], obj l 36 [.pointer (some ⟨d, 0, none⟩)], F]) O O O O O O call29 (.sel 4 O (.sel 4 O (.sel 0 O (.sel 0 O (.sel 0 O (.sel 0 O (.sel 0 O (.nil _)))))))) (eA.calls _ _ b0 p q af al an az ) d2) O O O ?_
 intro a3
 refine vq (bD O O O underlying60) O ?_
 refine vm O O (ae (aa ?_))
 refine aT ?_
 refine cC (S := Int × List Int) (Option Addr × Nat) (fun k s => bC.l0 a5 k s.1 s.2) (fun s y => [(4, .pointer (some ⟨l, 0, none⟩)), (5, .pointer (some ⟨m, 0, none⟩)), (6, .pointer (some ⟨n, 0, none⟩)), (27, .slice a3.1 a5.length a3.2), (28, .int .i64 (a5.length : Int)), (29, .int .i64 s.1)]) (fun s y => [obj b0 97 [.map (some p), str al, .int .i64 an, .bool az], obj d 91 [.pointer (some ⟨b0, 0, none⟩), .int .i64 x1, .slice y.1 s.2.length y.2, .int .i64 0, .int .i64 0, .int .i64 0, .int .i64 0, .int .i64 0, .int .i64 0, .slice none 0 0, .bool false], obj n 23 [.int .i64 0], obj m 4 [.bool false], obj l 36 [.pointer (some ⟨d, 0, none⟩)], ap 9 1 (V9 tt) a3.1 a5 a3.2, am (aj p ao ak q) ai q af, ap 3 1 (V3 tt) y.1 s.2 y.2, F]) (fun _ => by rw [bC.l0]) ?_ k (0, ([] : List Int)) (none, 0) ⟨O, O, O, O, O, O, trivial⟩ (.sel 1 O (.sel 2 O (.sel 2 O (.sel 2 O (.sel 2 O (.sel 0 O (.sel 0 O (.rowV_nil (.sel 0 O (.nil _))))))))))
 intro k x ab
 refine df (by rw [bC.l0]) ?_
 refine sr ?_
 refine vq (cH O O O) O (ae (aa (ay ?_)))
 refine bf O (fun g2 => ?_) (fun g3 => ?_)
 refine aC ?_
 refine aa (ay ?_)
 refine aT ?_
 refine sr ?_
 refine bg 5 O (fun a9 br => ?_)
 refine bh (fun b6 => ?_)
 refine fw 5 O br O (i := x.1.toNat) (by omega) ([] : List UInt8) (fun g4 e8 g5 d3 d4 e2 hcell25v => ?_)
 obtain rfl := d4
 refine vq (dC O O O d3 underlying60 sizeOf9 b6.1 b6.2) O ?_
 refine vq (ag O O isAgg9 (hcell25v 5 O 0 _ O)) O ?_
 refine va O O (nx ?_)
 refine vm O O ?_
 refine aw (fun a0 d5 => ?_)
 refine ah (av (vs := [str (a5.getD x.1.toNat ([] : List UInt8))]) (cap := []) (A := []) (rst := [obj b0 97 [.map (some p), str al, .int .i64 an, .bool az], obj d 91 [.pointer (some ⟨b0, 0, none⟩), .int .i64 x1, .slice ab.1 x.2.length ab.2, .int .i64 0, .int .i64 0, .int .i64 0, .int .i64 0, .int .i64 0, .int .i64 0, .slice none 0 0, .bool false], obj n 23 [.int .i64 0], obj m 4 [.bool false], obj l 36 [.pointer (some ⟨d, 0, none⟩)], Row 9 1 a3.1 a5.length a3.2 a9.flatten, am (aj p ao ak q) ai q af, ap 3 1 (V3 tt) ab.1 x.2 ab.2, F]) O O O O O O call11 (.sel 0 O (.sel 0 O (.sel 0 O (.sel 0 O (.sel 0 O (.sel 0 O (.sel 0 O (.sel 0 O (.sel 0 O (.nil _)))))))))) (dz.calls _ _ k (a5.getD x.1.toNat ([] : List UInt8)) ) d5) O O O ?_
 intro g6
 refine vm O O ?_
 refine vq (bu O O O) O ?_
 refine vq (bu O O O) O ?_
 refine va O O ?_
 refine va O O (nx ?_)
 refine vm O O (ae (aa ?_))
 refine aY O (fun g7 => ?_) (fun g8 => ?_)
 refine bn 7 O (fun b7 d6 => ?_)
 have bt : bx 1 (V3 tt) ([a0.1] : List Int) [[.int .i64 a0.1]] := ⟨⟨rfl, aM (by rfl), rfl⟩, trivial⟩
 refine cU (fun d7 => ?_)
 refine bb (Γ := Nat × (Option Addr × Nat)) (0, (none, 0)) [[], [], [1], [1, 2], [1, 2, 3], [], [5], [1, 2, 3, 4, 5, 6], rL 8, rL 9, rL 10] [6, 7, 10] [0, 1, 2, 3, 4, 5, 8, 9] (fun i => [[0, 1, 2], [0, 1], [0, 1], [0, 1], [0, 1], [0], [], [], [2], [2], []].getD i []) (fun i => [[], [], [], [], [], [], rL 6, rL 7, [], [], rL 10].getD i []) (fun γ i => [.pointer (some ⟨d, 0, none⟩), .pointer (some ⟨d, 0, none⟩), .pointer (some ⟨d, 0, none⟩), .pointer (some ⟨d, 2, none⟩), .slice ab.1 x.2.length ab.2, .int .i64 a0.1, .slice (some ⟨γ.1, 0, none⟩) (([a0.1] : List Int).length) 1, .slice γ.2.1 ((x.2 ++ ([a0.1] : List Int)).length) γ.2.2, .pointer (some ⟨d, 0, none⟩), .pointer (some ⟨d, 2, none⟩), undef].getD i undef) (fun j γ => [[obj b0 97 [.map (some p), str al, .int .i64 an, .bool az], obj d 91 [.pointer (some ⟨b0, 0, none⟩), .int .i64 x1, .slice ab.1 x.2.length ab.2, .int .i64 0, .int .i64 0, .int .i64 0, .int .i64 0, .int .i64 0, .int .i64 0, .slice none 0 0, .bool false], obj n 23 [.int .i64 0], obj m 4 [.bool false], obj l 36 [.pointer (some ⟨d, 0, none⟩)], Row 9 1 a3.1 a5.length a3.2 a9.flatten, am (aj p ao ak q) ai q af, Row 3 1 ab.1 x.2.length ab.2 b7.flatten, F], [Row 3 1 (some ⟨γ.1, 0, none⟩) ([a0.1] : List Int).length 1 [[.int .i64 a0.1]].flatten, obj b0 97 [.map (some p), str al, .int .i64 an, .bool az], obj d 91 [.pointer (some ⟨b0, 0, none⟩), .int .i64 x1, .slice ab.1 x.2.length ab.2, .int .i64 0, .int .i64 0, .int .i64 0, .int .i64 0, .int .i64 0, .int .i64 0, .slice none 0 0, .bool false], obj n 23 [.int .i64 0], obj m 4 [.bool false], obj l 36 [.pointer (some ⟨d, 0, none⟩)], Row 9 1 a3.1 a5.length a3.2 a9.flatten, am (aj p ao ak q) ai q af, Row 3 1 ab.1 x.2.length ab.2 b7.flatten, F], [Row 3 1 (some ⟨γ.1, 0, none⟩) ([a0.1] : List Int).length 1 [[.int .i64 a0.1]].flatten, obj b0 97 [.map (some p), str al, .int .i64 an, .bool az], obj d 91 [.pointer (some ⟨b0, 0, none⟩), .int .i64 x1, .slice ab.1 x.2.length ab.2, .int .i64 0, .int .i64 0, .int .i64 0, .int .i64 0, .int .i64 0, .int .i64 0, .slice none 0 0, .bool false], obj n 23 [.int .i64 0], obj m 4 [.bool false], obj l 36 [.pointer (some ⟨d, 0, none⟩)], Row 9 1 a3.1 a5.length a3.2 a9.flatten, am (aj p ao ak q) ai q af, ap 3 1 (V3 tt) γ.2.1 (x.2 ++ ([a0.1] : List Int)) γ.2.2, F], [Row 3 1 (some ⟨γ.1, 0, none⟩) ([a0.1] : List Int).length 1 [[.int .i64 a0.1]].flatten, obj b0 97 [.map (some p), str al, .int .i64 an, .bool az], obj d 91 [.pointer (some ⟨b0, 0, none⟩), .int .i64 x1, .slice γ.2.1 ((x.2 ++ ([a0.1] : List Int)).length) γ.2.2, .int .i64 0, .int .i64 0, .int .i64 0, .int .i64 0, .int .i64 0, .int .i64 0, .slice none 0 0, .bool false], obj n 23 [.int .i64 0], obj m 4 [.bool false], obj l 36 [.pointer (some ⟨d, 0, none⟩)], Row 9 1 a3.1 a5.length a3.2 a9.flatten, am (aj p ao ak q) ai q af, ap 3 1 (V3 tt) γ.2.1 (x.2 ++ ([a0.1] : List Int)) γ.2.2, F]].getD j []) (fun γ => [(4, .pointer (some ⟨l, 0, none⟩)), (5, .pointer (some ⟨m, 0, none⟩)), (6, .pointer (some ⟨n, 0, none⟩)), (27, .slice a3.1 a5.length a3.2), (28, .int .i64 (a5.length : Int)), (29, .int .i64 x.1)]) mixed (by decide) (by decide) (by decide) (by decide) (by decide) (by decide) (by decide) 116 O (by decide) (by decide) (by decide) (Ent.refl _) ?_ ?_ (fun _ => ⟨O, O, O, O, O, O, trivial⟩) ?_
 exact (ac (fun γ => (ac (qp O O (.o (s := 4) O (by decide) .nil) (ag O O isAgg36 (.obj 4 O O)) O) (ac (qp O O (.o (s := 4) O (by decide) .nil) (ag O O isAgg36 (.obj 5 O O)) O) (ac (qp O O (.o (s := 4) O (by decide) .nil) (ag O O isAgg36 (.obj 5 O O)) O) zA)))) (ac (fun γ => (ac (qp O O (.o (s := 4) O (by decide) .nil) (ag O O isAgg36 (.obj 4 O O)) O) (ac (qp O O (.o (s := 4) O (by decide) .nil) (ag O O isAgg36 (.obj 5 O O)) O) zA))) (ac (fun γ => (ac (qp O O (.v 1 O O .nil) (aX O O) O) (ac (qp O O (.v 1 O O .nil) (aX O O) O) zA))) (ac (fun γ => (ac (qp O O (.v 2 O O .nil) (ar O O underlying91 O O sizeOf78 O) O) (ac (qp O O (.v 2 O O .nil) (ar O O underlying91 O O sizeOf78 O) O) zA))) (ac (fun γ => (ac (qp O O (.v 3 O O .nil) (ag O O isAgg78 (.obj 1 O O)) O) (ac (qp O O (.v 3 O O .nil) (ag O O isAgg78 (.obj 2 O O)) O) zA))) (aq O (fun γ => qm O (.o (s := 9) O (by decide) .nil) O) (aq O (fun γ => qp O O (.v 0 O O .nil) (aX O O) O) (aq O (fun γ => qp O O (.v 8 O O .nil) (ar O O underlying91 O O sizeOf78 O) O) zA))))))))
 exact (ac (fun γ => eo (Z := Nat) (fun z => (z, γ.2)) O O (.v 5 O O .nil) (eB (V := (V3 tt)) (xs := ([a0.1] : List Int)) [[.int .i64 a0.1]] O O underlying78 mv O (by kernel_rfl) O bt O O) (fun _ => ⟨O, O, O, O, O, O, trivial⟩) (fun _ => .inr O) (fun z => Ent.refl _)) (ac (fun γ => eo (Z := Option Addr × Nat) (fun z => (γ.1, z)) O O (.v 4 O O (.v 6 O O .nil)) (ej 8 O O O underlying78 mv O d6 (fI.row bt 0 O) d7) (fun _ => ⟨O, O, O, O, O, O, O, trivial⟩) (fun _ => .inr O) (fun z => Ent.refl _)) (ac (fun γ => eo (Z := Unit) (fun z => (γ.1, γ.2)) O O (.v 7 O O (.v 9 O O .nil)) (aH 2 O O O sizeOf78 O O (aM (by rfl)) O O) (fun _ => ⟨O, O, O, O, O, O, O, O, O, O, trivial⟩) (fun _ => .inl O) (fun z => Ent.refl _)) zA)))
 intro cs
 refine bv (aa (aJ ?_))
 refine vq (cb O O O) O ?_
 refine vm O O (ae ?_)
 exact bV (s := (IntKind.i64.wrap (x.1 + 1), x.2 ++ ([a0.1] : List Int))) (cs.2.1, cs.2.2) ⟨O, O, O, O, O, O, trivial⟩ (.sel 1 O (.sel 1 O (.sel 1 O (.sel 1 O (.sel 1 O (.sel' 1 O (ap.mk br) (.sel 1 O (.sel 1 O (.sel 1 O (.nil _))))))))))
 refine aC ?_
 refine bv (aa (aJ ?_))
 refine vq (cb O O O) O ?_
 refine vm O O (ae ?_)
 exact bV (s := (IntKind.i64.wrap (x.1 + 1), x.2)) (ab.1, ab.2) ⟨O, O, O, O, O, O, trivial⟩ (.sel 0 O (.sel 0 O (.sel 0 O (.sel 0 O (.sel 0 O (.sel' 0 O (ap.mk br) (.sel 0 O (.sel 0 O (.sel 0 O (.nil _))))))))))
 refine cN ?_
 refine ct ?_
 refine cD ?_
 refine cu ?_
 exact aF (s := x.2) (ab.1, ab.2) ⟨O, O, O, trivial⟩ (.sel 0 O (.sel 0 O (.sel 0 O (.sel 0 O (.sel 0 O (.sel 1 O (.sel 1 O (.sel 1 O (.nil _)))))))))
 intro a4 w
 refine ay (sr ?_)
 refine vq (ag O O isAgg36 (.obj 4 O O)) O ?_
 refine vn O O ?_
 refine vq (ar O O underlying91 O O sizeOf78 O) O ?_
 refine vq (ag O O isAgg78 (.obj 1 O O)) O ?_
 refine vq (bD O O O underlying78) O ?_
 refine vq (bI O O O) O (ae (aa ?_))
 refine bf O (fun g9 => ?_) (fun ha => ?_)
 refine sr ?_
 refine vq (ag O O isAgg36 (.obj 4 O O)) O ?_
 refine bg 6 O (fun e9 d8 => ?_)
 refine aw (fun hb d9 => ?_)
 refine ah (av (vs := [.pointer (some ⟨d, 0, none⟩), .int .i64 1]) (cap := []) (A := [obj b0 97 [.map (some p), str al, .int .i64 an, .bool az], am (aj p ao ak q) ai q af, obj d 91 [.pointer (some ⟨b0, 0, none⟩), .int .i64 x1, .slice w.1 a4.length w.2, .int .i64 0, .int .i64 0, .int .i64 0, .int .i64 0, .int .i64 0, .int .i64 0, .slice none 0 0, .bool false], ap 3 1 (V3 tt) w.1 a4 w.2, ap 144 5 (aQ (tt)) none ([] : List (aG)) 0, tt]) (rst := [obj n 23 [.int .i64 0], obj m 4 [.bool false], obj l 36 [.pointer (some ⟨d, 0, none⟩)], F]) O O O O O O call42 (.sel 0 O (.sel 4 O (.sel 0 O (.sel' 3 O (ap.mk d8) (.rowV_nil (.tt_in (.sel 0 O (.sel 0 O (.sel 0 O (.sel 0 O (.nil _))))))))))) (de.calls _ _ k d b0 p q af al an az x1 w.1 w.2 a4 (0 : Int) (0 : Int) (0 : Int) (0 : Int) (0 : Int) (0 : Int) none 0 ([] : List (aG)) tt false (1 : Int) (hgl.lend 3 O)) d9) O O O ?_
 intro a7
 refine nx ?_
 refine vq (ag O O isAgg36 (.obj 8 O O)) O ?_
 refine aU (aH 8 O O O sizeOf36 O O (aM (by rfl)) O O) O O ?_
 intro _
 refine aU (aH 7 O O O sizeOf4 O O (aM (by rfl)) O O) O O ?_
 intro _
 refine aU (aH 6 O O O sizeOf23 O O (aM (by rfl)) O O) O O ?_
 intro _
 refine ae (aa (aA ?_))
 refine aK ?_
 exact jQ (vs := [.pointer (some ⟨d, 0, none⟩), .bool false, .int .i64 0]) 40 [.pointer (some ⟨l, 0, none⟩), .pointer (some ⟨m, 0, none⟩), .pointer (some ⟨n, 0, none⟩)] (lK.quiet l m n) call40 (d, a7.2.2.1, a7.2.2.2.1, a7.2.2.2.2.1, a7.2.2.2.2.2.1, a7.2.2.2.2.2.2, a7.1, a7.2.1) O ⟨⟨l, O, eZ isAgg36 (.obj 8 O O)⟩, ⟨m, O, eZ isAgg4 (.obj 7 O O)⟩, ⟨n, O, eZ isAgg23 (.obj 6 O O)⟩, trivial⟩ O (.when_yes O (.sel 2 O (.sel 2 O (.sel 2 O (.sel 2 O (.sel 0 O (.sel 0 O (.sel 3 O (.nil _)))))))))
 refine aC ?_
 refine aa ?_
 refine bE (S := Unit) (Unit) (fun s y => [(4, .pointer (some ⟨l, 0, none⟩)), (5, .pointer (some ⟨m, 0, none⟩)), (6, .pointer (some ⟨n, 0, none⟩))]) (fun s y => [obj b0 97 [.map (some p), str al, .int .i64 an, .bool az], obj d 91 [.pointer (some ⟨b0, 0, none⟩), .int .i64 x1, .slice w.1 a4.length w.2, .int .i64 0, .int .i64 0, .int .i64 0, .int .i64 0, .int .i64 0, .int .i64 0, .slice none 0 0, .bool false], obj n 23 [.int .i64 0], obj m 4 [.bool false], obj l 36 [.pointer (some ⟨d, 0, none⟩)], am (aj p ao ak q) ai q af, ap 3 1 (V3 tt) w.1 a4 w.2, F]) ?_ ?_
 refine sr ?_
 refine vq (ag O O isAgg36 (.obj 4 O O)) O ?_
 refine vn O O ?_
 refine vq (ar O O underlying91 O O sizeOf78 O) O ?_
 refine vq (ag O O isAgg78 (.obj 1 O O)) O ?_
 refine vq (bD O O O underlying78) O ?_
 refine vm O O (ae (aa ?_))
 refine aT ?_
 refine cC (S := Int) (Unit) (fun k s => bC.l1 a4 k s) (fun s y => [(4, .pointer (some ⟨l, 0, none⟩)), (5, .pointer (some ⟨m, 0, none⟩)), (6, .pointer (some ⟨n, 0, none⟩)), (62, .slice w.1 a4.length w.2), (63, .int .i64 (a4.length : Int)), (64, .int .i64 s)]) (fun s y => [obj b0 97 [.map (some p), str al, .int .i64 an, .bool az], obj d 91 [.pointer (some ⟨b0, 0, none⟩), .int .i64 x1, .slice w.1 a4.length w.2, .int .i64 0, .int .i64 0, .int .i64 0, .int .i64 0, .int .i64 0, .int .i64 0, .slice none 0 0, .bool false], obj n 23 [.int .i64 0], obj m 4 [.bool false], obj l 36 [.pointer (some ⟨d, 0, none⟩)], ap 3 1 (V3 tt) w.1 a4 w.2, am (aj p ao ak q) ai q af, F]) (fun _ => by rw [bC.l1]) ?_ k 0 () ⟨O, O, O, O, O, O, trivial⟩ (.sel 0 O (.sel 0 O (.sel 0 O (.sel 0 O (.sel 0 O (.sel 1 O (.sel 0 O (.sel 0 O (.nil _)))))))))
 intro k b5 hc
 refine df (by rw [bC.l1]) ?_
 refine sr ?_
 refine vq (cH O O O) O (ae (aa (ay ?_)))
 refine bf O (fun he => ?_) (fun hf => ?_)
 refine aC ?_
 refine aa (ay ?_)
 refine aT ?_
 refine sr ?_
 refine vm O O ?_
 refine bg 5 O (fun ea be => ?_)
 refine bh (fun b8 => ?_)
 refine fw 5 O be O (i := b5.toNat) (by omega) (0 : Int) (fun hg fn hh eb ec e3 hcell63v => ?_)
 obtain rfl := ec
 refine vq (dC O O O eb underlying78 sizeOf3 b8.1 b8.2) O ?_
 refine vq (ag O O isAgg3 (hcell63v 5 O 0 _ O)) O ?_
 refine va O O ?_
 refine va O O (nx ?_)
 refine vm O O ?_
 refine vq (ag O O isAgg36 (.obj 4 O O)) O ?_
 refine vn O O ?_
 refine vq (ar O O underlying91 O O sizeOf78 O) O ?_
 refine vq (ag O O isAgg78 (.obj 1 O O)) O ?_
 refine bh (fun b9 => ?_)
 refine fw 5 O be O (i := (0 : Int).toNat) (by omega) (0 : Int) (fun hi fp hj ed ee e4 hcell73v => ?_)
 obtain rfl := ee
 refine vq (dC O O O ed underlying78 sizeOf3 b9.1 b9.2) O ?_
 refine vq (ag O O isAgg3 (hcell73v 5 O 0 _ O)) O ?_
 refine vm O O ?_
 refine vq (cb O O O) O ?_
 refine vq (cZ O O O) O (ae (aa ?_))
 refine cS O (fun hk => ?_) (fun hl => ?_)
 refine aC ?_
 refine bv (aa (aJ ?_))
 refine vq (cb O O O) O ?_
 refine vm O O (ae ?_)
 exact bV (s := IntKind.i64.wrap (b5 + 1)) () ⟨O, O, O, O, O, O, trivial⟩ (.sel 0 O (.sel 0 O (.sel 0 O (.sel 0 O (.sel 0 O (.sel' 0 O (ap.mk be) (.sel 0 O (.sel 0 O (.nil _)))))))))
 refine aJ ?_
 refine aw (fun hm ef => ?_)
 refine ah (av (vs := [.int .i64 12]) (cap := []) (A := []) (rst := [obj b0 97 [.map (some p), str al, .int .i64 an, .bool az], obj d 91 [.pointer (some ⟨b0, 0, none⟩), .int .i64 x1, .slice w.1 a4.length w.2, .int .i64 0, .int .i64 0, .int .i64 0, .int .i64 0, .int .i64 0, .int .i64 0, .slice none 0 0, .bool false], obj n 23 [.int .i64 0], obj m 4 [.bool false], obj l 36 [.pointer (some ⟨d, 0, none⟩)], Row 3 1 w.1 a4.length w.2 ea.flatten, am (aj p ao ak q) ai q af, F]) O O O O O O call43 (.sel 0 O (.sel 0 O (.sel 0 O (.sel 0 O (.sel 0 O (.sel 0 O (.sel 0 O (.sel 0 O (.nil _))))))))) (bw.calls _ _ (12 : Int) ) ef) O O O ?_
 intro hn
 refine ae (bv (aa (aJ ?_)))
 refine vq (cb O O O) O ?_
 refine vm O O (ae ?_)
 exact bV (s := IntKind.i64.wrap (b5 + 1)) () ⟨O, O, O, O, O, O, trivial⟩ (.sel 0 O (.sel 0 O (.sel 0 O (.sel 0 O (.sel 0 O (.sel' 0 O (ap.mk be) (.sel 0 O (.sel 0 O (.nil _)))))))))
 refine cN ?_
 refine ct ?_
 refine cD ?_
 refine cu ?_
 exact aF (s := ()) () ⟨O, O, O, trivial⟩ (.sel 0 O (.sel 0 O (.sel 0 O (.sel 0 O (.sel 0 O (.sel 1 O (.sel 0 O (.sel 0 O (.nil _)))))))))
 intro ho hp
 refine bE (S := (List ((List UInt8) × (List UInt8 × Int))) × List UInt8 × Int × Bool × Int × List Int × Int × Int × Int × Int × Int × Int × (List (aG)) × Bool × Bool) (Nat × Kps × Option Addr × Nat × HA × Option Addr × Nat) (fun s y => [(4, .pointer (some ⟨l, 0, none⟩)), (5, .pointer (some ⟨m, 0, none⟩)), (6, .pointer (some ⟨n, 0, none⟩))]) (fun s y => [obj b0 97 [.map (some y.1), str s.2.1, .int .i64 s.2.2.1, .bool s.2.2.2.1], obj d 91 [.pointer (some ⟨b0, 0, none⟩), .int .i64 s.2.2.2.2.1, .slice y.2.2.1 s.2.2.2.2.2.1.length y.2.2.2.1, .int .i64 s.2.2.2.2.2.2.1, .int .i64 s.2.2.2.2.2.2.2.1, .int .i64 s.2.2.2.2.2.2.2.2.1, .int .i64 s.2.2.2.2.2.2.2.2.2.1, .int .i64 s.2.2.2.2.2.2.2.2.2.2.1, .int .i64 s.2.2.2.2.2.2.2.2.2.2.2.1, .slice y.2.2.2.2.2.1 s.2.2.2.2.2.2.2.2.2.2.2.2.1.length y.2.2.2.2.2.2, .bool s.2.2.2.2.2.2.2.2.2.2.2.2.2.1], obj n 23 [.int .i64 0], obj m 4 [.bool s.2.2.2.2.2.2.2.2.2.2.2.2.2.2], obj l 36 [.pointer (some ⟨d, 0, none⟩)], am (aj y.1 ao ak y.2.1) ai y.2.1 s.1, ap 3 1 (V3 tt) y.2.2.1 s.2.2.2.2.2.1 y.2.2.2.1, ap 144 5 (aQ (y.2.2.2.2.1)) y.2.2.2.2.2.1 s.2.2.2.2.2.2.2.2.2.2.2.2.1 y.2.2.2.2.2.2, y.2.2.2.2.1, F]) ?_ ?_
 refine sr ?_
 refine vq (ag O O isAgg36 (.obj 4 O O)) O ?_
 refine vn O O ?_
 refine vq (ar O O underlying91 O O sizeOf78 O) O ?_
 refine vq (ag O O isAgg78 (.obj 1 O O)) O ?_
 refine bg 6 O (fun ei cd => ?_)
 refine aw (fun a8 ek => ?_)
 refine bd 6 O (fun el em er fr => ?_)
 refine ah (av (vs := [.slice w.1 a4.length w.2]) (cap := []) (A := []) (rst := [obj b0 97 [.map (some p), str al, .int .i64 an, .bool az], obj d 91 [.pointer (some ⟨b0, 0, none⟩), .int .i64 x1, .slice w.1 a4.length w.2, .int .i64 0, .int .i64 0, .int .i64 0, .int .i64 0, .int .i64 0, .int .i64 0, .slice none 0 0, .bool false], obj n 23 [.int .i64 0], obj m 4 [.bool false], obj l 36 [.pointer (some ⟨d, 0, none⟩)], am (aj p ao ak q) ai q af, Row 3 1 w.1 a4.length w.2 ei.flatten, F]) O O O O O O call44 (.sel 0 O (.sel 0 O (.sel 0 O (.sel 0 O (.sel 0 O (.sel 0 O (.sel 0 O (.sel 0 O (.nil _))))))))) (dX.calls _ _ w.1 w.2 a4 ((Rd.asV cd el).up (Up.lend 6 O) (fun _ _ h => h)) em er) ek) O O O ?_
 intro bc
 refine vq (bD O O O underlying78) O ?_
 refine vm O O (ae (aa ?_))
 refine aT ?_
 refine cC (S := Int × (List ((List UInt8) × (List UInt8 × Int))) × List UInt8 × Int × Bool × Int × List Int × Int × Int × Int × Int × Int × Int × (List (aG)) × Bool × Bool) (Nat × Kps × Option Addr × Nat × HA × Option Addr × Nat) (fun k s => bC.l2 a8 k s.1 s.2.1 s.2.2.1 s.2.2.2.1 s.2.2.2.2.1 s.2.2.2.2.2.1 s.2.2.2.2.2.2.1 s.2.2.2.2.2.2.2.1 s.2.2.2.2.2.2.2.2.1 s.2.2.2.2.2.2.2.2.2.1 s.2.2.2.2.2.2.2.2.2.2.1 s.2.2.2.2.2.2.2.2.2.2.2.1 s.2.2.2.2.2.2.2.2.2.2.2.2.1 s.2.2.2.2.2.2.2.2.2.2.2.2.2.1 s.2.2.2.2.2.2.2.2.2.2.2.2.2.2.1 s.2.2.2.2.2.2.2.2.2.2.2.2.2.2.2) (fun s y => [(4, .pointer (some ⟨l, 0, none⟩)), (5, .pointer (some ⟨m, 0, none⟩)), (6, .pointer (some ⟨n, 0, none⟩)), (85, .slice bc.1 a8.length bc.2), (86, .int .i64 (a8.length : Int)), (87, .int .i64 s.1)]) (fun s y => [obj b0 97 [.map (some y.1), str s.2.2.1, .int .i64 s.2.2.2.1, .bool s.2.2.2.2.1], obj d 91 [.pointer (some ⟨b0, 0, none⟩), .int .i64 s.2.2.2.2.2.1, .slice y.2.2.1 s.2.2.2.2.2.2.1.length y.2.2.2.1, .int .i64 s.2.2.2.2.2.2.2.1, .int .i64 s.2.2.2.2.2.2.2.2.1, .int .i64 s.2.2.2.2.2.2.2.2.2.1, .int .i64 s.2.2.2.2.2.2.2.2.2.2.1, .int .i64 s.2.2.2.2.2.2.2.2.2.2.2.1, .int .i64 s.2.2.2.2.2.2.2.2.2.2.2.2.1, .slice y.2.2.2.2.2.1 s.2.2.2.2.2.2.2.2.2.2.2.2.2.1.length y.2.2.2.2.2.2, .bool s.2.2.2.2.2.2.2.2.2.2.2.2.2.2.1], obj n 23 [.int .i64 0], obj m 4 [.bool s.2.2.2.2.2.2.2.2.2.2.2.2.2.2.2], obj l 36 [.pointer (some ⟨d, 0, none⟩)], ap 3 1 (V3 tt) bc.1 a8 bc.2, am (aj y.1 ao ak y.2.1) ai y.2.1 s.2.1, ap 3 1 (V3 tt) y.2.2.1 s.2.2.2.2.2.2.1 y.2.2.2.1, ap 144 5 (aQ (y.2.2.2.2.1)) y.2.2.2.2.2.1 s.2.2.2.2.2.2.2.2.2.2.2.2.2.1 y.2.2.2.2.2.2, y.2.2.2.2.1, F]) (fun _ => by rw [bC.l2]) ?_ k (0, af, al, an, az, x1, a4, 0, 0, 0, 0, 0, 0, ([] : List (aG)), false, false) (p, q, w.1, w.2, tt, none, 0) ⟨O, O, O, O, O, O, trivial⟩ (.sel 1 O (.sel 1 O (.sel 1 O (.sel 1 O (.sel 1 O (.sel 0 O (.sel 0 O (.sel' 0 O (ap.mk cd) (.rowV_nil (.tt_in (.sel 0 O (.nil _))))))))))))
 intro k e t
 refine df (by rw [bC.l2]) ?_
 refine sr ?_
 refine vq (cH O O O) O (ae (aa (ay ?_)))
 refine bf O (fun fs => ?_) (fun fz => ?_)
 refine aC ?_
 refine aa (ay ?_)
 refine aT ?_
 refine sr ?_
 refine bg 5 O (fun c0 b1 => ?_)
 refine bh (fun b2 => ?_)
 refine fw 5 O b1 O (i := e.1.toNat) (by omega) (0 : Int) (fun go e5 gs c1 c2 et hcell117v => ?_)
 obtain rfl := c2
 refine vq (dC O O O c1 underlying78 sizeOf3 b2.1 b2.2) O ?_
 refine vq (ag O O isAgg3 (hcell117v 5 O 0 _ O)) O ?_
 refine va O O (ny ?_)
 refine vq (ag O O isAgg36 (.obj 4 O O)) O ?_
 refine vm O O ?_
 refine bg 7 O (fun e6 c3 => ?_)
 refine bg 8 O (fun e7 c4 => ?_)
 refine aw (fun ad c5 => ?_)
 refine ah (av (vs := [.pointer (some ⟨d, 0, none⟩), .int .i64 (a8.getD e.1.toNat (0 : Int))]) (cap := []) (A := [obj b0 97 [.map (some t.1), str e.2.2.1, .int .i64 e.2.2.2.1, .bool e.2.2.2.2.1], am (aj t.1 ao ak t.2.1) ai t.2.1 e.2.1, obj d 91 [.pointer (some ⟨b0, 0, none⟩), .int .i64 e.2.2.2.2.2.1, .slice t.2.2.1 e.2.2.2.2.2.2.1.length t.2.2.2.1, .int .i64 e.2.2.2.2.2.2.2.1, .int .i64 e.2.2.2.2.2.2.2.2.1, .int .i64 e.2.2.2.2.2.2.2.2.2.1, .int .i64 e.2.2.2.2.2.2.2.2.2.2.1, .int .i64 e.2.2.2.2.2.2.2.2.2.2.2.1, .int .i64 e.2.2.2.2.2.2.2.2.2.2.2.2.1, .slice t.2.2.2.2.2.1 e.2.2.2.2.2.2.2.2.2.2.2.2.2.1.length t.2.2.2.2.2.2, .bool e.2.2.2.2.2.2.2.2.2.2.2.2.2.2.1], ap 3 1 (V3 tt) t.2.2.1 e.2.2.2.2.2.2.1 t.2.2.2.1, ap 144 5 (aQ (t.2.2.2.2.1)) t.2.2.2.2.2.1 e.2.2.2.2.2.2.2.2.2.2.2.2.2.1 t.2.2.2.2.2.2, t.2.2.2.2.1]) (rst := [obj n 23 [.int .i64 0], obj m 4 [.bool e.2.2.2.2.2.2.2.2.2.2.2.2.2.2.2], obj l 36 [.pointer (some ⟨d, 0, none⟩)], Row 3 1 bc.1 a8.length bc.2 c0.flatten, F]) O O O O O O call45 (.sel 0 O (.sel 5 O (.sel 0 O (.sel' 4 O (ap.mk c3) (.sel' 4 O (ap.mk c4) (.sel 4 O (.sel 0 O (.sel 0 O (.sel 0 O (.sel 0 O (.sel 0 O (.nil _)))))))))))) (da.calls _ _ k d b0 t.1 t.2.1 e.2.1 e.2.2.1 e.2.2.2.1 e.2.2.2.2.1 e.2.2.2.2.2.1 t.2.2.1 t.2.2.2.1 e.2.2.2.2.2.2.1 e.2.2.2.2.2.2.2.1 e.2.2.2.2.2.2.2.2.1 e.2.2.2.2.2.2.2.2.2.1 e.2.2.2.2.2.2.2.2.2.2.1 e.2.2.2.2.2.2.2.2.2.2.2.1 e.2.2.2.2.2.2.2.2.2.2.2.2.1 t.2.2.2.2.2.1 t.2.2.2.2.2.2 e.2.2.2.2.2.2.2.2.2.2.2.2.2.1 t.2.2.2.2.1 e.2.2.2.2.2.2.2.2.2.2.2.2.2.2.1 (a8.getD e.1.toNat (0 : Int)) (hgl.lend 4 O)) c5) O O O ?_
 intro a6
 refine aU (aH 7 O O O sizeOf4 O O (aM (by rfl)) O O) O O ?_
 intro _
 refine ae (bv (aa (aJ ?_)))
 refine vq (cb O O O) O ?_
 refine vm O O (ae ?_)
 exact bV (s := (IntKind.i64.wrap (e.1 + 1), ad.2.1, ad.2.2.1, ad.2.2.2.1, ad.2.2.2.2.1, ad.2.2.2.2.2.1, ad.2.2.2.2.2.2.1, ad.2.2.2.2.2.2.2.1, ad.2.2.2.2.2.2.2.2.1, ad.2.2.2.2.2.2.2.2.2.1, ad.2.2.2.2.2.2.2.2.2.2.1, ad.2.2.2.2.2.2.2.2.2.2.2.1, ad.2.2.2.2.2.2.2.2.2.2.2.2.1, ad.2.2.2.2.2.2.2.2.2.2.2.2.2.1, ad.2.2.2.2.2.2.2.2.2.2.2.2.2.2, ad.1)) (a6.1, a6.2.1, a6.2.2.1, a6.2.2.2.1, a6.2.2.2.2.2.2, a6.2.2.2.2.1, a6.2.2.2.2.2.1) ⟨O, O, O, O, O, O, trivial⟩ (.sel 0 O (.sel 1 O (.sel 4 O (.sel 4 O (.sel 4 O (.sel' 4 O (ap.mk b1) (.sel 0 O (.sel 0 O (.sel 0 O (.sel 0 O (.sel 0 O (.nil _))))))))))))
 refine cN ?_
 refine ct ?_
 refine cD ?_
 refine cu ?_
 exact aF (s := (e.2.1, e.2.2.1, e.2.2.2.1, e.2.2.2.2.1, e.2.2.2.2.2.1, e.2.2.2.2.2.2.1, e.2.2.2.2.2.2.2.1, e.2.2.2.2.2.2.2.2.1, e.2.2.2.2.2.2.2.2.2.1, e.2.2.2.2.2.2.2.2.2.2.1, e.2.2.2.2.2.2.2.2.2.2.2.1, e.2.2.2.2.2.2.2.2.2.2.2.2.1, e.2.2.2.2.2.2.2.2.2.2.2.2.2.1, e.2.2.2.2.2.2.2.2.2.2.2.2.2.2.1, e.2.2.2.2.2.2.2.2.2.2.2.2.2.2.2)) (t.1, t.2.1, t.2.2.1, t.2.2.2.1, t.2.2.2.2.1, t.2.2.2.2.2.1, t.2.2.2.2.2.2) ⟨O, O, O, trivial⟩ (.sel 0 O (.sel 0 O (.sel 0 O (.sel 0 O (.sel 0 O (.sel 1 O (.sel 1 O (.sel 1 O (.sel 1 O (.sel 1 O (.nil _)))))))))))
 intro a c
 refine ay ?_
 refine bn 6 O (fun a1 b3 => ?_)
 refine bn 7 O (fun a2 c6 => ?_)
 refine cU (fun b4 => ?_)
 refine jh 6 O b3 O (i := (IntKind.i64.wrap ((a.2.2.2.2.2.1.length : Int) - 1)).toNat) (by omega) (0 : Int) (fun es c7 gy c8 c9 e0 hcell138v => ?_)
 obtain rfl := c9
 refine bp (fun bs dl => ?_)
 refine bp (fun g ds => ?_)
 refine bp (fun g0 d1 => ?_)
 refine bb (Γ := (Nat × Kps)) (0, ([] : Kps)) [[], [0], [0, 1], [0, 1, 2], [], [4], [4, 5], [4, 5, 6], [], [8], [8, 9], [8, 9, 10], [8, 9, 10, 11], [8, 9, 10, 11, 12], [4, 5, 6, 7, 8, 9, 10, 11, 12, 13], [4, 5, 6, 7, 8, 9, 10, 11, 12, 13, 14], [4, 5, 6, 7, 8, 9, 10, 11, 12, 13, 14, 15], rL 17, rL 18] [16, 17, 18] [0, 1, 2, 3, 4, 5, 6, 7, 8, 9, 10, 11, 12, 13, 14, 15] (fun i => [[0, 1], [0, 1], [0, 1], [0, 1], [0], [0], [0], [0], [0], [0], [0], [0], [0], [0], [0], [0], [], [], []].getD i []) (fun i => [[], [], [], [], [], [], [], [], [], [], [], [], [], [], [], [], rL 16, rL 17, rL 18].getD i []) (fun γ i => [.pointer (some ⟨d, 0, none⟩), .pointer (some ⟨d, 0, none⟩), .pointer (some ⟨d, 0, none⟩), .pointer (some ⟨b0, 0, none⟩), .pointer (some ⟨d, 0, none⟩), .pointer (some ⟨d, 0, none⟩), .pointer (some ⟨d, 2, none⟩), .slice c.2.2.1 a.2.2.2.2.2.1.length c.2.2.2.1, .pointer (some ⟨d, 0, none⟩), .pointer (some ⟨d, 0, none⟩), .pointer (some ⟨d, 2, none⟩), .slice c.2.2.1 a.2.2.2.2.2.1.length c.2.2.2.1, .int .i64 (a.2.2.2.2.2.1.length : Int), .int .i64 (IntKind.i64.wrap ((a.2.2.2.2.2.1.length : Int) - 1)), .pointer (some ⟨es, c7 + (IntKind.i64.wrap ((a.2.2.2.2.2.1.length : Int) - 1)).toNat * 1, none⟩), .int .i64 (a.2.2.2.2.2.1.getD (IntKind.i64.wrap ((a.2.2.2.2.2.1.length : Int) - 1)).toNat (0 : Int)), str bs, .int .i64 g.1, .tuple #[]].getD i undef) (fun j γ => [[obj b0 97 [.map (some c.1), str a.2.1, .int .i64 a.2.2.1, .bool a.2.2.2.1], obj d 91 [.pointer (some ⟨b0, 0, none⟩), .int .i64 a.2.2.2.2.1, .slice c.2.2.1 a.2.2.2.2.2.1.length c.2.2.2.1, .int .i64 a.2.2.2.2.2.2.1, .int .i64 a.2.2.2.2.2.2.2.1, .int .i64 a.2.2.2.2.2.2.2.2.1, .int .i64 a.2.2.2.2.2.2.2.2.2.1, .int .i64 a.2.2.2.2.2.2.2.2.2.2.1, .int .i64 a.2.2.2.2.2.2.2.2.2.2.2.1, .slice c.2.2.2.2.2.1 a.2.2.2.2.2.2.2.2.2.2.2.2.1.length c.2.2.2.2.2.2, .bool a.2.2.2.2.2.2.2.2.2.2.2.2.2.1], obj n 23 [.int .i64 0], obj m 4 [.bool a.2.2.2.2.2.2.2.2.2.2.2.2.2.2], obj l 36 [.pointer (some ⟨d, 0, none⟩)], am (aj c.1 ao ak c.2.1) ai c.2.1 a.1, Row 3 1 c.2.2.1 a.2.2.2.2.2.1.length c.2.2.2.1 a1.flatten, Row 144 5 c.2.2.2.2.2.1 a.2.2.2.2.2.2.2.2.2.2.2.2.1.length c.2.2.2.2.2.2 a2.flatten, c.2.2.2.2.1, F], [obj b0 97 [.map (some c.1), str a.2.1, .int .i64 a.2.2.1, .bool a.2.2.2.1], obj d 91 [.pointer (some ⟨b0, 0, none⟩), .int .i64 a.2.2.2.2.1, .slice c.2.2.1 a.2.2.2.2.2.1.length c.2.2.2.1, .int .i64 a.2.2.2.2.2.2.1, .int .i64 a.2.2.2.2.2.2.2.1, .int .i64 a.2.2.2.2.2.2.2.2.1, .int .i64 a.2.2.2.2.2.2.2.2.2.1, .int .i64 a.2.2.2.2.2.2.2.2.2.2.1, .int .i64 a.2.2.2.2.2.2.2.2.2.2.2.1, .slice c.2.2.2.2.2.1 a.2.2.2.2.2.2.2.2.2.2.2.2.1.length c.2.2.2.2.2.2, .bool a.2.2.2.2.2.2.2.2.2.2.2.2.2.1], obj n 23 [.int .i64 0], obj m 4 [.bool a.2.2.2.2.2.2.2.2.2.2.2.2.2.2], obj l 36 [.pointer (some ⟨d, 0, none⟩)], am (aj c.1 ao ak c.2.1) ai c.2.1 a.1, Row 3 1 c.2.2.1 a.2.2.2.2.2.1.length c.2.2.2.1 a1.flatten, Row 144 5 c.2.2.2.2.2.1 a.2.2.2.2.2.2.2.2.2.2.2.2.1.length c.2.2.2.2.2.2 a2.flatten, c.2.2.2.2.1, F], [obj b0 97 [.map (some γ.1), str g.2.2.1, .int .i64 g.2.2.2.1, .bool g.2.2.2.2], am (aj γ.1 ao ak γ.2) ai γ.2 g.2.1, obj d 91 [.pointer (some ⟨b0, 0, none⟩), .int .i64 a.2.2.2.2.1, .slice c.2.2.1 a.2.2.2.2.2.1.length c.2.2.2.1, .int .i64 a.2.2.2.2.2.2.1, .int .i64 a.2.2.2.2.2.2.2.1, .int .i64 a.2.2.2.2.2.2.2.2.1, .int .i64 a.2.2.2.2.2.2.2.2.2.1, .int .i64 a.2.2.2.2.2.2.2.2.2.2.1, .int .i64 a.2.2.2.2.2.2.2.2.2.2.2.1, .slice c.2.2.2.2.2.1 a.2.2.2.2.2.2.2.2.2.2.2.2.1.length c.2.2.2.2.2.2, .bool a.2.2.2.2.2.2.2.2.2.2.2.2.2.1], obj n 23 [.int .i64 0], obj m 4 [.bool a.2.2.2.2.2.2.2.2.2.2.2.2.2.2], obj l 36 [.pointer (some ⟨d, 0, none⟩)], Row 3 1 c.2.2.1 a.2.2.2.2.2.1.length c.2.2.2.1 a1.flatten, Row 144 5 c.2.2.2.2.2.1 a.2.2.2.2.2.2.2.2.2.2.2.2.1.length c.2.2.2.2.2.2 a2.flatten, c.2.2.2.2.1, F], [obj b0 97 [.map (some γ.1), str g.2.2.1, .int .i64 g.2.2.2.1, .bool g.2.2.2.2], am (aj γ.1 ao ak γ.2) ai γ.2 g.2.1, obj d 91 [.pointer (some ⟨b0, 0, none⟩), .int .i64 a.2.2.2.2.1, .slice c.2.2.1 a.2.2.2.2.2.1.length c.2.2.2.1, .int .i64 a.2.2.2.2.2.2.1, .int .i64 a.2.2.2.2.2.2.2.1, .int .i64 a.2.2.2.2.2.2.2.2.1, .int .i64 a.2.2.2.2.2.2.2.2.2.1, .int .i64 a.2.2.2.2.2.2.2.2.2.2.1, .int .i64 a.2.2.2.2.2.2.2.2.2.2.2.1, .slice c.2.2.2.2.2.1 a.2.2.2.2.2.2.2.2.2.2.2.2.1.length c.2.2.2.2.2.2, .bool a.2.2.2.2.2.2.2.2.2.2.2.2.2.1], obj n 23 [.int .i64 0], obj m 4 [.bool a.2.2.2.2.2.2.2.2.2.2.2.2.2.2], obj l 36 [.pointer (some ⟨d, 0, none⟩)], Row 3 1 c.2.2.1 a.2.2.2.2.2.1.length c.2.2.2.1 a1.flatten, Row 144 5 c.2.2.2.2.2.1 a.2.2.2.2.2.2.2.2.2.2.2.2.1.length c.2.2.2.2.2.2 a2.flatten, c.2.2.2.2.1, F]].getD j []) (fun γ => [(4, .pointer (some ⟨l, 0, none⟩)), (5, .pointer (some ⟨m, 0, none⟩)), (6, .pointer (some ⟨n, 0, none⟩))]) mixed (by decide) (by decide) (by decide) (by decide) (by decide) (by decide) (by decide) 116 O (by decide) (by decide) (by decide) (Ent.refl _) ?_ ?_ (fun _ => ⟨O, O, O, trivial⟩) ?_
 exact (ac (fun γ => (ac (qp O O (.o (s := 4) O (by decide) .nil) (ag O O isAgg36 (.obj 4 O O)) O) (ac (qp O O (.o (s := 4) O (by decide) .nil) (ag O O isAgg36 (.obj 4 O O)) O) zA))) (ac (fun γ => (ac (qp O O (.v 0 O O .nil) (aX O O) O) (ac (qp O O (.v 0 O O .nil) (aX O O) O) zA))) (ac (fun γ => (ac (qp O O (.v 1 O O .nil) (ar O O underlying91 O O sizeOf39 O) O) (ac (qp O O (.v 1 O O .nil) (ar O O underlying91 O O sizeOf39 O) O) zA))) (ac (fun γ => (ac (qp O O (.v 2 O O .nil) (ag O O isAgg39 (.obj 1 O O)) O) (ac (qp O O (.v 2 O O .nil) (ag O O isAgg39 (.obj 1 O O)) O) zA))) (aq O (fun γ => qp O O (.o (s := 4) O (by decide) .nil) (ag O O isAgg36 (.obj 4 O O)) O) (aq O (fun γ => qp O O (.v 4 O O .nil) (aX O O) O) (aq O (fun γ => qp O O (.v 5 O O .nil) (ar O O underlying91 O O sizeOf78 O) O) (aq O (fun γ => qp O O (.v 6 O O .nil) (ag O O isAgg78 (.obj 1 O O)) O) (aq O (fun γ => qp O O (.o (s := 4) O (by decide) .nil) (ag O O isAgg36 (.obj 4 O O)) O) (aq O (fun γ => qp O O (.v 8 O O .nil) (aX O O) O) (aq O (fun γ => qp O O (.v 9 O O .nil) (ar O O underlying91 O O sizeOf78 O) O) (aq O (fun γ => qp O O (.v 10 O O .nil) (ag O O isAgg78 (.obj 1 O O)) O) (aq O (fun γ => qp O O (.v 11 O O .nil) (bD O O O underlying78) O) (aq O (fun γ => qp O O (.v 12 O O .nil) (dc O O O) O) (aq O (fun γ => qp O O (.v 7 O O (.v 13 O O .nil)) (dC O O O c8 underlying78 sizeOf3 b4.1 b4.2) O) (aq O (fun γ => qp O O (.v 14 O O .nil) (ag O O isAgg3 (hcell138v 6 O 0 _ O)) O) zA))))))))))))))))
 exact (ac (fun γ => eo (Z := Unit) (fun z => γ) O O (.v 15 O O .nil) (av (val := fun (r : List UInt8) (y : Unit) => str r) (B := fun _ _ => []) (vs := [.int .i64 (a.2.2.2.2.2.1.getD (IntKind.i64.wrap ((a.2.2.2.2.2.1.length : Int) - 1)).toNat (0 : Int))]) (cap := []) (A := []) (rst := [obj b0 97 [.map (some c.1), str a.2.1, .int .i64 a.2.2.1, .bool a.2.2.2.1], obj d 91 [.pointer (some ⟨b0, 0, none⟩), .int .i64 a.2.2.2.2.1, .slice c.2.2.1 a.2.2.2.2.2.1.length c.2.2.2.1, .int .i64 a.2.2.2.2.2.2.1, .int .i64 a.2.2.2.2.2.2.2.1, .int .i64 a.2.2.2.2.2.2.2.2.1, .int .i64 a.2.2.2.2.2.2.2.2.2.1, .int .i64 a.2.2.2.2.2.2.2.2.2.2.1, .int .i64 a.2.2.2.2.2.2.2.2.2.2.2.1, .slice c.2.2.2.2.2.1 a.2.2.2.2.2.2.2.2.2.2.2.2.1.length c.2.2.2.2.2.2, .bool a.2.2.2.2.2.2.2.2.2.2.2.2.2.1], obj n 23 [.int .i64 0], obj m 4 [.bool a.2.2.2.2.2.2.2.2.2.2.2.2.2.2], obj l 36 [.pointer (some ⟨d, 0, none⟩)], am (aj c.1 ao ak c.2.1) ai c.2.1 a.1, Row 3 1 c.2.2.1 a.2.2.2.2.2.1.length c.2.2.2.1 a1.flatten, Row 144 5 c.2.2.2.2.2.1 a.2.2.2.2.2.2.2.2.2.2.2.2.1.length c.2.2.2.2.2.2 a2.flatten, c.2.2.2.2.1, F]) O O O O O O call47 (.sel 0 O (.sel 0 O (.sel 0 O (.sel 0 O (.sel 0 O (.sel 0 O (.sel 0 O (.sel 0 O (.sel 0 O (.sel 0 O (.nil _))))))))))) (cr.calls _ _ k (a.2.2.2.2.2.1.getD (IntKind.i64.wrap ((a.2.2.2.2.2.1.length : Int) - 1)).toNat (0 : Int)) (hgl.lend 9 O)) dl) (fun _ => ⟨O, O, O, O, O, O, O, O, O, O, O, O, O, O, O, O, trivial⟩) (fun _ => .inr O) (fun z => Ent.refl _)) (ac (fun γ => eo (Z := Nat × Kps) (fun z => z) O O (.v 3 O O (.v 16 O O .nil)) (av (vs := [.pointer (some ⟨b0, 0, none⟩), str bs]) (cap := []) (A := [obj b0 97 [.map (some c.1), str a.2.1, .int .i64 a.2.2.1, .bool a.2.2.2.1], am (aj c.1 ao ak c.2.1) ai c.2.1 a.1]) (rst := [obj d 91 [.pointer (some ⟨b0, 0, none⟩), .int .i64 a.2.2.2.2.1, .slice c.2.2.1 a.2.2.2.2.2.1.length c.2.2.2.1, .int .i64 a.2.2.2.2.2.2.1, .int .i64 a.2.2.2.2.2.2.2.1, .int .i64 a.2.2.2.2.2.2.2.2.1, .int .i64 a.2.2.2.2.2.2.2.2.2.1, .int .i64 a.2.2.2.2.2.2.2.2.2.2.1, .int .i64 a.2.2.2.2.2.2.2.2.2.2.2.1, .slice c.2.2.2.2.2.1 a.2.2.2.2.2.2.2.2.2.2.2.2.1.length c.2.2.2.2.2.2, .bool a.2.2.2.2.2.2.2.2.2.2.2.2.2.1], obj n 23 [.int .i64 0], obj m 4 [.bool a.2.2.2.2.2.2.2.2.2.2.2.2.2.2], obj l 36 [.pointer (some ⟨d, 0, none⟩)], Row 3 1 c.2.2.1 a.2.2.2.2.2.1.length c.2.2.2.1 a1.flatten, Row 144 5 c.2.2.2.2.2.1 a.2.2.2.2.2.2.2.2.2.2.2.2.1.length c.2.2.2.2.2.2 a2.flatten, c.2.2.2.2.1, F]) O O O O O O call46 (.sel 0 O (.sel 4 O (.sel 0 O (.sel 0 O (.sel 0 O (.sel 0 O (.sel 0 O (.sel 0 O (.sel 0 O (.sel 0 O (.nil _))))))))))) (cK.calls _ _ b0 c.1 c.2.1 a.1 a.2.1 a.2.2.1 a.2.2.2.1 bs ) ds) (fun _ => ⟨O, O, O, O, O, O, O, O, O, O, O, O, O, O, O, O, O, trivial⟩) (fun _ => .inr O) (fun z => Ent.refl _)) (ac (fun γ => eo (Z := Unit) (fun z => γ) O O (.v 17 O O .nil) (av (vs := [.int .i64 g.1]) (cap := []) (A := []) (rst := [obj b0 97 [.map (some γ.1), str g.2.2.1, .int .i64 g.2.2.2.1, .bool g.2.2.2.2], am (aj γ.1 ao ak γ.2) ai γ.2 g.2.1, obj d 91 [.pointer (some ⟨b0, 0, none⟩), .int .i64 a.2.2.2.2.1, .slice c.2.2.1 a.2.2.2.2.2.1.length c.2.2.2.1, .int .i64 a.2.2.2.2.2.2.1, .int .i64 a.2.2.2.2.2.2.2.1, .int .i64 a.2.2.2.2.2.2.2.2.1, .int .i64 a.2.2.2.2.2.2.2.2.2.1, .int .i64 a.2.2.2.2.2.2.2.2.2.2.1, .int .i64 a.2.2.2.2.2.2.2.2.2.2.2.1, .slice c.2.2.2.2.2.1 a.2.2.2.2.2.2.2.2.2.2.2.2.1.length c.2.2.2.2.2.2, .bool a.2.2.2.2.2.2.2.2.2.2.2.2.2.1], obj n 23 [.int .i64 0], obj m 4 [.bool a.2.2.2.2.2.2.2.2.2.2.2.2.2.2], obj l 36 [.pointer (some ⟨d, 0, none⟩)], Row 3 1 c.2.2.1 a.2.2.2.2.2.1.length c.2.2.2.1 a1.flatten, Row 144 5 c.2.2.2.2.2.1 a.2.2.2.2.2.2.2.2.2.2.2.2.1.length c.2.2.2.2.2.2 a2.flatten, c.2.2.2.2.1, F]) O O O O O O call43 (.sel 0 O (.sel 0 O (.sel 0 O (.sel 0 O (.sel 0 O (.sel 0 O (.sel 0 O (.sel 0 O (.sel 0 O (.sel 0 O (.nil _))))))))))) (bw.calls _ _ g.1 ) d1) (fun _ => ⟨O, O, O, O, O, O, O, O, O, O, O, O, O, O, O, O, O, O, trivial⟩) (fun _ => .inr O) (fun z => Ent.refl _)) zA)))
 intro u
 refine aa (ay ?_)
 refine bb (Γ := Unit) () [[], [], [0], [0, 1, 2], rL 4] [2, 3, 4] [0, 1] (fun i => [[0], [0, 1], [], [], []].getD i []) (fun i => [[], [], [0, 1], [0, 1, 2], rL 4].getD i []) (fun γ i => [.pointer (some ⟨d, 0, none⟩), .bool a.2.2.2.2.2.2.2.2.2.2.2.2.2.2, undef, undef, undef].getD i undef) (fun j γ => [[obj b0 97 [.map (some u.1), str g.2.2.1, .int .i64 g.2.2.2.1, .bool g.2.2.2.2], am (aj u.1 ao ak u.2) ai u.2 g.2.1, obj d 91 [.pointer (some ⟨b0, 0, none⟩), .int .i64 a.2.2.2.2.1, .slice c.2.2.1 a.2.2.2.2.2.1.length c.2.2.2.1, .int .i64 a.2.2.2.2.2.2.1, .int .i64 a.2.2.2.2.2.2.2.1, .int .i64 a.2.2.2.2.2.2.2.2.1, .int .i64 a.2.2.2.2.2.2.2.2.2.1, .int .i64 a.2.2.2.2.2.2.2.2.2.2.1, .int .i64 a.2.2.2.2.2.2.2.2.2.2.2.1, .slice c.2.2.2.2.2.1 a.2.2.2.2.2.2.2.2.2.2.2.2.1.length c.2.2.2.2.2.2, .bool a.2.2.2.2.2.2.2.2.2.2.2.2.2.1], obj n 23 [.int .i64 0], obj m 4 [.bool a.2.2.2.2.2.2.2.2.2.2.2.2.2.2], obj l 36 [.pointer (some ⟨d, 0, none⟩)], Row 3 1 c.2.2.1 a.2.2.2.2.2.1.length c.2.2.2.1 a1.flatten, Row 144 5 c.2.2.2.2.2.1 a.2.2.2.2.2.2.2.2.2.2.2.2.1.length c.2.2.2.2.2.2 a2.flatten, c.2.2.2.2.1, F], [obj b0 97 [.map (some u.1), str g.2.2.1, .int .i64 g.2.2.2.1, .bool g.2.2.2.2], am (aj u.1 ao ak u.2) ai u.2 g.2.1, obj d 91 [.pointer (some ⟨b0, 0, none⟩), .int .i64 a.2.2.2.2.1, .slice c.2.2.1 a.2.2.2.2.2.1.length c.2.2.2.1, .int .i64 a.2.2.2.2.2.2.1, .int .i64 a.2.2.2.2.2.2.2.1, .int .i64 a.2.2.2.2.2.2.2.2.1, .int .i64 a.2.2.2.2.2.2.2.2.2.1, .int .i64 a.2.2.2.2.2.2.2.2.2.2.1, .int .i64 a.2.2.2.2.2.2.2.2.2.2.2.1, .slice c.2.2.2.2.2.1 a.2.2.2.2.2.2.2.2.2.2.2.2.1.length c.2.2.2.2.2.2, .bool a.2.2.2.2.2.2.2.2.2.2.2.2.2.1], obj n 23 [.int .i64 0], obj m 4 [.bool a.2.2.2.2.2.2.2.2.2.2.2.2.2.2], obj l 36 [.pointer (some ⟨d, 0, none⟩)], Row 3 1 c.2.2.1 a.2.2.2.2.2.1.length c.2.2.2.1 a1.flatten, Row 144 5 c.2.2.2.2.2.1 a.2.2.2.2.2.2.2.2.2.2.2.2.1.length c.2.2.2.2.2.2 a2.flatten, c.2.2.2.2.1, F], [obj b0 97 [.map (some u.1), str g.2.2.1, .int .i64 g.2.2.2.1, .bool g.2.2.2.2], am (aj u.1 ao ak u.2) ai u.2 g.2.1, obj d 91 [.pointer (some ⟨b0, 0, none⟩), .int .i64 a.2.2.2.2.1, .slice c.2.2.1 a.2.2.2.2.2.1.length c.2.2.2.1, .int .i64 a.2.2.2.2.2.2.1, .int .i64 a.2.2.2.2.2.2.2.1, .int .i64 a.2.2.2.2.2.2.2.2.1, .int .i64 a.2.2.2.2.2.2.2.2.2.1, .int .i64 a.2.2.2.2.2.2.2.2.2.2.1, .int .i64 a.2.2.2.2.2.2.2.2.2.2.2.1, .slice c.2.2.2.2.2.1 a.2.2.2.2.2.2.2.2.2.2.2.2.1.length c.2.2.2.2.2.2, .bool a.2.2.2.2.2.2.2.2.2.2.2.2.2.1], obj n 23 [.int .i64 0], obj m 4 [.bool a.2.2.2.2.2.2.2.2.2.2.2.2.2.2], obj l 36 [.pointer (some ⟨d, 0, none⟩)], Row 3 1 c.2.2.1 a.2.2.2.2.2.1.length c.2.2.2.1 a1.flatten, Row 144 5 c.2.2.2.2.2.1 a.2.2.2.2.2.2.2.2.2.2.2.2.1.length c.2.2.2.2.2.2 a2.flatten, c.2.2.2.2.1, F], [obj b0 97 [.map (some u.1), str g.2.2.1, .int .i64 g.2.2.2.1, .bool g.2.2.2.2], am (aj u.1 ao ak u.2) ai u.2 g.2.1, obj d 91 [.pointer (some ⟨b0, 0, none⟩), .int .i64 a.2.2.2.2.1, .slice c.2.2.1 a.2.2.2.2.2.1.length c.2.2.2.1, .int .i64 a.2.2.2.2.2.2.1, .int .i64 a.2.2.2.2.2.2.2.1, .int .i64 a.2.2.2.2.2.2.2.2.1, .int .i64 a.2.2.2.2.2.2.2.2.2.1, .int .i64 a.2.2.2.2.2.2.2.2.2.2.1, .int .i64 a.2.2.2.2.2.2.2.2.2.2.2.1, .slice c.2.2.2.2.2.1 a.2.2.2.2.2.2.2.2.2.2.2.2.1.length c.2.2.2.2.2.2, .bool a.2.2.2.2.2.2.2.2.2.2.2.2.2.1], obj n 23 [.int .i64 0], obj m 4 [.bool a.2.2.2.2.2.2.2.2.2.2.2.2.2.2], obj l 36 [.pointer (some ⟨d, 0, none⟩)], Row 3 1 c.2.2.1 a.2.2.2.2.2.1.length c.2.2.2.1 a1.flatten, Row 144 5 c.2.2.2.2.2.1 a.2.2.2.2.2.2.2.2.2.2.2.2.1.length c.2.2.2.2.2.2 a2.flatten, c.2.2.2.2.1, F]].getD j []) (fun γ => [(4, .pointer (some ⟨l, 0, none⟩)), (5, .pointer (some ⟨m, 0, none⟩)), (6, .pointer (some ⟨n, 0, none⟩))]) mixed (by decide) (by decide) (by decide) (by decide) (by decide) (by decide) (by decide) 116 O (by decide) (by decide) (by decide) (Ent.refl _) ?_ ?_ (fun _ => ⟨O, O, O, trivial⟩) ?_
 exact (aq O (fun γ => qp O O (.o (s := 4) O (by decide) .nil) (ag O O isAgg36 (.obj 5 O O)) O) (ac (fun γ => (ac (qp O O (.o (s := 5) O (by decide) .nil) (ag O O isAgg4 (.obj 4 O O)) O) (ac (qp O O (.o (s := 5) O (by decide) .nil) (ag O O isAgg4 (.obj 4 O O)) O) zA))) zA))
 exact (ac (fun γ => eo (Z := Unit) (fun z => ()) O O (.o (s := 4) O (by decide) (.v 0 O O .nil)) (aH 5 O O O sizeOf36 O O (aM (by rfl)) O O) (fun _ => ⟨O, O, trivial⟩) (fun _ => .inl O) (fun z => Ent.refl _)) (ac (fun γ => eo (Z := Unit) (fun z => ()) O O (.o (s := 5) O (by decide) (.v 1 O O .nil)) (aH 4 O O O sizeOf4 O O (aM (by rfl)) O O) (fun _ => ⟨O, O, O, trivial⟩) (fun _ => .inl O) (fun z => Ent.refl _)) (ac (fun γ => eo (Z := Unit) (fun z => ()) O O (.o (s := 6) O (by decide) .nil) (aH 3 O O O sizeOf23 O O (aM (by rfl)) O O) (fun _ => ⟨O, O, O, O, trivial⟩) (fun _ => .inl O) (fun z => Ent.refl _)) zA)))
 intro g1
 refine aa (aA ?_)
 exact jQ (vs := [.pointer (some ⟨d, 0, none⟩), .bool a.2.2.2.2.2.2.2.2.2.2.2.2.2.2, .int .i64 0]) 40 [.pointer (some ⟨l, 0, none⟩), .pointer (some ⟨m, 0, none⟩), .pointer (some ⟨n, 0, none⟩)] (lK.quiet l m n) call40 (d, c.2.2.1, c.2.2.2.1, c.2.2.2.2.2.1, c.2.2.2.2.2.2, c.2.2.2.2.1, u.1, u.2) O ⟨⟨l, O, eZ isAgg36 (.obj 5 O O)⟩, ⟨m, O, eZ isAgg4 (.obj 4 O O)⟩, ⟨n, O, eZ isAgg23 (.obj 3 O O)⟩, trivial⟩ O (.when_yes O (.sel 2 O (.sel' 5 O (ap.mk b3) (.sel' 5 O (ap.mk c6) (.sel 5 O (.sel 0 O (.sel 0 O (.sel 3 O (.nil _)))))))))
theorem bC.callsT (W : World) (F : HA) (k : Nat) (b0 : Nat) (a : Nat) (b : Kps) (c : List ((List UInt8) × (List UInt8 × Int))) (d : List UInt8) (e : Int) (g : Bool) (x1 : Int) (hgl : Glb Tryz.prog F) :
    Fn Tryz.prog W 15 [.pointer (some ⟨b0, 0, none⟩), .int .i64 x1] [obj b0 97 [.map (some a), str d, .int .i64 e, .bool g], am (aj a ao ak b) ai b c] F ((bC.f k c d e g x1).filter fun (r : Bool × Int × List Int × Int × Int × Int × Int × Int × Int × (List (aG)) × Bool × Bool × Int × (List ((List UInt8) × (List UInt8 × Int))) × List UInt8 × Int × Bool) => r.1 == true) (fun (r : Bool × Int × List Int × Int × Int × Int × Int × Int × Int × (List (aG)) × Bool × Bool × Int × (List ((List UInt8) × (List UInt8 × Int))) × List UInt8 × Int × Bool) (y : Nat × Option Addr × Nat × Option Addr × Nat × HA × Nat × Kps) => .tuple #[.pointer (some ⟨y.1, 0, none⟩), .bool r.2.2.2.2.2.2.2.2.2.2.2.1, .int .i64 r.2.2.2.2.2.2.2.2.2.2.2.2.1]) (fun r y => [obj y.1 91 [.pointer (some ⟨b0, 0, none⟩), .int .i64 r.2.1, .slice y.2.1 r.2.2.1.length y.2.2.1, .int .i64 r.2.2.2.1, .int .i64 r.2.2.2.2.1, .int .i64 r.2.2.2.2.2.1, .int .i64 r.2.2.2.2.2.2.1, .int .i64 r.2.2.2.2.2.2.2.1, .int .i64 r.2.2.2.2.2.2.2.2.1, .slice y.2.2.2.1 r.2.2.2.2.2.2.2.2.2.1.length y.2.2.2.2.1, .bool r.2.2.2.2.2.2.2.2.2.2.1], ap 3 1 (V3 tt) y.2.1 r.2.2.1 y.2.2.1, ap 144 5 (aQ (y.2.2.2.2.2.1)) y.2.2.2.1 r.2.2.2.2.2.2.2.2.2.1 y.2.2.2.2.1, y.2.2.2.2.2.1, obj b0 97 [.map (some y.2.2.2.2.2.2.1), str r.2.2.2.2.2.2.2.2.2.2.2.2.2.2.1, .int .i64 r.2.2.2.2.2.2.2.2.2.2.2.2.2.2.2.1, .bool r.2.2.2.2.2.2.2.2.2.2.2.2.2.2.2.2], am (aj y.2.2.2.2.2.2.1 ao ak y.2.2.2.2.2.2.2) ai y.2.2.2.2.2.2.2 r.2.2.2.2.2.2.2.2.2.2.2.2.2.1]) :=
  Fn.when (bC.calls W F k b0 a b c d e g x1 hgl) _ true (fun r y h => by simp only [h]; rfl) (fun r y h => (Ent.when_yo h _))
theorem bC.callsN (W : World) (F : HA) (k : Nat) (b0 : Nat) (a : Nat) (b : Kps) (c : List ((List UInt8) × (List UInt8 × Int))) (d : List UInt8) (e : Int) (g : Bool) (x1 : Int) (hgl : Glb Tryz.prog F) :
    Fn Tryz.prog W 15 [.pointer (some ⟨b0, 0, none⟩), .int .i64 x1] [obj b0 97 [.map (some a), str d, .int .i64 e, .bool g], am (aj a ao ak b) ai b c] F ((bC.f k c d e g x1).filter fun (r : Bool × Int × List Int × Int × Int × Int × Int × Int × Int × (List (aG)) × Bool × Bool × Int × (List ((List UInt8) × (List UInt8 × Int))) × List UInt8 × Int × Bool) => r.1 == false) (fun (r : Bool × Int × List Int × Int × Int × Int × Int × Int × Int × (List (aG)) × Bool × Bool × Int × (List ((List UInt8) × (List UInt8 × Int))) × List UInt8 × Int × Bool) (y : Nat × Option Addr × Nat × Option Addr × Nat × HA × Nat × Kps) => .tuple #[.pointer none, .bool r.2.2.2.2.2.2.2.2.2.2.2.1, .int .i64 r.2.2.2.2.2.2.2.2.2.2.2.2.1]) (fun r y => [obj b0 97 [.map (some y.2.2.2.2.2.2.1), str r.2.2.2.2.2.2.2.2.2.2.2.2.2.2.1, .int .i64 r.2.2.2.2.2.2.2.2.2.2.2.2.2.2.2.1, .bool r.2.2.2.2.2.2.2.2.2.2.2.2.2.2.2.2], am (aj y.2.2.2.2.2.2.1 ao ak y.2.2.2.2.2.2.2) ai y.2.2.2.2.2.2.2 r.2.2.2.2.2.2.2.2.2.2.2.2.2.1]) :=
  Fn.when (bC.calls W F k b0 a b c d e g x1 hgl) _ false (fun r y h => by simp only [h]; rfl) (fun r y h => (Ent.when_no_ h _))

def cl.f (x0 : Int) : Option (Int) := some x0
theorem cl.calls (W : World) (F : HA) (x0 : Int)  :
    Fn Tryz.prog W 13 [.int .i64 x0] [] F (cl.f x0) (fun (r : Int) (y : Unit) => .int .i64 r) (fun r y => []) := by
 unfold cl.f
 refine aN 4 Tryz.func13 O Tryz.ntmps13 O ?_
 refine sr ?_
 refine va O O (nx ?_)
 refine vm O O ?_
 refine va O O (ae (aa (aA ?_)))
 exact aD () O O O (.sel 0 O (.nil _))

def bX.f (x0 : List UInt8) : Option (List UInt8) := if (([] : List UInt8).length + x0.length) * 1 ≤ 140737488355328 then (some (([] : List UInt8) ++ x0)) else none
theorem bX.calls (W : World) (F : HA) (a0 : Option Addr) (c0 : Nat) (x0 : List UInt8) (h0 : Rd F a0 (ax x0)) (c : x0.length ≤ c0) (d : c0 ≤ maxLen) :
    Fn Tryz.prog W 82 [.slice a0 x0.length c0] [] F (bX.f x0) (fun (r : List UInt8) (y : Option Addr × Nat) => .slice y.1 r.length y.2) (fun r y => [Row 5 1 y.1 r.length y.2 (ax r)]) := by
 unfold bX.f
 refine aN 8 Tryz.func82 O Tryz.ntmps82 O ?_
 rcases a0 with _ | p0
 have hx : x0 = [] := sJ h0
 subst hx
 refine df (o' := some ([] : List UInt8)) (by simp) ?_
 refine sr ?_
 refine va O O (ae (aa (ay (sr ?_))))
 refine vm O O ?_
 refine vq (om O O underlying33) O (ae (aa ?_))
 refine eM O ?_
 refine sr ?_
 refine va O O (ae (aa (aA ?_)))
 refine aK ?_
 exact aD (none, 0) O O O (.row_nil (.sel 0 O (.nil _)))
 refine sr ?_
 refine va O O (ae (aa (ay (sr ?_))))
 refine vm O O ?_
 refine vq (oo O O underlying33) O (ae (aa ?_))
 refine fx O ?_
 refine aC ?_
 refine aa (sr ?_)
 refine ah (sK O underlying33 fV) O O O ?_
 intro e
 refine vm O O ?_
 refine bh (fun b => ?_)
 refine ah (eG 0 O O O underlying33 fV O (h0.rds 0 O) b) O O O ?_
 intro a
 refine va O O (ae (aa (aA ?_)))
 exact aD (a.1, a.2) O O O (.sel 0 O (.sel 0 O (.nil _)))

def bA.l1 (b : List (bz)) : Nat → Int → Int → Int → Option ((Unit) ⊕ (Int))
  | 0, _, _, _ => none
  | k + 1, c, d, a => if a < (b.length : Int) then (if 0 ≤ a ∧ a < (b.length : Int) then (if IntKind.i64.wrap (d + 1) < (b.getD a.toNat aL).2.1 then (some (.inr 13)) else (bA.l1 b k (min c (IntKind.i64.wrap (((b.getD a.toNat aL).2.1) - 1))) ((b.getD a.toNat aL).2.1) (IntKind.i64.wrap (a + 1)))) else none) else (some (.inl ()))
def bA.l0 (b : List (bz)) : Nat → Int → Option ((Unit) ⊕ (Int))
  | 0, _ => none
  | k + 1, a => if a < (b.length : Int) then (if 0 ≤ a ∧ a < (b.length : Int) then ((bq.f ((b.getD a.toNat aL).1) ((b.getD a.toNat aL).2.1) ((b.getD a.toNat aL).2.2.1) ((b.getD a.toNat aL).2.2.2)).bind fun c => (if c = (0 : Int) then (bA.l0 b k (IntKind.i64.wrap (a + 1))) else (some (.inr c)))) else none) else (some (.inl ()))
def bA.f (k : Nat) (e : List ((List UInt8) × (List UInt8 × Int))) (g : List UInt8) (h : Int) (i : Bool) (j : Int) (l : List Int) (m : Int) (n : Int) (o : Int) (p : Int) (b : Int) (q : Int) (r : List (aG)) (d : Bool) (v : Bool) (w : Int) (x : Int) (y : Int) (a : Int) (c : Int) (s : List (bz)) : Option (Int) := orR (if v = true then ((cR.f w x y).bind fun u => (if u = (0 : Int) then (some (.inl ())) else (some (.inr u)))) else (some (.inl ()))) fun al => (if (((((decide (a < (0 : Int))) || (decide ((4611686018427387904 : Int) < a))) || (decide (c < (0 : Int)))) || (decide ((4611686018427387904 : Int) < c))) || (!((decide (a = (0 : Int))) == (decide (c = (0 : Int)))))) = true then (some 1) else (orR (bA.l0 s k 0) fun ad => ((cA.f e g h i j l m n o p b q r d).bind fun z => (((if ((!decide (a = (0 : Int))) == true) = true then (cJ.f e g h i j l m n o p b q r d a c) else some false).bind fun ab => (if ((!decide (a = (0 : Int))) && (!ab)) = true then (some (a, a)) else (some (b, z.1)))).bind fun t => (orR (bA.l1 s k t.1 t.2 0) fun af => (some 0))))))
theorem bA.calls (W : World) (F : HA) (k : Nat) (n : Nat) (x : Nat) (d : Nat) (e : Kps) (z : List ((List UInt8) × (List UInt8 × Int))) (ab : List UInt8) (ad : Int) (af : Bool) (al : Int) (an : Option Addr) (u : Nat) (p : List Int) (az : Int) (a0 : Int) (a1 : Int) (a2 : Int) (q : Int) (a3 : Int) (a4 : Option Addr) (w : Nat) (t : List (aG)) (m : Bool) (br : Bool) (a7 : Int) (a8 : Int) (a9 : Int) (a : Int) (g : Int) (bc : Option Addr) (a6 : Nat) (c : List (bz)) (b7 : RdV F 1 (V3 tt) an p) (b0 : p.length ≤ u) (b1 : u ≤ maxLen) (b8 : RdV F 5 (aQ F) a4 t) (b2 : t.length ≤ w) (b3 : w ≤ maxLen) (c0 : RdV F 4 (V35 F) bc c) (e0 : c.length ≤ a6) (e1 : a6 ≤ maxLen) :
    Fn Tryz.prog W 48 [.pointer (some ⟨n, 0, none⟩), .agg #[.bool br, .int .i64 a7, .int .i64 a8, .int .i64 a9, .int .i64 a, .int .i64 g, .slice bc c.length a6]] [obj x 97 [.map (some d), str ab, .int .i64 ad, .bool af], am (aj d ao ak e) ai e z, obj n 91 [.pointer (some ⟨x, 0, none⟩), .int .i64 al, .slice an p.length u, .int .i64 az, .int .i64 a0, .int .i64 a1, .int .i64 a2, .int .i64 q, .int .i64 a3, .slice a4 t.length w, .bool m]] F (bA.f k z ab ad af al p az a0 a1 a2 q a3 t m br a7 a8 a9 a g c) (fun (r : Int) (y : Unit) => .int .i64 r) (fun r y => [obj x 97 [.map (some d), str ab, .int .i64 ad, .bool af], am (aj d ao ak e) ai e z, obj n 91 [.pointer (some ⟨x, 0, none⟩), .int .i64 al, .slice an p.length u, .int .i64 az, .int .i64 a0, .int .i64 a1, .int .i64 a2, .int .i64 q, .int .i64 a3, .slice a4 t.length w, .bool m]]) := by
 unfold bA.f
 refine aN 114 Tryz.func48 O Tryz.ntmps48 O ?_
 refine sr ?_
 refine ah (cy O O O) O O O ?_
 intro l
 refine va O O (ae (aa ?_))
 refine gp (S := Unit) (Unit) (fun s y => [(0, .pointer (some ⟨n, 0, none⟩)), (3, .pointer (some ⟨l, 0, none⟩))]) (fun s y => [obj l 45 [.bool br, .int .i64 a7, .int .i64 a8, .int .i64 a9, .int .i64 a, .int .i64 g, .slice bc c.length a6], obj x 97 [.map (some d), str ab, .int .i64 ad, .bool af], obj n 91 [.pointer (some ⟨x, 0, none⟩), .int .i64 al, .slice an p.length u, .int .i64 az, .int .i64 a0, .int .i64 a1, .int .i64 a2, .int .i64 q, .int .i64 a3, .slice a4 t.length w, .bool m], am (aj d ao ak e) ai e z, F]) ?_ ?_
 refine sr ?_
 refine vq (ar O O underlying45 O O sizeOf4 O) O ?_
 refine vq (ag O O isAgg4 (.obj 0 O O)) O (ae (aa ?_))
 refine aY O (fun hs => ?_) (fun ht => ?_)
 refine sr ?_
 refine vq (cx (v := .agg #[]) O O (fun _ => by kernel_rfl)) O ?_
 refine vq (ar O O underlying45 O O sizeOf43 O) O ?_
 refine vq (cf (vs := [.int .i64 a7, .int .i64 a8, .int .i64 a9]) O O isAgg43 sizeOf43 O (cM 0 O (cz O))) O ?_
 refine aw (fun hu ei => ?_)
 refine ah (av (vs := [.agg #[], .agg #[.int .i64 a7, .int .i64 a8, .int .i64 a9]]) (cap := []) (A := []) (rst := [obj l 45 [.bool br, .int .i64 a7, .int .i64 a8, .int .i64 a9, .int .i64 a, .int .i64 g, .slice bc c.length a6], obj x 97 [.map (some d), str ab, .int .i64 ad, .bool af], am (aj d ao ak e) ai e z, obj n 91 [.pointer (some ⟨x, 0, none⟩), .int .i64 al, .slice an p.length u, .int .i64 az, .int .i64 a0, .int .i64 a1, .int .i64 a2, .int .i64 q, .int .i64 a3, .slice a4 t.length w, .bool m], F]) O O O O O O call78 (.sel 0 O (.sel 0 O (.sel 0 O (.sel 0 O (.sel 0 O (.nil _)))))) (cR.calls _ _ a7 a8 a9 ) ei) O O O ?_
 intro hv
 refine va O O (nx ?_)
 refine vm O O ?_
 refine vq (cZ O O O) O (ae (aa ?_))
 refine cS O (fun hw => ?_) (fun fz => ?_)
 refine aC ?_
 exact fW (s := ()) () ⟨O, O, trivial⟩ (.sel 0 O (.sel 0 O (.sel 1 O (.sel 0 O (.sel 0 O (.nil _))))))
 refine sr ?_
 refine vm O O ?_
 refine va O O (ae (aa (aA ?_)))
 refine fa ?_
 exact aD () O O O (.sel 1 O (.sel 1 O (.sel 1 O (.sel 1 O (.nil _)))))
 refine aC ?_
 exact fW (s := ()) () ⟨O, O, trivial⟩ (.sel 0 O (.sel 0 O (.sel 1 O (.sel 0 O (.sel 0 O (.nil _))))))
 intro hx hy
 refine ay (sr ?_)
 refine vq (ar O O underlying45 O O sizeOf3 O) O ?_
 refine vq (ag O O isAgg3 (.obj 0 O O)) O ?_
 refine vq (cH O O O) O ?_
 refine vm O O ?_
 refine au (b := decide (a < (0 : Int))) (fun er => RQ.sub (E' := [(3, .pointer (some ⟨l, 0, none⟩))]) ⟨O, trivial⟩ (ar O O underlying45 O O sizeOf3 O)) O O O O O ?_
 refine au (b := decide (a < (0 : Int))) (fun c1 => RQ.sub (E' := [(27, .pointer (some ⟨l, 4, none⟩))]) ⟨aE O c1, trivial⟩ (ag O O isAgg3 (.obj 0 O O))) O O O O O ?_
 refine au (b := decide (a < (0 : Int))) (fun c4 => RQ.sub (E' := [(28, .int .i64 a)]) ⟨aE O c4, trivial⟩ (cI O O O)) O O O O O ?_
 refine vq (ex O O O) O ?_
 refine vm O O ?_
 refine au (b := (decide (a < (0 : Int))) || (decide ((4611686018427387904 : Int) < a))) (fun e2 => RQ.sub (E' := [(3, .pointer (some ⟨l, 0, none⟩))]) ⟨O, trivial⟩ (ar O O underlying45 O O sizeOf3 O)) O O O O O ?_
 refine au (b := (decide (a < (0 : Int))) || (decide ((4611686018427387904 : Int) < a))) (fun c5 => RQ.sub (E' := [(32, .pointer (some ⟨l, 5, none⟩))]) ⟨aE O c5, trivial⟩ (ag O O isAgg3 (.obj 0 O O))) O O O O O ?_
 refine au (b := (decide (a < (0 : Int))) || (decide ((4611686018427387904 : Int) < a))) (fun c6 => RQ.sub (E' := [(33, .int .i64 g)]) ⟨aE O c6, trivial⟩ (cH O O O)) O O O O O ?_
 refine vq (ex O O O) O ?_
 refine vm O O ?_
 refine au (b := ((decide (a < (0 : Int))) || (decide ((4611686018427387904 : Int) < a))) || (decide (g < (0 : Int)))) (fun e3 => RQ.sub (E' := [(3, .pointer (some ⟨l, 0, none⟩))]) ⟨O, trivial⟩ (ar O O underlying45 O O sizeOf3 O)) O O O O O ?_
 refine au (b := ((decide (a < (0 : Int))) || (decide ((4611686018427387904 : Int) < a))) || (decide (g < (0 : Int)))) (fun c7 => RQ.sub (E' := [(37, .pointer (some ⟨l, 5, none⟩))]) ⟨aE O c7, trivial⟩ (ag O O isAgg3 (.obj 0 O O))) O O O O O ?_
 refine au (b := ((decide (a < (0 : Int))) || (decide ((4611686018427387904 : Int) < a))) || (decide (g < (0 : Int)))) (fun c8 => RQ.sub (E' := [(38, .int .i64 g)]) ⟨aE O c8, trivial⟩ (cI O O O)) O O O O O ?_
 refine vq (ex O O O) O ?_
 refine vm O O ?_
 refine au (b := (((decide (a < (0 : Int))) || (decide ((4611686018427387904 : Int) < a))) || (decide (g < (0 : Int)))) || (decide ((4611686018427387904 : Int) < g))) (fun e4 => RQ.sub (E' := [(3, .pointer (some ⟨l, 0, none⟩))]) ⟨O, trivial⟩ (ar O O underlying45 O O sizeOf3 O)) O O O O O ?_
 refine au (b := (((decide (a < (0 : Int))) || (decide ((4611686018427387904 : Int) < a))) || (decide (g < (0 : Int)))) || (decide ((4611686018427387904 : Int) < g))) (fun c9 => RQ.sub (E' := [(42, .pointer (some ⟨l, 4, none⟩))]) ⟨aE O c9, trivial⟩ (ag O O isAgg3 (.obj 0 O O))) O O O O O ?_
 refine au (b := (((decide (a < (0 : Int))) || (decide ((4611686018427387904 : Int) < a))) || (decide (g < (0 : Int)))) || (decide ((4611686018427387904 : Int) < g))) (fun dl => RQ.sub (E' := [(43, .int .i64 a)]) ⟨aE O dl, trivial⟩ (bI O O O)) O O O O O ?_
 refine au (b := (((decide (a < (0 : Int))) || (decide ((4611686018427387904 : Int) < a))) || (decide (g < (0 : Int)))) || (decide ((4611686018427387904 : Int) < g))) (fun e5 => RQ.sub (E' := [(3, .pointer (some ⟨l, 0, none⟩))]) ⟨O, trivial⟩ (ar O O underlying45 O O sizeOf3 O)) O O O O O ?_
 refine au (b := (((decide (a < (0 : Int))) || (decide ((4611686018427387904 : Int) < a))) || (decide (g < (0 : Int)))) || (decide ((4611686018427387904 : Int) < g))) (fun ds => RQ.sub (E' := [(45, .pointer (some ⟨l, 5, none⟩))]) ⟨aE O ds, trivial⟩ (ag O O isAgg3 (.obj 0 O O))) O O O O O ?_
 refine au (b := (((decide (a < (0 : Int))) || (decide ((4611686018427387904 : Int) < a))) || (decide (g < (0 : Int)))) || (decide ((4611686018427387904 : Int) < g))) (fun d1 => RQ.sub (E' := [(46, .int .i64 g)]) ⟨aE O d1, trivial⟩ (bI O O O)) O O O O O ?_
 refine au (b := (((decide (a < (0 : Int))) || (decide ((4611686018427387904 : Int) < a))) || (decide (g < (0 : Int)))) || (decide ((4611686018427387904 : Int) < g))) (fun b9 => RQ.sub (E' := [(44, .bool (decide (a = (0 : Int)))), (47, .bool (decide (g = (0 : Int))))]) ⟨aE O b9, aE O b9, trivial⟩ (sw O O O underlying4)) O O O O O ?_
 refine vq (ex O O O) O (ae (aa ?_))
 refine aY O (fun go => ?_) (fun gs => ?_)
 refine sr ?_
 refine va O O (ae (aa (aA ?_)))
 refine aK ?_
 exact aD () O O O (.sel 1 O (.sel 2 O (.sel 1 O (.sel 1 O (.nil _)))))
 refine aC ?_
 refine aa ?_
 refine gp (S := Unit) (Unit) (fun s y => [(0, .pointer (some ⟨n, 0, none⟩)), (3, .pointer (some ⟨l, 0, none⟩))]) (fun s y => [obj l 45 [.bool br, .int .i64 a7, .int .i64 a8, .int .i64 a9, .int .i64 a, .int .i64 g, .slice bc c.length a6], obj x 97 [.map (some d), str ab, .int .i64 ad, .bool af], obj n 91 [.pointer (some ⟨x, 0, none⟩), .int .i64 al, .slice an p.length u, .int .i64 az, .int .i64 a0, .int .i64 a1, .int .i64 a2, .int .i64 q, .int .i64 a3, .slice a4 t.length w, .bool m], am (aj d ao ak e) ai e z, F]) ?_ ?_
 refine sr ?_
 refine vq (ar O O underlying45 O O sizeOf32 O) O ?_
 refine vq (ag O O isAgg32 (.obj 0 O O)) O ?_
 refine vq (bD O O O underlying32) O ?_
 refine vm O O (ae (aa ?_))
 refine aT ?_
 refine cC (S := Int) (Unit) (fun k s => bA.l0 c k s) (fun s y => [(0, .pointer (some ⟨n, 0, none⟩)), (3, .pointer (some ⟨l, 0, none⟩)), (51, .slice bc c.length a6), (52, .int .i64 (c.length : Int)), (53, .int .i64 s)]) (fun s y => [obj l 45 [.bool br, .int .i64 a7, .int .i64 a8, .int .i64 a9, .int .i64 a, .int .i64 g, .slice bc c.length a6], obj x 97 [.map (some d), str ab, .int .i64 ad, .bool af], obj n 91 [.pointer (some ⟨x, 0, none⟩), .int .i64 al, .slice an p.length u, .int .i64 az, .int .i64 a0, .int .i64 a1, .int .i64 a2, .int .i64 q, .int .i64 a3, .slice a4 t.length w, .bool m], am (aj d ao ak e) ai e z, F]) (fun _ => by rw [bA.l0]) ?_ k 0 () ⟨O, O, O, O, O, trivial⟩ (.sel 0 O (.sel 0 O (.sel 0 O (.sel 0 O (.sel 0 O (.nil _))))))
 intro k be gy
 refine df (by rw [bA.l0]) ?_
 refine sr ?_
 refine vq (cH O O O) O (ae (aa (ay ?_)))
 refine bf O (fun g0 => ?_) (fun g1 => ?_)
 refine aC ?_
 refine aa (ay ?_)
 refine aT ?_
 refine sr ?_
 refine bh (fun cd => ?_)
 obtain ⟨g2, e6, g3, d2, d3, es, hcell27v⟩ := RdV.pos c0 (Up.refl _) rfl (i := be.toNat) (by omega) aL
 obtain ⟨b4, b5, rfl, ⟨d4, d5, d6⟩⟩ := d3
 refine vq (dC O O O d2 underlying32 sizeOf35 cd.1 cd.2) O ?_
 refine vq (cf O O isAgg35 sizeOf35 O (fun j v hj => hcell27v 4 O j v hj)) O ?_
 refine ah (bL O zeroValue35 O) O O O ?_
 intro ek
 refine aU (aH 0 O O O sizeOf35 O O (aM (by rfl)) O O) O O ?_
 intro _
 refine nx ?_
 refine vq (cx (v := .agg #[]) O O (fun _ => by kernel_rfl)) O ?_
 refine vq (bU 0 O O isAgg35 sizeOf35 O O) O ?_
 refine aw (fun g4 d7 => ?_)
 refine ah (av (vs := [.agg #[], .agg #[.int .i64 ((c.getD be.toNat aL).1), .int .i64 ((c.getD be.toNat aL).2.1), .int .i64 ((c.getD be.toNat aL).2.2.1), .slice b4 (((c.getD be.toNat aL).2.2.2).length) b5]]) (cap := []) (A := []) (rst := [obj ek 35 [.int .i64 ((c.getD be.toNat aL).1), .int .i64 ((c.getD be.toNat aL).2.1), .int .i64 ((c.getD be.toNat aL).2.2.1), .slice b4 (((c.getD be.toNat aL).2.2.2).length) b5], obj l 45 [.bool br, .int .i64 a7, .int .i64 a8, .int .i64 a9, .int .i64 a, .int .i64 g, .slice bc c.length a6], obj x 97 [.map (some d), str ab, .int .i64 ad, .bool af], obj n 91 [.pointer (some ⟨x, 0, none⟩), .int .i64 al, .slice an p.length u, .int .i64 az, .int .i64 a0, .int .i64 a1, .int .i64 a2, .int .i64 q, .int .i64 a3, .slice a4 t.length w, .bool m], am (aj d ao ak e) ai e z, F]) O O O O O O call79 (.sel 0 O (.sel 0 O (.sel 0 O (.sel 0 O (.sel 0 O (.sel 0 O (.nil _))))))) (bq.calls _ _ ((c.getD be.toNat aL).1) ((c.getD be.toNat aL).2.1) ((c.getD be.toNat aL).2.2.1) b4 b5 ((c.getD be.toNat aL).2.2.2) (d4.lend 5 O) d5 d6) d7) O O O ?_
 intro g5
 refine va O O (nx ?_)
 refine vm O O ?_
 refine vq (cZ O O O) O (ae (aa ?_))
 refine cS O (fun g6 => ?_) (fun g7 => ?_)
 refine aC ?_
 refine bv (aa (aJ ?_))
 refine vq (cb O O O) O ?_
 refine vm O O (ae ?_)
 exact bV (s := IntKind.i64.wrap (be + 1)) () ⟨O, O, O, O, O, trivial⟩ (.sel 1 O (.sel 1 O (.sel 1 O (.sel 1 O (.sel 1 O (.nil _))))))
 refine sr ?_
 refine vm O O ?_
 refine va O O (ae (aa (aA ?_)))
 refine bi ?_
 refine aK ?_
 refine fb ?_
 refine bi ?_
 refine fa ?_
 exact aD () O O O (.sel 2 O (.sel 3 O (.sel 2 O (.sel 2 O (.nil _)))))
 refine cN ?_
 refine ct ?_
 refine cD ?_
 refine cu ?_
 exact fW (s := ()) () ⟨O, O, trivial⟩ (.sel 0 O (.sel 0 O (.sel 0 O (.sel 0 O (.sel 0 O (.nil _))))))
 intro g8 g9
 refine sr ?_
 refine vm O O ?_
 refine vn O O ?_
 refine vq (ar O O underlying91 O O sizeOf89 O) O ?_
 refine vq (ar O O underlying89 O O sizeOf3 O) O ?_
 refine vq (ag O O isAgg3 (.obj 2 O O)) O ?_
 refine va O O (nx ?_)
 refine vm O O ?_
 refine vn O O ?_
 refine vq (ar O O underlying91 O O sizeOf89 O) O ?_
 refine aw (fun c2 d8 => ?_)
 refine ah (av (vs := [.pointer (some ⟨n, 4, none⟩)]) (cap := []) (A := [obj x 97 [.map (some d), str ab, .int .i64 ad, .bool af], am (aj d ao ak e) ai e z, obj n 91 [.pointer (some ⟨x, 0, none⟩), .int .i64 al, .slice an p.length u, .int .i64 az, .int .i64 a0, .int .i64 a1, .int .i64 a2, .int .i64 q, .int .i64 a3, .slice a4 t.length w, .bool m]]) (rst := [obj l 45 [.bool br, .int .i64 a7, .int .i64 a8, .int .i64 a9, .int .i64 a, .int .i64 g, .slice bc c.length a6], F]) O O O O O O call61 (.sel 1 O (.sel 2 O (.sel 1 O (.sel 0 O (.sel 0 O (.nil _)))))) (cA.calls _ _ n x d e z ab ad af al an u p az a0 a1 a2 q a3 a4 w t m (b7.up (Up.lend 1 O) (fun _ _ h => h)) b0 b1 (b8.up (Up.lend 1 O) (aQ.up (Up.lend 1 O))) b2 b3) d8) O O O ?_
 intro ha
 refine vm O O ?_
 refine vq (bu O O O) O ?_
 refine vq (bu O O O) O ?_
 refine va O O ?_
 refine va O O (ae (aa ?_))
 refine bE (S := Int × Int) (Unit) (fun s y => [(3, .pointer (some ⟨l, 0, none⟩)), (9, .int .i64 s.1), (10, .int .i64 s.2)]) (fun s y => [obj x 97 [.map (some d), str ab, .int .i64 ad, .bool af], obj n 91 [.pointer (some ⟨x, 0, none⟩), .int .i64 al, .slice an p.length u, .int .i64 az, .int .i64 a0, .int .i64 a1, .int .i64 a2, .int .i64 q, .int .i64 a3, .slice a4 t.length w, .bool m], obj l 45 [.bool br, .int .i64 a7, .int .i64 a8, .int .i64 a9, .int .i64 a, .int .i64 g, .slice bc c.length a6], am (aj d ao ak e) ai e z, F]) ?_ ?_
 refine ay ?_
 refine bp (fun bs ch => ?_)
 refine bb (Γ := Unit) () [[], [0], [0, 1], [0, 1, 2], rL 4, rL 5, rL 6, rL 4, [0, 1, 2, 3, 7], rL 4, [0, 1, 2, 3, 9], rL 11, rL 12, rL 13] [] [0, 1, 2, 3, 4, 5, 6, 7, 8, 9, 10, 11, 12, 13] (fun i => [[0], [0], [0], [0], [0], [0], [0], [0], [0], [0], [0], [0], [0], [0]].getD i []) (fun i => [[], [], [], [], [], [], [], [], [], [], [], [], [], []].getD i []) (fun γ i => [.pointer (some ⟨l, 4, none⟩), .int .i64 a, .bool (!decide (a = (0 : Int))), .bool (!decide (a = (0 : Int))), cv ((!decide (a = (0 : Int))) == true) (.pointer (some ⟨n, 0, none⟩)), cv ((!decide (a = (0 : Int))) == true) (.pointer (some ⟨n, 0, none⟩)), cv ((!decide (a = (0 : Int))) == true) (.pointer (some ⟨n, 4, none⟩)), cv ((!decide (a = (0 : Int))) == true) (.pointer (some ⟨l, 4, none⟩)), cv ((!decide (a = (0 : Int))) == true) (.int .i64 a), cv ((!decide (a = (0 : Int))) == true) (.pointer (some ⟨l, 5, none⟩)), cv ((!decide (a = (0 : Int))) == true) (.int .i64 g), cv ((!decide (a = (0 : Int))) == true) (.bool bs), cv ((!decide (a = (0 : Int))) == true) (.bool (!bs)), .bool ((!decide (a = (0 : Int))) && (!bs))].getD i undef) (fun j γ => [[obj x 97 [.map (some d), str ab, .int .i64 ad, .bool af], am (aj d ao ak e) ai e z, obj n 91 [.pointer (some ⟨x, 0, none⟩), .int .i64 al, .slice an p.length u, .int .i64 az, .int .i64 a0, .int .i64 a1, .int .i64 a2, .int .i64 q, .int .i64 a3, .slice a4 t.length w, .bool m], obj l 45 [.bool br, .int .i64 a7, .int .i64 a8, .int .i64 a9, .int .i64 a, .int .i64 g, .slice bc c.length a6], F]].getD j []) (fun γ => [(3, .pointer (some ⟨l, 0, none⟩)), (9, .int .i64 q), (10, .int .i64 c2.1), (89, .bool ((!decide (a = (0 : Int))) && (!bs)))]) mixed (by decide) (by decide) (by decide) (by decide) (by decide) (by decide) (by decide) 114 O (by decide) (by decide) (by decide) (Ent.refl _) ?_ ?_ (fun _ => ⟨O, O, O, O, trivial⟩) ?_
 exact (aq O (fun γ => qp O O (.o (s := 3) O (by decide) .nil) (ar O O underlying45 O O sizeOf3 O) O) (aq O (fun γ => qp O O (.v 0 O O .nil) (ag O O isAgg3 (.obj 3 O O)) O) (aq O (fun γ => qp O O (.v 1 O O .nil) (cZ O O O) O) (aq O (fun γ => qm O (.v 2 O O .nil) O) (aq O (fun γ => QOb.grd (b := !decide (a = (0 : Int))) [(0, .pointer (some ⟨n, 0, none⟩)), (79, .bool (!decide (a = (0 : Int))))] O O O O (.o (s := 0) O (by decide) (.v 3 O O .nil)) (fun e7 => RQ.sub (E' := [(0, .pointer (some ⟨n, 0, none⟩))]) ⟨O, trivial⟩ (ba O O)) O) (aq O (fun γ => QOb.grd (b := !decide (a = (0 : Int))) [(79, .bool (!decide (a = (0 : Int)))), (80, cv ((!decide (a = (0 : Int))) == true) (.pointer (some ⟨n, 0, none⟩)))] O O O O (.v 3 O O (.v 4 O O .nil)) (fun d9 => RQ.sub (E' := [(80, .pointer (some ⟨n, 0, none⟩))]) ⟨aE O d9, trivial⟩ (aX O O)) O) (aq O (fun γ => QOb.grd (b := !decide (a = (0 : Int))) [(79, .bool (!decide (a = (0 : Int)))), (81, cv ((!decide (a = (0 : Int))) == true) (.pointer (some ⟨n, 0, none⟩)))] O O O O (.v 3 O O (.v 5 O O .nil)) (fun ea => RQ.sub (E' := [(81, .pointer (some ⟨n, 0, none⟩))]) ⟨aE O ea, trivial⟩ (ar O O underlying91 O O sizeOf89 O)) O) (aq O (fun γ => QOb.grd (b := !decide (a = (0 : Int))) [(3, .pointer (some ⟨l, 0, none⟩)), (79, .bool (!decide (a = (0 : Int))))] O O O O (.o (s := 3) O (by decide) (.v 3 O O .nil)) (fun e8 => RQ.sub (E' := [(3, .pointer (some ⟨l, 0, none⟩))]) ⟨O, trivial⟩ (ar O O underlying45 O O sizeOf3 O)) O) (aq O (fun γ => QOb.grd (b := !decide (a = (0 : Int))) [(79, .bool (!decide (a = (0 : Int)))), (83, cv ((!decide (a = (0 : Int))) == true) (.pointer (some ⟨l, 4, none⟩)))] O O O O (.v 3 O O (.v 7 O O .nil)) (fun eb => RQ.sub (E' := [(83, .pointer (some ⟨l, 4, none⟩))]) ⟨aE O eb, trivial⟩ (ag O O isAgg3 (.obj 3 O O))) O) (aq O (fun γ => QOb.grd (b := !decide (a = (0 : Int))) [(3, .pointer (some ⟨l, 0, none⟩)), (79, .bool (!decide (a = (0 : Int))))] O O O O (.o (s := 3) O (by decide) (.v 3 O O .nil)) (fun e9 => RQ.sub (E' := [(3, .pointer (some ⟨l, 0, none⟩))]) ⟨O, trivial⟩ (ar O O underlying45 O O sizeOf3 O)) O) (aq O (fun γ => QOb.grd (b := !decide (a = (0 : Int))) [(79, .bool (!decide (a = (0 : Int)))), (85, cv ((!decide (a = (0 : Int))) == true) (.pointer (some ⟨l, 5, none⟩)))] O O O O (.v 3 O O (.v 9 O O .nil)) (fun ec => RQ.sub (E' := [(85, .pointer (some ⟨l, 5, none⟩))]) ⟨aE O ec, trivial⟩ (ag O O isAgg3 (.obj 3 O O))) O) (aq O (fun γ => QOb.grd (b := !decide (a = (0 : Int))) [(79, .bool (!decide (a = (0 : Int)))), (82, cv ((!decide (a = (0 : Int))) == true) (.pointer (some ⟨n, 4, none⟩))), (84, cv ((!decide (a = (0 : Int))) == true) (.int .i64 a)), (86, cv ((!decide (a = (0 : Int))) == true) (.int .i64 g))] O O O O (.v 3 O O (.v 6 O O (.v 8 O O (.v 10 O O .nil)))) (fun bt => RQ.sub (E' := [(82, .pointer (some ⟨n, 4, none⟩)), (84, .int .i64 a), (86, .int .i64 g)]) ⟨aE O bt, aE O bt, aE O bt, trivial⟩ (RE.rq (av (vs := [.pointer (some ⟨n, 4, none⟩), .int .i64 a, .int .i64 g]) (cap := []) (A := [obj x 97 [.map (some d), str ab, .int .i64 ad, .bool af], am (aj d ao ak e) ai e z, obj n 91 [.pointer (some ⟨x, 0, none⟩), .int .i64 al, .slice an p.length u, .int .i64 az, .int .i64 a0, .int .i64 a1, .int .i64 a2, .int .i64 q, .int .i64 a3, .slice a4 t.length w, .bool m]]) (rst := [obj l 45 [.bool br, .int .i64 a7, .int .i64 a8, .int .i64 a9, .int .i64 a, .int .i64 g, .slice bc c.length a6], F]) O O O O O O call80 (.sel 0 O (.sel 0 O (.sel 0 O (.sel 0 O (.sel 0 O (.nil _)))))) (cJ.calls _ _ n x d e z ab ad af al an u p az a0 a1 a2 q a3 a4 w t m a g (b7.up (Up.lend 1 O) (fun _ _ h => h)) b0 b1 (b8.up (Up.lend 1 O) (aQ.up (Up.lend 1 O))) b2 b3) (by rw [if_pos bt] at ch; exact ch)) (fun _ => O) (fun _ => (.sel 0 O (.sel 0 O (.sel 0 O (.sel 0 O (.sel 0 O (.nil _))))))))) O) (aq O (fun γ => QOb.grd (b := !decide (a = (0 : Int))) [(79, .bool (!decide (a = (0 : Int)))), (87, cv ((!decide (a = (0 : Int))) == true) (.bool bs))] O O O O (.v 3 O O (.v 11 O O .nil)) (fun ed => RQ.sub (E' := [(87, .bool bs)]) ⟨aE O ed, trivial⟩ (eP O O)) O) (aq O (fun γ => qp O O (.v 3 O O (.v 12 O O .nil)) (db O O O) O) zA))))))))))))))
 exact zA
 intro hb
 refine aa ?_
 refine aY O (fun hc => ?_) (fun he => ?_)
 refine bb (Γ := Unit) () [[], [0], [], [2], [0, 1], rL 5] [] [0, 1, 2, 3, 4, 5] (fun i => [[0], [0], [0], [0], [0], [0]].getD i []) (fun i => [[], [], [], [], [], []].getD i []) (fun γ i => [.pointer (some ⟨l, 4, none⟩), .int .i64 a, .pointer (some ⟨l, 4, none⟩), .int .i64 a, .int .i64 a, .int .i64 a].getD i undef) (fun j γ => [[obj x 97 [.map (some d), str ab, .int .i64 ad, .bool af], am (aj d ao ak e) ai e z, obj n 91 [.pointer (some ⟨x, 0, none⟩), .int .i64 al, .slice an p.length u, .int .i64 az, .int .i64 a0, .int .i64 a1, .int .i64 a2, .int .i64 q, .int .i64 a3, .slice a4 t.length w, .bool m], obj l 45 [.bool br, .int .i64 a7, .int .i64 a8, .int .i64 a9, .int .i64 a, .int .i64 g, .slice bc c.length a6], F]].getD j []) (fun γ => [(3, .pointer (some ⟨l, 0, none⟩)), (9, .int .i64 a), (10, .int .i64 a)]) mixed (by decide) (by decide) (by decide) (by decide) (by decide) (by decide) (by decide) 114 O (by decide) (by decide) (by decide) (Ent.refl _) ?_ ?_ (fun _ => ⟨O, O, O, trivial⟩) ?_
 exact (aq O (fun γ => qp O O (.o (s := 3) O (by decide) .nil) (ar O O underlying45 O O sizeOf3 O) O) (aq O (fun γ => qp O O (.v 0 O O .nil) (ag O O isAgg3 (.obj 3 O O)) O) (aq O (fun γ => qp O O (.o (s := 3) O (by decide) .nil) (ar O O underlying45 O O sizeOf3 O) O) (aq O (fun γ => qp O O (.v 2 O O .nil) (ag O O isAgg3 (.obj 3 O O)) O) (aq O (fun γ => qp O O (.v 1 O O .nil) (ci O O) O) (aq O (fun γ => qp O O (.v 3 O O .nil) (ci O O) O) zA))))))
 exact zA
 intro hf
 exact aF (s := (a, a)) () ⟨O, O, O, trivial⟩ (.sel 0 O (.sel 1 O (.sel 1 O (.sel 0 O (.sel 0 O (.nil _))))))
 refine aC ?_
 exact aF (s := (q, c2.1)) () ⟨O, O, O, trivial⟩ (.sel 0 O (.sel 1 O (.sel 1 O (.sel 0 O (.sel 0 O (.nil _))))))
 intro c3 hg
 refine gp (S := Unit) (Unit) (fun s y => []) (fun s y => [obj x 97 [.map (some d), str ab, .int .i64 ad, .bool af], obj n 91 [.pointer (some ⟨x, 0, none⟩), .int .i64 al, .slice an p.length u, .int .i64 az, .int .i64 a0, .int .i64 a1, .int .i64 a2, .int .i64 q, .int .i64 a3, .slice a4 t.length w, .bool m], am (aj d ao ak e) ai e z, F]) ?_ ?_
 refine sr ?_
 refine vq (ar O O underlying45 O O sizeOf32 O) O ?_
 refine vq (ag O O isAgg32 (.obj 2 O O)) O ?_
 refine vq (bD O O O underlying32) O ?_
 refine vm O O (ae (aa ?_))
 refine aT ?_
 refine cC (S := Int × Int × Int) (Unit) (fun k s => bA.l1 c k s.1 s.2.1 s.2.2) (fun s y => [(9, .int .i64 s.1), (10, .int .i64 s.2.1), (95, .slice bc c.length a6), (96, .int .i64 (c.length : Int)), (97, .int .i64 s.2.2)]) (fun s y => [obj x 97 [.map (some d), str ab, .int .i64 ad, .bool af], obj n 91 [.pointer (some ⟨x, 0, none⟩), .int .i64 al, .slice an p.length u, .int .i64 az, .int .i64 a0, .int .i64 a1, .int .i64 a2, .int .i64 q, .int .i64 a3, .slice a4 t.length w, .bool m], am (aj d ao ak e) ai e z, F]) (fun _ => by rw [bA.l1]) ?_ k (c3.1, c3.2, 0) () ⟨O, O, O, O, O, trivial⟩ (.sel 0 O (.sel 0 O (.sel 1 O (.sel 1 O (.nil _)))))
 intro k a5 hh
 refine df (by rw [bA.l1]) ?_
 refine sr ?_
 refine vq (cH O O O) O (ae (aa (ay ?_)))
 refine bf O (fun hi => ?_) (fun hk => ?_)
 refine aC ?_
 refine aa (ay ?_)
 refine aT ?_
 refine sr ?_
 refine bh (fun cs => ?_)
 obtain ⟨hl, fn, hm, ee, ef, et, hcell76v⟩ := RdV.pos c0 (Up.refl _) rfl (i := a5.2.2.toNat) (by omega) aL
 obtain ⟨el, em, rfl, ⟨fp, fr, fs⟩⟩ := ef
 refine vq (dC O O O ee underlying32 sizeOf35 cs.1 cs.2) O ?_
 refine vq (cf O O isAgg35 sizeOf35 O (fun j v hj => hcell76v 3 O j v hj)) O ?_
 refine ah (bL O zeroValue35 O) O O O ?_
 intro b6
 refine aU (aH 0 O O O sizeOf35 O O (aM (by rfl)) O O) O O ?_
 intro _
 refine ae (aa (ay (sr ?_)))
 refine vq (ar O O underlying35 O O sizeOf3 O) O ?_
 refine vq (ag O O isAgg3 (.obj 0 O O)) O ?_
 refine vm O O ?_
 refine vq (cb O O O) O ?_
 refine vq (cI O O O) O (ae (aa ?_))
 refine bf O (fun hn => ?_) (fun ho => ?_)
 refine sr ?_
 refine va O O (ae (aa (aA ?_)))
 refine aK ?_
 refine bi ?_
 refine aK ?_
 refine fb ?_
 refine bi ?_
 refine fa ?_
 exact aD () O O O (.sel 1 O (.sel 2 O (.sel 1 O (.sel 1 O (.nil _)))))
 refine aC ?_
 refine aa ?_
 refine bb (Γ := Unit) () [[], [], [1], [1, 2], rL 4, [], [5], rL 5, rL 8] [] [0, 1, 2, 3, 4, 5, 6, 7, 8] (fun i => [[0], [0], [0], [0], [0], [0], [0], [0], [0]].getD i []) (fun i => [[], [], [], [], [], [], [], [], []].getD i []) (fun γ i => [.int .i64 a5.1, .pointer (some ⟨b6, 1, none⟩), .int .i64 ((c.getD a5.2.2.toNat aL).2.1), .int .i64 (IntKind.i64.wrap (((c.getD a5.2.2.toNat aL).2.1) - 1)), .int .i64 (min a5.1 (IntKind.i64.wrap (((c.getD a5.2.2.toNat aL).2.1) - 1))), .pointer (some ⟨b6, 1, none⟩), .int .i64 ((c.getD a5.2.2.toNat aL).2.1), .int .i64 (min a5.1 (IntKind.i64.wrap (((c.getD a5.2.2.toNat aL).2.1) - 1))), .int .i64 ((c.getD a5.2.2.toNat aL).2.1)].getD i undef) (fun j γ => [[obj b6 35 [.int .i64 ((c.getD a5.2.2.toNat aL).1), .int .i64 ((c.getD a5.2.2.toNat aL).2.1), .int .i64 ((c.getD a5.2.2.toNat aL).2.2.1), .slice el (((c.getD a5.2.2.toNat aL).2.2.2).length) em], obj x 97 [.map (some d), str ab, .int .i64 ad, .bool af], obj n 91 [.pointer (some ⟨x, 0, none⟩), .int .i64 al, .slice an p.length u, .int .i64 az, .int .i64 a0, .int .i64 a1, .int .i64 a2, .int .i64 q, .int .i64 a3, .slice a4 t.length w, .bool m], am (aj d ao ak e) ai e z, F]].getD j []) (fun γ => [(9, .int .i64 (min a5.1 (IntKind.i64.wrap (((c.getD a5.2.2.toNat aL).2.1) - 1)))), (10, .int .i64 ((c.getD a5.2.2.toNat aL).2.1)), (95, .slice bc c.length a6), (96, .int .i64 (c.length : Int)), (97, .int .i64 a5.2.2)]) mixed (by decide) (by decide) (by decide) (by decide) (by decide) (by decide) (by decide) 114 O (by decide) (by decide) (by decide) (Ent.refl _) ?_ ?_ (fun _ => ⟨O, O, O, O, O, trivial⟩) ?_
 exact (aq O (fun γ => qm O (.o (s := 9) O (by decide) .nil) O) (aq O (fun γ => qp O O (.o (s := 13) O (by decide) .nil) (ar O O underlying35 O O sizeOf3 O) O) (aq O (fun γ => qp O O (.v 1 O O .nil) (ag O O isAgg3 (.obj 0 O O)) O) (aq O (fun γ => qp O O (.v 2 O O .nil) (dc O O O) O) (aq O (fun γ => qp O O (.v 0 O O (.v 3 O O .nil)) (qa O O O) O) (aq O (fun γ => qp O O (.o (s := 13) O (by decide) .nil) (ar O O underlying35 O O sizeOf3 O) O) (aq O (fun γ => qp O O (.v 5 O O .nil) (ag O O isAgg3 (.obj 0 O O)) O) (aq O (fun γ => qp O O (.v 4 O O .nil) (ci O O) O) (aq O (fun γ => qp O O (.v 6 O O .nil) (ci O O) O) zA)))))))))
 exact zA
 intro hp
 refine bv (aa (aJ ?_))
 refine vq (cb O O O) O ?_
 refine vm O O (ae ?_)
 exact bV (s := (min a5.1 (IntKind.i64.wrap (((c.getD a5.2.2.toNat aL).2.1) - 1)), (c.getD a5.2.2.toNat aL).2.1, IntKind.i64.wrap (a5.2.2 + 1))) () ⟨O, O, O, O, O, trivial⟩ (.sel 1 O (.sel 1 O (.sel 1 O (.sel 1 O (.nil _)))))
 refine cN ?_
 refine ct ?_
 refine cD ?_
 refine cu ?_
 exact fW (s := ()) () trivial (.sel 0 O (.sel 0 O (.sel 0 O (.sel 0 O (.nil _)))))
 intro hq hr
 refine sr ?_
 refine va O O (ae (aa (aA ?_)))
 exact aD () O O O (.sel 0 O (.sel 1 O (.sel 0 O (.sel 0 O (.nil _)))))

theorem iP.quiet (b0 b1 : Nat) : kp Tryz.prog 81 [.pointer (some ⟨b0, 0, none⟩), .pointer (some ⟨b1, 0, none⟩)] := by
  refine mQ 11 Tryz.func81 O Tryz.ntmps81 O (fun _ _ => O) O O O ((fc.f).bind fun a => (if a = (0 : Int) then (some ()) else (none))) (by rfl) (fun W F => ?_)
  refine aw (fun a b => ?_)
  refine ah (av (vs := [.nilIface]) (cap := []) (A := []) (rst := [F]) O O O O O O call41 (.sel 0 O (.nil _)) (fc.calls _ _  ) b) O O O ?_
  intro c
  refine va O O ?_
  refine ae ?_
  refine aa ?_
  refine ay ?_
  refine aJ ?_
  refine vm O O ?_
  refine vq (cZ O O O) O ?_
  refine ae ?_
  refine aa ?_
  refine cS O (fun d => ?_) (fun e => ?_)
  refine aC ?_
  exact gb () O O O (.sel 0 O (.nil _))
  exact gN

def bZ.l0 (b : List (bz)) : Nat → List (cV) → Int → Option ((List (cV)))
  | 0, _, _ => none
  | k + 1, c, a => if a < (b.length : Int) then (if 0 ≤ a ∧ a < (b.length : Int) then ((bX.f ((b.getD a.toNat aL).2.2.2)).bind fun d => (if (c.length + ([((2 : Int), (0 : Int), (0 : Int), (0 : Int), (0 : Int), (0 : Int), (0 : Int), (b.getD a.toNat aL).1, (b.getD a.toNat aL).2.1, (b.getD a.toNat aL).2.2.1, d)] : List (cV)).length) * 104 ≤ 140737488355328 then (bZ.l0 b k (c ++ ([((2 : Int), (0 : Int), (0 : Int), (0 : Int), (0 : Int), (0 : Int), (0 : Int), (b.getD a.toNat aL).1, (b.getD a.toNat aL).2.1, (b.getD a.toNat aL).2.2.1, d)] : List (cV))) (IntKind.i64.wrap (a + 1))) else none)) else none) else (some c)
def bZ.f (k : Nat) (o : List ((List UInt8) × (List UInt8 × Int))) (p : List UInt8) (q : Int) (r : Bool) (s : Int) (t : List Int) (u : Int) (i : Int) (j : Int) (a : Int) (v : Int) (w : Int) (x : List (aG)) (l : Bool) (m : Bool) (b : Int) (c : Int) (e : Int) (d : Int) (g : Int) (y : List (bz)) : Option ((List (cV))) := ((if m = true then (some ((!decide (b = i)) || (!decide (c = j)))) else (some false)).bind fun af => (if af = true then (if ([((1 : Int), (0 : Int), b, c, a, (0 : Int), (0 : Int), (0 : Int), (0 : Int), (0 : Int), ([] : List UInt8))] : List (cV)).length * 104 ≤ 140737488355328 then (some ([((1 : Int), (0 : Int), b, c, a, (0 : Int), (0 : Int), (0 : Int), (0 : Int), (0 : Int), ([] : List UInt8))] : List (cV))) else none) else (some ([] : List (cV))))).bind fun n => (((if ((!decide (d = (0 : Int))) == true) = true then (cJ.f o p q r s t u i j a v w x l d g) else some false).bind fun z => (if ((!decide (d = (0 : Int))) && (!z)) = true then (if (n.length + ([((3 : Int), (0 : Int), (0 : Int), (0 : Int), (0 : Int), d, g, (0 : Int), (0 : Int), (0 : Int), ([] : List UInt8))] : List (cV)).length) * 104 ≤ 140737488355328 then (some (n ++ ([((3 : Int), (0 : Int), (0 : Int), (0 : Int), (0 : Int), d, g, (0 : Int), (0 : Int), (0 : Int), ([] : List UInt8))] : List (cV)))) else none) else (some n))).bind fun ab => ((bZ.l0 y k ab 0).bind fun h => ((if (m && (!decide (e = a))) = true then (if (h.length + ([((1 : Int), (0 : Int), b, c, e, (0 : Int), (0 : Int), (0 : Int), (0 : Int), (0 : Int), ([] : List UInt8))] : List (cV)).length) * 104 ≤ 140737488355328 then (some (h ++ ([((1 : Int), (0 : Int), b, c, e, (0 : Int), (0 : Int), (0 : Int), (0 : Int), (0 : Int), ([] : List UInt8))] : List (cV)))) else none) else (some h)).bind fun ad => (some ad))))
theorem bZ.calls (W : World) (F : HA) (k : Nat) (az : Nat) (a0 : Nat) (p : Nat) (q : Kps) (a3 : List ((List UInt8) × (List UInt8 × Int))) (a4 : List UInt8) (a5 : Int) (a6 : Bool) (a7 : Int) (a8 : Option Addr) (a1 : Nat) (al : List Int) (a9 : Int) (e : Int) (n : Int) (g : Int) (bc : Int) (be : Int) (br : Option Addr) (a2 : Nat) (an : List (aG)) (ab : Bool) (bs : Bool) (t : Int) (u : Int) (z : Int) (a : Int) (af : Int) (b2 : Option Addr) (b1 : Nat) (c : List (bz)) (ei : RdV F 1 (V3 tt) a8 al) (d1 : al.length ≤ a1) (d2 : a1 ≤ maxLen) (ek : RdV F 5 (aQ F) br an) (d3 : an.length ≤ a2) (d4 : a2 ≤ maxLen) (g0 : RdV F 4 (V35 F) b2 c) (g6 : c.length ≤ b1) (g7 : b1 ≤ maxLen) :
    Fn Tryz.prog W 51 [.pointer (some ⟨az, 0, none⟩), .agg #[.bool bs, .int .i64 t, .int .i64 u, .int .i64 z, .int .i64 a, .int .i64 af, .slice b2 c.length b1]] [obj a0 97 [.map (some p), str a4, .int .i64 a5, .bool a6], am (aj p ao ak q) ai q a3, obj az 91 [.pointer (some ⟨a0, 0, none⟩), .int .i64 a7, .slice a8 al.length a1, .int .i64 a9, .int .i64 e, .int .i64 n, .int .i64 g, .int .i64 bc, .int .i64 be, .slice br an.length a2, .bool ab]] F (bZ.f k a3 a4 a5 a6 a7 al a9 e n g bc be an ab bs t u z a af c) (fun (r : (List (cV))) (y : Option Addr × Nat × HA) => .slice y.1 r.length y.2.1) (fun r y => [ap 102 11 (dT (y.2.2)) y.1 r y.2.1, y.2.2, obj a0 97 [.map (some p), str a4, .int .i64 a5, .bool a6], am (aj p ao ak q) ai q a3, obj az 91 [.pointer (some ⟨a0, 0, none⟩), .int .i64 a7, .slice a8 al.length a1, .int .i64 a9, .int .i64 e, .int .i64 n, .int .i64 g, .int .i64 bc, .int .i64 be, .slice br an.length a2, .bool ab]]) := by
 unfold bZ.f
 refine aN 99 Tryz.func51 O Tryz.ntmps51 O ?_
 refine sr ?_
 refine ah (cy O O O) O O O ?_
 intro ad
 refine va O O (nx ?_)
 refine va O O (nx ?_)
 refine vm O O ?_
 refine vn O O ?_
 refine vq (ar O O underlying91 O O sizeOf89 O) O ?_
 refine vq (ar O O underlying89 O O sizeOf43 O) O ?_
 refine vq (cf (vs := [.int .i64 e, .int .i64 n, .int .i64 g]) O O isAgg43 sizeOf43 O (cM 3 O (cz O))) O ?_
 refine ah (bL O zeroValue43 O) O O O ?_
 intro b0
 refine aU (aH 0 O O O sizeOf43 O O (aM (by rfl)) O O) O O ?_
 intro _
 refine ae (aa ?_)
 refine bE (S := (List (cV))) (Option Addr × Nat) (fun s y => [(0, .pointer (some ⟨az, 0, none⟩)), (3, .pointer (some ⟨ad, 0, none⟩)), (5, .slice y.1 s.length y.2), (6, .pointer (some ⟨b0, 0, none⟩))]) (fun s y => [obj b0 43 [.int .i64 e, .int .i64 n, .int .i64 g], obj ad 45 [.bool bs, .int .i64 t, .int .i64 u, .int .i64 z, .int .i64 a, .int .i64 af, .slice b2 c.length b1], obj a0 97 [.map (some p), str a4, .int .i64 a5, .bool a6], obj az 91 [.pointer (some ⟨a0, 0, none⟩), .int .i64 a7, .slice a8 al.length a1, .int .i64 a9, .int .i64 e, .int .i64 n, .int .i64 g, .int .i64 bc, .int .i64 be, .slice br an.length a2, .bool ab], ap 102 11 (dT (tt)) y.1 s y.2, am (aj p ao ak q) ai q a3, tt, F]) ?_ ?_
 refine sr ?_
 refine vq (ar O O underlying45 O O sizeOf4 O) O ?_
 refine vq (ag O O isAgg4 (.obj 1 O O)) O ?_
 refine vm O O ?_
 refine dG 15 (S := Bool) (Unit) (fun s y => [(0, .pointer (some ⟨az, 0, none⟩)), (3, .pointer (some ⟨ad, 0, none⟩)), (5, .slice none 0 0), (6, .pointer (some ⟨b0, 0, none⟩)), (32, .bool s)]) (fun s y => [obj b0 43 [.int .i64 e, .int .i64 n, .int .i64 g], obj ad 45 [.bool bs, .int .i64 t, .int .i64 u, .int .i64 z, .int .i64 a, .int .i64 af, .slice b2 c.length b1], obj a0 97 [.map (some p), str a4, .int .i64 a5, .bool a6], obj az 91 [.pointer (some ⟨a0, 0, none⟩), .int .i64 a7, .slice a8 al.length a1, .int .i64 a9, .int .i64 e, .int .i64 n, .int .i64 g, .int .i64 bc, .int .i64 be, .slice br an.length a2, .bool ab], am (aj p ao ak q) ai q a3, F]) ?_ ?_
 refine eS (fun el => ?_) (fun em => ?_)
 rw [el]
 refine aZ (ar O O underlying45 O O sizeOf43 O) O O O O O O ?_
 refine aZ (ar O O underlying43 O O sizeOf3 O) O O O O O O ?_
 refine aZ (ag O O isAgg3 (.obj 1 O O)) O O O O O O ?_
 refine aZ (ar O O underlying43 O O sizeOf3 O) O O O O O O ?_
 refine aZ (ag O O isAgg3 (.obj 0 O O)) O O O O O O ?_
 refine aZ (cZ O O O) O O O O O O ?_
 refine aZ (ba O O) O O O O O O ?_
 refine au (b := !decide (t = e)) (fun g8 => RQ.sub (E' := [(3, .pointer (some ⟨ad, 0, none⟩))]) ⟨O, trivial⟩ (ar O O underlying45 O O sizeOf43 O)) O O O O O ?_
 refine au (b := !decide (t = e)) (fun er => RQ.sub (E' := [(25, .pointer (some ⟨ad, 1, none⟩))]) ⟨aE O er, trivial⟩ (ar O O underlying43 O O sizeOf3 O)) O O O O O ?_
 refine au (b := !decide (t = e)) (fun es => RQ.sub (E' := [(26, .pointer (some ⟨ad, 2, none⟩))]) ⟨aE O es, trivial⟩ (ag O O isAgg3 (.obj 1 O O))) O O O O O ?_
 refine au (b := !decide (t = e)) (fun hf => RQ.sub (E' := [(6, .pointer (some ⟨b0, 0, none⟩))]) ⟨O, trivial⟩ (ar O O underlying43 O O sizeOf3 O)) O O O O O ?_
 refine au (b := !decide (t = e)) (fun g1 => RQ.sub (E' := [(28, .pointer (some ⟨b0, 1, none⟩))]) ⟨aE O g1, trivial⟩ (ag O O isAgg3 (.obj 0 O O))) O O O O O ?_
 refine au (b := !decide (t = e)) (fun d5 => RQ.sub (E' := [(27, .int .i64 u), (29, .int .i64 n)]) ⟨aE O d5, aE O d5, trivial⟩ (cZ O O O)) O O O O O ?_
 refine aZ (ex O O O) O O O O O O ?_
 refine vq (bW O O O O O) O (ae ?_)
 exact aF (s := (!decide (t = e)) || (!decide (u = n))) () ⟨O, O, O, O, O, trivial⟩ (.sel 0 O (.sel 0 O (.sel 0 O (.sel 1 O (.sel 0 O (.sel 0 O (.nil _)))))))
 rw [em]
 refine aO O O O O O O ?_
 refine aO O O O O O O ?_
 refine aO O O O O O O ?_
 refine aO O O O O O O ?_
 refine aO O O O O O O ?_
 refine aO O O O O O O ?_
 refine aO O O O O O O ?_
 refine cO O O O O O ?_
 refine cO O O O O O ?_
 refine cO O O O O O ?_
 refine cO O O O O O ?_
 refine cO O O O O O ?_
 refine cO O O O O O ?_
 refine aO O O O O O O ?_
 refine vq (bW O O O O O) O (ae ?_)
 exact aF (s := false) () ⟨O, O, O, O, O, trivial⟩ (.sel 0 O (.sel 0 O (.sel 0 O (.sel 1 O (.sel 0 O (.sel 0 O (.nil _)))))))
 intro hw hx
 refine ae (aa ?_)
 refine aY O (fun hg => ?_) (fun hh => ?_)
 refine sr ?_
 refine vq (ar O O underlying45 O O sizeOf43 O) O ?_
 refine vq (cf (vs := [.int .i64 t, .int .i64 u, .int .i64 z]) O O isAgg43 sizeOf43 O (cM 1 O (cz O))) O ?_
 refine ah (bL O zeroValue43 O) O O O ?_
 intro hi
 refine aU (aH 0 O O O sizeOf43 O O (aM (by rfl)) O O) O O ?_
 intro _
 refine nx ?_
 refine vq (ar O O underlying43 O O sizeOf3 O) O ?_
 refine vq (ag O O isAgg3 (.obj 1 O O)) O ?_
 refine vq (ar O O underlying43 O O sizeOf3 O) O ?_
 refine aU (aH 0 O O O sizeOf3 O O (aM (by rfl)) O O) O O ?_
 intro _
 refine ny ?_
 refine vm O O ?_
 refine vq (bU 0 O O isAgg43 sizeOf43 O O) O ?_
 refine vq (cx (v := .agg #[.int .i64 1, .int .i64 0, .int .i64 t, .int .i64 u, .int .i64 g, .int .i64 0, .int .i64 0, .int .i64 0, .int .i64 0, .int .i64 0, .slice none 0 0]) O O (fun _ => by kernel_rfl)) O ?_
 have b8 : bx 11 (dT (tt)) ([((1 : Int), (0 : Int), t, u, g, (0 : Int), (0 : Int), (0 : Int), (0 : Int), (0 : Int), ([] : List UInt8))] : List (cV)) [[.int .i64 1, .int .i64 0, .int .i64 t, .int .i64 u, .int .i64 g, .int .i64 0, .int .i64 0, .int .i64 0, .int .i64 0, .int .i64 0, .slice none 0 0]] := ⟨⟨rfl, aM (by rfl), ⟨none, 0, rfl, ⟨Rd.nil _ _, Nat.le_refl _, Nat.zero_le _⟩⟩⟩, trivial⟩
 refine ah (eB (V := (dT (tt))) (xs := ([((1 : Int), (0 : Int), t, u, g, (0 : Int), (0 : Int), (0 : Int), (0 : Int), (0 : Int), ([] : List UInt8))] : List (cV))) [[.int .i64 1, .int .i64 0, .int .i64 t, .int .i64 u, .int .i64 g, .int .i64 0, .int .i64 0, .int .i64 0, .int .i64 0, .int .i64 0, .slice none 0 0]] O O underlying99 iz O (by kernel_rfl) O b8 O O) O O O ?_
 intro hk
 refine bh (fun et => ?_)
 refine ah (pk (V := (dT (tt))) O O O underlying99 iz (fI.row b8 0 O) et) O O O ?_
 intro d6
 refine va O O (ae ?_)
 exact aF (s := ([((1 : Int), (0 : Int), t, u, g, (0 : Int), (0 : Int), (0 : Int), (0 : Int), (0 : Int), ([] : List UInt8))] : List (cV))) (d6.1, d6.2) ⟨O, O, O, O, trivial⟩ (.sel 3 O (.sel 3 O (.sel 3 O (.sel 3 O (.sel 0 O (.sel 2 O (.tt_in (.sel 2 O (.nil _)))))))))
 refine aC ?_
 exact aF (s := ([] : List (cV))) (none, 0) ⟨O, O, O, O, trivial⟩ (.sel 0 O (.sel 0 O (.sel 0 O (.sel 0 O (.rowV_nil (.sel 0 O (.tt_in (.sel 0 O (.nil _)))))))))
 intro b9 b5
 refine bE (S := (List (cV))) (Option Addr × Nat) (fun s y => [(3, .pointer (some ⟨ad, 0, none⟩)), (5, .slice y.1 s.length y.2), (6, .pointer (some ⟨b0, 0, none⟩))]) (fun s y => [obj b0 43 [.int .i64 e, .int .i64 n, .int .i64 g], obj ad 45 [.bool bs, .int .i64 t, .int .i64 u, .int .i64 z, .int .i64 a, .int .i64 af, .slice b2 c.length b1], obj a0 97 [.map (some p), str a4, .int .i64 a5, .bool a6], obj az 91 [.pointer (some ⟨a0, 0, none⟩), .int .i64 a7, .slice a8 al.length a1, .int .i64 a9, .int .i64 e, .int .i64 n, .int .i64 g, .int .i64 bc, .int .i64 be, .slice br an.length a2, .bool ab], ap 102 11 (dT (tt)) y.1 s y.2, am (aj p ao ak q) ai q a3, tt, F]) ?_ ?_
 refine ay ?_
 refine bn 4 O (fun c5 c6 => ?_)
 refine bp (fun b4 c7 => ?_)
 refine bb (Γ := Unit) () [[], [0], [0, 1], [0, 1, 2], rL 4, rL 5, rL 6, rL 4, [0, 1, 2, 3, 7], rL 4, [0, 1, 2, 3, 9], rL 11, rL 12, rL 13] [] [0, 1, 2, 3, 4, 5, 6, 7, 8, 9, 10, 11, 12, 13] (fun i => [[0], [0], [0], [0], [0], [0], [0], [0], [0], [0], [0], [0], [0], [0]].getD i []) (fun i => [[], [], [], [], [], [], [], [], [], [], [], [], [], []].getD i []) (fun γ i => [.pointer (some ⟨ad, 4, none⟩), .int .i64 a, .bool (!decide (a = (0 : Int))), .bool (!decide (a = (0 : Int))), cv ((!decide (a = (0 : Int))) == true) (.pointer (some ⟨az, 0, none⟩)), cv ((!decide (a = (0 : Int))) == true) (.pointer (some ⟨az, 0, none⟩)), cv ((!decide (a = (0 : Int))) == true) (.pointer (some ⟨az, 4, none⟩)), cv ((!decide (a = (0 : Int))) == true) (.pointer (some ⟨ad, 4, none⟩)), cv ((!decide (a = (0 : Int))) == true) (.int .i64 a), cv ((!decide (a = (0 : Int))) == true) (.pointer (some ⟨ad, 5, none⟩)), cv ((!decide (a = (0 : Int))) == true) (.int .i64 af), cv ((!decide (a = (0 : Int))) == true) (.bool b4), cv ((!decide (a = (0 : Int))) == true) (.bool (!b4)), .bool ((!decide (a = (0 : Int))) && (!b4))].getD i undef) (fun j γ => [[obj b0 43 [.int .i64 e, .int .i64 n, .int .i64 g], obj ad 45 [.bool bs, .int .i64 t, .int .i64 u, .int .i64 z, .int .i64 a, .int .i64 af, .slice b2 c.length b1], obj a0 97 [.map (some p), str a4, .int .i64 a5, .bool a6], obj az 91 [.pointer (some ⟨a0, 0, none⟩), .int .i64 a7, .slice a8 al.length a1, .int .i64 a9, .int .i64 e, .int .i64 n, .int .i64 g, .int .i64 bc, .int .i64 be, .slice br an.length a2, .bool ab], Row 102 11 b5.1 b9.length b5.2 c5.flatten, am (aj p ao ak q) ai q a3, tt, F]].getD j []) (fun γ => [(3, .pointer (some ⟨ad, 0, none⟩)), (5, .slice b5.1 b9.length b5.2), (6, .pointer (some ⟨b0, 0, none⟩)), (56, .bool ((!decide (a = (0 : Int))) && (!b4)))]) mixed (by decide) (by decide) (by decide) (by decide) (by decide) (by decide) (by decide) 99 O (by decide) (by decide) (by decide) (Ent.refl _) ?_ ?_ (fun _ => ⟨O, O, O, O, trivial⟩) ?_
 exact (aq O (fun γ => qp O O (.o (s := 3) O (by decide) .nil) (ar O O underlying45 O O sizeOf3 O) O) (aq O (fun γ => qp O O (.v 0 O O .nil) (ag O O isAgg3 (.obj 1 O O)) O) (aq O (fun γ => qp O O (.v 1 O O .nil) (cZ O O O) O) (aq O (fun γ => qm O (.v 2 O O .nil) O) (aq O (fun γ => QOb.grd (b := !decide (a = (0 : Int))) [(0, .pointer (some ⟨az, 0, none⟩)), (46, .bool (!decide (a = (0 : Int))))] O O O O (.o (s := 0) O (by decide) (.v 3 O O .nil)) (fun g9 => RQ.sub (E' := [(0, .pointer (some ⟨az, 0, none⟩))]) ⟨O, trivial⟩ (ba O O)) O) (aq O (fun γ => QOb.grd (b := !decide (a = (0 : Int))) [(46, .bool (!decide (a = (0 : Int)))), (47, cv ((!decide (a = (0 : Int))) == true) (.pointer (some ⟨az, 0, none⟩)))] O O O O (.v 3 O O (.v 4 O O .nil)) (fun e0 => RQ.sub (E' := [(47, .pointer (some ⟨az, 0, none⟩))]) ⟨aE O e0, trivial⟩ (aX O O)) O) (aq O (fun γ => QOb.grd (b := !decide (a = (0 : Int))) [(46, .bool (!decide (a = (0 : Int)))), (48, cv ((!decide (a = (0 : Int))) == true) (.pointer (some ⟨az, 0, none⟩)))] O O O O (.v 3 O O (.v 5 O O .nil)) (fun e1 => RQ.sub (E' := [(48, .pointer (some ⟨az, 0, none⟩))]) ⟨aE O e1, trivial⟩ (ar O O underlying91 O O sizeOf89 O)) O) (aq O (fun γ => QOb.grd (b := !decide (a = (0 : Int))) [(3, .pointer (some ⟨ad, 0, none⟩)), (46, .bool (!decide (a = (0 : Int))))] O O O O (.o (s := 3) O (by decide) (.v 3 O O .nil)) (fun ha => RQ.sub (E' := [(3, .pointer (some ⟨ad, 0, none⟩))]) ⟨O, trivial⟩ (ar O O underlying45 O O sizeOf3 O)) O) (aq O (fun γ => QOb.grd (b := !decide (a = (0 : Int))) [(46, .bool (!decide (a = (0 : Int)))), (50, cv ((!decide (a = (0 : Int))) == true) (.pointer (some ⟨ad, 4, none⟩)))] O O O O (.v 3 O O (.v 7 O O .nil)) (fun e2 => RQ.sub (E' := [(50, .pointer (some ⟨ad, 4, none⟩))]) ⟨aE O e2, trivial⟩ (ag O O isAgg3 (.obj 1 O O))) O) (aq O (fun γ => QOb.grd (b := !decide (a = (0 : Int))) [(3, .pointer (some ⟨ad, 0, none⟩)), (46, .bool (!decide (a = (0 : Int))))] O O O O (.o (s := 3) O (by decide) (.v 3 O O .nil)) (fun hb => RQ.sub (E' := [(3, .pointer (some ⟨ad, 0, none⟩))]) ⟨O, trivial⟩ (ar O O underlying45 O O sizeOf3 O)) O) (aq O (fun γ => QOb.grd (b := !decide (a = (0 : Int))) [(46, .bool (!decide (a = (0 : Int)))), (52, cv ((!decide (a = (0 : Int))) == true) (.pointer (some ⟨ad, 5, none⟩)))] O O O O (.v 3 O O (.v 9 O O .nil)) (fun e3 => RQ.sub (E' := [(52, .pointer (some ⟨ad, 5, none⟩))]) ⟨aE O e3, trivial⟩ (ag O O isAgg3 (.obj 1 O O))) O) (aq O (fun γ => QOb.grd (b := !decide (a = (0 : Int))) [(46, .bool (!decide (a = (0 : Int)))), (49, cv ((!decide (a = (0 : Int))) == true) (.pointer (some ⟨az, 4, none⟩))), (51, cv ((!decide (a = (0 : Int))) == true) (.int .i64 a)), (53, cv ((!decide (a = (0 : Int))) == true) (.int .i64 af))] O O O O (.v 3 O O (.v 6 O O (.v 8 O O (.v 10 O O .nil)))) (fun b6 => RQ.sub (E' := [(49, .pointer (some ⟨az, 4, none⟩)), (51, .int .i64 a), (53, .int .i64 af)]) ⟨aE O b6, aE O b6, aE O b6, trivial⟩ (RE.rq (av (vs := [.pointer (some ⟨az, 4, none⟩), .int .i64 a, .int .i64 af]) (cap := []) (A := [obj a0 97 [.map (some p), str a4, .int .i64 a5, .bool a6], am (aj p ao ak q) ai q a3, obj az 91 [.pointer (some ⟨a0, 0, none⟩), .int .i64 a7, .slice a8 al.length a1, .int .i64 a9, .int .i64 e, .int .i64 n, .int .i64 g, .int .i64 bc, .int .i64 be, .slice br an.length a2, .bool ab]]) (rst := [obj b0 43 [.int .i64 e, .int .i64 n, .int .i64 g], obj ad 45 [.bool bs, .int .i64 t, .int .i64 u, .int .i64 z, .int .i64 a, .int .i64 af, .slice b2 c.length b1], Row 102 11 b5.1 b9.length b5.2 c5.flatten, tt, F]) O O O O O O call80 (.sel 2 O (.sel 4 O (.sel 2 O (.sel 0 O (.sel 0 O (.sel 0 O (.tt_in (.sel 1 O (.nil _))))))))) (cJ.calls _ _ az a0 p q a3 a4 a5 a6 a7 a8 a1 al a9 e n g bc be br a2 an ab a af (ei.up (Up.lend 4 O) (fun _ _ h => h)) d1 d2 (ek.up (Up.lend 4 O) (aQ.up (Up.lend 4 O))) d3 d4) (by rw [if_pos b6] at c7; exact c7)) (fun _ => O) (fun _ => (.sel 3 O (.sel 3 O (.sel 0 O (.sel 1 O (.sel 1 O (.sel 0 O (.tt_in (.sel 1 O (.nil _)))))))))))) O) (aq O (fun γ => QOb.grd (b := !decide (a = (0 : Int))) [(46, .bool (!decide (a = (0 : Int)))), (54, cv ((!decide (a = (0 : Int))) == true) (.bool b4))] O O O O (.v 3 O O (.v 11 O O .nil)) (fun e4 => RQ.sub (E' := [(54, .bool b4)]) ⟨aE O e4, trivial⟩ (eP O O)) O) (aq O (fun γ => qp O O (.v 3 O O (.v 12 O O .nil)) (db O O O) O) zA))))))))))))))
 exact zA
 intro hl
 refine aa ?_
 refine aY O (fun hm => ?_) (fun hn => ?_)
 refine aJ ?_
 refine vm O O ?_
 refine vq (ar O O underlying45 O O sizeOf3 O) O ?_
 refine vq (ag O O isAgg3 (.obj 1 O O)) O ?_
 refine vq (ar O O underlying45 O O sizeOf3 O) O ?_
 refine vq (ag O O isAgg3 (.obj 1 O O)) O ?_
 refine vq (cx (v := .agg #[.int .i64 3, .int .i64 0, .int .i64 0, .int .i64 0, .int .i64 0, .int .i64 a, .int .i64 af, .int .i64 0, .int .i64 0, .int .i64 0, .slice none 0 0]) O O (fun _ => by kernel_rfl)) O ?_
 have cd : bx 11 (dT (tt)) ([((3 : Int), (0 : Int), (0 : Int), (0 : Int), (0 : Int), a, af, (0 : Int), (0 : Int), (0 : Int), ([] : List UInt8))] : List (cV)) [[.int .i64 3, .int .i64 0, .int .i64 0, .int .i64 0, .int .i64 0, .int .i64 a, .int .i64 af, .int .i64 0, .int .i64 0, .int .i64 0, .slice none 0 0]] := ⟨⟨rfl, aM (by rfl), ⟨none, 0, rfl, ⟨Rd.nil _ _, Nat.le_refl _, Nat.zero_le _⟩⟩⟩, trivial⟩
 refine ah (eB (V := (dT (tt))) (xs := ([((3 : Int), (0 : Int), (0 : Int), (0 : Int), (0 : Int), a, af, (0 : Int), (0 : Int), (0 : Int), ([] : List UInt8))] : List (cV))) [[.int .i64 3, .int .i64 0, .int .i64 0, .int .i64 0, .int .i64 0, .int .i64 a, .int .i64 af, .int .i64 0, .int .i64 0, .int .i64 0, .slice none 0 0]] O O underlying99 iz O (by kernel_rfl) O cd O O) O O O ?_
 intro ho
 refine bh (fun e5 => ?_)
 refine ah (ej 5 O O O underlying99 iz O c6 (fI.row cd 0 O) e5) O O O ?_
 intro d7
 refine va O O (ae ?_)
 exact aF (s := b9 ++ ([((3 : Int), (0 : Int), (0 : Int), (0 : Int), (0 : Int), a, af, (0 : Int), (0 : Int), (0 : Int), ([] : List UInt8))] : List (cV))) (d7.1, d7.2) ⟨O, O, O, trivial⟩ (.sel 1 O (.sel 1 O (.sel 1 O (.sel 1 O (.sel 1 O (.sel 1 O (.tt_in (.sel 2 O (.nil _)))))))))
 refine aC ?_
 exact aF (s := b9) (b5.1, b5.2) ⟨O, O, O, trivial⟩ (.sel 0 O (.sel 0 O (.sel 0 O (.sel 0 O (.sel' 0 O (ap.mk c6) (.sel 0 O (.tt_in (.sel 1 O (.nil _)))))))))
 intro g2 d8
 refine bE (S := (List (cV))) (HA × Option Addr × Nat) (fun s y => [(3, .pointer (some ⟨ad, 0, none⟩)), (5, .slice y.2.1 s.length y.2.2), (6, .pointer (some ⟨b0, 0, none⟩))]) (fun s y => [obj b0 43 [.int .i64 e, .int .i64 n, .int .i64 g], obj ad 45 [.bool bs, .int .i64 t, .int .i64 u, .int .i64 z, .int .i64 a, .int .i64 af, .slice b2 c.length b1], obj a0 97 [.map (some p), str a4, .int .i64 a5, .bool a6], obj az 91 [.pointer (some ⟨a0, 0, none⟩), .int .i64 a7, .slice a8 al.length a1, .int .i64 a9, .int .i64 e, .int .i64 n, .int .i64 g, .int .i64 bc, .int .i64 be, .slice br an.length a2, .bool ab], ap 102 11 (dT (y.1)) y.2.1 s y.2.2, am (aj p ao ak q) ai q a3, y.1, F]) ?_ ?_
 refine sr ?_
 refine vq (ar O O underlying45 O O sizeOf32 O) O ?_
 refine vq (ag O O isAgg32 (.obj 1 O O)) O ?_
 refine vq (bD O O O underlying32) O ?_
 refine vm O O (ae (aa ?_))
 refine aT ?_
 refine cC (S := (List (cV)) × Int) (HA × Option Addr × Nat) (fun k s => bZ.l0 c k s.1 s.2) (fun s y => [(3, .pointer (some ⟨ad, 0, none⟩)), (5, .slice y.2.1 s.1.length y.2.2), (6, .pointer (some ⟨b0, 0, none⟩)), (66, .slice b2 c.length b1), (67, .int .i64 (c.length : Int)), (68, .int .i64 s.2)]) (fun s y => [obj b0 43 [.int .i64 e, .int .i64 n, .int .i64 g], obj ad 45 [.bool bs, .int .i64 t, .int .i64 u, .int .i64 z, .int .i64 a, .int .i64 af, .slice b2 c.length b1], obj a0 97 [.map (some p), str a4, .int .i64 a5, .bool a6], obj az 91 [.pointer (some ⟨a0, 0, none⟩), .int .i64 a7, .slice a8 al.length a1, .int .i64 a9, .int .i64 e, .int .i64 n, .int .i64 g, .int .i64 bc, .int .i64 be, .slice br an.length a2, .bool ab], ap 102 11 (dT (y.1)) y.2.1 s.1 y.2.2, am (aj p ao ak q) ai q a3, y.1, F]) (fun _ => by rw [bZ.l0]) ?_ k (g2, 0) (tt, d8.1, d8.2) ⟨O, O, O, O, O, O, trivial⟩ (.sel 0 O (.sel 0 O (.sel 0 O (.sel 0 O (.sel 0 O (.sel 0 O (.tt_in (.sel 1 O (.nil _)))))))))
 intro k d bt
 refine df (by rw [bZ.l0]) ?_
 refine sr ?_
 refine vq (cH O O O) O (ae (aa (ay ?_)))
 refine bf O (fun hp => ?_) (fun hq => ?_)
 refine aC ?_
 refine aa (ay ?_)
 refine aT ?_
 refine sr ?_
 refine bh (fun c8 => ?_)
 obtain ⟨hr, hc, hs, e6, e7, g3, hcell64v⟩ := RdV.pos g0 (Up.refl _) rfl (i := d.2.toNat) (by omega) aL
 obtain ⟨c1, c2, rfl, ⟨e8, e9, fn⟩⟩ := e7
 refine vq (dC O O O e6 underlying32 sizeOf35 c8.1 c8.2) O ?_
 refine vq (cf O O isAgg35 sizeOf35 O (fun j v hj => hcell64v 7 O j v hj)) O ?_
 refine ah (bL O zeroValue35 O) O O O ?_
 intro c3
 refine aU (aH 0 O O O sizeOf35 O O (aM (by rfl)) O O) O O ?_
 intro _
 refine nx ?_
 refine vq (ar O O underlying35 O O sizeOf33 O) O ?_
 refine vq (ag O O isAgg33 (.obj 0 O O)) O ?_
 refine aw (fun x fp => ?_)
 refine ah (av (vs := [.slice c1 (((c.getD d.2.toNat aL).2.2.2).length) c2]) (cap := []) (A := []) (rst := [obj c3 35 [.int .i64 ((c.getD d.2.toNat aL).1), .int .i64 ((c.getD d.2.toNat aL).2.1), .int .i64 ((c.getD d.2.toNat aL).2.2.1), .slice c1 (((c.getD d.2.toNat aL).2.2.2).length) c2], obj b0 43 [.int .i64 e, .int .i64 n, .int .i64 g], obj ad 45 [.bool bs, .int .i64 t, .int .i64 u, .int .i64 z, .int .i64 a, .int .i64 af, .slice b2 c.length b1], obj a0 97 [.map (some p), str a4, .int .i64 a5, .bool a6], obj az 91 [.pointer (some ⟨a0, 0, none⟩), .int .i64 a7, .slice a8 al.length a1, .int .i64 a9, .int .i64 e, .int .i64 n, .int .i64 g, .int .i64 bc, .int .i64 be, .slice br an.length a2, .bool ab], ap 102 11 (dT (bt.1)) bt.2.1 d.1 bt.2.2, am (aj p ao ak q) ai q a3, bt.1, F]) O O O O O O call82 (.sel 0 O (.sel 0 O (.sel 0 O (.sel 0 O (.sel 0 O (.sel 0 O (.sel 0 O (.sel 0 O (.sel 0 O (.nil _)))))))))) (bX.calls _ _ c1 c2 ((c.getD d.2.toNat aL).2.2.2) (e8.lend 8 O) e9 fn) fp) O O O ?_
 intro w
 refine vq (ar O O underlying35 O O sizeOf33 O) O ?_
 refine aU (aH 1 O O O sizeOf33 O O (aM (by rfl)) O O) O O ?_
 intro _
 refine ny ?_
 refine vm O O ?_
 refine vq (bU 1 O O isAgg35 sizeOf35 O O) O ?_
 refine vq (cx (v := .agg #[.int .i64 2, .int .i64 0, .int .i64 0, .int .i64 0, .int .i64 0, .int .i64 0, .int .i64 0, .int .i64 ((c.getD d.2.toNat aL).1), .int .i64 ((c.getD d.2.toNat aL).2.1), .int .i64 ((c.getD d.2.toNat aL).2.2.1), .slice w.1 x.length w.2]) O O (fun _ => by kernel_rfl)) O ?_
 refine bd 0 O (fun fr fs fz he => ?_)
 have ch : bx 11 (dT (Row 5 1 w.1 x.length w.2 (ax x))) ([((2 : Int), (0 : Int), (0 : Int), (0 : Int), (0 : Int), (0 : Int), (0 : Int), (c.getD d.2.toNat aL).1, (c.getD d.2.toNat aL).2.1, (c.getD d.2.toNat aL).2.2.1, x)] : List (cV)) [[.int .i64 2, .int .i64 0, .int .i64 0, .int .i64 0, .int .i64 0, .int .i64 0, .int .i64 0, .int .i64 ((c.getD d.2.toNat aL).1), .int .i64 ((c.getD d.2.toNat aL).2.1), .int .i64 ((c.getD d.2.toNat aL).2.2.1), .slice w.1 x.length w.2]] := ⟨⟨rfl, aM (by rfl), ⟨w.1, w.2, rfl, ⟨fr, fs, fz⟩⟩⟩, trivial⟩
 refine ah (eB (V := (dT (Row 5 1 w.1 x.length w.2 (ax x)))) (xs := ([((2 : Int), (0 : Int), (0 : Int), (0 : Int), (0 : Int), (0 : Int), (0 : Int), (c.getD d.2.toNat aL).1, (c.getD d.2.toNat aL).2.1, (c.getD d.2.toNat aL).2.2.1, x)] : List (cV))) [[.int .i64 2, .int .i64 0, .int .i64 0, .int .i64 0, .int .i64 0, .int .i64 0, .int .i64 0, .int .i64 ((c.getD d.2.toNat aL).1), .int .i64 ((c.getD d.2.toNat aL).2.1), .int .i64 ((c.getD d.2.toNat aL).2.2.1), .slice w.1 x.length w.2]] O O underlying99 iz O (by kernel_rfl) O ch O O) O O O ?_
 intro d9
 refine bg 7 O (fun c9 go => ?_)
 refine bR (H' := [aP [Row 5 1 w.1 x.length w.2 (ax x), bt.1], Row 102 11 (some ⟨d9, 0, none⟩) ([((2 : Int), (0 : Int), (0 : Int), (0 : Int), (0 : Int), (0 : Int), (0 : Int), (c.getD d.2.toNat aL).1, (c.getD d.2.toNat aL).2.1, (c.getD d.2.toNat aL).2.2.1, x)] : List (cV)).length 1 [[.int .i64 2, .int .i64 0, .int .i64 0, .int .i64 0, .int .i64 0, .int .i64 0, .int .i64 0, .int .i64 ((c.getD d.2.toNat aL).1), .int .i64 ((c.getD d.2.toNat aL).2.1), .int .i64 ((c.getD d.2.toNat aL).2.2.1), .slice w.1 x.length w.2]].flatten, obj c3 35 [.int .i64 ((c.getD d.2.toNat aL).1), .int .i64 ((c.getD d.2.toNat aL).2.1), .int .i64 ((c.getD d.2.toNat aL).2.2.1), .slice w.1 x.length w.2], obj b0 43 [.int .i64 e, .int .i64 n, .int .i64 g], obj ad 45 [.bool bs, .int .i64 t, .int .i64 u, .int .i64 z, .int .i64 a, .int .i64 af, .slice b2 c.length b1], obj a0 97 [.map (some p), str a4, .int .i64 a5, .bool a6], obj az 91 [.pointer (some ⟨a0, 0, none⟩), .int .i64 a7, .slice a8 al.length a1, .int .i64 a9, .int .i64 e, .int .i64 n, .int .i64 g, .int .i64 bc, .int .i64 be, .slice br an.length a2, .bool ab], Row 102 11 bt.2.1 d.1.length bt.2.2 c9.flatten, am (aj p ao ak q) ai q a3, F]) (Ent.trans (m := [Row 5 1 w.1 x.length w.2 (ax x), bt.1, Row 102 11 (some ⟨d9, 0, none⟩) ([((2 : Int), (0 : Int), (0 : Int), (0 : Int), (0 : Int), (0 : Int), (0 : Int), (c.getD d.2.toNat aL).1, (c.getD d.2.toNat aL).2.1, (c.getD d.2.toNat aL).2.2.1, x)] : List (cV)).length 1 [[.int .i64 2, .int .i64 0, .int .i64 0, .int .i64 0, .int .i64 0, .int .i64 0, .int .i64 0, .int .i64 ((c.getD d.2.toNat aL).1), .int .i64 ((c.getD d.2.toNat aL).2.1), .int .i64 ((c.getD d.2.toNat aL).2.2.1), .slice w.1 x.length w.2]].flatten, obj c3 35 [.int .i64 ((c.getD d.2.toNat aL).1), .int .i64 ((c.getD d.2.toNat aL).2.1), .int .i64 ((c.getD d.2.toNat aL).2.2.1), .slice w.1 x.length w.2], obj b0 43 [.int .i64 e, .int .i64 n, .int .i64 g], obj ad 45 [.bool bs, .int .i64 t, .int .i64 u, .int .i64 z, .int .i64 a, .int .i64 af, .slice b2 c.length b1], obj a0 97 [.map (some p), str a4, .int .i64 a5, .bool a6], obj az 91 [.pointer (some ⟨a0, 0, none⟩), .int .i64 a7, .slice a8 al.length a1, .int .i64 a9, .int .i64 e, .int .i64 n, .int .i64 g, .int .i64 bc, .int .i64 be, .slice br an.length a2, .bool ab], Row 102 11 bt.2.1 d.1.length bt.2.2 c9.flatten, am (aj p ao ak q) ai q a3, F]) (.sel 1 O (.sel 8 O (.sel 0 O (.sel 0 O (.sel 0 O (.sel 0 O (.sel 0 O (.sel 0 O (.sel 0 O (.sel 0 O (.sel 0 O (.nil _)))))))))))) (gq [Row 5 1 w.1 x.length w.2 (ax x), bt.1] _)) ?_
 refine bh (fun gs => ?_)
 refine ah (ej 7 O O O underlying99 iz O (go.mono (dT.up (Up.lend (l := [Row 5 1 w.1 x.length w.2 (ax x), bt.1]) 1 O))) (fI.row (ch.mono (dT.up (Up.lend (l := [Row 5 1 w.1 x.length w.2 (ax x), bt.1]) 0 O))) 1 O) gs) O O O ?_
 intro ea
 refine va O O (ae (bv (aa (aJ ?_))))
 refine vq (cb O O O) O ?_
 refine vm O O (ae ?_)
 exact bV (s := (d.1 ++ ([((2 : Int), (0 : Int), (0 : Int), (0 : Int), (0 : Int), (0 : Int), (0 : Int), (c.getD d.2.toNat aL).1, (c.getD d.2.toNat aL).2.1, (c.getD d.2.toNat aL).2.2.1, x)] : List (cV)), IntKind.i64.wrap (d.2 + 1))) (aP [Row 5 1 w.1 x.length w.2 (ax x), bt.1], ea.1, ea.2) ⟨O, O, O, O, O, O, trivial⟩ (.sel 3 O (.sel 3 O (.sel 3 O (.sel 3 O (.sel 3 O (.sel 3 O (.sel 0 O (.sel 2 O (.nil _)))))))))
 refine cN ?_
 refine ct ?_
 refine cD ?_
 refine cu ?_
 exact aF (s := d.1) (bt.1, bt.2.1, bt.2.2) ⟨O, O, O, trivial⟩ (.sel 0 O (.sel 0 O (.sel 0 O (.sel 0 O (.sel 0 O (.sel 0 O (.sel 0 O (.sel 0 O (.nil _)))))))))
 intro b7 b3
 refine bE (S := (List (cV))) (HA × Option Addr × Nat) (fun s y => [(5, .slice y.2.1 s.length y.2.2)]) (fun s y => [obj a0 97 [.map (some p), str a4, .int .i64 a5, .bool a6], obj az 91 [.pointer (some ⟨a0, 0, none⟩), .int .i64 a7, .slice a8 al.length a1, .int .i64 a9, .int .i64 e, .int .i64 n, .int .i64 g, .int .i64 bc, .int .i64 be, .slice br an.length a2, .bool ab], ap 102 11 (dT (y.1)) y.2.1 s y.2.2, am (aj p ao ak q) ai q a3, y.1, F]) ?_ ?_
 refine sr ?_
 refine vq (ar O O underlying45 O O sizeOf4 O) O ?_
 refine vq (ag O O isAgg4 (.obj 1 O O)) O ?_
 refine vm O O ?_
 refine au (b := bs) (fun g4 => RQ.sub (E' := [(3, .pointer (some ⟨ad, 0, none⟩))]) ⟨O, trivial⟩ (ar O O underlying45 O O sizeOf43 O)) O O O O O ?_
 refine au (b := bs) (fun eb => RQ.sub (E' := [(85, .pointer (some ⟨ad, 1, none⟩))]) ⟨aE O eb, trivial⟩ (ar O O underlying43 O O sizeOf3 O)) O O O O O ?_
 refine au (b := bs) (fun ec => RQ.sub (E' := [(86, .pointer (some ⟨ad, 3, none⟩))]) ⟨aE O ec, trivial⟩ (ag O O isAgg3 (.obj 1 O O))) O O O O O ?_
 refine au (b := bs) (fun g5 => RQ.sub (E' := [(6, .pointer (some ⟨b0, 0, none⟩))]) ⟨O, trivial⟩ (ar O O underlying43 O O sizeOf3 O)) O O O O O ?_
 refine au (b := bs) (fun ed => RQ.sub (E' := [(88, .pointer (some ⟨b0, 2, none⟩))]) ⟨aE O ed, trivial⟩ (ag O O isAgg3 (.obj 0 O O))) O O O O O ?_
 refine au (b := bs) (fun cs => RQ.sub (E' := [(87, .int .i64 z), (89, .int .i64 g)]) ⟨aE O cs, aE O cs, trivial⟩ (cZ O O O)) O O O O O ?_
 refine vq (db O O O) O (ae (aa ?_))
 refine aY O (fun ht => ?_) (fun hu => ?_)
 refine aJ ?_
 refine vm O O ?_
 refine vq (ar O O underlying45 O O sizeOf43 O) O ?_
 refine vq (cf (vs := [.int .i64 t, .int .i64 u, .int .i64 z]) O O isAgg43 sizeOf43 O (cM 1 O (cz O))) O ?_
 refine vq (cx (v := .agg #[.int .i64 1, .int .i64 0, .int .i64 t, .int .i64 u, .int .i64 z, .int .i64 0, .int .i64 0, .int .i64 0, .int .i64 0, .int .i64 0, .slice none 0 0]) O O (fun _ => by kernel_rfl)) O ?_
 have c0 : bx 11 (dT (tt)) ([((1 : Int), (0 : Int), t, u, z, (0 : Int), (0 : Int), (0 : Int), (0 : Int), (0 : Int), ([] : List UInt8))] : List (cV)) [[.int .i64 1, .int .i64 0, .int .i64 t, .int .i64 u, .int .i64 z, .int .i64 0, .int .i64 0, .int .i64 0, .int .i64 0, .int .i64 0, .slice none 0 0]] := ⟨⟨rfl, aM (by rfl), ⟨none, 0, rfl, ⟨Rd.nil _ _, Nat.le_refl _, Nat.zero_le _⟩⟩⟩, trivial⟩
 refine ah (eB (V := (dT (tt))) (xs := ([((1 : Int), (0 : Int), t, u, z, (0 : Int), (0 : Int), (0 : Int), (0 : Int), (0 : Int), ([] : List UInt8))] : List (cV))) [[.int .i64 1, .int .i64 0, .int .i64 t, .int .i64 u, .int .i64 z, .int .i64 0, .int .i64 0, .int .i64 0, .int .i64 0, .int .i64 0, .slice none 0 0]] O O underlying99 iz O (by kernel_rfl) O c0 O O) O O O ?_
 intro ee
 refine bg 5 O (fun dl gy => ?_)
 refine bR (H' := [aP [tt, b3.1], Row 102 11 (some ⟨ee, 0, none⟩) ([((1 : Int), (0 : Int), t, u, z, (0 : Int), (0 : Int), (0 : Int), (0 : Int), (0 : Int), ([] : List UInt8))] : List (cV)).length 1 [[.int .i64 1, .int .i64 0, .int .i64 t, .int .i64 u, .int .i64 z, .int .i64 0, .int .i64 0, .int .i64 0, .int .i64 0, .int .i64 0, .slice none 0 0]].flatten, obj b0 43 [.int .i64 e, .int .i64 n, .int .i64 g], obj ad 45 [.bool bs, .int .i64 t, .int .i64 u, .int .i64 z, .int .i64 a, .int .i64 af, .slice b2 c.length b1], obj a0 97 [.map (some p), str a4, .int .i64 a5, .bool a6], obj az 91 [.pointer (some ⟨a0, 0, none⟩), .int .i64 a7, .slice a8 al.length a1, .int .i64 a9, .int .i64 e, .int .i64 n, .int .i64 g, .int .i64 bc, .int .i64 be, .slice br an.length a2, .bool ab], Row 102 11 b3.2.1 b7.length b3.2.2 dl.flatten, am (aj p ao ak q) ai q a3, F]) (Ent.trans (m := [tt, b3.1, Row 102 11 (some ⟨ee, 0, none⟩) ([((1 : Int), (0 : Int), t, u, z, (0 : Int), (0 : Int), (0 : Int), (0 : Int), (0 : Int), ([] : List UInt8))] : List (cV)).length 1 [[.int .i64 1, .int .i64 0, .int .i64 t, .int .i64 u, .int .i64 z, .int .i64 0, .int .i64 0, .int .i64 0, .int .i64 0, .int .i64 0, .slice none 0 0]].flatten, obj b0 43 [.int .i64 e, .int .i64 n, .int .i64 g], obj ad 45 [.bool bs, .int .i64 t, .int .i64 u, .int .i64 z, .int .i64 a, .int .i64 af, .slice b2 c.length b1], obj a0 97 [.map (some p), str a4, .int .i64 a5, .bool a6], obj az 91 [.pointer (some ⟨a0, 0, none⟩), .int .i64 a7, .slice a8 al.length a1, .int .i64 a9, .int .i64 e, .int .i64 n, .int .i64 g, .int .i64 bc, .int .i64 be, .slice br an.length a2, .bool ab], Row 102 11 b3.2.1 b7.length b3.2.2 dl.flatten, am (aj p ao ak q) ai q a3, F]) (.tt_in (.sel 7 O (.sel 0 O (.sel 0 O (.sel 0 O (.sel 0 O (.sel 0 O (.sel 0 O (.sel 0 O (.sel 0 O (.nil _))))))))))) (gq [tt, b3.1] _)) ?_
 refine bh (fun ef => ?_)
 refine ah (ej 6 O O O underlying99 iz O (gy.mono (dT.up (Up.lend (l := [tt, b3.1]) 1 O))) (fI.row (c0.mono (dT.up (Up.lend (l := [tt, b3.1]) 0 O))) 1 O) ef) O O O ?_
 intro ds
 refine va O O (ae ?_)
 exact aF (s := b7 ++ ([((1 : Int), (0 : Int), t, u, z, (0 : Int), (0 : Int), (0 : Int), (0 : Int), (0 : Int), ([] : List UInt8))] : List (cV))) (aP [tt, b3.1], ds.1, ds.2) ⟨O, trivial⟩ (.sel 4 O (.sel 4 O (.sel 4 O (.sel 4 O (.sel 0 O (.sel 3 O (.nil _)))))))
 refine aC ?_
 exact aF (s := b7) (b3.1, b3.2.1, b3.2.2) ⟨O, trivial⟩ (.sel 2 O (.sel 2 O (.sel 2 O (.sel 2 O (.sel 2 O (.sel 2 O (.nil _)))))))
 intro hv c4
 refine sr ?_
 refine vm O O ?_
 refine va O O (ae (aa (aA ?_)))
 exact aD (c4.2.1, c4.2.2, c4.1) O O O (.sel 2 O (.sel 3 O (.sel 0 O (.sel 1 O (.sel 0 O (.sel 0 O (.nil _)))))))
end Go.Proofs.YtndjkejhacfpdaaGreatDoor

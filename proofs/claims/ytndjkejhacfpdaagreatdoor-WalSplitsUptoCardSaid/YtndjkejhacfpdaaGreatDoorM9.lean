/- Texts that lead to the law WalSplits: G, Pl1, PlWire, PlWire2, PlGen, PlRd, PlWt, PlCd, PlCd2, PlCd3, PlMap, PlDk0, PlDk1, Rw, Rw2, Rw3, PlDkF, PlFr, PlFr2, PlNm, PlWl1, PlWl2. Conditions: as each says. -/
import Derived.Test.YtndjkejhacfpdaaGreatDoorM8
import Derived.Laws.BitsLemmas
import Derived.SizedLaws
import Derived.Test.YtndjkejhacfpdaaGreatDoorRows
import Derived.ProofKit
import Derived.OpenShut
import Derived.ShutString
import Derived.ChangeOld
import Derived.Deep.CondSized
import Derived.JoinedCond
import Derived.Lib.ItoaMem
import Derived.Lib.Repeat
import Derived.Lib.SlTrimSet
namespace Go.Proofs.YtndjkejhacfpdaaGreatDoor
open Go.RowKit _root_.Go.Proofs.Tryz
set_option linter.unusedVariables false
set_option linter.unusedSimpArgs false
set_option maxRecDepth 20000
set_option maxHeartbeats 20000000
def dK.l0 (a : List (aG)) : Nat → Int → List (bz) → Option ((List (bz)))
  | 0, _, _ => none
  | k + 1, b, c => if b < (a.length : Int) then (if 0 ≤ b ∧ b < (a.length : Int) then ((bX.f ((a.getD b.toNat aB).2.2.2.1)).bind fun d => (if (c.length + ([((a.getD b.toNat aB).1, (a.getD b.toNat aB).2.1, (a.getD b.toNat aB).2.2.1, d)] : List (bz)).length) * 48 ≤ 140737488355328 then (dK.l0 a k (IntKind.i64.wrap (b + 1)) (c ++ ([((a.getD b.toNat aB).1, (a.getD b.toNat aB).2.1, (a.getD b.toNat aB).2.2.1, d)] : List (bz)))) else none)) else none) else (some c)
def dK.f (k : Nat) (a : Int) (b : Int) (c : Int) (d : Int) (e : Int) (g : List (aG)) : Option (Int × Int × Int × Int × Int × (List (bz))) := (dK.l0 g k 0 ([] : List (bz))).bind fun h => (some (a, b, c, d, e, h))
theorem dK.calls (W : World) (F : HA) (k : Nat) (b0 : Nat) (e : Int) (g : Int) (h : Int) (n : Int) (p : Int) (u : Option Addr) (t : Nat) (a : List (aG)) (b2 : RdV F 5 (aQ F) u a) (b4 : a.length ≤ t) (b5 : t ≤ maxLen) :
    Fn Tryz.prog W 54 [.pointer (some ⟨b0, 0, none⟩)] [obj b0 89 [.int .i64 e, .int .i64 g, .int .i64 h, .int .i64 n, .int .i64 p, .slice u a.length t]] F (dK.f k e g h n p a) (fun (r : Int × Int × Int × Int × Int × (List (bz))) (y : Option Addr × Nat × HA) => .agg #[.int .i64 r.1, .int .i64 r.2.1, .int .i64 r.2.2.1, .int .i64 r.2.2.2.1, .int .i64 r.2.2.2.2.1, .slice y.1 r.2.2.2.2.2.length y.2.1]) (fun r y => [ap 35 4 (V35 (y.2.2)) y.1 r.2.2.2.2.2 y.2.1, y.2.2, obj b0 89 [.int .i64 e, .int .i64 g, .int .i64 h, .int .i64 n, .int .i64 p, .slice u a.length t]]) := by
 unfold dK.f
 refine aN 43 Tryz.func54 O Tryz.ntmps54 O ?_
 refine sr ?_
 refine ah (bL O zeroValue47 O) O O O ?_
 intro w
 refine ae (aa (ay ?_))
 refine bb (Γ := Nat) 0 [[], [0], [0, 1], [0, 1, 2], [], [4], [4, 5], [4, 5, 6], [], [8], [8, 9], [8, 9, 10], rL 12, [], rL 14] [13, 14] [0, 1, 2, 3, 4, 5, 6, 7, 8, 9, 10, 11, 12] (fun i => [[0, 1], [0, 1], [0, 1], [0, 1], [0, 1], [0, 1], [0, 1], [0, 1], [0, 1], [0, 1], [0, 1], [0, 1], [0, 1], [], []].getD i []) (fun i => [[], [], [], [], [], [], [], [], [], [], [], [], [], rL 13, rL 14].getD i []) (fun γ i => [.pointer (some ⟨b0, 0, none⟩), .pointer (some ⟨b0, 0, none⟩), .pointer (some ⟨b0, 0, none⟩), .agg #[.int .i64 e, .int .i64 g, .int .i64 h], .pointer (some ⟨b0, 0, none⟩), .pointer (some ⟨b0, 0, none⟩), .pointer (some ⟨b0, 3, none⟩), .int .i64 n, .pointer (some ⟨b0, 0, none⟩), .pointer (some ⟨b0, 0, none⟩), .pointer (some ⟨b0, 4, none⟩), .int .i64 p, .agg #[.int .i64 e, .int .i64 g, .int .i64 h, .int .i64 n, .int .i64 p, .slice none 0 0], .pointer (some ⟨γ, 0, none⟩), undef].getD i undef) (fun j γ => [[obj w 47 [.int .i64 0, .int .i64 0, .int .i64 0, .int .i64 0, .int .i64 0, .slice none 0 0], obj b0 89 [.int .i64 e, .int .i64 g, .int .i64 h, .int .i64 n, .int .i64 p, .slice u a.length t], F], [obj γ 47 [.int .i64 0, .int .i64 0, .int .i64 0, .int .i64 0, .int .i64 0, .slice none 0 0], obj w 47 [.int .i64 0, .int .i64 0, .int .i64 0, .int .i64 0, .int .i64 0, .slice none 0 0], obj b0 89 [.int .i64 e, .int .i64 g, .int .i64 h, .int .i64 n, .int .i64 p, .slice u a.length t], F], [obj γ 47 [.int .i64 e, .int .i64 g, .int .i64 h, .int .i64 n, .int .i64 p, .slice none 0 0], obj w 47 [.int .i64 0, .int .i64 0, .int .i64 0, .int .i64 0, .int .i64 0, .slice none 0 0], obj b0 89 [.int .i64 e, .int .i64 g, .int .i64 h, .int .i64 n, .int .i64 p, .slice u a.length t], F]].getD j []) (fun γ => [(0, .pointer (some ⟨b0, 0, none⟩)), (2, .pointer (some ⟨w, 0, none⟩)), (3, .pointer (some ⟨γ, 0, none⟩))]) mixed (by decide) (by decide) (by decide) (by decide) (by decide) (by decide) (by decide) 43 O (by decide) (by decide) (by decide) (Ent.refl _) ?_ ?_ (fun _ => ⟨O, O, O, trivial⟩) ?_
 exact (ac (fun γ => (ac (qm O (.o (s := 0) O (by decide) .nil) O) (ac (qm O (.o (s := 0) O (by decide) .nil) O) zA))) (ac (fun γ => (ac (qp O O (.v 0 O O .nil) (aX O O) O) (ac (qp O O (.v 0 O O .nil) (aX O O) O) zA))) (ac (fun γ => (ac (qp O O (.v 1 O O .nil) (ar O O underlying89 O O sizeOf43 O) O) (ac (qp O O (.v 1 O O .nil) (ar O O underlying89 O O sizeOf43 O) O) zA))) (ac (fun γ => (ac (qp O O (.v 2 O O .nil) (cf (vs := [.int .i64 e, .int .i64 g, .int .i64 h]) O O isAgg43 sizeOf43 O (cM 1 O (cz O))) O) (ac (qp O O (.v 2 O O .nil) (cf (vs := [.int .i64 e, .int .i64 g, .int .i64 h]) O O isAgg43 sizeOf43 O (cM 2 O (cz O))) O) zA))) (ac (fun γ => (ac (qm O (.o (s := 0) O (by decide) .nil) O) (ac (qm O (.o (s := 0) O (by decide) .nil) O) zA))) (ac (fun γ => (ac (qp O O (.v 4 O O .nil) (aX O O) O) (ac (qp O O (.v 4 O O .nil) (aX O O) O) zA))) (ac (fun γ => (ac (qp O O (.v 5 O O .nil) (ar O O underlying89 O O sizeOf3 O) O) (ac (qp O O (.v 5 O O .nil) (ar O O underlying89 O O sizeOf3 O) O) zA))) (ac (fun γ => (ac (qp O O (.v 6 O O .nil) (ag O O isAgg3 (.obj 1 O O)) O) (ac (qp O O (.v 6 O O .nil) (ag O O isAgg3 (.obj 2 O O)) O) zA))) (ac (fun γ => (ac (qm O (.o (s := 0) O (by decide) .nil) O) (ac (qm O (.o (s := 0) O (by decide) .nil) O) zA))) (ac (fun γ => (ac (qp O O (.v 8 O O .nil) (aX O O) O) (ac (qp O O (.v 8 O O .nil) (aX O O) O) zA))) (ac (fun γ => (ac (qp O O (.v 9 O O .nil) (ar O O underlying89 O O sizeOf3 O) O) (ac (qp O O (.v 9 O O .nil) (ar O O underlying89 O O sizeOf3 O) O) zA))) (ac (fun γ => (ac (qp O O (.v 10 O O .nil) (ag O O isAgg3 (.obj 1 O O)) O) (ac (qp O O (.v 10 O O .nil) (ag O O isAgg3 (.obj 2 O O)) O) zA))) (ac (fun γ => (ac (qp O O (.v 3 O O (.v 7 O O (.v 11 O O .nil))) (cx (v := .agg #[.int .i64 e, .int .i64 g, .int .i64 h, .int .i64 n, .int .i64 p, .slice none 0 0]) O O (fun _ => by kernel_rfl)) O) (ac (qp O O (.v 3 O O (.v 7 O O (.v 11 O O .nil))) (cx (v := .agg #[.int .i64 e, .int .i64 g, .int .i64 h, .int .i64 n, .int .i64 p, .slice none 0 0]) O O (fun _ => by kernel_rfl)) O) zA))) zA)))))))))))))
 exact (ac (fun γ => eo (Z := Nat) (fun z => z) O O .nil (bL O zeroValue47 O) (fun _ => ⟨O, O, O, O, O, O, O, O, O, O, O, O, O, trivial⟩) (fun _ => .inr O) (fun z => Ent.refl _)) (ac (fun γ => eo (Z := Unit) (fun z => γ) O O (.v 13 O O (.v 12 O O .nil)) (aH 0 O O O sizeOf47 O O (aM (by rfl)) O O) (fun _ => ⟨O, O, O, O, O, O, O, O, O, O, O, O, O, O, trivial⟩) (fun _ => .inl O) (fun z => Ent.refl _)) zA))
 intro af
 refine aa ?_
 refine bE (S := (List (bz))) (HA × Option Addr × Nat) (fun s y => [(2, .pointer (some ⟨w, 0, none⟩)), (3, .pointer (some ⟨af, 0, none⟩))]) (fun s y => [obj af 47 [.int .i64 e, .int .i64 g, .int .i64 h, .int .i64 n, .int .i64 p, .slice y.2.1 s.length y.2.2], obj w 47 [.int .i64 0, .int .i64 0, .int .i64 0, .int .i64 0, .int .i64 0, .slice none 0 0], obj b0 89 [.int .i64 e, .int .i64 g, .int .i64 h, .int .i64 n, .int .i64 p, .slice u a.length t], ap 35 4 (V35 (y.1)) y.2.1 s y.2.2, y.1, F]) ?_ ?_
 refine sr ?_
 refine vm O O ?_
 refine vn O O ?_
 refine vq (ar O O underlying89 O O sizeOf87 O) O ?_
 refine vq (ag O O isAgg87 (.obj 2 O O)) O ?_
 refine vq (bD O O O underlying87) O ?_
 refine vm O O (ae (aa ?_))
 refine aT ?_
 refine cC (S := Int × (List (bz))) (HA × Option Addr × Nat) (fun k s => dK.l0 a k s.1 s.2) (fun s y => [(2, .pointer (some ⟨w, 0, none⟩)), (3, .pointer (some ⟨af, 0, none⟩)), (23, .slice u a.length t), (24, .int .i64 (a.length : Int)), (25, .int .i64 s.1)]) (fun s y => [obj af 47 [.int .i64 e, .int .i64 g, .int .i64 h, .int .i64 n, .int .i64 p, .slice y.2.1 s.2.length y.2.2], obj w 47 [.int .i64 0, .int .i64 0, .int .i64 0, .int .i64 0, .int .i64 0, .slice none 0 0], obj b0 89 [.int .i64 e, .int .i64 g, .int .i64 h, .int .i64 n, .int .i64 p, .slice u a.length t], ap 35 4 (V35 (y.1)) y.2.1 s.2 y.2.2, y.1, F]) (fun _ => by rw [dK.l0]) ?_ k (0, ([] : List (bz))) (tt, none, 0) ⟨O, O, O, O, O, trivial⟩ (.sel 0 O (.sel 0 O (.sel 0 O (.rowV_nil (.tt_in (.sel 0 O (.nil _)))))))
 intro k b q
 refine df (by rw [dK.l0]) ?_
 refine sr ?_
 refine vq (cH O O O) O (ae (aa (ay ?_)))
 refine bf O (fun b8 => ?_) (fun b9 => ?_)
 refine aC ?_
 refine aa (ay ?_)
 refine aT ?_
 refine sr ?_
 refine bh (fun a2 => ?_)
 obtain ⟨cd, b6, ch, a5, a6, b3, hcell19v⟩ := RdV.pos b2 (Up.refl _) rfl (i := b.1.toNat) (by omega) aB
 obtain ⟨ab, ad, rfl, ⟨a7, a8, a9⟩⟩ := a6
 refine vq (dC O O O a5 underlying87 sizeOf144 a2.1 a2.2) O ?_
 refine vq (cf O O isAgg144 sizeOf144 O (fun j v hj => hcell19v 5 O j v hj)) O ?_
 refine ah (bL O zeroValue144 O) O O O ?_
 intro an
 refine aU (aH 0 O O O sizeOf144 O O (aM (by rfl)) O O) O O ?_
 intro _
 refine nx ?_
 refine vq (ar O O underlying144 O O sizeOf35 O) O ?_
 refine vq (cf (vs := [.int .i64 ((a.getD b.1.toNat aB).1), .int .i64 ((a.getD b.1.toNat aB).2.1), .int .i64 ((a.getD b.1.toNat aB).2.2.1), .slice ab (((a.getD b.1.toNat aB).2.2.2.1).length) ad]) O O isAgg35 sizeOf35 O (cM 0 O (cz O))) O ?_
 refine ah (bL O zeroValue35 O) O O O ?_
 intro az
 refine aU (aH 0 O O O sizeOf35 O O (aM (by rfl)) O O) O O ?_
 intro _
 refine nx ?_
 refine vq (ar O O underlying35 O O sizeOf33 O) O ?_
 refine vq (ag O O isAgg33 (.obj 0 O O)) O ?_
 refine aw (fun d bc => ?_)
 refine ah (av (vs := [.slice ab (((a.getD b.1.toNat aB).2.2.2.1).length) ad]) (cap := []) (A := []) (rst := [obj az 35 [.int .i64 ((a.getD b.1.toNat aB).1), .int .i64 ((a.getD b.1.toNat aB).2.1), .int .i64 ((a.getD b.1.toNat aB).2.2.1), .slice ab (((a.getD b.1.toNat aB).2.2.2.1).length) ad], obj an 144 [.int .i64 ((a.getD b.1.toNat aB).1), .int .i64 ((a.getD b.1.toNat aB).2.1), .int .i64 ((a.getD b.1.toNat aB).2.2.1), .slice ab (((a.getD b.1.toNat aB).2.2.2.1).length) ad, .int .i64 ((a.getD b.1.toNat aB).2.2.2.2)], obj af 47 [.int .i64 e, .int .i64 g, .int .i64 h, .int .i64 n, .int .i64 p, .slice q.2.1 b.2.length q.2.2], obj w 47 [.int .i64 0, .int .i64 0, .int .i64 0, .int .i64 0, .int .i64 0, .slice none 0 0], obj b0 89 [.int .i64 e, .int .i64 g, .int .i64 h, .int .i64 n, .int .i64 p, .slice u a.length t], ap 35 4 (V35 (q.1)) q.2.1 b.2 q.2.2, q.1, F]) O O O O O O call82 (.sel 0 O (.sel 0 O (.sel 0 O (.sel 0 O (.sel 0 O (.sel 0 O (.sel 0 O (.sel 0 O (.nil _))))))))) (bX.calls _ _ ab ad ((a.getD b.1.toNat aB).2.2.2.1) (a7.lend 7 O) a8 a9) bc) O O O ?_
 intro c
 refine vq (ar O O underlying35 O O sizeOf33 O) O ?_
 refine aU (aH 1 O O O sizeOf33 O O (aM (by rfl)) O O) O O ?_
 intro _
 refine ny ?_
 refine vq (ar O O underlying47 O O sizeOf32 O) O ?_
 refine vq (ag O O isAgg32 (.obj 3 O O)) O ?_
 refine vq (bU 1 O O isAgg35 sizeOf35 O O) O ?_
 refine bd 0 O (fun be br bs b7 => ?_)
 have a0 : bx 4 (V35 (Row 5 1 c.1 d.length c.2 (ax d))) ([((a.getD b.1.toNat aB).1, (a.getD b.1.toNat aB).2.1, (a.getD b.1.toNat aB).2.2.1, d)] : List (bz)) [[.int .i64 ((a.getD b.1.toNat aB).1), .int .i64 ((a.getD b.1.toNat aB).2.1), .int .i64 ((a.getD b.1.toNat aB).2.2.1), .slice c.1 d.length c.2]] := ⟨⟨rfl, aM (by rfl), ⟨c.1, c.2, rfl, ⟨be, br, bs⟩⟩⟩, trivial⟩
 refine ah (eB (V := (V35 (Row 5 1 c.1 d.length c.2 (ax d)))) (xs := ([((a.getD b.1.toNat aB).1, (a.getD b.1.toNat aB).2.1, (a.getD b.1.toNat aB).2.2.1, d)] : List (bz))) [[.int .i64 ((a.getD b.1.toNat aB).1), .int .i64 ((a.getD b.1.toNat aB).2.1), .int .i64 ((a.getD b.1.toNat aB).2.2.1), .slice c.1 d.length c.2]] O O underlying32 jV O (by kernel_rfl) O a0 O O) O O O ?_
 intro a1
 refine bg 7 O (fun a3 bt => ?_)
 refine bR (H' := [aP [Row 5 1 c.1 d.length c.2 (ax d), q.1], Row 35 4 (some ⟨a1, 0, none⟩) ([((a.getD b.1.toNat aB).1, (a.getD b.1.toNat aB).2.1, (a.getD b.1.toNat aB).2.2.1, d)] : List (bz)).length 1 [[.int .i64 ((a.getD b.1.toNat aB).1), .int .i64 ((a.getD b.1.toNat aB).2.1), .int .i64 ((a.getD b.1.toNat aB).2.2.1), .slice c.1 d.length c.2]].flatten, obj az 35 [.int .i64 ((a.getD b.1.toNat aB).1), .int .i64 ((a.getD b.1.toNat aB).2.1), .int .i64 ((a.getD b.1.toNat aB).2.2.1), .slice c.1 d.length c.2], obj an 144 [.int .i64 ((a.getD b.1.toNat aB).1), .int .i64 ((a.getD b.1.toNat aB).2.1), .int .i64 ((a.getD b.1.toNat aB).2.2.1), .slice ab (((a.getD b.1.toNat aB).2.2.2.1).length) ad, .int .i64 ((a.getD b.1.toNat aB).2.2.2.2)], obj af 47 [.int .i64 e, .int .i64 g, .int .i64 h, .int .i64 n, .int .i64 p, .slice q.2.1 b.2.length q.2.2], obj w 47 [.int .i64 0, .int .i64 0, .int .i64 0, .int .i64 0, .int .i64 0, .slice none 0 0], obj b0 89 [.int .i64 e, .int .i64 g, .int .i64 h, .int .i64 n, .int .i64 p, .slice u a.length t], Row 35 4 q.2.1 b.2.length q.2.2 a3.flatten, F]) (Ent.trans (m := [Row 5 1 c.1 d.length c.2 (ax d), q.1, Row 35 4 (some ⟨a1, 0, none⟩) ([((a.getD b.1.toNat aB).1, (a.getD b.1.toNat aB).2.1, (a.getD b.1.toNat aB).2.2.1, d)] : List (bz)).length 1 [[.int .i64 ((a.getD b.1.toNat aB).1), .int .i64 ((a.getD b.1.toNat aB).2.1), .int .i64 ((a.getD b.1.toNat aB).2.2.1), .slice c.1 d.length c.2]].flatten, obj az 35 [.int .i64 ((a.getD b.1.toNat aB).1), .int .i64 ((a.getD b.1.toNat aB).2.1), .int .i64 ((a.getD b.1.toNat aB).2.2.1), .slice c.1 d.length c.2], obj an 144 [.int .i64 ((a.getD b.1.toNat aB).1), .int .i64 ((a.getD b.1.toNat aB).2.1), .int .i64 ((a.getD b.1.toNat aB).2.2.1), .slice ab (((a.getD b.1.toNat aB).2.2.2.1).length) ad, .int .i64 ((a.getD b.1.toNat aB).2.2.2.2)], obj af 47 [.int .i64 e, .int .i64 g, .int .i64 h, .int .i64 n, .int .i64 p, .slice q.2.1 b.2.length q.2.2], obj w 47 [.int .i64 0, .int .i64 0, .int .i64 0, .int .i64 0, .int .i64 0, .slice none 0 0], obj b0 89 [.int .i64 e, .int .i64 g, .int .i64 h, .int .i64 n, .int .i64 p, .slice u a.length t], Row 35 4 q.2.1 b.2.length q.2.2 a3.flatten, F]) (.sel 1 O (.sel 7 O (.sel 0 O (.sel 0 O (.sel 0 O (.sel 0 O (.sel 0 O (.sel 0 O (.sel 0 O (.sel 0 O (.nil _))))))))))) (gq [Row 5 1 c.1 d.length c.2 (ax d), q.1] _)) ?_
 refine bh (fun b1 => ?_)
 refine ah (ej 7 O O O underlying32 jV O (bt.mono (V35.up (Up.lend (l := [Row 5 1 c.1 d.length c.2 (ax d), q.1]) 1 O))) (fI.row (a0.mono (V35.up (Up.lend (l := [Row 5 1 c.1 d.length c.2 (ax d), q.1]) 0 O))) 1 O) b1) O O O ?_
 intro al
 refine vq (ar O O underlying47 O O sizeOf32 O) O ?_
 refine aU (aH 4 O O O sizeOf32 O O (aM (by rfl)) O O) O O ?_
 intro _
 refine bR (H' := [aP [Row 5 1 c.1 d.length c.2 (ax d), q.1], Row 35 4 (some ⟨a1, 0, none⟩) ([((a.getD b.1.toNat aB).1, (a.getD b.1.toNat aB).2.1, (a.getD b.1.toNat aB).2.2.1, d)] : List (bz)).length 1 [[.int .i64 ((a.getD b.1.toNat aB).1), .int .i64 ((a.getD b.1.toNat aB).2.1), .int .i64 ((a.getD b.1.toNat aB).2.2.1), .slice c.1 d.length c.2]].flatten, obj az 35 [.int .i64 ((a.getD b.1.toNat aB).1), .int .i64 ((a.getD b.1.toNat aB).2.1), .int .i64 ((a.getD b.1.toNat aB).2.2.1), .slice c.1 d.length c.2], obj an 144 [.int .i64 ((a.getD b.1.toNat aB).1), .int .i64 ((a.getD b.1.toNat aB).2.1), .int .i64 ((a.getD b.1.toNat aB).2.2.1), .slice ab (((a.getD b.1.toNat aB).2.2.2.1).length) ad, .int .i64 ((a.getD b.1.toNat aB).2.2.2.2)], obj af 47 [.int .i64 e, .int .i64 g, .int .i64 h, .int .i64 n, .int .i64 p, .slice al.1 ((b.2 ++ ([((a.getD b.1.toNat aB).1, (a.getD b.1.toNat aB).2.1, (a.getD b.1.toNat aB).2.2.1, d)] : List (bz))).length) al.2], obj w 47 [.int .i64 0, .int .i64 0, .int .i64 0, .int .i64 0, .int .i64 0, .slice none 0 0], obj b0 89 [.int .i64 e, .int .i64 g, .int .i64 h, .int .i64 n, .int .i64 p, .slice u a.length t], ap 35 4 (V35 (aP [Row 5 1 c.1 d.length c.2 (ax d), q.1])) al.1 (b.2 ++ ([((a.getD b.1.toNat aB).1, (a.getD b.1.toNat aB).2.1, (a.getD b.1.toNat aB).2.2.1, d)] : List (bz))) al.2, F]) (Ent.refl _) ?_
 refine ae (bv (aa (aJ ?_)))
 refine vq (cb O O O) O ?_
 refine vm O O (ae ?_)
 exact bV (s := (IntKind.i64.wrap (b.1 + 1), b.2 ++ ([((a.getD b.1.toNat aB).1, (a.getD b.1.toNat aB).2.1, (a.getD b.1.toNat aB).2.2.1, d)] : List (bz)))) (aP [Row 5 1 c.1 d.length c.2 (ax d), q.1], al.1, al.2) ⟨O, O, O, O, O, trivial⟩ (.sel 4 O (.sel 4 O (.sel 4 O (.sel 4 O (.sel 0 O (.sel 3 O (.nil _)))))))
 refine cN ?_
 refine ct ?_
 refine cD ?_
 refine cu ?_
 exact aF (s := b.2) (q.1, q.2.1, q.2.2) ⟨O, O, trivial⟩ (.sel 0 O (.sel 0 O (.sel 0 O (.sel 0 O (.sel 0 O (.sel 0 O (.nil _)))))))
 intro a4 x
 refine sr ?_
 refine vq (bU 0 O O isAgg47 sizeOf47 O O) O ?_
 refine aU (aH 1 O O O sizeOf47 O O (aM (by rfl)) O O) O O ?_
 intro _
 refine bR (H' := [obj af 47 [.int .i64 e, .int .i64 g, .int .i64 h, .int .i64 n, .int .i64 p, .slice x.2.1 a4.length x.2.2], obj w 47 [.int .i64 e, .int .i64 g, .int .i64 h, .int .i64 n, .int .i64 p, .slice x.2.1 a4.length x.2.2], obj b0 89 [.int .i64 e, .int .i64 g, .int .i64 h, .int .i64 n, .int .i64 p, .slice u a.length t], ap 35 4 (V35 (x.1)) x.2.1 a4 x.2.2, x.1, F]) (Ent.refl _) ?_
 refine ae (aa (aA ?_))
 exact gG (vs := [.agg #[.int .i64 e, .int .i64 g, .int .i64 h, .int .i64 n, .int .i64 p, .slice x.2.1 a4.length x.2.2]]) (x.2.1, x.2.2, x.1) O ⟨⟨w, O, fX 1 isAgg47 sizeOf47 O O⟩, trivial⟩ O (.sel 3 O (.sel 3 O (.sel 2 O (.sel 2 O (.nil _)))))

def bO.l0 (x0 : List UInt8) (x1 : List UInt8) : Nat → Int → Option ((Unit) ⊕ (Bool))
  | 0, _ => none
  | k + 1, a => if a < (x0.length : Int) then (if 0 ≤ a ∧ a < (x0.length : Int) then (if 0 ≤ a ∧ a < (x1.length : Int) then (if ((x0.getD a.toNat 0).toNat : Int) = ((x1.getD a.toNat 0).toNat : Int) then (bO.l0 x0 x1 k (IntKind.i64.wrap (a + 1))) else (some (.inr false))) else none) else none) else (some (.inl ()))
def bO.f (k : Nat) (x0 : List UInt8) (x1 : List UInt8) : Option (Bool) := if (x0.length : Int) = (x1.length : Int) then (orR (bO.l0 x0 x1 k 0) fun a => (some true)) else (some false)
theorem bO.calls (W : World) (F : HA) (k : Nat) (a0 : Option Addr) (c0 : Nat) (x0 : List UInt8) (a1 : Option Addr) (c1 : Nat) (x1 : List UInt8) (h0 : Rd F a0 (ax x0)) (t : x0.length ≤ c0) (u : c0 ≤ maxLen) (h1 : Rd F a1 (ax x1)) (w : x1.length ≤ c1) (x : c1 ≤ maxLen) :
    Fn Tryz.prog W 30 [.slice a0 x0.length c0, .slice a1 x1.length c1] [] F (bO.f k x0 x1) (fun (r : Bool) (y : Unit) => .bool r) (fun r y => []) := by
 unfold bO.f
 refine aN 26 Tryz.func30 O Tryz.ntmps30 O ?_
 refine sr ?_
 refine va O O (ae (aa (ay (sr ?_))))
 refine vm O O ?_
 refine vq (bD O O O underlying33) O ?_
 refine vm O O ?_
 refine vq (bD O O O underlying33) O ?_
 refine vq (cZ O O O) O (ae (aa ?_))
 refine cS O (fun z => ?_) (fun ab => ?_)
 refine aC ?_
 refine aa ?_
 refine gp (S := Unit) (Unit) (fun s y => []) (fun s y => [F]) ?_ ?_
 refine sr ?_
 refine va O O (ae (aa ?_))
 refine aT ?_
 refine cC (S := Int) (Unit) (fun k s => bO.l0 x0 x1 k s) (fun s y => [(0, .slice a0 x0.length c0), (1, .slice a1 x1.length c1), (5, .int .i64 s)]) (fun s y => [F]) (fun _ => by rw [bO.l0]) ?_ k 0 () ⟨O, O, O, trivial⟩ (.sel 0 O (.nil _))
 intro k a ad
 refine df (by rw [bO.l0]) ?_
 refine ay (sr ?_)
 refine vm O O ?_
 refine vm O O ?_
 refine vq (bD O O O underlying33) O ?_
 refine vq (cH O O O) O (ae (aa ?_))
 refine bf O (fun af => ?_) (fun al => ?_)
 refine aC ?_
 refine aa (ay ?_)
 refine aT ?_
 refine ay ?_
 refine cU (fun b => ?_)
 obtain ⟨l, g, c⟩ := h0.pos (gA (j := a.toNat) (by omega))
 refine cU (fun d => ?_)
 obtain ⟨m, h, e⟩ := h1.pos (gA (j := a.toNat) (by omega))
 refine bb (Γ := Unit) () [[], [], [0, 1], [0, 1, 2], [], [], [4, 5], [4, 5, 6], rL 8] [] [0, 1, 2, 3, 4, 5, 6, 7, 8] (fun i => [[0], [0], [0], [0], [0], [0], [0], [0], [0]].getD i []) (fun i => [[], [], [], [], [], [], [], [], []].getD i []) (fun γ i => [.slice a0 x0.length c0, .int .i64 a, .pointer (some ⟨l, g + a.toNat, none⟩), .int .u8 ((x0.getD a.toNat 0).toNat : Int), .slice a1 x1.length c1, .int .i64 a, .pointer (some ⟨m, h + a.toNat, none⟩), .int .u8 ((x1.getD a.toNat 0).toNat : Int), .bool (!decide (((x0.getD a.toNat 0).toNat : Int) = ((x1.getD a.toNat 0).toNat : Int)))].getD i undef) (fun j γ => [[F]].getD j []) (fun γ => [(0, .slice a0 x0.length c0), (1, .slice a1 x1.length c1), (5, .int .i64 a), (25, .bool (!decide (((x0.getD a.toNat 0).toNat : Int) = ((x1.getD a.toNat 0).toNat : Int))))]) mixed (by decide) (by decide) (by decide) (by decide) (by decide) (by decide) (by decide) 26 O (by decide) (by decide) (by decide) (Ent.refl _) ?_ ?_ (fun _ => ⟨O, O, O, O, trivial⟩) ?_
 exact (aq O (fun γ => qm O (.o (s := 0) O (by decide) .nil) O) (aq O (fun γ => qm O (.o (s := 5) O (by decide) .nil) O) (aq O (fun γ => qp O O (.v 0 O O (.v 1 O O .nil)) (hJ O O O c underlying33 sizeOf5 b.1 b.2) O) (aq O (fun γ => qp O O (.v 2 O O .nil) (ag O O isAgg5 (h0.cell 0 O c (fQ (by omega)))) O) (aq O (fun γ => qm O (.o (s := 1) O (by decide) .nil) O) (aq O (fun γ => qm O (.o (s := 5) O (by decide) .nil) O) (aq O (fun γ => qp O O (.v 4 O O (.v 5 O O .nil)) (hJ O O O e underlying33 sizeOf5 d.1 d.2) O) (aq O (fun γ => qp O O (.v 6 O O .nil) (ag O O isAgg5 (h1.cell 0 O e (fQ (by omega)))) O) (aq O (fun γ => qp O O (.v 3 O O (.v 7 O O .nil)) (cZ O O O) O) zA)))))))))
 exact zA
 intro n
 refine aa ?_
 refine cS O (fun p => ?_) (fun q => ?_)
 refine aC ?_
 refine bv (aa (aJ ?_))
 refine vm O O ?_
 refine vq (cb O O O) O ?_
 refine va O O (ae ?_)
 exact bV (s := IntKind.i64.wrap (a + 1)) () ⟨O, O, O, trivial⟩ (.sel 0 O (.nil _))
 refine sr ?_
 refine va O O (ae (aa (aA ?_)))
 refine bi ?_
 refine aK ?_
 refine fb ?_
 refine bi ?_
 refine fa ?_
 exact aD () O O O (.sel 0 O (.nil _))
 refine cN ?_
 refine ct ?_
 refine cD ?_
 refine cu ?_
 exact fW (s := ()) () trivial (.sel 0 O (.nil _))
 intro an az
 refine sr ?_
 refine va O O (ae (aa (aA ?_)))
 exact aD () O O O (.sel 0 O (.nil _))
 refine sr ?_
 refine va O O (ae (aa (aA ?_)))
 refine aK ?_
 exact aD () O O O (.sel 0 O (.nil _))

def dY.f (k : Nat) (a : Int) (b : Int) (c : Int) (d : List UInt8) (e : Int) (g : Int) (h : Int) (i : List UInt8) : Option (Bool) := (bO.f k d i).bind fun j => (some (((j && (decide (a = e))) && (decide (b = g))) && (decide (c = h))))
theorem dY.calls (W : World) (F : HA) (k : Nat) (a : Int) (e : Int) (q : Int) (m : Option Addr) (j : Nat) (h : List UInt8) (c : Int) (g : Int) (s : Int) (n : Option Addr) (l : Nat) (i : List UInt8) (az : Rd F m (ax h)) (w : h.length ≤ j) (x : j ≤ maxLen) (a0 : Rd F n (ax i)) (z : i.length ≤ l) (ab : l ≤ maxLen) :
    Fn Tryz.prog W 55 [.agg #[.int .i64 a, .int .i64 e, .int .i64 q, .slice m h.length j], .agg #[.int .i64 c, .int .i64 g, .int .i64 s, .slice n i.length l]] [] F (dY.f k a e q h c g s i) (fun (r : Bool) (y : Unit) => .bool r) (fun r y => []) := by
 unfold dY.f
 refine aN 33 Tryz.func55 O Tryz.ntmps55 O ?_
 refine sr ?_
 refine ah (cy O O O) O O O ?_
 intro o
 refine ah (cy O O O) O O O ?_
 intro p
 refine va O O (nx ?_)
 refine vq (ar O O underlying35 O O sizeOf33 O) O ?_
 refine vq (ag O O isAgg33 (.obj 1 O O)) O ?_
 refine vq (ar O O underlying35 O O sizeOf33 O) O ?_
 refine vq (ag O O isAgg33 (.obj 0 O O)) O ?_
 refine aw (fun d a1 => ?_)
 refine ah (av (vs := [.slice m h.length j, .slice n i.length l]) (cap := []) (A := []) (rst := [obj p 35 [.int .i64 c, .int .i64 g, .int .i64 s, .slice n i.length l], obj o 35 [.int .i64 a, .int .i64 e, .int .i64 q, .slice m h.length j], F]) O O O O O O call30 (.sel 0 O (.sel 0 O (.sel 0 O (.nil _)))) (bO.calls _ _ k m j h n l i (az.lend 2 O) w x (a0.lend 2 O) z ab) a1) O O O ?_
 intro bc
 refine va O O (nx ?_)
 refine vm O O ?_
 refine vm O O ?_
 refine au (b := d) (fun a4 => RQ.sub (E' := [(2, .pointer (some ⟨o, 0, none⟩))]) ⟨O, trivial⟩ (ar O O underlying35 O O sizeOf3 O)) O O O O O ?_
 refine au (b := d) (fun ad => RQ.sub (E' := [(13, .pointer (some ⟨o, 0, none⟩))]) ⟨aE O ad, trivial⟩ (ag O O isAgg3 (.obj 1 O O))) O O O O O ?_
 refine au (b := d) (fun a5 => RQ.sub (E' := [(3, .pointer (some ⟨p, 0, none⟩))]) ⟨O, trivial⟩ (ar O O underlying35 O O sizeOf3 O)) O O O O O ?_
 refine au (b := d) (fun af => RQ.sub (E' := [(15, .pointer (some ⟨p, 0, none⟩))]) ⟨aE O af, trivial⟩ (ag O O isAgg3 (.obj 0 O O))) O O O O O ?_
 refine au (b := d) (fun t => RQ.sub (E' := [(14, .int .i64 a), (16, .int .i64 c)]) ⟨aE O t, aE O t, trivial⟩ (bI O O O)) O O O O O ?_
 refine vq (db O O O) O ?_
 refine vm O O ?_
 refine au (b := d && (decide (a = c))) (fun a6 => RQ.sub (E' := [(2, .pointer (some ⟨o, 0, none⟩))]) ⟨O, trivial⟩ (ar O O underlying35 O O sizeOf3 O)) O O O O O ?_
 refine au (b := d && (decide (a = c))) (fun al => RQ.sub (E' := [(20, .pointer (some ⟨o, 1, none⟩))]) ⟨aE O al, trivial⟩ (ag O O isAgg3 (.obj 1 O O))) O O O O O ?_
 refine au (b := d && (decide (a = c))) (fun a7 => RQ.sub (E' := [(3, .pointer (some ⟨p, 0, none⟩))]) ⟨O, trivial⟩ (ar O O underlying35 O O sizeOf3 O)) O O O O O ?_
 refine au (b := d && (decide (a = c))) (fun an => RQ.sub (E' := [(22, .pointer (some ⟨p, 1, none⟩))]) ⟨aE O an, trivial⟩ (ag O O isAgg3 (.obj 0 O O))) O O O O O ?_
 refine au (b := d && (decide (a = c))) (fun u => RQ.sub (E' := [(21, .int .i64 e), (23, .int .i64 g)]) ⟨aE O u, aE O u, trivial⟩ (bI O O O)) O O O O O ?_
 refine vq (db O O O) O ?_
 refine vm O O ?_
 refine au (b := (d && (decide (a = c))) && (decide (e = g))) (fun a8 => RQ.sub (E' := [(2, .pointer (some ⟨o, 0, none⟩))]) ⟨O, trivial⟩ (ar O O underlying35 O O sizeOf3 O)) O O O O O ?_
 refine au (b := (d && (decide (a = c))) && (decide (e = g))) (fun a2 => RQ.sub (E' := [(27, .pointer (some ⟨o, 2, none⟩))]) ⟨aE O a2, trivial⟩ (ag O O isAgg3 (.obj 1 O O))) O O O O O ?_
 refine au (b := (d && (decide (a = c))) && (decide (e = g))) (fun a9 => RQ.sub (E' := [(3, .pointer (some ⟨p, 0, none⟩))]) ⟨O, trivial⟩ (ar O O underlying35 O O sizeOf3 O)) O O O O O ?_
 refine au (b := (d && (decide (a = c))) && (decide (e = g))) (fun a3 => RQ.sub (E' := [(29, .pointer (some ⟨p, 2, none⟩))]) ⟨aE O a3, trivial⟩ (ag O O isAgg3 (.obj 0 O O))) O O O O O ?_
 refine au (b := (d && (decide (a = c))) && (decide (e = g))) (fun v => RQ.sub (E' := [(28, .int .i64 q), (30, .int .i64 s)]) ⟨aE O v, aE O v, trivial⟩ (bI O O O)) O O O O O ?_
 refine vq (db O O O) O ?_
 refine va O O (ae (aa (aA ?_)))
 exact aD () O O O (.sel 2 O (.nil _))

def bM.l0 (x0 : List (bz)) (x1 : List (bz)) : Nat → Int → Option ((Unit) ⊕ (Bool))
  | 0, _ => none
  | k + 1, a => if a < (x0.length : Int) then (if 0 ≤ a ∧ a < (x0.length : Int) then (if 0 ≤ a ∧ a < (x1.length : Int) then ((dY.f k ((x0.getD a.toNat aL).1) ((x0.getD a.toNat aL).2.1) ((x0.getD a.toNat aL).2.2.1) ((x0.getD a.toNat aL).2.2.2) ((x1.getD a.toNat aL).1) ((x1.getD a.toNat aL).2.1) ((x1.getD a.toNat aL).2.2.1) ((x1.getD a.toNat aL).2.2.2)).bind fun b => (if (!b) = true then (some (.inr false)) else (bM.l0 x0 x1 k (IntKind.i64.wrap (a + 1))))) else none) else none) else (some (.inl ()))
def bM.f (k : Nat) (x0 : List (bz)) (x1 : List (bz)) : Option (Bool) := if (x0.length : Int) = (x1.length : Int) then (orR (bM.l0 x0 x1 k 0) fun a => (some true)) else (some false)
theorem bM.calls (W : World) (F : HA) (k : Nat) (a0 : Option Addr) (c0 : Nat) (x0 : List (bz)) (a1 : Option Addr) (c1 : Nat) (x1 : List (bz)) (h0 : RdV F 4 (V35 F) a0 x0) (bc : x0.length ≤ c0) (be : c0 ≤ maxLen) (h1 : RdV F 4 (V35 F) a1 x1) (br : x1.length ≤ c1) (bs : c1 ≤ maxLen) :
    Fn Tryz.prog W 19 [.slice a0 x0.length c0, .slice a1 x1.length c1] [] F (bM.f k x0 x1) (fun (r : Bool) (y : Unit) => .bool r) (fun r y => []) := by
 unfold bM.f
 refine aN 29 Tryz.func19 O Tryz.ntmps19 O ?_
 refine sr ?_
 refine va O O (ae (aa (ay (sr ?_))))
 refine vm O O ?_
 refine vq (bD O O O underlying32) O ?_
 refine vm O O ?_
 refine vq (bD O O O underlying32) O ?_
 refine vq (cZ O O O) O (ae (aa ?_))
 refine cS O (fun bt => ?_) (fun b0 => ?_)
 refine aC ?_
 refine aa ?_
 refine gp (S := Unit) (Unit) (fun s y => []) (fun s y => [F]) ?_ ?_
 refine sr ?_
 refine va O O (ae (aa ?_))
 refine aT ?_
 refine cC (S := Int) (Unit) (fun k s => bM.l0 x0 x1 k s) (fun s y => [(0, .slice a0 x0.length c0), (1, .slice a1 x1.length c1), (5, .int .i64 s)]) (fun s y => [F]) (fun _ => by rw [bM.l0]) ?_ k 0 () ⟨O, O, O, trivial⟩ (.sel 0 O (.nil _))
 intro k a b1
 refine df (by rw [bM.l0]) ?_
 refine ay (sr ?_)
 refine vm O O ?_
 refine vm O O ?_
 refine vq (bD O O O underlying32) O ?_
 refine vq (cH O O O) O (ae (aa ?_))
 refine bf O (fun b2 => ?_) (fun b3 => ?_)
 refine aC ?_
 refine aa (ay ?_)
 refine aT ?_
 refine ay ?_
 refine cU (fun h => ?_)
 obtain ⟨az, m, a5, n, p, a3, hcell17v⟩ := RdV.pos h0 (Up.refl _) rfl (i := a.toNat) (by omega) aL
 obtain ⟨b, c, rfl, ⟨q, t, u⟩⟩ := p
 refine cU (fun l => ?_)
 obtain ⟨a2, w, a6, x, ab, a4, hcell30v⟩ := RdV.pos h1 (Up.refl _) rfl (i := a.toNat) (by omega) aL
 obtain ⟨d, e, rfl, ⟨ad, af, al⟩⟩ := ab
 refine bp (fun g an => ?_)
 refine bb (Γ := Unit) () [[], [], [0, 1], [0, 1, 2], [], [], [4, 5], [4, 5, 6], rL 8, rL 9] [8] [0, 1, 2, 3, 4, 5, 6, 7, 9] (fun i => [[0], [0], [0], [0], [0], [0], [0], [0], [], [1]].getD i []) (fun i => [[], [], [], [], [], [], [], [], rL 8, []].getD i []) (fun γ i => [.slice a0 x0.length c0, .int .i64 a, .pointer (some ⟨az, m + a.toNat * 4, none⟩), .agg #[.int .i64 ((x0.getD a.toNat aL).1), .int .i64 ((x0.getD a.toNat aL).2.1), .int .i64 ((x0.getD a.toNat aL).2.2.1), .slice b (((x0.getD a.toNat aL).2.2.2).length) c], .slice a1 x1.length c1, .int .i64 a, .pointer (some ⟨a2, w + a.toNat * 4, none⟩), .agg #[.int .i64 ((x1.getD a.toNat aL).1), .int .i64 ((x1.getD a.toNat aL).2.1), .int .i64 ((x1.getD a.toNat aL).2.2.1), .slice d (((x1.getD a.toNat aL).2.2.2).length) e], .bool g, .bool g].getD i undef) (fun j γ => [[F], [F]].getD j []) (fun γ => [(0, .slice a0 x0.length c0), (1, .slice a1 x1.length c1), (5, .int .i64 a), (6, .bool g)]) mixed (by decide) (by decide) (by decide) (by decide) (by decide) (by decide) (by decide) 29 O (by decide) (by decide) (by decide) (Ent.refl _) ?_ ?_ (fun _ => ⟨O, O, O, O, trivial⟩) ?_
 exact (aq O (fun γ => qm O (.o (s := 0) O (by decide) .nil) O) (aq O (fun γ => qm O (.o (s := 5) O (by decide) .nil) O) (aq O (fun γ => qp O O (.v 0 O O (.v 1 O O .nil)) (dC O O O n underlying32 sizeOf35 h.1 h.2) O) (aq O (fun γ => qp O O (.v 2 O O .nil) (cf O O isAgg35 sizeOf35 O (fun j v hj => hcell17v 0 O j v hj)) O) (aq O (fun γ => qm O (.o (s := 1) O (by decide) .nil) O) (aq O (fun γ => qm O (.o (s := 5) O (by decide) .nil) O) (aq O (fun γ => qp O O (.v 4 O O (.v 5 O O .nil)) (dC O O O x underlying32 sizeOf35 l.1 l.2) O) (aq O (fun γ => qp O O (.v 6 O O .nil) (cf O O isAgg35 sizeOf35 O (fun j v hj => hcell30v 0 O j v hj)) O) (aq O (fun γ => qp O O (.v 8 O O .nil) (ci O O) O) zA)))))))))
 exact (ac (fun γ => eo (Z := Unit) (fun z => ()) O O (.v 3 O O (.v 7 O O .nil)) (av (val := fun (r : Bool) (y : Unit) => .bool r) (B := fun _ _ => []) (vs := [.agg #[.int .i64 ((x0.getD a.toNat aL).1), .int .i64 ((x0.getD a.toNat aL).2.1), .int .i64 ((x0.getD a.toNat aL).2.2.1), .slice b (((x0.getD a.toNat aL).2.2.2).length) c], .agg #[.int .i64 ((x1.getD a.toNat aL).1), .int .i64 ((x1.getD a.toNat aL).2.1), .int .i64 ((x1.getD a.toNat aL).2.2.1), .slice d (((x1.getD a.toNat aL).2.2.2).length) e]]) (cap := []) (A := []) (rst := [F]) O O O O O O call55 (.sel 0 O (.nil _)) (dY.calls _ _ k ((x0.getD a.toNat aL).1) ((x0.getD a.toNat aL).2.1) ((x0.getD a.toNat aL).2.2.1) b c ((x0.getD a.toNat aL).2.2.2) ((x1.getD a.toNat aL).1) ((x1.getD a.toNat aL).2.1) ((x1.getD a.toNat aL).2.2.1) d e ((x1.getD a.toNat aL).2.2.2) (q.lend 0 O) t u (ad.lend 0 O) af al) an) (fun _ => ⟨O, O, O, O, O, O, O, O, trivial⟩) (fun _ => .inr O) (fun z => Ent.refl _)) zA)
 intro a7
 refine aa (sr ?_)
 refine vm O O ?_
 refine vq (eP O O) O (ae (aa ?_))
 refine aY O (fun a8 => ?_) (fun a9 => ?_)
 refine sr ?_
 refine va O O (ae (aa (aA ?_)))
 refine bi ?_
 refine aK ?_
 refine fb ?_
 refine bi ?_
 refine fa ?_
 exact aD () O O O (.sel 0 O (.nil _))
 refine aC ?_
 refine bv (aa (aJ ?_))
 refine vm O O ?_
 refine vq (cb O O O) O ?_
 refine va O O (ae ?_)
 exact bV (s := IntKind.i64.wrap (a + 1)) () ⟨O, O, O, trivial⟩ (.sel 0 O (.nil _))
 refine cN ?_
 refine ct ?_
 refine cD ?_
 refine cu ?_
 exact fW (s := ()) () trivial (.sel 0 O (.nil _))
 intro b4 b5
 refine sr ?_
 refine va O O (ae (aa (aA ?_)))
 exact aD () O O O (.sel 0 O (.nil _))
 refine sr ?_
 refine va O O (ae (aa (aA ?_)))
 refine aK ?_
 exact aD () O O O (.sel 0 O (.nil _))

def cm.l0 (a : List (aG)) : Nat → Int → List (bz) → Option ((List (bz)))
  | 0, _, _ => none
  | k + 1, b, c => if b < (a.length : Int) then (if 0 ≤ b ∧ b < (a.length : Int) then ((bX.f ((a.getD b.toNat aB).2.2.2.1)).bind fun d => (if (c.length + ([((a.getD b.toNat aB).1, (a.getD b.toNat aB).2.1, (a.getD b.toNat aB).2.2.1, d)] : List (bz)).length) * 48 ≤ 140737488355328 then (cm.l0 a k (IntKind.i64.wrap (b + 1)) (c ++ ([((a.getD b.toNat aB).1, (a.getD b.toNat aB).2.1, (a.getD b.toNat aB).2.2.1, d)] : List (bz)))) else none)) else none) else (some c)
def cm.f (k : Nat) (j : List ((List UInt8) × (List UInt8 × Int))) (l : List UInt8) (m : Int) (n : Bool) (o : Int) (p : List Int) (q : Int) (a : Int) (b : Int) (c : Int) (d : Int) (e : Int) (g : List (aG)) (h : Bool) : Option (Int × Int × Int × Int × Int × (List (bz))) := (cm.l0 g k 0 ([] : List (bz))).bind fun i => (some (a, b, c, d, e, i))
theorem cm.calls (W : World) (F : HA) (k : Nat) (an : Nat) (ad : Nat) (q : Nat) (t : Kps) (az : List ((List UInt8) × (List UInt8 × Int))) (a0 : List UInt8) (a1 : Int) (a2 : Bool) (a3 : Int) (a4 : Option Addr) (af : Nat) (w : List Int) (a5 : Int) (d : Int) (e : Int) (g : Int) (n : Int) (p : Int) (al : Option Addr) (x : Nat) (a : List (aG)) (u : Bool) (c8 : RdV F 1 (V3 tt) a4 w) (c3 : w.length ≤ af) (c4 : af ≤ maxLen) (b4 : RdV F 5 (aQ F) al a) (c5 : a.length ≤ x) (c6 : x ≤ maxLen) :
    Fn Tryz.prog W 54 [.pointer (some ⟨an, 4, none⟩)] [obj ad 97 [.map (some q), str a0, .int .i64 a1, .bool a2], am (aj q ao ak t) ai t az, obj an 91 [.pointer (some ⟨ad, 0, none⟩), .int .i64 a3, .slice a4 w.length af, .int .i64 a5, .int .i64 d, .int .i64 e, .int .i64 g, .int .i64 n, .int .i64 p, .slice al a.length x, .bool u]] F (cm.f k az a0 a1 a2 a3 w a5 d e g n p a u) (fun (r : Int × Int × Int × Int × Int × (List (bz))) (y : Option Addr × Nat × HA) => .agg #[.int .i64 r.1, .int .i64 r.2.1, .int .i64 r.2.2.1, .int .i64 r.2.2.2.1, .int .i64 r.2.2.2.2.1, .slice y.1 r.2.2.2.2.2.length y.2.1]) (fun r y => [ap 35 4 (V35 (y.2.2)) y.1 r.2.2.2.2.2 y.2.1, y.2.2, obj ad 97 [.map (some q), str a0, .int .i64 a1, .bool a2], am (aj q ao ak t) ai t az, obj an 91 [.pointer (some ⟨ad, 0, none⟩), .int .i64 a3, .slice a4 w.length af, .int .i64 a5, .int .i64 d, .int .i64 e, .int .i64 g, .int .i64 n, .int .i64 p, .slice al a.length x, .bool u]]) := by
 unfold cm.f
 refine aN 43 Tryz.func54 O Tryz.ntmps54 O ?_
 refine sr ?_
 refine ah (bL O zeroValue47 O) O O O ?_
 intro a6
 refine ae (aa (ay ?_))
 refine bb (Γ := Nat) 0 [[], [0], [0, 1], [0, 1, 2], [], [4], [4, 5], [4, 5, 6], [], [8], [8, 9], [8, 9, 10], rL 12, [], rL 14] [13, 14] [0, 1, 2, 3, 4, 5, 6, 7, 8, 9, 10, 11, 12] (fun i => [[0, 1], [0, 1], [0, 1], [0, 1], [0, 1], [0, 1], [0, 1], [0, 1], [0, 1], [0, 1], [0, 1], [0, 1], [0, 1], [], []].getD i []) (fun i => [[], [], [], [], [], [], [], [], [], [], [], [], [], rL 13, rL 14].getD i []) (fun γ i => [.pointer (some ⟨an, 4, none⟩), .pointer (some ⟨an, 4, none⟩), .pointer (some ⟨an, 4, none⟩), .agg #[.int .i64 d, .int .i64 e, .int .i64 g], .pointer (some ⟨an, 4, none⟩), .pointer (some ⟨an, 4, none⟩), .pointer (some ⟨an, 7, none⟩), .int .i64 n, .pointer (some ⟨an, 4, none⟩), .pointer (some ⟨an, 4, none⟩), .pointer (some ⟨an, 8, none⟩), .int .i64 p, .agg #[.int .i64 d, .int .i64 e, .int .i64 g, .int .i64 n, .int .i64 p, .slice none 0 0], .pointer (some ⟨γ, 0, none⟩), undef].getD i undef) (fun j γ => [[obj a6 47 [.int .i64 0, .int .i64 0, .int .i64 0, .int .i64 0, .int .i64 0, .slice none 0 0], obj ad 97 [.map (some q), str a0, .int .i64 a1, .bool a2], am (aj q ao ak t) ai t az, obj an 91 [.pointer (some ⟨ad, 0, none⟩), .int .i64 a3, .slice a4 w.length af, .int .i64 a5, .int .i64 d, .int .i64 e, .int .i64 g, .int .i64 n, .int .i64 p, .slice al a.length x, .bool u], F], [obj γ 47 [.int .i64 0, .int .i64 0, .int .i64 0, .int .i64 0, .int .i64 0, .slice none 0 0], obj a6 47 [.int .i64 0, .int .i64 0, .int .i64 0, .int .i64 0, .int .i64 0, .slice none 0 0], obj ad 97 [.map (some q), str a0, .int .i64 a1, .bool a2], am (aj q ao ak t) ai t az, obj an 91 [.pointer (some ⟨ad, 0, none⟩), .int .i64 a3, .slice a4 w.length af, .int .i64 a5, .int .i64 d, .int .i64 e, .int .i64 g, .int .i64 n, .int .i64 p, .slice al a.length x, .bool u], F], [obj γ 47 [.int .i64 d, .int .i64 e, .int .i64 g, .int .i64 n, .int .i64 p, .slice none 0 0], obj a6 47 [.int .i64 0, .int .i64 0, .int .i64 0, .int .i64 0, .int .i64 0, .slice none 0 0], obj ad 97 [.map (some q), str a0, .int .i64 a1, .bool a2], am (aj q ao ak t) ai t az, obj an 91 [.pointer (some ⟨ad, 0, none⟩), .int .i64 a3, .slice a4 w.length af, .int .i64 a5, .int .i64 d, .int .i64 e, .int .i64 g, .int .i64 n, .int .i64 p, .slice al a.length x, .bool u], F]].getD j []) (fun γ => [(0, .pointer (some ⟨an, 4, none⟩)), (2, .pointer (some ⟨a6, 0, none⟩)), (3, .pointer (some ⟨γ, 0, none⟩))]) mixed (by decide) (by decide) (by decide) (by decide) (by decide) (by decide) (by decide) 43 O (by decide) (by decide) (by decide) (Ent.refl _) ?_ ?_ (fun _ => ⟨O, O, O, trivial⟩) ?_
 exact (ac (fun γ => (ac (qm O (.o (s := 0) O (by decide) .nil) O) (ac (qm O (.o (s := 0) O (by decide) .nil) O) zA))) (ac (fun γ => (ac (qp O O (.v 0 O O .nil) (aX O O) O) (ac (qp O O (.v 0 O O .nil) (aX O O) O) zA))) (ac (fun γ => (ac (qp O O (.v 1 O O .nil) (ar O O underlying89 O O sizeOf43 O) O) (ac (qp O O (.v 1 O O .nil) (ar O O underlying89 O O sizeOf43 O) O) zA))) (ac (fun γ => (ac (qp O O (.v 2 O O .nil) (cf (vs := [.int .i64 d, .int .i64 e, .int .i64 g]) O O isAgg43 sizeOf43 O (cM 3 O (cz O))) O) (ac (qp O O (.v 2 O O .nil) (cf (vs := [.int .i64 d, .int .i64 e, .int .i64 g]) O O isAgg43 sizeOf43 O (cM 4 O (cz O))) O) zA))) (ac (fun γ => (ac (qm O (.o (s := 0) O (by decide) .nil) O) (ac (qm O (.o (s := 0) O (by decide) .nil) O) zA))) (ac (fun γ => (ac (qp O O (.v 4 O O .nil) (aX O O) O) (ac (qp O O (.v 4 O O .nil) (aX O O) O) zA))) (ac (fun γ => (ac (qp O O (.v 5 O O .nil) (ar O O underlying89 O O sizeOf3 O) O) (ac (qp O O (.v 5 O O .nil) (ar O O underlying89 O O sizeOf3 O) O) zA))) (ac (fun γ => (ac (qp O O (.v 6 O O .nil) (ag O O isAgg3 (.obj 3 O O)) O) (ac (qp O O (.v 6 O O .nil) (ag O O isAgg3 (.obj 4 O O)) O) zA))) (ac (fun γ => (ac (qm O (.o (s := 0) O (by decide) .nil) O) (ac (qm O (.o (s := 0) O (by decide) .nil) O) zA))) (ac (fun γ => (ac (qp O O (.v 8 O O .nil) (aX O O) O) (ac (qp O O (.v 8 O O .nil) (aX O O) O) zA))) (ac (fun γ => (ac (qp O O (.v 9 O O .nil) (ar O O underlying89 O O sizeOf3 O) O) (ac (qp O O (.v 9 O O .nil) (ar O O underlying89 O O sizeOf3 O) O) zA))) (ac (fun γ => (ac (qp O O (.v 10 O O .nil) (ag O O isAgg3 (.obj 3 O O)) O) (ac (qp O O (.v 10 O O .nil) (ag O O isAgg3 (.obj 4 O O)) O) zA))) (ac (fun γ => (ac (qp O O (.v 3 O O (.v 7 O O (.v 11 O O .nil))) (cx (v := .agg #[.int .i64 d, .int .i64 e, .int .i64 g, .int .i64 n, .int .i64 p, .slice none 0 0]) O O (fun _ => by kernel_rfl)) O) (ac (qp O O (.v 3 O O (.v 7 O O (.v 11 O O .nil))) (cx (v := .agg #[.int .i64 d, .int .i64 e, .int .i64 g, .int .i64 n, .int .i64 p, .slice none 0 0]) O O (fun _ => by kernel_rfl)) O) zA))) zA)))))))))))))
 exact (ac (fun γ => eo (Z := Nat) (fun z => z) O O .nil (bL O zeroValue47 O) (fun _ => ⟨O, O, O, O, O, O, O, O, O, O, O, O, O, trivial⟩) (fun _ => .inr O) (fun z => Ent.refl _)) (ac (fun γ => eo (Z := Unit) (fun z => γ) O O (.v 13 O O (.v 12 O O .nil)) (aH 0 O O O sizeOf47 O O (aM (by rfl)) O O) (fun _ => ⟨O, O, O, O, O, O, O, O, O, O, O, O, O, O, trivial⟩) (fun _ => .inl O) (fun z => Ent.refl _)) zA))
 intro bc
 refine aa ?_
 refine bE (S := (List (bz))) (HA × Option Addr × Nat) (fun s y => [(2, .pointer (some ⟨a6, 0, none⟩)), (3, .pointer (some ⟨bc, 0, none⟩))]) (fun s y => [obj bc 47 [.int .i64 d, .int .i64 e, .int .i64 g, .int .i64 n, .int .i64 p, .slice y.2.1 s.length y.2.2], obj a6 47 [.int .i64 0, .int .i64 0, .int .i64 0, .int .i64 0, .int .i64 0, .slice none 0 0], obj ad 97 [.map (some q), str a0, .int .i64 a1, .bool a2], obj an 91 [.pointer (some ⟨ad, 0, none⟩), .int .i64 a3, .slice a4 w.length af, .int .i64 a5, .int .i64 d, .int .i64 e, .int .i64 g, .int .i64 n, .int .i64 p, .slice al a.length x, .bool u], ap 35 4 (V35 (y.1)) y.2.1 s y.2.2, am (aj q ao ak t) ai t az, y.1, F]) ?_ ?_
 refine sr ?_
 refine vm O O ?_
 refine vn O O ?_
 refine vq (ar O O underlying89 O O sizeOf87 O) O ?_
 refine vq (ag O O isAgg87 (.obj 4 O O)) O ?_
 refine vq (bD O O O underlying87) O ?_
 refine vm O O (ae (aa ?_))
 refine aT ?_
 refine cC (S := Int × (List (bz))) (HA × Option Addr × Nat) (fun k s => cm.l0 a k s.1 s.2) (fun s y => [(2, .pointer (some ⟨a6, 0, none⟩)), (3, .pointer (some ⟨bc, 0, none⟩)), (23, .slice al a.length x), (24, .int .i64 (a.length : Int)), (25, .int .i64 s.1)]) (fun s y => [obj bc 47 [.int .i64 d, .int .i64 e, .int .i64 g, .int .i64 n, .int .i64 p, .slice y.2.1 s.2.length y.2.2], obj a6 47 [.int .i64 0, .int .i64 0, .int .i64 0, .int .i64 0, .int .i64 0, .slice none 0 0], obj ad 97 [.map (some q), str a0, .int .i64 a1, .bool a2], obj an 91 [.pointer (some ⟨ad, 0, none⟩), .int .i64 a3, .slice a4 w.length af, .int .i64 a5, .int .i64 d, .int .i64 e, .int .i64 g, .int .i64 n, .int .i64 p, .slice al a.length x, .bool u], ap 35 4 (V35 (y.1)) y.2.1 s.2 y.2.2, am (aj q ao ak t) ai t az, y.1, F]) (fun _ => by rw [cm.l0]) ?_ k (0, ([] : List (bz))) (tt, none, 0) ⟨O, O, O, O, O, trivial⟩ (.sel 0 O (.sel 0 O (.sel 0 O (.sel 1 O (.rowV_nil (.sel 0 O (.tt_in (.sel 0 O (.nil _)))))))))
 intro k b ab
 refine df (by rw [cm.l0]) ?_
 refine sr ?_
 refine vq (cH O O O) O (ae (aa (ay ?_)))
 refine bf O (fun ds => ?_) (fun d1 => ?_)
 refine aC ?_
 refine aa (ay ?_)
 refine aT ?_
 refine sr ?_
 refine bh (fun b1 => ?_)
 obtain ⟨d2, c9, d3, b5, b6, c7, hcell19v⟩ := RdV.pos b4 (Up.refl _) rfl (i := b.1.toNat) (by omega) aB
 obtain ⟨a8, a9, rfl, ⟨b7, b8, b9⟩⟩ := b6
 refine vq (dC O O O b5 underlying87 sizeOf144 b1.1 b1.2) O ?_
 refine vq (cf O O isAgg144 sizeOf144 O (fun j v hj => hcell19v 7 O j v hj)) O ?_
 refine ah (bL O zeroValue144 O) O O O ?_
 intro br
 refine aU (aH 0 O O O sizeOf144 O O (aM (by rfl)) O O) O O ?_
 intro _
 refine nx ?_
 refine vq (ar O O underlying144 O O sizeOf35 O) O ?_
 refine vq (cf (vs := [.int .i64 ((a.getD b.1.toNat aB).1), .int .i64 ((a.getD b.1.toNat aB).2.1), .int .i64 ((a.getD b.1.toNat aB).2.2.1), .slice a8 (((a.getD b.1.toNat aB).2.2.2.1).length) a9]) O O isAgg35 sizeOf35 O (cM 0 O (cz O))) O ?_
 refine ah (bL O zeroValue35 O) O O O ?_
 intro bs
 refine aU (aH 0 O O O sizeOf35 O O (aM (by rfl)) O O) O O ?_
 intro _
 refine nx ?_
 refine vq (ar O O underlying35 O O sizeOf33 O) O ?_
 refine vq (ag O O isAgg33 (.obj 0 O O)) O ?_
 refine aw (fun h cd => ?_)
 refine ah (av (vs := [.slice a8 (((a.getD b.1.toNat aB).2.2.2.1).length) a9]) (cap := []) (A := []) (rst := [obj bs 35 [.int .i64 ((a.getD b.1.toNat aB).1), .int .i64 ((a.getD b.1.toNat aB).2.1), .int .i64 ((a.getD b.1.toNat aB).2.2.1), .slice a8 (((a.getD b.1.toNat aB).2.2.2.1).length) a9], obj br 144 [.int .i64 ((a.getD b.1.toNat aB).1), .int .i64 ((a.getD b.1.toNat aB).2.1), .int .i64 ((a.getD b.1.toNat aB).2.2.1), .slice a8 (((a.getD b.1.toNat aB).2.2.2.1).length) a9, .int .i64 ((a.getD b.1.toNat aB).2.2.2.2)], obj bc 47 [.int .i64 d, .int .i64 e, .int .i64 g, .int .i64 n, .int .i64 p, .slice ab.2.1 b.2.length ab.2.2], obj a6 47 [.int .i64 0, .int .i64 0, .int .i64 0, .int .i64 0, .int .i64 0, .slice none 0 0], obj ad 97 [.map (some q), str a0, .int .i64 a1, .bool a2], obj an 91 [.pointer (some ⟨ad, 0, none⟩), .int .i64 a3, .slice a4 w.length af, .int .i64 a5, .int .i64 d, .int .i64 e, .int .i64 g, .int .i64 n, .int .i64 p, .slice al a.length x, .bool u], ap 35 4 (V35 (ab.1)) ab.2.1 b.2 ab.2.2, am (aj q ao ak t) ai t az, ab.1, F]) O O O O O O call82 (.sel 0 O (.sel 0 O (.sel 0 O (.sel 0 O (.sel 0 O (.sel 0 O (.sel 0 O (.sel 0 O (.sel 0 O (.sel 0 O (.nil _))))))))))) (bX.calls _ _ a8 a9 ((a.getD b.1.toNat aB).2.2.2.1) (b7.lend 9 O) b8 b9) cd) O O O ?_
 intro c
 refine vq (ar O O underlying35 O O sizeOf33 O) O ?_
 refine aU (aH 1 O O O sizeOf33 O O (aM (by rfl)) O O) O O ?_
 intro _
 refine ny ?_
 refine vq (ar O O underlying47 O O sizeOf32 O) O ?_
 refine vq (ag O O isAgg32 (.obj 3 O O)) O ?_
 refine vq (bU 1 O O isAgg35 sizeOf35 O O) O ?_
 refine bd 0 O (fun ch cs c0 dl => ?_)
 have bt : bx 4 (V35 (Row 5 1 c.1 h.length c.2 (ax h))) ([((a.getD b.1.toNat aB).1, (a.getD b.1.toNat aB).2.1, (a.getD b.1.toNat aB).2.2.1, h)] : List (bz)) [[.int .i64 ((a.getD b.1.toNat aB).1), .int .i64 ((a.getD b.1.toNat aB).2.1), .int .i64 ((a.getD b.1.toNat aB).2.2.1), .slice c.1 h.length c.2]] := ⟨⟨rfl, aM (by rfl), ⟨c.1, c.2, rfl, ⟨ch, cs, c0⟩⟩⟩, trivial⟩
 refine ah (eB (V := (V35 (Row 5 1 c.1 h.length c.2 (ax h)))) (xs := ([((a.getD b.1.toNat aB).1, (a.getD b.1.toNat aB).2.1, (a.getD b.1.toNat aB).2.2.1, h)] : List (bz))) [[.int .i64 ((a.getD b.1.toNat aB).1), .int .i64 ((a.getD b.1.toNat aB).2.1), .int .i64 ((a.getD b.1.toNat aB).2.2.1), .slice c.1 h.length c.2]] O O underlying32 jV O (by kernel_rfl) O bt O O) O O O ?_
 intro b0
 refine bg 8 O (fun b2 c1 => ?_)
 refine bR (H' := [aP [Row 5 1 c.1 h.length c.2 (ax h), ab.1], Row 35 4 (some ⟨b0, 0, none⟩) ([((a.getD b.1.toNat aB).1, (a.getD b.1.toNat aB).2.1, (a.getD b.1.toNat aB).2.2.1, h)] : List (bz)).length 1 [[.int .i64 ((a.getD b.1.toNat aB).1), .int .i64 ((a.getD b.1.toNat aB).2.1), .int .i64 ((a.getD b.1.toNat aB).2.2.1), .slice c.1 h.length c.2]].flatten, obj bs 35 [.int .i64 ((a.getD b.1.toNat aB).1), .int .i64 ((a.getD b.1.toNat aB).2.1), .int .i64 ((a.getD b.1.toNat aB).2.2.1), .slice c.1 h.length c.2], obj br 144 [.int .i64 ((a.getD b.1.toNat aB).1), .int .i64 ((a.getD b.1.toNat aB).2.1), .int .i64 ((a.getD b.1.toNat aB).2.2.1), .slice a8 (((a.getD b.1.toNat aB).2.2.2.1).length) a9, .int .i64 ((a.getD b.1.toNat aB).2.2.2.2)], obj bc 47 [.int .i64 d, .int .i64 e, .int .i64 g, .int .i64 n, .int .i64 p, .slice ab.2.1 b.2.length ab.2.2], obj a6 47 [.int .i64 0, .int .i64 0, .int .i64 0, .int .i64 0, .int .i64 0, .slice none 0 0], obj ad 97 [.map (some q), str a0, .int .i64 a1, .bool a2], obj an 91 [.pointer (some ⟨ad, 0, none⟩), .int .i64 a3, .slice a4 w.length af, .int .i64 a5, .int .i64 d, .int .i64 e, .int .i64 g, .int .i64 n, .int .i64 p, .slice al a.length x, .bool u], Row 35 4 ab.2.1 b.2.length ab.2.2 b2.flatten, am (aj q ao ak t) ai t az, F]) (Ent.trans (m := [Row 5 1 c.1 h.length c.2 (ax h), ab.1, Row 35 4 (some ⟨b0, 0, none⟩) ([((a.getD b.1.toNat aB).1, (a.getD b.1.toNat aB).2.1, (a.getD b.1.toNat aB).2.2.1, h)] : List (bz)).length 1 [[.int .i64 ((a.getD b.1.toNat aB).1), .int .i64 ((a.getD b.1.toNat aB).2.1), .int .i64 ((a.getD b.1.toNat aB).2.2.1), .slice c.1 h.length c.2]].flatten, obj bs 35 [.int .i64 ((a.getD b.1.toNat aB).1), .int .i64 ((a.getD b.1.toNat aB).2.1), .int .i64 ((a.getD b.1.toNat aB).2.2.1), .slice c.1 h.length c.2], obj br 144 [.int .i64 ((a.getD b.1.toNat aB).1), .int .i64 ((a.getD b.1.toNat aB).2.1), .int .i64 ((a.getD b.1.toNat aB).2.2.1), .slice a8 (((a.getD b.1.toNat aB).2.2.2.1).length) a9, .int .i64 ((a.getD b.1.toNat aB).2.2.2.2)], obj bc 47 [.int .i64 d, .int .i64 e, .int .i64 g, .int .i64 n, .int .i64 p, .slice ab.2.1 b.2.length ab.2.2], obj a6 47 [.int .i64 0, .int .i64 0, .int .i64 0, .int .i64 0, .int .i64 0, .slice none 0 0], obj ad 97 [.map (some q), str a0, .int .i64 a1, .bool a2], obj an 91 [.pointer (some ⟨ad, 0, none⟩), .int .i64 a3, .slice a4 w.length af, .int .i64 a5, .int .i64 d, .int .i64 e, .int .i64 g, .int .i64 n, .int .i64 p, .slice al a.length x, .bool u], Row 35 4 ab.2.1 b.2.length ab.2.2 b2.flatten, am (aj q ao ak t) ai t az, F]) (.sel 1 O (.sel 9 O (.sel 0 O (.sel 0 O (.sel 0 O (.sel 0 O (.sel 0 O (.sel 0 O (.sel 0 O (.sel 0 O (.sel 0 O (.sel 0 O (.nil _))))))))))))) (gq [Row 5 1 c.1 h.length c.2 (ax h), ab.1] _)) ?_
 refine bh (fun c2 => ?_)
 refine ah (ej 8 O O O underlying32 jV O (c1.mono (V35.up (Up.lend (l := [Row 5 1 c.1 h.length c.2 (ax h), ab.1]) 1 O))) (fI.row (bt.mono (V35.up (Up.lend (l := [Row 5 1 c.1 h.length c.2 (ax h), ab.1]) 0 O))) 1 O) c2) O O O ?_
 intro be
 refine vq (ar O O underlying47 O O sizeOf32 O) O ?_
 refine aU (aH 4 O O O sizeOf32 O O (aM (by rfl)) O O) O O ?_
 intro _
 refine bR (H' := [aP [Row 5 1 c.1 h.length c.2 (ax h), ab.1], Row 35 4 (some ⟨b0, 0, none⟩) ([((a.getD b.1.toNat aB).1, (a.getD b.1.toNat aB).2.1, (a.getD b.1.toNat aB).2.2.1, h)] : List (bz)).length 1 [[.int .i64 ((a.getD b.1.toNat aB).1), .int .i64 ((a.getD b.1.toNat aB).2.1), .int .i64 ((a.getD b.1.toNat aB).2.2.1), .slice c.1 h.length c.2]].flatten, obj bs 35 [.int .i64 ((a.getD b.1.toNat aB).1), .int .i64 ((a.getD b.1.toNat aB).2.1), .int .i64 ((a.getD b.1.toNat aB).2.2.1), .slice c.1 h.length c.2], obj br 144 [.int .i64 ((a.getD b.1.toNat aB).1), .int .i64 ((a.getD b.1.toNat aB).2.1), .int .i64 ((a.getD b.1.toNat aB).2.2.1), .slice a8 (((a.getD b.1.toNat aB).2.2.2.1).length) a9, .int .i64 ((a.getD b.1.toNat aB).2.2.2.2)], obj bc 47 [.int .i64 d, .int .i64 e, .int .i64 g, .int .i64 n, .int .i64 p, .slice be.1 ((b.2 ++ ([((a.getD b.1.toNat aB).1, (a.getD b.1.toNat aB).2.1, (a.getD b.1.toNat aB).2.2.1, h)] : List (bz))).length) be.2], obj a6 47 [.int .i64 0, .int .i64 0, .int .i64 0, .int .i64 0, .int .i64 0, .slice none 0 0], obj ad 97 [.map (some q), str a0, .int .i64 a1, .bool a2], obj an 91 [.pointer (some ⟨ad, 0, none⟩), .int .i64 a3, .slice a4 w.length af, .int .i64 a5, .int .i64 d, .int .i64 e, .int .i64 g, .int .i64 n, .int .i64 p, .slice al a.length x, .bool u], ap 35 4 (V35 (aP [Row 5 1 c.1 h.length c.2 (ax h), ab.1])) be.1 (b.2 ++ ([((a.getD b.1.toNat aB).1, (a.getD b.1.toNat aB).2.1, (a.getD b.1.toNat aB).2.2.1, h)] : List (bz))) be.2, am (aj q ao ak t) ai t az, F]) (Ent.refl _) ?_
 refine ae (bv (aa (aJ ?_)))
 refine vq (cb O O O) O ?_
 refine vm O O (ae ?_)
 exact bV (s := (IntKind.i64.wrap (b.1 + 1), b.2 ++ ([((a.getD b.1.toNat aB).1, (a.getD b.1.toNat aB).2.1, (a.getD b.1.toNat aB).2.2.1, h)] : List (bz)))) (aP [Row 5 1 c.1 h.length c.2 (ax h), ab.1], be.1, be.2) ⟨O, O, O, O, O, trivial⟩ (.sel 4 O (.sel 4 O (.sel 4 O (.sel 4 O (.sel 4 O (.sel 4 O (.sel 0 O (.sel 3 O (.nil _)))))))))
 refine cN ?_
 refine ct ?_
 refine cD ?_
 refine cu ?_
 exact aF (s := b.2) (ab.1, ab.2.1, ab.2.2) ⟨O, O, trivial⟩ (.sel 0 O (.sel 0 O (.sel 0 O (.sel 0 O (.sel 0 O (.sel 0 O (.sel 0 O (.sel 0 O (.nil _)))))))))
 intro b3 a7
 refine sr ?_
 refine vq (bU 0 O O isAgg47 sizeOf47 O O) O ?_
 refine aU (aH 1 O O O sizeOf47 O O (aM (by rfl)) O O) O O ?_
 intro _
 refine bR (H' := [obj bc 47 [.int .i64 d, .int .i64 e, .int .i64 g, .int .i64 n, .int .i64 p, .slice a7.2.1 b3.length a7.2.2], obj a6 47 [.int .i64 d, .int .i64 e, .int .i64 g, .int .i64 n, .int .i64 p, .slice a7.2.1 b3.length a7.2.2], obj ad 97 [.map (some q), str a0, .int .i64 a1, .bool a2], obj an 91 [.pointer (some ⟨ad, 0, none⟩), .int .i64 a3, .slice a4 w.length af, .int .i64 a5, .int .i64 d, .int .i64 e, .int .i64 g, .int .i64 n, .int .i64 p, .slice al a.length x, .bool u], ap 35 4 (V35 (a7.1)) a7.2.1 b3 a7.2.2, am (aj q ao ak t) ai t az, a7.1, F]) (Ent.refl _) ?_
 refine ae (aa (aA ?_))
 exact gG (vs := [.agg #[.int .i64 d, .int .i64 e, .int .i64 g, .int .i64 n, .int .i64 p, .slice a7.2.1 b3.length a7.2.2]]) (a7.2.1, a7.2.2, a7.1) O ⟨⟨a6, O, fX 1 isAgg47 sizeOf47 O O⟩, trivial⟩ O (.sel 4 O (.sel 5 O (.sel 2 O (.sel 3 O (.sel 2 O (.sel 2 O (.nil _)))))))

def dL.f (k : Nat) (c : List ((List UInt8) × (List UInt8 × Int))) (d : List UInt8) (e : Int) (g : Bool) (h : Int) (i : List Int) (j : Int) (l : Int) (m : Int) (n : Int) (o : Int) (p : Int) (q : List (aG)) (b : Bool) : Option (Int × Int × Int × Int × Int × (List (bz))) := (cm.f k c d e g h i j l m n o p q b).bind fun a => (some (a.1, a.2.1, a.2.2.1, a.2.2.2.1, a.2.2.2.2.1, a.2.2.2.2.2))
theorem dL.calls (W : World) (F : HA) (k : Nat) (af : Nat) (ad : Nat) (a : Nat) (b : Kps) (m : List ((List UInt8) × (List UInt8 × Int))) (n : List UInt8) (o : Int) (p : Bool) (q : Int) (s : Option Addr) (i : Nat) (c : List Int) (t : Int) (u : Int) (v : Int) (w : Int) (x : Int) (z : Int) (ab : Option Addr) (j : Nat) (d : List (aG)) (e : Bool) (a2 : RdV F 1 (V3 tt) s c) (al : c.length ≤ i) (an : i ≤ maxLen) (a3 : RdV F 5 (aQ F) ab d) (az : d.length ≤ j) (a0 : j ≤ maxLen) :
    Fn Tryz.prog W 18 [.pointer (some ⟨af, 0, none⟩)] [obj ad 97 [.map (some a), str n, .int .i64 o, .bool p], am (aj a ao ak b) ai b m, obj af 91 [.pointer (some ⟨ad, 0, none⟩), .int .i64 q, .slice s c.length i, .int .i64 t, .int .i64 u, .int .i64 v, .int .i64 w, .int .i64 x, .int .i64 z, .slice ab d.length j, .bool e]] F (dL.f k m n o p q c t u v w x z d e) (fun (r : Int × Int × Int × Int × Int × (List (bz))) (y : Option Addr × Nat × HA) => .agg #[.int .i64 r.1, .int .i64 r.2.1, .int .i64 r.2.2.1, .int .i64 r.2.2.2.1, .int .i64 r.2.2.2.2.1, .slice y.1 r.2.2.2.2.2.length y.2.1]) (fun r y => [ap 35 4 (V35 (y.2.2)) y.1 r.2.2.2.2.2 y.2.1, y.2.2, obj ad 97 [.map (some a), str n, .int .i64 o, .bool p], am (aj a ao ak b) ai b m, obj af 91 [.pointer (some ⟨ad, 0, none⟩), .int .i64 q, .slice s c.length i, .int .i64 t, .int .i64 u, .int .i64 v, .int .i64 w, .int .i64 x, .int .i64 z, .slice ab d.length j, .bool e]]) := by
 unfold dL.f
 refine aN 7 Tryz.func18 O Tryz.ntmps18 O ?_
 refine sr ?_
 refine ah (bL O zeroValue47 O) O O O ?_
 intro a1
 refine nx ?_
 refine vm O O ?_
 refine vn O O ?_
 refine vq (ar O O underlying91 O O sizeOf89 O) O ?_
 refine aw (fun g a4 => ?_)
 refine ah (av (vs := [.pointer (some ⟨af, 4, none⟩)]) (cap := []) (A := [obj ad 97 [.map (some a), str n, .int .i64 o, .bool p], am (aj a ao ak b) ai b m, obj af 91 [.pointer (some ⟨ad, 0, none⟩), .int .i64 q, .slice s c.length i, .int .i64 t, .int .i64 u, .int .i64 v, .int .i64 w, .int .i64 x, .int .i64 z, .slice ab d.length j, .bool e]]) (rst := [obj a1 47 [.int .i64 0, .int .i64 0, .int .i64 0, .int .i64 0, .int .i64 0, .slice none 0 0], F]) O O O O O O call54 (.sel 1 O (.sel 1 O (.sel 1 O (.sel 0 O (.sel 0 O (.nil _)))))) (cm.calls _ _ k af ad a b m n o p q s i c t u v w x z ab j d e (a2.up (Up.lend 1 O) (fun _ _ h => h)) al an (a3.up (Up.lend 1 O) (aQ.up (Up.lend 1 O))) az a0) a4) O O O ?_
 intro l
 refine aU (aH 5 O O O sizeOf47 O O (aM (by rfl)) O O) O O ?_
 intro _
 refine bR (H' := [ap 35 4 (V35 (l.2.2)) l.1 g.2.2.2.2.2 l.2.1, l.2.2, obj ad 97 [.map (some a), str n, .int .i64 o, .bool p], am (aj a ao ak b) ai b m, obj af 91 [.pointer (some ⟨ad, 0, none⟩), .int .i64 q, .slice s c.length i, .int .i64 t, .int .i64 u, .int .i64 v, .int .i64 w, .int .i64 x, .int .i64 z, .slice ab d.length j, .bool e], obj a1 47 [.int .i64 g.1, .int .i64 g.2.1, .int .i64 g.2.2.1, .int .i64 g.2.2.2.1, .int .i64 g.2.2.2.2.1, .slice l.1 g.2.2.2.2.2.length l.2.1], F]) (Ent.refl _) ?_
 refine ae (aa (aA ?_))
 exact gG (vs := [.agg #[.int .i64 g.1, .int .i64 g.2.1, .int .i64 g.2.2.1, .int .i64 g.2.2.2.1, .int .i64 g.2.2.2.2.1, .slice l.1 g.2.2.2.2.2.length l.2.1]]) (l.1, l.2.1, l.2.2) O ⟨⟨a1, O, fX 5 isAgg47 sizeOf47 O O⟩, trivial⟩ O (.sel 0 O (.sel 0 O (.sel 0 O (.sel 0 O (.sel 0 O (.sel 1 O (.nil _)))))))

def bj.l1 (x2 : List (bz)) : Nat → Int → Int → Int → List Int → Int → Int → Int → Int → Int → Int → List (aG) → Bool → List ((List UInt8) × (List UInt8 × Int)) → List UInt8 → Int → Bool → Option (Int × Int × List Int × Int × Int × Int × Int × Int × Int × (List (aG)) × Bool × (List ((List UInt8) × (List UInt8 × Int))) × List UInt8 × Int × Bool)
  | 0, _, _, _, _, _, _, _, _, _, _, _, _, _, _, _, _ => none
  | k + 1, c, b, d, e, g, h, i, j, l, m, n, o, p, q, r, s => if ((decide (b < (x2.length : Int))) && (decide (c = (0 : Int)))) = true then (if 0 ≤ b ∧ b < (x2.length : Int) then ((ce.f k p q r s d e g h i j l m n o false (0 : Int) (0 : Int) (0 : Int) (0 : Int) (0 : Int) ([((x2.getD b.toNat aL).1, (x2.getD b.toNat aL).2.1, (x2.getD b.toNat aL).2.2.1, (x2.getD b.toNat aL).2.2.2)] : List (bz))).bind fun a => ((cl.f a.1).bind fun t => (bj.l1 x2 k t (IntKind.i64.wrap (b + 1)) a.2.2.2.2.2.1 a.2.2.2.2.2.2.1 a.2.2.2.2.2.2.2.1 a.2.2.2.2.2.2.2.2.1 a.2.2.2.2.2.2.2.2.2.1 a.2.2.2.2.2.2.2.2.2.2.1 a.2.2.2.2.2.2.2.2.2.2.2.1 a.2.2.2.2.2.2.2.2.2.2.2.2.1 a.2.2.2.2.2.2.2.2.2.2.2.2.2.1 a.2.2.2.2.2.2.2.2.2.2.2.2.2.2 a.2.1 a.2.2.1 a.2.2.2.1 a.2.2.2.2.1))) else none) else (some (c, d, e, g, h, i, j, l, m, n, o, p, q, r, s))
def bj.l0 (x2 : List (bz)) : Nat → Int → Int → Option (Int)
  | 0, _, _ => none
  | k + 1, b, a => if ((decide (a < (x2.length : Int))) && (decide (a < (200 : Int)))) = true then (if 0 ≤ a ∧ a < (x2.length : Int) then (bj.l0 x2 k (IntKind.i64.wrap (b + (min (((x2.getD a.toNat aL).2.2.2).length : Int) (20000 : Int)))) (IntKind.i64.wrap (a + 1))) else none) else (some b)
def bj.f (k : Nat) (x0 : Int) (x1 : Int) (x2 : List (bz)) : Option (Bool) := (eh.f k).bind fun q => ((bj.l0 x2 k 0 0).bind fun r => (if (((((((!q) || (decide ((200 : Int) < (x2.length : Int)))) || (decide ((20000 : Int) < r))) || (decide (x0 < (64 : Int)))) || (decide ((1048576 : Int) < x0))) || (decide (x1 < (64 : Int)))) || (decide ((1048576 : Int) < x1))) = true then (some q) else ((eL.f).bind fun i => ((bC.f k i.1 i.2.1 i.2.2.1 i.2.2.2 x0).bind fun c => (if c.1 = true then ((eL.f).bind fun j => ((bC.f k j.1 j.2.1 j.2.2.1 j.2.2.2 x1).bind fun d => (if d.1 = true then ((ce.f k c.2.2.2.2.2.2.2.2.2.2.2.2.2.1 c.2.2.2.2.2.2.2.2.2.2.2.2.2.2.1 c.2.2.2.2.2.2.2.2.2.2.2.2.2.2.2.1 c.2.2.2.2.2.2.2.2.2.2.2.2.2.2.2.2 c.2.1 c.2.2.1 c.2.2.2.1 c.2.2.2.2.1 c.2.2.2.2.2.1 c.2.2.2.2.2.2.1 c.2.2.2.2.2.2.2.1 c.2.2.2.2.2.2.2.2.1 c.2.2.2.2.2.2.2.2.2.1 c.2.2.2.2.2.2.2.2.2.2.1 false (0 : Int) (0 : Int) (0 : Int) (0 : Int) (0 : Int) x2).bind fun b => ((bj.l1 x2 k 0 0 d.2.1 d.2.2.1 d.2.2.2.1 d.2.2.2.2.1 d.2.2.2.2.2.1 d.2.2.2.2.2.2.1 d.2.2.2.2.2.2.2.1 d.2.2.2.2.2.2.2.2.1 d.2.2.2.2.2.2.2.2.2.1 d.2.2.2.2.2.2.2.2.2.2.1 d.2.2.2.2.2.2.2.2.2.2.2.2.2.1 d.2.2.2.2.2.2.2.2.2.2.2.2.2.2.1 d.2.2.2.2.2.2.2.2.2.2.2.2.2.2.2.1 d.2.2.2.2.2.2.2.2.2.2.2.2.2.2.2.2).bind fun a => ((cl.f b.1).bind fun l => (if l = (0 : Int) then ((dL.f k b.2.1 b.2.2.1 b.2.2.2.1 b.2.2.2.2.1 b.2.2.2.2.2.1 b.2.2.2.2.2.2.1 b.2.2.2.2.2.2.2.1 b.2.2.2.2.2.2.2.2.1 b.2.2.2.2.2.2.2.2.2.1 b.2.2.2.2.2.2.2.2.2.2.1 b.2.2.2.2.2.2.2.2.2.2.2.1 b.2.2.2.2.2.2.2.2.2.2.2.2.1 b.2.2.2.2.2.2.2.2.2.2.2.2.2.1 b.2.2.2.2.2.2.2.2.2.2.2.2.2.2).bind fun e => ((dL.f k a.2.2.2.2.2.2.2.2.2.2.2.1 a.2.2.2.2.2.2.2.2.2.2.2.2.1 a.2.2.2.2.2.2.2.2.2.2.2.2.2.1 a.2.2.2.2.2.2.2.2.2.2.2.2.2.2 a.2.1 a.2.2.1 a.2.2.2.1 a.2.2.2.2.1 a.2.2.2.2.2.1 a.2.2.2.2.2.2.1 a.2.2.2.2.2.2.2.1 a.2.2.2.2.2.2.2.2.1 a.2.2.2.2.2.2.2.2.2.1 a.2.2.2.2.2.2.2.2.2.2.1).bind fun g => ((bM.f k e.2.2.2.2.2 g.2.2.2.2.2).bind fun m => (some (((((decide (a.1 = (0 : Int))) && m) && (decide (e.1 = g.1) && (decide (e.2.1 = g.2.1) && (decide (e.2.2.1 = g.2.2.1))))) && (decide (e.2.2.2.1 = g.2.2.2.1))) && (decide (e.2.2.2.2.1 = g.2.2.2.2.1))))))) else ((if a.1 = (13 : Int) then (some true) else ((cl.f b.1).bind fun n => (some (decide (a.1 = n))))).bind fun o => (some o)))))) else (some false)))) else ((eL.f).bind fun h => ((bC.f k h.1 h.2.1 h.2.2.1 h.2.2.2 x1).bind fun p => (if p.1 = true then (some false) else (some false)))))))))
theorem bj.calls (W : World) (F : HA) (k : Nat) (x0 : Int) (x1 : Int) (a2 : Option Addr) (c2 : Nat) (x2 : List (bz)) (h2 : RdV F 4 (V35 F) a2 x2) (hn : x2.length ≤ c2) (ho : c2 ≤ maxLen) (hgl : Glb Tryz.prog F) :
    Fn Tryz.prog W 4 [.int .i64 x0, .int .i64 x1, .slice a2 x2.length c2] [] F (bj.f k x0 x1 x2) (fun (r : Bool) (y : Unit) => .bool r) (fun r y => []) := by
 unfold bj.f
 refine aN 159 Tryz.func4 O Tryz.ntmps4 O ?_
 refine sr ?_
 refine va O O (nx ?_)
 refine aw (fun a6 hl => ?_)
 refine ah (av (vs := []) (cap := []) (A := []) (rst := [F]) O O O O O O call9 (.sel 0 O (.nil _)) (eh.calls _ _ k  (hgl.lend 0 O)) hl) O O O ?_
 intro k3
 refine va O O (nx ?_)
 refine va O O (ae (aa ?_))
 refine bE (S := Int) (Unit) (fun s y => [(0, .int .i64 x0), (1, .int .i64 x1), (2, .slice a2 x2.length c2), (7, .bool a6), (8, .int .i64 s)]) (fun s y => [F]) ?_ ?_
 refine sr ?_
 refine va O O (ae (aa ?_))
 refine aT ?_
 refine cC (S := Int × Int) (Unit) (fun k s => bj.l0 x2 k s.1 s.2) (fun s y => [(0, .int .i64 x0), (1, .int .i64 x1), (2, .slice a2 x2.length c2), (7, .bool a6), (8, .int .i64 s.1), (9, .int .i64 s.2)]) (fun s y => [F]) (fun _ => by rw [bj.l0]) ?_ k (0, 0) () ⟨O, O, O, O, O, O, trivial⟩ (.sel 0 O (.nil _))
 intro k be k4
 refine df (by rw [bj.l0]) ?_
 refine ay (sr ?_)
 refine vm O O ?_
 refine vm O O ?_
 refine vq (bD O O O underlying32) O ?_
 refine vq (cH O O O) O ?_
 refine vm O O ?_
 refine au (b := decide (be.2 < (x2.length : Int))) (fun hO => RQ.sub (E' := [(9, .int .i64 be.2)]) ⟨O, trivial⟩ (ba O O)) O O O O O ?_
 refine au (b := decide (be.2 < (x2.length : Int))) (fun gs => RQ.sub (E' := [(28, .int .i64 be.2)]) ⟨aE O gs, trivial⟩ (cH O O O)) O O O O O ?_
 refine vq (db O O O) O (ae (aa ?_))
 refine aY O (fun j4 => ?_) (fun j5 => ?_)
 refine aC ?_
 refine aa (ay ?_)
 refine aT ?_
 refine aJ ?_
 refine vm O O ?_
 refine vm O O ?_
 refine vm O O ?_
 refine bh (fun cd => ?_)
 obtain ⟨j6, hR, j7, gy, g0, hp, hcell19v⟩ := RdV.pos h2 (Up.refl _) rfl (i := be.2.toNat) (by omega) aL
 obtain ⟨j8, j9, rfl, ⟨hS, hT, hV⟩⟩ := g0
 refine vq (dC O O O gy underlying32 sizeOf35 cd.1 cd.2) O ?_
 refine vq (ar O O underlying35 O O sizeOf33 O) O ?_
 refine vq (ag O O isAgg33 (hcell19v 0 O 3 _ O)) O ?_
 refine vq (bD O O O underlying33) O ?_
 refine vq (qa O O O) O ?_
 refine vq (cb O O O) O ?_
 refine va O O (ae (bv (aa (aJ ?_))))
 refine vm O O ?_
 refine vq (cb O O O) O ?_
 refine va O O (ae ?_)
 exact bV (s := (IntKind.i64.wrap (be.1 + (min (((x2.getD be.2.toNat aL).2.2.2).length : Int) (20000 : Int))), IntKind.i64.wrap (be.2 + 1))) () ⟨O, O, O, O, O, O, trivial⟩ (.sel 0 O (.nil _))
 refine cN ?_
 refine ct ?_
 refine cD ?_
 refine cu ?_
 exact aF (s := be.1) () ⟨O, O, O, O, O, trivial⟩ (.sel 0 O (.nil _))
 intro bc k5
 refine ay (sr ?_)
 refine vm O O ?_
 refine vq (eP O O) O ?_
 refine vm O O ?_
 refine au (b := !a6) (fun hq => RQ.sub (E' := [(2, .slice a2 x2.length c2)]) ⟨O, trivial⟩ (ba O O)) O O O O O ?_
 refine au (b := !a6) (fun c1 => RQ.sub (E' := [(45, .slice a2 x2.length c2)]) ⟨aE O c1, trivial⟩ (bD O O O underlying32)) O O O O O ?_
 refine au (b := !a6) (fun c3 => RQ.sub (E' := [(46, .int .i64 (x2.length : Int))]) ⟨aE O c3, trivial⟩ (cI O O O)) O O O O O ?_
 refine vq (ex O O O) O ?_
 refine vm O O ?_
 refine au (b := (!a6) || (decide ((200 : Int) < (x2.length : Int)))) (fun hr => RQ.sub (E' := [(8, .int .i64 bc)]) ⟨O, trivial⟩ (ba O O)) O O O O O ?_
 refine au (b := (!a6) || (decide ((200 : Int) < (x2.length : Int)))) (fun c4 => RQ.sub (E' := [(50, .int .i64 bc)]) ⟨aE O c4, trivial⟩ (cI O O O)) O O O O O ?_
 refine vq (ex O O O) O ?_
 refine vm O O ?_
 refine au (b := ((!a6) || (decide ((200 : Int) < (x2.length : Int)))) || (decide ((20000 : Int) < bc))) (fun hs => RQ.sub (E' := [(0, .int .i64 x0)]) ⟨O, trivial⟩ (ba O O)) O O O O O ?_
 refine au (b := ((!a6) || (decide ((200 : Int) < (x2.length : Int)))) || (decide ((20000 : Int) < bc))) (fun c5 => RQ.sub (E' := [(54, .int .i64 x0)]) ⟨aE O c5, trivial⟩ (cH O O O)) O O O O O ?_
 refine vq (ex O O O) O ?_
 refine vm O O ?_
 refine au (b := (((!a6) || (decide ((200 : Int) < (x2.length : Int)))) || (decide ((20000 : Int) < bc))) || (decide (x0 < (64 : Int)))) (fun ht => RQ.sub (E' := [(0, .int .i64 x0)]) ⟨O, trivial⟩ (ba O O)) O O O O O ?_
 refine au (b := (((!a6) || (decide ((200 : Int) < (x2.length : Int)))) || (decide ((20000 : Int) < bc))) || (decide (x0 < (64 : Int)))) (fun c6 => RQ.sub (E' := [(58, .int .i64 x0)]) ⟨aE O c6, trivial⟩ (cI O O O)) O O O O O ?_
 refine vq (ex O O O) O ?_
 refine vm O O ?_
 refine au (b := ((((!a6) || (decide ((200 : Int) < (x2.length : Int)))) || (decide ((20000 : Int) < bc))) || (decide (x0 < (64 : Int)))) || (decide ((1048576 : Int) < x0))) (fun hu => RQ.sub (E' := [(1, .int .i64 x1)]) ⟨O, trivial⟩ (ba O O)) O O O O O ?_
 refine au (b := ((((!a6) || (decide ((200 : Int) < (x2.length : Int)))) || (decide ((20000 : Int) < bc))) || (decide (x0 < (64 : Int)))) || (decide ((1048576 : Int) < x0))) (fun c7 => RQ.sub (E' := [(62, .int .i64 x1)]) ⟨aE O c7, trivial⟩ (cH O O O)) O O O O O ?_
 refine vq (ex O O O) O ?_
 refine vm O O ?_
 refine au (b := (((((!a6) || (decide ((200 : Int) < (x2.length : Int)))) || (decide ((20000 : Int) < bc))) || (decide (x0 < (64 : Int)))) || (decide ((1048576 : Int) < x0))) || (decide (x1 < (64 : Int)))) (fun hv => RQ.sub (E' := [(1, .int .i64 x1)]) ⟨O, trivial⟩ (ba O O)) O O O O O ?_
 refine au (b := (((((!a6) || (decide ((200 : Int) < (x2.length : Int)))) || (decide ((20000 : Int) < bc))) || (decide (x0 < (64 : Int)))) || (decide ((1048576 : Int) < x0))) || (decide (x1 < (64 : Int)))) (fun c8 => RQ.sub (E' := [(66, .int .i64 x1)]) ⟨aE O c8, trivial⟩ (cI O O O)) O O O O O ?_
 refine vq (ex O O O) O (ae (aa ?_))
 refine aY O (fun kd => ?_) (fun kk => ?_)
 refine sr ?_
 refine vm O O ?_
 refine va O O (ae (aa (aA ?_)))
 refine aK ?_
 exact aD () O O O (.sel 0 O (.nil _))
 refine aC ?_
 refine aa (sr ?_)
 refine aw (fun a1 g1 => ?_)
 refine ah (av (vs := []) (cap := []) (A := []) (rst := [F]) O O O O O O call16 (.sel 0 O (.nil _)) (eL.calls _ _  ) g1) O O O ?_
 intro q
 refine vm O O ?_
 refine aw (fun n ch => ?_)
 refine gT (fun b3 => ?_) (fun b3 => ?_)
 refine ah (av (vs := [.pointer (some ⟨q.1, 0, none⟩), .int .i64 x0]) (cap := []) (A := [obj q.1 97 [.map (some q.2.1), str a1.2.1, .int .i64 a1.2.2.1, .bool a1.2.2.2], am (aj q.2.1 ao ak q.2.2) ai q.2.2 a1.1]) (rst := [F]) O O O O O O call15 (.sel 0 O (.sel 0 O (.sel 0 O (.nil _)))) (bC.callsT _ _ k q.1 q.2.1 q.2.2 a1.1 a1.2.1 a1.2.2.1 a1.2.2.2 x0 (hgl.lend 0 O)) (gU ch b3)) O O O ?_
 intro o
 refine vm O O ?_
 refine vq (bu O O O) O ?_
 refine vq (bu O O O) O ?_
 refine vq (bu O O O) O ?_
 refine va O O ?_
 refine va O O ?_
 refine va O O (nx ?_)
 refine aw (fun a3 g2 => ?_)
 refine ah (av (vs := []) (cap := []) (A := []) (rst := [obj o.1 91 [.pointer (some ⟨q.1, 0, none⟩), .int .i64 n.2.1, .slice o.2.1 n.2.2.1.length o.2.2.1, .int .i64 n.2.2.2.1, .int .i64 n.2.2.2.2.1, .int .i64 n.2.2.2.2.2.1, .int .i64 n.2.2.2.2.2.2.1, .int .i64 n.2.2.2.2.2.2.2.1, .int .i64 n.2.2.2.2.2.2.2.2.1, .slice o.2.2.2.1 n.2.2.2.2.2.2.2.2.2.1.length o.2.2.2.2.1, .bool n.2.2.2.2.2.2.2.2.2.2.1], ap 3 1 (V3 tt) o.2.1 n.2.2.1 o.2.2.1, ap 144 5 (aQ (o.2.2.2.2.2.1)) o.2.2.2.1 n.2.2.2.2.2.2.2.2.2.1 o.2.2.2.2.1, o.2.2.2.2.2.1, obj q.1 97 [.map (some o.2.2.2.2.2.2.1), str n.2.2.2.2.2.2.2.2.2.2.2.2.2.2.1, .int .i64 n.2.2.2.2.2.2.2.2.2.2.2.2.2.2.2.1, .bool n.2.2.2.2.2.2.2.2.2.2.2.2.2.2.2.2], am (aj o.2.2.2.2.2.2.1 ao ak o.2.2.2.2.2.2.2) ai o.2.2.2.2.2.2.2 n.2.2.2.2.2.2.2.2.2.2.2.2.2.1, F]) O O O O O O call16 (.sel 0 O (.sel 0 O (.sel 0 O (.sel 0 O (.sel 0 O (.sel 0 O (.sel 0 O (.nil _)))))))) (eL.calls _ _  ) g2) O O O ?_
 intro t
 refine vm O O ?_
 refine aw (fun ab cs => ?_)
 refine gT (fun b4 => ?_) (fun b4 => ?_)
 refine ah (av (vs := [.pointer (some ⟨t.1, 0, none⟩), .int .i64 x1]) (cap := []) (A := [obj t.1 97 [.map (some t.2.1), str a3.2.1, .int .i64 a3.2.2.1, .bool a3.2.2.2], am (aj t.2.1 ao ak t.2.2) ai t.2.2 a3.1]) (rst := [obj o.1 91 [.pointer (some ⟨q.1, 0, none⟩), .int .i64 n.2.1, .slice o.2.1 n.2.2.1.length o.2.2.1, .int .i64 n.2.2.2.1, .int .i64 n.2.2.2.2.1, .int .i64 n.2.2.2.2.2.1, .int .i64 n.2.2.2.2.2.2.1, .int .i64 n.2.2.2.2.2.2.2.1, .int .i64 n.2.2.2.2.2.2.2.2.1, .slice o.2.2.2.1 n.2.2.2.2.2.2.2.2.2.1.length o.2.2.2.2.1, .bool n.2.2.2.2.2.2.2.2.2.2.1], ap 3 1 (V3 tt) o.2.1 n.2.2.1 o.2.2.1, ap 144 5 (aQ (o.2.2.2.2.2.1)) o.2.2.2.1 n.2.2.2.2.2.2.2.2.2.1 o.2.2.2.2.1, o.2.2.2.2.2.1, obj q.1 97 [.map (some o.2.2.2.2.2.2.1), str n.2.2.2.2.2.2.2.2.2.2.2.2.2.2.1, .int .i64 n.2.2.2.2.2.2.2.2.2.2.2.2.2.2.2.1, .bool n.2.2.2.2.2.2.2.2.2.2.2.2.2.2.2.2], am (aj o.2.2.2.2.2.2.1 ao ak o.2.2.2.2.2.2.2) ai o.2.2.2.2.2.2.2 n.2.2.2.2.2.2.2.2.2.2.2.2.2.1, F]) O O O O O O call15 (.sel 0 O (.sel 0 O (.sel 0 O (.sel 0 O (.sel 0 O (.sel 0 O (.sel 0 O (.sel 0 O (.sel 0 O (.nil _)))))))))) (bC.callsT _ _ k t.1 t.2.1 t.2.2 a3.1 a3.2.1 a3.2.2.1 a3.2.2.2 x1 (hgl.lend 6 O)) (gU cs b4)) O O O ?_
 intro u
 refine vm O O ?_
 refine vq (bu O O O) O ?_
 refine vq (bu O O O) O ?_
 refine vq (bu O O O) O ?_
 refine va O O ?_
 refine va O O ?_
 refine va O O (ae (aa (ay (sr ?_))))
 refine vm O O ?_
 refine vq (jr O O O underlying36) O ?_
 refine vm O O ?_
 refine aZ (ba O O) O O O O O O ?_
 refine aZ (jr O O O underlying36) O O O O O O ?_
 refine vq (bW O O O O O) O (ae (aa ?_))
 refine fx O ?_
 refine aC ?_
 refine aa (sr ?_)
 refine vm O O ?_
 refine vm O O ?_
 refine vq (cx (v := .agg #[.bool false, .int .i64 0, .int .i64 0, .int .i64 0, .int .i64 0, .int .i64 0, .slice a2 x2.length c2]) O O (fun _ => by kernel_rfl)) O ?_
 refine bg 7 O (fun hW g3 => ?_)
 refine bg 8 O (fun hX g4 => ?_)
 refine aw (fun a g5 => ?_)
 refine ah (av (vs := [.pointer (some ⟨o.1, 0, none⟩), .agg #[.bool false, .int .i64 0, .int .i64 0, .int .i64 0, .int .i64 0, .int .i64 0, .slice a2 x2.length c2]]) (cap := []) (A := [obj q.1 97 [.map (some o.2.2.2.2.2.2.1), str n.2.2.2.2.2.2.2.2.2.2.2.2.2.2.1, .int .i64 n.2.2.2.2.2.2.2.2.2.2.2.2.2.2.2.1, .bool n.2.2.2.2.2.2.2.2.2.2.2.2.2.2.2.2], am (aj o.2.2.2.2.2.2.1 ao ak o.2.2.2.2.2.2.2) ai o.2.2.2.2.2.2.2 n.2.2.2.2.2.2.2.2.2.2.2.2.2.1, obj o.1 91 [.pointer (some ⟨q.1, 0, none⟩), .int .i64 n.2.1, .slice o.2.1 n.2.2.1.length o.2.2.1, .int .i64 n.2.2.2.1, .int .i64 n.2.2.2.2.1, .int .i64 n.2.2.2.2.2.1, .int .i64 n.2.2.2.2.2.2.1, .int .i64 n.2.2.2.2.2.2.2.1, .int .i64 n.2.2.2.2.2.2.2.2.1, .slice o.2.2.2.1 n.2.2.2.2.2.2.2.2.2.1.length o.2.2.2.2.1, .bool n.2.2.2.2.2.2.2.2.2.2.1], ap 3 1 (V3 tt) o.2.1 n.2.2.1 o.2.2.1, ap 144 5 (aQ (o.2.2.2.2.2.1)) o.2.2.2.1 n.2.2.2.2.2.2.2.2.2.1 o.2.2.2.2.1, o.2.2.2.2.2.1]) (rst := [obj u.1 91 [.pointer (some ⟨t.1, 0, none⟩), .int .i64 ab.2.1, .slice u.2.1 ab.2.2.1.length u.2.2.1, .int .i64 ab.2.2.2.1, .int .i64 ab.2.2.2.2.1, .int .i64 ab.2.2.2.2.2.1, .int .i64 ab.2.2.2.2.2.2.1, .int .i64 ab.2.2.2.2.2.2.2.1, .int .i64 ab.2.2.2.2.2.2.2.2.1, .slice u.2.2.2.1 ab.2.2.2.2.2.2.2.2.2.1.length u.2.2.2.2.1, .bool ab.2.2.2.2.2.2.2.2.2.2.1], ap 3 1 (V3 tt) u.2.1 ab.2.2.1 u.2.2.1, ap 144 5 (aQ (u.2.2.2.2.2.1)) u.2.2.2.1 ab.2.2.2.2.2.2.2.2.2.1 u.2.2.2.2.1, u.2.2.2.2.2.1, obj t.1 97 [.map (some u.2.2.2.2.2.2.1), str ab.2.2.2.2.2.2.2.2.2.2.2.2.2.2.1, .int .i64 ab.2.2.2.2.2.2.2.2.2.2.2.2.2.2.2.1, .bool ab.2.2.2.2.2.2.2.2.2.2.2.2.2.2.2.2], am (aj u.2.2.2.2.2.2.1 ao ak u.2.2.2.2.2.2.2) ai u.2.2.2.2.2.2.2 ab.2.2.2.2.2.2.2.2.2.2.2.2.2.1, F]) O O O O O O call17 (.sel 10 O (.sel 10 O (.sel 6 O (.sel' 6 O (ap.mk g3) (.sel' 6 O (ap.mk g4) (.sel 6 O (.sel 0 O (.sel 0 O (.sel 0 O (.sel 0 O (.sel 0 O (.sel 0 O (.sel 0 O (.nil _)))))))))))))) (ce.calls _ _ k o.1 q.1 o.2.2.2.2.2.2.1 o.2.2.2.2.2.2.2 n.2.2.2.2.2.2.2.2.2.2.2.2.2.1 n.2.2.2.2.2.2.2.2.2.2.2.2.2.2.1 n.2.2.2.2.2.2.2.2.2.2.2.2.2.2.2.1 n.2.2.2.2.2.2.2.2.2.2.2.2.2.2.2.2 n.2.1 o.2.1 o.2.2.1 n.2.2.1 n.2.2.2.1 n.2.2.2.2.1 n.2.2.2.2.2.1 n.2.2.2.2.2.2.1 n.2.2.2.2.2.2.2.1 n.2.2.2.2.2.2.2.2.1 o.2.2.2.1 o.2.2.2.2.1 n.2.2.2.2.2.2.2.2.2.1 o.2.2.2.2.2.1 n.2.2.2.2.2.2.2.2.2.2.1 false (0 : Int) (0 : Int) (0 : Int) (0 : Int) (0 : Int) a2 c2 x2 (h2.up (Up.lend 6 O) (V35.up (Up.lend 6 O))) hn ho (hgl.lend 6 O)) g5) O O O ?_
 intro c
 refine va O O (nx ?_)
 refine va O O (ae (aa ?_))
 refine bE (S := Int × Int × List Int × Int × Int × Int × Int × Int × Int × (List (aG)) × Bool × (List ((List UInt8) × (List UInt8 × Int))) × List UInt8 × Int × Bool) (Option Addr × Nat × HA × Option Addr × Nat × Nat × Kps) (fun s y => [(10, .pointer (some ⟨o.1, 0, none⟩)), (13, .pointer (some ⟨u.1, 0, none⟩)), (16, .int .i64 a.1), (17, .int .i64 s.1)]) (fun s y => [obj q.1 97 [.map (some c.1), str a.2.2.1, .int .i64 a.2.2.2.1, .bool a.2.2.2.2.1], obj o.1 91 [.pointer (some ⟨q.1, 0, none⟩), .int .i64 a.2.2.2.2.2.1, .slice c.2.2.1 a.2.2.2.2.2.2.1.length c.2.2.2.1, .int .i64 a.2.2.2.2.2.2.2.1, .int .i64 a.2.2.2.2.2.2.2.2.1, .int .i64 a.2.2.2.2.2.2.2.2.2.1, .int .i64 a.2.2.2.2.2.2.2.2.2.2.1, .int .i64 a.2.2.2.2.2.2.2.2.2.2.2.1, .int .i64 a.2.2.2.2.2.2.2.2.2.2.2.2.1, .slice c.2.2.2.2.1 a.2.2.2.2.2.2.2.2.2.2.2.2.2.1.length c.2.2.2.2.2.1, .bool a.2.2.2.2.2.2.2.2.2.2.2.2.2.2], obj u.1 91 [.pointer (some ⟨t.1, 0, none⟩), .int .i64 s.2.1, .slice y.1 s.2.2.1.length y.2.1, .int .i64 s.2.2.2.1, .int .i64 s.2.2.2.2.1, .int .i64 s.2.2.2.2.2.1, .int .i64 s.2.2.2.2.2.2.1, .int .i64 s.2.2.2.2.2.2.2.1, .int .i64 s.2.2.2.2.2.2.2.2.1, .slice y.2.2.2.1 s.2.2.2.2.2.2.2.2.2.1.length y.2.2.2.2.1, .bool s.2.2.2.2.2.2.2.2.2.2.1], obj t.1 97 [.map (some y.2.2.2.2.2.1), str s.2.2.2.2.2.2.2.2.2.2.2.2.1, .int .i64 s.2.2.2.2.2.2.2.2.2.2.2.2.2.1, .bool s.2.2.2.2.2.2.2.2.2.2.2.2.2.2], am (aj c.1 ao ak c.2.1) ai c.2.1 a.2.1, ap 3 1 (V3 tt) c.2.2.1 a.2.2.2.2.2.2.1 c.2.2.2.1, ap 144 5 (aQ (c.2.2.2.2.2.2)) c.2.2.2.2.1 a.2.2.2.2.2.2.2.2.2.2.2.2.2.1 c.2.2.2.2.2.1, ap 3 1 (V3 tt) y.1 s.2.2.1 y.2.1, ap 144 5 (aQ (y.2.2.1)) y.2.2.2.1 s.2.2.2.2.2.2.2.2.2.1 y.2.2.2.2.1, am (aj y.2.2.2.2.2.1 ao ak y.2.2.2.2.2.2) ai y.2.2.2.2.2.2 s.2.2.2.2.2.2.2.2.2.2.2.1, c.2.2.2.2.2.2, y.2.2.1, F]) ?_ ?_
 refine sr ?_
 refine va O O (ae (aa ?_))
 refine aT ?_
 refine cC (S := Int × Int × Int × List Int × Int × Int × Int × Int × Int × Int × (List (aG)) × Bool × (List ((List UInt8) × (List UInt8 × Int))) × List UInt8 × Int × Bool) (Option Addr × Nat × HA × Option Addr × Nat × Nat × Kps) (fun k s => bj.l1 x2 k s.1 s.2.1 s.2.2.1 s.2.2.2.1 s.2.2.2.2.1 s.2.2.2.2.2.1 s.2.2.2.2.2.2.1 s.2.2.2.2.2.2.2.1 s.2.2.2.2.2.2.2.2.1 s.2.2.2.2.2.2.2.2.2.1 s.2.2.2.2.2.2.2.2.2.2.1 s.2.2.2.2.2.2.2.2.2.2.2.1 s.2.2.2.2.2.2.2.2.2.2.2.2.1 s.2.2.2.2.2.2.2.2.2.2.2.2.2.1 s.2.2.2.2.2.2.2.2.2.2.2.2.2.2.1 s.2.2.2.2.2.2.2.2.2.2.2.2.2.2.2) (fun s y => [(2, .slice a2 x2.length c2), (10, .pointer (some ⟨o.1, 0, none⟩)), (13, .pointer (some ⟨u.1, 0, none⟩)), (16, .int .i64 a.1), (17, .int .i64 s.1), (18, .int .i64 s.2.1)]) (fun s y => [obj q.1 97 [.map (some c.1), str a.2.2.1, .int .i64 a.2.2.2.1, .bool a.2.2.2.2.1], obj o.1 91 [.pointer (some ⟨q.1, 0, none⟩), .int .i64 a.2.2.2.2.2.1, .slice c.2.2.1 a.2.2.2.2.2.2.1.length c.2.2.2.1, .int .i64 a.2.2.2.2.2.2.2.1, .int .i64 a.2.2.2.2.2.2.2.2.1, .int .i64 a.2.2.2.2.2.2.2.2.2.1, .int .i64 a.2.2.2.2.2.2.2.2.2.2.1, .int .i64 a.2.2.2.2.2.2.2.2.2.2.2.1, .int .i64 a.2.2.2.2.2.2.2.2.2.2.2.2.1, .slice c.2.2.2.2.1 a.2.2.2.2.2.2.2.2.2.2.2.2.2.1.length c.2.2.2.2.2.1, .bool a.2.2.2.2.2.2.2.2.2.2.2.2.2.2], obj u.1 91 [.pointer (some ⟨t.1, 0, none⟩), .int .i64 s.2.2.1, .slice y.1 s.2.2.2.1.length y.2.1, .int .i64 s.2.2.2.2.1, .int .i64 s.2.2.2.2.2.1, .int .i64 s.2.2.2.2.2.2.1, .int .i64 s.2.2.2.2.2.2.2.1, .int .i64 s.2.2.2.2.2.2.2.2.1, .int .i64 s.2.2.2.2.2.2.2.2.2.1, .slice y.2.2.2.1 s.2.2.2.2.2.2.2.2.2.2.1.length y.2.2.2.2.1, .bool s.2.2.2.2.2.2.2.2.2.2.2.1], obj t.1 97 [.map (some y.2.2.2.2.2.1), str s.2.2.2.2.2.2.2.2.2.2.2.2.2.1, .int .i64 s.2.2.2.2.2.2.2.2.2.2.2.2.2.2.1, .bool s.2.2.2.2.2.2.2.2.2.2.2.2.2.2.2], am (aj c.1 ao ak c.2.1) ai c.2.1 a.2.1, ap 3 1 (V3 tt) c.2.2.1 a.2.2.2.2.2.2.1 c.2.2.2.1, ap 144 5 (aQ (c.2.2.2.2.2.2)) c.2.2.2.2.1 a.2.2.2.2.2.2.2.2.2.2.2.2.2.1 c.2.2.2.2.2.1, ap 3 1 (V3 tt) y.1 s.2.2.2.1 y.2.1, ap 144 5 (aQ (y.2.2.1)) y.2.2.2.1 s.2.2.2.2.2.2.2.2.2.2.1 y.2.2.2.2.1, am (aj y.2.2.2.2.2.1 ao ak y.2.2.2.2.2.2) ai y.2.2.2.2.2.2 s.2.2.2.2.2.2.2.2.2.2.2.2.1, c.2.2.2.2.2.2, y.2.2.1, F]) (fun _ => by rw [bj.l1]) ?_ k (0, 0, ab.2.1, ab.2.2.1, ab.2.2.2.1, ab.2.2.2.2.1, ab.2.2.2.2.2.1, ab.2.2.2.2.2.2.1, ab.2.2.2.2.2.2.2.1, ab.2.2.2.2.2.2.2.2.1, ab.2.2.2.2.2.2.2.2.2.1, ab.2.2.2.2.2.2.2.2.2.2.1, ab.2.2.2.2.2.2.2.2.2.2.2.2.2.1, ab.2.2.2.2.2.2.2.2.2.2.2.2.2.2.1, ab.2.2.2.2.2.2.2.2.2.2.2.2.2.2.2.1, ab.2.2.2.2.2.2.2.2.2.2.2.2.2.2.2.2) (u.2.1, u.2.2.1, u.2.2.2.2.2.1, u.2.2.2.1, u.2.2.2.2.1, u.2.2.2.2.2.2.1, u.2.2.2.2.2.2.2) ⟨O, O, O, O, O, O, trivial⟩ (.sel 0 O (.sel 1 O (.sel 4 O (.sel 7 O (.sel 0 O (.sel 0 O (.sel 0 O (.sel 1 O (.sel 1 O (.sel 2 O (.sel 0 O (.sel 0 O (.sel 0 O (.nil _))))))))))))))
 intro k l ad
 refine df (by rw [bj.l1]) ?_
 refine ay (sr ?_)
 refine vm O O ?_
 refine vm O O ?_
 refine vq (bD O O O underlying32) O ?_
 refine vq (cH O O O) O ?_
 refine vm O O ?_
 refine au (b := decide (l.2.1 < (x2.length : Int))) (fun hw => RQ.sub (E' := [(17, .int .i64 l.1)]) ⟨O, trivial⟩ (ba O O)) O O O O O ?_
 refine au (b := decide (l.2.1 < (x2.length : Int))) (fun c9 => RQ.sub (E' := [(99, .int .i64 l.1)]) ⟨aE O c9, trivial⟩ (bI O O O)) O O O O O ?_
 refine vq (db O O O) O (ae (aa ?_))
 refine aY O (fun kl => ?_) (fun k0 => ?_)
 refine aC ?_
 refine aa (ay ?_)
 refine aT ?_
 refine aJ ?_
 refine vm O O ?_
 refine vm O O ?_
 refine vm O O ?_
 refine bh (fun c0 => ?_)
 obtain ⟨k1, hY, k2, g6, g7, hx, hcell79v⟩ := RdV.pos h2 (Up.refl _) rfl (i := l.2.1.toNat) (by omega) aL
 obtain ⟨br, bs, rfl, ⟨g8, g9, ha⟩⟩ := g7
 refine vq (dC O O O g6 underlying32 sizeOf35 c0.1 c0.2) O ?_
 refine vq (cf O O isAgg35 sizeOf35 O (fun j v hj => hcell79v 12 O j v hj)) O ?_
 have b5 : bx 4 (V35 F) ([((x2.getD l.2.1.toNat aL).1, (x2.getD l.2.1.toNat aL).2.1, (x2.getD l.2.1.toNat aL).2.2.1, (x2.getD l.2.1.toNat aL).2.2.2)] : List (bz)) [[.int .i64 ((x2.getD l.2.1.toNat aL).1), .int .i64 ((x2.getD l.2.1.toNat aL).2.1), .int .i64 ((x2.getD l.2.1.toNat aL).2.2.1), .slice br (((x2.getD l.2.1.toNat aL).2.2.2).length) bs]] := ⟨⟨rfl, aM (by rfl), ⟨br, bs, rfl, ⟨g8, g9, ha⟩⟩⟩, trivial⟩
 refine ah (eB (V := (V35 F)) (xs := ([((x2.getD l.2.1.toNat aL).1, (x2.getD l.2.1.toNat aL).2.1, (x2.getD l.2.1.toNat aL).2.2.1, (x2.getD l.2.1.toNat aL).2.2.2)] : List (bz))) [[.int .i64 ((x2.getD l.2.1.toNat aL).1), .int .i64 ((x2.getD l.2.1.toNat aL).2.1), .int .i64 ((x2.getD l.2.1.toNat aL).2.2.1), .slice br (((x2.getD l.2.1.toNat aL).2.2.2).length) bs]] O O underlying32 jV O (by kernel_rfl) O b5 O O) O O O ?_
 intro bt
 refine vq (cx (v := .agg #[.bool false, .int .i64 0, .int .i64 0, .int .i64 0, .int .i64 0, .int .i64 0, .slice (some ⟨bt, 0, none⟩) (([((x2.getD l.2.1.toNat aL).1, (x2.getD l.2.1.toNat aL).2.1, (x2.getD l.2.1.toNat aL).2.2.1, (x2.getD l.2.1.toNat aL).2.2.2)] : List (bz)).length) 1]) O O (fun _ => by kernel_rfl)) O ?_
 refine bg 8 O (fun hZ hb => ?_)
 refine bg 9 O (fun h0 hc => ?_)
 refine aw (fun z he => ?_)
 refine bd 0 O (fun hf hg hh h3 => ?_)
 refine ah (av (vs := [.pointer (some ⟨u.1, 0, none⟩), .agg #[.bool false, .int .i64 0, .int .i64 0, .int .i64 0, .int .i64 0, .int .i64 0, .slice (some ⟨bt, 0, none⟩) (([((x2.getD l.2.1.toNat aL).1, (x2.getD l.2.1.toNat aL).2.1, (x2.getD l.2.1.toNat aL).2.2.1, (x2.getD l.2.1.toNat aL).2.2.2)] : List (bz)).length) 1]]) (cap := []) (A := [obj t.1 97 [.map (some ad.2.2.2.2.2.1), str l.2.2.2.2.2.2.2.2.2.2.2.2.2.1, .int .i64 l.2.2.2.2.2.2.2.2.2.2.2.2.2.2.1, .bool l.2.2.2.2.2.2.2.2.2.2.2.2.2.2.2], am (aj ad.2.2.2.2.2.1 ao ak ad.2.2.2.2.2.2) ai ad.2.2.2.2.2.2 l.2.2.2.2.2.2.2.2.2.2.2.2.1, obj u.1 91 [.pointer (some ⟨t.1, 0, none⟩), .int .i64 l.2.2.1, .slice ad.1 l.2.2.2.1.length ad.2.1, .int .i64 l.2.2.2.2.1, .int .i64 l.2.2.2.2.2.1, .int .i64 l.2.2.2.2.2.2.1, .int .i64 l.2.2.2.2.2.2.2.1, .int .i64 l.2.2.2.2.2.2.2.2.1, .int .i64 l.2.2.2.2.2.2.2.2.2.1, .slice ad.2.2.2.1 l.2.2.2.2.2.2.2.2.2.2.1.length ad.2.2.2.2.1, .bool l.2.2.2.2.2.2.2.2.2.2.2.1], ap 3 1 (V3 tt) ad.1 l.2.2.2.1 ad.2.1, ap 144 5 (aQ (ad.2.2.1)) ad.2.2.2.1 l.2.2.2.2.2.2.2.2.2.2.1 ad.2.2.2.2.1, ad.2.2.1]) (rst := [Row 35 4 (some ⟨bt, 0, none⟩) ([((x2.getD l.2.1.toNat aL).1, (x2.getD l.2.1.toNat aL).2.1, (x2.getD l.2.1.toNat aL).2.2.1, (x2.getD l.2.1.toNat aL).2.2.2)] : List (bz)).length 1 [[.int .i64 ((x2.getD l.2.1.toNat aL).1), .int .i64 ((x2.getD l.2.1.toNat aL).2.1), .int .i64 ((x2.getD l.2.1.toNat aL).2.2.1), .slice br (((x2.getD l.2.1.toNat aL).2.2.2).length) bs]].flatten, obj q.1 97 [.map (some c.1), str a.2.2.1, .int .i64 a.2.2.2.1, .bool a.2.2.2.2.1], obj o.1 91 [.pointer (some ⟨q.1, 0, none⟩), .int .i64 a.2.2.2.2.2.1, .slice c.2.2.1 a.2.2.2.2.2.2.1.length c.2.2.2.1, .int .i64 a.2.2.2.2.2.2.2.1, .int .i64 a.2.2.2.2.2.2.2.2.1, .int .i64 a.2.2.2.2.2.2.2.2.2.1, .int .i64 a.2.2.2.2.2.2.2.2.2.2.1, .int .i64 a.2.2.2.2.2.2.2.2.2.2.2.1, .int .i64 a.2.2.2.2.2.2.2.2.2.2.2.2.1, .slice c.2.2.2.2.1 a.2.2.2.2.2.2.2.2.2.2.2.2.2.1.length c.2.2.2.2.2.1, .bool a.2.2.2.2.2.2.2.2.2.2.2.2.2.2], am (aj c.1 ao ak c.2.1) ai c.2.1 a.2.1, ap 3 1 (V3 tt) c.2.2.1 a.2.2.2.2.2.2.1 c.2.2.2.1, ap 144 5 (aQ (c.2.2.2.2.2.2)) c.2.2.2.2.1 a.2.2.2.2.2.2.2.2.2.2.2.2.2.1 c.2.2.2.2.2.1, c.2.2.2.2.2.2, F]) O O O O O O call17 (.sel 4 O (.sel 9 O (.sel 3 O (.sel' 6 O (ap.mk hb) (.sel' 6 O (ap.mk hc) (.sel 7 O (.sel 0 O (.sel 0 O (.sel 0 O (.sel 0 O (.sel 0 O (.sel 0 O (.sel 0 O (.sel 0 O (.nil _))))))))))))))) (ce.calls _ _ k u.1 t.1 ad.2.2.2.2.2.1 ad.2.2.2.2.2.2 l.2.2.2.2.2.2.2.2.2.2.2.2.1 l.2.2.2.2.2.2.2.2.2.2.2.2.2.1 l.2.2.2.2.2.2.2.2.2.2.2.2.2.2.1 l.2.2.2.2.2.2.2.2.2.2.2.2.2.2.2 l.2.2.1 ad.1 ad.2.1 l.2.2.2.1 l.2.2.2.2.1 l.2.2.2.2.2.1 l.2.2.2.2.2.2.1 l.2.2.2.2.2.2.2.1 l.2.2.2.2.2.2.2.2.1 l.2.2.2.2.2.2.2.2.2.1 ad.2.2.2.1 ad.2.2.2.2.1 l.2.2.2.2.2.2.2.2.2.2.1 ad.2.2.1 l.2.2.2.2.2.2.2.2.2.2.2.1 false (0 : Int) (0 : Int) (0 : Int) (0 : Int) (0 : Int) (some ⟨bt, 0, none⟩) 1 ([((x2.getD l.2.1.toNat aL).1, (x2.getD l.2.1.toNat aL).2.1, (x2.getD l.2.1.toNat aL).2.2.1, (x2.getD l.2.1.toNat aL).2.2.2)] : List (bz)) ((Rd.asV b5 hf).up (Up.lend 0 O) (V35.up (Up.lend 7 O))) hg hh (hgl.lend 7 O)) he) O O O ?_
 intro al
 refine aw (fun hm hi => ?_)
 refine ah (av (vs := [.int .i64 z.1]) (cap := []) (A := []) (rst := [obj t.1 97 [.map (some al.1), str z.2.2.1, .int .i64 z.2.2.2.1, .bool z.2.2.2.2.1], am (aj al.1 ao ak al.2.1) ai al.2.1 z.2.1, obj u.1 91 [.pointer (some ⟨t.1, 0, none⟩), .int .i64 z.2.2.2.2.2.1, .slice al.2.2.1 z.2.2.2.2.2.2.1.length al.2.2.2.1, .int .i64 z.2.2.2.2.2.2.2.1, .int .i64 z.2.2.2.2.2.2.2.2.1, .int .i64 z.2.2.2.2.2.2.2.2.2.1, .int .i64 z.2.2.2.2.2.2.2.2.2.2.1, .int .i64 z.2.2.2.2.2.2.2.2.2.2.2.1, .int .i64 z.2.2.2.2.2.2.2.2.2.2.2.2.1, .slice al.2.2.2.2.1 z.2.2.2.2.2.2.2.2.2.2.2.2.2.1.length al.2.2.2.2.2.1, .bool z.2.2.2.2.2.2.2.2.2.2.2.2.2.2], ap 3 1 (V3 tt) al.2.2.1 z.2.2.2.2.2.2.1 al.2.2.2.1, ap 144 5 (aQ (al.2.2.2.2.2.2)) al.2.2.2.2.1 z.2.2.2.2.2.2.2.2.2.2.2.2.2.1 al.2.2.2.2.2.1, al.2.2.2.2.2.2, Row 35 4 (some ⟨bt, 0, none⟩) ([((x2.getD l.2.1.toNat aL).1, (x2.getD l.2.1.toNat aL).2.1, (x2.getD l.2.1.toNat aL).2.2.1, (x2.getD l.2.1.toNat aL).2.2.2)] : List (bz)).length 1 [[.int .i64 ((x2.getD l.2.1.toNat aL).1), .int .i64 ((x2.getD l.2.1.toNat aL).2.1), .int .i64 ((x2.getD l.2.1.toNat aL).2.2.1), .slice br (((x2.getD l.2.1.toNat aL).2.2.2).length) bs]].flatten, obj q.1 97 [.map (some c.1), str a.2.2.1, .int .i64 a.2.2.2.1, .bool a.2.2.2.2.1], obj o.1 91 [.pointer (some ⟨q.1, 0, none⟩), .int .i64 a.2.2.2.2.2.1, .slice c.2.2.1 a.2.2.2.2.2.2.1.length c.2.2.2.1, .int .i64 a.2.2.2.2.2.2.2.1, .int .i64 a.2.2.2.2.2.2.2.2.1, .int .i64 a.2.2.2.2.2.2.2.2.2.1, .int .i64 a.2.2.2.2.2.2.2.2.2.2.1, .int .i64 a.2.2.2.2.2.2.2.2.2.2.2.1, .int .i64 a.2.2.2.2.2.2.2.2.2.2.2.2.1, .slice c.2.2.2.2.1 a.2.2.2.2.2.2.2.2.2.2.2.2.2.1.length c.2.2.2.2.2.1, .bool a.2.2.2.2.2.2.2.2.2.2.2.2.2.2], am (aj c.1 ao ak c.2.1) ai c.2.1 a.2.1, ap 3 1 (V3 tt) c.2.2.1 a.2.2.2.2.2.2.1 c.2.2.2.1, ap 144 5 (aQ (c.2.2.2.2.2.2)) c.2.2.2.2.1 a.2.2.2.2.2.2.2.2.2.2.2.2.2.1 c.2.2.2.2.2.1, c.2.2.2.2.2.2, F]) O O O O O O call13 (.sel 0 O (.sel 0 O (.sel 0 O (.sel 0 O (.sel 0 O (.sel 0 O (.sel 0 O (.sel 0 O (.sel 0 O (.sel 0 O (.sel 0 O (.sel 0 O (.sel 0 O (.sel 0 O (.nil _))))))))))))))) (cl.calls _ _ z.1 ) hi) O O O ?_
 intro h4
 refine va O O (ae (bv (aa (aJ ?_))))
 refine vm O O ?_
 refine vq (cb O O O) O ?_
 refine va O O (ae ?_)
 exact bV (s := (hm, IntKind.i64.wrap (l.2.1 + 1), z.2.2.2.2.2.1, z.2.2.2.2.2.2.1, z.2.2.2.2.2.2.2.1, z.2.2.2.2.2.2.2.2.1, z.2.2.2.2.2.2.2.2.2.1, z.2.2.2.2.2.2.2.2.2.2.1, z.2.2.2.2.2.2.2.2.2.2.2.1, z.2.2.2.2.2.2.2.2.2.2.2.2.1, z.2.2.2.2.2.2.2.2.2.2.2.2.2.1, z.2.2.2.2.2.2.2.2.2.2.2.2.2.2, z.2.1, z.2.2.1, z.2.2.2.1, z.2.2.2.2.1)) (al.2.2.1, al.2.2.2.1, al.2.2.2.2.2.2, al.2.2.2.2.1, al.2.2.2.2.2.1, al.1, al.2.1) ⟨O, O, O, O, O, O, trivial⟩ (.sel 7 O (.sel 7 O (.sel 2 O (.sel 0 O (.sel 5 O (.sel 5 O (.sel 5 O (.sel 1 O (.sel 1 O (.sel 0 O (.sel 2 O (.sel 0 O (.sel 1 O (.nil _))))))))))))))
 refine cN ?_
 refine ct ?_
 refine cD ?_
 refine cu ?_
 exact aF (s := (l.1, l.2.2.1, l.2.2.2.1, l.2.2.2.2.1, l.2.2.2.2.2.1, l.2.2.2.2.2.2.1, l.2.2.2.2.2.2.2.1, l.2.2.2.2.2.2.2.2.1, l.2.2.2.2.2.2.2.2.2.1, l.2.2.2.2.2.2.2.2.2.2.1, l.2.2.2.2.2.2.2.2.2.2.2.1, l.2.2.2.2.2.2.2.2.2.2.2.2.1, l.2.2.2.2.2.2.2.2.2.2.2.2.2.1, l.2.2.2.2.2.2.2.2.2.2.2.2.2.2.1, l.2.2.2.2.2.2.2.2.2.2.2.2.2.2.2)) (ad.1, ad.2.1, ad.2.2.1, ad.2.2.2.1, ad.2.2.2.2.1, ad.2.2.2.2.2.1, ad.2.2.2.2.2.2) ⟨O, O, O, O, trivial⟩ (.sel 0 O (.sel 0 O (.sel 0 O (.sel 0 O (.sel 0 O (.sel 0 O (.sel 0 O (.sel 0 O (.sel 0 O (.sel 0 O (.sel 0 O (.sel 0 O (.sel 0 O (.nil _))))))))))))))
 intro e g
 refine ay (sr ?_)
 refine vm O O ?_
 refine aw (fun h5 dl => ?_)
 refine ah (av (vs := [.int .i64 a.1]) (cap := []) (A := []) (rst := [obj q.1 97 [.map (some c.1), str a.2.2.1, .int .i64 a.2.2.2.1, .bool a.2.2.2.2.1], obj o.1 91 [.pointer (some ⟨q.1, 0, none⟩), .int .i64 a.2.2.2.2.2.1, .slice c.2.2.1 a.2.2.2.2.2.2.1.length c.2.2.2.1, .int .i64 a.2.2.2.2.2.2.2.1, .int .i64 a.2.2.2.2.2.2.2.2.1, .int .i64 a.2.2.2.2.2.2.2.2.2.1, .int .i64 a.2.2.2.2.2.2.2.2.2.2.1, .int .i64 a.2.2.2.2.2.2.2.2.2.2.2.1, .int .i64 a.2.2.2.2.2.2.2.2.2.2.2.2.1, .slice c.2.2.2.2.1 a.2.2.2.2.2.2.2.2.2.2.2.2.2.1.length c.2.2.2.2.2.1, .bool a.2.2.2.2.2.2.2.2.2.2.2.2.2.2], obj u.1 91 [.pointer (some ⟨t.1, 0, none⟩), .int .i64 e.2.1, .slice g.1 e.2.2.1.length g.2.1, .int .i64 e.2.2.2.1, .int .i64 e.2.2.2.2.1, .int .i64 e.2.2.2.2.2.1, .int .i64 e.2.2.2.2.2.2.1, .int .i64 e.2.2.2.2.2.2.2.1, .int .i64 e.2.2.2.2.2.2.2.2.1, .slice g.2.2.2.1 e.2.2.2.2.2.2.2.2.2.1.length g.2.2.2.2.1, .bool e.2.2.2.2.2.2.2.2.2.2.1], obj t.1 97 [.map (some g.2.2.2.2.2.1), str e.2.2.2.2.2.2.2.2.2.2.2.2.1, .int .i64 e.2.2.2.2.2.2.2.2.2.2.2.2.2.1, .bool e.2.2.2.2.2.2.2.2.2.2.2.2.2.2], am (aj c.1 ao ak c.2.1) ai c.2.1 a.2.1, ap 3 1 (V3 tt) c.2.2.1 a.2.2.2.2.2.2.1 c.2.2.2.1, ap 144 5 (aQ (c.2.2.2.2.2.2)) c.2.2.2.2.1 a.2.2.2.2.2.2.2.2.2.2.2.2.2.1 c.2.2.2.2.2.1, ap 3 1 (V3 tt) g.1 e.2.2.1 g.2.1, ap 144 5 (aQ (g.2.2.1)) g.2.2.2.1 e.2.2.2.2.2.2.2.2.2.1 g.2.2.2.2.1, am (aj g.2.2.2.2.2.1 ao ak g.2.2.2.2.2.2) ai g.2.2.2.2.2.2 e.2.2.2.2.2.2.2.2.2.2.2.1, c.2.2.2.2.2.2, g.2.2.1, F]) O O O O O O call13 (.sel 0 O (.sel 0 O (.sel 0 O (.sel 0 O (.sel 0 O (.sel 0 O (.sel 0 O (.sel 0 O (.sel 0 O (.sel 0 O (.sel 0 O (.sel 0 O (.sel 0 O (.nil _)))))))))))))) (cl.calls _ _ a.1 ) dl) O O O ?_
 intro h6
 refine vq (cZ O O O) O (ae (aa ?_))
 refine cS O (fun h7 => ?_) (fun h8 => ?_)
 refine aC ?_
 refine aa (sr ?_)
 refine vm O O ?_
 refine bg 5 O (fun a8 ds => ?_)
 refine bg 6 O (fun a9 d1 => ?_)
 refine aw (fun m d2 => ?_)
 refine bd 5 O (fun d3 d4 d5 hy => ?_)
 refine bd 6 O (fun d6 d7 d8 hz => ?_)
 refine ah (av (vs := [.pointer (some ⟨o.1, 0, none⟩)]) (cap := []) (A := [obj q.1 97 [.map (some c.1), str a.2.2.1, .int .i64 a.2.2.2.1, .bool a.2.2.2.2.1], am (aj c.1 ao ak c.2.1) ai c.2.1 a.2.1, obj o.1 91 [.pointer (some ⟨q.1, 0, none⟩), .int .i64 a.2.2.2.2.2.1, .slice c.2.2.1 a.2.2.2.2.2.2.1.length c.2.2.2.1, .int .i64 a.2.2.2.2.2.2.2.1, .int .i64 a.2.2.2.2.2.2.2.2.1, .int .i64 a.2.2.2.2.2.2.2.2.2.1, .int .i64 a.2.2.2.2.2.2.2.2.2.2.1, .int .i64 a.2.2.2.2.2.2.2.2.2.2.2.1, .int .i64 a.2.2.2.2.2.2.2.2.2.2.2.2.1, .slice c.2.2.2.2.1 a.2.2.2.2.2.2.2.2.2.2.2.2.2.1.length c.2.2.2.2.2.1, .bool a.2.2.2.2.2.2.2.2.2.2.2.2.2.2]]) (rst := [obj u.1 91 [.pointer (some ⟨t.1, 0, none⟩), .int .i64 e.2.1, .slice g.1 e.2.2.1.length g.2.1, .int .i64 e.2.2.2.1, .int .i64 e.2.2.2.2.1, .int .i64 e.2.2.2.2.2.1, .int .i64 e.2.2.2.2.2.2.1, .int .i64 e.2.2.2.2.2.2.2.1, .int .i64 e.2.2.2.2.2.2.2.2.1, .slice g.2.2.2.1 e.2.2.2.2.2.2.2.2.2.1.length g.2.2.2.2.1, .bool e.2.2.2.2.2.2.2.2.2.2.1], obj t.1 97 [.map (some g.2.2.2.2.2.1), str e.2.2.2.2.2.2.2.2.2.2.2.2.1, .int .i64 e.2.2.2.2.2.2.2.2.2.2.2.2.2.1, .bool e.2.2.2.2.2.2.2.2.2.2.2.2.2.2], Row 3 1 c.2.2.1 a.2.2.2.2.2.2.1.length c.2.2.2.1 a8.flatten, Row 144 5 c.2.2.2.2.1 a.2.2.2.2.2.2.2.2.2.2.2.2.2.1.length c.2.2.2.2.2.1 a9.flatten, ap 3 1 (V3 tt) g.1 e.2.2.1 g.2.1, ap 144 5 (aQ (g.2.2.1)) g.2.2.2.1 e.2.2.2.2.2.2.2.2.2.1 g.2.2.2.2.1, am (aj g.2.2.2.2.2.1 ao ak g.2.2.2.2.2.2) ai g.2.2.2.2.2.2 e.2.2.2.2.2.2.2.2.2.2.2.1, c.2.2.2.2.2.2, g.2.2.1, F]) O O O O O O call18 (.sel 0 O (.sel 3 O (.sel 0 O (.sel 0 O (.sel 0 O (.sel 0 O (.sel 0 O (.sel 0 O (.sel 0 O (.sel 0 O (.sel 0 O (.sel 0 O (.sel 0 O (.nil _)))))))))))))) (dL.calls _ _ k o.1 q.1 c.1 c.2.1 a.2.1 a.2.2.1 a.2.2.2.1 a.2.2.2.2.1 a.2.2.2.2.2.1 c.2.2.1 c.2.2.2.1 a.2.2.2.2.2.2.1 a.2.2.2.2.2.2.2.1 a.2.2.2.2.2.2.2.2.1 a.2.2.2.2.2.2.2.2.2.1 a.2.2.2.2.2.2.2.2.2.2.1 a.2.2.2.2.2.2.2.2.2.2.2.1 a.2.2.2.2.2.2.2.2.2.2.2.2.1 c.2.2.2.2.1 c.2.2.2.2.2.1 a.2.2.2.2.2.2.2.2.2.2.2.2.2.1 a.2.2.2.2.2.2.2.2.2.2.2.2.2.2 ((Rd.asV ds d3).up (Up.lend 2 O) (fun _ _ h => h)) d4 d5 ((Rd.asV d1 d6).up (Up.lend 3 O) (aQ.up (Up.lend 7 O))) d7 d8) d2) O O O ?_
 intro x
 refine ah (bL O zeroValue47 O) O O O ?_
 intro a5
 refine aU (aH 0 O O O sizeOf47 O O (aM (by rfl)) O O) O O ?_
 intro _
 refine bR (H' := [obj a5 47 [.int .i64 m.1, .int .i64 m.2.1, .int .i64 m.2.2.1, .int .i64 m.2.2.2.1, .int .i64 m.2.2.2.2.1, .slice x.1 m.2.2.2.2.2.length x.2.1], ap 35 4 (V35 (x.2.2)) x.1 m.2.2.2.2.2 x.2.1, x.2.2, obj q.1 97 [.map (some c.1), str a.2.2.1, .int .i64 a.2.2.2.1, .bool a.2.2.2.2.1], am (aj c.1 ao ak c.2.1) ai c.2.1 a.2.1, obj o.1 91 [.pointer (some ⟨q.1, 0, none⟩), .int .i64 a.2.2.2.2.2.1, .slice c.2.2.1 a.2.2.2.2.2.2.1.length c.2.2.2.1, .int .i64 a.2.2.2.2.2.2.2.1, .int .i64 a.2.2.2.2.2.2.2.2.1, .int .i64 a.2.2.2.2.2.2.2.2.2.1, .int .i64 a.2.2.2.2.2.2.2.2.2.2.1, .int .i64 a.2.2.2.2.2.2.2.2.2.2.2.1, .int .i64 a.2.2.2.2.2.2.2.2.2.2.2.2.1, .slice c.2.2.2.2.1 a.2.2.2.2.2.2.2.2.2.2.2.2.2.1.length c.2.2.2.2.2.1, .bool a.2.2.2.2.2.2.2.2.2.2.2.2.2.2], obj u.1 91 [.pointer (some ⟨t.1, 0, none⟩), .int .i64 e.2.1, .slice g.1 e.2.2.1.length g.2.1, .int .i64 e.2.2.2.1, .int .i64 e.2.2.2.2.1, .int .i64 e.2.2.2.2.2.1, .int .i64 e.2.2.2.2.2.2.1, .int .i64 e.2.2.2.2.2.2.2.1, .int .i64 e.2.2.2.2.2.2.2.2.1, .slice g.2.2.2.1 e.2.2.2.2.2.2.2.2.2.1.length g.2.2.2.2.1, .bool e.2.2.2.2.2.2.2.2.2.2.1], obj t.1 97 [.map (some g.2.2.2.2.2.1), str e.2.2.2.2.2.2.2.2.2.2.2.2.1, .int .i64 e.2.2.2.2.2.2.2.2.2.2.2.2.2.1, .bool e.2.2.2.2.2.2.2.2.2.2.2.2.2.2], Row 3 1 c.2.2.1 a.2.2.2.2.2.2.1.length c.2.2.2.1 a8.flatten, Row 144 5 c.2.2.2.2.1 a.2.2.2.2.2.2.2.2.2.2.2.2.2.1.length c.2.2.2.2.2.1 a9.flatten, ap 3 1 (V3 tt) g.1 e.2.2.1 g.2.1, ap 144 5 (aQ (g.2.2.1)) g.2.2.2.1 e.2.2.2.2.2.2.2.2.2.1 g.2.2.2.2.1, am (aj g.2.2.2.2.2.1 ao ak g.2.2.2.2.2.2) ai g.2.2.2.2.2.2 e.2.2.2.2.2.2.2.2.2.2.2.1, c.2.2.2.2.2.2, g.2.2.1, F]) (Ent.refl _) ?_
 refine nx ?_
 refine vm O O ?_
 refine bg 10 O (fun b0 d9 => ?_)
 refine bg 11 O (fun b1 ea => ?_)
 refine aw (fun p eb => ?_)
 refine bd 10 O (fun ec ed ee hA => ?_)
 refine bd 11 O (fun ef ei ek hB => ?_)
 refine ah (av (vs := [.pointer (some ⟨u.1, 0, none⟩)]) (cap := []) (A := [obj t.1 97 [.map (some g.2.2.2.2.2.1), str e.2.2.2.2.2.2.2.2.2.2.2.2.1, .int .i64 e.2.2.2.2.2.2.2.2.2.2.2.2.2.1, .bool e.2.2.2.2.2.2.2.2.2.2.2.2.2.2], am (aj g.2.2.2.2.2.1 ao ak g.2.2.2.2.2.2) ai g.2.2.2.2.2.2 e.2.2.2.2.2.2.2.2.2.2.2.1, obj u.1 91 [.pointer (some ⟨t.1, 0, none⟩), .int .i64 e.2.1, .slice g.1 e.2.2.1.length g.2.1, .int .i64 e.2.2.2.1, .int .i64 e.2.2.2.2.1, .int .i64 e.2.2.2.2.2.1, .int .i64 e.2.2.2.2.2.2.1, .int .i64 e.2.2.2.2.2.2.2.1, .int .i64 e.2.2.2.2.2.2.2.2.1, .slice g.2.2.2.1 e.2.2.2.2.2.2.2.2.2.1.length g.2.2.2.2.1, .bool e.2.2.2.2.2.2.2.2.2.2.1]]) (rst := [obj a5 47 [.int .i64 m.1, .int .i64 m.2.1, .int .i64 m.2.2.1, .int .i64 m.2.2.2.1, .int .i64 m.2.2.2.2.1, .slice x.1 m.2.2.2.2.2.length x.2.1], ap 35 4 (V35 (x.2.2)) x.1 m.2.2.2.2.2 x.2.1, x.2.2, obj q.1 97 [.map (some c.1), str a.2.2.1, .int .i64 a.2.2.2.1, .bool a.2.2.2.2.1], am (aj c.1 ao ak c.2.1) ai c.2.1 a.2.1, obj o.1 91 [.pointer (some ⟨q.1, 0, none⟩), .int .i64 a.2.2.2.2.2.1, .slice c.2.2.1 a.2.2.2.2.2.2.1.length c.2.2.2.1, .int .i64 a.2.2.2.2.2.2.2.1, .int .i64 a.2.2.2.2.2.2.2.2.1, .int .i64 a.2.2.2.2.2.2.2.2.2.1, .int .i64 a.2.2.2.2.2.2.2.2.2.2.1, .int .i64 a.2.2.2.2.2.2.2.2.2.2.2.1, .int .i64 a.2.2.2.2.2.2.2.2.2.2.2.2.1, .slice c.2.2.2.2.1 a.2.2.2.2.2.2.2.2.2.2.2.2.2.1.length c.2.2.2.2.2.1, .bool a.2.2.2.2.2.2.2.2.2.2.2.2.2.2], Row 3 1 c.2.2.1 a.2.2.2.2.2.2.1.length c.2.2.2.1 a8.flatten, Row 144 5 c.2.2.2.2.1 a.2.2.2.2.2.2.2.2.2.2.2.2.2.1.length c.2.2.2.2.2.1 a9.flatten, Row 3 1 g.1 e.2.2.1.length g.2.1 b0.flatten, Row 144 5 g.2.2.2.1 e.2.2.2.2.2.2.2.2.2.1.length g.2.2.2.2.1 b1.flatten, c.2.2.2.2.2.2, g.2.2.1, F]) O O O O O O call18 (.sel 7 O (.sel 11 O (.sel 6 O (.sel 0 O (.sel 0 O (.sel 0 O (.sel 0 O (.sel 0 O (.sel 0 O (.sel 0 O (.sel 0 O (.sel 0 O (.sel 0 O (.sel 0 O (.sel 0 O (.sel 0 O (.nil _))))))))))))))))) (dL.calls _ _ k u.1 t.1 g.2.2.2.2.2.1 g.2.2.2.2.2.2 e.2.2.2.2.2.2.2.2.2.2.2.1 e.2.2.2.2.2.2.2.2.2.2.2.2.1 e.2.2.2.2.2.2.2.2.2.2.2.2.2.1 e.2.2.2.2.2.2.2.2.2.2.2.2.2.2 e.2.1 g.1 g.2.1 e.2.2.1 e.2.2.2.1 e.2.2.2.2.1 e.2.2.2.2.2.1 e.2.2.2.2.2.2.1 e.2.2.2.2.2.2.2.1 e.2.2.2.2.2.2.2.2.1 g.2.2.2.1 g.2.2.2.2.1 e.2.2.2.2.2.2.2.2.2.1 e.2.2.2.2.2.2.2.2.2.2.1 ((Rd.asV d9 ec).up (Up.lend 8 O) (fun _ _ h => h)) ed ee ((Rd.asV ea ef).up (Up.lend 9 O) (aQ.up (Up.lend 11 O))) ei ek) eb) O O O ?_
 intro a0
 refine ah (bL O zeroValue47 O) O O O ?_
 intro a7
 refine aU (aH 0 O O O sizeOf47 O O (aM (by rfl)) O O) O O ?_
 intro _
 refine bR (H' := [obj a7 47 [.int .i64 p.1, .int .i64 p.2.1, .int .i64 p.2.2.1, .int .i64 p.2.2.2.1, .int .i64 p.2.2.2.2.1, .slice a0.1 p.2.2.2.2.2.length a0.2.1], ap 35 4 (V35 (a0.2.2)) a0.1 p.2.2.2.2.2 a0.2.1, a0.2.2, obj t.1 97 [.map (some g.2.2.2.2.2.1), str e.2.2.2.2.2.2.2.2.2.2.2.2.1, .int .i64 e.2.2.2.2.2.2.2.2.2.2.2.2.2.1, .bool e.2.2.2.2.2.2.2.2.2.2.2.2.2.2], am (aj g.2.2.2.2.2.1 ao ak g.2.2.2.2.2.2) ai g.2.2.2.2.2.2 e.2.2.2.2.2.2.2.2.2.2.2.1, obj u.1 91 [.pointer (some ⟨t.1, 0, none⟩), .int .i64 e.2.1, .slice g.1 e.2.2.1.length g.2.1, .int .i64 e.2.2.2.1, .int .i64 e.2.2.2.2.1, .int .i64 e.2.2.2.2.2.1, .int .i64 e.2.2.2.2.2.2.1, .int .i64 e.2.2.2.2.2.2.2.1, .int .i64 e.2.2.2.2.2.2.2.2.1, .slice g.2.2.2.1 e.2.2.2.2.2.2.2.2.2.1.length g.2.2.2.2.1, .bool e.2.2.2.2.2.2.2.2.2.2.1], obj a5 47 [.int .i64 m.1, .int .i64 m.2.1, .int .i64 m.2.2.1, .int .i64 m.2.2.2.1, .int .i64 m.2.2.2.2.1, .slice x.1 m.2.2.2.2.2.length x.2.1], ap 35 4 (V35 (x.2.2)) x.1 m.2.2.2.2.2 x.2.1, x.2.2, obj q.1 97 [.map (some c.1), str a.2.2.1, .int .i64 a.2.2.2.1, .bool a.2.2.2.2.1], am (aj c.1 ao ak c.2.1) ai c.2.1 a.2.1, obj o.1 91 [.pointer (some ⟨q.1, 0, none⟩), .int .i64 a.2.2.2.2.2.1, .slice c.2.2.1 a.2.2.2.2.2.2.1.length c.2.2.2.1, .int .i64 a.2.2.2.2.2.2.2.1, .int .i64 a.2.2.2.2.2.2.2.2.1, .int .i64 a.2.2.2.2.2.2.2.2.2.1, .int .i64 a.2.2.2.2.2.2.2.2.2.2.1, .int .i64 a.2.2.2.2.2.2.2.2.2.2.2.1, .int .i64 a.2.2.2.2.2.2.2.2.2.2.2.2.1, .slice c.2.2.2.2.1 a.2.2.2.2.2.2.2.2.2.2.2.2.2.1.length c.2.2.2.2.2.1, .bool a.2.2.2.2.2.2.2.2.2.2.2.2.2.2], Row 3 1 c.2.2.1 a.2.2.2.2.2.2.1.length c.2.2.2.1 a8.flatten, Row 144 5 c.2.2.2.2.1 a.2.2.2.2.2.2.2.2.2.2.2.2.2.1.length c.2.2.2.2.2.1 a9.flatten, Row 3 1 g.1 e.2.2.1.length g.2.1 b0.flatten, Row 144 5 g.2.2.2.1 e.2.2.2.2.2.2.2.2.2.1.length g.2.2.2.2.1 b1.flatten, c.2.2.2.2.2.2, g.2.2.1, F]) (Ent.refl _) ?_
 refine nx ?_
 refine vq (ar O O underlying47 O O sizeOf32 O) O ?_
 refine vq (ag O O isAgg32 (.obj 6 O O)) O ?_
 refine vq (ar O O underlying47 O O sizeOf32 O) O ?_
 refine vq (ag O O isAgg32 (.obj 0 O O)) O ?_
 refine bg 1 O (fun el em => ?_)
 refine bg 7 O (fun er es => ?_)
 refine aw (fun an et => ?_)
 refine bd 7 O (fun e0 e1 e2 hC => ?_)
 refine bd 1 O (fun e3 e4 e5 hE => ?_)
 refine ah (av (vs := [.slice x.1 m.2.2.2.2.2.length x.2.1, .slice a0.1 p.2.2.2.2.2.length a0.2.1]) (cap := []) (A := []) (rst := [obj a7 47 [.int .i64 p.1, .int .i64 p.2.1, .int .i64 p.2.2.1, .int .i64 p.2.2.2.1, .int .i64 p.2.2.2.2.1, .slice a0.1 p.2.2.2.2.2.length a0.2.1], Row 35 4 a0.1 p.2.2.2.2.2.length a0.2.1 el.flatten, a0.2.2, obj t.1 97 [.map (some g.2.2.2.2.2.1), str e.2.2.2.2.2.2.2.2.2.2.2.2.1, .int .i64 e.2.2.2.2.2.2.2.2.2.2.2.2.2.1, .bool e.2.2.2.2.2.2.2.2.2.2.2.2.2.2], am (aj g.2.2.2.2.2.1 ao ak g.2.2.2.2.2.2) ai g.2.2.2.2.2.2 e.2.2.2.2.2.2.2.2.2.2.2.1, obj u.1 91 [.pointer (some ⟨t.1, 0, none⟩), .int .i64 e.2.1, .slice g.1 e.2.2.1.length g.2.1, .int .i64 e.2.2.2.1, .int .i64 e.2.2.2.2.1, .int .i64 e.2.2.2.2.2.1, .int .i64 e.2.2.2.2.2.2.1, .int .i64 e.2.2.2.2.2.2.2.1, .int .i64 e.2.2.2.2.2.2.2.2.1, .slice g.2.2.2.1 e.2.2.2.2.2.2.2.2.2.1.length g.2.2.2.2.1, .bool e.2.2.2.2.2.2.2.2.2.2.1], obj a5 47 [.int .i64 m.1, .int .i64 m.2.1, .int .i64 m.2.2.1, .int .i64 m.2.2.2.1, .int .i64 m.2.2.2.2.1, .slice x.1 m.2.2.2.2.2.length x.2.1], Row 35 4 x.1 m.2.2.2.2.2.length x.2.1 er.flatten, x.2.2, obj q.1 97 [.map (some c.1), str a.2.2.1, .int .i64 a.2.2.2.1, .bool a.2.2.2.2.1], am (aj c.1 ao ak c.2.1) ai c.2.1 a.2.1, obj o.1 91 [.pointer (some ⟨q.1, 0, none⟩), .int .i64 a.2.2.2.2.2.1, .slice c.2.2.1 a.2.2.2.2.2.2.1.length c.2.2.2.1, .int .i64 a.2.2.2.2.2.2.2.1, .int .i64 a.2.2.2.2.2.2.2.2.1, .int .i64 a.2.2.2.2.2.2.2.2.2.1, .int .i64 a.2.2.2.2.2.2.2.2.2.2.1, .int .i64 a.2.2.2.2.2.2.2.2.2.2.2.1, .int .i64 a.2.2.2.2.2.2.2.2.2.2.2.2.1, .slice c.2.2.2.2.1 a.2.2.2.2.2.2.2.2.2.2.2.2.2.1.length c.2.2.2.2.2.1, .bool a.2.2.2.2.2.2.2.2.2.2.2.2.2.2], Row 3 1 c.2.2.1 a.2.2.2.2.2.2.1.length c.2.2.2.1 a8.flatten, Row 144 5 c.2.2.2.2.1 a.2.2.2.2.2.2.2.2.2.2.2.2.2.1.length c.2.2.2.2.2.1 a9.flatten, Row 3 1 g.1 e.2.2.1.length g.2.1 b0.flatten, Row 144 5 g.2.2.2.1 e.2.2.2.2.2.2.2.2.2.1.length g.2.2.2.2.1 b1.flatten, c.2.2.2.2.2.2, g.2.2.1, F]) O O O O O O call19 (.sel 0 O (.sel 0 O (.sel 0 O (.sel 0 O (.sel 0 O (.sel 0 O (.sel 0 O (.sel 0 O (.sel 0 O (.sel 0 O (.sel 0 O (.sel 0 O (.sel 0 O (.sel 0 O (.sel 0 O (.sel 0 O (.sel 0 O (.sel 0 O (.sel 0 O (.nil _)))))))))))))))))))) (bM.calls _ _ k x.1 x.2.1 m.2.2.2.2.2 a0.1 a0.2.1 p.2.2.2.2.2 ((Rd.asV es e0).up (Up.lend 7 O) (V35.up (Up.lend 8 O))) e1 e2 ((Rd.asV em e3).up (Up.lend 1 O) (V35.up (Up.lend 2 O))) e4 e5) et) O O O ?_
 intro h9
 refine va O O (nx ?_)
 refine vm O O ?_
 refine vq (bI O O O) O ?_
 refine vm O O ?_
 refine au (b := decide (e.1 = (0 : Int))) (fun hF => RQ.sub (E' := [(21, .bool an)]) ⟨O, trivial⟩ (ba O O)) O O O O O ?_
 refine vq (db O O O) O ?_
 refine vm O O ?_
 refine au (b := (decide (e.1 = (0 : Int))) && an) (fun hG => RQ.sub (E' := [(19, .pointer (some ⟨a5, 0, none⟩))]) ⟨O, trivial⟩ (ar O O underlying47 O O sizeOf43 O)) O O O O O ?_
 refine au (b := (decide (e.1 = (0 : Int))) && an) (fun e6 => RQ.sub (E' := [(139, .pointer (some ⟨a5, 0, none⟩))]) ⟨aE O e6, trivial⟩ (cf (vs := [.int .i64 m.1, .int .i64 m.2.1, .int .i64 m.2.2.1]) O O isAgg43 sizeOf43 O (cM 6 O (cz O)))) O O O O O ?_
 refine au (b := (decide (e.1 = (0 : Int))) && an) (fun hH => RQ.sub (E' := [(20, .pointer (some ⟨a7, 0, none⟩))]) ⟨O, trivial⟩ (ar O O underlying47 O O sizeOf43 O)) O O O O O ?_
 refine au (b := (decide (e.1 = (0 : Int))) && an) (fun e7 => RQ.sub (E' := [(141, .pointer (some ⟨a7, 0, none⟩))]) ⟨aE O e7, trivial⟩ (cf (vs := [.int .i64 p.1, .int .i64 p.2.1, .int .i64 p.2.2.1]) O O isAgg43 sizeOf43 O (cM 0 O (cz O)))) O O O O O ?_
 refine au (b := (decide (e.1 = (0 : Int))) && an) (fun b6 => RQ.sub (E' := [(140, .agg #[.int .i64 m.1, .int .i64 m.2.1, .int .i64 m.2.2.1]), (142, .agg #[.int .i64 p.1, .int .i64 p.2.1, .int .i64 p.2.2.1])]) ⟨aE O b6, aE O b6, trivial⟩ (pH O O O (by kernel_rfl) (fun d w => lP underlying43 (by kernel_rfl) (jW (by rfl) (fq isAgg3 O) (fq isAgg3 O) (iZ underlying3) (jW (by rfl) (fq isAgg3 O) (fq isAgg3 O) (iZ underlying3) (oG (by rfl) (fq isAgg3 O) (fq isAgg3 O) (iZ underlying3))))))) O O O O O ?_
 refine vq (db O O O) O ?_
 refine vm O O ?_
 refine au (b := ((decide (e.1 = (0 : Int))) && an) && (decide (m.1 = p.1) && (decide (m.2.1 = p.2.1) && (decide (m.2.2.1 = p.2.2.1))))) (fun hI => RQ.sub (E' := [(19, .pointer (some ⟨a5, 0, none⟩))]) ⟨O, trivial⟩ (ar O O underlying47 O O sizeOf3 O)) O O O O O ?_
 refine au (b := ((decide (e.1 = (0 : Int))) && an) && (decide (m.1 = p.1) && (decide (m.2.1 = p.2.1) && (decide (m.2.2.1 = p.2.2.1))))) (fun e8 => RQ.sub (E' := [(146, .pointer (some ⟨a5, 3, none⟩))]) ⟨aE O e8, trivial⟩ (ag O O isAgg3 (.obj 6 O O))) O O O O O ?_
 refine au (b := ((decide (e.1 = (0 : Int))) && an) && (decide (m.1 = p.1) && (decide (m.2.1 = p.2.1) && (decide (m.2.2.1 = p.2.2.1))))) (fun hK => RQ.sub (E' := [(20, .pointer (some ⟨a7, 0, none⟩))]) ⟨O, trivial⟩ (ar O O underlying47 O O sizeOf3 O)) O O O O O ?_
 refine au (b := ((decide (e.1 = (0 : Int))) && an) && (decide (m.1 = p.1) && (decide (m.2.1 = p.2.1) && (decide (m.2.2.1 = p.2.2.1))))) (fun e9 => RQ.sub (E' := [(148, .pointer (some ⟨a7, 3, none⟩))]) ⟨aE O e9, trivial⟩ (ag O O isAgg3 (.obj 0 O O))) O O O O O ?_
 refine au (b := ((decide (e.1 = (0 : Int))) && an) && (decide (m.1 = p.1) && (decide (m.2.1 = p.2.1) && (decide (m.2.2.1 = p.2.2.1))))) (fun b7 => RQ.sub (E' := [(147, .int .i64 m.2.2.2.1), (149, .int .i64 p.2.2.2.1)]) ⟨aE O b7, aE O b7, trivial⟩ (bI O O O)) O O O O O ?_
 refine vq (db O O O) O ?_
 refine vm O O ?_
 refine au (b := (((decide (e.1 = (0 : Int))) && an) && (decide (m.1 = p.1) && (decide (m.2.1 = p.2.1) && (decide (m.2.2.1 = p.2.2.1))))) && (decide (m.2.2.2.1 = p.2.2.2.1))) (fun hL => RQ.sub (E' := [(19, .pointer (some ⟨a5, 0, none⟩))]) ⟨O, trivial⟩ (ar O O underlying47 O O sizeOf3 O)) O O O O O ?_
 refine au (b := (((decide (e.1 = (0 : Int))) && an) && (decide (m.1 = p.1) && (decide (m.2.1 = p.2.1) && (decide (m.2.2.1 = p.2.2.1))))) && (decide (m.2.2.2.1 = p.2.2.2.1))) (fun fn => RQ.sub (E' := [(153, .pointer (some ⟨a5, 4, none⟩))]) ⟨aE O fn, trivial⟩ (ag O O isAgg3 (.obj 6 O O))) O O O O O ?_
 refine au (b := (((decide (e.1 = (0 : Int))) && an) && (decide (m.1 = p.1) && (decide (m.2.1 = p.2.1) && (decide (m.2.2.1 = p.2.2.1))))) && (decide (m.2.2.2.1 = p.2.2.2.1))) (fun hM => RQ.sub (E' := [(20, .pointer (some ⟨a7, 0, none⟩))]) ⟨O, trivial⟩ (ar O O underlying47 O O sizeOf3 O)) O O O O O ?_
 refine au (b := (((decide (e.1 = (0 : Int))) && an) && (decide (m.1 = p.1) && (decide (m.2.1 = p.2.1) && (decide (m.2.2.1 = p.2.2.1))))) && (decide (m.2.2.2.1 = p.2.2.2.1))) (fun fp => RQ.sub (E' := [(155, .pointer (some ⟨a7, 4, none⟩))]) ⟨aE O fp, trivial⟩ (ag O O isAgg3 (.obj 0 O O))) O O O O O ?_
 refine au (b := (((decide (e.1 = (0 : Int))) && an) && (decide (m.1 = p.1) && (decide (m.2.1 = p.2.1) && (decide (m.2.2.1 = p.2.2.1))))) && (decide (m.2.2.2.1 = p.2.2.2.1))) (fun b8 => RQ.sub (E' := [(154, .int .i64 m.2.2.2.2.1), (156, .int .i64 p.2.2.2.2.1)]) ⟨aE O b8, aE O b8, trivial⟩ (bI O O O)) O O O O O ?_
 refine vq (db O O O) O ?_
 refine va O O (ae (aa (aA ?_)))
 exact aD () O O O (.sel 18 O (.nil _))
 refine sr ?_
 refine vm O O ?_
 refine vq (bI O O O) O ?_
 refine vm O O ?_
 refine dG 5 (S := Bool) (Unit) (fun s y => [(123, .bool s)]) (fun s y => [F]) ?_ ?_
 refine iV (fun fr => ?_) (fun fs => ?_)
 rw [fr]
 refine aO O O O O O O ?_
 refine aO O O O O O O ?_
 refine aO O O O O O O ?_
 refine aO O O O O O O ?_
 refine vq (bW O O O O O) O (ae ?_)
 exact aF (s := true) () ⟨O, trivial⟩ (.sel 12 O (.nil _))
 rw [fs]
 refine aZ (ba O O) O O O O O O ?_
 refine aZ (ba O O) O O O O O O ?_
 refine aw (fun hk fz => ?_)
 refine fC (av (vs := [.int .i64 a.1]) (cap := []) (A := []) (rst := [obj q.1 97 [.map (some c.1), str a.2.2.1, .int .i64 a.2.2.2.1, .bool a.2.2.2.2.1], obj o.1 91 [.pointer (some ⟨q.1, 0, none⟩), .int .i64 a.2.2.2.2.2.1, .slice c.2.2.1 a.2.2.2.2.2.2.1.length c.2.2.2.1, .int .i64 a.2.2.2.2.2.2.2.1, .int .i64 a.2.2.2.2.2.2.2.2.1, .int .i64 a.2.2.2.2.2.2.2.2.2.1, .int .i64 a.2.2.2.2.2.2.2.2.2.2.1, .int .i64 a.2.2.2.2.2.2.2.2.2.2.2.1, .int .i64 a.2.2.2.2.2.2.2.2.2.2.2.2.1, .slice c.2.2.2.2.1 a.2.2.2.2.2.2.2.2.2.2.2.2.2.1.length c.2.2.2.2.2.1, .bool a.2.2.2.2.2.2.2.2.2.2.2.2.2.2], obj u.1 91 [.pointer (some ⟨t.1, 0, none⟩), .int .i64 e.2.1, .slice g.1 e.2.2.1.length g.2.1, .int .i64 e.2.2.2.1, .int .i64 e.2.2.2.2.1, .int .i64 e.2.2.2.2.2.1, .int .i64 e.2.2.2.2.2.2.1, .int .i64 e.2.2.2.2.2.2.2.1, .int .i64 e.2.2.2.2.2.2.2.2.1, .slice g.2.2.2.1 e.2.2.2.2.2.2.2.2.2.1.length g.2.2.2.2.1, .bool e.2.2.2.2.2.2.2.2.2.2.1], obj t.1 97 [.map (some g.2.2.2.2.2.1), str e.2.2.2.2.2.2.2.2.2.2.2.2.1, .int .i64 e.2.2.2.2.2.2.2.2.2.2.2.2.2.1, .bool e.2.2.2.2.2.2.2.2.2.2.2.2.2.2], am (aj c.1 ao ak c.2.1) ai c.2.1 a.2.1, ap 3 1 (V3 tt) c.2.2.1 a.2.2.2.2.2.2.1 c.2.2.2.1, ap 144 5 (aQ (c.2.2.2.2.2.2)) c.2.2.2.2.1 a.2.2.2.2.2.2.2.2.2.2.2.2.2.1 c.2.2.2.2.2.1, ap 3 1 (V3 tt) g.1 e.2.2.1 g.2.1, ap 144 5 (aQ (g.2.2.1)) g.2.2.2.1 e.2.2.2.2.2.2.2.2.2.1 g.2.2.2.2.1, am (aj g.2.2.2.2.2.1 ao ak g.2.2.2.2.2.2) ai g.2.2.2.2.2.2 e.2.2.2.2.2.2.2.2.2.2.2.1, c.2.2.2.2.2.2, g.2.2.1, F]) O O O O O O call13 (.sel 0 O (.sel 0 O (.sel 0 O (.sel 0 O (.sel 0 O (.sel 0 O (.sel 0 O (.sel 0 O (.sel 0 O (.sel 0 O (.sel 0 O (.sel 0 O (.sel 0 O (.nil _)))))))))))))) (cl.calls _ _ a.1 ) fz) O O O O O O ?_
 intro ih
 refine aZ (bI O O O) O O O O O O ?_
 refine vq (bW O O O O O) O (ae ?_)
 exact aF (s := decide (e.1 = hk)) () ⟨O, trivial⟩ (.sel 12 O (.nil _))
 intro it jg
 refine va O O (ae (aa (aA ?_)))
 refine aK ?_
 exact aD () O O O (.sel 0 O (.nil _))
 refine ah (av (vs := [.pointer (some ⟨t.1, 0, none⟩), .int .i64 x1]) (cap := []) (A := [obj t.1 97 [.map (some t.2.1), str a3.2.1, .int .i64 a3.2.2.1, .bool a3.2.2.2], am (aj t.2.1 ao ak t.2.2) ai t.2.2 a3.1]) (rst := [obj o.1 91 [.pointer (some ⟨q.1, 0, none⟩), .int .i64 n.2.1, .slice o.2.1 n.2.2.1.length o.2.2.1, .int .i64 n.2.2.2.1, .int .i64 n.2.2.2.2.1, .int .i64 n.2.2.2.2.2.1, .int .i64 n.2.2.2.2.2.2.1, .int .i64 n.2.2.2.2.2.2.2.1, .int .i64 n.2.2.2.2.2.2.2.2.1, .slice o.2.2.2.1 n.2.2.2.2.2.2.2.2.2.1.length o.2.2.2.2.1, .bool n.2.2.2.2.2.2.2.2.2.2.1], ap 3 1 (V3 tt) o.2.1 n.2.2.1 o.2.2.1, ap 144 5 (aQ (o.2.2.2.2.2.1)) o.2.2.2.1 n.2.2.2.2.2.2.2.2.2.1 o.2.2.2.2.1, o.2.2.2.2.2.1, obj q.1 97 [.map (some o.2.2.2.2.2.2.1), str n.2.2.2.2.2.2.2.2.2.2.2.2.2.2.1, .int .i64 n.2.2.2.2.2.2.2.2.2.2.2.2.2.2.2.1, .bool n.2.2.2.2.2.2.2.2.2.2.2.2.2.2.2.2], am (aj o.2.2.2.2.2.2.1 ao ak o.2.2.2.2.2.2.2) ai o.2.2.2.2.2.2.2 n.2.2.2.2.2.2.2.2.2.2.2.2.2.1, F]) O O O O O O call15 (.sel 0 O (.sel 0 O (.sel 0 O (.sel 0 O (.sel 0 O (.sel 0 O (.sel 0 O (.sel 0 O (.sel 0 O (.nil _)))))))))) (bC.callsN _ _ k t.1 t.2.1 t.2.2 a3.1 a3.2.1 a3.2.2.1 a3.2.2.2 x1 (hgl.lend 6 O)) (gU cs (eq_false_of_ne_true b4))) O O O ?_
 intro j0
 refine vm O O ?_
 refine vq (bu O O O) O ?_
 refine vq (bu O O O) O ?_
 refine vq (bu O O O) O ?_
 refine va O O ?_
 refine va O O ?_
 refine va O O (ae (aa (ay (sr ?_))))
 refine vm O O ?_
 refine vq (jr O O O underlying36) O ?_
 refine vm O O ?_
 refine aZ (ba O O) O O O O O O ?_
 refine aZ (iE O O O underlying36) O O O O O O ?_
 refine vq (bW O O O O O) O (ae (aa ?_))
 refine eM O ?_
 refine sr ?_
 refine va O O (ae (aa (aA ?_)))
 refine aK ?_
 exact aD () O O O (.sel 8 O (.nil _))
 refine ah (av (vs := [.pointer (some ⟨q.1, 0, none⟩), .int .i64 x0]) (cap := []) (A := [obj q.1 97 [.map (some q.2.1), str a1.2.1, .int .i64 a1.2.2.1, .bool a1.2.2.2], am (aj q.2.1 ao ak q.2.2) ai q.2.2 a1.1]) (rst := [F]) O O O O O O call15 (.sel 0 O (.sel 0 O (.sel 0 O (.nil _)))) (bC.callsN _ _ k q.1 q.2.1 q.2.2 a1.1 a1.2.1 a1.2.2.1 a1.2.2.2 x0 (hgl.lend 0 O)) (gU ch (eq_false_of_ne_true b3))) O O O ?_
 intro a4
 refine vm O O ?_
 refine vq (bu O O O) O ?_
 refine vq (bu O O O) O ?_
 refine vq (bu O O O) O ?_
 refine va O O ?_
 refine va O O ?_
 refine va O O (nx ?_)
 refine aw (fun az go => ?_)
 refine ah (av (vs := []) (cap := []) (A := []) (rst := [obj q.1 97 [.map (some a4.2.2.2.2.2.2.1), str n.2.2.2.2.2.2.2.2.2.2.2.2.2.2.1, .int .i64 n.2.2.2.2.2.2.2.2.2.2.2.2.2.2.2.1, .bool n.2.2.2.2.2.2.2.2.2.2.2.2.2.2.2.2], am (aj a4.2.2.2.2.2.2.1 ao ak a4.2.2.2.2.2.2.2) ai a4.2.2.2.2.2.2.2 n.2.2.2.2.2.2.2.2.2.2.2.2.2.1, F]) O O O O O O call16 (.sel 0 O (.sel 0 O (.sel 0 O (.nil _)))) (eL.calls _ _  ) go) O O O ?_
 intro af
 refine vm O O ?_
 refine aw (fun j1 b9 => ?_)
 refine gT (fun b2 => ?_) (fun b2 => ?_)
 refine ah (av (vs := [.pointer (some ⟨af.1, 0, none⟩), .int .i64 x1]) (cap := []) (A := [obj af.1 97 [.map (some af.2.1), str az.2.1, .int .i64 az.2.2.1, .bool az.2.2.2], am (aj af.2.1 ao ak af.2.2) ai af.2.2 az.1]) (rst := [obj q.1 97 [.map (some a4.2.2.2.2.2.2.1), str n.2.2.2.2.2.2.2.2.2.2.2.2.2.2.1, .int .i64 n.2.2.2.2.2.2.2.2.2.2.2.2.2.2.2.1, .bool n.2.2.2.2.2.2.2.2.2.2.2.2.2.2.2.2], am (aj a4.2.2.2.2.2.2.1 ao ak a4.2.2.2.2.2.2.2) ai a4.2.2.2.2.2.2.2 n.2.2.2.2.2.2.2.2.2.2.2.2.2.1, F]) O O O O O O call15 (.sel 0 O (.sel 0 O (.sel 0 O (.sel 0 O (.sel 0 O (.nil _)))))) (bC.callsT _ _ k af.1 af.2.1 af.2.2 az.1 az.2.1 az.2.2.1 az.2.2.2 x1 (hgl.lend 2 O)) (gU b9 b2)) O O O ?_
 intro j2
 refine vm O O ?_
 refine vq (bu O O O) O ?_
 refine vq (bu O O O) O ?_
 refine vq (bu O O O) O ?_
 refine va O O ?_
 refine va O O ?_
 refine va O O (ae (aa (ay (sr ?_))))
 refine vm O O ?_
 refine vq (iE O O O underlying36) O ?_
 refine vm O O ?_
 refine aO O O O O O O ?_
 refine aO O O O O O O ?_
 refine vq (bW O O O O O) O (ae (aa ?_))
 refine eM O ?_
 refine sr ?_
 refine va O O (ae (aa (aA ?_)))
 refine aK ?_
 exact aD () O O O (.sel 8 O (.nil _))
 refine ah (av (vs := [.pointer (some ⟨af.1, 0, none⟩), .int .i64 x1]) (cap := []) (A := [obj af.1 97 [.map (some af.2.1), str az.2.1, .int .i64 az.2.2.1, .bool az.2.2.2], am (aj af.2.1 ao ak af.2.2) ai af.2.2 az.1]) (rst := [obj q.1 97 [.map (some a4.2.2.2.2.2.2.1), str n.2.2.2.2.2.2.2.2.2.2.2.2.2.2.1, .int .i64 n.2.2.2.2.2.2.2.2.2.2.2.2.2.2.2.1, .bool n.2.2.2.2.2.2.2.2.2.2.2.2.2.2.2.2], am (aj a4.2.2.2.2.2.2.1 ao ak a4.2.2.2.2.2.2.2) ai a4.2.2.2.2.2.2.2 n.2.2.2.2.2.2.2.2.2.2.2.2.2.1, F]) O O O O O O call15 (.sel 0 O (.sel 0 O (.sel 0 O (.sel 0 O (.sel 0 O (.nil _)))))) (bC.callsN _ _ k af.1 af.2.1 af.2.2 az.1 az.2.1 az.2.2.1 az.2.2.2 x1 (hgl.lend 2 O)) (gU b9 (eq_false_of_ne_true b2))) O O O ?_
 intro j3
 refine vm O O ?_
 refine vq (bu O O O) O ?_
 refine vq (bu O O O) O ?_
 refine vq (bu O O O) O ?_
 refine va O O ?_
 refine va O O ?_
 refine va O O (ae (aa (ay (sr ?_))))
 refine vm O O ?_
 refine vq (iE O O O underlying36) O ?_
 refine vm O O ?_
 refine aO O O O O O O ?_
 refine aO O O O O O O ?_
 refine vq (bW O O O O O) O (ae (aa ?_))
 refine eM O ?_
 refine sr ?_
 refine va O O (ae (aa (aA ?_)))
 refine aK ?_
 exact aD () O O O (.sel 4 O (.nil _))
end Go.Proofs.YtndjkejhacfpdaaGreatDoor

namespace Go.Proofs.YtndjkejhacfpdaaGreatDoor
set_option linter.unusedVariables false
set_option linter.unusedSimpArgs false
open Go.RowKit

theorem w64 {n : Int} (h0 : -9223372036854775808 ≤ n) (h1 : n ≤ 9223372036854775807) : IntKind.i64.wrap n = n := by rw [IntKind.wrap_i64]; omega
theorem w8 {n : Int} (h0 : 0 ≤ n) (h1 : n < 256) : IntKind.u8.wrap n = n := by rw [IntKind.wrap_u8]; omega
theorem nq (n : Int) (h₀ : 0 ≤ n) (h₁ : n < 2 ^ 63) : IntKind.i64.wrap n = n := by rw [IntKind.wrap_i64]; omega
theorem tP {n : Int} (h0 : 0 ≤ n) (h1 : n < 2 ^ 63) : bS .and .i64 n 127 = n % 128 := bits_mask .i64 63 (by decide) nq 7 (by decide) n h0 h1
theorem uj {n : Int} (h0 : 0 ≤ n) (h1 : n < 128) : bS .or .i64 n 128 = n + 128 := by
  obtain ⟨a, rfl⟩ := Int.eq_ofNat_of_zero_le h0
  have ha : a < 128 := by omega
  have e := (bits_nat .i64 63 (by decide) nq a 128 (by omega) (by decide)).2
  show bits .or .i64 (a : Int) ((128 : Nat) : Int) = _
  rw [e]
  have h2 := Nat.two_pow_add_eq_or_of_lt (i := 7) (b := a) ha 1
  have : a ||| 128 = 128 + a := by rw [Nat.or_comm]; simpa using h2.symm
  rw [this]; omega
theorem tL (n : Nat) : Int.fdiv (n : Int) (2 ^ (min (7 : Int).toNat IntKind.i64.bits)) = ((n / 128 : Nat) : Int) := by
  show Int.fdiv (n : Int) 128 = _
  rw [Int.fdiv_eq_ediv_of_nonneg _ (by decide)]
  simp
theorem re (b : UInt8) : du (b.toNat : Int) = b := by simp [du]
theorem th (l : List UInt8) (i : Nat) : (l.getD i 0).toNat < 256 := UInt8.toNat_lt _

def sv (n : Nat) : List UInt8 := if h : n < 128 then [UInt8.ofNat n] else UInt8.ofNat (n % 128 + 128) :: sv (n / 128)
theorem nG {n : Nat} (h : n < 128) : sv n = [UInt8.ofNat n] := by rw [sv]; simp [h]
theorem qr {n : Nat} (h : 128 ≤ n) : sv n = UInt8.ofNat (n % 128 + 128) :: sv (n / 128) := by rw [sv]; simp [Nat.not_lt.2 h]
theorem uo (n : Nat) : sv n ≠ [] := by rw [sv]; split <;> simp
theorem oT (n : Nat) : 0 < (sv n).length := List.length_pos_iff.2 (uo n)
theorem ru : ∀ (j n : Nat), n < 128 ^ (j + 1) → (sv n).length ≤ j + 1
  | 0, n, h => by rw [nG (by simpa using h)]; simp
  | j + 1, n, h => by
    by_cases hn : n < 128
    · rw [nG hn]; simp
    · rw [qr (by omega)]
      have := ru j (n / 128) (by rw [Nat.pow_succ] at h; exact Nat.div_lt_of_lt_mul (by rw [Nat.mul_comm]; exact h))
      simp; omega
theorem sv9 {n : Nat} (h : n < 2 ^ 63) : (sv n).length ≤ 9 := ru 8 n (by omega)
end Go.Proofs.YtndjkejhacfpdaaGreatDoor

namespace Go.Proofs.YtndjkejhacfpdaaGreatDoor
set_option linter.unusedVariables false
set_option linter.unusedSimpArgs false
open Go.RowKit

theorem nc : ∀ (j n c k : Nat), n < 128 ^ (j + 1) → j + 1 ≤ k → c + j < 1000 → dI.l0 k (n : Int) (c : Int) = some (((c + ((sv n).length - 1) : Nat)) : Int)
  | j, n, c, 0, _, hk, _ => by omega
  | j, n, c, k + 1, h, hk, hc => by
    simp only [dI.l0]
    by_cases hn : n < 128
    · rw [if_neg (by omega), nG hn]; simp
    · rw [if_pos (by omega), tL]
      cases j with
      | zero => simp at h; omega
      | succ j =>
        rw [w64 (by omega) (by omega)]
        have := nc j (n / 128) (c + 1) k (by rw [Nat.pow_succ] at h; exact Nat.div_lt_of_lt_mul (by rw [Nat.mul_comm]; exact h)) (by omega) (by omega)
        have e : ((c : Int) + 1) = ((c + 1 : Nat) : Int) := by simp
        rw [e, this, qr (n := n) (by omega)]
        have := oT (n / 128)
        simp only [List.length_cons, Option.some.injEq, Int.ofNat_inj]
        omega
def okN (x : Int) : Prop := 0 ≤ x ∧ x ≤ 4611686018427387904
instance (x : Int) : Decidable (okN x) := by unfold okN; exact inferInstance
def nH (x : Int) : Int := if okN x then ((sv x.toNat).length : Nat) else 0
theorem nf (x : Int) : ((decide (x < (0 : Int))) || (decide ((4611686018427387904 : Int) < x))) = true ↔ ¬ okN x := by
  unfold okN; simp; omega
theorem oU {k : Nat} (hk : 10 ≤ k) (x : Int) : dI.f k x = some (nH x) := by
  unfold dI.f nH
  by_cases h : okN x
  · rw [if_neg (by rw [nf]; simpa using h), if_pos h]
    obtain ⟨n, rfl⟩ := Int.eq_ofNat_of_zero_le h.1
    have h2 : n ≤ 4611686018427387904 := by have := h.2; omega
    have := nc 8 n 1 k (by omega) (by omega) (by omega)
    have e : ((1 : Nat) : Int) = 1 := rfl
    rw [e] at this
    rw [this]
    have := oT n
    simp; omega
  · rw [if_pos ((nf x).2 h), if_neg h]
/-! The bytes, one by one. -/
theorem tM {n : Nat} (hn : n < 2 ^ 63) : IntKind.u8.wrap (bS .or .i64 (bS .and .i64 (n : Int) 127) 128) = ((n % 128 + 128 : Nat) : Int) := by
  rw [tP (by omega) (by omega), uj (by omega) (by omega), w8 (by omega) (by omega)]
  simp
theorem lf {S : Type} (step : S → Int → Option S) : ∀ (j n : Nat) (s : S) (k : Nat), n < 128 ^ (j + 1) → j + 1 ≤ k → n < 2 ^ 63 → ((cp.l0 step k (n : Int) s).bind fun r => step r.2 (IntKind.u8.wrap r.1)) = js step s ((sv n).map fun b => (b.toNat : Int))
  | j, n, s, 0, _, hk, _ => by omega
  | j, n, s, k + 1, h, hk, hs => by
    simp only [cp.l0]
    by_cases hn : n < 128
    · rw [if_neg (by omega), nG hn]
      have e : (UInt8.ofNat n).toNat = n := by rw [UInt8.toNat_ofNat']; omega
      simp only [Option.bind_some, List.map_cons, List.map_nil, js, e]
      rw [w8 (by omega) (by omega)]
      cases step s (n : Int) <;> rfl
    · rw [if_pos (by omega), tL, tM hs, qr (by omega)]
      have e : (UInt8.ofNat (n % 128 + 128)).toNat = n % 128 + 128 := by rw [UInt8.toNat_ofNat']; omega
      simp only [List.map_cons, js, e]
      cases j with
      | zero => simp at h; omega
      | succ j =>
        cases step s ((n % 128 + 128 : Nat) : Int) with
        | none => rfl
        | some s' => exact lf step j (n / 128) s' k (by rw [Nat.pow_succ] at h; exact Nat.div_lt_of_lt_mul (by rw [Nat.mul_comm]; exact h)) (by omega) (by omega)
theorem rc {S : Type} {k : Nat} (hk : 10 ≤ k) (step : S → Int → Option S) (s : S) {n : Nat} (hn : n < 2 ^ 63) : cp.f k step s (n : Int) = js step s ((sv n).map fun b => (b.toNat : Int)) := by
  rw [← lf step 8 n s k (by omega) (by omega) hn]
  unfold cp.f
  congr 1
  funext r
  cases step r.2 (IntKind.u8.wrap r.1) <;> rfl
def oV (s : List UInt8) (x : Int) : Option (List UInt8) := if 0 ≤ x ∧ x < 256 then (if (s.length + ([(du x)] : List UInt8).length) * 1 ≤ 140737488355328 then (some (s ++ ([(du x)] : List UInt8))) else none) else none
theorem pN : ∀ (l s : List UInt8), s.length + l.length ≤ 140737488355328 → js oV s (l.map fun b => (b.toNat : Int)) = some (s ++ l)
  | [], s, _ => by simp [js]
  | b :: l, s, h => by
    have hb := UInt8.toNat_lt b
    simp only [List.length_cons] at h
    simp only [List.map_cons, js, oV]
    rw [if_pos (by omega), if_pos (by simp; omega)]
    simp only [Option.bind_some, re]
    rw [pN l (s ++ [b]) (by simp; omega)]
    simp
def dw (x : Int) : List UInt8 := if okN x then sv x.toNat else []
def erV (x : Int) : Int := if okN x then 0 else 1
theorem lY (x : Int) : nH x = 0 ↔ ¬ okN x := by
  unfold nH
  have := oT x.toNat
  split
  · rename_i h; simp only [h, not_true_eq_false, iff_false]; omega
  · rename_i h; simp [h]
/-! Two byte lists. -/
end Go.Proofs.YtndjkejhacfpdaaGreatDoor

namespace Go.Proofs.YtndjkejhacfpdaaGreatDoor
set_option linter.unusedVariables false
set_option linter.unusedSimpArgs false
open Go.RowKit

end Go.Proofs.YtndjkejhacfpdaaGreatDoor

namespace Go.Proofs.YtndjkejhacfpdaaGreatDoor
set_option linter.unusedVariables false
set_option linter.unusedSimpArgs false
open Go.RowKit
theorem cj (x : Int) : (dw x).length ≤ 9 := by
  unfold dw
  split
  · rename_i h; have := h.2; exact sv9 (by omega)
  · simp
theorem mU (x : Int) : erV x = 0 ↔ okN x := by unfold erV; split <;> simp_all
end Go.Proofs.YtndjkejhacfpdaaGreatDoor

namespace Go.Proofs.YtndjkejhacfpdaaGreatDoor
set_option linter.unusedVariables false
set_option linter.unusedSimpArgs false
open Go.RowKit
theorem rf {x : List UInt8} (h : x.length ≤ 140737488355328) : en.f x = some x := by
  unfold en.f
  rw [if_pos (by omega)]
  simp [iw]
/-! ### The reader -/
end Go.Proofs.YtndjkejhacfpdaaGreatDoor

namespace Go.Proofs.YtndjkejhacfpdaaGreatDoor
set_option linter.unusedVariables false
set_option linter.unusedSimpArgs false
open Go.RowKit
def ox (b : List UInt8) (e x : Int) : List UInt8 × Int := if e = 0 then (b ++ dw x, erV x) else (b, e)
def lM (b : List UInt8) (e : Int) (l : List UInt8) (most : Int) : List UInt8 × Int :=
  if e = 0 then (if max most 0 < (l.length : Int) then (b, 3) else (b ++ dw (l.length : Int) ++ l, 0)) else (b, e)
theorem pF {k : Nat} (hk : 10 ≤ k) {b : List UInt8} (hb : b.length + 9 ≤ 140737488355328) (e x : Int) : bl.f k b e x = some (ox b e x) := by
  unfold bl.f ox
  by_cases he : e = 0
  · rw [if_pos he, if_pos he, oU hk, Option.bind_some]
    unfold dw erV
    by_cases h : okN x
    · obtain ⟨n, rfl⟩ := Int.eq_ofNat_of_zero_le h.1
      have h2 : n ≤ 4611686018427387904 := by have := h.2; omega
      have hl := sv9 (n := n) (by omega)
      rw [if_neg (by rw [lY]; simpa using h), if_pos h, if_pos h]
      show ((cp.f k oV b (n : Int)).bind _) = _
      rw [rc hk _ _ (by omega), pN _ _ (by omega), he]
      rfl
    · rw [if_pos ((lY x).2 h), if_neg h, if_neg h]; simp
  · rw [if_neg he, if_neg he]
theorem sX {l : List UInt8} (h : l.length < 2 ^ 47) : okN (l.length : Int) := ⟨by omega, by omega⟩
theorem qV {k : Nat} (hk : 10 ≤ k) {b l : List UInt8} (hb : b.length + 9 + l.length < 140737488355328) (e most : Int) : cY.f k b e l most = some (lM b e l most) := by
  unfold cY.f lM
  by_cases he : e = 0
  · by_cases hm : max most 0 < (l.length : Int)
    · rw [if_pos (by simp [he]; omega), if_pos he, if_pos hm]; rfl
    · have hn := sX (l := l) (by omega)
      have hl := cj (l.length : Int)
      rw [if_neg (by simp; omega), if_pos he, if_neg hm, Option.bind_some, if_pos he, pF hk (by omega), Option.bind_some]
      unfold ox
      rw [if_pos he, (mU _).2 hn]
      simp only []
      rw [if_pos (by rw [List.length_append]; omega)]
  · rw [if_neg (by simp [he]), if_neg he, Option.bind_some, if_neg he]
def nE (b : List UInt8) (e : Int) : List UInt8 × Int := if e = 0 then (b, 0) else ([], e)
theorem rF {b : List UInt8} (hb : b.length ≤ 140737488355328) (e : Int) : cW.f b e = some (nE b e) := by
  unfold cW.f nE
  by_cases he : e = 0
  · rw [if_pos he, if_pos he, rf hb]; rfl
  · rw [if_neg he, if_neg he]
end Go.Proofs.YtndjkejhacfpdaaGreatDoor

namespace Go.Proofs.YtndjkejhacfpdaaGreatDoor
set_option linter.unusedVariables false
set_option linter.unusedSimpArgs false
open Go.RowKit
def rg (x l : Int) : Prop := l ≤ x ∧ x ≤ 4611686018427387904
instance (x l : Int) : Decidable (rg x l) := by unfold rg; infer_instance
theorem nC {x l : Int} (h : rg x l) (hl : 0 ≤ l) : okN x := ⟨Int.le_trans hl h.1, h.2⟩
theorem mp (x l : Int) : bY.f x l = some (decide (rg x l)) := by
  have : (decide (l ≤ x) && decide (x ≤ 4611686018427387904)) = decide (rg x l) := by rw [Bool.eq_iff_iff, Bool.and_eq_true, decide_eq_true_iff, decide_eq_true_iff, decide_eq_true_iff]; rfl
  unfold bY.f; rw [this]
/-! ### Checks -/
def fG (t i kd : Int) (d : List UInt8) : Int := if ¬ (rg t 1 ∧ rg i 1) then 1 else if kd ≠ 0 ∧ kd ≠ 1 then 6 else if 4096 < (d.length : Int) then 3 else if kd = 0 ∧ 0 < (d.length : Int) then 4 else 0
def sC (i t : Int) (d : List UInt8) : Prop := (i = 0 ∧ t = 0) ∧ (d.length : Int) = 0
instance (i t : Int) (d : List UInt8) : Decidable (sC i t d) := by unfold sC; infer_instance
theorem cE (t i kd : Int) (d : List UInt8) : bq.f t i kd d = some (fG t i kd d) := by
  unfold bq.f fG
  simp only [mp, Option.bind_some]
  by_cases h1 : rg t 1 <;> by_cases h2 : rg i 1 <;> simp [h1, h2]
  by_cases h3 : kd = 0 <;> by_cases h4 : kd = 1 <;> simp [h3, h4] <;> (repeat' split) <;> simp_all <;> omega
end Go.Proofs.YtndjkejhacfpdaaGreatDoor

namespace Go.Proofs.YtndjkejhacfpdaaGreatDoor
set_option linter.unusedVariables false
set_option linter.unusedSimpArgs false
open Go.RowKit
theorem uh {x : Int} (h : okN x) (b : List UInt8) : ox b 0 x = (b ++ dw x, 0) := by unfold ox; rw [if_pos rfl, (mU x).2 h]
theorem sL {d : List UInt8} {m : Int} (h : (d.length : Int) ≤ m) (b : List UInt8) : lM b 0 d m = (b ++ dw (d.length : Int) ++ d, 0) := by
  unfold lM; rw [if_pos rfl, if_neg (by omega)]
theorem tD (b : List UInt8) : nE b 0 = (b, 0) := by unfold nE; rw [if_pos rfl]
theorem wI {k : Nat} (hk : 10 ≤ k) {b : List UInt8} (hb : b.length ≤ 100000000) {x : Int} (h : okN x) : bl.f k b 0 x = some (b ++ dw x, 0) := by
  rw [pF hk (by omega), uh h]
theorem wB {k : Nat} (hk : 10 ≤ k) {b d : List UInt8} (hb : b.length ≤ 100000000) {m : Int} (h : (d.length : Int) ≤ m) (hd : d.length ≤ 100000000) : cY.f k b 0 d m = some (b ++ dw (d.length : Int) ++ d, 0) := by
  rw [qV hk (by omega), sL h]
theorem wD {b : List UInt8} (hb : b.length ≤ 100000000) : cW.f b 0 = some (b, 0) := by rw [rF (by omega), tD]
/-! ### Texts -/
def bB (d : List UInt8) : List UInt8 := dw (d.length : Int) ++ d
theorem oy (d : List UInt8) : (bB d).length ≤ 9 + d.length := by unfold bB; have := cj (d.length : Int); rw [List.length_append]; omega
def txE (t i kd : Int) (d : List UInt8) : List UInt8 := dw t ++ (dw i ++ (dw kd ++ bB d))
theorem gi {t i kd : Int} {d : List UInt8} (h : fG t i kd d = 0) : rg t 1 ∧ rg i 1 ∧ (kd = 0 ∨ kd = 1) ∧ (d.length : Int) ≤ 4096 ∧ (kd = 0 → d = []) := by
  unfold fG at h
  split at h
  · omega
  · split at h
    · omega
    · split at h
      · omega
      · split at h
        · omega
        · rename_i h1 h2 h3 h4
          have h1 := Classical.not_not.1 h1
          refine ⟨h1.1, h1.2, by omega, by omega, fun e => ?_⟩
          exact List.eq_nil_of_length_eq_zero (by omega)
def rG (c : Int) (t : List UInt8) : List UInt8 × Int := if c = 0 then (t, 0) else ([], c)
theorem ui {k : Nat} (hk : 10 ≤ k) (t i kd : Int) (d : List UInt8) : dN.f k t i kd d = some (rG (fG t i kd d) (txE t i kd d)) := by
  unfold dN.f cL.f dQ.f rG
  rw [cE, Option.bind_some]
  by_cases h : fG t i kd d = 0
  · obtain ⟨h1, h2, h3, h4, _⟩ := gi h
    have b1 := cj t; have b2 := cj i; have b3 := cj kd; have b4 := cj (d.length : Int)
    rw [if_pos h, if_pos h, show dJ.f = some ([], 0) from rfl]
    simp only [Option.bind_some]
    rw [wI hk (by simp) (nC h1 (by decide)), Option.bind_some, wI hk (by simp; omega) (nC h2 (by decide)), Option.bind_some, wI hk (by simp; omega) (by unfold okN; omega), Option.bind_some, wB hk (by simp; omega) h4 (by omega), Option.bind_some]
    simp only [Option.bind_some]
    rw [wD (by simp; omega)]
    simp [txE, bB]
  · rw [if_neg h, if_neg h]; rfl
end Go.Proofs.YtndjkejhacfpdaaGreatDoor

namespace Go.Proofs.YtndjkejhacfpdaaGreatDoor
set_option linter.unusedVariables false
set_option linter.unusedSimpArgs false
open Go.RowKit
/-! ### What is read of any bytes -/
section
variable {k : Nat} (hk : 12 ≤ k) {b : List UInt8} (hb : b.length ≤ 100000000)
include hk hb
end
/-! ### What is read of a text -/
end Go.Proofs.YtndjkejhacfpdaaGreatDoor

namespace Go.Proofs.YtndjkejhacfpdaaGreatDoor
set_option linter.unusedVariables false
set_option linter.unusedSimpArgs false
set_option linter.unusedSectionVars false
open Go.RowKit
section
variable {α β : Type} [DecidableEq α]
theorem eH : ∀ (l : List (α × β)) (x : α) (y : β) (z : α), aR (aV l x y) z = if x = z then some y else aR l z
  | [], x, y, z => by simp [aV, aR]
  | p :: l, x, y, z => by
    by_cases h : p.1 = x
    · by_cases hz : x = z <;> simp [aV, aR, h, hz]
    · by_cases hz : p.1 = z
      · have hxz : x ≠ z := fun e => h (hz.trans e.symm)
        subst hz
        simp [aV, aR, h, hxz]
      · simp [aV, aR, h, hz, eH l x y z]
theorem mZ : ∀ (l : List (α × β)) (x : α) (y : β), (aV l x y).map (·.1) = if x ∈ l.map (·.1) then l.map (·.1) else l.map (·.1) ++ [x]
  | [], x, y => by simp [aV]
  | p :: l, x, y => by
    by_cases h : p.1 = x
    · simp [aV, h]
    · have ih := mZ l x y
      have h' : ¬ x = p.1 := fun e => h e.symm
      by_cases hm : x ∈ l.map (·.1)
      · rw [if_pos hm] at ih; rw [if_pos (by simp only [List.map_cons]; exact List.mem_cons_of_mem _ hm)]; simp [aV, h, ih]
      · rw [if_neg hm] at ih; rw [if_neg (by rw [List.map_cons, List.mem_cons]; rintro (e | e); exact h' e; exact hm e)]; simp [aV, h, ih]
theorem qj {l : List (α × β)} {x : α} {y : β} (h : (l.map (·.1)).Nodup) : ((aV l x y).map (·.1)).Nodup := by
  rw [mZ]
  split
  · exact h
  · rename_i hx
    exact List.nodup_append.2 ⟨h, by simp, fun a ha b hb => by simp at hb; subst hb; exact fun e => hx (e ▸ ha)⟩
theorem ly : ∀ (l : List (α × β)) (x : α) (y : β) (e : α × β), e ∈ aV l x y → e = (x, y) ∨ e ∈ l
  | [], x, y, e, h => by simp [aV] at h; exact .inl h
  | p :: l, x, y, e, h => by
    by_cases hp : p.1 = x
    · simp only [aV, if_pos hp, List.mem_cons] at h
      rcases h with h | h
      · exact .inl h
      · exact .inr (List.mem_cons_of_mem _ h)
    · simp only [aV, if_neg hp, List.mem_cons] at h
      rcases h with h | h
      · exact .inr (h ▸ List.mem_cons_self)
      · rcases ly l x y e h with h | h
        · exact .inl h
        · exact .inr (List.mem_cons_of_mem _ h)
theorem gk : ∀ (l : List (α × β)) (x : α) (y : β), (aV l x y).length = if (aR l x).isSome then l.length else l.length + 1
  | [], x, y => by simp [aV, aR]
  | p :: l, x, y => by
    by_cases h : p.1 = x
    · simp [aV, aR, h]
    · simp only [aV, aR, if_neg h, List.length_cons, gk l x y]; split <;> rfl
theorem oJ : ∀ (l : List (α × β)) (x : α) (y : β), aR l x = some y → (x, y) ∈ l
  | [], x, y, h => by simp [aR] at h
  | p :: l, x, y, h => by
    by_cases hp : p.1 = x
    · simp only [aR, if_pos hp, Option.some.injEq] at h; subst hp; subst h; exact List.mem_cons_self
    · simp only [aR, if_neg hp] at h; exact List.mem_cons_of_mem _ (oJ l x y h)
theorem lz : ∀ (l : List (α × β)) (x : α), x ∈ l.map (·.1) ↔ (aR l x).isSome = true
  | [], x => by simp [aR]
  | p :: l, x => by
    by_cases hp : p.1 = x
    · simp [aR, hp]
    · have h' : ¬ x = p.1 := fun e => hp e.symm
      rw [List.map_cons, List.mem_cons, lz l x]; simp [aR, hp, h']
theorem kY : ∀ (l : List (α × β)) (x : α) (y : β), (l.map (·.1)).Nodup → (x, y) ∈ l → aR l x = some y
  | [], x, y, _, h => by simp at h
  | p :: l, x, y, hn, h => by
    rw [List.map_cons, List.nodup_cons] at hn
    rcases List.mem_cons.1 h with h | h
    · subst h; simp [aR]
    · have : p.1 ≠ x := fun e => hn.1 (e ▸ List.mem_map_of_mem (f := (·.1)) h)
      simp only [aR, if_neg this]; exact kY l x y hn.2 h
end
theorem lR {β : Type} (kvs : List (List UInt8 × β)) : (dS kvs).Perm (kvs.map (·.1)) := List.mergeSort_perm _ _
end Go.Proofs.YtndjkejhacfpdaaGreatDoor

namespace Go.Proofs.YtndjkejhacfpdaaGreatDoor
set_option linter.unusedVariables false
set_option linter.unusedSimpArgs false
set_option linter.unusedSectionVars false
open Go.RowKit
theorem lB {α : Type} (l : List α) (d : α) (i : Nat) (h : i < l.length) : l.getD i d = l[i] := by simp [List.getD_eq_getElem?_getD, List.getElem?_eq_getElem h]
theorem gS {α : Type} (l : List α) (d : α) {i : Nat} (h : i < l.length) : l.drop i = l.getD i d :: l.drop (i + 1) := by rw [lB _ _ _ h]; exact List.drop_eq_getElem_cons h
theorem wi1 {i : Nat} (h : i < 2 ^ 62) : IntKind.i64.wrap ((i : Int) + 1) = ((i + 1 : Nat) : Int) := by rw [w64 (by omega) (by omega)]; simp
/-! ### Names -/
def ky (c : UInt8) : Bool := ((((decide (((c.toNat : Int)) < (97 : Int))) || (decide ((122 : Int) < (c.toNat : Int)))) && ((decide ((c.toNat : Int) < (48 : Int))) || (decide ((57 : Int) < (c.toNat : Int))))) && (!decide ((c.toNat : Int) = (45 : Int)))) && (!decide ((c.toNat : Int) = (46 : Int)))
def nmB (x : List UInt8) : Bool := (x.all fun c => !ky c) && (decide ((0 : Int) < (x.length : Int)) && decide ((x.length : Int) ≤ (32 : Int)))
theorem lZ (x : List UInt8) (hl : x.length < 2 ^ 62) : ∀ (d i k : Nat), i + d = x.length → d + 1 ≤ k → dp.l0 x k (i : Int) = some (if (x.drop i).all (fun c => !ky c) then .inl () else .inr false)
  | d, i, 0, _, hk => by omega
  | 0, i, k + 1, h, _ => by
    simp only [dp.l0]
    rw [if_neg (by omega), List.drop_of_length_le (by omega)]; rfl
  | d + 1, i, k + 1, h, hk => by
    simp only [dp.l0]
    rw [if_pos (by omega), if_pos (by omega), wi1 (by omega), lZ x hl d (i + 1) k (by omega) (by omega), gS x 0 (i := i) (by omega)]
    simp only [Int.toNat_natCast, List.all_cons]
    obtain ⟨c, hc⟩ : ∃ c, x.getD i 0 = c := ⟨_, rfl⟩
    simp only [hc]
    have e : ((if ((decide (((c.toNat : Int)) < (97 : Int))) || (decide ((122 : Int) < (c.toNat : Int)))) = true then (some ((decide ((c.toNat : Int) < (48 : Int))) || (decide ((57 : Int) < (c.toNat : Int))))) else (some false)) : Option Bool) = some (((decide (((c.toNat : Int)) < (97 : Int))) || (decide ((122 : Int) < (c.toNat : Int)))) && ((decide ((c.toNat : Int) < (48 : Int))) || (decide ((57 : Int) < (c.toNat : Int))))) := by
      cases ((decide (((c.toNat : Int)) < (97 : Int))) || (decide ((122 : Int) < (c.toNat : Int)))) <;> rfl
    rw [e, Option.bind_some]
    show (if ky c = true then _ else _) = _
    cases ky c <;> rfl
theorem rU {x : List UInt8} {k : Nat} (hl : x.length < 2 ^ 62) (hk : x.length + 1 ≤ k) : dp.f k x = some (nmB x) := by
  unfold dp.f nmB
  have := lZ x hl x.length 0 k (by omega) (by omega)
  rw [show ((0 : Nat) : Int) = 0 from rfl, List.drop_zero] at this
  rw [this]
  cases x.all fun c => !ky c <;> rfl
theorem sY {x : List UInt8} (h : nmB x = true) : x.length ≤ 32 := by
  unfold nmB at h
  simp at h
  omega
/-! ### What a disk is -/
abbrev FSt := List (List UInt8 × (List UInt8 × Int))
abbrev DS := FSt × List UInt8 × Int × Bool
def szF (fs : FSt) : Nat := (fs.map fun p => p.2.1.length).sum
structure fH (n : Nat) (fs : FSt) : Prop where
  nd : (fs.map (·.1)).Nodup
  sy : ∀ p ∈ fs, 0 ≤ p.2.2 ∧ p.2.2 ≤ (p.2.1.length : Int)
  nm : ∀ p ∈ fs, p.1.length ≤ 32
  sz : szF fs ≤ 16777216
  ln : fs.length ≤ n
theorem uv (n : Nat) : fH n [] := ⟨by simp, by simp, by simp, by simp [szF], by simp⟩
def cq (fs : FSt) (x : List UInt8) : List UInt8 × Int := (aR fs x).getD ([], 0)
theorem lA {fs : FSt} {x : List UInt8} (h : (aR fs x).isSome = true) : (x, cq fs x) ∈ fs := oJ _ _ _ (by rw [cq]; exact eU h)
theorem ta {fs : FSt} (h : (fs.map (·.1)).Nodup) {p : List UInt8 × (List UInt8 × Int)} (hp : p ∈ fs) : cq fs p.1 = p.2 := by
  rw [cq, kY fs p.1 p.2 h hp]; rfl
theorem rk : ∀ {fs : FSt} {p : List UInt8 × (List UInt8 × Int)}, p ∈ fs → p.2.1.length ≤ szF fs
  | [], _, h => by cases h
  | q :: l, p, h => by
    rcases List.mem_cons.1 h with rfl | h
    · simp [szF]
    · have := rk h
      simp only [szF, List.map_cons, List.sum_cons] at this ⊢; omega
/-! ### Sizes -/
def ju (fs : FSt) (x : List UInt8) : Nat := (cq fs x).1.length
theorem nh (fs : FSt) : ∀ (l : List (List UInt8)) (s : Nat), (∀ x ∈ l, (aR fs x).isSome = true) → s + (l.map (ju fs)).sum < 2 ^ 62 →
    fF (fun (s : Int) (x : List UInt8) (v : List UInt8 × Int) => some (IntKind.i64.wrap (s + (v.1.length : Int)), v)) l (s : Int) fs = some (((s + (l.map (ju fs)).sum : Nat) : Int), fs)
  | [], s, _, _ => by simp [fF]
  | x :: l, s, h, hb => by
    have hx := h x (by simp)
    have hv : aR fs x = some (cq fs x) := by rw [cq]; exact eU hx
    simp only [List.map_cons, List.sum_cons] at hb ⊢
    have hle : (cq fs x).1.length = ju fs x := rfl
    rw [fF, hv, Option.bind_some]
    simp only [Option.bind_some]
    rw [iI hv, w64 (by omega) (by omega)]
    have := nh fs l (s + ju fs x) (fun y hy => h y (List.mem_cons_of_mem _ hy)) (by omega)
    rw [show (s : Int) + ((cq fs x).1.length : Int) = ((s + ju fs x : Nat) : Int) by rw [hle]; omega, this]
    congr 2
    omega
theorem rV {fs : FSt} (h : (fs.map (·.1)).Nodup) : ((fs.map (·.1)).map (ju fs)).sum = szF fs := by
  unfold szF
  rw [List.map_map]
  congr 1
  refine List.map_congr_left fun p hp => ?_
  simp only [Function.comp, ju, ta h hp]
theorem rl {fs : FSt} {x : List UInt8} (h : x ∈ fs.map (·.1)) : (aR fs x).isSome = true := (lz fs x).1 h
theorem tb {n : Nat} {fs : FSt} (h : fH n fs) (l : List UInt8) (a : Int) (d : Bool) : eF.f fs l a d = some (szF fs : Int) := by
  unfold eF.f kz ia
  have hsum := rV h.nd
  have hsz := h.sz
  have h1 : ∀ m, m.Perm (fs.map (·.1)) → fF (fun (s : Int) (x : List UInt8) (v : List UInt8 × Int) => (some (IntKind.i64.wrap (s + (v.1.length : Int)))).map fun s' => (s', v)) m 0 fs = some ((szF fs : Int), fs) := fun m hm => by
    have hs : (m.map (ju fs)).sum = szF fs := by rw [← hsum]; exact (hm.map _).sum_nat
    have := nh fs m 0 (fun x hx => rl (hm.mem_iff.1 hx)) (by omega)
    rw [hs, Nat.zero_add] at this
    exact this
  rw [if_pos ⟨h.nd, fun m hm => by rw [h1 m (kg hm), h1 _ (List.Perm.refl _)]⟩, h1 _ (List.Perm.refl _)]
  rfl
/-! ### What single operations do -/
def fM (l : List UInt8) (a : Int) (d : Bool) : Bool × List UInt8 × Int × Bool := if a = 0 then (false, l, a, d) else (decide (IntKind.i64.wrap (a - 1) = 0), l, IntKind.i64.wrap (a - 1), decide (IntKind.i64.wrap (a - 1) = 0))
theorem lC (fs : FSt) (l : List UInt8) (a : Int) (d : Bool) : bF.f fs l a d = some (fM l a d) := by
  unfold bF.f fM; split <;> rfl
def ja (fs : FSt) (l : List UInt8) (a : Int) (d : Bool) (x : List UInt8) : Int × DS :=
  if d = true then (11, fs, l, a, d) else if nmB x = false then (7, fs, l, a, d) else if (aR fs x).isSome = true then (9, fs, l, a, d) else if (256 : Int) ≤ (fs.length : Int) then (10, fs, l, a, d)
  else if (fM l a d).1 = true then (11, fs, (fM l a d).2) else (0, aV fs x ([], 0), (fM l a d).2)
theorem tQ (fs : FSt) (l : List UInt8) (a : Int) (d : Bool) (x : List UInt8) : co.f fs l a d x = some (aR fs x).isSome := by
  unfold co.f; cases (aR fs x).isSome <;> rfl
theorem rm (fs : FSt) (l : List UInt8) (a : Int) (d : Bool) (x : List UInt8) {k : Nat} (hl : x.length < 2 ^ 62) (hk : x.length + 1 ≤ k) : dW.f k fs l a d x = some (ja fs l a d x) := by
  unfold dW.f ja
  rw [rU hl hk, tQ, lC]
  simp only [Option.bind_some]
  cases d <;> cases nmB x <;> cases (aR fs x).isSome <;> simp <;> (repeat' split) <;> rfl
def jb (fs : FSt) (l : List UInt8) (a : Int) (d : Bool) (x b : List UInt8) : Int × DS :=
  if (aR fs x).isSome = true then (if d = true then (11, fs, l, a, d) else if 16777216 - (szF fs : Int) < (b.length : Int) then (10, fs, l, a, d)
    else if (fM l a d).1 = true then (11, aV fs x ((cq fs x).1 ++ b.take (b.length / 2), (cq fs x).2), x, (fM l a d).2.2) else (0, aV fs x ((cq fs x).1 ++ b, (cq fs x).2), x, (fM l a d).2.2))
  else if d = true then (11, fs, l, a, d) else (8, fs, l, a, d)
theorem tc (b : List UInt8) (h : b.length < 2 ^ 62) : IntKind.i64.wrap (Int.tdiv (b.length : Int) 2) = ((b.length / 2 : Nat) : Int) := by
  have : Int.tdiv (b.length : Int) 2 = ((b.length / 2 : Nat) : Int) := by rw [Int.tdiv_eq_ediv_of_nonneg (by omega)]; omega
  rw [this, w64 (by omega) (by omega)]
theorem mT {n : Nat} {fs : FSt} (h : fH n fs) (l : List UInt8) (a : Int) (d : Bool) (x b : List UInt8) (hb : b.length < 2 ^ 40) : dA.f fs l a d x b = some (jb fs l a d x b) := by
  unfold dA.f jb
  rw [tb h, lC]
  have hsz := h.sz
  simp only [Option.bind_some]
  by_cases hm : (aR fs x).isSome = true
  · rw [if_pos hm, if_pos hm]
    cases d with
    | true => rfl
    | false =>
      have hlen : (cq fs x).1.length ≤ 16777216 := Nat.le_trans (rk (lA hm)) hsz
      rw [w64 (n := 16777216 - (szF fs : Int)) (by omega) (by omega), tc b (by omega)]
      simp only [Bool.false_eq_true, if_false]
      by_cases hs : 16777216 - (szF fs : Int) < (b.length : Int)
      · rw [if_pos hs, if_pos hs]
      · rw [if_neg hs, if_neg hs]
        by_cases hf : (fM l a false).1 = true
        · rw [if_pos hf, if_pos hf, if_pos ⟨by omega, by omega, by omega⟩, Option.bind_some]
          have ec : cut b (0 : Int) ((b.length / 2 : Nat) : Int) = b.take (b.length / 2) := by
            show (b.take ((b.length / 2 : Nat) : Int).toNat).drop 0 = _
            rw [Int.toNat_natCast, List.drop_zero]
          rw [ec]
          show (if ((cq fs x).1.length + (b.take (b.length / 2)).length) * 1 ≤ 140737488355328 then _ else _) = _
          rw [if_pos (by simp only [List.length_take]; omega)]
          rfl
        · rw [if_neg hf, if_neg hf, Option.bind_some]
          show (if ((cq fs x).1.length + b.length) * 1 ≤ 140737488355328 then _ else _) = _
          rw [if_pos (by omega)]
          rfl
  · rw [if_neg hm, if_neg hm]
    split <;> rfl
def kV (fs : FSt) (l : List UInt8) (a : Int) (d : Bool) (x : List UInt8) : Int × DS :=
  if (aR fs x).isSome = true then (if d = true then (11, fs, l, a, d) else if (fM l a d).1 = true then (11, fs, (fM l a d).2) else (0, aV fs x ((cq fs x).1, ((cq fs x).1.length : Int)), (fM l a d).2))
  else if d = true then (11, fs, l, a, d) else (8, fs, l, a, d)
theorem pE (fs : FSt) (l : List UInt8) (a : Int) (d : Bool) (x : List UInt8) : cK.f fs l a d x = some (kV fs l a d x) := by
  unfold cK.f kV
  rw [lC]
  simp only [Option.bind_some]
  repeat' split
  all_goals first | rfl | simp_all
/-! ### A crash -/
section
variable {α β : Type} [DecidableEq α]
end
end Go.Proofs.YtndjkejhacfpdaaGreatDoor

namespace Go.Proofs.YtndjkejhacfpdaaGreatDoor
set_option linter.unusedVariables false
set_option linter.unusedSimpArgs false
open Go.RowKit
theorem rh (p : List UInt8 × (List UInt8 × Int)) (fs : FSt) (x : List UInt8) : cq (p :: fs) x = if p.1 = x then p.2 else cq fs x := by
  unfold cq; rw [aR]; split <;> rfl
theorem ke (p : List UInt8 × (List UInt8 × Int)) (fs : FSt) : szF (p :: fs) = p.2.1.length + szF fs := by simp [szF]
theorem eY (x : List UInt8) (v : List UInt8 × Int) : ∀ fs : FSt, szF (aV fs x v) + (cq fs x).1.length = szF fs + v.1.length
  | [] => by simp [aV, szF, cq, aR]
  | p :: fs => by
    have ih := eY x v fs
    rw [rh, aV]
    by_cases h : p.1 = x
    · rw [if_pos h, if_pos h, ke, ke]; simp only; omega
    · rw [if_neg h, if_neg h, ke, ke]; omega
theorem kf {n : Nat} {fs : FSt} (h : fH n fs) {x : List UInt8} {v : List UInt8 × Int} (hx : x.length ≤ 32) (hv : 0 ≤ v.2 ∧ v.2 ≤ (v.1.length : Int)) (hs : szF (aV fs x v) ≤ 16777216) (hl : (aV fs x v).length ≤ n) : fH n (aV fs x v) := by
  refine ⟨qj h.nd, fun p hp => ?_, fun p hp => ?_, hs, hl⟩
  · rcases ly _ _ _ _ hp with rfl | hp
    · exact hv
    · exact h.sy p hp
  · rcases ly _ _ _ _ hp with rfl | hp
    · exact hx
    · exact h.nm p hp
theorem kx {n : Nat} {fs : FSt} (h : fH n fs) {x : List UInt8} (hm : (aR fs x).isSome = true) : x.length ≤ 32 := h.nm _ (lA hm)
theorem pO {n : Nat} {fs : FSt} (h : fH n fs) {x : List UInt8} (hm : (aR fs x).isSome = true) : 0 ≤ (cq fs x).2 ∧ (cq fs x).2 ≤ ((cq fs x).1.length : Int) := h.sy _ (lA hm)
theorem ri {fs : FSt} {x : List UInt8} (h : (aR fs x).isSome = false) : cq fs x = ([], 0) := by
  unfold cq; cases hm : aR fs x with
  | none => rfl
  | some v => rw [hm] at h; cases h
theorem gj {fs : FSt} {x : List UInt8} {v : List UInt8 × Int} (hm : (aR fs x).isSome = true) : (aV fs x v).length = fs.length := by rw [gk, if_pos hm]
theorem qs {fs : FSt} (h : fH 256 fs) (l : List UInt8) (a : Int) (d : Bool) (x : List UInt8) : fH 256 (ja fs l a d x).2.1 := by
  unfold ja
  repeat' split
  all_goals try exact h
  rename_i h1 h2 h3 h4 h5
  have hs := eY x ([], 0) fs
  have hsz := h.sz
  refine kf h (sY (by simpa using h2)) (by simp) ?_ ?_
  · simp only [List.length_nil] at hs; omega
  · have := gk fs x (([] : List UInt8), (0 : Int))
    rw [if_neg h3] at this
    rw [this]; omega
theorem lI {n : Nat} {fs : FSt} (h : fH n fs) (l : List UInt8) (a : Int) (d : Bool) (x b : List UInt8) : fH n (jb fs l a d x b).2.1 := by
  unfold jb
  have hsz := h.sz
  repeat' split
  all_goals try exact h
  · rename_i hm hd hs hf
    have hb := pO h hm
    have h1 := eY x ((cq fs x).1 ++ b.take (b.length / 2), (cq fs x).2) fs
    simp only [List.length_append, List.length_take] at h1
    refine kf h (kx h hm) ⟨hb.1, ?_⟩ (by omega) (by rw [gj hm]; exact h.ln)
    simp only [List.length_append, List.length_take]; omega
  · rename_i hm hd hs hf
    have hb := pO h hm
    have h1 := eY x ((cq fs x).1 ++ b, (cq fs x).2) fs
    simp only [List.length_append] at h1
    refine kf h (kx h hm) ⟨hb.1, ?_⟩ (by omega) (by rw [gj hm]; exact h.ln)
    simp only [List.length_append]; omega
theorem lu {n : Nat} {fs : FSt} (h : fH n fs) (l : List UInt8) (a : Int) (d : Bool) (x : List UInt8) : fH n (kV fs l a d x).2.1 := by
  unfold kV
  have hsz := h.sz
  repeat' split
  all_goals try exact h
  rename_i hm hd hf
  have h1 := eY x ((cq fs x).1, ((cq fs x).1.length : Int)) fs
  simp only at h1
  exact kf h (kx h hm) ⟨by simp, by simp⟩ (by omega) (by rw [gj hm]; exact h.ln)
/-! ### An operation -/
def d0 : DS := ([], [], 0, false)
/-! ### The files -/
theorem rj (fs : FSt) : (dS fs).length = fs.length := by rw [(lR fs).length_eq, List.length_map]
theorem sZ {n : Nat} {fs : FSt} (h : fH n fs) (hn : n < 2 ^ 40) (l : List UInt8) (a : Int) (d : Bool) : eA.f fs l a d = some (dS fs) := by
  unfold eA.f eW.f cc.f
  have := h.ln
  rw [Option.bind_some, if_pos ⟨h.nd, by omega, fun p hp => by have := h.nm p hp; omega⟩]; rfl
/-! ### Whether files are the same -/
theorem ng (x y : List UInt8) (hl : x.length = y.length) (hm : x.length < 2 ^ 62) : ∀ (d i k : Nat), i + d = x.length → d + 1 ≤ k → x.take i = y.take i → (orR (bO.l0 x y k (i : Int)) fun _ => some true) = some (decide (x = y))
  | d, i, 0, _, hk, _ => by omega
  | 0, i, k + 1, h, _, ht => by
    simp only [bO.l0]
    rw [if_neg (by omega)]
    rw [List.take_of_length_le (by omega), List.take_of_length_le (by omega)] at ht
    simp [orR, ht]
  | d + 1, i, k + 1, h, hk, ht => by
    have hix : i < x.length := by omega
    have hiy : i < y.length := by omega
    simp only [bO.l0]
    rw [if_pos (by omega), if_pos (by omega), if_pos (by omega), wi1 (by omega)]
    simp only [Int.toNat_natCast, lB x 0 i hix, lB y 0 i hiy]
    by_cases he : x[i] = y[i]
    · rw [if_pos (by rw [he])]
      exact ng x y hl hm d (i + 1) k (by omega) (by omega) (by rw [List.take_succ_eq_append_getElem hix, List.take_succ_eq_append_getElem hiy, ht, he])
    · rw [if_neg (by intro z; exact he (UInt8.toNat_inj.1 (by omega)))]
      have : x ≠ y := by rintro rfl; exact he rfl
      simp [orR, this]
theorem oW {k : Nat} {x y : List UInt8} (hm : x.length < 2 ^ 62) (hk : x.length + 1 ≤ k) : bO.f k x y = some (decide (x = y)) := by
  unfold bO.f
  by_cases h : x.length = y.length
  · rw [if_pos (by omega)]
    exact ng x y h hm x.length 0 k (by omega) hk rfl
  · rw [if_neg (by omega)]
    have : x ≠ y := by rintro rfl; exact h rfl
    simp [this]
/-! ### Whether operations are few -/
end Go.Proofs.YtndjkejhacfpdaaGreatDoor

namespace Go.Proofs.YtndjkejhacfpdaaGreatDoor
set_option linter.unusedVariables false
set_option linter.unusedSimpArgs false
open Go.RowKit Go.ChangeShapes Go.WideShapes Go.ChangeAt

def gL (W : World) : HA := fun h => ∀ i, i < W.heap.size → h i = W.heap[i]?
theorem qW (W : World) : Sat W ([] ++ [gL W]) W := ⟨rfl, rfl, rfl, Nat.le_refl _, gQ (fun _ _ => rfl)⟩
theorem rP {W w : World} {l : List HA} (s : Sat W l w) (k : Nat) (hk : l[k]? = some (gL W)) : Below W.heap.size W w := by
  obtain ⟨a, ha, hz⟩ := s.at hk
  refine ⟨s.os, s.tape, s.output, s.size, fun i hi => ?_⟩
  have h1 := ha i hi
  obtain ⟨o, ho⟩ : ∃ o, W.heap[i]? = some o := ⟨_, Array.getElem?_eq_getElem hi⟩
  rw [ho] at h1
  rw [hz i o h1, ho]
theorem qX {P : Program} {W : World} {f : FuncId} {args : List Value} {R Y : Type} {o : Option R} {val : R → Y → Value} {r : R}
    (h : Fn P W f args [] (gL W) o val (fun _ _ => [])) (hs : o = some r) (hv : ∀ y, val r y = .bool true) :
    Calls P f args.toArray W fun e w' => e = .returned (.bool true) ∧ Below W.heap.size W w' := by
  refine (h r hs W (qW W)).mono ?_
  rintro e w' ⟨y, rfl, s⟩
  exact ⟨by rw [hv], rP s 0 rfl⟩
theorem oC {W : World} {x : Addr} {cs : List Value} (h : ∀ j v, cs[j]? = some v → W.cell? (x.add j) = some v) : Rd (gL W) (some x) cs := by
  cases cs with
  | nil => exact .inl rfl
  | cons v vs =>
    right
    have h0 := h 0 v rfl
    have hsp : x.spot = none := by
      have e : (x.add 0).spot = x.spot ∨ x.spot ≠ none := by cases hx : x.spot <;> simp [Addr.add, hx]
      refine Classical.byContradiction fun hne => ?_
      obtain ⟨s, hs⟩ := Option.ne_none_iff_exists'.1 hne
      unfold World.cell? at h0
      simp only [Addr.add, hs] at h0
      split at h0 <;> simp_all
    obtain ⟨b, off, sp⟩ := x
    simp only at hsp
    subst hsp
    have hadd : ∀ j, (⟨b, off, none⟩ : Addr).add j = ⟨b, off + j, none⟩ := fun j => by unfold Addr.add; split <;> simp_all
    simp only [hadd] at h
    refine ⟨b, off, rfl, fun g hg => ?_⟩
    have h0 := h 0 v rfl
    unfold World.cell? at h0
    simp only at h0
    split at h0
    · rename_i c T fz hb
      have hlt : b < W.heap.size := (Array.getElem?_eq_some_iff.1 hb).1
      refine ⟨c, T, fz, by rw [hg b hlt, hb], fun j v hj => ?_⟩
      have := h j v hj
      simpa [World.cell?, hb] using this
    · simp at h0
theorem qk {H : Type} {P : Program} {ts : List TypeId} {ds : List (DataW H)} (h : (DataW.weightsEach P ts ds).all (· ≤ reachBytes) = true) {j : Nat} {t : TypeId} {d : DataW H} (ht : ts[j]? = some t) (hd : ds[j]? = some d) : ∀ n ∈ d.weights P t, n ≤ reachBytes := fun n hn => by
  have := List.all_eq_true.1 h n (DataW.weights_mem_each ht hd n hn)
  simpa using this
theorem qh {H : Type} {enc : TypeId × Value → H} {P : Program} {W : World} {held : Bool} {t e : TypeId} {fuel : Nat} {cs : List Value} {x : DataW H × List MemPlace} (ht : P.underlying t = some (.slice e)) (he : P.underlying e = some (.int .u8)) (hc : P.cellsOf e = 1)
    (hB : P.bytesOf e = 1)
    (h : DataW.trod enc P W 0 (fun _ => true) held fuel t cs = some x) (hw : ∀ n ∈ x.1.weights P t, n ≤ reachBytes) : ∃ a c l, cs = [.slice a l.length c] ∧ Rd (gL W) a (ax l) ∧ l.length ≤ c ∧ c ≤ maxLen ∧ l.length ≤ reachBytes := by
  rcases open_ints ht he hc h with ⟨hcs, _⟩ | ⟨x, l, c, zs, hcs, _, hl, hm, hz, rfl, hcell, hwz⟩
  · exact ⟨none, 0, [], hcs, .inl rfl, Nat.le_refl _, Nat.zero_le _, Nat.zero_le _⟩
  · have hz : zs.length = c := by simpa using hz
    have hlen : ((zs.take l).map du).length = l := by simp; omega
    have hsz : l ≤ reachBytes := by
      have := hw (((lits (H := H) .u8 (zs.take l)).length + (lits (H := H) .u8 (zs.drop l)).length) * P.bytesOf e) (by simp [DataW.weights, ht])
      rw [hB] at this
      simp [lits] at this
      omega
    refine ⟨some x, c, (zs.take l).map du, by rw [hcs, hlen], oC ?_, by rw [hlen]; exact hl, hm, by rw [hlen]; exact hsz⟩
    intro j v hj
    unfold ax at hj
    rw [List.getElem?_map, List.getElem?_map, List.getElem?_take] at hj
    split at hj
    · rename_i hjl
      obtain ⟨n, hn⟩ : ∃ n, zs[j]? = some n := ⟨_, List.getElem?_eq_getElem (by omega)⟩
      rw [hn] at hj
      simp only [Option.map_some, Option.some.injEq] at hj
      rw [hcell j (by omega), ← hj]
      have hw := hwz n (List.mem_of_getElem? hn)
      have hr' : 0 ≤ n ∧ n ≤ 255 := by simpa [Lit.wf, IntKind.min, IntKind.max, IntKind.signed, IntKind.bits] using hw
      have hr : 0 ≤ n ∧ n < 256 := ⟨hr'.1, by omega⟩
      rw [gB hr.1 hr.2]
      simp [List.getD_eq_getElem?_getD, hn]
    · simp at hj
end Go.Proofs.YtndjkejhacfpdaaGreatDoor

namespace Go.Proofs.YtndjkejhacfpdaaGreatDoor
set_option linter.unusedVariables false
set_option linter.unusedSimpArgs false
open Go.RowKit Go.ChangeShapes Go.WideShapes Go.ChangeAt
section
variable {H : Type} {enc : TypeId × Value → H} {P : Program} {W : World} {held : Bool} {α β : Type}
def kQ (enc : TypeId × Value → H) (P : Program) (W : World) (held : Bool) (t : TypeId) (V : α → List Value → Prop) (Ok : α → Prop) : Prop :=
  ∀ fuel cs x, DataW.trod enc P W 0 (fun _ => true) held fuel t cs = some x → (∀ n ∈ x.1.weights P t, n ≤ reachBytes) → ∃ y, V y cs ∧ one cs ∧ cs.length = P.cellsOf t ∧ Ok y
theorem kQ.map {t : TypeId} {V : α → List Value → Prop} {V' : β → List Value → Prop} {Ok : α → Prop} {Ok' : β → Prop} (f : α → β) (h : kQ enc P W held t V Ok) (hV : ∀ x r, V x r → V' (f x) r) (hO : ∀ x, Ok x → Ok' (f x)) : kQ enc P W held t V' Ok' := fun fuel cs x h1 h2 =>
  let ⟨y, a, b, c, d⟩ := h fuel cs x h1 h2; ⟨f y, hV _ _ a, b, c, hO _ d⟩
theorem kQ.mono {t : TypeId} {V V' : α → List Value → Prop} {Ok Ok' : α → Prop} (h : kQ enc P W held t V Ok) (hV : ∀ x r, V x r → V' x r) (hO : ∀ x, Ok x → Ok' x) : kQ enc P W held t V' Ok' := fun fuel cs x h1 h2 =>
  let ⟨y, a, b, c, d⟩ := h fuel cs x h1 h2; ⟨y, hV _ _ a, b, c, hO _ d⟩
theorem jD {e : TypeId} : ∀ {ds : List (DataW H)} {d : DataW H}, d ∈ ds → ∀ n ∈ d.weights P e, n ∈ DataW.weightsAll P e ds
  | d' :: ds, d, h, n, hn => by
    simp only [DataW.weightsAll, List.mem_append]
    rcases List.mem_cons.1 h with rfl | h
    · exact .inl hn
    · exact .inr (jD h n hn)
theorem qb {W : World} {a : Addr} {n : Nat} {cs : List Value} (h : W.cells? 0 a n = some cs) : cs.length = n ∧ ∀ j v, cs[j]? = some v → W.cell? (a.add j) = some v := by
  unfold World.cells? at h
  rw [if_pos (Nat.zero_le _)] at h
  have hl := mapM_some_length h
  have hl : cs.length = n := by simpa using hl
  refine ⟨hl, fun j v hj => ?_⟩
  have hjn : j < n := by have := (List.getElem?_eq_some_iff.1 hj).1; omega
  have := mapM_some_get h j j (by simp [hjn])
  rw [this, hj]
/-! Structs: their fields, one behind the other. -/
def qc (enc : TypeId × Value → H) (P : Program) (W : World) (held : Bool) (fuel : Nat) : List TypeId → List Value → List (DataW H × List MemPlace) → Prop
  | [], cs, xs => cs = [] ∧ xs = []
  | t :: ts, cs, xs => ∃ c1 c2 x r, cs = c1 ++ c2 ∧ xs = x :: r ∧ DataW.trod enc P W 0 (fun _ => true) held fuel t c1 = some x ∧ qc enc P W held fuel ts c2 r
def nD (P : Program) : Nat → List Field → Bool
  | _, [] => true
  | k, f :: fs => Nat.beq f.offset k && nD P (k + P.cellsOf f.type) fs
def ot (P : Program) : List Field → Nat
  | [] => 0
  | f :: fs => P.cellsOf f.type + ot P fs
theorem ou (fuel : Nat) : ∀ (fs : List Field) (k : Nat) (cs : List Value) (xs : List (DataW H × List MemPlace)), nD P k fs = true → cs.length = k + ot P fs → xs.length = fs.length →
    (∀ (i : Nat) (f : Field), fs[i]? = some f → DataW.trod enc P W 0 (fun _ => true) held fuel f.type ((cs.drop f.offset).take (P.cellsOf f.type)) = xs[i]?) → qc enc P W held fuel (fs.map (·.type)) (cs.drop k) xs
  | [], k, cs, xs, _, hl, hx, _ => by
    have : xs = [] := List.eq_nil_of_length_eq_zero (by simpa using hx)
    exact ⟨by rw [List.drop_of_length_le (by simp [ot] at hl; omega)], this⟩
  | f :: fs, k, cs, [], _, _, hx, _ => by simp at hx
  | f :: fs, k, cs, x :: xs, hlaid, hl, hx, h => by
    simp only [nD, Bool.and_eq_true] at hlaid
    have hoff : f.offset = k := Nat.eq_of_beq_eq_true hlaid.1
    simp only [ot] at hl
    have h0 := h 0 f rfl
    rw [hoff] at h0
    refine ⟨(cs.drop k).take (P.cellsOf f.type), (cs.drop k).drop (P.cellsOf f.type), x, xs, (List.take_append_drop _ _).symm, rfl, by simpa using h0, ?_⟩
    have := ou fuel fs (k + P.cellsOf f.type) cs xs hlaid.2 (by omega) (by simpa using hx) (fun i g hg => by simpa using h (i + 1) g (by simpa using hg))
    rw [List.drop_drop]
    exact this
end
end Go.Proofs.YtndjkejhacfpdaaGreatDoor

namespace Go.Proofs.YtndjkejhacfpdaaGreatDoor
set_option linter.unusedVariables false
set_option linter.unusedSimpArgs false
open Go.RowKit Go.ChangeShapes Go.WideShapes Go.ChangeAt
class Mu (α : Type) where
  mu : α → Nat
instance : Mu Int := ⟨fun _ => 1⟩
instance : Mu Bool := ⟨fun _ => 1⟩
instance : Mu UInt8 := ⟨fun _ => 1⟩
instance {α β : Type} [Mu α] [Mu β] : Mu (α × β) := ⟨fun x => Mu.mu x.1 + Mu.mu x.2⟩
instance {α : Type} [Mu α] : Mu (List α) := ⟨fun l => (l.map Mu.mu).sum + 1⟩
theorem oc (x : Int) : Mu.mu x = 1 := rfl
theorem kL {α β : Type} [Mu α] [Mu β] (x : α) (y : β) : Mu.mu (x, y) = Mu.mu x + Mu.mu y := rfl
theorem jC {α : Type} [Mu α] (l : List α) : Mu.mu l = (l.map Mu.mu).sum + 1 := rfl
theorem sI {α : Type} [Mu α] (x : α) (l : List α) : Mu.mu (x :: l) = Mu.mu x + Mu.mu l := by simp [jC]; omega
theorem od (l : List UInt8) : Mu.mu l = l.length + 1 := by
  have : ∀ l : List UInt8, (l.map Mu.mu).sum = l.length := by
    intro l
    induction l with
    | nil => rfl
    | cons x l ih =>
      simp only [List.map_cons, List.sum_cons, ih, List.length_cons]
      show 1 + _ = _
      omega
  rw [jC, this]
theorem ji {H : Type} (d : DataW H) : 1 ≤ Rows.uptoBulk d := by
  cases d with
  | lit l => cases l <;> simp [Rows.uptoBulk]
  | nil => simp [Rows.uptoBulk]
  | ptr d => simp [Rows.uptoBulk]
  | slice elems spare => simp [Rows.uptoBulk]
  | agg parts => simp [Rows.uptoBulk]
  | iface t d => simp [Rows.uptoBulk]
  | map entries => simp [Rows.uptoBulk]
  | held h => simp [Rows.uptoBulk]
theorem oA {H : Type} : ∀ l : List (DataW H), l.length ≤ Rows.uptoBulkAll l
  | [] => by simp
  | d :: l => by have := oA l; have := ji d; simp [Rows.uptoBulkAll]; omega
section
variable {H : Type} {enc : TypeId × Value → H} {P : Program} {W : World} {held : Bool} {α β : Type} [Mu α] [Mu β]
def fB (enc : TypeId × Value → H) (P : Program) (W : World) (held : Bool) (t : TypeId) (V : α → List Value → Prop) (Ok : α → Prop) : Prop :=
  ∀ fuel cs x, DataW.trod enc P W 0 (fun _ => true) held fuel t cs = some x → (∀ n ∈ x.1.weights P t, n ≤ reachBytes) → ∃ y, V y cs ∧ one cs ∧ cs.length = P.cellsOf t ∧ Ok y ∧ Mu.mu y ≤ Rows.uptoBulk x.1
theorem fB.mono {t : TypeId} {V V' : α → List Value → Prop} {Ok Ok' : α → Prop} (h : fB enc P W held t V Ok) (hV : ∀ x r, V x r → V' x r) (hO : ∀ x, Ok x → Ok' x) : fB enc P W held t V' Ok' := fun fuel cs x h1 h2 =>
  let ⟨y, a, b, c, d⟩ := h fuel cs x h1 h2; ⟨y, hV _ _ a, b, c, hO _ d.1, d.2⟩
theorem fB.map {α β : Type} [Mu α] [Mu β] {H : Type} {enc : TypeId × Value → H} {P : Program} {W : World} {held : Bool} {t : TypeId} {V : α → List Value → Prop} {V' : β → List Value → Prop} {Ok : α → Prop} {Ok' : β → Prop} (f : α → β) (h : fB enc P W held t V Ok) (hV : ∀ x r, V x r → V' (f x) r) (hO : ∀ x, Ok x → Ok' (f x)) (hM : ∀ x, Mu.mu (f x) = Mu.mu x) : fB enc P W held t V' Ok' := fun fuel cs x h1 h2 =>
  let ⟨y, a, b, c, d⟩ := h fuel cs x h1 h2; ⟨f y, hV _ _ a, b, c, hO _ d.1, by rw [hM]; exact d.2⟩
theorem jT {t : TypeId} {k : IntKind} (ht : P.underlying t = some (.int k)) (hc : P.cellsOf t = 1) : fB enc P W held t (fun x r => r = [.int k x]) (okI k) := by
  intro fuel cs x h _
  cases fuel with
  | zero => simp [DataW.trod] at h
  | succ n =>
    unfold DataW.trod at h
    rw [ht] at h
    split at h <;> simp_all
    rename_i k' m
    obtain ⟨rfl, h1⟩ := h.1
    refine ⟨aM rfl, ?_, ?_⟩
    · simpa [Lit.wf, okI] using h1
    · first | exact ji _ | (rw [← h.2]; exact ji _)
theorem oB {t e : TypeId} (ht : P.underlying t = some (.slice e)) (he : P.underlying e = some (.int .u8)) (hc : P.cellsOf e = 1) (hB : P.bytesOf e = 1) (hct : P.cellsOf t = 1) :
    fB enc P W held t (fun x r => ∃ a c, r = [.slice a x.length c] ∧ Rd (gL W) a (ax x) ∧ x.length ≤ c ∧ c ≤ maxLen) (fun x => x.length ≤ reachBytes) := by
  intro fuel cs x h hw
  obtain ⟨a, c, l, h1, h2, h3, h4, h5⟩ := qh ht he hc hB h hw
  refine ⟨l, ⟨a, c, h1, h2, h3, h4⟩, by rw [h1]; exact aM rfl, by rw [h1, hct]; rfl, h5, ?_⟩
  rw [od]
  rcases open_ints ht he hc h with ⟨hcs, rfl⟩ | ⟨y, n, c', zs, hcs, _, hl, hm, hz, rfl, hcell, hwz⟩
  · rw [h1] at hcs
    have : l.length = 0 := by simp only [List.cons.injEq, Value.slice.injEq] at hcs; exact hcs.1.2.1
    rw [this]
    exact ji _
  · rw [h1] at hcs
    have e1 : l.length = n := by simp only [List.cons.injEq, Value.slice.injEq] at hcs; exact hcs.1.2.1
    have hz : zs.length = c' := by simpa using hz
    have := oA (lits (H := H) .u8 (zs.take n))
    have e2 : (lits (H := H) .u8 (zs.take n)).length = n := by simp [lits]; omega
    simp only [Rows.uptoBulk]
    omega
theorem pl {t e : TypeId} {n B : Nat} {V : α → List Value → Prop} {Ok : α → Prop} (ht : P.underlying t = some (.slice e)) (hn : P.cellsOf e = n) (hB : P.bytesOf e = B) (hct : P.cellsOf t = 1) (hel : fB enc P W held e V Ok) :
    fB enc P W held t (fun (xs : List α) r => ∃ a c, r = [.slice a xs.length c] ∧ RdV (gL W) n V a xs ∧ xs.length ≤ c ∧ c ≤ maxLen) (fun xs => xs.length * B ≤ reachBytes ∧ ∀ y ∈ xs, Ok y) := by
  intro fuel cs x h hw
  rcases DataW.trod_slice ht h with ⟨hcs, _⟩ | ⟨a, len, cap, elems, rest, m, _, rfl, rfl, hb, hl, hm, hlen, he2, _, _⟩
  · exact ⟨[], ⟨none, 0, hcs, RdV.nil, Nat.le_refl _, Nat.zero_le _⟩, by rw [hcs]; exact aM rfl, by rw [hcs, hct]; rfl, ⟨by simp, by simp⟩, by rw [jC]; exact ji _⟩
  · subst hn
    have hsz : len * B ≤ reachBytes := by
      have := hw (((elems.map (·.1)).length + (rest.map (·.1)).length) * P.bytesOf e) (by simp [DataW.weights, ht])
      rw [hB] at this
      simp only [List.length_map, hlen] at this
      exact Nat.le_trans (Nat.mul_le_mul_right _ (Nat.le_add_right _ _)) this
    have each : ∀ i, i < len → ∃ y r, V y r ∧ one r ∧ r.length = P.cellsOf e ∧ (Ok y ∧ ∀ q, elems[i]? = some q → Mu.mu y ≤ Rows.uptoBulk q.1) ∧ ∀ j v, r[j]? = some v → W.cell? (a.add (i * P.cellsOf e + j)) = some v := by
      intro i hi
      have h1 := he2 i hi
      obtain ⟨q, hq⟩ : ∃ q, elems[i]? = some q := ⟨_, List.getElem?_eq_getElem (by omega)⟩
      rw [hq] at h1
      obtain ⟨r, hr, htr⟩ := Option.bind_eq_some_iff.1 h1
      obtain ⟨hrl, hrc⟩ := qb hr
      obtain ⟨y, v1, v2, v3, v4⟩ := hel _ r q htr (fun n hn => hw n (by
        simp only [DataW.weights, ht, List.mem_cons, List.mem_append]
        exact .inr (.inl (jD (List.mem_map_of_mem (List.mem_of_getElem? hq)) n hn))))
      refine ⟨y, r, v1, v2, hrl, ⟨v4.1, fun q' hq' => by rw [hq] at hq'; cases hq'; exact v4.2⟩, fun j v hj => ?_⟩
      have := hrc j v hj
      have hadd : (a.add (i * P.cellsOf e)).add j = a.add (i * P.cellsOf e + j) := by
        by_cases h1 : i * P.cellsOf e = 0 <;> by_cases h2 : j = 0 <;> simp [Addr.add, h1, h2, Nat.add_assoc]
      rwa [hadd] at this
    have build : ∀ d i, i + d = len → ∃ xs rs, bx (P.cellsOf e) V xs rs ∧ xs.length = d ∧ ((∀ y ∈ xs, Ok y) ∧ (xs.map Mu.mu).sum ≤ Rows.uptoBulkAll ((elems.drop i).map (·.1))) ∧ ∀ j v, rs.flatten[j]? = some v → W.cell? (a.add (i * P.cellsOf e + j)) = some v := by
      intro d
      induction d with
      | zero => intro i hi; exact ⟨[], [], trivial, rfl, ⟨by simp, by simp⟩, by simp⟩
      | succ d ih =>
        intro i hi
        obtain ⟨y, r, v1, v2, v3, v4, v5⟩ := each i (by omega)
        obtain ⟨xs, rs, w1, w2, w3, w4⟩ := ih (i + 1) (by omega)
        refine ⟨y :: xs, r :: rs, ⟨⟨v3, v2, v1⟩, w1⟩, by simp [w2], ⟨?_, ?_⟩, fun j v hj => ?_⟩
        · intro z hz
          rcases List.mem_cons.1 hz with rfl | hz
          · exact v4.1
          · exact w3.1 z hz
        · obtain ⟨q, hq⟩ : ∃ q, elems[i]? = some q := ⟨_, List.getElem?_eq_getElem (by omega)⟩
          have h1 := v4.2 q hq
          have h2 := w3.2
          obtain ⟨hi', hq'⟩ := List.getElem?_eq_some_iff.1 hq
          rw [List.drop_eq_getElem_cons hi', hq']
          simp only [List.map_cons, List.sum_cons, Rows.uptoBulkAll]
          omega
        · simp only [List.flatten_cons] at hj
          by_cases hjl : j < r.length
          · rw [List.getElem?_append_left hjl] at hj; exact v5 j v hj
          · rw [List.getElem?_append_right (by omega)] at hj
            have := w4 _ v hj
            rw [v3, Nat.add_mul] at this
            have e1 : i * P.cellsOf e + 1 * P.cellsOf e + (j - P.cellsOf e) = i * P.cellsOf e + j := by omega
            rwa [e1] at this
    obtain ⟨xs, rs, w1, w2, w3, w4⟩ := build len 0 (by omega)
    refine ⟨xs, ⟨some a, cap, by rw [w2], ⟨rs, w1, oC fun j v hj => ?_⟩, by rw [w2]; exact hl, hm⟩, aM rfl, by rw [hct]; rfl, ⟨by rw [w2]; exact hsz, w3.1⟩, by have h2 := w3.2; simp only [List.drop_zero] at h2; rw [jC]; simp only [Rows.uptoBulk]; omega⟩
    have := w4 j v hj
    simpa using this
def kR (enc : TypeId × Value → H) (P : Program) (W : World) (held : Bool) (ts : List TypeId) (V : α → List Value → Prop) (Ok : α → Prop) : Prop :=
  ∀ fuel cs xs, qc enc P W held fuel ts cs xs → (∀ n ∈ DataW.weightsEach P ts (xs.map (·.1)), n ≤ reachBytes) → ∃ y, V y cs ∧ one cs ∧ Ok y ∧ Mu.mu y ≤ Rows.uptoBulkAll (xs.map (·.1))
theorem pm {t : TypeId} {V : α → List Value → Prop} {Ok : α → Prop} (h : fB enc P W held t V Ok) : kR enc P W held [t] V Ok := by
  rintro fuel cs xs ⟨c1, c2, x, r, rfl, rfl, h1, rfl, rfl⟩ hw
  obtain ⟨y, a, b, c, d⟩ := h fuel c1 x h1 (fun n hn => hw n (by simp [DataW.weightsEach]; exact hn))
  exact ⟨y, by simpa using a, by simpa using b, d.1, by simp only [List.map_cons, List.map_nil, Rows.uptoBulkAll]; exact d.2⟩
theorem jj {t : TypeId} {ts : List TypeId} {V : α → List Value → Prop} {Ok : α → Prop} {V2 : β → List Value → Prop} {Ok2 : β → Prop} (h : fB enc P W held t V Ok) (h2 : kR enc P W held ts V2 Ok2) :
    kR enc P W held (t :: ts) (fun (x : α × β) cs => ∃ c1 c2, cs = c1 ++ c2 ∧ V x.1 c1 ∧ V2 x.2 c2) (fun x => Ok x.1 ∧ Ok2 x.2) := by
  rintro fuel cs xs ⟨c1, c2, x, r, rfl, rfl, h1, h3⟩ hw
  obtain ⟨y, a, b, c, d⟩ := h fuel c1 x h1 (fun n hn => hw n (by simp only [List.map_cons, DataW.weightsEach, List.mem_append]; exact .inl hn))
  obtain ⟨z, a2, b2, d2⟩ := h2 fuel c2 r h3 (fun n hn => hw n (by simp only [List.map_cons, DataW.weightsEach, List.mem_append]; exact .inr hn))
  exact ⟨(y, z), ⟨c1, c2, rfl, a, a2⟩, qi b b2, ⟨d.1, d2.1⟩, by have h4 := d.2; have h5 := d2.2; simp only [List.map_cons, Rows.uptoBulkAll, kL]; omega⟩
theorem nw {t : TypeId} {fs : Array Field} {V : α → List Value → Prop} {Ok : α → Prop} (ht : P.underlying t = some (.struct fs)) (hlaid : nD P 0 fs.toList = true) (hsum : ot P fs.toList = P.cellsOf t) {ts : List TypeId} (hts : fs.toList.map (·.type) = ts) (h : kR enc P W held ts V Ok) : fB enc P W held t V Ok := by
  intro fuel cs x hx hw
  obtain ⟨xs, n, rfl, rfl, hl, hxl, hf⟩ := DataW.trod_struct ht hx
  have := ou n fs.toList 0 cs xs hlaid (by rw [hl]; omega) (by simpa using hxl) (fun i f hi => hf i f (by simpa using hi))
  rw [hts] at this
  obtain ⟨y, a, b, c⟩ := h n cs xs (by simpa using this) (fun n hn => hw n (by simp only [DataW.weights, ht, hts]; exact hn))
  exact ⟨y, a, b, hl, c.1, by have h4 := c.2; simp only [Rows.uptoBulk]; omega⟩
end
end Go.Proofs.YtndjkejhacfpdaaGreatDoor

namespace Go.Proofs.YtndjkejhacfpdaaGreatDoor
set_option linter.unusedVariables false
set_option linter.unusedSimpArgs false
open Go.RowKit
end Go.Proofs.YtndjkejhacfpdaaGreatDoor

namespace Go.Proofs.YtndjkejhacfpdaaGreatDoor
set_option linter.unusedVariables false
set_option linter.unusedSimpArgs false
open Go.RowKit
def inU (z : Int) : Prop := 0 ≤ z ∧ z < 4294967296
theorem kF (n : Int) (h₀ : 0 ≤ n) (h₁ : n < 2 ^ 32) : IntKind.u32.wrap n = n := by rw [IntKind.wrap_u32]; omega
theorem kW (b : BinOp) (m n : Int) : inU (bS b .u32 m n) := by
  unfold bS inU
  rw [IntKind.wrap_u32]
  omega
theorem uz {n : Int} (h : inU n) : bS .and .u32 n 1 = n % 2 := bits_mask .u32 32 (by decide) kF 1 (by decide) n h.1 h.2
def h1 (z : Int) : Int := if z % 2 = 1 then bS .xor .u32 (z / 2) 2197175160 else z / 2
def hN : Nat → Int → Int
  | 0, z => z
  | n + 1, z => hN n (h1 z)
theorem rv {z : Int} (h : inU z) : inU (h1 z) := by
  unfold h1
  split
  · exact kW _ _ _
  · have := h.1; have := h.2; unfold inU; omega
theorem pb : ∀ (n : Nat) {z : Int}, inU z → inU (hN n z)
  | 0, z, h => h
  | n + 1, z, h => pb n (rv h)
def ki (s : Int) (l : List UInt8) : Int := l.foldl (fun s c => hN 8 (bS .xor .u32 s (c.toNat : Int))) s
theorem pc : ∀ (l : List UInt8) {s : Int}, inU s → inU (ki s l)
  | [], s, h => h
  | c :: l, s, h => by
    show inU (ki (hN 8 (bS .xor .u32 s (c.toNat : Int))) l)
    exact pc l (pb 8 (kW _ _ _))
theorem si (s : Int) (a b : List UInt8) : ki s (a ++ b) = ki (ki s a) b := by unfold ki; rw [List.foldl_append]
theorem wa {i n : Nat} (h : i + n < 2 ^ 62) : IntKind.i64.wrap ((i : Int) + (n : Int)) = ((i + n : Nat) : Int) := by rw [w64 (by omega) (by omega)]; simp
theorem ws1 {n : Nat} (h : n < 2 ^ 61) : IntKind.i64.wrap ((n : Int) + 1) = ((n + 1 : Nat) : Int) := by rw [w64 (by omega) (by omega)]; simp
theorem frG {l : List UInt8} {i : Nat} (h : i < l.length) : l.drop i = l.getD i 0 :: l.drop (i + 1) := by
  rw [List.getD_eq_getElem?_getD, List.getElem?_eq_getElem h]
  exact List.drop_eq_getElem_cons h
theorem mD : ∀ (k i : Nat) (z : Int), 8 - i < k → i ≤ 8 → inU z → bN.l1 k z (i : Int) = some (hN (8 - i) z)
  | 0, i, z, h, _, _ => by omega
  | k + 1, i, z, h, hi, hz => by
    rw [bN.l1]
    by_cases hlt : i < 8
    · have ef : Int.fdiv z (2 ^ (min (1 : Int).toNat IntKind.u32.bits)) = z / 2 := by
        show Int.fdiv z 2 = _
        rw [Int.fdiv_eq_ediv_of_nonneg _ (by decide)]
      have e : 8 - i = (8 - (i + 1)) + 1 := by omega
      have hh := rv hz
      unfold h1 at hh
      rw [if_pos (by omega), uz hz, ef, ws1 (by omega), e]
      show _ = some (hN (8 - (i + 1)) (h1 z))
      unfold h1
      by_cases hb : z % 2 = 1
      · rw [if_pos hb] at hh
        rw [if_pos hb, if_pos hb, mD k (i + 1) _ (by omega) (by omega) hh]
      · rw [if_neg hb] at hh
        rw [if_neg hb, if_neg hb, mD k (i + 1) _ (by omega) (by omega) hh]
    · rw [if_neg (by omega), show 8 - i = 0 by omega]
      rfl
theorem pT {x : List UInt8} (hx : x.length < 2 ^ 40) : ∀ (k i : Nat) (z : Int), x.length - i + 9 < k → i ≤ x.length → inU z → bN.l0 x k z (i : Int) = some (ki z (x.drop i))
  | 0, i, z, h, _, _ => by omega
  | k + 1, i, z, h, hi, hz => by
    rw [bN.l0]
    by_cases hlt : i < x.length
    · have hc : ((x.getD i 0).toNat : Int) < 256 := by have := th x i; omega
      rw [if_pos (by omega), if_pos (by omega), frG hlt]
      simp only [Int.toNat_natCast]
      rw [kF _ (by omega) (by omega), show (0 : Int) = ((0 : Nat) : Int) from rfl, mD k 0 _ (by omega) (by omega) (kW _ _ _), Option.bind_some, ws1 (by omega), pT hx k (i + 1) _ (by omega) (by omega) (pb _ (kW _ _ _))]
      rfl
    · rw [if_neg (by omega), List.drop_of_length_le (by omega)]
      rfl
theorem rx {x : List UInt8} {z : Int} {k : Nat} (hx : x.length < 2 ^ 40) (hz : inU z) (hk : x.length + 9 < k) : bN.f k z x = some (ki z x) := by
  unfold bN.f
  have := pT hx k 0 z (by omega) (by omega) hz
  rw [List.drop_zero] at this
  rw [show (0 : Int) = ((0 : Nat) : Int) from rfl, this]
  rfl
abbrev uA : Int := if IntKind.u32.signed then -1 else IntKind.u32.max
def tZ (l : List UInt8) : Int := bS .xor .u32 uA (ki 4294967295 l)
theorem ua : inU 4294967295 := ⟨by decide, by decide⟩
def mf (n : Int) : List UInt8 := [(du (IntKind.u8.wrap n)), (du (IntKind.u8.wrap (Int.fdiv n (2 ^ (min (8 : Int).toNat IntKind.u32.bits))))), (du (IntKind.u8.wrap (Int.fdiv n (2 ^ (min (16 : Int).toNat IntKind.u32.bits))))), (du (IntKind.u8.wrap (Int.fdiv n (2 ^ (min (24 : Int).toNat IntKind.u32.bits)))))]
theorem nI (n : Int) : 0 ≤ IntKind.u8.wrap n ∧ IntKind.u8.wrap n < 256 := by rw [IntKind.wrap_u8]; omega
theorem ry (n : Int) : eT.f n = some (mf n) := by
  unfold eT.f
  rw [if_pos (nI _), if_pos (nI _), if_pos (nI _), if_pos (nI _)]
  rfl
theorem gP (n : Int) : (mf n).length = 4 := rfl
def frB (p : List UInt8) : List UInt8 := mf (p.length : Int) ++ mf (tZ (mf (p.length : Int) ++ p)) ++ p
theorem mE (p : List UInt8) : (frB p).length = 8 + p.length := by simp [frB, gP]; omega
theorem uq {out p : List UInt8} {k : Nat} (ho : out.length ≤ 2 ^ 40) (hp : p.length ≤ 1048576) (hk : p.length + 20 < k) : gx.f k out p = some (out ++ frB p) := by
  unfold gx.f
  rw [kF _ (by omega) (by omega), ry, Option.bind_some, rx (by rw [gP]; omega) ua (by rw [gP]; omega), Option.bind_some, rx (by omega) (pc _ ua) (by omega), Option.bind_some,
    if_pos (by rw [gP]; omega), ry, Option.bind_some, if_pos (by rw [List.length_append, gP, gP]; omega), if_pos (by simp only [List.length_append, gP]; omega), ← si]
  simp only [frB, tZ, List.append_assoc]
theorem uk {p : List UInt8} {k : Nat} (hk : p.length + 20 < k) : fP.f k p = some (if 1048576 < p.length then ([], 3) else (frB p, 0)) := by
  unfold fP.f
  by_cases h : 1048576 < p.length
  · rw [if_pos (by omega), if_pos h]
  · rw [if_neg (by omega), if_neg h, show (8 : Int) + (p.length : Int) = ((8 + p.length : Nat) : Int) by simp, w64 (by omega) (by omega), if_pos (by omega)]
    have : List.replicate (0 : Int).toNat (0 : UInt8) = [] := rfl
    rw [this, uq (by simp) (by omega) hk]
    rfl
end Go.Proofs.YtndjkejhacfpdaaGreatDoor

namespace Go.Proofs.YtndjkejhacfpdaaGreatDoor
set_option linter.unusedVariables false
set_option linter.unusedSimpArgs false
open Go.RowKit
end Go.Proofs.YtndjkejhacfpdaaGreatDoor

namespace Go.Proofs.YtndjkejhacfpdaaGreatDoor
set_option linter.unusedVariables false
set_option linter.unusedSimpArgs false
open Go.RowKit
theorem gE {α : Type} {l : List α} {i : Nat} {d : α} (h : i < l.length) : l.getD i d = l[i] := by
  rw [List.getD_eq_getElem?_getD, List.getElem?_eq_getElem h]; rfl
theorem rb {α : Type} {l : List α} {i : Nat} {d : α} (h : i < l.length) : l.drop i = l.getD i d :: l.drop (i + 1) := by
  rw [gE h]
  exact List.drop_eq_getElem_cons h
theorem uc {p : UInt8 → Bool} (h : ((List.range 256).all fun n => p (UInt8.ofNat n)) = true) (c : UInt8) : p c = true := by
  have := List.all_eq_true.1 h c.toNat (List.mem_range.2 (UInt8.toNat_lt c))
  simpa using this
theorem wn1 {n : Nat} (h : n < 2 ^ 61) : IntKind.i64.wrap ((n : Int) + 1) = ((n + 1 : Nat) : Int) := by rw [w64 (by omega) (by omega)]; simp
def dg (c : UInt8) : Prop := 48 ≤ c.toNat ∧ c.toNat ≤ 57
def hU (a : Nat) (l : List UInt8) : Nat := l.foldl (fun a c => a * 10 + (c.toNat - 48)) a
instance (c : UInt8) : Decidable (dg c) := inferInstanceAs (Decidable (48 ≤ c.toNat ∧ c.toNat ≤ 57))
theorem po (a : Nat) (c : UInt8) (l : List UInt8) : hU a (c :: l) = hU (a * 10 + (c.toNat - 48)) l := by simp only [hU, List.foldl_cons]
theorem px (a : Nat) (c : UInt8) (l : List UInt8) : hU a (l ++ [c]) = hU a l * 10 + (c.toNat - 48) := by simp [hU, List.foldl_append]
theorem sF {n : Nat} (h : n < 256) : (UInt8.ofNat n).toNat = n := by simp; omega
theorem pK : ∀ (k u : Nat), u < 10 ^ (k + 1) → (Lib.decDigits u).length ≤ k + 1
  | 0, u, h => by rw [Lib.decDigits, dif_pos (by simpa using h)]; simp
  | k + 1, u, h => by
    rw [Lib.decDigits]
    split
    · simp
    · have := pK k (u / 10) (by rw [Nat.pow_succ] at h; omega)
      simp; omega
theorem rT {n : Int} (h : 0 ≤ n) : Lib.itoa n = Lib.decDigits n.toNat := by unfold Lib.itoa; rw [if_neg (by omega)]
def pad : Nat → Nat → List UInt8
  | 0, _ => []
  | k + 1, n => pad k (n / 10) ++ [UInt8.ofNat (48 + n % 10)]
theorem mA : ∀ k n, (pad k n).length = k
  | 0, _ => rfl
  | k + 1, n => by rw [pad, List.length_append, mA k]; rfl
theorem pg : ∀ k, pad k 0 = Lib.repeatL [48] k
  | 0 => rfl
  | k + 1 => by
    have e : ∀ k, Lib.repeatL [48] k ++ [48] = Lib.repeatL [48] (k + 1) := fun k => by
      induction k with
      | zero => rfl
      | succ k ih => rw [Lib.repeatL, List.append_assoc, ih]; rfl
    rw [pad, show (0 : Nat) / 10 = 0 from rfl, pg k]
    exact e k
theorem pL : ∀ (k n : Nat), n < 10 ^ (k + 1) → Lib.repeatL [48] (k + 1 - (Lib.decDigits n).length) ++ Lib.decDigits n = pad (k + 1) n
  | k, n, h => by
    by_cases h10 : n < 10
    · rw [Lib.decDigits, dif_pos h10, pad, show n / 10 = 0 by omega, show n % 10 = n by omega, pg]
      rfl
    · rw [Lib.decDigits, dif_neg h10]
      cases k with
      | zero => exact absurd h (by simp; omega)
      | succ k =>
        have ih := pL k (n / 10) (by rw [Nat.pow_succ] at h; omega)
        rw [pad, ← ih, List.length_append]
        simp only [List.length_cons, List.length_nil]
        rw [show k + 1 + 1 - ((Lib.decDigits (n / 10)).length + (0 + 1)) = k + 1 - (Lib.decDigits (n / 10)).length by omega]
        simp
theorem oS : ∀ (k n : Nat) c, c ∈ pad k n → dg c
  | 0, _, c, h => by cases h
  | k + 1, n, c, h => by
    rw [pad] at h
    rcases List.mem_append.1 h with h | h
    · exact oS k _ c h
    · have e : (UInt8.ofNat (48 + n % 10)).toNat = 48 + n % 10 := sF (by omega)
      rw [List.mem_singleton.1 h, dg, e]; omega
theorem oR : ∀ (k n : Nat), n < 10 ^ k → hU 0 (pad k n) = n
  | 0, n, h => by simp at h; subst h; rfl
  | k + 1, n, h => by
    have e : (UInt8.ofNat (48 + n % 10)).toNat = 48 + n % 10 := sF (by omega)
    rw [pad, px, oR k (n / 10) (by rw [Nat.pow_succ] at h; omega), e]
    omega
end Go.Proofs.YtndjkejhacfpdaaGreatDoor

namespace Go.Proofs.YtndjkejhacfpdaaGreatDoor
set_option linter.unusedVariables false
set_option linter.unusedSimpArgs false
open Go.RowKit
abbrev oP : List UInt8 := [119, 97, 108, 45]
def bo (n : Nat) : List UInt8 := oP ++ pad 8 n
def jy (s : List UInt8) : Nat := if s.length = 12 ∧ s.take 4 = oP ∧ (∀ c, c ∈ s.drop 4 → dg c) then hU 0 (s.drop 4) else 0
instance (l : List UInt8) : Decidable (∀ c, c ∈ l → dg c) := inferInstanceAs (Decidable (∀ c ∈ l, dg c))
theorem oQ (l : List UInt8) (hl : l.length ≤ 8) : ∀ (k j : Nat), 8 - l.length - j < k → j ≤ 8 - l.length → dV.l0 k (Lib.repeatL [48] j ++ l) = some (Lib.repeatL [48] (8 - l.length) ++ l)
  | 0, j, h, _ => by omega
  | k + 1, j, h, hj => by
    have hr : (Lib.repeatL [48] j).length = j := by rw [Lib.repeatL_length]; simp
    rw [dV.l0]
    by_cases hlt : j < 8 - l.length
    · rw [if_pos (by rw [List.length_append, hr]; omega), if_pos (by rw [List.length_append, hr]; simp only [List.length_cons, List.length_nil]; omega)]
      have ih := oQ l hl k (j + 1) (by omega) (by omega)
      rw [Lib.repeatL, List.append_assoc] at ih
      exact ih
    · rw [if_neg (by rw [List.length_append, hr]; omega), show j = 8 - l.length by omega]
theorem sW {n k : Nat} (h0 : 1 ≤ n) (h1 : n ≤ 99999999) (hk : 10 ≤ k) : dV.f k (n : Int) = some (bo n, 0) := by
  have hlen := pK 7 n (by omega)
  have hp := pL 7 n (by omega)
  unfold dV.f
  have l0 := oQ (Lib.decDigits n) (by omega) k 0 (by omega) (by omega)
  rw [if_neg (by simp; omega), fL.f, if_pos (by omega), Option.bind_some, rT (by omega), Int.toNat_natCast]
  rw [show Lib.repeatL [48] 0 ++ Lib.decDigits n = Lib.decDigits n from rfl] at l0
  rw [l0, hp, Option.bind_some, if_pos (by rw [mA]; simp only [List.length_cons, List.length_nil]; omega)]
  rfl
theorem pM {s : List UInt8} (hs : s.length = 12) : ∀ (k i n : Nat), 8 - i < k → i ≤ 8 → n < 10 ^ i →
    dz.l0 s k (n : Int) (i : Int) = some (if (∀ c, c ∈ (s.drop 4).drop i → dg c) then .inl ((hU n ((s.drop 4).drop i) : Nat) : Int) else .inr (0, false))
  | 0, i, n, h, _, _ => by omega
  | k + 1, i, n, hk, hi, hn => by
    rw [dz.l0]
    have ec : cut s (4 : Int) (s.length : Int) = s.drop 4 := by unfold cut; simp
    have el : (s.drop 4).length = 8 := by simp; omega
    rw [ec, el]
    by_cases hlt : i < 8
    · have hm : n * 10 + 9 < 10 ^ 9 := by
        have : (10 : Nat) ^ i ≤ 10 ^ 7 := Nat.pow_le_pow_right (by omega) (by omega)
        omega
      have hn8 : n * 10 < 10 ^ (i + 1) := by rw [Nat.pow_succ]; omega
      have hd4 : (s.drop 4).drop i = (s.drop 4).getD i 0 :: (s.drop 4).drop (i + 1) := by
        have h2 := rb (l := s.drop 4) (d := (0 : UInt8)) (i := i) (by omega)
        exact h2
      rw [if_pos (by omega), if_pos (by omega), hd4]
      simp only [Int.toNat_natCast]
      obtain ⟨c, hc⟩ : ∃ c, (s.drop 4).getD i 0 = c := ⟨_, rfl⟩
      simp only [hc]
      by_cases hd : dg c
      · have d1 := hd.1
        have d2 := hd.2
        rw [if_neg (by simp; omega)]
        have e2 : IntKind.i64.wrap (IntKind.i64.wrap (10 * (n : Int)) + IntKind.i64.wrap (IntKind.u8.wrap (((c.toNat : Nat) : Int) - 48))) = ((n * 10 + (c.toNat - 48) : Nat) : Int) := by
          rw [w8 (by omega) (by omega), w64 (n := 10 * (n : Int)) (by omega) (by omega), w64 (n := ((c.toNat : Nat) : Int) - 48) (by omega) (by omega), w64 (by omega) (by omega)]
          omega
        rw [e2, wn1 (by omega), pM hs k (i + 1) _ (by omega) (by omega) (by rw [Nat.pow_succ]; omega), po]
        have e3 : (∀ d, d ∈ c :: (s.drop 4).drop (i + 1) → dg d) ↔ (∀ d, d ∈ (s.drop 4).drop (i + 1) → dg d) := ⟨fun h d hd' => h d (List.mem_cons_of_mem _ hd'), fun h d hd' => by
          rcases List.mem_cons.1 hd' with rfl | hd'
          · exact hd
          · exact h d hd'⟩
        simp only [e3]
      · rw [if_pos (by
          unfold dg at hd
          simp only [Bool.or_eq_true, decide_eq_true_eq]
          omega), if_neg (fun h => hd (h c (by simp)))]
    · rw [if_neg (by omega), List.drop_of_length_le (l := s.drop 4) (by omega), if_pos (fun c h => (by cases h))]
      rfl
theorem tK {s : List UInt8} {k : Nat} (hs : s.length ≤ 2 ^ 40) (hk : 10 ≤ k) : dz.f k s = some ((jy s : Int), decide (0 < jy s)) := by
  unfold dz.f jy
  by_cases hl : s.length = 12
  · rw [if_pos (by omega), if_pos (by omega), Option.bind_some]
    have ec : cut s (0 : Int) (4 : Int) = s.take 4 := by unfold cut; simp
    rw [ec]
    by_cases hp : s.take 4 = oP
    · have l0 := pM hl k 0 0 (by omega) (by omega) (by omega)
      rw [show ((0 : Nat) : Int) = (0 : Int) from rfl] at l0
      have ed : (cut s (4 : Int) (s.length : Int)).length = 8 := by unfold cut; simp; omega
      rw [if_neg (by simp [hp]), if_pos (show 0 ≤ (4 : Int) ∧ (4 : Int) ≤ (s.length : Int) ∧ (s.length : Int) ≤ (s.length : Int) by omega), if_pos (by rw [ed]; omega), l0]
      rw [List.drop_zero]
      by_cases hd : ∀ c, c ∈ s.drop 4 → dg c
      · rw [if_pos hd, if_pos ⟨hl, hp, hd⟩]
        simp [orR]
      · rw [if_neg hd, if_neg (fun h => hd h.2.2)]
        rfl
    · rw [if_pos (by simp [hp]), if_neg (fun h => hp h.2.1)]
      rfl
  · rw [if_neg (by omega), Option.bind_some, if_pos rfl, if_neg (fun h => hl h.1)]
    rfl
theorem jt (n : Nat) : (bo n).length = 12 := by simp [bo, mA]
theorem lr {n : Nat} (h : n ≤ 99999999) : jy (bo n) = n := by
  have e2 : (bo n).take 4 = oP := by simp [bo]
  have e3 : (bo n).drop 4 = pad 8 n := by simp [bo]
  unfold jy
  rw [e3, oR 8 n (by omega), if_pos ⟨jt n, e2, fun c hc => oS 8 n c hc⟩]
end Go.Proofs.YtndjkejhacfpdaaGreatDoor

namespace Go.Proofs.YtndjkejhacfpdaaGreatDoor
set_option linter.unusedVariables false
set_option linter.unusedSimpArgs false
open Go.RowKit
abbrev EnT := Int × Int × Int × List UInt8
abbrev HeT := Int × Int × Int × List UInt8 × Int
abbrev dF := Int × Int × Int × Int × Int × Int × Int × Int × Int × Int × List UInt8
def eR (r : dF) : List UInt8 :=
  dw r.1 ++ (if r.1 = 0 then dw r.2.1 else []) ++ (if r.1 = 0 ∨ r.1 = 1 then dw r.2.2.1 ++ dw r.2.2.2.1 ++ dw r.2.2.2.2.1 else []) ++ (if r.1 = 0 ∨ r.1 = 3 then dw r.2.2.2.2.2.1 ++ dw r.2.2.2.2.2.2.1 else []) ++
    (if r.1 = 2 then bB (txE r.2.2.2.2.2.2.2.1 r.2.2.2.2.2.2.2.2.1 r.2.2.2.2.2.2.2.2.2.1 r.2.2.2.2.2.2.2.2.2.2) else [])
structure OkR (r : dF) : Prop where
  kd : 0 ≤ r.1 ∧ r.1 ≤ 3
  nu : okN r.2.1
  t : okN r.2.2.1
  v : okN r.2.2.2.1
  c : okN r.2.2.2.2.1
  i : okN r.2.2.2.2.2.1
  m : okN r.2.2.2.2.2.2.1
  e : r.1 = 2 → fG r.2.2.2.2.2.2.2.1 r.2.2.2.2.2.2.2.2.1 r.2.2.2.2.2.2.2.2.2.1 r.2.2.2.2.2.2.2.2.2.2 = 0
theorem iU : bw.f 0 = some () := rfl
theorem pP (t i kd : Int) (d : List UInt8) : (txE t i kd d).length ≤ d.length + 36 := by
  have b1 := cj t; have b2 := cj i; have b3 := cj kd; have b4 := oy d
  unfold txE
  simp only [List.length_append]
  omega
theorem kh (r : dF) : (eR r).length ≤ r.2.2.2.2.2.2.2.2.2.2.length + 120 := by
  have b0 := cj r.1; have b1 := cj r.2.1; have b2 := cj r.2.2.1; have b3 := cj r.2.2.2.1; have b4 := cj r.2.2.2.2.1; have b5 := cj r.2.2.2.2.2.1; have b6 := cj r.2.2.2.2.2.2.1
  have b7 := pP r.2.2.2.2.2.2.2.1 r.2.2.2.2.2.2.2.2.1 r.2.2.2.2.2.2.2.2.2.1 r.2.2.2.2.2.2.2.2.2.2
  have b8 := oy (txE r.2.2.2.2.2.2.2.1 r.2.2.2.2.2.2.2.2.1 r.2.2.2.2.2.2.2.2.2.1 r.2.2.2.2.2.2.2.2.2.2)
  unfold eR
  simp only [List.length_append]
  have e1 : (if r.1 = 0 then dw r.2.1 else []).length ≤ 9 := by split <;> first | omega | simp
  have e2 : (if r.1 = 0 ∨ r.1 = 1 then dw r.2.2.1 ++ dw r.2.2.2.1 ++ dw r.2.2.2.2.1 else []).length ≤ 27 := by split <;> first | (simp only [List.length_append]; omega) | simp
  have e3 : (if r.1 = 0 ∨ r.1 = 3 then dw r.2.2.2.2.2.1 ++ dw r.2.2.2.2.2.2.1 else []).length ≤ 18 := by split <;> first | (simp only [List.length_append]; omega) | simp
  have e4 : (if r.1 = 2 then bB (txE r.2.2.2.2.2.2.2.1 r.2.2.2.2.2.2.2.2.1 r.2.2.2.2.2.2.2.2.2.1 r.2.2.2.2.2.2.2.2.2.2) else []).length ≤ r.2.2.2.2.2.2.2.2.2.2.length + 45 := by split <;> first | omega | simp
  omega
theorem pQ {r : dF} (h : OkR r) {k : Nat} (hk : 10000 ≤ k) : dn.f k r.1 r.2.1 r.2.2.1 r.2.2.2.1 r.2.2.2.2.1 r.2.2.2.2.2.1 r.2.2.2.2.2.2.1 r.2.2.2.2.2.2.2.1 r.2.2.2.2.2.2.2.2.1 r.2.2.2.2.2.2.2.2.2.1 r.2.2.2.2.2.2.2.2.2.2 = some (frB (eR r)) := by
  have hlen := kh r
  obtain ⟨kd, nu, t, v, c, i, m, et, ei, ek, ed⟩ := r
  obtain ⟨hkd, hnu, ht, hv, hc, hi, hm, he⟩ := h
  simp only at hkd hnu ht hv hc hi hm he hlen ⊢
  have b0 := cj kd; have b1 := cj nu; have b2 := cj t; have b3 := cj v; have b4 := cj c; have b5 := cj i; have b6 := cj m
  have hK : 10 ≤ k := by omega
  have fin : ∀ p : List UInt8, p.length ≤ 9000 → ((cW.f p 0).bind fun s65v => ((bw.f s65v.2).bind fun s68v => ((fP.f k s65v.1).bind fun s75v => ((bw.f s75v.2).bind fun s78v => (some s75v.1))))) = some (frB p) := fun p hp => by
    rw [wD (by omega), Option.bind_some]
    simp only []
    rw [iU, Option.bind_some, uk (by omega), if_neg (by omega), Option.bind_some]
    simp only []
    rw [iU, Option.bind_some]
  unfold dn.f
  rw [show dJ.f = some (([] : List UInt8), 0) from rfl, Option.bind_some]
  simp only []
  rw [wI hK (by simp) (show okN kd by unfold okN; omega), Option.bind_some]
  simp only [List.nil_append]
  have h03 : kd = 0 ∨ kd = 1 ∨ kd = 2 ∨ kd = 3 := by omega
  rcases h03 with rfl | rfl | rfl | rfl
  · rw [if_pos rfl, wI hK (by omega) hnu]
    simp only [Option.bind_some]
    rw [if_pos (by decide), wI hK (by first | omega | (simp only [List.length_append, List.length_nil]; omega)) ht, Option.bind_some, wI hK (by first | omega | (simp only [List.length_append, List.length_nil]; omega)) hv, Option.bind_some, wI hK (by first | omega | (simp only [List.length_append, List.length_nil]; omega)) hc]
    simp only [Option.bind_some]
    rw [if_pos (by decide), wI hK (by first | omega | (simp only [List.length_append, List.length_nil]; omega)) hi, Option.bind_some, wI hK (by first | omega | (simp only [List.length_append, List.length_nil]; omega)) hm]
    simp only [Option.bind_some]
    rw [if_neg (by decide)]
    simp only [Option.bind_some]
    rw [fin _ (by first | omega | (simp only [List.length_append, List.length_nil]; omega))]
    unfold eR
    simp [List.append_assoc]
  · rw [if_neg (by decide)]
    simp only [Option.bind_some]
    rw [if_pos (by decide), wI hK (by first | omega | (simp only [List.length_append, List.length_nil]; omega)) ht, Option.bind_some, wI hK (by first | omega | (simp only [List.length_append, List.length_nil]; omega)) hv, Option.bind_some, wI hK (by first | omega | (simp only [List.length_append, List.length_nil]; omega)) hc]
    simp only [Option.bind_some]
    rw [if_neg (by decide)]
    simp only [Option.bind_some]
    rw [if_neg (by decide)]
    simp only [Option.bind_some]
    rw [fin _ (by first | omega | (simp only [List.length_append, List.length_nil]; omega))]
    unfold eR
    simp [List.append_assoc]
  · rw [if_neg (by decide)]
    simp only [Option.bind_some]
    rw [if_neg (by decide)]
    simp only [Option.bind_some]
    rw [if_neg (by decide)]
    simp only [Option.bind_some]
    have hE := he rfl
    have hE2 := gi hE
    have b7 := pP et ei ek ed
    have b8 := oy (txE et ei ek ed)
    first | rw [if_pos rfl] | rw [if_pos trivial]
    rw [ui hK]
    unfold rG
    rw [if_pos hE]
    simp only [Option.bind_some]
    rw [iU, Option.bind_some, wB hK (by omega) (by omega) (by omega)]
    simp only [Option.bind_some]
    rw [fin _ (by have := cj ((txE et ei ek ed).length : Int); simp only [List.length_append]; omega)]
    unfold eR
    simp [List.append_assoc, bB]
  · rw [if_neg (by decide)]
    simp only [Option.bind_some]
    rw [if_neg (by decide)]
    simp only [Option.bind_some]
    rw [if_pos (by decide), wI hK (by omega) hi, Option.bind_some, wI hK (by first | omega | (simp only [List.length_append, List.length_nil]; omega)) hm]
    simp only [Option.bind_some]
    rw [if_neg (by decide)]
    simp only [Option.bind_some]
    rw [fin _ (by first | omega | (simp only [List.length_append, List.length_nil]; omega))]
    unfold eR
    simp [List.append_assoc]
end Go.Proofs.YtndjkejhacfpdaaGreatDoor

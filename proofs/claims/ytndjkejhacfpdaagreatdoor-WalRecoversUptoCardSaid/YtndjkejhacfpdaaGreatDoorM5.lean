/- Texts that lead to the law WalRecovers: G4, G5. Conditions: as each says. -/
import Derived.Test.YtndjkejhacfpdaaGreatDoorM4
set_option linter.unusedVariables false
set_option linter.unusedSimpArgs false
set_option linter.unusedSectionVars false
namespace Go.Proofs.YtndjkejhacfpdaaGreatDoor
open Go.RowKit _root_.Go.Proofs.Tryz
set_option maxRecDepth 20000
set_option maxHeartbeats 20000000
def bS.l2 (c : List Int) : Nat → Int → List ((List UInt8) × (List UInt8 × Int)) → List UInt8 → Int → Bool → Int → List Int → Int → Int → Int → Int → Int → Int → List (aP) → Bool → Bool → Option ((List ((List UInt8) × (List UInt8 × Int))) × List UInt8 × Int × Bool × Int × List Int × Int × Int × Int × Int × Int × Int × (List (aP)) × Bool × Bool)
  | 0, _, _, _, _, _, _, _, _, _, _, _, _, _, _, _, _ => none
  | k + 1, b, l, m, n, o, p, q, r, s, d, e, g, h, i, j, t => if b < (c.length : Int) then (if 0 ≤ b ∧ b < (c.length : Int) then ((di.f k l m n o p q r s d e g h i j (c.getD b.toNat (0 : Int))).bind fun a => (bS.l2 c k (IntKind.i64.wrap (b + 1)) a.2.1 a.2.2.1 a.2.2.2.1 a.2.2.2.2.1 a.2.2.2.2.2.1 a.2.2.2.2.2.2.1 a.2.2.2.2.2.2.2.1 a.2.2.2.2.2.2.2.2.1 a.2.2.2.2.2.2.2.2.2.1 a.2.2.2.2.2.2.2.2.2.2.1 a.2.2.2.2.2.2.2.2.2.2.2.1 a.2.2.2.2.2.2.2.2.2.2.2.2.1 a.2.2.2.2.2.2.2.2.2.2.2.2.2.1 a.2.2.2.2.2.2.2.2.2.2.2.2.2.2 a.1)) else none) else (some (l, m, n, o, p, q, r, s, d, e, g, h, i, j, t))
def bS.l1 (b : List Int) : Nat → Int → Option (Unit)
  | 0, _ => none
  | k + 1, a => if a < (b.length : Int) then (if 0 ≤ a ∧ a < (b.length : Int) then (if 0 ≤ (0 : Int) ∧ (0 : Int) < (b.length : Int) then (if (b.getD a.toNat (0 : Int)) = IntKind.i64.wrap ((b.getD (0 : Int).toNat (0 : Int)) + a) then (bS.l1 b k (IntKind.i64.wrap (a + 1))) else ((cm.f (12 : Int)).bind fun c => (bS.l1 b k (IntKind.i64.wrap (a + 1))))) else none) else none) else (some ())
def bS.l0 (c : List (List UInt8)) : Nat → Int → List Int → Option (List Int)
  | 0, _, _ => none
  | k + 1, a, b => if a < (c.length : Int) then (if 0 ≤ a ∧ a < (c.length : Int) then ((gc.f k (c.getD a.toNat ([] : List UInt8))).bind fun d => (if d.2 = true then (if (b.length + ([d.1] : List Int).length) * 8 ≤ 140737488355328 then (bS.l0 c k (IntKind.i64.wrap (a + 1)) (b ++ ([d.1] : List Int))) else none) else (bS.l0 c k (IntKind.i64.wrap (a + 1)) b))) else none) else (some b)
def bS.f (k : Nat) (d : List ((List UInt8) × (List UInt8 × Int))) (e : List UInt8) (g : Int) (h : Bool) (x1 : Int) : Option (Bool × Int × List Int × Int × Int × Int × Int × Int × Int × (List (aP)) × Bool × Bool × Int × (List ((List UInt8) × (List UInt8 × Int))) × List UInt8 × Int × Bool) := if ((decide (x1 < (64 : Int))) || (decide ((1048576 : Int) < x1))) = true then (some (false, (0 : Int), ([] : List Int), (0 : Int), (0 : Int), (0 : Int), (0 : Int), (0 : Int), (0 : Int), ([] : List (aP)), false, false, 15, d, e, g, h)) else (((ja.f d e g h).bind fun m => (bS.l0 m k 0 ([] : List Int))).bind fun i => (if (i.length : Int) = (0 : Int) then ((fU.f k d e g h x1 i (0 : Int) (0 : Int) (0 : Int) (0 : Int) (0 : Int) (0 : Int) ([] : List (aP)) false (1 : Int)).bind fun b => (some (true, b.2.2.2.2.1, b.2.2.2.2.2.1, b.2.2.2.2.2.2.1, b.2.2.2.2.2.2.2.1, b.2.2.2.2.2.2.2.2.1, b.2.2.2.2.2.2.2.2.2.1, b.2.2.2.2.2.2.2.2.2.2.1, b.2.2.2.2.2.2.2.2.2.2.2.1, b.2.2.2.2.2.2.2.2.2.2.2.2.1, b.2.2.2.2.2.2.2.2.2.2.2.2.2, false, 0, b.1, b.2.1, b.2.2.1, b.2.2.2.1))) else ((bS.l1 i k 0).bind fun o => (((fS.f i).bind fun l => (bS.l2 l k 0 d e g h x1 i 0 0 0 0 0 0 ([] : List (aP)) false false)).bind fun a => (if 0 ≤ IntKind.i64.wrap ((a.2.2.2.2.2.1.length : Int) - 1) ∧ IntKind.i64.wrap ((a.2.2.2.2.2.1.length : Int) - 1) < (a.2.2.2.2.2.1.length : Int) then ((cA.f k (a.2.2.2.2.2.1.getD (IntKind.i64.wrap ((a.2.2.2.2.2.1.length : Int) - 1)).toNat (0 : Int))).bind fun j => ((cX.f a.1 a.2.1 a.2.2.1 a.2.2.2.1 j).bind fun c => ((cm.f c.1).bind fun n => (some (true, a.2.2.2.2.1, a.2.2.2.2.2.1, a.2.2.2.2.2.2.1, a.2.2.2.2.2.2.2.1, a.2.2.2.2.2.2.2.2.1, a.2.2.2.2.2.2.2.2.2.1, a.2.2.2.2.2.2.2.2.2.2.1, a.2.2.2.2.2.2.2.2.2.2.2.1, a.2.2.2.2.2.2.2.2.2.2.2.2.1, a.2.2.2.2.2.2.2.2.2.2.2.2.2.1, a.2.2.2.2.2.2.2.2.2.2.2.2.2.2, 0, c.2.1, c.2.2.1, c.2.2.2.1, c.2.2.2.2))))) else none)))))
theorem bS.calls (W : World) (F : HA) (k b0 m : Nat) (n : Kps) (x : List (Lb × (Lb × Int))) (z : Lb) (ab : Int) (ad : Bool) (x1 : Int) (hgl : Glb Tryz.prog F) :
    Fn Tryz.prog W 15 [Pt b0, Iv x1] [W0 b0 m z ab ad, ax (au m aB ar n) ak n x] F (bS.f k x z ab ad x1) (fun r (y : Nat × Option Addr × Nat × Option Addr × Nat × HA × Nat × Kps) => .tuple #[.pointer (Dh r.1 y.1), .bool r.2.2.2.2.2.2.2.2.2.2.2.1, Iv r.2.2.2.2.2.2.2.2.2.2.2.2.1]) (fun r y => [sb r.1 [W14 y.1 b0 r.2 y.2.1 y.2.2.1 y.2.2.2.1 y.2.2.2.2.1, ah 3 1 (V3 tt) y.2.1 r.2.2.1 y.2.2.1, ah 144 5 (ba y.2.2.2.2.2.1) y.2.2.2.1 r.2.2.2.2.2.2.2.2.2.1 y.2.2.2.2.1, y.2.2.2.2.2.1], W1 b0 y.2.2.2.2.2.2.1 r.2.2.2.2.2.2.2.2.2.2.2.2.2.2, ax (au y.2.2.2.2.2.2.1 aB ar y.2.2.2.2.2.2.2) ak y.2.2.2.2.2.2.2 r.2.2.2.2.2.2.2.2.2.2.2.2.2.1]) := by
 unfold bS.f
 refine lZ 116 Tryz.func15 O Tryz.ntmps15 O (sr (oE (bX O zeroValue36 O) O ?_))
 intro o
 refine oE (bX O zeroValue4 O) O ?_
 intro p
 refine oE (bX O jG O) O ?_
 intro q
 refine oT (ap (sr (oM O (vq (dG O O O) O (oM O (ao (b := decide (x1 < (64 : Int))) (fun ei => RQ.sub (E' := [(1, Iv x1)]) ⟨O, trivial⟩ (am O O)) O O O O O (ao (b := decide (x1 < (64 : Int))) (fun b7 => RQ.sub (E' := [(18, Iv x1)]) ⟨aN O b7, trivial⟩ (dO O O O)) O O O O O (vq (ik O O O) O (oT ?_)))))))))
 refine bm O (fun hi => ?_) (fun hj => ?_)
 refine sr (bg (aI 2 O O O sizeOf36 O O (aM (by rfl)) O O) O O ?_)
 intro _
 refine bg (aI 1 O O O cM O O (aM (by rfl)) O O) O O ?_
 intro _
 refine bg (aI 0 O O O cT O O (aM (by rfl)) O O) O O ?_
 intro _
 refine oT (ay (aY ?_))
 exact Aw (vs := [.pointer none, .bool false, Iv 15]) (0, none, 0, none, 0, tt, m, n) O ⟨⟨o, O, gz bb (.obj 2 O O)⟩, ⟨p, O, gz dY (.obj 1 O O)⟩, ⟨q, O, gz eX (.obj 0 O O)⟩, trivial⟩ O (.when_no O (.d (.d (.d .n))))
 refine aA (ai (sr (vq (jj O O O) O (lz (cap := [Pt o, Pt p, Pt q]) O O O O O O O (nx (oM O (oM O (vq (cW (v := .agg #[Pt b0, Iv x1, .slice none 0 0, Iv 0, Iv 0, Iv 0, Iv 0, Iv 0, Iv 0, .slice none 0 0, .bool false]) O O (fun _ => by kernel_rfl)) O (oE (cH O O O) O ?_)))))))))
 intro t
 refine bg (aI 3 O O O sizeOf36 O O (aM (by rfl)) O O) O O ?_
 intro _
 refine oT ?_
 refine bP (S := List Int) (Option Addr × Nat) (fun s y => [(4, Pt o), (5, Pt p), (6, Pt q)]) (fun s y => [W0 b0 m z ab ad, obj t 91 [Pt b0, Iv x1, .slice y.1 s.length y.2, Iv 0, Iv 0, Iv 0, Iv 0, Iv 0, Iv 0, .slice none 0 0, .bool false], obj q 23 [Iv 0], obj p 4 [.bool false], obj o 36 [Pt t], ax (au m aB ar n) ak n x, ah 3 1 (V3 tt) y.1 s y.2, F]) ?_ ?_
 refine sr (oM O (aj (fun a2 c6 => (oE (oC (vs := [Pt b0]) (cap := []) (A := [W0 b0 m z ab ad, ax (au m aB ar n) ak n x]) O call29 (.e (.e (.a (.a (.a (.a (.a .n))))))) (ja.calls _ _ b0 m n x z ab ad ) c6) O ?_))))
 intro a0
 refine vq (bL O O O fT) O (oM O (oT (aZ ?_)))
 refine da (S := Int × List Int) (Option Addr × Nat) (fun k s => bS.l0 a2 k s.1 s.2) (fun s y => [(4, Pt o), (5, Pt p), (6, Pt q), (27, .slice a0.1 a2.length a0.2), (28, Iv (a2.length : Int)), (29, Iv s.1)]) (fun s y => [W0 b0 m z ab ad, obj t 91 [Pt b0, Iv x1, .slice y.1 s.2.length y.2, Iv 0, Iv 0, Iv 0, Iv 0, Iv 0, Iv 0, .slice none 0 0, .bool false], obj q 23 [Iv 0], obj p 4 [.bool false], obj o 36 [Pt t], ah 9 1 (V9 tt) a0.1 a2 a0.2, ax (au m aB ar n) ak n x, ah 3 1 (V3 tt) y.1 s.2 y.2, F]) (fun _ => by rw [bS.l0]) ?_ k (0, ([] : List Int)) (none, 0) ⟨O, O, O, O, O, O, trivial⟩ (.b (.c (.c (.c (.c (.a (.a (.rowV_nil (.a .n)))))))))
 intro k al a5
 refine dW (by rw [bS.l0]) (sr (vq (dG O O O) O (oT (ap ?_))))
 refine bu O (fun fs => ?_) (fun ft => ?_)
 refine aA (ai (ap (aZ (sr (bk 5 O (fun eD a6 => (bo (fun b1 => (gv 5 O a6 O (i := al.1.toNat) (by omega) ([] : Lb) (fun fz eF go c7 c8 ek hcell25v => ?_))))))))))
 obtain rfl := c8
 refine vq (dM O O O c7 fT iz b1.1 b1.2) O (vq (dR O O isAgg9 (hcell25v 5 O 0 _ O)) O (oA O (nx (oM O (aj (fun a4 c9 => (oE (oC (vs := [str (a2.getD al.1.toNat ([] : Lb))]) (cap := []) (A := []) O call11 (.a (.a (.a (.a (.a (.a (.a (.a (.a .n))))))))) (gc.calls _ _ k (a2.getD al.1.toNat ([] : Lb)) ) c9) O ?_)))))))
 intro gs
 refine oM O (vq (bY O O O) O (vq (bY O O O) O (oA O (oA O (nx (oM O (oT ?_)))))))
 refine bm O (fun gy => ?_) (fun g0 => ?_)
 refine bq 7 O (fun e0 ds => ?_)
 have a9 : bW 1 (V3 tt) ([a4.1] : List Int) [[Iv a4.1]] := ⟨⟨rfl, aM (by rfl), rfl⟩, trivial⟩
 refine dh (fun dz => (bK [[], [], [1], [1, 2], [1, 2, 3], [], [5], [1, 2, 3, 4, 5, 6], rL 8, rL 9, rL 10] 116 O mixed (by decide) (dl 0 [4] O O O (oL O bb 4 O) (dl 1 [4] O O O (oL O bb 4 O) (dq 2 O O O (bi O O) (dq 3 O O O (oF O av O bp O) (dl 4 [] O O O (oL O bO 1 O) (dqo 5 [9] O O O (am O O) (de 6 [] O O O O (eW (V := (V3 tt)) (xs := ([a4.1] : List Int)) [[Iv a4.1]] O O aO lF O (by kernel_rfl) O a9 O O) (fun ee => (ac (px [] O O O O (oL O bO 2 O)) (ac (px [4] O O O O (oL O bb 5 O)) (ac (px [4] O O O O (oL O bb 5 O)) zA)))) (fun ee => (de 7 [] O O O O (eV 8 O O O aO lF O ds (hQ.row a9 0 O) dz) (fun bs => (ac (px [4] O O O O (oL O bb 5 O)) zA)) (fun bs => (dq 8 O O O (bi O O) (dq 9 O O O (oF O av O bp O) (de 10 [] O O O O (aI 2 O O O bp O O (aM (by rfl)) O O) (fun _ => zA) (fun _ => (.fin [(4, Pt o), (5, Pt p), (6, Pt q), (27, .slice a0.1 a2.length a0.2), (28, Iv (a2.length : Int)), (29, Iv al.1)] O ⟨O, O, O, O, O, O, trivial⟩ (bz (ai (aG (vq (cn O O O) O (oM O (aw ?_)))))))))))))))))))))))
 exact bT (s := (IntKind.i64.wrap (al.1 + 1), al.2 ++ ([a4.1] : List Int))) bs ⟨O, O, O, O, O, O, trivial⟩ (.b (.b (.b (.b (.b (.sel' 1 O (ah.mk a6) (.b (.b (.b .n)))))))))
 refine aA (bz (ai (aG (vq (cn O O O) O (oM O (aw ?_))))))
 exact bT (s := (IntKind.i64.wrap (al.1 + 1), al.2)) a5 ⟨O, O, O, O, O, O, trivial⟩ (.a (.a (.a (.a (.a (.sel' 0 O (ah.mk a6) (.a (.a (.a .n)))))))))
 refine dt (cK (cU (cN ?_)))
 exact aF (s := al.2) a5 ⟨O, O, O, trivial⟩ (.a (.a (.a (.a (.a (.b (.b (.b .n))))))))
 intro ag u
 refine ap (sr (vq (oL O bb 4 O) O (oN O (vq (oF O av O bp O) O (vq (oL O bO 1 O) O (vq (bL O O O aO) O (vq (cr O O O) O (oT ?_))))))))
 refine bu O (fun g1 => ?_) (fun g2 => ?_)
 refine sr (vq (oL O bb 4 O) O (bk 6 O (fun e1 d1 => (aj (fun g3 d2 => (oE (oC (vs := [Pt t, Iv 1]) (cap := []) (A := [W0 b0 m z ab ad, ax (au m aB ar n) ak n x, obj t 91 [Pt b0, Iv x1, .slice u.1 ag.length u.2, Iv 0, Iv 0, Iv 0, Iv 0, Iv 0, Iv 0, .slice none 0 0, .bool false], ah 3 1 (V3 tt) u.1 ag u.2, ah 144 5 (ba tt) none ([] : List aP) 0, tt]) O call42 (.a (.e (.a (.sel' 3 O (ah.mk d1) (.rowV_nil (.tt_in (.a (.a (.a (.a .n)))))))))) (fU.calls _ _ k t b0 m n x z ab ad x1 u.1 u.2 ag (0 : Int) (0 : Int) (0 : Int) (0 : Int) (0 : Int) (0 : Int) none 0 ([] : List aP) tt false (1 : Int) (hgl.lend 3 O)) d2) O ?_))))))
 intro az
 refine nx (vq (oL O bb 8 O) O (bg (aI 8 O O O sizeOf36 O O (aM (by rfl)) O O) O O ?_))
 intro _
 refine bg (aI 7 O O O cM O O (aM (by rfl)) O O) O O ?_
 intro _
 refine bg (aI 6 O O O cT O O (aM (by rfl)) O O) O O ?_
 intro _
 refine oT (ay (aY ?_))
 exact lR (vs := [Pt t, .bool false, Iv 0]) 40 [Pt o, Pt p, Pt q] (sB.quiet o p q) call40 (t, az.2.2.1, az.2.2.2.1, az.2.2.2.2.1, az.2.2.2.2.2.1, az.2.2.2.2.2.2, az.1, az.2.1) O ⟨⟨o, O, gz bb (.obj 8 O O)⟩, ⟨p, O, gz dY (.obj 7 O O)⟩, ⟨q, O, gz eX (.obj 6 O O)⟩, trivial⟩ O (.when_yes O (.c (.c (.c (.c (.a (.a (.d .n))))))))
 refine aA (ai ?_)
 refine bP (S := Unit) Unit (fun s y => [(4, Pt o), (5, Pt p), (6, Pt q)]) (fun s y => [W0 b0 m z ab ad, obj t 91 [Pt b0, Iv x1, .slice u.1 ag.length u.2, Iv 0, Iv 0, Iv 0, Iv 0, Iv 0, Iv 0, .slice none 0 0, .bool false], obj q 23 [Iv 0], obj p 4 [.bool false], obj o 36 [Pt t], ax (au m aB ar n) ak n x, ah 3 1 (V3 tt) u.1 ag u.2, F]) ?_ ?_
 refine sr (vq (oL O bb 4 O) O (oN O (vq (oF O av O bp O) O (vq (oL O bO 1 O) O (vq (bL O O O aO) O (oM O (oT (aZ ?_))))))))
 refine da (S := Int) Unit (fun k s => bS.l1 ag k s) (fun s y => [(4, Pt o), (5, Pt p), (6, Pt q), (62, .slice u.1 ag.length u.2), (63, Iv (ag.length : Int)), (64, Iv s)]) (fun s y => [W0 b0 m z ab ad, obj t 91 [Pt b0, Iv x1, .slice u.1 ag.length u.2, Iv 0, Iv 0, Iv 0, Iv 0, Iv 0, Iv 0, .slice none 0 0, .bool false], obj q 23 [Iv 0], obj p 4 [.bool false], obj o 36 [Pt t], ah 3 1 (V3 tt) u.1 ag u.2, ax (au m aB ar n) ak n x, F]) (fun _ => by rw [bS.l1]) ?_ k 0 () ⟨O, O, O, O, O, O, trivial⟩ (.a (.a (.a (.a (.a (.b (.a (.a .n))))))))
 intro k bt g4
 refine dW (by rw [bS.l1]) (sr (vq (dG O O O) O (oT (ap ?_))))
 refine bu O (fun g5 => ?_) (fun g6 => ?_)
 refine aA (ai (ap (aZ (sr (oM O (bk 5 O (fun e2 a3 => (bo (fun b2 => (gv 5 O a3 O (i := bt.toNat) (by omega) (0 : Int) (fun g7 e3 g8 d3 d4 el hcell62v => ?_)))))))))))
 obtain rfl := d4
 refine vq (dM O O O d3 aO aa b2.1 b2.2) O (vq (dR O O ae (hcell62v 5 O 0 _ O)) O (oA O (oA O (nx (oM O (vq (oL O bb 4 O) O (oN O (vq (oF O av O bp O) O (vq (oL O bO 1 O) O (bo (fun b3 => (gv 5 O a3 O (i := (0 : Int).toNat) (by omega) (0 : Int) (fun g9 e4 ha d5 d6 em hcell72v => ?_)))))))))))))
 obtain rfl := d6
 refine vq (dM O O O d5 aO aa b3.1 b3.2) O (vq (dR O O ae (hcell72v 5 O 0 _ O)) O (oM O (vq (cn O O O) O (vq (ej O O O) O (oT ?_)))))
 refine eN O (fun hb => ?_) (fun hc => ?_)
 refine aA (bz (ai (aG (vq (cn O O O) O (oM O (aw ?_))))))
 exact bT (s := IntKind.i64.wrap (bt + 1)) () ⟨O, O, O, O, O, O, trivial⟩ (.a (.a (.a (.a (.a (.sel' 0 O (ah.mk a3) (.a (.a .n))))))))
 refine aG (aj (fun he d7 => (oE (oC (vs := [Iv 12]) (cap := []) (A := []) O dN (.a (.a (.a (.a (.a (.a (.a (.a .n)))))))) (cm.calls _ _ (12 : Int) ) d7) O ?_)))
 intro hf
 refine aw (bz (ai (aG (vq (cn O O O) O (oM O (aw ?_))))))
 exact bT (s := IntKind.i64.wrap (bt + 1)) () ⟨O, O, O, O, O, O, trivial⟩ (.a (.a (.a (.a (.a (.sel' 0 O (ah.mk a3) (.a (.a .n))))))))
 refine dt (cK (cU (cN ?_)))
 exact aF (s := ()) () ⟨O, O, O, trivial⟩ (.a (.a (.a (.a (.a (.b (.a (.a .n))))))))
 intro hg hh
 refine bP (S := (List (Lb × (Lb × Int))) × Lb × Int × Bool × Int × List Int × Int × Int × Int × Int × Int × Int × (List aP) × Bool × Bool) (Nat × Kps × Option Addr × Nat × HA × Option Addr × Nat) (fun s y => [(4, Pt o), (5, Pt p), (6, Pt q)]) (fun s y => [W11 b0 y.1 s.2, W14 t b0 s.2.2.2.2 y.2.2.1 y.2.2.2.1 y.2.2.2.2.2.1 y.2.2.2.2.2.2, obj q 23 [Iv 0], obj p 4 [.bool s.2.2.2.2.2.2.2.2.2.2.2.2.2.2], obj o 36 [Pt t], ax (au y.1 aB ar y.2.1) ak y.2.1 s.1, ah 3 1 (V3 tt) y.2.2.1 s.2.2.2.2.2.1 y.2.2.2.1, ah 144 5 (ba y.2.2.2.2.1) y.2.2.2.2.2.1 s.2.2.2.2.2.2.2.2.2.2.2.2.1 y.2.2.2.2.2.2, y.2.2.2.2.1, F]) ?_ ?_
 refine sr (vq (oL O bb 4 O) O (oN O (vq (oF O av O bp O) O (vq (oL O bO 1 O) O (bk 6 O (fun e5 b4 => (aj (fun a1 d8 => (bw 6 O (fun d9 ea eb e6 => (oE (oC (vs := [.slice u.1 ag.length u.2]) (cap := []) (A := []) O call44 (.a (.a (.a (.a (.a (.a (.a (.a .n)))))))) (fS.calls _ _ u.1 u.2 ag ((Rd.asV b4 d9).up (Up.lend 6 O) (fun _ _ h => h)) ea eb) d8) O ?_)))))))))))
 intro a7
 refine vq (bL O O O aO) O (oM O (oT (aZ ?_)))
 refine da (S := Int × (List (Lb × (Lb × Int))) × Lb × Int × Bool × Int × List Int × Int × Int × Int × Int × Int × Int × (List aP) × Bool × Bool) (Nat × Kps × Option Addr × Nat × HA × Option Addr × Nat) (fun k s => bS.l2 a1 k s.1 s.2.1 s.2.2.1 s.2.2.2.1 s.2.2.2.2.1 s.2.2.2.2.2.1 s.2.2.2.2.2.2.1 s.2.2.2.2.2.2.2.1 s.2.2.2.2.2.2.2.2.1 s.2.2.2.2.2.2.2.2.2.1 s.2.2.2.2.2.2.2.2.2.2.1 s.2.2.2.2.2.2.2.2.2.2.2.1 s.2.2.2.2.2.2.2.2.2.2.2.2.1 s.2.2.2.2.2.2.2.2.2.2.2.2.2.1 s.2.2.2.2.2.2.2.2.2.2.2.2.2.2.1 s.2.2.2.2.2.2.2.2.2.2.2.2.2.2.2) (fun s y => [(4, Pt o), (5, Pt p), (6, Pt q), (85, .slice a7.1 a1.length a7.2), (86, Iv (a1.length : Int)), (87, Iv s.1)]) (fun s y => [W11 b0 y.1 s.2.2, W14 t b0 s.2.2.2.2.2 y.2.2.1 y.2.2.2.1 y.2.2.2.2.2.1 y.2.2.2.2.2.2, obj q 23 [Iv 0], obj p 4 [.bool s.2.2.2.2.2.2.2.2.2.2.2.2.2.2.2], obj o 36 [Pt t], ah 3 1 (V3 tt) a7.1 a1 a7.2, ax (au y.1 aB ar y.2.1) ak y.2.1 s.2.1, ah 3 1 (V3 tt) y.2.2.1 s.2.2.2.2.2.2.1 y.2.2.2.1, ah 144 5 (ba y.2.2.2.2.1) y.2.2.2.2.2.1 s.2.2.2.2.2.2.2.2.2.2.2.2.2.1 y.2.2.2.2.2.2, y.2.2.2.2.1, F]) (fun _ => by rw [bS.l2]) ?_ k (0, x, z, ab, ad, x1, ag, 0, 0, 0, 0, 0, 0, ([] : List aP), false, false) (m, n, u.1, u.2, tt, none, 0) ⟨O, O, O, O, O, O, trivial⟩ (.b (.b (.b (.b (.b (.a (.a (.sel' 0 O (ah.mk b4) (.rowV_nil (.tt_in (.a .n)))))))))))
 intro k g j
 refine dW (by rw [bS.l2]) (sr (vq (dG O O O) O (oT (ap ?_))))
 refine bu O (fun e7 => ?_) (fun e8 => ?_)
 refine aA (ai (ap (aZ (sr (bk 5 O (fun en bc => (bo (fun bd => (gv 5 O bc O (i := g.1.toNat) (by omega) (0 : Int) (fun e9 er fl b8 b9 ef hcell116v => ?_))))))))))
 obtain rfl := b9
 refine vq (dM O O O b8 aO aa bd.1 bd.2) O (vq (dR O O ae (hcell116v 5 O 0 _ O)) O (oA O (ny (vq (oL O bb 4 O) O (oM O (bk 7 O (fun es cd => (bk 8 O (fun et ch => (aj (fun l cs => (oE (oC (vs := [Pt t, Iv (a1.getD g.1.toNat (0 : Int))]) (cap := []) (A := [W11 b0 j.1 g.2.2, ax (au j.1 aB ar j.2.1) ak j.2.1 g.2.1, W14 t b0 g.q4.2 j.2.2.1 j.2.2.2.1 j.q4.2.1 j.q4.2.2, ah 3 1 (V3 tt) j.2.2.1 g.q4.2.2.1 j.2.2.2.1, ah 144 5 (ba j.q4.1) j.q4.2.1 g.q8.q4.2.1 j.q4.2.2, j.q4.1]) O call45 (.a (.f (.a (.sel' 4 O (ah.mk cd) (.sel' 4 O (ah.mk ch) (.e (.a (.a (.a (.a (.a .n))))))))))) (di.calls _ _ k t b0 j.1 j.2.1 g.2.1 g.2.2.1 g.2.2.2.1 g.2.2.2.2.1 g.2.2.2.2.2.1 j.2.2.1 j.2.2.2.1 g.2.2.2.2.2.2.1 g.2.2.2.2.2.2.2.1 g.2.2.2.2.2.2.2.2.1 g.2.2.2.2.2.2.2.2.2.1 g.2.2.2.2.2.2.2.2.2.2.1 g.2.2.2.2.2.2.2.2.2.2.2.1 g.2.2.2.2.2.2.2.2.2.2.2.2.1 j.2.2.2.2.2.1 j.2.2.2.2.2.2 g.2.2.2.2.2.2.2.2.2.2.2.2.2.1 j.2.2.2.2.1 g.2.2.2.2.2.2.2.2.2.2.2.2.2.2.1 (a1.getD g.1.toNat (0 : Int)) (hgl.lend 4 O)) cs) O ?_))))))))))))
 intro an
 refine bg (aI 7 O O O cM O O (aM (by rfl)) O O) O O ?_
 intro _
 refine aw (bz (ai (aG (vq (cn O O O) O (oM O (aw ?_))))))
 exact bT (s := (IntKind.i64.wrap (g.1 + 1), l.2.1, l.2.2.1, l.2.2.2.1, l.2.2.2.2.1, l.2.2.2.2.2.1, l.2.2.2.2.2.2.1, l.2.2.2.2.2.2.2.1, l.2.2.2.2.2.2.2.2.1, l.2.2.2.2.2.2.2.2.2.1, l.2.2.2.2.2.2.2.2.2.2.1, l.2.2.2.2.2.2.2.2.2.2.2.1, l.2.2.2.2.2.2.2.2.2.2.2.2.1, l.2.2.2.2.2.2.2.2.2.2.2.2.2.1, l.2.2.2.2.2.2.2.2.2.2.2.2.2.2, l.1)) (an.1, an.2.1, an.2.2.1, an.2.2.2.1, an.2.2.2.2.2.2, an.2.2.2.2.1, an.2.2.2.2.2.1) ⟨O, O, O, O, O, O, trivial⟩ (.a (.b (.e (.e (.e (.sel' 4 O (ah.mk bc) (.a (.a (.a (.a (.a .n)))))))))))
 refine dt (cK (cU (cN ?_)))
 exact aF (s := g.2) j ⟨O, O, O, trivial⟩ (.a (.a (.a (.a (.a (.b (.b (.b (.b (.b .n))))))))))
 intro w af
 refine ap (bq 6 O (fun ex be => (bq 7 O (fun eA c0 => (dh (fun br => (jJ 6 O be O (i := (IntKind.i64.wrap ((w.2.2.2.2.2.1.length : Int) - 1)).toNat) (by omega) (0 : Int) (fun fn eB fp c1 c2 eg hcell137v => ?_))))))))
 obtain rfl := c2
 refine bC (fun b5 c3 => (bC (fun b6 c4 => (bC (fun fr c5 => (bK [[], [0], [0, 1], [0, 1, 2], [], [4], [4, 5], [4, 5, 6], [], [8], [8, 9], [8, 9, 10], [8, 9, 10, 11], [8, 9, 10, 11, 12], [4, 5, 6, 7, 8, 9, 10, 11, 12, 13], [4, 5, 6, 7, 8, 9, 10, 11, 12, 13, 14], [4, 5, 6, 7, 8, 9, 10, 11, 12, 13, 14, 15], rL 17, rL 18] 116 O mixed (by decide) (dl 0 [4] O O O (oL O bb 4 O) (dq 1 O O O (bi O O) (dq 2 O O O (oF O av O eR O) (dl 3 [] O O O (oL O co 1 O) (dl 4 [4] O O O (oL O bb 4 O) (dq 5 O O O (bi O O) (dq 6 O O O (oF O av O bp O) (dl 7 [] O O O (oL O bO 1 O) (dl 8 [4] O O O (oL O bb 4 O) (dq 9 O O O (bi O O) (dq 10 O O O (oF O av O bp O) (dl 11 [] O O O (oL O bO 1 O) (dq 12 O O O (bL O O O aO) (dq 13 O O O (eL O O O) (dq 14 O O O (dM O O O c1 aO aa br.1 br.2) (dl 15 [] O O O (dR O O ae (hcell137v 6 O 0 _ O)) (de 16 [] O O O O (oC (vs := [Iv (w.2.2.2.2.2.1.getD (IntKind.i64.wrap ((w.2.2.2.2.2.1.length : Int) - 1)).toNat (0 : Int))]) (cap := []) (A := []) O fE (.a (.a (.a (.a (.a (.a (.a (.a (.a (.a .n)))))))))) (cA.calls _ _ k (w.2.2.2.2.2.1.getD (IntKind.i64.wrap ((w.2.2.2.2.2.1.length : Int) - 1)).toNat (0 : Int)) (hgl.lend 9 O)) c3) (fun ec => (ac (px [] O O O O (oL O co 1 O)) (ac (px [4] O O O O (oL O bb 4 O)) zA))) (fun ec => (de 17 [] O O O O (oC (vs := [Pt b0, str b5]) (cap := []) (A := [W11 b0 af.1 w.2, ax (au af.1 aB ar af.2.1) ak af.2.1 w.1]) O call46 (.a (.e (.a (.a (.a (.a (.a (.a (.a (.a .n)))))))))) (cX.calls _ _ b0 af.1 af.2.1 w.1 w.2.1 w.2.2.1 w.2.2.2.1 b5 ) c4) (fun a8 => zA) (fun a8 => (de 18 [] O O O O (oC (vs := [Iv b6.1]) (cap := []) (A := []) O dN (.a (.a (.a (.a (.a (.a (.a (.a (.a (.a .n)))))))))) (cm.calls _ _ b6.1 ) c5) (fun ed => zA) (fun ed => (.fin [(4, Pt o), (5, Pt p), (6, Pt q)] O ⟨O, O, O, trivial⟩ (ai (ap (bK [[], [], [0], [0, 1, 2], rL 4] 116 O mixed (by decide) (dl 0 [4] O O O (oL O bb 5 O) (dl 1 [5] O O O (oL O dY 4 O) (de 2 [4] O O O O (aI 5 O O O sizeOf36 O O (aM (by rfl)) O O) (fun _ => (ac (px [5] O O O O (oL O dY 4 O)) zA)) (fun _ => (de 3 [5] O O O O (aI 4 O O O cM O O (aM (by rfl)) O O) (fun _ => zA) (fun _ => (de 4 [6] O O O O (aI 3 O O O cT O O (aM (by rfl)) O O) (fun _ => zA) (fun _ => (.fin [(4, Pt o), (5, Pt p), (6, Pt q)] O ⟨O, O, O, trivial⟩ (ai (ay ?_)))))))))))))))))))))))))))))))))))))))))))
 exact lR (vs := [Pt t, .bool w.2.2.2.2.2.2.2.2.2.2.2.2.2.2, Iv 0]) 40 [Pt o, Pt p, Pt q] (sB.quiet o p q) call40 (t, af.2.2.1, af.2.2.2.1, af.2.2.2.2.2.1, af.2.2.2.2.2.2, af.2.2.2.2.1, a8) O ⟨⟨o, O, gz bb (.obj 5 O O)⟩, ⟨p, O, gz dY (.obj 4 O O)⟩, ⟨q, O, gz eX (.obj 3 O O)⟩, trivial⟩ O (.when_yes O (.c (.sel' 5 O (ah.mk be) (.sel' 5 O (ah.mk c0) (.f (.a (.a (.d .n))))))))
theorem bS.callsT (W : World) (F : HA) (k b0 a : Nat) (b : Kps) (c : List (Lb × (Lb × Int))) (d : Lb) (e : Int) (g : Bool) (x1 : Int) (hgl : Glb Tryz.prog F) :
    Fn Tryz.prog W 15 [Pt b0, Iv x1] [W0 b0 a d e g, ax (au a aB ar b) ak b c] F ((bS.f k c d e g x1).filter fun (r : Bool × Int × List Int × Int × Int × Int × Int × Int × Int × (List aP) × Bool × Bool × Int × (List (Lb × (Lb × Int))) × Lb × Int × Bool) => r.1 == true) (fun r (y : Nat × Option Addr × Nat × Option Addr × Nat × HA × Nat × Kps) => .tuple #[Pt y.1, .bool r.q8.2.2.2.1, Iv r.q8.q4.1]) (fun r y => [W14 y.1 b0 r.2 y.2.1 y.2.2.1 y.2.2.2.1 y.q4.1, ah 3 1 (V3 tt) y.2.1 r.2.2.1 y.2.2.1, ah 144 5 (ba y.q4.2.1) y.2.2.2.1 r.q8.2.1 y.q4.1, y.q4.2.1, W1 b0 y.q4.2.2.1 r.q8.q4.2.2, ax (au y.q4.2.2.1 aB ar y.q4.2.2.2) ak y.q4.2.2.2 r.q8.q4.2.1]) :=
  Fn.when (bS.calls W F k b0 a b c d e g x1 hgl) _ true (fun r y h => by simp only [h]; rfl) (fun r y h => (Ent.when_yo h _))
theorem bS.callsN (W : World) (F : HA) (k b0 a : Nat) (b : Kps) (c : List (Lb × (Lb × Int))) (d : Lb) (e : Int) (g : Bool) (x1 : Int) (hgl : Glb Tryz.prog F) :
    Fn Tryz.prog W 15 [Pt b0, Iv x1] [W0 b0 a d e g, ax (au a aB ar b) ak b c] F ((bS.f k c d e g x1).filter fun (r : Bool × Int × List Int × Int × Int × Int × Int × Int × Int × (List aP) × Bool × Bool × Int × (List (Lb × (Lb × Int))) × Lb × Int × Bool) => r.1 == false) (fun r (y : Nat × Option Addr × Nat × Option Addr × Nat × HA × Nat × Kps) => .tuple #[.pointer none, .bool r.q8.2.2.2.1, Iv r.q8.q4.1]) (fun r y => [W1 b0 y.q4.2.2.1 r.q8.q4.2.2, ax (au y.q4.2.2.1 aB ar y.q4.2.2.2) ak y.q4.2.2.2 r.q8.q4.2.1]) :=
  Fn.when (bS.calls W F k b0 a b c d e g x1 hgl) _ false (fun r y h => by simp only [h]; rfl) (fun r y h => (Ent.when_no_ h _))

def cu.f (x0 : Int) : Option (Int) := some x0
theorem cu.calls (W : World) (F : HA) (x0 : Int)  :
    Fn Tryz.prog W 13 [Iv x0] [] F (cu.f x0) (fun r (y : Unit) => Iv r) (fun r y => []) := by
 unfold cu.f
 refine aX 4 Tryz.func13 O Tryz.ntmps13 O (sr (oA O (nx (oM O (oA O (oT (ay ?_)))))))
 exact aJ () O O O (.a .n)

def dD.f (x0 : List UInt8) : Option (List UInt8) := if (([] : List UInt8).length + x0.length) * 1 ≤ 140737488355328 then (some (([] : List UInt8) ++ x0)) else none
theorem dD.calls (W : World) (F : HA) (a0 : Option Addr) (c0 : Nat) (x0 : Lb) (h0 : Rd F a0 (aL x0)) (d : x0.length ≤ c0) (e : c0 ≤ maxLen) :
    Fn Tryz.prog W 82 [.slice a0 x0.length c0] [] F (dD.f x0) (fun r (y : Option Addr × Nat) => .slice y.1 r.length y.2) (fun r y => [Row 5 1 y.1 r.length y.2 (aL r)]) := by
 unfold dD.f
 refine aX 8 Tryz.func82 O Tryz.ntmps82 O ?_
 rcases a0 with _ | p0
 have hx : x0 = [] := BH h0
 subst hx
 refine dW (o' := some ([] : Lb)) (by simp) (sr (oA O (oT (ap (sr (oM O (vq (rt O O aH) O (oT (ix O (sr (oA O (oT (ay (aY ?_))))))))))))))
 exact aJ (none, 0) O O O (.row_nil (.a .n))
 refine sr (oA O (oT (ap (sr (oM O (vq (ru O O aH) O (oT (jE O (aA (ai (sr (oE (BI O aH ks) O ?_))))))))))))
 intro g
 refine oM O (bo (fun c => ?_))
 refine oE (iG 0 O O O aH ks O (h0.rds 0 O) c) O ?_
 intro b
 refine oA O (oT (ay ?_))
 exact aJ b O O O (.a (.a .n))

def ck.l1 (b : List (aV)) : Nat → Int → Int → Int → Option ((Unit) ⊕ (Int))
  | 0, _, _, _ => none
  | k + 1, c, d, a => if a < (b.length : Int) then (if 0 ≤ a ∧ a < (b.length : Int) then (if IntKind.i64.wrap (d + 1) < (b.getD a.toNat bh).2.1 then (some (.inr 13)) else (ck.l1 b k (min c (IntKind.i64.wrap (((b.getD a.toNat bh).2.1) - 1))) ((b.getD a.toNat bh).2.1) (IntKind.i64.wrap (a + 1)))) else none) else (some (.inl ()))
def ck.l0 (b : List (aV)) : Nat → Int → Option ((Unit) ⊕ (Int))
  | 0, _ => none
  | k + 1, a => if a < (b.length : Int) then (if 0 ≤ a ∧ a < (b.length : Int) then ((ce.f ((b.getD a.toNat bh).1) ((b.getD a.toNat bh).2.1) ((b.getD a.toNat bh).2.2.1) ((b.getD a.toNat bh).2.2.2)).bind fun c => (if c = (0 : Int) then (ck.l0 b k (IntKind.i64.wrap (a + 1))) else (some (.inr c)))) else none) else (some (.inl ()))
def ck.f (k : Nat) (e : List ((List UInt8) × (List UInt8 × Int))) (g : List UInt8) (h : Int) (i : Bool) (j : Int) (l : List Int) (m n o p b q : Int) (r : List (aP)) (d v : Bool) (w x y a c : Int) (s : List (aV)) : Option (Int) := orR (if v = true then ((fh.f w x y).bind fun u => (if u = (0 : Int) then (some (.inl ())) else (some (.inr u)))) else (some (.inl ()))) fun ag => (if (((((decide (a < (0 : Int))) || (decide ((4611686018427387904 : Int) < a))) || (decide (c < (0 : Int)))) || (decide ((4611686018427387904 : Int) < c))) || (!((decide (a = (0 : Int))) == (decide (c = (0 : Int)))))) = true then (some 1) else (orR (ck.l0 s k 0) fun ad => ((dr.f e g h i j l m n o p b q r d).bind fun z => (((if ((!decide (a = (0 : Int))) == true) = true then (fa.f e g h i j l m n o p b q r d a c) else some false).bind fun ab => (if ((!decide (a = (0 : Int))) && (!ab)) = true then (some (a, a)) else (some (b, z.1)))).bind fun t => (orR (ck.l1 s k t.1 t.2 0) fun af => (some 0))))))
theorem ck.calls (W : World) (F : HA) (k a4 a5 m : Nat) (n : Kps) (z : List (Lb × (Lb × Int))) (ab : Lb) (ad : Int) (af : Bool) (ag : Int) (al : Option Addr) (u : Nat) (p : List Int) (an az a0 a1 q a2 : Int) (a3 : Option Addr) (w : Nat) (t : List aP) (o br : Bool) (a8 a9 bc e g : Int) (bd : Option Addr) (a6 : Nat) (l : List aV) (b3 : RdV F 1 (V3 tt) al p) (bt : p.length ≤ u) (b0 : u ≤ maxLen) (b4 : RdV F 5 (ba F) a3 t) (b1 : t.length ≤ w) (b2 : w ≤ maxLen) (b9 : RdV F 4 (V35 F) bd l) (ek : l.length ≤ a6) (el : a6 ≤ maxLen) :
    Fn Tryz.prog W 48 [Pt a4, .agg #[.bool br, Iv a8, Iv a9, Iv bc, Iv e, Iv g, .slice bd l.length a6]] [W0 a5 m ab ad af, ax (au m aB ar n) ak n z, W7 a4 a5 ag p an az a0 a1 q a2 t o al u a3 w] F (ck.f k z ab ad af ag p an az a0 a1 q a2 t o br a8 a9 bc e g l) (fun r (y : Unit) => Iv r) (fun r y => [W0 a5 m ab ad af, ax (au m aB ar n) ak n z, W7 a4 a5 ag p an az a0 a1 q a2 t o al u a3 w]) := by
 unfold ck.f
 refine aX 114 Tryz.func48 O Tryz.ntmps48 O (sr (oE (cH O O O) O ?_))
 intro x
 refine oA O (oT ?_)
 refine iA (S := Unit) Unit (fun s y => [(0, Pt a4), (3, Pt x)]) (fun s y => [W13 x br a8 a9 bc e g l bd a6, W0 a5 m ab ad af, W7 a4 a5 ag p an az a0 a1 q a2 t o al u a3 w, ax (au m aB ar n) ak n z, F]) ?_ ?_
 refine sr (vq (oF O aS O cM O) O (vq (oL O dY 0 O) O (oT ?_)))
 refine bm O (fun hf => ?_) (fun hg => ?_)
 refine sr (vq (cW (v := .agg #[]) O O (fun _ => by kernel_rfl)) O (vq (oF O aS O aU O) O (vq (cw (vs := [Iv a8, Iv a9, Iv bc]) O O dm aU O (dc 0 O (cL O))) O (aj (fun hh ef => (oE (oC (vs := [.agg #[], .agg #[Iv a8, Iv a9, Iv bc]]) (cap := []) (A := []) O call78 (.a (.a (.a (.a (.a .n))))) (fh.calls _ _ a8 a9 bc ) ef) O ?_))))))
 intro hi
 refine oA O (nx (oM O (vq (ej O O O) O (oT ?_))))
 refine eN O (fun hk => ?_) (fun e3 => ?_)
 refine aA ?_
 exact gx (s := ()) () ⟨O, O, trivial⟩ (.a (.a (.b (.a (.a .n)))))
 refine sr (oM O (oA O (oT (ay (gP ?_)))))
 exact aJ () O O O (.b (.b (.b (.b .n))))
 refine aA ?_
 exact gx (s := ()) () ⟨O, O, trivial⟩ (.a (.a (.b (.a (.a .n)))))
 intro hl hm
 refine ap (sr (vq (oF O aS O aa O) O (vq (oL O ae 0 O) O (vq (dG O O O) O (oM O (ao (b := decide (e < (0 : Int))) (fun em => RQ.sub (E' := [(3, Pt x)]) ⟨O, trivial⟩ (oF O aS O aa O)) O O O O O (ao (b := decide (e < (0 : Int))) (fun c2 => RQ.sub (E' := [(27, .pointer (some ⟨x, 4, none⟩))]) ⟨aN O c2, trivial⟩ (oL O ae 0 O)) O O O O O (ao (b := decide (e < (0 : Int))) (fun c3 => RQ.sub (E' := [(28, Iv e)]) ⟨aN O c3, trivial⟩ (dO O O O)) O O O O O (vq (ik O O O) O (oM O (ao (b := (decide (e < (0 : Int))) || (decide ((4611686018427387904 : Int) < e))) (fun en => RQ.sub (E' := [(3, Pt x)]) ⟨O, trivial⟩ (oF O aS O aa O)) O O O O O (ao (b := (decide (e < (0 : Int))) || (decide ((4611686018427387904 : Int) < e))) (fun c4 => RQ.sub (E' := [(32, .pointer (some ⟨x, 5, none⟩))]) ⟨aN O c4, trivial⟩ (oL O ae 0 O)) O O O O O (ao (b := (decide (e < (0 : Int))) || (decide ((4611686018427387904 : Int) < e))) (fun c5 => RQ.sub (E' := [(33, Iv g)]) ⟨aN O c5, trivial⟩ (dG O O O)) O O O O O (vq (ik O O O) O (oM O (ao (b := ((decide (e < (0 : Int))) || (decide ((4611686018427387904 : Int) < e))) || (decide (g < (0 : Int)))) (fun er => RQ.sub (E' := [(3, Pt x)]) ⟨O, trivial⟩ (oF O aS O aa O)) O O O O O (ao (b := ((decide (e < (0 : Int))) || (decide ((4611686018427387904 : Int) < e))) || (decide (g < (0 : Int)))) (fun c6 => RQ.sub (E' := [(37, .pointer (some ⟨x, 5, none⟩))]) ⟨aN O c6, trivial⟩ (oL O ae 0 O)) O O O O O (ao (b := ((decide (e < (0 : Int))) || (decide ((4611686018427387904 : Int) < e))) || (decide (g < (0 : Int)))) (fun c7 => RQ.sub (E' := [(38, Iv g)]) ⟨aN O c7, trivial⟩ (dO O O O)) O O O O O (vq (ik O O O) O (oM O (ao (b := (((decide (e < (0 : Int))) || (decide ((4611686018427387904 : Int) < e))) || (decide (g < (0 : Int)))) || (decide ((4611686018427387904 : Int) < g))) (fun es => RQ.sub (E' := [(3, Pt x)]) ⟨O, trivial⟩ (oF O aS O aa O)) O O O O O (ao (b := (((decide (e < (0 : Int))) || (decide ((4611686018427387904 : Int) < e))) || (decide (g < (0 : Int)))) || (decide ((4611686018427387904 : Int) < g))) (fun c8 => RQ.sub (E' := [(42, .pointer (some ⟨x, 4, none⟩))]) ⟨aN O c8, trivial⟩ (oL O ae 0 O)) O O O O O (ao (b := (((decide (e < (0 : Int))) || (decide ((4611686018427387904 : Int) < e))) || (decide (g < (0 : Int)))) || (decide ((4611686018427387904 : Int) < g))) (fun c9 => RQ.sub (E' := [(43, Iv e)]) ⟨aN O c9, trivial⟩ (cr O O O)) O O O O O (ao (b := (((decide (e < (0 : Int))) || (decide ((4611686018427387904 : Int) < e))) || (decide (g < (0 : Int)))) || (decide ((4611686018427387904 : Int) < g))) (fun et => RQ.sub (E' := [(3, Pt x)]) ⟨O, trivial⟩ (oF O aS O aa O)) O O O O O (ao (b := (((decide (e < (0 : Int))) || (decide ((4611686018427387904 : Int) < e))) || (decide (g < (0 : Int)))) || (decide ((4611686018427387904 : Int) < g))) (fun ds => RQ.sub (E' := [(45, .pointer (some ⟨x, 5, none⟩))]) ⟨aN O ds, trivial⟩ (oL O ae 0 O)) O O O O O (ao (b := (((decide (e < (0 : Int))) || (decide ((4611686018427387904 : Int) < e))) || (decide (g < (0 : Int)))) || (decide ((4611686018427387904 : Int) < g))) (fun dz => RQ.sub (E' := [(46, Iv g)]) ⟨aN O dz, trivial⟩ (cr O O O)) O O O O O (ao (b := (((decide (e < (0 : Int))) || (decide ((4611686018427387904 : Int) < e))) || (decide (g < (0 : Int)))) || (decide ((4611686018427387904 : Int) < g))) (fun b5 => RQ.sub (E' := [(44, .bool (decide (e = (0 : Int)))), (47, .bool (decide (g = (0 : Int))))]) ⟨aN O b5, aN O b5, trivial⟩ (Bc O O O underlying4)) O O O O O (vq (ik O O O) O (oT ?_)))))))))))))))))))))))))))))
 refine bm O (fun e4 => ?_) (fun e5 => ?_)
 refine sr (oA O (oT (ay (aY ?_))))
 exact aJ () O O O (.b (.c (.b (.b .n))))
 refine aA (ai ?_)
 refine iA (S := Unit) Unit (fun s y => [(0, Pt a4), (3, Pt x)]) (fun s y => [W13 x br a8 a9 bc e g l bd a6, W0 a5 m ab ad af, W7 a4 a5 ag p an az a0 a1 q a2 t o al u a3 w, ax (au m aB ar n) ak n z, F]) ?_ ?_
 refine sr (vq (oF O aS O ew O) O (vq (oL O fC 0 O) O (vq (bL O O O cq) O (oM O (oT (aZ ?_))))))
 refine da (S := Int) Unit (fun k s => ck.l0 l k s) (fun s y => [(0, Pt a4), (3, Pt x), (51, .slice bd l.length a6), (52, Iv (l.length : Int)), (53, Iv s)]) (fun s y => [W13 x br a8 a9 bc e g l bd a6, W0 a5 m ab ad af, W7 a4 a5 ag p an az a0 a1 q a2 t o al u a3 w, ax (au m aB ar n) ak n z, F]) (fun _ => by rw [ck.l0]) ?_ k 0 () ⟨O, O, O, O, O, trivial⟩ (.a (.a (.a (.a (.a .n)))))
 intro k a7 e6
 refine dW (by rw [ck.l0]) (sr (vq (dG O O O) O (oT (ap ?_))))
 refine bu O (fun e7 => ?_) (fun e8 => ?_)
 refine aA (ai (ap (aZ (sr (bo (fun b6 => ?_))))))
 obtain ⟨e9, ex, fl, d1, d2, eg, hcell27v⟩ := RdV.pos b9 (Up.refl _) rfl (i := a7.toNat) (by omega) bh
 obtain ⟨cd, ch, rfl, ⟨d3, d4, d5⟩⟩ := d2
 refine vq (dM O O O d1 cq aR b6.1 b6.2) O (vq (cw O O cy aR O (fun j v hj => hcell27v 4 O j v hj)) O (oE (bX O dy O) O ?_))
 intro fn
 refine bg (aI 0 O O O aR O O (aM (by rfl)) O O) O O ?_
 intro _
 refine nx (vq (cW (v := .agg #[]) O O (fun _ => by kernel_rfl)) O (vq (cF 0 O O cy aR O O) O (aj (fun fp d6 => (oE (oC (vs := [.agg #[], .agg #[Iv ((l.getD a7.toNat bh).1), Iv ((l.getD a7.toNat bh).2.1), Iv ((l.getD a7.toNat bh).2.2.1), .slice cd (((l.getD a7.toNat bh).2.2.2).length) ch]]) (cap := []) (A := []) O call79 (.a (.a (.a (.a (.a (.a .n)))))) (ce.calls _ _ ((l.getD a7.toNat bh).1) ((l.getD a7.toNat bh).2.1) ((l.getD a7.toNat bh).2.2.1) cd ch ((l.getD a7.toNat bh).2.2.2) (d3.lend 5 O) d4 d5) d6) O ?_)))))
 intro fr
 refine oA O (nx (oM O (vq (ej O O O) O (oT ?_))))
 refine eN O (fun fs => ?_) (fun ft => ?_)
 refine aA (bz (ai (aG (vq (cn O O O) O (oM O (aw ?_))))))
 exact bT (s := IntKind.i64.wrap (a7 + 1)) () ⟨O, O, O, O, O, trivial⟩ (.b (.b (.b (.b (.b .n)))))
 refine sr (oM O (oA O (oT (ay (bI (aY (ij (bI (gP ?_)))))))))
 exact aJ () O O O (.c (.d (.c (.c .n))))
 refine dt (cK (cU (cN ?_)))
 exact gx (s := ()) () ⟨O, O, trivial⟩ (.a (.a (.a (.a (.a .n)))))
 intro fz go
 refine sr (oM O (oN O (vq (oF O av O fb O) O (vq (oF O aC O aa O) O (vq (oL O ae 2 O) O (oA O (nx (oM O (oN O (vq (oF O av O fb O) O (aj (fun cs d7 => (oE (oC (vs := [.pointer (some ⟨a4, 4, none⟩)]) (cap := []) (A := [W0 a5 m ab ad af, ax (au m aB ar n) ak n z, W7 a4 a5 ag p an az a0 a1 q a2 t o al u a3 w]) O call61 (.b (.c (.b (.a (.a .n))))) (dr.calls _ _ a4 a5 m n z ab ad af ag al u p an az a0 a1 q a2 a3 w t o (b3.up (Up.lend 1 O) (fun _ _ h => h)) bt b0 (b4.up (Up.lend 1 O) (ba.up (Up.lend 1 O))) b1 b2) d7) O ?_)))))))))))))
 intro gs
 refine oM O (vq (bY O O O) O (vq (bY O O O) O (oA O (oA O (oT ?_)))))
 refine bP (S := Int × Int) Unit (fun s y => [(3, Pt x), (9, Iv s.1), (10, Iv s.2)]) (fun s y => [W0 a5 m ab ad af, W7 a4 a5 ag p an az a0 a1 q a2 t o al u a3 w, W13 x br a8 a9 bc e g l bd a6, ax (au m aB ar n) ak n z, F]) ?_ ?_
 refine ap (bC (fun c0 b7 => (bK [[], [0], [0, 1], [0, 1, 2], rL 4, rL 5, rL 6, rL 4, [0, 1, 2, 3, 7], rL 4, [0, 1, 2, 3, 9], rL 11, rL 12, rL 13] 114 O mixed (by decide) (dqo 0 [3] O O O (oF O aS O aa O) (dl 1 [] O O O (oL O ae 3 O) (dq 2 O O O (ej O O O) (dq 3 O O O (am O O) (dqg 4 [0] (!decide (e = (0 : Int))) O O O O O (fun eA => RQ.sub (E' := [(0, Pt a4)]) ⟨O, trivial⟩ (am O O)) (dqg 5 [] (!decide (e = (0 : Int))) O O O O O (fun d8 => RQ.sub (E' := [(80, Pt a4)]) ⟨aN O d8, trivial⟩ (bi O O)) (dqg 6 [] (!decide (e = (0 : Int))) O O O O O (fun d9 => RQ.sub (E' := [(81, Pt a4)]) ⟨aN O d9, trivial⟩ (oF O av O fb O)) (dqg 7 [3] (!decide (e = (0 : Int))) O O O O O (fun eB => RQ.sub (E' := [(3, Pt x)]) ⟨O, trivial⟩ (oF O aS O aa O)) (dlg 8 [] (!decide (e = (0 : Int))) O O O O O (fun ea => RQ.sub (E' := [(83, .pointer (some ⟨x, 4, none⟩))]) ⟨aN O ea, trivial⟩ (oL O ae 3 O)) (dqg 9 [3] (!decide (e = (0 : Int))) O O O O O (fun eD => RQ.sub (E' := [(3, Pt x)]) ⟨O, trivial⟩ (oF O aS O aa O)) (dlg 10 [] (!decide (e = (0 : Int))) O O O O O (fun eb => RQ.sub (E' := [(85, .pointer (some ⟨x, 5, none⟩))]) ⟨aN O eb, trivial⟩ (oL O ae 3 O)) (dlg 11 [] (!decide (e = (0 : Int))) O O O O O (fun bs => RQ.sub (E' := [(82, .pointer (some ⟨a4, 4, none⟩)), (84, Iv e), (86, Iv g)]) ⟨aN O bs, aN O bs, aN O bs, trivial⟩ (RE.rq (oC (vs := [.pointer (some ⟨a4, 4, none⟩), Iv e, Iv g]) (cap := []) (A := [W0 a5 m ab ad af, ax (au m aB ar n) ak n z, W7 a4 a5 ag p an az a0 a1 q a2 t o al u a3 w]) O call80 (.a (.a (.a (.a (.a .n))))) (fa.calls _ _ a4 a5 m n z ab ad af ag al u p an az a0 a1 q a2 a3 w t o e g (b3.up (Up.lend 1 O) (fun _ _ h => h)) bt b0 (b4.up (Up.lend 1 O) (ba.up (Up.lend 1 O))) b1 b2) (by rw [if_pos bs] at b7; exact b7)) (fun _ => O) (fun _ => (.a (.a (.a (.a (.a .n)))))))) (dqg 12 [] (!decide (e = (0 : Int))) O O O O O (fun ec => RQ.sub (E' := [(87, .bool c0)]) ⟨aN O ec, trivial⟩ (iB O O)) (dq 13 O O O (fN O O O) (.fin [(3, Pt x), (9, Iv q), (10, Iv cs.1), (89, .bool ((!decide (e = (0 : Int))) && (!c0)))] O ⟨O, O, O, O, trivial⟩ (ai ?_)))))))))))))))))))
 refine bm O (fun gy => ?_) (fun g0 => ?_)
 refine bK [[], [0], [], [2], [0, 1], rL 5] 114 O mixed (by decide) (dqo 0 [3] O O O (oF O aS O aa O) (dl 1 [] O O O (oL O ae 3 O) (dqo 2 [3] O O O (oF O aS O aa O) (dl 3 [] O O O (oL O ae 3 O) (dq 4 O O O (dx O O) (dq 5 O O O (dx O O) (.fin [(3, Pt x), (9, Iv e), (10, Iv e)] O ⟨O, O, O, trivial⟩ ?_)))))))
 exact aF (s := (e, e)) () ⟨O, O, O, trivial⟩ (.a (.b (.b (.a (.a .n)))))
 refine aA ?_
 exact aF (s := (q, cs.1)) () ⟨O, O, O, trivial⟩ (.a (.b (.b (.a (.a .n)))))
 intro c1 g1
 refine iA (S := Unit) Unit (fun s y => []) (fun s y => [W0 a5 m ab ad af, W7 a4 a5 ag p an az a0 a1 q a2 t o al u a3 w, ax (au m aB ar n) ak n z, F]) ?_ ?_
 refine sr (vq (oF O aS O ew O) O (vq (oL O fC 2 O) O (vq (bL O O O cq) O (oM O (oT (aZ ?_))))))
 refine da (S := Int × Int × Int) Unit (fun k s => ck.l1 l k s.1 s.2.1 s.2.2) (fun s y => [(9, Iv s.1), (10, Iv s.2.1), (95, .slice bd l.length a6), (96, Iv (l.length : Int)), (97, Iv s.2.2)]) (fun s y => [W0 a5 m ab ad af, W7 a4 a5 ag p an az a0 a1 q a2 t o al u a3 w, ax (au m aB ar n) ak n z, F]) (fun _ => by rw [ck.l1]) ?_ k (c1.1, c1.2, 0) () ⟨O, O, O, O, O, trivial⟩ (.a (.a (.b (.b .n))))
 intro k be g2
 refine dW (by rw [ck.l1]) (sr (vq (dG O O O) O (oT (ap ?_))))
 refine bu O (fun g3 => ?_) (fun g4 => ?_)
 refine aA (ai (ap (aZ (sr (bo (fun b8 => ?_))))))
 obtain ⟨g5, eF, g6, ed, ee, ei, hcell74v⟩ := RdV.pos b9 (Up.refl _) rfl (i := be.2.2.toNat) (by omega) bh
 obtain ⟨g7, g8, rfl, ⟨e0, e1, e2⟩⟩ := ee
 refine vq (dM O O O ed cq aR b8.1 b8.2) O (vq (cw O O cy aR O (fun j v hj => hcell74v 3 O j v hj)) O (oE (bX O dy O) O ?_))
 intro g9
 refine bg (aI 0 O O O aR O O (aM (by rfl)) O O) O O ?_
 intro _
 refine oT (ap (sr (vq (oF O bj O aa O) O (vq (oL O ae 0 O) O (oM O (vq (cn O O O) O (vq (dO O O O) O (oT ?_))))))))
 refine bu O (fun ha => ?_) (fun hb => ?_)
 refine sr (oA O (oT (ay (aY (bI (aY (ij (bI (gP ?_)))))))))
 exact aJ () O O O (.b (.c (.b (.b .n))))
 refine aA (ai (bK [[], [], [1], [1, 2], rL 4, [], [5], rL 5, rL 8] 114 O mixed (by decide) (dqo 0 [9] O O O (am O O) (dqo 1 [13] O O O (oF O bj O aa O) (dl 2 [] O O O (oL O ae 0 O) (dq 3 O O O (eL O O O) (dq 4 O O O (lK O O O) (dqo 5 [13] O O O (oF O bj O aa O) (dl 6 [] O O O (oL O ae 0 O) (dq 7 O O O (dx O O) (dq 8 O O O (dx O O) (.fin [(9, Iv (min be.1 (IntKind.i64.wrap (((l.getD be.2.2.toNat bh).2.1) - 1)))), (10, Iv ((l.getD be.2.2.toNat bh).2.1)), (95, .slice bd l.length a6), (96, Iv (l.length : Int)), (97, Iv be.2.2)] O ⟨O, O, O, O, O, trivial⟩ (bz (ai (aG (vq (cn O O O) O (oM O (aw ?_))))))))))))))))))
 exact bT (s := (min be.1 (IntKind.i64.wrap (((l.getD be.2.2.toNat bh).2.1) - 1)), (l.getD be.2.2.toNat bh).2.1, IntKind.i64.wrap (be.2.2 + 1))) () ⟨O, O, O, O, O, trivial⟩ (.b (.b (.b (.b .n))))
 refine dt (cK (cU (cN ?_)))
 exact gx (s := ()) () trivial (.a (.a (.a (.a .n))))
 intro hc he
 refine sr (oA O (oT (ay ?_)))
 exact aJ () O O O (.a (.b (.a (.a .n))))

theorem fM.quiet (b0 b1 : Nat) : qu Tryz.prog 81 [Pt b0, Pt b1] := by
  refine tL 11 Tryz.func81 O Tryz.ntmps81 O (fun _ _ => O) O O O ((jO.f).bind fun b => (if b = (0 : Int) then (some ()) else none)) (by rfl) (fun W F => ?_)
  refine aj (fun b c => ?_)
  refine oE (oC (vs := [.nilIface]) (cap := []) (A := []) O call41 (.a .n) (jO.calls _ _ ) c) O ?_
  intro d
  refine oA O ?_
  refine aw ?_
  refine ai ?_
  refine ap ?_
  refine aG ?_
  refine oM O ?_
  refine vq (ej O O O) O ?_
  refine aw ?_
  refine ai ?_
  refine eN O (fun e => ?_) (fun g => ?_)
  refine aA ?_
  exact gw () O O O (.a .n)
  exact lQ

def cZ.l0 (b : List (aV)) : Nat → List (ff) → Int → Option ((List (ff)))
  | 0, _, _ => none
  | k + 1, c, a => if a < (b.length : Int) then (if 0 ≤ a ∧ a < (b.length : Int) then ((dD.f ((b.getD a.toNat bh).2.2.2)).bind fun d => (if (c.length + ([((2 : Int), (0 : Int), (0 : Int), (0 : Int), (0 : Int), (0 : Int), (0 : Int), (b.getD a.toNat bh).1, (b.getD a.toNat bh).2.1, (b.getD a.toNat bh).2.2.1, d)] : List (ff)).length) * 104 ≤ 140737488355328 then (cZ.l0 b k (c ++ ([((2 : Int), (0 : Int), (0 : Int), (0 : Int), (0 : Int), (0 : Int), (0 : Int), (b.getD a.toNat bh).1, (b.getD a.toNat bh).2.1, (b.getD a.toNat bh).2.2.1, d)] : List (ff))) (IntKind.i64.wrap (a + 1))) else none)) else none) else (some c)
def cZ.f (k : Nat) (o : List ((List UInt8) × (List UInt8 × Int))) (p : List UInt8) (q : Int) (r : Bool) (s : Int) (t : List Int) (u i j a v w : Int) (x : List (aP)) (l m : Bool) (b c e d g : Int) (y : List (aV)) : Option ((List (ff))) := ((if m = true then (some ((!decide (b = i)) || (!decide (c = j)))) else (some false)).bind fun af => (if af = true then (if ([((1 : Int), (0 : Int), b, c, a, (0 : Int), (0 : Int), (0 : Int), (0 : Int), (0 : Int), ([] : List UInt8))] : List (ff)).length * 104 ≤ 140737488355328 then (some ([((1 : Int), (0 : Int), b, c, a, (0 : Int), (0 : Int), (0 : Int), (0 : Int), (0 : Int), ([] : List UInt8))] : List (ff))) else none) else (some ([] : List (ff))))).bind fun n => (((if ((!decide (d = (0 : Int))) == true) = true then (fa.f o p q r s t u i j a v w x l d g) else some false).bind fun z => (if ((!decide (d = (0 : Int))) && (!z)) = true then (if (n.length + ([((3 : Int), (0 : Int), (0 : Int), (0 : Int), (0 : Int), d, g, (0 : Int), (0 : Int), (0 : Int), ([] : List UInt8))] : List (ff)).length) * 104 ≤ 140737488355328 then (some (n ++ ([((3 : Int), (0 : Int), (0 : Int), (0 : Int), (0 : Int), d, g, (0 : Int), (0 : Int), (0 : Int), ([] : List UInt8))] : List (ff)))) else none) else (some n))).bind fun ab => ((cZ.l0 y k ab 0).bind fun h => ((if (m && (!decide (e = a))) = true then (if (h.length + ([((1 : Int), (0 : Int), b, c, e, (0 : Int), (0 : Int), (0 : Int), (0 : Int), (0 : Int), ([] : List UInt8))] : List (ff)).length) * 104 ≤ 140737488355328 then (some (h ++ ([((1 : Int), (0 : Int), b, c, e, (0 : Int), (0 : Int), (0 : Int), (0 : Int), (0 : Int), ([] : List UInt8))] : List (ff)))) else none) else (some h)).bind fun ad => (some ad))))
theorem cZ.calls (W : World) (F : HA) (k bt a1 t : Nat) (u : Kps) (a3 : List (Lb × (Lb × Int))) (a4 : Lb) (a5 : Int) (a6 : Bool) (a7 : Int) (a8 : Option Addr) (az : Nat) (al : List Int) (a9 o w p bc bd : Int) (be : Option Addr) (a0 : Nat) (an : List aP) (ag bs : Bool) (q z af ab a2 : Int) (b4 : Option Addr) (b1 : Nat) (g : List aV) (eg : RdV F 1 (V3 tt) a8 al) (c6 : al.length ≤ az) (c7 : az ≤ maxLen) (ei : RdV F 5 (ba F) be an) (c8 : an.length ≤ a0) (c9 : a0 ≤ maxLen) (fn : RdV F 4 (V35 F) b4 g) (go : g.length ≤ b1) (gs : b1 ≤ maxLen) :
    Fn Tryz.prog W 51 [Pt bt, .agg #[.bool bs, Iv q, Iv z, Iv af, Iv ab, Iv a2, .slice b4 g.length b1]] [W0 a1 t a4 a5 a6, ax (au t aB ar u) ak u a3, W7 bt a1 a7 al a9 o w p bc bd an ag a8 az be a0] F (cZ.f k a3 a4 a5 a6 a7 al a9 o w p bc bd an ag bs q z af ab a2 g) (fun r (y : Option Addr × Nat × HA) => .slice y.1 r.length y.2.1) (fun r y => [ah 102 11 (gh y.2.2) y.1 r y.2.1, y.2.2, W0 a1 t a4 a5 a6, ax (au t aB ar u) ak u a3, W7 bt a1 a7 al a9 o w p bc bd an ag a8 az be a0]) := by
 unfold cZ.f
 refine aX 99 Tryz.func51 O Tryz.ntmps51 O (sr (oE (cH O O O) O ?_))
 intro br
 refine oA O (nx (oA O (nx (oM O (oN O (vq (oF O av O fb O) O (vq (oF O aC O aU O) O (vq (cw (vs := [Iv o, Iv w, Iv p]) O O dm aU O (dc 3 O (cL O))) O (oE (bX O zeroValue43 O) O ?_)))))))))
 intro b0
 refine bg (aI 0 O O O aU O O (aM (by rfl)) O O) O O ?_
 intro _
 refine oT ?_
 refine bP (S := (List ff)) (Option Addr × Nat) (fun s y => [(0, Pt bt), (3, Pt br), (5, .slice y.1 s.length y.2), (6, Pt b0)]) (fun s y => [W16 b0 o w p, W13 br bs q z af ab a2 g b4 b1, W0 a1 t a4 a5 a6, W7 bt a1 a7 al a9 o w p bc bd an ag a8 az be a0, ah 102 11 (gh tt) y.1 s y.2, ax (au t aB ar u) ak u a3, tt, F]) ?_ ?_
 refine sr (vq (oF O aS O cM O) O (vq (oL O dY 1 O) O (oM O ?_)))
 refine eG 15 (S := Bool) Unit (fun s y => [(0, Pt bt), (3, Pt br), (5, .slice none 0 0), (6, Pt b0), (32, .bool s)]) (fun s y => [W16 b0 o w p, W13 br bs q z af ab a2 g b4 b1, W0 a1 t a4 a5 a6, W7 bt a1 a7 al a9 o w p bc bd an ag a8 az be a0, ax (au t aB ar u) ak u a3, F]) ?_ ?_
 refine ii (fun ek => ?_) (fun el => ?_)
 rw [ek]
 refine aK (oF O aS O aU O) O O O O O O (aK (oF O bH O aa O) O O O O O O (aK (oL O ae 1 O) O O O O O O (aK (oF O bH O aa O) O O O O O O (aK (oL O ae 0 O) O O O O O O (aK (ej O O O) O O O O O O (aK (am O O) O O O O O O (ao (b := !decide (q = o)) (fun gy => RQ.sub (E' := [(3, Pt br)]) ⟨O, trivial⟩ (oF O aS O aU O)) O O O O O (ao (b := !decide (q = o)) (fun em => RQ.sub (E' := [(25, .pointer (some ⟨br, 1, none⟩))]) ⟨aN O em, trivial⟩ (oF O bH O aa O)) O O O O O (ao (b := !decide (q = o)) (fun en => RQ.sub (E' := [(26, .pointer (some ⟨br, 2, none⟩))]) ⟨aN O en, trivial⟩ (oL O ae 1 O)) O O O O O (ao (b := !decide (q = o)) (fun g6 => RQ.sub (E' := [(6, Pt b0)]) ⟨O, trivial⟩ (oF O bH O aa O)) O O O O O (ao (b := !decide (q = o)) (fun fp => RQ.sub (E' := [(28, .pointer (some ⟨b0, 1, none⟩))]) ⟨aN O fp, trivial⟩ (oL O ae 0 O)) O O O O O (ao (b := !decide (q = o)) (fun ds => RQ.sub (E' := [(27, Iv z), (29, Iv w)]) ⟨aN O ds, aN O ds, trivial⟩ (ej O O O)) O O O O O (aK (ik O O O) O O O O O O (vq (bZ O O O O O) O (aw ?_)))))))))))))))
 exact aF (s := (!decide (q = o)) || (!decide (z = w))) () ⟨O, O, O, O, O, trivial⟩ (.a (.a (.a (.b (.a (.a .n))))))
 rw [el]
 refine oS O (oS O (oS O (oS O (oS O (oS O (oS O (cQ O O O O O (cQ O O O O O (cQ O O O O O (cQ O O O O O (cQ O O O O O (cQ O O O O O (oS O (vq (bZ O O O O O) O (aw ?_)))))))))))))))
 exact aF (s := false) () ⟨O, O, O, O, O, trivial⟩ (.a (.a (.a (.b (.a (.a .n))))))
 intro hn ho
 refine oT ?_
 refine bm O (fun g7 => ?_) (fun g8 => ?_)
 refine sr (vq (oF O aS O aU O) O (vq (cw (vs := [Iv q, Iv z, Iv af]) O O dm aU O (dc 1 O (cL O))) O (oE (bX O zeroValue43 O) O ?_)))
 intro g9
 refine bg (aI 0 O O O aU O O (aM (by rfl)) O O) O O ?_
 intro _
 refine nx (vq (oF O bH O aa O) O (vq (oL O ae 1 O) O (vq (oF O bH O aa O) O (bg (aI 0 O O O aa O O (aM (by rfl)) O O) O O ?_))))
 intro _
 refine ny (oM O (vq (cF 0 O O dm aU O O) O (vq (cW (v := .agg #[Iv 1, Iv 0, Iv q, Iv z, Iv p, Iv 0, Iv 0, Iv 0, Iv 0, Iv 0, .slice none 0 0]) O O (fun _ => by kernel_rfl)) O ?_)))
 have b7 : bW 11 (gh tt) ([((1 : Int), (0 : Int), q, z, p, (0 : Int), (0 : Int), (0 : Int), (0 : Int), (0 : Int), ([] : Lb))] : List ff) [[Iv 1, Iv 0, Iv q, Iv z, Iv p, Iv 0, Iv 0, Iv 0, Iv 0, Iv 0, .slice none 0 0]] := ⟨⟨rfl, aM (by rfl), ⟨none, 0, rfl, ⟨Rd.nil _ _, Nat.le_refl _, Nat.zero_le _⟩⟩⟩, trivial⟩
 refine oE (eW (V := (gh tt)) (xs := ([((1 : Int), (0 : Int), q, z, p, (0 : Int), (0 : Int), (0 : Int), (0 : Int), (0 : Int), ([] : Lb))] : List ff)) [[Iv 1, Iv 0, Iv q, Iv z, Iv p, Iv 0, Iv 0, Iv 0, Iv 0, Iv 0, .slice none 0 0]] O O dv nj O (by kernel_rfl) O b7 O O) O ?_
 intro ha
 refine bo (fun er => (oE (oQ (V := (gh tt)) O O O dv nj (hQ.row b7 0 O) er) O ?_))
 intro dz
 refine oA O (aw ?_)
 exact aF (s := ([((1 : Int), (0 : Int), q, z, p, (0 : Int), (0 : Int), (0 : Int), (0 : Int), (0 : Int), ([] : Lb))] : List ff)) dz ⟨O, O, O, O, trivial⟩ (.d (.d (.d (.d (.a (.c (.tt_in (.c .n))))))))
 refine aA ?_
 exact aF (s := ([] : List ff)) (none, 0) ⟨O, O, O, O, trivial⟩ (.a (.a (.a (.a (.rowV_nil (.a (.tt_in (.a .n))))))))
 intro d1 c0
 refine bP (S := (List ff)) (Option Addr × Nat) (fun s y => [(3, Pt br), (5, .slice y.1 s.length y.2), (6, Pt b0)]) (fun s y => [W16 b0 o w p, W13 br bs q z af ab a2 g b4 b1, W0 a1 t a4 a5 a6, W7 bt a1 a7 al a9 o w p bc bd an ag a8 az be a0, ah 102 11 (gh tt) y.1 s y.2, ax (au t aB ar u) ak u a3, tt, F]) ?_ ?_
 refine ap (bq 4 O (fun g0 c1 => (bC (fun d2 c2 => (bK [[], [0], [0, 1], [0, 1, 2], rL 4, rL 5, rL 6, rL 4, [0, 1, 2, 3, 7], rL 4, [0, 1, 2, 3, 9], rL 11, rL 12, rL 13] 99 O mixed (by decide) (dqo 0 [3] O O O (oF O aS O aa O) (dl 1 [] O O O (oL O ae 1 O) (dq 2 O O O (ej O O O) (dq 3 O O O (am O O) (dqg 4 [0] (!decide (ab = (0 : Int))) O O O O O (fun g1 => RQ.sub (E' := [(0, Pt bt)]) ⟨O, trivial⟩ (am O O)) (dqg 5 [] (!decide (ab = (0 : Int))) O O O O O (fun es => RQ.sub (E' := [(47, Pt bt)]) ⟨aN O es, trivial⟩ (bi O O)) (dqg 6 [] (!decide (ab = (0 : Int))) O O O O O (fun et => RQ.sub (E' := [(48, Pt bt)]) ⟨aN O et, trivial⟩ (oF O av O fb O)) (dqg 7 [3] (!decide (ab = (0 : Int))) O O O O O (fun g2 => RQ.sub (E' := [(3, Pt br)]) ⟨O, trivial⟩ (oF O aS O aa O)) (dlg 8 [] (!decide (ab = (0 : Int))) O O O O O (fun ex => RQ.sub (E' := [(50, .pointer (some ⟨br, 4, none⟩))]) ⟨aN O ex, trivial⟩ (oL O ae 1 O)) (dqg 9 [3] (!decide (ab = (0 : Int))) O O O O O (fun g3 => RQ.sub (E' := [(3, Pt br)]) ⟨O, trivial⟩ (oF O aS O aa O)) (dlg 10 [] (!decide (ab = (0 : Int))) O O O O O (fun eA => RQ.sub (E' := [(52, .pointer (some ⟨br, 5, none⟩))]) ⟨aN O eA, trivial⟩ (oL O ae 1 O)) (dlg 11 [] (!decide (ab = (0 : Int))) O O O O O (fun b5 => RQ.sub (E' := [(49, .pointer (some ⟨bt, 4, none⟩)), (51, Iv ab), (53, Iv a2)]) ⟨aN O b5, aN O b5, aN O b5, trivial⟩ (RE.rq (oC (vs := [.pointer (some ⟨bt, 4, none⟩), Iv ab, Iv a2]) (cap := []) (A := [W0 a1 t a4 a5 a6, ax (au t aB ar u) ak u a3, W7 bt a1 a7 al a9 o w p bc bd an ag a8 az be a0]) O call80 (.c (.e (.c (.a (.a (.a (.tt_in (.b .n)))))))) (fa.calls _ _ bt a1 t u a3 a4 a5 a6 a7 a8 az al a9 o w p bc bd be a0 an ag ab a2 (eg.up (Up.lend 4 O) (fun _ _ h => h)) c6 c7 (ei.up (Up.lend 4 O) (ba.up (Up.lend 4 O))) c8 c9) (by rw [if_pos b5] at c2; exact c2)) (fun _ => O) (fun _ => (.d (.d (.a (.b (.b (.a (.tt_in (.b .n))))))))))) (dqg 12 [] (!decide (ab = (0 : Int))) O O O O O (fun eB => RQ.sub (E' := [(54, .bool d2)]) ⟨aN O eB, trivial⟩ (iB O O)) (dq 13 O O O (fN O O O) (.fin [(3, Pt br), (5, .slice c0.1 d1.length c0.2), (6, Pt b0), (56, .bool ((!decide (ab = (0 : Int))) && (!d2)))] O ⟨O, O, O, O, trivial⟩ (ai ?_)))))))))))))))))))))
 refine bm O (fun hb => ?_) (fun hc => ?_)
 refine aG (oM O (vq (oF O aS O aa O) O (vq (oL O ae 1 O) O (vq (oF O aS O aa O) O (vq (oL O ae 1 O) O (vq (cW (v := .agg #[Iv 3, Iv 0, Iv 0, Iv 0, Iv 0, Iv ab, Iv a2, Iv 0, Iv 0, Iv 0, .slice none 0 0]) O O (fun _ => by kernel_rfl)) O ?_))))))
 have b8 : bW 11 (gh tt) ([((3 : Int), (0 : Int), (0 : Int), (0 : Int), (0 : Int), ab, a2, (0 : Int), (0 : Int), (0 : Int), ([] : Lb))] : List ff) [[Iv 3, Iv 0, Iv 0, Iv 0, Iv 0, Iv ab, Iv a2, Iv 0, Iv 0, Iv 0, .slice none 0 0]] := ⟨⟨rfl, aM (by rfl), ⟨none, 0, rfl, ⟨Rd.nil _ _, Nat.le_refl _, Nat.zero_le _⟩⟩⟩, trivial⟩
 refine oE (eW (V := (gh tt)) (xs := ([((3 : Int), (0 : Int), (0 : Int), (0 : Int), (0 : Int), ab, a2, (0 : Int), (0 : Int), (0 : Int), ([] : Lb))] : List ff)) [[Iv 3, Iv 0, Iv 0, Iv 0, Iv 0, Iv ab, Iv a2, Iv 0, Iv 0, Iv 0, .slice none 0 0]] O O dv nj O (by kernel_rfl) O b8 O O) O ?_
 intro he
 refine bo (fun eD => (oE (eV 5 O O O dv nj O c1 (hQ.row b8 0 O) eD) O ?_))
 intro d3
 refine oA O (aw ?_)
 exact aF (s := d1 ++ ([((3 : Int), (0 : Int), (0 : Int), (0 : Int), (0 : Int), ab, a2, (0 : Int), (0 : Int), (0 : Int), ([] : Lb))] : List ff)) d3 ⟨O, O, O, trivial⟩ (.b (.b (.b (.b (.b (.b (.tt_in (.c .n))))))))
 refine aA ?_
 exact aF (s := d1) c0 ⟨O, O, O, trivial⟩ (.a (.a (.a (.a (.sel' 0 O (ah.mk c1) (.a (.tt_in (.b .n))))))))
 intro fr d4
 refine bP (S := (List ff)) (HA × Option Addr × Nat) (fun s y => [(3, Pt br), (5, .slice y.2.1 s.length y.2.2), (6, Pt b0)]) (fun s y => [W16 b0 o w p, W13 br bs q z af ab a2 g b4 b1, W0 a1 t a4 a5 a6, W7 bt a1 a7 al a9 o w p bc bd an ag a8 az be a0, ah 102 11 (gh y.1) y.2.1 s y.2.2, ax (au t aB ar u) ak u a3, y.1, F]) ?_ ?_
 refine sr (vq (oF O aS O ew O) O (vq (oL O fC 1 O) O (vq (bL O O O cq) O (oM O (oT (aZ ?_))))))
 refine da (S := (List ff) × Int) (HA × Option Addr × Nat) (fun k s => cZ.l0 g k s.1 s.2) (fun s y => [(3, Pt br), (5, .slice y.2.1 s.1.length y.2.2), (6, Pt b0), (66, .slice b4 g.length b1), (67, Iv (g.length : Int)), (68, Iv s.2)]) (fun s y => [W16 b0 o w p, W13 br bs q z af ab a2 g b4 b1, W0 a1 t a4 a5 a6, W7 bt a1 a7 al a9 o w p bc bd an ag a8 az be a0, ah 102 11 (gh y.1) y.2.1 s.1 y.2.2, ax (au t aB ar u) ak u a3, y.1, F]) (fun _ => by rw [cZ.l0]) ?_ k (fr, 0) (tt, d4) ⟨O, O, O, O, O, O, trivial⟩ (.a (.a (.a (.a (.a (.a (.tt_in (.b .n))))))))
 intro k n b2
 refine dW (by rw [cZ.l0]) (sr (vq (dG O O O) O (oT (ap ?_))))
 refine bu O (fun hf => ?_) (fun hg => ?_)
 refine aA (ai (ap (aZ (sr (bo (fun c3 => ?_))))))
 obtain ⟨hh, g4, hi, eF, e0, fs, hcell63v⟩ := RdV.pos fn (Up.refl _) rfl (i := n.2.toNat) (by omega) bh
 obtain ⟨d5, d6, rfl, ⟨e1, e2, e3⟩⟩ := e0
 refine vq (dM O O O eF cq aR c3.1 c3.2) O (vq (cw O O cy aR O (fun j v hj => hcell63v 7 O j v hj)) O (oE (bX O dy O) O ?_))
 intro d7
 refine bg (aI 0 O O O aR O O (aM (by rfl)) O O) O O ?_
 intro _
 refine nx (vq (oF O bj O bM O) O (vq (oL O cP 0 O) O (aj (fun ad e4 => (oE (oC (vs := [.slice d5 (((g.getD n.2.toNat bh).2.2.2).length) d6]) (cap := []) (A := []) O call82 (.a (.a (.a (.a (.a (.a (.a (.a (.a .n))))))))) (dD.calls _ _ d5 d6 ((g.getD n.2.toNat bh).2.2.2) (e1.lend 8 O) e2 e3) e4) O ?_)))))
 intro x
 refine vq (oF O bj O bM O) O (bg (aI 1 O O O bM O O (aM (by rfl)) O O) O O ?_)
 intro _
 refine ny (oM O (vq (cF 1 O O cy aR O O) O (vq (cW (v := .agg #[Iv 2, Iv 0, Iv 0, Iv 0, Iv 0, Iv 0, Iv 0, Iv ((g.getD n.2.toNat bh).1), Iv ((g.getD n.2.toNat bh).2.1), Iv ((g.getD n.2.toNat bh).2.2.1), .slice x.1 ad.length x.2]) O O (fun _ => by kernel_rfl)) O (bw 0 O (fun e5 e6 e7 g5 => ?_)))))
 have b9 : bW 11 (gh (Row 5 1 x.1 ad.length x.2 (aL ad))) ([((2 : Int), (0 : Int), (0 : Int), (0 : Int), (0 : Int), (0 : Int), (0 : Int), (g.getD n.2.toNat bh).1, (g.getD n.2.toNat bh).2.1, (g.getD n.2.toNat bh).2.2.1, ad)] : List ff) [[Iv 2, Iv 0, Iv 0, Iv 0, Iv 0, Iv 0, Iv 0, Iv ((g.getD n.2.toNat bh).1), Iv ((g.getD n.2.toNat bh).2.1), Iv ((g.getD n.2.toNat bh).2.2.1), .slice x.1 ad.length x.2]] := ⟨⟨rfl, aM (by rfl), ⟨x.1, x.2, rfl, ⟨e5, e6, e7⟩⟩⟩, trivial⟩
 refine oE (eW (V := (gh (Row 5 1 x.1 ad.length x.2 (aL ad)))) (xs := ([((2 : Int), (0 : Int), (0 : Int), (0 : Int), (0 : Int), (0 : Int), (0 : Int), (g.getD n.2.toNat bh).1, (g.getD n.2.toNat bh).2.1, (g.getD n.2.toNat bh).2.2.1, ad)] : List ff)) [[Iv 2, Iv 0, Iv 0, Iv 0, Iv 0, Iv 0, Iv 0, Iv ((g.getD n.2.toNat bh).1), Iv ((g.getD n.2.toNat bh).2.1), Iv ((g.getD n.2.toNat bh).2.2.1), .slice x.1 ad.length x.2]] O O dv nj O (by kernel_rfl) O b9 O O) O ?_
 intro d8
 refine bk 7 O (fun c4 e8 => (cl (H' := [bl [Row 5 1 x.1 ad.length x.2 (aL ad), b2.1], Row 102 11 (some ⟨d8, 0, none⟩) ([((2 : Int), (0 : Int), (0 : Int), (0 : Int), (0 : Int), (0 : Int), (0 : Int), (g.getD n.2.toNat bh).1, (g.getD n.2.toNat bh).2.1, (g.getD n.2.toNat bh).2.2.1, ad)] : List ff).length 1 [[Iv 2, Iv 0, Iv 0, Iv 0, Iv 0, Iv 0, Iv 0, Iv ((g.getD n.2.toNat bh).1), Iv ((g.getD n.2.toNat bh).2.1), Iv ((g.getD n.2.toNat bh).2.2.1), .slice x.1 ad.length x.2]].flatten, W8 d7 ((g.getD n.2.toNat bh).1) ((g.getD n.2.toNat bh).2.1) ((g.getD n.2.toNat bh).2.2.1) ad x.1 x.2, W16 b0 o w p, W13 br bs q z af ab a2 g b4 b1, W0 a1 t a4 a5 a6, W7 bt a1 a7 al a9 o w p bc bd an ag a8 az be a0, Row 102 11 b2.2.1 n.1.length b2.2.2 c4.flatten, ax (au t aB ar u) ak u a3, F]) (Ent.trans (m := [Row 5 1 x.1 ad.length x.2 (aL ad), b2.1, Row 102 11 (some ⟨d8, 0, none⟩) ([((2 : Int), (0 : Int), (0 : Int), (0 : Int), (0 : Int), (0 : Int), (0 : Int), (g.getD n.2.toNat bh).1, (g.getD n.2.toNat bh).2.1, (g.getD n.2.toNat bh).2.2.1, ad)] : List ff).length 1 [[Iv 2, Iv 0, Iv 0, Iv 0, Iv 0, Iv 0, Iv 0, Iv ((g.getD n.2.toNat bh).1), Iv ((g.getD n.2.toNat bh).2.1), Iv ((g.getD n.2.toNat bh).2.2.1), .slice x.1 ad.length x.2]].flatten, W8 d7 ((g.getD n.2.toNat bh).1) ((g.getD n.2.toNat bh).2.1) ((g.getD n.2.toNat bh).2.2.1) ad x.1 x.2, W16 b0 o w p, W13 br bs q z af ab a2 g b4 b1, W0 a1 t a4 a5 a6, W7 bt a1 a7 al a9 o w p bc bd an ag a8 az be a0, Row 102 11 b2.2.1 n.1.length b2.2.2 c4.flatten, ax (au t aB ar u) ak u a3, F]) (.b (.i (.a (.a (.a (.a (.a (.a (.a (.a (.a .n))))))))))) (jv [Row 5 1 x.1 ad.length x.2 (aL ad), b2.1] _)) (bo (fun e9 => (oE (eV 7 O O O dv nj O (e8.mono (gh.up (Up.lend (l := [Row 5 1 x.1 ad.length x.2 (aL ad), b2.1]) 1 O))) (hQ.row (b9.mono (gh.up (Up.lend (l := [Row 5 1 x.1 ad.length x.2 (aL ad), b2.1]) 0 O))) 1 O) e9) O ?_)))))
 intro d9
 refine oA O (aw (bz (ai (aG (vq (cn O O O) O (oM O (aw ?_)))))))
 exact bT (s := (n.1 ++ ([((2 : Int), (0 : Int), (0 : Int), (0 : Int), (0 : Int), (0 : Int), (0 : Int), (g.getD n.2.toNat bh).1, (g.getD n.2.toNat bh).2.1, (g.getD n.2.toNat bh).2.2.1, ad)] : List ff), IntKind.i64.wrap (n.2 + 1))) (bl [Row 5 1 x.1 ad.length x.2 (aL ad), b2.1], d9) ⟨O, O, O, O, O, O, trivial⟩ (.d (.d (.d (.d (.d (.d (.a (.c .n))))))))
 refine dt (cK (cU (cN ?_)))
 exact aF (s := n.1) b2 ⟨O, O, O, trivial⟩ (.a (.a (.a (.a (.a (.a (.a (.a .n))))))))
 intro b6 b3
 refine bP (S := (List ff)) (HA × Option Addr × Nat) (fun s y => [(5, .slice y.2.1 s.length y.2.2)]) (fun s y => [W0 a1 t a4 a5 a6, W7 bt a1 a7 al a9 o w p bc bd an ag a8 az be a0, ah 102 11 (gh y.1) y.2.1 s y.2.2, ax (au t aB ar u) ak u a3, y.1, F]) ?_ ?_
 refine sr (vq (oF O aS O cM O) O (vq (oL O dY 1 O) O (oM O (ao (b := bs) (fun ft => RQ.sub (E' := [(3, Pt br)]) ⟨O, trivial⟩ (oF O aS O aU O)) O O O O O (ao (b := bs) (fun ea => RQ.sub (E' := [(85, .pointer (some ⟨br, 1, none⟩))]) ⟨aN O ea, trivial⟩ (oF O bH O aa O)) O O O O O (ao (b := bs) (fun eb => RQ.sub (E' := [(86, .pointer (some ⟨br, 3, none⟩))]) ⟨aN O eb, trivial⟩ (oL O ae 1 O)) O O O O O (ao (b := bs) (fun fz => RQ.sub (E' := [(6, Pt b0)]) ⟨O, trivial⟩ (oF O bH O aa O)) O O O O O (ao (b := bs) (fun ec => RQ.sub (E' := [(88, .pointer (some ⟨b0, 2, none⟩))]) ⟨aN O ec, trivial⟩ (oL O ae 0 O)) O O O O O (ao (b := bs) (fun cd => RQ.sub (E' := [(87, Iv af), (89, Iv p)]) ⟨aN O cd, aN O cd, trivial⟩ (ej O O O)) O O O O O (vq (fN O O O) O (oT ?_)))))))))))
 refine bm O (fun hk => ?_) (fun hl => ?_)
 refine aG (oM O (vq (oF O aS O aU O) O (vq (cw (vs := [Iv q, Iv z, Iv af]) O O dm aU O (dc 1 O (cL O))) O (vq (cW (v := .agg #[Iv 1, Iv 0, Iv q, Iv z, Iv af, Iv 0, Iv 0, Iv 0, Iv 0, Iv 0, .slice none 0 0]) O O (fun _ => by kernel_rfl)) O ?_))))
 have ch : bW 11 (gh tt) ([((1 : Int), (0 : Int), q, z, af, (0 : Int), (0 : Int), (0 : Int), (0 : Int), (0 : Int), ([] : Lb))] : List ff) [[Iv 1, Iv 0, Iv q, Iv z, Iv af, Iv 0, Iv 0, Iv 0, Iv 0, Iv 0, .slice none 0 0]] := ⟨⟨rfl, aM (by rfl), ⟨none, 0, rfl, ⟨Rd.nil _ _, Nat.le_refl _, Nat.zero_le _⟩⟩⟩, trivial⟩
 refine oE (eW (V := (gh tt)) (xs := ([((1 : Int), (0 : Int), q, z, af, (0 : Int), (0 : Int), (0 : Int), (0 : Int), (0 : Int), ([] : Lb))] : List ff)) [[Iv 1, Iv 0, Iv q, Iv z, Iv af, Iv 0, Iv 0, Iv 0, Iv 0, Iv 0, .slice none 0 0]] O O dv nj O (by kernel_rfl) O ch O O) O ?_
 intro ed
 refine bk 5 O (fun c5 fl => (cl (H' := [bl [tt, b3.1], Row 102 11 (some ⟨ed, 0, none⟩) ([((1 : Int), (0 : Int), q, z, af, (0 : Int), (0 : Int), (0 : Int), (0 : Int), (0 : Int), ([] : Lb))] : List ff).length 1 [[Iv 1, Iv 0, Iv q, Iv z, Iv af, Iv 0, Iv 0, Iv 0, Iv 0, Iv 0, .slice none 0 0]].flatten, W16 b0 o w p, W13 br bs q z af ab a2 g b4 b1, W0 a1 t a4 a5 a6, W7 bt a1 a7 al a9 o w p bc bd an ag a8 az be a0, Row 102 11 b3.2.1 b6.length b3.2.2 c5.flatten, ax (au t aB ar u) ak u a3, F]) (Ent.trans (m := [tt, b3.1, Row 102 11 (some ⟨ed, 0, none⟩) ([((1 : Int), (0 : Int), q, z, af, (0 : Int), (0 : Int), (0 : Int), (0 : Int), (0 : Int), ([] : Lb))] : List ff).length 1 [[Iv 1, Iv 0, Iv q, Iv z, Iv af, Iv 0, Iv 0, Iv 0, Iv 0, Iv 0, .slice none 0 0]].flatten, W16 b0 o w p, W13 br bs q z af ab a2 g b4 b1, W0 a1 t a4 a5 a6, W7 bt a1 a7 al a9 o w p bc bd an ag a8 az be a0, Row 102 11 b3.2.1 b6.length b3.2.2 c5.flatten, ax (au t aB ar u) ak u a3, F]) (.tt_in (.h (.a (.a (.a (.a (.a (.a (.a (.a .n)))))))))) (jv [tt, b3.1] _)) (bo (fun ee => (oE (eV 6 O O O dv nj O (fl.mono (gh.up (Up.lend (l := [tt, b3.1]) 1 O))) (hQ.row (ch.mono (gh.up (Up.lend (l := [tt, b3.1]) 0 O))) 1 O) ee) O ?_)))))
 intro ef
 refine oA O (aw ?_)
 exact aF (s := b6 ++ ([((1 : Int), (0 : Int), q, z, af, (0 : Int), (0 : Int), (0 : Int), (0 : Int), (0 : Int), ([] : Lb))] : List ff)) (bl [tt, b3.1], ef) ⟨O, trivial⟩ (.e (.e (.e (.e (.a (.d .n))))))
 refine aA ?_
 exact aF (s := b6) b3 ⟨O, trivial⟩ (.c (.c (.c (.c (.c (.c .n))))))
 intro hm cs
 refine sr (oM O (oA O (oT (ay ?_))))
 exact aJ (cs.2.1, cs.2.2, cs.1) O O O (.c (.d (.a (.b (.a (.a .n))))))

def cO.l1 (q : (List ((List UInt8) × (List UInt8 × Int))) × List UInt8 × Int × Bool × Int × List Int × Int × Int × Int × Int × Int × Int × (List (aP)) × Bool) (b : List (ff)) (d : (List ((List UInt8) × (List UInt8 × Int))) × List UInt8 × Int × Bool) : Nat → Int → Int → List Int → Int → Int → Int → Int → Int → Int → List (aP) → Bool → Option ((List ((List UInt8) × (List UInt8 × Int))) × List UInt8 × Int × Bool × Int × List Int × Int × Int × Int × Int × Int × Int × (List (aP)) × Bool)
  | 0, _, _, _, _, _, _, _, _, _, _, _ => none
  | k + 1, a, e, g, h, i, j, l, m, n, o, p => if a < (b.length : Int) then (if 0 ≤ a ∧ a < (b.length : Int) then ((eQ.f d.1 d.2.1 d.2.2.1 d.2.2.2 e g h i j l m n o p ((b.getD a.toNat aQ).1) ((b.getD a.toNat aQ).2.1) ((b.getD a.toNat aQ).2.2.1) ((b.getD a.toNat aQ).2.2.2.1) ((b.getD a.toNat aQ).2.2.2.2.1) ((b.getD a.toNat aQ).2.2.2.2.2.1) ((b.getD a.toNat aQ).2.2.2.2.2.2.1) ((b.getD a.toNat aQ).2.2.2.2.2.2.2.1) ((b.getD a.toNat aQ).2.2.2.2.2.2.2.2.1) ((b.getD a.toNat aQ).2.2.2.2.2.2.2.2.2.1) ((b.getD a.toNat aQ).2.2.2.2.2.2.2.2.2.2) (q.2.2.2.2.2.1.getD (IntKind.i64.wrap ((q.2.2.2.2.2.1.length : Int) - 1)).toNat (0 : Int))).bind fun c => (cO.l1 q b d k (IntKind.i64.wrap (a + 1)) c.2.1 c.2.2.1 c.2.2.2.1 c.2.2.2.2.1 c.2.2.2.2.2.1 c.2.2.2.2.2.2.1 c.2.2.2.2.2.2.2.1 c.2.2.2.2.2.2.2.2.1 c.2.2.2.2.2.2.2.2.2.1 c.2.2.2.2.2.2.2.2.2.2)) else none) else (some (d.1, d.2.1, d.2.2.1, d.2.2.2, e, g, h, i, j, l, m, n, o, p))
def cO.l0 (b : List (ff)) : Nat → List UInt8 → Int → Option (List UInt8)
  | 0, _, _ => none
  | k + 1, c, a => if a < (b.length : Int) then (if 0 ≤ a ∧ a < (b.length : Int) then ((dT.f k ((b.getD a.toNat aQ).1) ((b.getD a.toNat aQ).2.1) ((b.getD a.toNat aQ).2.2.1) ((b.getD a.toNat aQ).2.2.2.1) ((b.getD a.toNat aQ).2.2.2.2.1) ((b.getD a.toNat aQ).2.2.2.2.2.1) ((b.getD a.toNat aQ).2.2.2.2.2.2.1) ((b.getD a.toNat aQ).2.2.2.2.2.2.2.1) ((b.getD a.toNat aQ).2.2.2.2.2.2.2.2.1) ((b.getD a.toNat aQ).2.2.2.2.2.2.2.2.2.1) ((b.getD a.toNat aQ).2.2.2.2.2.2.2.2.2.2)).bind fun d => (if (c.length + d.length) * 1 ≤ 140737488355328 then (cO.l0 b k (c ++ d) (IntKind.i64.wrap (a + 1))) else none)) else none) else (some c)
def cO.f (k : Nat) (l : List ((List UInt8) × (List UInt8 × Int))) (m : List UInt8) (n : Int) (o : Bool) (g : Int) (c : List Int) (h p q r s t : Int) (u : List (aP)) (i w : Bool) (x y z ab ad : Int) (af : List (aV)) : Option ((List ((List UInt8) × (List UInt8 × Int))) × List UInt8 × Int × Bool × Int × List Int × Int × Int × Int × Int × Int × Int × (List (aP)) × Bool) := (if g ≤ h then (if 0 ≤ IntKind.i64.wrap ((c.length : Int) - 1) ∧ IntKind.i64.wrap ((c.length : Int) - 1) < (c.length : Int) then ((cA.f k (c.getD (IntKind.i64.wrap ((c.length : Int) - 1)).toNat (0 : Int))).bind fun ag => ((cX.f l m n o ag).bind fun d => ((cm.f d.1).bind fun a0 => ((fU.f k d.2.1 d.2.2.1 d.2.2.2.1 d.2.2.2.2 g c h p q r s t u i (IntKind.i64.wrap ((c.getD (IntKind.i64.wrap ((c.length : Int) - 1)).toNat (0 : Int)) + 1))).bind fun b => (some (b.1, b.2.1, b.2.2.1, b.2.2.2.1, b.2.2.2.2.1, b.2.2.2.2.2.1, b.2.2.2.2.2.2.1, b.2.2.2.2.2.2.2.1, b.2.2.2.2.2.2.2.2.1, b.2.2.2.2.2.2.2.2.2.1, b.2.2.2.2.2.2.2.2.2.2.1, b.2.2.2.2.2.2.2.2.2.2.2.1, b.2.2.2.2.2.2.2.2.2.2.2.2.1, b.2.2.2.2.2.2.2.2.2.2.2.2.2)))))) else none) else (some (l, m, n, o, g, c, h, p, q, r, s, t, u, i))).bind fun a => (if 0 ≤ IntKind.i64.wrap ((a.2.2.2.2.2.1.length : Int) - 1) ∧ IntKind.i64.wrap ((a.2.2.2.2.2.1.length : Int) - 1) < (a.2.2.2.2.2.1.length : Int) then ((cZ.f k a.1 a.2.1 a.2.2.1 a.2.2.2.1 a.2.2.2.2.1 a.2.2.2.2.2.1 a.2.2.2.2.2.2.1 a.2.2.2.2.2.2.2.1 a.2.2.2.2.2.2.2.2.1 a.2.2.2.2.2.2.2.2.2.1 a.2.2.2.2.2.2.2.2.2.2.1 a.2.2.2.2.2.2.2.2.2.2.2.1 a.2.2.2.2.2.2.2.2.2.2.2.2.1 a.2.2.2.2.2.2.2.2.2.2.2.2.2 w x y z ab ad af).bind fun j => ((cO.l0 j k ([] : List UInt8) 0).bind fun v => ((if (0 : Int) < (j.length : Int) then ((cA.f k (a.2.2.2.2.2.1.getD (IntKind.i64.wrap ((a.2.2.2.2.2.1.length : Int) - 1)).toNat (0 : Int))).bind fun al => ((eO.f a.1 a.2.1 a.2.2.1 a.2.2.2.1 al v).bind fun e => ((cm.f e.1).bind fun az => (some (e.2.1, e.2.2.1, e.2.2.2.1, e.2.2.2.2))))) else (some (a.1, a.2.1, a.2.2.1, a.2.2.2.1))).bind fun an => (cO.l1 a j an k 0 a.2.2.2.2.1 a.2.2.2.2.2.1 (IntKind.i64.wrap (a.2.2.2.2.2.2.1 + (v.length : Int))) a.2.2.2.2.2.2.2.1 a.2.2.2.2.2.2.2.2.1 a.2.2.2.2.2.2.2.2.2.1 a.2.2.2.2.2.2.2.2.2.2.1 a.2.2.2.2.2.2.2.2.2.2.2.1 a.2.2.2.2.2.2.2.2.2.2.2.2.1 a.2.2.2.2.2.2.2.2.2.2.2.2.2)))) else none)
theorem cO.calls (W : World) (F : HA) (k a7 ad ab bt : Nat) (b0 : Kps) (ch : List (Lb × (Lb × Int))) (cs : Lb) (c0 : Int) (c1 : Bool) (b1 : Int) (b2 : Option Addr) (b3 : Nat) (af : List Int) (b4 c2 c3 c4 c5 c6 : Int) (b5 : Option Addr) (b6 : Nat) (br : List aP) (b7 : HA) (bs : Bool) (a9 : Nat) (az : Bool) (a0 a1 a2 a3 a4 : Int) (a5 : Option Addr) (al : Nat) (ag : List aV) (e4 : RdV F 4 (V35 F) a5 ag) (ed : ag.length ≤ al) (ee : al ≤ maxLen) (hgl : Glb Tryz.prog F) :
    Fn Tryz.prog W 50 [Pt a7, Pt a9] [W0 ab bt cs c0 c1, ax (au bt aB ar b0) ak b0 ch, W7 ad ab b1 af b4 c2 c3 c4 c5 c6 br bs b2 b3 b5 b6, ah 3 1 (V3 tt) b2 af b3, ah 144 5 (ba b7) b5 br b6, b7, obj a7 36 [Pt ad], W13 a9 az a0 a1 a2 a3 a4 ag a5 al] F (cO.f k ch cs c0 c1 b1 af b4 c2 c3 c4 c5 c6 br bs az a0 a1 a2 a3 a4 ag) (fun r (y : Nat × Kps × Option Addr × Nat × Option Addr × Nat × HA) => .tuple #[]) (fun r y => [W11 ab y.1 r.2, ax (au y.1 aB ar y.2.1) ak y.2.1 r.1, W12 ad ab r.2.2.2.2 y.2.2.1 y.2.2.2.1 y.2.2.2.2.1 y.2.2.2.2.2.1, ah 3 1 (V3 tt) y.2.2.1 r.2.2.2.2.2.1 y.2.2.2.1, ah 144 5 (ba y.2.2.2.2.2.2) y.2.2.2.2.1 r.2.2.2.2.2.2.2.2.2.2.2.2.1 y.2.2.2.2.2.1, y.2.2.2.2.2.2, obj a7 36 [Pt ad], W13 a9 az a0 a1 a2 a3 a4 ag a5 al]) := by
 unfold cO.f
 refine aX 103 Tryz.func50 O Tryz.ntmps50 O ?_
 refine bP (S := (List (Lb × (Lb × Int))) × Lb × Int × Bool × Int × List Int × Int × Int × Int × Int × Int × Int × (List aP) × Bool) (Nat × Kps × Option Addr × Nat × HA × Option Addr × Nat) (fun s y => [(0, Pt a7), (1, Pt a9)]) (fun s y => [W11 ab y.1 s.2, W12 ad ab s.2.2.2.2 y.2.2.1 y.2.2.2.1 y.2.2.2.2.2.1 y.2.2.2.2.2.2, obj a7 36 [Pt ad], W13 a9 az a0 a1 a2 a3 a4 ag a5 al, ax (au y.1 aB ar y.2.1) ak y.2.1 s.1, ah 3 1 (V3 tt) y.2.2.1 s.2.2.2.2.2.1 y.2.2.2.1, ah 144 5 (ba y.2.2.2.2.1) y.2.2.2.2.2.1 s.2.2.2.2.2.2.2.2.2.2.2.2.1 y.2.2.2.2.2.2, y.2.2.2.2.1, F]) ?_ ?_
 refine ap (bq 3 O (fun hR d6 => (bq 4 O (fun hS ef => (bK [[], [0], [0, 1], [0, 1, 2], [], [4], [4, 5], [4, 5, 6], rL 8] 103 O mixed (by decide) (dl 0 [0] O O O (oL O bb 6 O) (dq 1 O O O (bi O O) (dq 2 O O O (oF O av O aa O) (dl 3 [] O O O (oL O ae 2 O) (dl 4 [0] O O O (oL O bb 6 O) (dq 5 O O O (bi O O) (dq 6 O O O (oF O av O aa O) (dl 7 [] O O O (oL O ae 2 O) (dq 8 O O O (lw O O O) (.fin [(0, Pt a7), (1, Pt a9), (18, .bool (decide (b1 ≤ b4)))] O ⟨O, O, O, trivial⟩ (ai ?_))))))))))))))))
 refine bu O (fun h6 => ?_) (fun h7 => ?_)
 refine ap (dh (fun eg => (jJ 3 O d6 O (i := (IntKind.i64.wrap ((af.length : Int) - 1)).toNat) (by omega) (0 : Int) (fun hT hx hU e5 e6 hq hcell16v => ?_))))
 obtain rfl := e6
 refine bK [[], [0], [0, 1], [0, 1, 2], [], [4], [4, 5], [4, 5, 6], [4, 5, 6, 7], [4, 5, 6, 7, 8], rL 10, rL 11, rL 12] 103 O mixed (by decide) (dl 0 [0] O O O (oL O bb 6 O) (dq 1 O O O (bi O O) (dq 2 O O O (oF O av O bp O) (dl 3 [] O O O (oL O bO 2 O) (dl 4 [0] O O O (oL O bb 6 O) (dq 5 O O O (bi O O) (dq 6 O O O (oF O av O bp O) (dl 7 [] O O O (oL O bO 2 O) (dq 8 O O O (bL O O O aO) (dq 9 O O O (eL O O O) (dq 10 O O O (dM O O O e5 aO aa eg.1 eg.2) (dl 11 [] O O O (dR O O ae (hcell16v 3 O 0 _ O)) (dq 12 O O O (dx O O) (.fin [(0, Pt a7), (1, Pt a9), (2, Iv (af.getD (IntKind.i64.wrap ((af.length : Int) - 1)).toNat (0 : Int)))] O ⟨O, O, O, trivial⟩ (ai (ap (bC (fun ei e7 => (bC (fun be e8 => (bC (fun hV e9 => (bK [[], [0], [0, 1], [0, 1, 2], [], [4], rL 6, rL 7] 103 O mixed (by decide) (dl 0 [0] O O O (oL O bb 6 O) (dq 1 O O O (bi O O) (dq 2 O O O (oF O av O eR O) (dl 3 [] O O O (oL O co 2 O) (dqo 4 [2] O O O (am O O) (de 5 [] O O O O (oC (vs := [Iv (af.getD (IntKind.i64.wrap ((af.length : Int) - 1)).toNat (0 : Int))]) (cap := []) (A := []) O fE (.a (.a (.a (.a (.a (.a (.a (.a (.a .n))))))))) (cA.calls _ _ k (af.getD (IntKind.i64.wrap ((af.length : Int) - 1)).toNat (0 : Int)) (hgl.lend 8 O)) e7) (fun hk => (ac (px [] O O O O (oL O co 2 O)) (ac (px [0] O O O O (oL O bb 6 O)) zA))) (fun hk => (de 6 [] O O O O (oC (vs := [Pt ab, str ei]) (cap := []) (A := [W0 ab bt cs c0 c1, ax (au bt aB ar b0) ak b0 ch]) O call46 (.a (.a (.a (.a (.a (.a (.a (.a (.a .n))))))))) (cX.calls _ _ ab bt b0 ch cs c0 c1 ei ) e8) (fun b9 => zA) (fun b9 => (de 7 [] O O O O (oC (vs := [Iv be.1]) (cap := []) (A := []) O dN (.a (.a (.a (.a (.a (.a (.a (.a (.a .n))))))))) (cm.calls _ _ be.1 ) e9) (fun hl => zA) (fun hl => (.fin [(0, Pt a7), (1, Pt a9), (2, Iv (af.getD (IntKind.i64.wrap ((af.length : Int) - 1)).toNat (0 : Int)))] O ⟨O, O, O, trivial⟩ (ai (aG (vq (oL O bb 6 O) O (oM O (vq (cn O O O) O (aj (fun bc fl => (oE (kQ (vs := [Pt ad, Iv (IntKind.i64.wrap ((af.getD (IntKind.i64.wrap ((af.length : Int) - 1)).toNat (0 : Int)) + 1))]) (cap := []) (A := [W1 ab b9.1 be.2.2, ax (au b9.1 aB ar b9.2) ak b9.2 be.2.1, W7 ad ab b1 af b4 c2 c3 c4 c5 c6 br bs b2 b3 b5 b6, ah 3 1 (V3 tt) b2 af b3, ah 144 5 (ba b7) b5 br b6, b7]) O O O O O O call42 (.a (.a (.a (.sel' 0 O (ah.mk d6) (.sel' 0 O (ah.mk ef) (.a (.a (.a (.a .n))))))))) (fU.calls _ _ k ad ab b9.1 b9.2 be.2.1 be.2.2.1 be.2.2.2.1 be.2.2.2.2 b1 b2 b3 af b4 c2 c3 c4 c5 c6 b5 b6 br b7 bs (IntKind.i64.wrap ((af.getD (IntKind.i64.wrap ((af.length : Int) - 1)).toNat (0 : Int)) + 1)) (hgl.lend 2 O)) fl) O ?_)))))))))))))))))))))))))))))))))))))))))))
 intro cd
 refine aw ?_
 exact aF (s := bc) (cd.1, cd.2.1, cd.2.2.1, cd.2.2.2.1, cd.2.2.2.2.2.2, cd.2.2.2.2.1, cd.2.2.2.2.2.1) ⟨O, O, trivial⟩ (.a (.b (.e (.e (.a (.a (.a (.a (.a .n)))))))))
 refine aA ?_
 exact aF (s := (ch, cs, c0, c1, b1, af, b4, c2, c3, c4, c5, c6, br, bs)) (bt, b0, b2, b3, b7, b5, b6) ⟨O, O, trivial⟩ (.a (.b (.e (.e (.a (.sel' 0 O (ah.mk d6) (.sel' 0 O (ah.mk ef) (.a (.a .n)))))))))
 intro n o
 refine ap (bq 5 O (fun hy c9 => (bq 6 O (fun hz d9 => (dh (fun ea => (jJ 5 O c9 O (i := (IntKind.i64.wrap ((n.2.2.2.2.2.1.length : Int) - 1)).toNat) (by omega) (0 : Int) (fun hW hA hX fn fp hr hcell40v => ?_))))))))
 obtain rfl := fp
 refine bK [[], [0], [0, 1], [0, 1, 2], [], [4], [4, 5], [4, 5, 6], [4, 5, 6, 7], [4, 5, 6, 7, 8], rL 10, rL 11, rL 12] 103 O mixed (by decide) (dl 0 [0] O O O (oL O bb 2 O) (dq 1 O O O (bi O O) (dq 2 O O O (oF O av O bp O) (dl 3 [] O O O (oL O bO 1 O) (dl 4 [0] O O O (oL O bb 2 O) (dq 5 O O O (bi O O) (dq 6 O O O (oF O av O bp O) (dl 7 [] O O O (oL O bO 1 O) (dq 8 O O O (bL O O O aO) (dq 9 O O O (eL O O O) (dq 10 O O O (dM O O O fn aO aa ea.1 ea.2) (dl 11 [] O O O (dR O O ae (hcell40v 5 O 0 _ O)) (dq 12 O O O (dx O O) (.fin [(0, Pt a7), (1, Pt a9), (3, Iv (n.2.2.2.2.2.1.getD (IntKind.i64.wrap ((n.2.2.2.2.2.1.length : Int) - 1)).toNat (0 : Int)))] O ⟨O, O, O, trivial⟩ (ai (sr (vq (oL O bb 2 O) O (vq (cF 3 O O isAgg45 ia O O) O (aj (fun p fr => (bw 5 O (fun fs ft fz hB => (bw 6 O (fun go gs gy hC => (oE (oC (vs := [Pt ad, .agg #[.bool az, Iv a0, Iv a1, Iv a2, Iv a3, Iv a4, .slice a5 ag.length al]]) (cap := []) (A := [W11 ab o.1 n.2, ax (au o.1 aB ar o.2.1) ak o.2.1 n.1, W12 ad ab n.q4 o.2.2.1 o.2.2.2.1 o.q4.2.1 o.q4.2.2]) O call51 (.a (.d (.a (.a (.a (.a (.a (.a (.a .n))))))))) (cZ.calls _ _ k ad ab o.1 o.2.1 n.1 n.2.1 n.2.2.1 n.2.2.2.1 n.2.2.2.2.1 o.2.2.1 o.2.2.2.1 n.2.2.2.2.2.1 n.2.2.2.2.2.2.1 n.2.2.2.2.2.2.2.1 n.2.2.2.2.2.2.2.2.1 n.2.2.2.2.2.2.2.2.2.1 n.2.2.2.2.2.2.2.2.2.2.1 n.2.2.2.2.2.2.2.2.2.2.2.1 o.2.2.2.2.2.1 o.2.2.2.2.2.2 n.2.2.2.2.2.2.2.2.2.2.2.2.1 n.2.2.2.2.2.2.2.2.2.2.2.2.2 az a0 a1 a2 a3 a4 a5 al ag ((Rd.asV c9 fs).up (Up.lend 2 O) (fun _ _ h => h)) ft fz ((Rd.asV d9 go).up (Up.lend 3 O) (ba.up (Up.lend 4 O))) gs gy (e4.up (Up.lend 5 O) (V35.up (Up.lend 5 O))) ed ee) fr) O ?_)))))))))))))))))))))))))
 intro t
 refine oA O (nx (oA O (oT ?_)))
 refine bP (S := Lb) (Option Addr × Nat) (fun s y => [(0, Pt a7), (3, Iv (n.2.2.2.2.2.1.getD (IntKind.i64.wrap ((n.2.2.2.2.2.1.length : Int) - 1)).toNat (0 : Int))), (4, .slice t.1 p.length t.2.1), (5, .slice y.1 s.length y.2)]) (fun s y => [W11 ab o.1 n.2, W12 ad ab n.2.2.2.2 o.2.2.1 o.2.2.2.1 o.2.2.2.2.2.1 o.2.2.2.2.2.2, obj a7 36 [Pt ad], W13 a9 az a0 a1 a2 a3 a4 ag a5 al, ah 102 11 (gh t.2.2) t.1 p t.2.1, Row 5 1 y.1 s.length y.2 (aL s), ax (au o.1 aB ar o.2.1) ak o.2.1 n.1, ah 3 1 (V3 tt) o.2.2.1 n.2.2.2.2.2.1 o.2.2.2.1, ah 144 5 (ba o.2.2.2.2.1) o.2.2.2.2.2.1 n.2.2.2.2.2.2.2.2.2.2.2.2.1 o.2.2.2.2.2.2, t.2.2, o.2.2.2.2.1, F]) ?_ ?_
 refine sr (oM O (vq (bL O O O dv) O (oM O (oT (aZ ?_)))))
 refine da (S := Lb × Int) (Option Addr × Nat) (fun k s => cO.l0 p k s.1 s.2) (fun s y => [(0, Pt a7), (3, Iv (n.2.2.2.2.2.1.getD (IntKind.i64.wrap ((n.2.2.2.2.2.1.length : Int) - 1)).toNat (0 : Int))), (4, .slice t.1 p.length t.2.1), (5, .slice y.1 s.1.length y.2), (58, .slice t.1 p.length t.2.1), (59, Iv (p.length : Int)), (60, Iv s.2)]) (fun s y => [W11 ab o.1 n.2, W12 ad ab n.2.2.2.2 o.2.2.1 o.2.2.2.1 o.2.2.2.2.2.1 o.2.2.2.2.2.2, obj a7 36 [Pt ad], W13 a9 az a0 a1 a2 a3 a4 ag a5 al, ah 102 11 (gh t.2.2) t.1 p t.2.1, Row 5 1 y.1 s.1.length y.2 (aL s.1), ax (au o.1 aB ar o.2.1) ak o.2.1 n.1, ah 3 1 (V3 tt) o.2.2.1 n.2.2.2.2.2.1 o.2.2.2.1, ah 144 5 (ba o.2.2.2.2.1) o.2.2.2.2.2.1 n.2.2.2.2.2.2.2.2.2.2.2.2.1 o.2.2.2.2.2.2, t.2.2, o.2.2.2.2.1, F]) (fun _ => by rw [cO.l0]) ?_ k (([] : Lb), 0) (none, 0) ⟨O, O, O, O, O, O, O, trivial⟩ (.c (.d (.d (.d (.a (.row_nil (.b (.sel' 1 O (ah.mk c9) (.sel' 1 O (ah.mk d9) (.a (.a (.a .n))))))))))))
 intro k u ds
 refine dW (by rw [cO.l0]) (sr (vq (dG O O O) O (oT (ap ?_))))
 refine bu O (fun hY => ?_) (fun hZ => ?_)
 refine aA (ai (ap (aZ (sr (bk 4 O (fun g0 eb => (bo (fun ec => (gv 4 O eb O (i := u.2.toNat) (by omega) aQ (fun h0 hE h2 g1 g2 hs hcell67v => ?_))))))))))
 obtain ⟨d7, d8, rfl, ⟨g3, g4, g5⟩⟩ := g2
 refine vq (dM O O O g1 dv bV ec.1 ec.2) O (vq (cw O O dH bV O (fun j v hj => hcell67v 4 O j v hj)) O (oE (bX O iF O) O ?_))
 intro hm
 refine bg (aI 0 O O O bV O O (aM (by rfl)) O O) O O ?_
 intro _
 refine cl (H' := [W20 hm (p.getD u.2.toNat aQ) d7 d8, W11 ab o.1 n.2, W12 ad ab n.2.2.2.2 o.2.2.1 o.2.2.2.1 o.2.2.2.2.2.1 o.2.2.2.2.2.2, obj a7 36 [Pt ad], W13 a9 az a0 a1 a2 a3 a4 ag a5 al, Row 102 11 t.1 p.length t.2.1 g0.flatten, Row 5 1 ds.1 u.1.length ds.2 (aL u.1), ax (au o.1 aB ar o.2.1) ak o.2.1 n.1, ah 3 1 (V3 tt) o.2.2.1 n.2.2.2.2.2.1 o.2.2.2.1, ah 144 5 (ba o.2.2.2.2.1) o.2.2.2.2.2.1 n.2.2.2.2.2.2.2.2.2.2.2.2.1 o.2.2.2.2.2.2, t.2.2, o.2.2.2.2.1, F]) (Ent.refl _) (ny (oM O (vq (cF 0 O O dH bV O O) O (aj (fun hn g6 => (oE (oC (vs := [.agg #[Iv ((p.getD u.2.toNat aQ).1), Iv ((p.getD u.2.toNat aQ).2.1), Iv ((p.getD u.2.toNat aQ).2.2.1), Iv ((p.getD u.2.toNat aQ).2.2.2.1), Iv ((p.getD u.2.toNat aQ).2.2.2.2.1), Iv ((p.getD u.2.toNat aQ).2.2.2.2.2.1), Iv ((p.getD u.2.toNat aQ).2.2.2.2.2.2.1), Iv ((p.getD u.2.toNat aQ).2.2.2.2.2.2.2.1), Iv ((p.getD u.2.toNat aQ).2.2.2.2.2.2.2.2.1), Iv ((p.getD u.2.toNat aQ).2.2.2.2.2.2.2.2.2.1), .slice d7 (((p.getD u.2.toNat aQ).2.2.2.2.2.2.2.2.2.2).length) d8]]) (cap := []) (A := []) O call52 (.a (.a (.a (.a (.a (.a (.a (.a (.a (.a (.a (.a (.a .n))))))))))))) (dT.calls _ _ k ((p.getD u.2.toNat aQ).1) ((p.getD u.2.toNat aQ).2.1) ((p.getD u.2.toNat aQ).2.2.1) ((p.getD u.2.toNat aQ).2.2.2.1) ((p.getD u.2.toNat aQ).2.2.2.2.1) ((p.getD u.2.toNat aQ).2.2.2.2.2.1) ((p.getD u.2.toNat aQ).2.2.2.2.2.2.1) ((p.getD u.2.toNat aQ).2.2.2.2.2.2.2.1) ((p.getD u.2.toNat aQ).2.2.2.2.2.2.2.2.1) ((p.getD u.2.toNat aQ).2.2.2.2.2.2.2.2.2.1) d7 d8 ((p.getD u.2.toNat aQ).2.2.2.2.2.2.2.2.2.2) (g3.lend 10 O) g4 g5) g6) O ?_))))))
 intro h3
 refine bo (fun g7 => (oE (iG 7 O O O aH ks O (Rds.row 0 O) g7) O ?_))
 intro ek
 refine oA O (aw (bz (ai (aG (vq (cn O O O) O (oM O (aw ?_)))))))
 exact bT (s := (u.1 ++ hn, IntKind.i64.wrap (u.2 + 1))) ek ⟨O, O, O, O, O, O, O, trivial⟩ (.c (.c (.c (.c (.sel' 2 O (ah.mk eb) (.c (.c (.c (.c (.c (.c (.c .n))))))))))))
 refine dt (cK (cU (cN ?_)))
 exact aF (s := u.1) ds ⟨O, O, O, O, trivial⟩ (.a (.a (.a (.a (.a (.a (.a (.a (.a (.a (.a (.a .n))))))))))))
 intro an a6
 refine bP (S := (List (Lb × (Lb × Int))) × Lb × Int × Bool) (Nat × Kps) (fun s y => [(0, Pt a7), (3, Iv (n.2.2.2.2.2.1.getD (IntKind.i64.wrap ((n.2.2.2.2.2.1.length : Int) - 1)).toNat (0 : Int))), (4, .slice t.1 p.length t.2.1), (5, .slice a6.1 an.length a6.2)]) (fun s y => [W1 ab y.1 s.2, W12 ad ab n.2.2.2.2 o.2.2.1 o.2.2.2.1 o.2.2.2.2.2.1 o.2.2.2.2.2.2, obj a7 36 [Pt ad], W13 a9 az a0 a1 a2 a3 a4 ag a5 al, ah 102 11 (gh t.2.2) t.1 p t.2.1, Row 5 1 a6.1 an.length a6.2 (aL an), ax (au y.1 aB ar y.2) ak y.2 s.1, ah 3 1 (V3 tt) o.2.2.1 n.2.2.2.2.2.1 o.2.2.2.1, ah 144 5 (ba o.2.2.2.2.1) o.2.2.2.2.2.1 n.2.2.2.2.2.2.2.2.2.2.2.2.1 o.2.2.2.2.2.2, t.2.2, o.2.2.2.2.1, F]) ?_ ?_
 refine sr (oM O (vq (bL O O O dv) O (vq (dO O O O) O (oT ?_))))
 refine bu O (fun h4 => ?_) (fun h5 => ?_)
 refine bq 4 O (fun hF g8 => (bq 7 O (fun hG g9 => (bq 8 O (fun hH ha => (bC (fun el hb => (bC (fun c8 hc => (bC (fun hI em => (bK [[], [0], [0, 1], [0, 1, 2], [], [4], [], rL 7, rL 8] 103 O mixed (by decide) (dl 0 [0] O O O (oL O bb 2 O) (dq 1 O O O (bi O O) (dq 2 O O O (oF O av O eR O) (dl 3 [] O O O (oL O co 1 O) (dqo 4 [3] O O O (am O O) (dqo 6 [5] O O O (am O O) (de 5 [] O O O O (oC (vs := [Iv (n.2.2.2.2.2.1.getD (IntKind.i64.wrap ((n.2.2.2.2.2.1.length : Int) - 1)).toNat (0 : Int))]) (cap := []) (A := []) O fE (.a (.a (.a (.a (.a (.a (.a (.a (.a (.a (.a (.a .n)))))))))))) (cA.calls _ _ k (n.2.2.2.2.2.1.getD (IntKind.i64.wrap ((n.2.2.2.2.2.1.length : Int) - 1)).toNat (0 : Int)) (hgl.lend 11 O)) hb) (fun ho => (ac (px [] O O O O (oL O co 1 O)) (ac (px [0] O O O O (oL O bb 2 O)) zA))) (fun ho => (de 7 [] O O O O (RE.lend 5 O (fun he hf hg hK => oC (vs := [Pt ab, str el, .slice a6.1 an.length a6.2]) (cap := []) (A := [W11 ab o.1 n.2, ax (au o.1 aB ar o.2.1) ak o.2.1 n.1]) O call22 (.a (.f (.a (.a (.a (.a (.a (.a (.a (.a (.a (.a .n)))))))))))) (eO.calls _ _ ab o.1 o.2.1 n.1 n.2.1 n.2.2.1 n.2.2.2.1 el a6.1 a6.2 an (he.lend 4 O) hf hg) hc)) (fun dz => zA) (fun dz => (de 8 [] O O O O (oC (vs := [Iv c8.1]) (cap := []) (A := []) O dN (.a (.a (.a (.a (.a (.a (.a (.a (.a (.a (.a (.a .n)))))))))))) (cm.calls _ _ c8.1 ) em) (fun hh => zA) (fun hh => (.fin [(0, Pt a7), (3, Iv (n.2.2.2.2.2.1.getD (IntKind.i64.wrap ((n.2.2.2.2.2.1.length : Int) - 1)).toNat (0 : Int))), (4, .slice t.1 p.length t.2.1), (5, .slice a6.1 an.length a6.2)] O ⟨O, O, O, O, trivial⟩ ?_)))))))))))))))))))))))))
 exact aF (s := c8.2) dz ⟨O, O, O, O, trivial⟩ (.a (.b (.b (.b (.sel' 1 O (ah.mk g8) (.b (.a (.sel' 0 O (ah.mk g9) (.sel' 0 O (ah.mk ha) (.a (.a (.a .n))))))))))))
 refine aA ?_
 exact aF (s := (n.1, n.2.1, n.2.2.1, n.2.2.2.1)) (o.1, o.2.1) ⟨O, O, O, O, trivial⟩ (.a (.a (.a (.a (.a (.a (.a (.a (.a (.a (.a (.a .n))))))))))))
 intro x z
 refine sr (vq (oL O bb 2 O) O (oN O (vq (oF O av O aa O) O (vq (oL O ae 1 O) O (oM O (vq (bL O O O aH) O (vq (cn O O O) O (oN O (vq (oF O av O aa O) O (bg (aI 1 O O O aa O O (aM (by rfl)) O O) O O ?_))))))))))
 intro _
 refine cl (H' := [W1 ab z.1 x.2, W7 ad ab n.2.2.2.2.1 n.2.2.2.2.2.1 (IntKind.i64.wrap (n.2.2.2.2.2.2.1 + (an.length : Int))) n.2.2.2.2.2.2.2.1 n.2.2.2.2.2.2.2.2.1 n.2.2.2.2.2.2.2.2.2.1 n.2.2.2.2.2.2.2.2.2.2.1 n.2.2.2.2.2.2.2.2.2.2.2.1 n.2.2.2.2.2.2.2.2.2.2.2.2.1 n.2.2.2.2.2.2.2.2.2.2.2.2.2 o.2.2.1 o.2.2.2.1 o.2.2.2.2.2.1 o.2.2.2.2.2.2, obj a7 36 [Pt ad], W13 a9 az a0 a1 a2 a3 a4 ag a5 al, ah 102 11 (gh t.2.2) t.1 p t.2.1, Row 5 1 a6.1 an.length a6.2 (aL an), ax (au z.1 aB ar z.2) ak z.2 x.1, ah 3 1 (V3 tt) o.2.2.1 n.2.2.2.2.2.1 o.2.2.2.1, ah 144 5 (ba o.2.2.2.2.1) o.2.2.2.2.2.1 n.2.2.2.2.2.2.2.2.2.2.2.2.1 o.2.2.2.2.2.2, t.2.2, o.2.2.2.2.1, F]) (Ent.refl _) (nx (oM O (vq (bL O O O dv) O (oM O (oT (aZ (bq 4 O (fun a8 en => (kj 4 O (fun er es et ht => (gq (H' := [bl [Row 102 11 t.1 p.length t.2.1 a8.flatten, t.2.2], W1 ab z.1 x.2, W7 ad ab n.2.2.2.2.1 n.2.2.2.2.2.1 (IntKind.i64.wrap (n.2.2.2.2.2.2.1 + (an.length : Int))) n.2.2.2.2.2.2.2.1 n.2.2.2.2.2.2.2.2.1 n.2.2.2.2.2.2.2.2.2.1 n.2.2.2.2.2.2.2.2.2.2.1 n.2.2.2.2.2.2.2.2.2.2.2.1 n.2.2.2.2.2.2.2.2.2.2.2.2.1 n.2.2.2.2.2.2.2.2.2.2.2.2.2 o.2.2.1 o.2.2.2.1 o.2.2.2.2.2.1 o.2.2.2.2.2.2, obj a7 36 [Pt ad], W13 a9 az a0 a1 a2 a3 a4 ag a5 al, Row 5 1 a6.1 an.length a6.2 (aL an), ax (au z.1 aB ar z.2) ak z.2 x.1, ah 3 1 (V3 tt) o.2.2.1 n.2.2.2.2.2.1 o.2.2.2.1, ah 144 5 (ba o.2.2.2.2.1) o.2.2.2.2.2.1 n.2.2.2.2.2.2.2.2.2.2.2.2.1 o.2.2.2.2.2.2, o.2.2.2.2.1, F]) (Ent.trans (m := [Row 102 11 t.1 p.length t.2.1 a8.flatten, t.2.2, W1 ab z.1 x.2, W7 ad ab n.2.2.2.2.1 n.2.2.2.2.2.1 (IntKind.i64.wrap (n.2.2.2.2.2.2.1 + (an.length : Int))) n.2.2.2.2.2.2.2.1 n.2.2.2.2.2.2.2.2.1 n.2.2.2.2.2.2.2.2.2.1 n.2.2.2.2.2.2.2.2.2.2.1 n.2.2.2.2.2.2.2.2.2.2.2.1 n.2.2.2.2.2.2.2.2.2.2.2.2.1 n.2.2.2.2.2.2.2.2.2.2.2.2.2 o.2.2.1 o.2.2.2.1 o.2.2.2.2.2.1 o.2.2.2.2.2.2, obj a7 36 [Pt ad], W13 a9 az a0 a1 a2 a3 a4 ag a5 al, Row 5 1 a6.1 an.length a6.2 (aL an), ax (au z.1 aB ar z.2) ak z.2 x.1, ah 3 1 (V3 tt) o.2.2.1 n.2.2.2.2.2.1 o.2.2.2.1, ah 144 5 (ba o.2.2.2.2.1) o.2.2.2.2.2.1 n.2.2.2.2.2.2.2.2.2.2.2.2.1 o.2.2.2.2.2.2, o.2.2.2.2.1, F]) (.e (.i (.a (.a (.a (.a (.a (.a (.a (.a (.a (.a .n)))))))))))) (jv [Row 102 11 t.1 p.length t.2.1 a8.flatten, t.2.2] _)) (bq 8 O (fun d3 ex => (gq (H' := [bl [bl [Row 102 11 t.1 p.length t.2.1 a8.flatten, t.2.2], o.2.2.2.2.1], W1 ab z.1 x.2, W7 ad ab n.2.2.2.2.1 n.2.2.2.2.2.1 (IntKind.i64.wrap (n.2.2.2.2.2.2.1 + (an.length : Int))) n.2.2.2.2.2.2.2.1 n.2.2.2.2.2.2.2.2.1 n.2.2.2.2.2.2.2.2.2.1 n.2.2.2.2.2.2.2.2.2.2.1 n.2.2.2.2.2.2.2.2.2.2.2.1 n.2.2.2.2.2.2.2.2.2.2.2.2.1 n.2.2.2.2.2.2.2.2.2.2.2.2.2 o.2.2.1 o.2.2.2.1 o.2.2.2.2.2.1 o.2.2.2.2.2.2, obj a7 36 [Pt ad], W13 a9 az a0 a1 a2 a3 a4 ag a5 al, Row 5 1 a6.1 an.length a6.2 (aL an), ax (au z.1 aB ar z.2) ak z.2 x.1, ah 3 1 (V3 tt) o.2.2.1 n.2.2.2.2.2.1 o.2.2.2.1, Row 144 5 o.2.2.2.2.2.1 n.2.2.2.2.2.2.2.2.2.2.2.2.1.length o.2.2.2.2.2.2 d3.flatten, F]) (Ent.trans (m := [bl [Row 102 11 t.1 p.length t.2.1 a8.flatten, t.2.2], o.2.2.2.2.1, W1 ab z.1 x.2, W7 ad ab n.2.2.2.2.1 n.2.2.2.2.2.1 (IntKind.i64.wrap (n.2.2.2.2.2.2.1 + (an.length : Int))) n.2.2.2.2.2.2.2.1 n.2.2.2.2.2.2.2.2.1 n.2.2.2.2.2.2.2.2.2.1 n.2.2.2.2.2.2.2.2.2.2.1 n.2.2.2.2.2.2.2.2.2.2.2.1 n.2.2.2.2.2.2.2.2.2.2.2.2.1 n.2.2.2.2.2.2.2.2.2.2.2.2.2 o.2.2.1 o.2.2.2.1 o.2.2.2.2.2.1 o.2.2.2.2.2.2, obj a7 36 [Pt ad], W13 a9 az a0 a1 a2 a3 a4 ag a5 al, Row 5 1 a6.1 an.length a6.2 (aL an), ax (au z.1 aB ar z.2) ak z.2 x.1, ah 3 1 (V3 tt) o.2.2.1 n.2.2.2.2.2.1 o.2.2.2.1, Row 144 5 o.2.2.2.2.2.1 n.2.2.2.2.2.2.2.2.2.2.2.2.1.length o.2.2.2.2.2.2 d3.flatten, F]) (.a (.i (.a (.a (.a (.a (.a (.a (.a (.a (.a .n))))))))))) (jv [bl [Row 102 11 t.1 p.length t.2.1 a8.flatten, t.2.2], o.2.2.2.2.1] _)) ?_))))))))))))))
 refine da (S := Int × Int × List Int × Int × Int × Int × Int × Int × Int × (List aP) × Bool) (Option Addr × Nat × HA × Option Addr × Nat) (fun k s => cO.l1 n p x k s.1 s.2.1 s.2.2.1 s.2.2.2.1 s.2.2.2.2.1 s.2.2.2.2.2.1 s.2.2.2.2.2.2.1 s.2.2.2.2.2.2.2.1 s.2.2.2.2.2.2.2.2.1 s.2.2.2.2.2.2.2.2.2.1 s.2.2.2.2.2.2.2.2.2.2) (fun s y => [(0, Pt a7), (3, Iv (n.2.2.2.2.2.1.getD (IntKind.i64.wrap ((n.2.2.2.2.2.1.length : Int) - 1)).toNat (0 : Int))), (90, .slice t.1 p.length t.2.1), (91, Iv (p.length : Int)), (92, Iv s.1)]) (fun s y => [pr (RdV y.2.2.1 11 (gh y.2.2.1) t.1 p ∧ p.length ≤ t.2.1 ∧ t.2.1 ≤ maxLen), W1 ab z.1 x.2, W12 ad ab s.2 y.1 y.2.1 y.2.2.2.1 y.2.2.2.2, obj a7 36 [Pt ad], W13 a9 az a0 a1 a2 a3 a4 ag a5 al, ax (au z.1 aB ar z.2) ak z.2 x.1, ah 3 1 (V3 tt) y.1 s.2.2.1 y.2.1, ah 144 5 (ba y.2.2.1) y.2.2.2.1 s.2.2.2.2.2.2.2.2.2.1 y.2.2.2.2, y.2.2.1, F]) (fun _ => by rw [cO.l1]) ?_ k (0, n.2.2.2.2.1, n.2.2.2.2.2.1, IntKind.i64.wrap (n.2.2.2.2.2.2.1 + (an.length : Int)), n.2.2.2.2.2.2.2) (o.2.2.1, o.2.2.2.1, bl [bl [Row 102 11 t.1 p.length t.2.1 a8.flatten, t.2.2], o.2.2.2.2.1], o.2.2.2.2.2) ⟨O, O, O, O, O, trivial⟩ (.pr_in ⟨((Rd.asV (en.mono (gh.up (Up.lend (l := [Row 102 11 t.1 p.length t.2.1 a8.flatten, t.2.2]) 1 O))) (Rd.lend (l := [Row 102 11 t.1 p.length t.2.1 a8.flatten, t.2.2]) er 0 O)).up (Up.lend (l := [bl [Row 102 11 t.1 p.length t.2.1 a8.flatten, t.2.2], o.2.2.2.2.1]) 0 O) (gh.up (Up.lend (l := [bl [Row 102 11 t.1 p.length t.2.1 a8.flatten, t.2.2], o.2.2.2.2.1]) 0 O))), es, et⟩ (.b (.b (.b (.b (.c (.c (.sel' 2 O (ah.mk (ex.mono (ba.up (Up.lend (l := [bl [Row 102 11 t.1 p.length t.2.1 a8.flatten, t.2.2], o.2.2.2.2.1]) 1 O)))) (.a (.b .n))))))))))
 intro k q w
 refine dW (by rw [cO.l1]) (qg (fun c7 => (sr (vq (dG O O O) O (oT (ap ?_))))))
 refine bu O (fun hL => ?_) (fun hM => ?_)
 refine aA (ai (ap (aZ (sr (bo (fun d4 => ?_))))))
 obtain ⟨hO, hu, hP, eA, eB, hp, hcell135v⟩ := RdV.pos c7.1 (Up.refl _) rfl (i := q.1.toNat) (by omega) aQ
 obtain ⟨d1, d2, rfl, ⟨eD, eF, e0⟩⟩ := eB
 refine vq (dM O O O eA dv bV d4.1 d4.2) O (vq (cw O O dH bV O (fun j v hj => hcell135v 7 O j v hj)) O (oE (bX O iF O) O ?_))
 intro hi
 refine bg (aI 0 O O O bV O O (aM (by rfl)) O O) O O ?_
 intro _
 refine cl (H' := [W20 hi (p.getD q.1.toNat aQ) d1 d2, W1 ab z.1 x.2, W12 ad ab q.2 w.1 w.2.1 w.2.2.2.1 w.2.2.2.2, obj a7 36 [Pt ad], W13 a9 az a0 a1 a2 a3 a4 ag a5 al, ax (au z.1 aB ar z.2) ak z.2 x.1, ah 3 1 (V3 tt) w.1 q.2.2.1 w.2.1, ah 144 5 (ba w.2.2.1) w.2.2.2.1 q.2.2.2.2.2.2.2.2.2.1 w.2.2.2.2, w.2.2.1, F]) (Ent.refl _) (oT (bq 6 O (fun hv e1 => (bq 7 O (fun hw e2 => (bC (fun bd e3 => (bK [[], [0], [0, 1], [], [], rL 5] 103 O mixed (by decide) (dl 0 [0] O O O (oL O bb 3 O) (dq 1 O O O (bi O O) (dq 2 O O O (oF O av O fb O) (dl 3 [9] O O O (cF 0 O O dH bV O O) (dqo 4 [3] O O O (am O O) (de 5 [] O O O O (oC (vs := [.pointer (some ⟨ad, 4, none⟩), .agg #[Iv ((p.getD q.1.toNat aQ).1), Iv ((p.getD q.1.toNat aQ).2.1), Iv ((p.getD q.1.toNat aQ).2.2.1), Iv ((p.getD q.1.toNat aQ).2.2.2.1), Iv ((p.getD q.1.toNat aQ).2.2.2.2.1), Iv ((p.getD q.1.toNat aQ).2.2.2.2.2.1), Iv ((p.getD q.1.toNat aQ).2.2.2.2.2.2.1), Iv ((p.getD q.1.toNat aQ).2.2.2.2.2.2.2.1), Iv ((p.getD q.1.toNat aQ).2.2.2.2.2.2.2.2.1), Iv ((p.getD q.1.toNat aQ).2.2.2.2.2.2.2.2.2.1), .slice d1 (((p.getD q.1.toNat aQ).2.2.2.2.2.2.2.2.2.2).length) d2], Iv (n.2.2.2.2.2.1.getD (IntKind.i64.wrap ((n.2.2.2.2.2.1.length : Int) - 1)).toNat (0 : Int))]) (cap := []) (A := [W1 ab z.1 x.2, ax (au z.1 aB ar z.2) ak z.2 x.1, W12 ad ab q.2 w.1 w.2.1 w.2.2.2.1 w.q4, ah 3 1 (V3 tt) w.1 q.2.2.1 w.2.1, ah 144 5 (ba w.2.2.1) w.2.2.2.1 q.q8.2.1 w.q4, w.2.2.1]) O call53 (.b (.e (.b (.sel' 3 O (ah.mk e1) (.sel' 3 O (ah.mk e2) (.d (.a (.a (.a (.a .n)))))))))) (eQ.calls _ _ ad ab z.1 z.2 x.1 x.2.1 x.2.2.1 x.2.2.2 q.2.1 w.1 w.2.1 q.2.2.1 q.2.2.2.1 q.2.2.2.2.1 q.2.2.2.2.2.1 q.2.2.2.2.2.2.1 q.2.2.2.2.2.2.2.1 q.2.2.2.2.2.2.2.2.1 w.2.2.2.1 w.2.2.2.2 q.2.2.2.2.2.2.2.2.2.1 w.2.2.1 q.2.2.2.2.2.2.2.2.2.2 ((p.getD q.1.toNat aQ).1) ((p.getD q.1.toNat aQ).2.1) ((p.getD q.1.toNat aQ).2.2.1) ((p.getD q.1.toNat aQ).2.2.2.1) ((p.getD q.1.toNat aQ).2.2.2.2.1) ((p.getD q.1.toNat aQ).2.2.2.2.2.1) ((p.getD q.1.toNat aQ).2.2.2.2.2.2.1) ((p.getD q.1.toNat aQ).2.2.2.2.2.2.2.1) ((p.getD q.1.toNat aQ).2.2.2.2.2.2.2.2.1) ((p.getD q.1.toNat aQ).2.2.2.2.2.2.2.2.2.1) d1 d2 ((p.getD q.1.toNat aQ).2.2.2.2.2.2.2.2.2.2) (n.2.2.2.2.2.1.getD (IntKind.i64.wrap ((n.2.2.2.2.2.1.length : Int) - 1)).toNat (0 : Int)) eD eF e0) e3) (fun b8 => zA) (fun b8 => (.prk 0 O (fun d5 => (.fin [(0, Pt a7), (3, Iv (n.2.2.2.2.2.1.getD (IntKind.i64.wrap ((n.2.2.2.2.2.1.length : Int) - 1)).toNat (0 : Int))), (90, .slice t.1 p.length t.2.1), (91, Iv (p.length : Int)), (92, Iv q.1)] O ⟨O, O, O, O, O, trivial⟩ (bz (ai (aG (vq (cn O O O) O (oM O (aw ?_))))))))))))))))))))))))
 exact bT (s := (IntKind.i64.wrap (q.1 + 1), bd.2)) (b8.1, b8.2.1, b8.2.2.2.2, b8.2.2.1, b8.2.2.2.1) ⟨O, O, O, O, O, trivial⟩ (.pr_in ⟨(c7.1.up d5 (gh.up d5)), c7.2.1, c7.2.2⟩ (.b (.c (.g (.g (.b (.b (.b (.b (.c .n))))))))))
 refine dt (cK (cU (cN ?_)))
 exact gw (z.1, z.2, w.1, w.2.1, w.2.2.2.1, w.2.2.2.2, w.2.2.1) O O O (.a (.d (.a (.c (.c (.c (.a (.a (.a .n)))))))))

def fm.f (k : Nat) (c : List ((List UInt8) × (List UInt8 × Int))) (d : List UInt8) (e : Int) (g : Bool) (h : Int) (i : List Int) (j l m n o p : Int) (q : List (aP)) (b r : Bool) (s t u v w : Int) (x : List (aV)) : Option (Int × (List ((List UInt8) × (List UInt8 × Int))) × List UInt8 × Int × Bool × Int × List Int × Int × Int × Int × Int × Int × Int × (List (aP)) × Bool) := (cO.f k c d e g h i j l m n o p q b r s t u v w x).bind fun a => (some (0, a.1, a.2.1, a.2.2.1, a.2.2.2.1, a.2.2.2.2.1, a.2.2.2.2.2.1, a.2.2.2.2.2.2.1, a.2.2.2.2.2.2.2.1, a.2.2.2.2.2.2.2.2.1, a.2.2.2.2.2.2.2.2.2.1, a.2.2.2.2.2.2.2.2.2.2.1, a.2.2.2.2.2.2.2.2.2.2.2.1, a.2.2.2.2.2.2.2.2.2.2.2.2.1, a.2.2.2.2.2.2.2.2.2.2.2.2.2))
theorem fm.calls (W : World) (F : HA) (k z a4 h : Nat) (i : Kps) (ab : List (Lb × (Lb × Int))) (ad : Lb) (af : Int) (ag : Bool) (al : Int) (j : Option Addr) (l : Nat) (d : List Int) (an az a0 a1 a2 a3 : Int) (m : Option Addr) (n : Nat) (e : List aP) (o : HA) (p : Bool) (a6 a7 : Nat) (q : Bool) (s t u v w : Int) (x : Option Addr) (g : Nat) (b : List aV) (be : RdV F 4 (V35 F) x b) (a9 : b.length ≤ g) (bc : g ≤ maxLen) (hgl : Glb Tryz.prog F) :
    Fn Tryz.prog W 49 [Pt z, .func (.func 50) #[] #[Pt a6, Pt a7]] [W0 a4 h ad af ag, ax (au h aB ar i) ak i ab, W7 z a4 al d an az a0 a1 a2 a3 e p j l m n, ah 3 1 (V3 tt) j d l, ah 144 5 (ba o) m e n, o, obj a6 36 [Pt z], W13 a7 q s t u v w b x g] F (fm.f k ab ad af ag al d an az a0 a1 a2 a3 e p q s t u v w b) (fun r (y : Nat × Kps × Option Addr × Nat × Option Addr × Nat × HA) => Iv r.1) (fun r y => [W11 a4 y.1 r.2.2, ax (au y.1 aB ar y.2.1) ak y.2.1 r.2.1, W12 z a4 r.q4.2 y.2.2.1 y.2.2.2.1 y.q4.1 y.q4.2.1, ah 3 1 (V3 tt) y.2.2.1 r.q4.2.2.1 y.2.2.2.1, ah 144 5 (ba y.q4.2.2) y.q4.1 r.q8.q4.2.1 y.q4.2.1, y.q4.2.2, obj a6 36 [Pt z], W13 a7 q s t u v w b x g]) := by
 unfold fm.f
 refine lZ 8 Tryz.func49 O Tryz.ntmps49 O (sr (oE (cH O O O) O ?_))
 intro bd
 refine oE (bX O jG O) O ?_
 intro a8
 refine nx (vq (jj O O O) O (lz (cap := [Pt bd, Pt a8]) O O O O O O O (nx (oM O (bk 5 O (fun b0 br => (bk 6 O (fun b1 bs => (aj (fun b2 bt => (oE (oC (vs := []) (cap := [Pt a6, Pt a7]) (A := [W0 a4 h ad af ag, ax (au h aB ar i) ak i ab, W7 z a4 al d an az a0 a1 a2 a3 e p j l m n, ah 3 1 (V3 tt) j d l, ah 144 5 (ba o) m e n, o, obj a6 36 [Pt z], W13 a7 q s t u v w b x g]) O call50 (.c (.c (.c (.sel' 2 O (ah.mk br) (.sel' 2 O (ah.mk bs) (.c (.c (.c (.a (.a (.a .n))))))))))) (cO.calls _ _ k a6 z a4 h i ab ad af ag al j l d an az a0 a1 a2 a3 m n e o p a7 q s t u v w x g b (be.up (Up.lend 2 O) (V35.up (Up.lend 2 O))) a9 bc (hgl.lend 2 O)) bt) O ?_)))))))))))
 intro a5
 refine nx (bg (aI 8 O O O cT O O (aM (by rfl)) O O) O O ?_)
 intro _
 refine oT (ay ?_)
 exact lR (vs := [Iv 0]) 81 [Pt bd, Pt a8] (fM.quiet bd a8) call81 a5 O ⟨⟨a8, O, gz eX (.obj 8 O O)⟩, trivial⟩ O (.a (.a (.a (.a (.a (.a (.a (.a (.c .n)))))))))
end Go.Proofs.YtndjkejhacfpdaaGreatDoor

namespace Go.Proofs.YtndjkejhacfpdaaGreatDoor
open Go.RowKit _root_.Go.Proofs.Tryz
set_option maxRecDepth 20000
set_option maxHeartbeats 20000000
def il.f (k : Nat) (c : List ((List UInt8) × (List UInt8 × Int))) (d : List UInt8) (e : Int) (g : Bool) (h : Int) (i : List Int) (j l m n o p : Int) (q : List (aP)) (b r : Bool) (s t u v w : Int) (x : List (aV)) : Option (Int × (List ((List UInt8) × (List UInt8 × Int))) × List UInt8 × Int × Bool × Int × List Int × Int × Int × Int × Int × Int × Int × (List (aP)) × Bool) := if b = true then (some (11, c, d, e, g, h, i, j, l, m, n, o, p, q, b)) else ((ck.f k c d e g h i j l m n o p q b r s t u v w x).bind fun y => (if y = (0 : Int) then ((fm.f k c d e g h i j l m n o p q b r s t u v w x).bind fun a => (some (a.1, a.2.1, a.2.2.1, a.2.2.2.1, a.2.2.2.2.1, a.2.2.2.2.2.1, a.2.2.2.2.2.2.1, a.2.2.2.2.2.2.2.1, a.2.2.2.2.2.2.2.2.1, a.2.2.2.2.2.2.2.2.2.1, a.2.2.2.2.2.2.2.2.2.2.1, a.2.2.2.2.2.2.2.2.2.2.2.1, a.2.2.2.2.2.2.2.2.2.2.2.2.1, a.2.2.2.2.2.2.2.2.2.2.2.2.2.1, a.2.2.2.2.2.2.2.2.2.2.2.2.2.2))) else (some (y, c, d, e, g, h, i, j, l, m, n, o, p, q, b))))
theorem il.calls (W : World) (F : HA) (k al an d : Nat) (e : Kps) (s : List (Lb × (Lb × Int))) (t : Lb) (u : Int) (v : Bool) (w : Int) (g : Option Addr) (i : Nat) (m : List Int) (x z ab ad af ag : Int) (j : Option Addr) (l : Nat) (n : List aP) (p : HA) (o a1 : Bool) (a2 a3 a4 a5 a6 : Int) (a7 : Option Addr) (az : Nat) (q : List aV) (be : RdV F 4 (V35 F) a7 q) (bc : q.length ≤ az) (bd : az ≤ maxLen) (hgl : Glb Tryz.prog F) :
    Fn Tryz.prog W 17 [Pt al, .agg #[.bool a1, Iv a2, Iv a3, Iv a4, Iv a5, Iv a6, .slice a7 q.length az]] [W0 an d t u v, ax (au d aB ar e) ak e s, W7 al an w m x z ab ad af ag n o g i j l, ah 3 1 (V3 tt) g m i, ah 144 5 (ba p) j n l, p] F (il.f k s t u v w m x z ab ad af ag n o a1 a2 a3 a4 a5 a6 q) (fun r (y : Nat × Kps × Option Addr × Nat × Option Addr × Nat × HA) => Iv r.1) (fun r y => [W11 an y.1 r.2.2, ax (au y.1 aB ar y.2.1) ak y.2.1 r.2.1, W12 al an r.q4.2 y.2.2.1 y.2.2.2.1 y.q4.1 y.q4.2.1, ah 3 1 (V3 tt) y.2.2.1 r.q4.2.2.1 y.2.2.2.1, ah 144 5 (ba y.q4.2.2) y.q4.1 r.q8.q4.2.1 y.q4.2.1, y.q4.2.2]) := by
 unfold il.f
 refine aX 19 Tryz.func17 O Tryz.ntmps17 O (sr (oE (cH O O O) O ?_))
 intro br
 refine oE (cH O O O) O ?_
 intro bs
 refine oA O (oT (ap (sr (vq (oL O bb 1 O) O (oN O (vq (oF O av O cM O) O (vq (oL O dY 4 O) O (oT ?_))))))))
 refine bm O (fun c3 => ?_) (fun c4 => ?_)
 refine sr (oA O (oT (ay (aY ?_))))
 exact aJ (d, e, g, i, j, l, p) O O O (.c (.c (.c (.c (.c (.c (.c .n)))))))
 refine aA (ai (ap (sr (vq (oL O bb 1 O) O (vq (cF 0 O O isAgg45 ia O O) O (bk 5 O (fun b9 a8 => (bk 6 O (fun cd a9 => (aj (fun ch bt => (bw 5 O (fun b6 b0 b1 b7 => (bw 6 O (fun b2 b3 b4 b8 => (oE (oC (vs := [Pt al, .agg #[.bool a1, Iv a2, Iv a3, Iv a4, Iv a5, Iv a6, .slice a7 q.length az]]) (cap := []) (A := [W0 an d t u v, ax (au d aB ar e) ak e s, W7 al an w m x z ab ad af ag n o g i j l]) O call48 (.c (.c (.c (.a (.a (.a (.a (.a (.a .n))))))))) (ck.calls _ _ k al an d e s t u v w g i m x z ab ad af ag j l n o a1 a2 a3 a4 a5 a6 a7 az q ((Rd.asV a8 b6).up (Up.lend 2 O) (fun _ _ h => h)) b0 b1 ((Rd.asV a9 b2).up (Up.lend 3 O) (ba.up (Up.lend 4 O))) b3 b4 (be.up (Up.lend 5 O) (V35.up (Up.lend 5 O))) bc bd) bt) O ?_))))))))))))))))
 intro cs
 refine oA O (nx (oM O (vq (ej O O O) O (oT ?_))))
 refine eN O (fun c0 => ?_) (fun c1 => ?_)
 refine aA (ai (sr (vq (oL O bb 4 O) O (vq (jj O O O) O (aj (fun c2 b5 => (oE (oC (vs := [Pt al, .func (.func 50) #[] #[Pt br, Pt bs]]) (cap := []) (A := [W0 an d t u v, ax (au d aB ar e) ak e s, W7 al an w m x z ab ad af ag n o g i j l, ah 3 1 (V3 tt) g m i, ah 144 5 (ba p) j n l, p, obj br 36 [Pt al], W13 bs a1 a2 a3 a4 a5 a6 q a7 az]) O call49 (.a (.a (.a (.sel' 2 O (ah.mk a8) (.sel' 2 O (ah.mk a9) (.c (.b (.a (.a .n))))))))) (fm.calls _ _ k al an d e s t u v w g i m x z ab ad af ag j l n p o br bs a1 a2 a3 a4 a5 a6 a7 az q (be.up (Up.lend 0 O) (V35.up (Up.lend 0 O))) bc bd (hgl.lend 0 O)) b5) O ?_)))))))
 intro a0
 refine oA O (oT (ay ?_))
 exact aJ a0 O O O (.a (.a (.a (.a (.a (.a (.c .n)))))))
 refine sr (oM O (oA O (oT (ay (aY ?_)))))
 exact aJ (d, e, g, i, j, l, p) O O O (.a (.a (.a (.sel' 2 O (ah.mk a8) (.sel' 2 O (ah.mk a9) (.c (.c .n)))))))

def jL.f (k : Nat) (c : List ((List UInt8) × (List UInt8 × Int))) (d : List UInt8) (e : Int) (g : Bool) (j : Int) (a : List Int) (l m n o p q : Int) (r : List (aP)) (h : Bool) : Option ((List ((List UInt8) × (List UInt8 × Int))) × List UInt8 × Int × Bool) := if 0 ≤ IntKind.i64.wrap ((a.length : Int) - 1) ∧ IntKind.i64.wrap ((a.length : Int) - 1) < (a.length : Int) then ((cA.f k (a.getD (IntKind.i64.wrap ((a.length : Int) - 1)).toNat (0 : Int))).bind fun i => ((cX.f c d e g i).bind fun b => ((cm.f b.1).bind fun s => (some (b.2.1, b.2.2.1, b.2.2.2.1, b.2.2.2.2))))) else none
theorem jL.calls (W : World) (F : HA) (k ag af o c : Nat) (d : Kps) (g : List (Lb × (Lb × Int))) (h : Lb) (j : Int) (l : Bool) (q : Int) (s : Option Addr) (m : Nat) (b : List Int) (t u v w x z : Int) (ab : Option Addr) (n : Nat) (e : List aP) (p : Bool) (az : RdV F 1 (V3 tt) s b) (a8 : b.length ≤ m) (a9 : m ≤ maxLen) (be : RdV F 5 (ba F) ab e) (bc : e.length ≤ n) (bd : n ≤ maxLen) (hgl : Glb Tryz.prog F) :
    Fn Tryz.prog W 60 [Pt ag] [W0 o c h j l, ax (au c aB ar d) ak d g, W7 af o q b t u v w x z e p s m ab n, obj ag 36 [Pt af]] F (jL.f k g h j l q b t u v w x z e p) (fun r (y : Nat × Kps) => .tuple #[]) (fun r y => [W1 o y.1 r.2, ax (au y.1 aB ar y.2) ak y.2 r.1, W7 af o q b t u v w x z e p s m ab n, obj ag 36 [Pt af]]) := by
 unfold jL.f
 refine aX 20 Tryz.func60 O Tryz.ntmps60 O (dh (fun al => ?_))
 obtain ⟨b0, bs, b1, a4, a5, br, hcell8v⟩ := RdV.pos az (Up.refl _) rfl (i := (IntKind.i64.wrap ((b.length : Int) - 1)).toNat) (by omega) (0 : Int)
 obtain rfl := a5
 refine bC (fun a3 a0 => (bC (fun an a1 => (bC (fun bt a2 => (bK [[], [0], [0, 1], [0, 1, 2], [], [4], [4, 5], [4, 5, 6], [], [8], [8, 9], [8, 9, 10], [8, 9, 10, 11], [8, 9, 10, 11, 12], [4, 5, 6, 7, 8, 9, 10, 11, 12, 13], [4, 5, 6, 7, 8, 9, 10, 11, 12, 13, 14], [4, 5, 6, 7, 8, 9, 10, 11, 12, 13, 14, 15], rL 17, rL 18] 20 O mixed (by decide) (dl 0 [0] O O O (oL O bb 3 O) (dq 1 O O O (bi O O) (dq 2 O O O (oF O av O eR O) (dl 3 [] O O O (oL O co 2 O) (dl 4 [0] O O O (oL O bb 3 O) (dq 5 O O O (bi O O) (dq 6 O O O (oF O av O bp O) (dl 7 [] O O O (oL O bO 2 O) (dl 8 [0] O O O (oL O bb 3 O) (dq 9 O O O (bi O O) (dq 10 O O O (oF O av O bp O) (dl 11 [] O O O (oL O bO 2 O) (dq 12 O O O (bL O O O aO) (dq 13 O O O (eL O O O) (dq 14 O O O (dM O O O a4 aO aa al.1 al.2) (dl 15 [] O O O (dR O O ae (hcell8v 4 O 0 _ O)) (de 16 [] O O O O (oC (vs := [Iv (b.getD (IntKind.i64.wrap ((b.length : Int) - 1)).toNat (0 : Int))]) (cap := []) (A := []) O fE (.a (.a (.a (.a (.a .n))))) (cA.calls _ _ k (b.getD (IntKind.i64.wrap ((b.length : Int) - 1)).toNat (0 : Int)) (hgl.lend 4 O)) a0) (fun a6 => (ac (px [] O O O O (oL O co 2 O)) (ac (px [0] O O O O (oL O bb 3 O)) zA))) (fun a6 => (de 17 [] O O O O (oC (vs := [Pt o, str a3]) (cap := []) (A := [W0 o c h j l, ax (au c aB ar d) ak d g]) O call46 (.a (.a (.a (.a (.a .n))))) (cX.calls _ _ o c d g h j l a3 ) a1) (fun ad => zA) (fun ad => (de 18 [] O O O O (oC (vs := [Iv an.1]) (cap := []) (A := []) O dN (.a (.a (.a (.a (.a .n))))) (cm.calls _ _ an.1 ) a2) (fun a7 => zA) (fun a7 => (.fin [] O trivial ?_)))))))))))))))))))))))))))))
 exact gw ad O O O (.a (.a (.a (.a (.a .n)))))

def fF.f (k : Nat) (c : List ((List UInt8) × (List UInt8 × Int))) (d : List UInt8) (e : Int) (g : Bool) (h : Int) (i : List Int) (j l m n o p : Int) (q : List (aP)) (b : Bool) : Option (Int × (List ((List UInt8) × (List UInt8 × Int))) × List UInt8 × Int × Bool) := (jL.f k c d e g h i j l m n o p q b).bind fun a => (some (0, a.1, a.2.1, a.2.2.1, a.2.2.2))
theorem fF.calls (W : World) (F : HA) (k w af j : Nat) (l : Kps) (x : List (Lb × (Lb × Int))) (z : Lb) (ab : Int) (ad : Bool) (m : Int) (n : Option Addr) (g : Nat) (b : List Int) (o p q s t u : Int) (v : Option Addr) (i : Nat) (d : List aP) (e : Bool) (ag : Nat) (a3 : RdV F 1 (V3 tt) n b) (an : b.length ≤ g) (az : g ≤ maxLen) (a4 : RdV F 5 (ba F) v d) (a0 : d.length ≤ i) (a1 : i ≤ maxLen) (hgl : Glb Tryz.prog F) :
    Fn Tryz.prog W 49 [Pt w, .func (.func 60) #[] #[Pt ag]] [W0 af j z ab ad, ax (au j aB ar l) ak l x, W7 w af m b o p q s t u d e n g v i, obj ag 36 [Pt w]] F (fF.f k x z ab ad m b o p q s t u d e) (fun r (y : Nat × Kps) => Iv r.1) (fun r y => [W1 af y.1 r.2.2, ax (au y.1 aB ar y.2) ak y.2 r.2.1, W7 w af m b o p q s t u d e n g v i, obj ag 36 [Pt w]]) := by
 unfold fF.f
 refine lZ 8 Tryz.func49 O Tryz.ntmps49 O (sr (oE (cH O O O) O ?_))
 intro a2
 refine oE (bX O jG O) O ?_
 intro al
 refine nx (vq (jj O O O) O (lz (cap := [Pt a2, Pt al]) O O O O O O O (nx (oM O (aj (fun a7 a6 => (oE (oC (vs := []) (cap := [Pt ag]) (A := [W0 af j z ab ad, ax (au j aB ar l) ak l x, W7 w af m b o p q s t u d e n g v i, obj ag 36 [Pt w]]) O call60 (.c (.c (.c (.c (.a (.a (.a .n))))))) (jL.calls _ _ k ag w af j l x z ab ad m n g b o p q s t u v i d e (a3.up (Up.lend 2 O) (fun _ _ h => h)) an az (a4.up (Up.lend 2 O) (ba.up (Up.lend 2 O))) a0 a1 (hgl.lend 2 O)) a6) O ?_)))))))
 intro a5
 refine nx (bg (aI 4 O O O cT O O (aM (by rfl)) O O) O O ?_)
 intro _
 refine oT (ay ?_)
 exact lR (vs := [Iv 0]) 81 [Pt a2, Pt al] (fM.quiet a2 al) call81 a5 O ⟨⟨al, O, gz eX (.obj 4 O O)⟩, trivial⟩ O (.a (.a (.a (.a (.c .n)))))

def kq.f (k : Nat) (c : List ((List UInt8) × (List UInt8 × Int))) (d : List UInt8) (e : Int) (g : Bool) (h : Int) (i : List Int) (j l m n o p : Int) (q : List (aP)) (a : Bool) : Option (Int × (List ((List UInt8) × (List UInt8 × Int))) × List UInt8 × Int × Bool) := if a = true then (some (11, c, d, e, g)) else ((fF.f k c d e g h i j l m n o p q a).bind fun b => (some (b.1, b.2.1, b.2.2.1, b.2.2.2.1, b.2.2.2.2)))
theorem kq.calls (W : World) (F : HA) (k ad af g : Nat) (i : Kps) (w : List (Lb × (Lb × Int))) (x : Lb) (z : Int) (ab : Bool) (m : Int) (n : Option Addr) (j : Nat) (c : List Int) (o p q s t u : Int) (v : Option Addr) (l : Nat) (d : List aP) (e : Bool) (a1 : RdV F 1 (V3 tt) n c) (ag : c.length ≤ j) (al : j ≤ maxLen) (a2 : RdV F 5 (ba F) v d) (an : d.length ≤ l) (az : l ≤ maxLen) (hgl : Glb Tryz.prog F) :
    Fn Tryz.prog W 23 [Pt ad] [W0 af g x z ab, ax (au g aB ar i) ak i w, W7 ad af m c o p q s t u d e n j v l] F (kq.f k w x z ab m c o p q s t u d e) (fun r (y : Nat × Kps) => Iv r.1) (fun r y => [W1 af y.1 r.2.2, ax (au y.1 aB ar y.2) ak y.2 r.2.1, W7 ad af m c o p q s t u d e n j v l]) := by
 unfold kq.f
 refine aX 10 Tryz.func23 O Tryz.ntmps23 O (sr (oE (cH O O O) O ?_))
 intro a0
 refine oA O (oT (ap (sr (vq (oL O bb 0 O) O (oN O (vq (oF O av O cM O) O (vq (oL O dY 3 O) O (oT ?_))))))))
 refine bm O (fun a5 => ?_) (fun a6 => ?_)
 refine sr (oA O (oT (ay (aY ?_))))
 exact aJ (g, i) O O O (.b (.b (.b (.b .n))))
 refine aA (ai (sr (vq (oL O bb 0 O) O (vq (jj O O O) O (aj (fun a7 a4 => (oE (oC (vs := [Pt ad, .func (.func 60) #[] #[Pt a0]]) (cap := []) (A := [W0 af g x z ab, ax (au g aB ar i) ak i w, W7 ad af m c o p q s t u d e n j v l, obj a0 36 [Pt ad]]) O call49 (.b (.b (.b (.a (.a .n))))) (fF.calls _ _ k ad af g i w x z ab m n j c o p q s t u v l d e a0 (a1.up (Up.lend 0 O) (fun _ _ h => h)) ag al (a2.up (Up.lend 0 O) (ba.up (Up.lend 0 O))) an az (hgl.lend 0 O)) a4) O ?_)))))))
 intro a3
 refine oA O (oT (ay ?_))
 exact aJ a3 O O O (.a (.a (.a (.b .n))))

def kr.f (b : List ((List UInt8) × (List UInt8 × Int))) (c : List UInt8) (d : Int) (e : Bool) (g : Int) (h : List Int) (i j k l m n : Int) (o : List (aP)) (a : Bool) : Option (Int × Int) := (dr.f b c d e g h i j k l m n o a).bind fun p => (some (p.1, p.2))
theorem kr.calls (W : World) (F : HA) (ab z b : Nat) (c : Kps) (k : List (Lb × (Lb × Int))) (l : Lb) (m : Int) (n : Bool) (o : Int) (p : Option Addr) (i : Nat) (d : List Int) (q s t u v w : Int) (x : Option Addr) (j : Nat) (e : List aP) (g : Bool) (an : RdV F 1 (V3 tt) p d) (ad : d.length ≤ i) (af : i ≤ maxLen) (az : RdV F 5 (ba F) x e) (ag : e.length ≤ j) (al : j ≤ maxLen) :
    Fn Tryz.prog W 31 [Pt ab] [W0 z b l m n, ax (au b aB ar c) ak c k, W7 ab z o d q s t u v w e g p i x j] F (kr.f k l m n o d q s t u v w e g) (fun r (y : Unit) => .tuple #[Iv r.1, Iv r.2]) (fun r y => [W0 z b l m n, ax (au b aB ar c) ak c k, W7 ab z o d q s t u v w e g p i x j]) := by
 unfold kr.f
 refine aX 10 Tryz.func31 O Tryz.ntmps31 O (sr (oA O (oA O (nx (oM O (oN O (vq (oF O av O fb O) O (aj (fun a1 a0 => (oE (oC (vs := [.pointer (some ⟨ab, 4, none⟩)]) (cap := []) (A := [W0 z b l m n, ax (au b aB ar c) ak c k, W7 ab z o d q s t u v w e g p i x j]) O call61 (.a (.a (.a (.a .n)))) (dr.calls _ _ ab z b c k l m n o p i d q s t u v w x j e g (an.up (Up.lend 0 O) (fun _ _ h => h)) ad af (az.up (Up.lend 0 O) (ba.up (Up.lend 0 O))) ag al) a0) O ?_))))))))))
 intro a2
 refine vq (bY O O O) O (vq (bY O O O) O (oA O (oA O (oT (ay ?_)))))
 exact aJ () O O O (.a (.a (.a (.a .n))))

def cj.l0 (a : List Int) : Nat → List (List UInt8) → Int → Option (List (List UInt8))
  | 0, _, _ => none
  | k + 1, c, b => if b < (a.length : Int) then (if 0 ≤ b ∧ b < (a.length : Int) then ((cA.f k (a.getD b.toNat (0 : Int))).bind fun d => (if (c.length + ([d] : List (List UInt8)).length) * 16 ≤ 140737488355328 then (cj.l0 a k (c ++ ([d] : List (List UInt8))) (IntKind.i64.wrap (b + 1))) else none)) else none) else (some c)
def cj.f (k : Nat) (d : List ((List UInt8) × (List UInt8 × Int))) (e : List UInt8) (g : Int) (h : Bool) (i : Int) (a : List Int) (j l m n o p : Int) (q : List (aP)) (b : Bool) : Option (List (List UInt8)) := (cj.l0 a k ([] : List (List UInt8)) 0).bind fun c => (some c)
theorem cj.calls (W : World) (F : HA) (k az ag e : Nat) (g : Kps) (o : List (Lb × (Lb × Int))) (p : Lb) (q : Int) (t : Bool) (u : Int) (m : Option Addr) (h : Nat) (d : List Int) (v w x z ab ad : Int) (af : Option Addr) (n : Nat) (j : List aP) (l : Bool) (a3 : RdV F 1 (V3 tt) m d) (bd : d.length ≤ h) (be : h ≤ maxLen) (b0 : RdV F 5 (ba F) af j) (br : j.length ≤ n) (bs : n ≤ maxLen) (hgl : Glb Tryz.prog F) :
    Fn Tryz.prog W 25 [Pt az] [W0 ag e p q t, ax (au e aB ar g) ak g o, W7 az ag u d v w x z ab ad j l m h af n] F (cj.f k o p q t u d v w x z ab ad j l) (fun r (y : Option Addr × Nat) => .slice y.1 r.length y.2) (fun r y => [ah 9 1 (V9 tt) y.1 r y.2, W0 ag e p q t, ax (au e aB ar g) ak g o, W7 az ag u d v w x z ab ad j l m h af n]) := by
 unfold cj.f
 refine aX 22 Tryz.func25 O Tryz.ntmps25 O (sr (oA O (nx (oA O (oT ?_)))))
 refine bP (S := List Lb) (Option Addr × Nat) (fun s y => [(3, .slice y.1 s.length y.2)]) (fun s y => [W0 ag e p q t, W7 az ag u d v w x z ab ad j l m h af n, ah 9 1 (V9 tt) y.1 s y.2, ax (au e aB ar g) ak g o, F]) ?_ ?_
 refine sr (oM O (oN O (vq (oF O av O bp O) O (vq (oL O bO 2 O) O (vq (bL O O O aO) O (oM O (oT (aZ ?_))))))))
 refine da (S := List Lb × Int) (Option Addr × Nat) (fun k s => cj.l0 d k s.1 s.2) (fun s y => [(3, .slice y.1 s.1.length y.2), (9, .slice m d.length h), (10, Iv (d.length : Int)), (11, Iv s.2)]) (fun s y => [W0 ag e p q t, W7 az ag u d v w x z ab ad j l m h af n, ah 9 1 (V9 tt) y.1 s.1 y.2, ax (au e aB ar g) ak g o, F]) (fun _ => by rw [cj.l0]) ?_ k (([] : List Lb), 0) (none, 0) ⟨O, O, O, O, trivial⟩ (.a (.b (.rowV_nil (.a (.a .n)))))
 intro k an a9
 refine dW (by rw [cj.l0]) (sr (vq (dG O O O) O (oT (ap ?_))))
 refine bu O (fun b7 => ?_) (fun b8 => ?_)
 refine aA (ai (ap (aZ (sr (bo (fun a1 => ?_))))))
 obtain ⟨b3, b1, b4, a4, a5, bt, hcell16v⟩ := RdV.pos a3 (Up.refl _) rfl (i := an.2.toNat) (by omega) (0 : Int)
 obtain rfl := a5
 refine vq (dM O O O a4 aO aa a1.1 a1.2) O (vq (dR O O ae (hcell16v 4 O 0 _ O)) O (oA O (ny (oM O (oM O (aj (fun al a6 => (oE (oC (vs := [Iv (d.getD an.2.toNat (0 : Int))]) (cap := []) (A := []) O fE (.a (.a (.a (.a (.a .n))))) (cA.calls _ _ k (d.getD an.2.toNat (0 : Int)) (hgl.lend 4 O)) a6) O ?_))))))))
 intro b5
 have a0 : bW 1 (V9 tt) ([al] : List Lb) [[str al]] := ⟨⟨rfl, aM (by rfl), rfl⟩, trivial⟩
 refine oE (eW (V := (V9 tt)) (xs := ([al] : List Lb)) [[str al]] O O fT Co O (by kernel_rfl) O a0 O O) O ?_
 intro b6
 refine bk 3 O (fun b2 a7 => (bo (fun a8 => (oE (eV 3 O O O fT Co O a7 (hQ.row a0 0 O) a8) O ?_))))
 intro a2
 refine oA O (aw (bz (ai (aG (vq (cn O O O) O (oM O (aw ?_)))))))
 exact bT (s := (an.1 ++ ([al] : List Lb), IntKind.i64.wrap (an.2 + 1))) a2 ⟨O, O, O, O, trivial⟩ (.b (.b (.b (.b (.b .n)))))
 refine dt (cK (cU (cN ?_)))
 exact aF (s := an.1) a9 ⟨O, trivial⟩ (.a (.a (.a (.a (.a .n)))))
 intro b9 bc
 refine sr (oM O (oA O (oT (ay ?_))))
 exact aJ bc O O O (.c (.a (.b (.a (.a .n)))))

def fG.l0 (b : List ((List UInt8) × (List UInt8 × Int))) (c : List UInt8) (d : Int) (e : Bool) (g : List (List UInt8)) : Nat → Int → Int → Option (Int)
  | 0, _, _ => none
  | k + 1, h, a => if a < (g.length : Int) then (if 0 ≤ a ∧ a < (g.length : Int) then ((fQ.f b c d e (g.getD a.toNat ([] : List UInt8))).bind fun i => (fG.l0 b c d e g k (IntKind.i64.wrap (h + (i.1.length : Int))) (IntKind.i64.wrap (a + 1)))) else none) else (some h)
def fG.f (k : Nat) (a : List ((List UInt8) × (List UInt8 × Int))) (b : List UInt8) (c : Int) (d : Bool) (g : Int) (h : List Int) (i j l m n o : Int) (p : List (aP)) (e : Bool) : Option (Int) := ((cj.f k a b c d g h i j l m n o p e).bind fun q => (fG.l0 a b c d q k 0 0)).bind fun r => (some r)
theorem fG.calls (W : World) (F : HA) (k an q d : Nat) (e : Kps) (g : List (Lb × (Lb × Int))) (j : Lb) (l : Int) (m : Bool) (v : Int) (w : Option Addr) (t : Nat) (n : List Int) (x z ab ad af ag : Int) (al : Option Addr) (u : Nat) (o : List aP) (p : Bool) (a8 : RdV F 1 (V3 tt) w n) (a4 : n.length ≤ t) (a5 : t ≤ maxLen) (a9 : RdV F 5 (ba F) al o) (a6 : o.length ≤ u) (a7 : u ≤ maxLen) (hgl : Glb Tryz.prog F) :
    Fn Tryz.prog W 28 [Pt an] [W0 q d j l m, ax (au d aB ar e) ak e g, W7 an q v n x z ab ad af ag o p w t al u] F (fG.f k g j l m v n x z ab ad af ag o p) (fun r (y : Unit) => Iv r) (fun r y => [W0 q d j l m, ax (au d aB ar e) ak e g, W7 an q v n x z ab ad af ag o p w t al u]) := by
 unfold fG.f
 refine aX 30 Tryz.func28 O Tryz.ntmps28 O (sr (oA O (nx (oA O (oT ?_)))))
 refine bP (S := Int) Unit (fun s y => [(3, Iv s)]) (fun s y => [W0 q d j l m, W7 an q v n x z ab ad af ag o p w t al u, ax (au d aB ar e) ak e g, F]) ?_ ?_
 refine sr (oM O (aj (fun az br => (oE (oC (vs := [Pt an]) (cap := []) (A := [W0 q d j l m, ax (au d aB ar e) ak e g, W7 an q v n x z ab ad af ag o p w t al u]) O call25 (.a (.a (.a (.a .n)))) (cj.calls _ _ k an q d e g j l m v w t n x z ab ad af ag al u o p (a8.up (Up.lend 0 O) (fun _ _ h => h)) a4 a5 (a9.up (Up.lend 0 O) (ba.up (Up.lend 0 O))) a6 a7 (hgl.lend 0 O)) br) O ?_))))
 intro a1
 refine vq (bL O O O fT) O (oM O (oT (aZ ?_)))
 refine da (S := Int × Int) Unit (fun k s => fG.l0 g j l m az k s.1 s.2) (fun s y => [(0, Pt an), (3, Iv s.1), (9, .slice a1.1 az.length a1.2), (10, Iv (az.length : Int)), (11, Iv s.2)]) (fun s y => [W0 q d j l m, W7 an q v n x z ab ad af ag o p w t al u, ah 9 1 (V9 tt) a1.1 az a1.2, ax (au d aB ar e) ak e g, F]) (fun _ => by rw [fG.l0]) ?_ k (0, 0) () ⟨O, O, O, O, O, trivial⟩ (.b (.c (.a (.a (.a .n)))))
 intro k a0 b7
 refine dW (by rw [fG.l0]) (sr (vq (dG O O O) O (oT (ap ?_))))
 refine bu O (fun b2 => ?_) (fun b3 => ?_)
 refine aA (ai (ap (aZ (sr (bk 2 O (fun b0 a2 => (bo (fun a3 => (gv 2 O a2 O (i := a0.2.toNat) (by omega) ([] : Lb) (fun b4 b1 b5 bc bd bt hcell19v => ?_))))))))))
 obtain rfl := bd
 refine vq (dM O O O bc fT iz a3.1 a3.2) O (vq (dR O O isAgg9 (hcell19v 2 O 0 _ O)) O (oA O (nx (oM O (oN O (vq (oF O av O eR O) O (vq (oL O co 1 O) O (oM O (aj (fun bs be => (oE (oC (vs := [Pt q, str (az.getD a0.2.toNat ([] : Lb))]) (cap := []) (A := [W0 q d j l m, ax (au d aB ar e) ak e g]) O call26 (.a (.c (.a (.a (.a .n))))) (fQ.calls _ _ q d e g j l m (az.getD a0.2.toNat ([] : Lb)) ) be) O ?_)))))))))))
 intro b6
 refine oM O (vq (bY O O O) O (vq (bY O O O) O (oA O (oA O (ny (oM O (oM O (vq (bL O O O aH) O (vq (cn O O O) O (oA O (aw (bz (ai (aG (vq (cn O O O) O (oM O (aw ?_)))))))))))))))))
 exact bT (s := (IntKind.i64.wrap (a0.1 + (bs.1.length : Int)), IntKind.i64.wrap (a0.2 + 1))) () ⟨O, O, O, O, O, trivial⟩ (.b (.c (.sel' 2 O (ah.mk a2) (.b (.b .n)))))
 refine dt (cK (cU (cN ?_)))
 exact aF (s := a0.1) () ⟨O, trivial⟩ (.a (.a (.b (.b .n))))
 intro b8 b9
 refine sr (oM O (oA O (oT (ay ?_))))
 exact aJ () O O O (.a (.b (.a (.a .n))))

def iC.f (k : Nat)  : Option (Bool) := (kY.f).bind fun g => ((bS.f k g.1 g.2.1 g.2.2.1 g.2.2.2 (64 : Int)).bind fun c => (if c.1 = true then ((if c.2.2.2.2.2.2.2.2.2.2.2.1 = true then (some true) else ((cu.f c.2.2.2.2.2.2.2.2.2.2.2.2.1).bind fun m => (some (!decide (m = (0 : Int)))))).bind fun s => (if s = true then (some false) else ((il.f k c.2.2.2.2.2.2.2.2.2.2.2.2.2.1 c.2.2.2.2.2.2.2.2.2.2.2.2.2.2.1 c.2.2.2.2.2.2.2.2.2.2.2.2.2.2.2.1 c.2.2.2.2.2.2.2.2.2.2.2.2.2.2.2.2 c.2.1 c.2.2.1 c.2.2.2.1 c.2.2.2.2.1 c.2.2.2.2.2.1 c.2.2.2.2.2.2.1 c.2.2.2.2.2.2.2.1 c.2.2.2.2.2.2.2.2.1 c.2.2.2.2.2.2.2.2.2.1 c.2.2.2.2.2.2.2.2.2.2.1 true (1 : Int) (1 : Int) (0 : Int) (0 : Int) (0 : Int) ([((1 : Int), (1 : Int), (0 : Int), ([] : List UInt8)), ((1 : Int), (2 : Int), (1 : Int), ([97, 98] : List UInt8))] : List (aV))).bind fun b => ((kq.f k b.2.1 b.2.2.1 b.2.2.2.1 b.2.2.2.2.1 b.2.2.2.2.2.1 b.2.2.2.2.2.2.1 b.2.2.2.2.2.2.2.1 b.2.2.2.2.2.2.2.2.1 b.2.2.2.2.2.2.2.2.2.1 b.2.2.2.2.2.2.2.2.2.2.1 b.2.2.2.2.2.2.2.2.2.2.2.1 b.2.2.2.2.2.2.2.2.2.2.2.2.1 b.2.2.2.2.2.2.2.2.2.2.2.2.2.1 b.2.2.2.2.2.2.2.2.2.2.2.2.2.2).bind fun d => ((il.f k d.2.1 d.2.2.1 d.2.2.2.1 d.2.2.2.2 b.2.2.2.2.2.1 b.2.2.2.2.2.2.1 b.2.2.2.2.2.2.2.1 b.2.2.2.2.2.2.2.2.1 b.2.2.2.2.2.2.2.2.2.1 b.2.2.2.2.2.2.2.2.2.2.1 b.2.2.2.2.2.2.2.2.2.2.2.1 b.2.2.2.2.2.2.2.2.2.2.2.2.1 b.2.2.2.2.2.2.2.2.2.2.2.2.2.1 b.2.2.2.2.2.2.2.2.2.2.2.2.2.2 false (0 : Int) (0 : Int) (0 : Int) (0 : Int) (0 : Int) ([((1 : Int), (4 : Int), (0 : Int), ([] : List UInt8))] : List (aV))).bind fun a => ((kr.f a.2.1 a.2.2.1 a.2.2.2.1 a.2.2.2.2.1 a.2.2.2.2.2.1 a.2.2.2.2.2.2.1 a.2.2.2.2.2.2.2.1 a.2.2.2.2.2.2.2.2.1 a.2.2.2.2.2.2.2.2.2.1 a.2.2.2.2.2.2.2.2.2.2.1 a.2.2.2.2.2.2.2.2.2.2.2.1 a.2.2.2.2.2.2.2.2.2.2.2.2.1 a.2.2.2.2.2.2.2.2.2.2.2.2.2.1 a.2.2.2.2.2.2.2.2.2.2.2.2.2.2).bind fun h => ((cj.f k a.2.1 a.2.2.1 a.2.2.2.1 a.2.2.2.2.1 a.2.2.2.2.2.1 a.2.2.2.2.2.2.1 a.2.2.2.2.2.2.2.1 a.2.2.2.2.2.2.2.2.1 a.2.2.2.2.2.2.2.2.2.1 a.2.2.2.2.2.2.2.2.2.2.1 a.2.2.2.2.2.2.2.2.2.2.2.1 a.2.2.2.2.2.2.2.2.2.2.2.2.1 a.2.2.2.2.2.2.2.2.2.2.2.2.2.1 a.2.2.2.2.2.2.2.2.2.2.2.2.2.2).bind fun e => ((cu.f b.1).bind fun n => ((if n = (0 : Int) then ((cu.f d.1).bind fun o => (some (decide (o = (0 : Int))))) else (some false)).bind fun p => ((if p = true then ((cu.f a.1).bind fun q => (some (decide (q = (13 : Int))))) else (some false)).bind fun r => ((if ((r && (decide (h.1 = (2 : Int)))) && (decide (h.2 = (1 : Int)))) = true then ((fG.f k a.2.1 a.2.2.1 a.2.2.2.1 a.2.2.2.2.1 a.2.2.2.2.2.1 a.2.2.2.2.2.2.1 a.2.2.2.2.2.2.2.1 a.2.2.2.2.2.2.2.2.1 a.2.2.2.2.2.2.2.2.2.1 a.2.2.2.2.2.2.2.2.2.2.1 a.2.2.2.2.2.2.2.2.2.2.2.1 a.2.2.2.2.2.2.2.2.2.2.2.2.1 a.2.2.2.2.2.2.2.2.2.2.2.2.2.1 a.2.2.2.2.2.2.2.2.2.2.2.2.2.2).bind fun i => (some (decide (i = (57 : Int))))) else (some false)).bind fun j => ((if (j && (decide ((e.length : Int) = (1 : Int)))) = true then (if 0 ≤ (0 : Int) ∧ (0 : Int) < (e.length : Int) then (some (decide ((e.getD (0 : Int).toNat ([] : List UInt8)) = ([119, 97, 108, 45, 48, 48, 48, 48, 48, 48, 48, 49] : List UInt8)))) else none) else (some false)).bind fun l => (some l))))))))))))) else (some false)))
theorem iC.calls (W : World) (F : HA) (k : Nat)  (hgl : Glb Tryz.prog F) :
    Fn Tryz.prog W 9 [] [] F (iC.f k ) (fun r (y : Unit) => .bool r) (fun r y => []) := by
 unfold iC.f
 refine aX 88 Tryz.func9 O Tryz.ntmps9 O (sr (oA O (nx (aj (fun t e3 => (oE (oC (vs := []) (cap := []) (A := []) O call16 (.a .n) (kY.calls _ _ ) e3) O ?_))))))
 intro o
 refine oA O (nx (oM O (aj (fun n a6 => ?_))))
 refine mD (fun a1 => ?_) (fun a1 => ?_)
 refine oE (oC (vs := [Pt o.1, Iv 64]) (cap := []) (A := [W1 o.1 o.2.1 t.2, ax (au o.2.1 aB ar o.2.2) ak o.2.2 t.1]) O call15 (.a (.a (.a .n))) (bS.callsT _ _ k o.1 o.2.1 o.2.2 t.1 t.2.1 t.2.2.1 t.2.2.2 (64 : Int) (hgl.lend 0 O)) (nM a6 a1)) O ?_
 intro m
 refine oM O (vq (bY O O O) O (vq (bY O O O) O (vq (bY O O O) O (oA O (oA O (oA O (oT (ap (sr (oM O (vq (pC O O O jq) O (oM O (aK (am O O) O O O O O O (vq (bZ O O O O O) O (oM O ?_)))))))))))))))
 refine eG 4 (S := Bool) Unit (fun s y => [(2, Pt m.1), (27, .bool s)]) (fun s y => [W14 m.1 o.1 n.2 m.2.1 m.2.2.1 m.2.2.2.1 m.2.2.2.2.1, W1 o.1 m.2.2.2.2.2.2.1 n.2.2.2.2.2.2.2.2.2.2.2.2.2.2, ah 3 1 (V3 tt) m.2.1 n.2.2.1 m.2.2.1, ah 144 5 (ba m.2.2.2.2.2.1) m.2.2.2.1 n.2.2.2.2.2.2.2.2.2.1 m.2.2.2.2.1, ax (au m.2.2.2.2.2.2.1 aB ar m.2.2.2.2.2.2.2) ak m.2.2.2.2.2.2.2 n.2.2.2.2.2.2.2.2.2.2.2.2.2.1, m.2.2.2.2.2.1, F]) ?_ ?_
 refine ii (fun c1 => ?_) (fun c2 => ?_)
 rw [c1]
 refine oS O (oS O (oS O (vq (bZ O O O O O) O (aw ?_))))
 exact aF (s := true) () ⟨O, O, trivial⟩ (.a (.d (.a (.a (.b (.a (.a .n)))))))
 rw [c2]
 refine aK (am O O) O O O O O O (aj (fun e4 c3 => (gj (oC (vs := [Iv n.2.2.2.2.2.2.2.2.2.2.2.2.1]) (cap := []) (A := []) O jk (.a (.a (.a (.a (.a (.a (.a .n))))))) (cu.calls _ _ n.2.2.2.2.2.2.2.2.2.2.2.2.1 ) c3) O O O O O O ?_)))
 intro hl
 refine aK (ej O O O) O O O O O O (vq (bZ O O O O O) O (aw ?_))
 exact aF (s := !decide (e4 = (0 : Int))) () ⟨O, O, trivial⟩ (.a (.d (.a (.a (.b (.a (.a .n)))))))
 intro hv hw
 refine oT ?_
 refine bm O (fun hm => ?_) (fun hn => ?_)
 refine sr (oA O (oT (ay (aY ?_))))
 exact aJ () O O O (.g .n)
 refine aA (ai (sr (oM O (vq (cW (v := .agg #[Iv 1, Iv 1, Iv 0]) O O (fun _ => by kernel_rfl)) O (vq (cW (v := .agg #[Iv 1, Iv 1, Iv 0, .slice none 0 0]) O O (fun _ => by kernel_rfl)) O (oE (sV (cs := [.int .u8 97, .int .u8 98]) ([97, 98] : Lb) O O aH ks O (by kernel_rfl) O O O) O ?_))))))
 intro z
 refine oE (Bs 0 O O aH eP O O) O ?_
 intro _
 refine vq (cW (v := .agg #[Iv 1, Iv 2, Iv 1, .slice (some ⟨z, 0, none⟩) (([97, 98] : Lb).length) 2]) O O (fun _ => by kernel_rfl)) O (bw 0 O (fun c4 c5 c6 go => ?_))
 have an : bW 4 (V35 (Row 5 1 (some ⟨z, 0, none⟩) ([97, 98] : Lb).length 2 (aL ([97, 98] : Lb)))) ([((1 : Int), (1 : Int), (0 : Int), ([] : Lb)), ((1 : Int), (2 : Int), (1 : Int), ([97, 98] : Lb))] : List aV) [[Iv 1, Iv 1, Iv 0, .slice none 0 0], [Iv 1, Iv 2, Iv 1, .slice (some ⟨z, 0, none⟩) (([97, 98] : Lb).length) 2]] := ⟨⟨rfl, aM (by rfl), ⟨none, 0, rfl, ⟨Rd.nil _ _, Nat.le_refl _, Nat.zero_le _⟩⟩⟩, ⟨rfl, aM (by rfl), ⟨(some ⟨z, 0, none⟩), 2, rfl, ⟨c4, c5, c6⟩⟩⟩, trivial⟩
 refine oE (eW (V := (V35 (Row 5 1 (some ⟨z, 0, none⟩) ([97, 98] : Lb).length 2 (aL ([97, 98] : Lb))))) (xs := ([((1 : Int), (1 : Int), (0 : Int), ([] : Lb)), ((1 : Int), (2 : Int), (1 : Int), ([97, 98] : Lb))] : List aV)) [[Iv 1, Iv 1, Iv 0, .slice none 0 0], [Iv 1, Iv 2, Iv 1, .slice (some ⟨z, 0, none⟩) (([97, 98] : Lb).length) 2]] O O cq qL O (by kernel_rfl) O an O O) O ?_
 intro a2
 refine vq (cW (v := .agg #[.bool true, Iv 1, Iv 1, Iv 0, Iv 0, Iv 0, .slice (some ⟨a2, 0, none⟩) (([((1 : Int), (1 : Int), (0 : Int), ([] : Lb)), ((1 : Int), (2 : Int), (1 : Int), ([97, 98] : Lb))] : List aV).length) 2]) O O (fun _ => by kernel_rfl)) O (bk 4 O (fun gs c7 => (bk 5 O (fun gy c8 => (aj (fun l c9 => (bw 0 O (fun ds dz d1 g0 => (oE (oC (vs := [Pt m.1, .agg #[.bool true, Iv 1, Iv 1, Iv 0, Iv 0, Iv 0, .slice (some ⟨a2, 0, none⟩) (([((1 : Int), (1 : Int), (0 : Int), ([] : Lb)), ((1 : Int), (2 : Int), (1 : Int), ([97, 98] : Lb))] : List aV).length) 2]]) (cap := []) (A := [W1 o.1 m.q4.2.2.1 n.q8.q4.2.2, ax (au m.q4.2.2.1 aB ar m.q4.2.2.2) ak m.q4.2.2.2 n.q8.q4.2.1, W14 m.1 o.1 n.2 m.2.1 m.2.2.1 m.2.2.2.1 m.q4.1, ah 3 1 (V3 tt) m.2.1 n.2.2.1 m.2.2.1, ah 144 5 (ba m.q4.2.1) m.2.2.2.1 n.q8.2.1 m.q4.1, m.q4.2.1]) O call17 (.d (.f (.c (.sel' 2 O (ah.mk c7) (.sel' 2 O (ah.mk c8) (.c (.a (.a (.a .n))))))))) (il.calls _ _ k m.1 o.1 m.2.2.2.2.2.2.1 m.2.2.2.2.2.2.2 n.2.2.2.2.2.2.2.2.2.2.2.2.2.1 n.2.2.2.2.2.2.2.2.2.2.2.2.2.2.1 n.2.2.2.2.2.2.2.2.2.2.2.2.2.2.2.1 n.2.2.2.2.2.2.2.2.2.2.2.2.2.2.2.2 n.2.1 m.2.1 m.2.2.1 n.2.2.1 n.2.2.2.1 n.2.2.2.2.1 n.2.2.2.2.2.1 n.2.2.2.2.2.2.1 n.2.2.2.2.2.2.2.1 n.2.2.2.2.2.2.2.2.1 m.2.2.2.1 m.2.2.2.2.1 n.2.2.2.2.2.2.2.2.2.1 m.2.2.2.2.2.1 n.2.2.2.2.2.2.2.2.2.2.1 true (1 : Int) (1 : Int) (0 : Int) (0 : Int) (0 : Int) (some ⟨a2, 0, none⟩) 2 ([((1 : Int), (1 : Int), (0 : Int), ([] : Lb)), ((1 : Int), (2 : Int), (1 : Int), ([97, 98] : Lb))] : List aV) ((Rd.asV an ds).up (Up.lend 0 O) (V35.up (Up.lend 1 O))) dz d1 (hgl.lend 2 O)) c9) O ?_)))))))))
 intro p
 refine oA O (nx (oM O (bk 3 O (fun g1 a4 => (bk 4 O (fun g2 a5 => (aj (fun u d2 => (bw 3 O (fun d3 d4 d5 g3 => (bw 4 O (fun d6 d7 d8 g4 => (oE (oC (vs := [Pt m.1]) (cap := []) (A := [W11 o.1 p.1 l.2.2, ax (au p.1 aB ar p.2.1) ak p.2.1 l.2.1, W12 m.1 o.1 l.q4.2 p.2.2.1 p.2.2.2.1 p.q4.1 p.q4.2.1]) O call23 (.a (.a (.a (.a (.a (.a (.a (.a (.a .n))))))))) (kq.calls _ _ k m.1 o.1 p.1 p.2.1 l.2.1 l.2.2.1 l.2.2.2.1 l.2.2.2.2.1 l.2.2.2.2.2.1 p.2.2.1 p.2.2.2.1 l.2.2.2.2.2.2.1 l.2.2.2.2.2.2.2.1 l.2.2.2.2.2.2.2.2.1 l.2.2.2.2.2.2.2.2.2.1 l.2.2.2.2.2.2.2.2.2.2.1 l.2.2.2.2.2.2.2.2.2.2.2.1 l.2.2.2.2.2.2.2.2.2.2.2.2.1 p.2.2.2.2.1 p.2.2.2.2.2.1 l.2.2.2.2.2.2.2.2.2.2.2.2.2.1 l.2.2.2.2.2.2.2.2.2.2.2.2.2.2 ((Rd.asV a4 d3).up (Up.lend 0 O) (fun _ _ h => h)) d4 d5 ((Rd.asV a5 d6).up (Up.lend 1 O) (ba.up (Up.lend 2 O))) d7 d8 (hgl.lend 5 O)) d2) O ?_)))))))))))))
 intro ab
 refine oA O (nx (oM O (vq (cW (v := .agg #[Iv 1, Iv 4, Iv 0, .slice none 0 0]) O O (fun _ => by kernel_rfl)) O ?_)))
 have az : bW 4 (V35 F) ([((1 : Int), (4 : Int), (0 : Int), ([] : Lb))] : List aV) [[Iv 1, Iv 4, Iv 0, .slice none 0 0]] := ⟨⟨rfl, aM (by rfl), ⟨none, 0, rfl, ⟨Rd.nil _ _, Nat.le_refl _, Nat.zero_le _⟩⟩⟩, trivial⟩
 refine oE (eW (V := (V35 F)) (xs := ([((1 : Int), (4 : Int), (0 : Int), ([] : Lb))] : List aV)) [[Iv 1, Iv 4, Iv 0, .slice none 0 0]] O O cq qL O (by kernel_rfl) O az O O) O ?_
 intro a3
 refine vq (cW (v := .agg #[.bool false, Iv 0, Iv 0, Iv 0, Iv 0, Iv 0, .slice (some ⟨a3, 0, none⟩) (([((1 : Int), (4 : Int), (0 : Int), ([] : Lb))] : List aV).length) 1]) O O (fun _ => by kernel_rfl)) O (aj (fun e d9 => (bw 0 O (fun ea eb ec g5 => (oE (oC (vs := [Pt m.1, .agg #[.bool false, Iv 0, Iv 0, Iv 0, Iv 0, Iv 0, .slice (some ⟨a3, 0, none⟩) (([((1 : Int), (4 : Int), (0 : Int), ([] : Lb))] : List aV).length) 1]]) (cap := []) (A := [W1 o.1 ab.1 u.2.2, ax (au ab.1 aB ar ab.2) ak ab.2 u.2.1, W12 m.1 o.1 l.q4.2 p.2.2.1 p.2.2.2.1 p.q4.1 p.q4.2.1, ah 3 1 (V3 tt) p.2.2.1 l.q4.2.2.1 p.2.2.2.1, ah 144 5 (ba p.q4.2.2) p.q4.1 l.q8.q4.2.1 p.q4.2.1, p.q4.2.2]) O call17 (.b (.b (.b (.sel' 1 O (ah.mk a4) (.sel' 1 O (ah.mk a5) (.b (.a (.a (.a (.a .n)))))))))) (il.calls _ _ k m.1 o.1 ab.1 ab.2 u.2.1 u.2.2.1 u.2.2.2.1 u.2.2.2.2 l.2.2.2.2.2.1 p.2.2.1 p.2.2.2.1 l.2.2.2.2.2.2.1 l.2.2.2.2.2.2.2.1 l.2.2.2.2.2.2.2.2.1 l.2.2.2.2.2.2.2.2.2.1 l.2.2.2.2.2.2.2.2.2.2.1 l.2.2.2.2.2.2.2.2.2.2.2.1 l.2.2.2.2.2.2.2.2.2.2.2.2.1 p.2.2.2.2.1 p.2.2.2.2.2.1 l.2.2.2.2.2.2.2.2.2.2.2.2.2.1 p.2.2.2.2.2.2 l.2.2.2.2.2.2.2.2.2.2.2.2.2.2 false (0 : Int) (0 : Int) (0 : Int) (0 : Int) (0 : Int) (some ⟨a3, 0, none⟩) 1 ([((1 : Int), (4 : Int), (0 : Int), ([] : Lb))] : List aV) ((Rd.asV az ea).up (Up.lend 0 O) (V35.up (Up.lend 3 O))) eb ec (hgl.lend 3 O)) d9) O ?_)))))
 intro j
 refine oA O (nx (oM O (bk 3 O (fun g6 ad => (bk 4 O (fun g7 af => (aj (fun w ed => (bw 3 O (fun ee ef eg g8 => (bw 4 O (fun ei ek el g9 => (oE (oC (vs := [Pt m.1]) (cap := []) (A := [W11 o.1 j.1 e.2.2, ax (au j.1 aB ar j.2.1) ak j.2.1 e.2.1, W12 m.1 o.1 e.q4.2 j.2.2.1 j.2.2.2.1 j.q4.1 j.q4.2.1]) O call31 (.a (.a (.a (.a (.a (.a (.a (.a (.a (.a .n)))))))))) (kr.calls _ _ m.1 o.1 j.1 j.2.1 e.2.1 e.2.2.1 e.2.2.2.1 e.2.2.2.2.1 e.2.2.2.2.2.1 j.2.2.1 j.2.2.2.1 e.2.2.2.2.2.2.1 e.2.2.2.2.2.2.2.1 e.2.2.2.2.2.2.2.2.1 e.2.2.2.2.2.2.2.2.2.1 e.2.2.2.2.2.2.2.2.2.2.1 e.2.2.2.2.2.2.2.2.2.2.2.1 e.2.2.2.2.2.2.2.2.2.2.2.2.1 j.2.2.2.2.1 j.2.2.2.2.2.1 e.2.2.2.2.2.2.2.2.2.2.2.2.2.1 e.2.2.2.2.2.2.2.2.2.2.2.2.2.2 ((Rd.asV ad ee).up (Up.lend 0 O) (fun _ _ h => h)) ef eg ((Rd.asV af ei).up (Up.lend 1 O) (ba.up (Up.lend 2 O))) ek el) ed) O ?_)))))))))))))
 intro ho
 refine oM O (vq (bY O O O) O (vq (bY O O O) O (oA O (oA O (nx (oM O (aj (fun x em => (bw 3 O (fun en er es ha => (bw 4 O (fun et ex eA hb => (oE (oC (vs := [Pt m.1]) (cap := []) (A := [W11 o.1 j.1 e.2.2, ax (au j.1 aB ar j.2.1) ak j.2.1 e.2.1, W12 m.1 o.1 e.q4.2 j.2.2.1 j.2.2.2.1 j.q4.1 j.q4.2.1]) O call25 (.a (.a (.a (.a (.a (.a (.a (.a (.a (.a .n)))))))))) (cj.calls _ _ k m.1 o.1 j.1 j.2.1 e.2.1 e.2.2.1 e.2.2.2.1 e.2.2.2.2.1 e.2.2.2.2.2.1 j.2.2.1 j.2.2.2.1 e.2.2.2.2.2.2.1 e.2.2.2.2.2.2.2.1 e.2.2.2.2.2.2.2.2.1 e.2.2.2.2.2.2.2.2.2.1 e.2.2.2.2.2.2.2.2.2.2.1 e.2.2.2.2.2.2.2.2.2.2.2.1 e.2.2.2.2.2.2.2.2.2.2.2.2.1 j.2.2.2.2.1 j.2.2.2.2.2.1 e.2.2.2.2.2.2.2.2.2.2.2.2.2.1 e.2.2.2.2.2.2.2.2.2.2.2.2.2.2 ((Rd.asV ad en).up (Up.lend 0 O) (fun _ _ h => h)) er es ((Rd.asV af et).up (Up.lend 1 O) (ba.up (Up.lend 2 O))) ex eA (hgl.lend 6 O)) em) O ?_)))))))))))))
 intro q
 refine oA O (nx (oM O (aj (fun hp eB => (oE (oC (vs := [Iv l.1]) (cap := []) (A := []) O jk (.a (.a (.a (.a (.a (.a (.a (.a (.a (.a (.a .n))))))))))) (cu.calls _ _ l.1 ) eB) O ?_)))))
 intro hq
 refine vq (cr O O O) O (oM O ?_)
 refine eG 4 (S := Bool) Unit (fun s y => [(2, Pt m.1), (7, Iv e.1), (8, Iv w.1), (9, Iv w.2), (10, .slice q.1 x.length q.2), (58, .bool s)]) (fun s y => [W11 o.1 j.1 e.2.2, W12 m.1 o.1 e.2.2.2.2.2 j.2.2.1 j.2.2.2.1 j.2.2.2.2.1 j.2.2.2.2.2.1, ah 9 1 (V9 tt) q.1 x q.2, ax (au j.1 aB ar j.2.1) ak j.2.1 e.2.1, ah 3 1 (V3 tt) j.2.2.1 e.2.2.2.2.2.2.1 j.2.2.2.1, ah 144 5 (ba j.2.2.2.2.2.2) j.2.2.2.2.1 e.2.2.2.2.2.2.2.2.2.2.2.2.2.1 j.2.2.2.2.2.1, j.2.2.2.2.2.2, F]) ?_ ?_
 refine iD (fun eD => ?_) (fun eF => ?_)
 rw [eD]
 refine aK (am O O) O O O O O O (aj (fun e5 e0 => (gj (oC (vs := [Iv u.1]) (cap := []) (A := []) O jk (.a (.a (.a (.a (.a (.a (.a (.a (.a (.a (.a .n))))))))))) (cu.calls _ _ u.1 ) e0) O O O O O O ?_)))
 intro hr
 refine aK (cr O O O) O O O O O O (vq (bZ O O O O O) O (aw ?_))
 exact aF (s := decide (e5 = (0 : Int))) () ⟨O, O, O, O, O, O, trivial⟩ (.b (.c (.a (.a (.sel' 0 O (ah.mk ad) (.sel' 0 O (ah.mk af) (.a (.d .n))))))))
 rw [eF]
 refine oS O (oS O (oS O (vq (bZ O O O O O) O (aw ?_))))
 exact aF (s := false) () ⟨O, O, O, O, O, O, trivial⟩ (.b (.c (.a (.a (.sel' 0 O (ah.mk ad) (.sel' 0 O (ah.mk af) (.a (.d .n))))))))
 intro hs ht
 refine oM O ?_
 refine eG 4 (S := Bool) Unit (fun s y => [(2, Pt m.1), (8, Iv w.1), (9, Iv w.2), (10, .slice q.1 x.length q.2), (63, .bool s)]) (fun s y => [W11 o.1 j.1 e.2.2, W12 m.1 o.1 e.2.2.2.2.2 j.2.2.1 j.2.2.2.1 j.2.2.2.2.1 j.2.2.2.2.2.1, ah 9 1 (V9 tt) q.1 x q.2, ax (au j.1 aB ar j.2.1) ak j.2.1 e.2.1, ah 3 1 (V3 tt) j.2.2.1 e.2.2.2.2.2.2.1 j.2.2.2.1, ah 144 5 (ba j.2.2.2.2.2.2) j.2.2.2.2.1 e.2.2.2.2.2.2.2.2.2.2.2.2.2.1 j.2.2.2.2.2.1, j.2.2.2.2.2.2, F]) ?_ ?_
 refine ii (fun a7 => ?_) (fun a8 => ?_)
 rw [a7]
 refine aK (am O O) O O O O O O (aj (fun e6 e1 => (gj (oC (vs := [Iv e.1]) (cap := []) (A := []) O jk (.a (.a (.a (.a (.a (.a (.a (.a .n)))))))) (cu.calls _ _ e.1 ) e1) O O O O O O ?_)))
 intro hc
 refine aK (cr O O O) O O O O O O (vq (bZ O O O O O) O (aw ?_))
 exact aF (s := decide (e6 = (13 : Int))) () ⟨O, O, O, O, O, trivial⟩ (.a (.a (.a (.a (.a (.a (.a (.a .n))))))))
 rw [a8]
 refine oS O (oS O (oS O (vq (bZ O O O O O) O (aw ?_))))
 exact aF (s := false) () ⟨O, O, O, O, O, trivial⟩ (.a (.a (.a (.a (.a (.a (.a (.a .n))))))))
 intro ag hu
 refine oM O (ao (b := ag) (fun e8 => RQ.sub (E' := [(8, Iv w.1)]) ⟨O, trivial⟩ (am O O)) O O O O O (ao (b := ag) (fun a9 => RQ.sub (E' := [(65, Iv w.1)]) ⟨aN O a9, trivial⟩ (cr O O O)) O O O O O (vq (fN O O O) O (oM O (ao (b := ag && (decide (w.1 = (2 : Int)))) (fun e9 => RQ.sub (E' := [(9, Iv w.2)]) ⟨O, trivial⟩ (am O O)) O O O O O (ao (b := ag && (decide (w.1 = (2 : Int)))) (fun bc => RQ.sub (E' := [(69, Iv w.2)]) ⟨aN O bc, trivial⟩ (cr O O O)) O O O O O (vq (fN O O O) O (oM O ?_))))))))
 refine eG 4 (S := Bool) Unit (fun s y => [(10, .slice q.1 x.length q.2), (76, .bool s)]) (fun s y => [ah 9 1 (V9 tt) q.1 x q.2, F]) ?_ ?_
 refine ii (fun bd => ?_) (fun be => ?_)
 rw [bd]
 refine aK (am O O) O O O O O O (bk 4 O (fun fl br => (bk 5 O (fun fn bs => (aj (fun e2 bt => (bw 4 O (fun b0 b1 b2 fp => (bw 5 O (fun b3 b4 b5 fr => (gj (oC (vs := [Pt m.1]) (cap := []) (A := [W11 o.1 j.1 e.2.2, ax (au j.1 aB ar j.2.1) ak j.2.1 e.2.1, W12 m.1 o.1 e.q4.2 j.2.2.1 j.2.2.2.1 j.q4.1 j.q4.2.1]) O call28 (.a (.c (.a (.a (.a (.a (.a (.a .n)))))))) (fG.calls _ _ k m.1 o.1 j.1 j.2.1 e.2.1 e.2.2.1 e.2.2.2.1 e.2.2.2.2.1 e.2.2.2.2.2.1 j.2.2.1 j.2.2.2.1 e.2.2.2.2.2.2.1 e.2.2.2.2.2.2.2.1 e.2.2.2.2.2.2.2.2.1 e.2.2.2.2.2.2.2.2.2.1 e.2.2.2.2.2.2.2.2.2.2.1 e.2.2.2.2.2.2.2.2.2.2.2.1 e.2.2.2.2.2.2.2.2.2.2.2.2.1 j.2.2.2.2.1 j.2.2.2.2.2.1 e.2.2.2.2.2.2.2.2.2.2.2.2.2.1 e.2.2.2.2.2.2.2.2.2.2.2.2.2.2 ((Rd.asV br b0).up (Up.lend 1 O) (fun _ _ h => h)) b1 b2 ((Rd.asV bs b3).up (Up.lend 2 O) (ba.up (Up.lend 3 O))) b4 b5 (hgl.lend 4 O)) bt) O O O O O O ?_)))))))))))
 intro he
 refine aK (cr O O O) O O O O O O (vq (bZ O O O O O) O (aw ?_))
 exact aF (s := decide (e2 = (57 : Int))) () ⟨O, O, trivial⟩ (.d (.g .n))
 rw [be]
 refine oS O (oS O (oS O (vq (bZ O O O O O) O (aw ?_))))
 exact aF (s := false) () ⟨O, O, trivial⟩ (.c (.g .n))
 intro al hf
 refine oM O (ao (b := al) (fun fs => RQ.sub (E' := [(10, .slice q.1 x.length q.2)]) ⟨O, trivial⟩ (am O O)) O O O O O (ao (b := al) (fun b6 => RQ.sub (E' := [(78, .slice q.1 x.length q.2)]) ⟨aN O b6, trivial⟩ (bL O O O fT)) O O O O O (ao (b := al) (fun b7 => RQ.sub (E' := [(79, Iv (x.length : Int))]) ⟨aN O b7, trivial⟩ (cr O O O)) O O O O O (vq (fN O O O) O (oM O ?_)))))
 refine eG 5 (S := Bool) Unit (fun s y => [(87, .bool s)]) (fun s y => [F]) ?_ ?_
 refine ii (fun b8 => ?_) (fun b9 => ?_)
 rw [b8]
 refine aK (am O O) O O O O O O (bk 0 O (fun ft cd => (bo (fun a0 => (gv 0 O cd O (i := (0 : Int).toNat) (by omega) ([] : Lb) (fun hg fz hh ch c0 e7 hcell131v => ?_))))))
 obtain rfl := c0
 refine aK (dM O O O ch fT iz a0.1 a0.2) O O O O O O (aK (dR O O isAgg9 (hcell131v 0 O 0 _ O)) O O O O O O (aK (yb O O O) O O O O O O (vq (bZ O O O O O) O (aw ?_))))
 exact aF (s := decide ((x.getD (0 : Int).toNat ([] : Lb)) = ([119, 97, 108, 45, 48, 48, 48, 48, 48, 48, 48, 49] : Lb))) () ⟨O, trivial⟩ (.b .n)
 rw [b9]
 refine oS O (oS O (oS O (oS O (vq (bZ O O O O O) O (aw ?_)))))
 exact aF (s := false) () ⟨O, trivial⟩ (.b .n)
 intro hi hj
 refine oA O (oT (ay ?_))
 exact aJ () O O O (.a .n)
 refine oE (oC (vs := [Pt o.1, Iv 64]) (cap := []) (A := [W1 o.1 o.2.1 t.2, ax (au o.2.1 aB ar o.2.2) ak o.2.2 t.1]) O call15 (.a (.a (.a .n))) (bS.callsN _ _ k o.1 o.2.1 o.2.2 t.1 t.2.1 t.2.2.1 t.2.2.2 (64 : Int) (hgl.lend 0 O)) (nM a6 (eq_false_of_ne_true a1))) O ?_
 intro hk
 refine oM O (vq (bY O O O) O (vq (bY O O O) O (vq (bY O O O) O (oA O (oA O (oA O (oT (ap (sr (oM O (vq (nT O O O jq) O (oM O (oS O (vq (bZ O O O O O) O (oM O (oS O (oS O (oS O (vq (bZ O O O O O) O (oT (ix O (sr (oA O (oT (ay (aY ?_))))))))))))))))))))))))))
 exact aJ () O O O (.c .n)

def ca.l1 (x0 : List (Int × Int × Bool × Int × Int × Int × Int × Int × (List (aV)))) (b : Int × Int) : Nat → Int → Int → Option (Int)
  | 0, _, _ => none
  | k + 1, c, a => if 0 ≤ b.2 ∧ b.2 < (x0.length : Int) then (if ((decide (a < (((x0.getD b.2.toNat ((0 : Int), (0 : Int), false, (0 : Int), (0 : Int), (0 : Int), (0 : Int), (0 : Int), ([] : List (aV)))).2.2.2.2.2.2.2.2).length : Int))) && (decide (a < (200 : Int)))) = true then (if 0 ≤ b.2 ∧ b.2 < (x0.length : Int) then (if 0 ≤ a ∧ a < (((x0.getD b.2.toNat ((0 : Int), (0 : Int), false, (0 : Int), (0 : Int), (0 : Int), (0 : Int), (0 : Int), ([] : List (aV)))).2.2.2.2.2.2.2.2).length : Int) then (ca.l1 x0 b k (IntKind.i64.wrap ((IntKind.i64.wrap (c + (min (((((x0.getD b.2.toNat ((0 : Int), (0 : Int), false, (0 : Int), (0 : Int), (0 : Int), (0 : Int), (0 : Int), ([] : List (aV)))).2.2.2.2.2.2.2.2).getD a.toNat bh).2.2.2).length : Int) (20000 : Int)))) + 1)) (IntKind.i64.wrap (a + 1))) else none) else none) else (some c)) else none
def ca.l0 (x0 : List (Int × Int × Bool × Int × Int × Int × Int × Int × (List (aV)))) : Nat → Int → Int → Option ((Int) ⊕ (Bool))
  | 0, _, _ => none
  | k + 1, b, a => if ((decide (a < (x0.length : Int))) && (decide (a < (200 : Int)))) = true then (orR ((ca.l1 x0 (b, a) k b 0).bind fun c => (if 0 ≤ a ∧ a < (x0.length : Int) then (if (200 : Int) < (((x0.getD a.toNat ((0 : Int), (0 : Int), false, (0 : Int), (0 : Int), (0 : Int), (0 : Int), (0 : Int), ([] : List (aV)))).2.2.2.2.2.2.2.2).length : Int) then (some (.inr (.inr false))) else (some (.inl c))) else none)) fun d => (ca.l0 x0 k d (IntKind.i64.wrap (a + 1)))) else (some (.inl b))
def ca.f (k : Nat) (x0 : List (Int × Int × Bool × Int × Int × Int × Int × Int × (List (aV)))) : Option (Bool) := orR (ca.l0 x0 k 0 0) fun a => (some ((decide ((x0.length : Int) ≤ (200 : Int))) && (decide (a ≤ (20000 : Int)))))
theorem ca.calls (W : World) (F : HA) (k : Nat) (a0 : Option Addr) (c0 : Nat) (x0 : List (Int × Int × Bool × Int × Int × Int × Int × Int × (List aV))) (h0 : RdV F 9 (V56 F) a0 x0) (d3 : x0.length ≤ c0) (d4 : c0 ≤ maxLen) :
    Fn Tryz.prog W 20 [.slice a0 x0.length c0] [] F (ca.f k x0) (fun r (y : Unit) => .bool r) (fun r y => []) := by
 unfold ca.f
 refine aX 61 Tryz.func20 O Tryz.ntmps20 O (sr (oA O (nx (oA O (oT ?_)))))
 refine iA (S := Int) Unit (fun s y => [(0, .slice a0 x0.length c0), (3, Iv s)]) (fun s y => [F]) ?_ ?_
 refine sr (oA O (oT (aZ ?_)))
 refine da (S := Int × Int) Unit (fun k s => ca.l0 x0 k s.1 s.2) (fun s y => [(0, .slice a0 x0.length c0), (3, Iv s.1), (4, Iv s.2)]) (fun s y => [F]) (fun _ => by rw [ca.l0]) ?_ k (0, 0) () ⟨O, O, O, trivial⟩ (.a .n)
 intro k c d5
 refine dW (by rw [ca.l0]) (ap (sr (oM O (oM O (vq (bL O O O iE) O (vq (dG O O O) O (oM O (ao (b := decide (c.2 < (x0.length : Int))) (fun a1 => RQ.sub (E' := [(4, Iv c.2)]) ⟨O, trivial⟩ (am O O)) O O O O O (ao (b := decide (c.2 < (x0.length : Int))) (fun l => RQ.sub (E' := [(11, Iv c.2)]) ⟨aN O l, trivial⟩ (dG O O O)) O O O O O (vq (fN O O O) O (oT ?_)))))))))))
 refine bm O (fun d6 => ?_) (fun d7 => ?_)
 refine aA (ai ?_)
 refine iA (S := Int) Unit (fun s y => [(0, .slice a0 x0.length c0), (3, Iv s), (4, Iv c.2)]) (fun s y => [F]) ?_ ?_
 refine aZ ?_
 refine bP (S := Int) Unit (fun s y => [(0, .slice a0 x0.length c0), (3, Iv s), (4, Iv c.2)]) (fun s y => [F]) ?_ ?_
 refine sr (oA O (oT (aZ ?_)))
 refine da (S := Int × Int) Unit (fun k s => ca.l1 x0 c k s.1 s.2) (fun s y => [(0, .slice a0 x0.length c0), (3, Iv s.1), (4, Iv c.2), (5, Iv s.2)]) (fun s y => [F]) (fun _ => by rw [ca.l1]) ?_ k (c.1, 0) () ⟨O, O, O, O, trivial⟩ (.a .n)
 intro k d b3
 refine dW (by rw [ca.l1]) (ap (sr (oM O (oM O (oM O (bo (fun e => ?_)))))))
 obtain ⟨b4, a2, b5, m, n, af, hcell24v⟩ := RdV.pos h0 (Up.refl _) rfl (i := c.2.toNat) (by omega) ((0 : Int), (0 : Int), false, (0 : Int), (0 : Int), (0 : Int), (0 : Int), (0 : Int), ([] : List aV))
 obtain ⟨b6, b7, rfl, ⟨a3, a4, a5⟩⟩ := n
 refine vq (dM O O O m iE sizeOf56 e.1 e.2) O (vq (oF O gW O ia O) O (vq (oF O aS O ew O) O (vq (dR O O fC (hcell24v 0 O 8 _ O)) O (vq (bL O O O cq) O (vq (dG O O O) O (oM O (ao (b := decide (d.2 < (((x0.getD c.2.toNat ((0 : Int), (0 : Int), false, (0 : Int), (0 : Int), (0 : Int), (0 : Int), (0 : Int), ([] : List aV))).2.2.2.2.2.2.2.2).length : Int))) (fun a6 => RQ.sub (E' := [(5, Iv d.2)]) ⟨O, trivial⟩ (am O O)) O O O O O (ao (b := decide (d.2 < (((x0.getD c.2.toNat ((0 : Int), (0 : Int), false, (0 : Int), (0 : Int), (0 : Int), (0 : Int), (0 : Int), ([] : List aV))).2.2.2.2.2.2.2.2).length : Int))) (fun o => RQ.sub (E' := [(26, Iv d.2)]) ⟨aN O o, trivial⟩ (dG O O O)) O O O O O (vq (fN O O O) O (oT ?_))))))))))
 refine bm O (fun b8 => ?_) (fun b9 => ?_)
 refine aA (ai (ap (aZ (aG (oM O (oM O (oM O (bo (fun g => ?_)))))))))
 obtain ⟨cd, a7, ch, p, q, ag, hcell39v⟩ := RdV.pos h0 (Up.refl _) rfl (i := c.2.toNat) (by omega) ((0 : Int), (0 : Int), false, (0 : Int), (0 : Int), (0 : Int), (0 : Int), (0 : Int), ([] : List aV))
 obtain ⟨cs, c1, rfl, ⟨t, a8, a9⟩⟩ := q
 refine vq (dM O O O p iE sizeOf56 g.1 g.2) O (vq (oF O gW O ia O) O (vq (oF O aS O ew O) O (vq (dR O O fC (hcell39v 0 O 8 _ O)) O (oM O (bo (fun h => ?_))))))
 obtain ⟨c2, bc, c3, u, v, al, hcell52v⟩ := RdV.pos t (Up.refl _) rfl (i := d.2.toNat) (by omega) bh
 obtain ⟨c4, c5, rfl, ⟨bd, be, br⟩⟩ := v
 refine vq (dM O O O u cq aR h.1 h.2) O (vq (oF O bj O bM O) O (vq (dR O O cP (hcell52v 0 O 3 _ O)) O (vq (bL O O O aH) O (vq (lK O O O) O (vq (cn O O O) O (vq (cn O O O) O (oA O (aw (bz (ai (aG (oM O (vq (cn O O O) O (oA O (aw ?_)))))))))))))))
 exact bT (s := (IntKind.i64.wrap ((IntKind.i64.wrap (d.1 + (min (((((x0.getD c.2.toNat ((0 : Int), (0 : Int), false, (0 : Int), (0 : Int), (0 : Int), (0 : Int), (0 : Int), ([] : List aV))).2.2.2.2.2.2.2.2).getD d.2.toNat bh).2.2.2).length : Int) (20000 : Int)))) + 1), IntKind.i64.wrap (d.2 + 1))) () ⟨O, O, O, O, trivial⟩ (.a .n)
 refine dt (cK (cU (cN ?_)))
 exact aF (s := d.1) () ⟨O, O, O, trivial⟩ (.a .n)
 intro ad c6
 refine sr (oM O (oM O (bo (fun j => ?_))))
 obtain ⟨c7, bs, c8, w, x, an, hcell67v⟩ := RdV.pos h0 (Up.refl _) rfl (i := c.2.toNat) (by omega) ((0 : Int), (0 : Int), false, (0 : Int), (0 : Int), (0 : Int), (0 : Int), (0 : Int), ([] : List aV))
 obtain ⟨c9, ds, rfl, ⟨bt, b0, b1⟩⟩ := x
 refine vq (dM O O O w iE sizeOf56 j.1 j.2) O (vq (oF O gW O ia O) O (vq (oF O aS O ew O) O (vq (dR O O fC (hcell67v 0 O 8 _ O)) O (vq (bL O O O cq) O (vq (dO O O O) O (oT ?_))))))
 refine bu O (fun dz => ?_) (fun d1 => ?_)
 refine sr (oA O (oT (ay (bI (gP (ij (bI (gP ?_))))))))
 exact aJ () O O O (.a .n)
 refine aA (bz ?_)
 exact gx (s := ad) () ⟨O, O, O, trivial⟩ (.a .n)
 intro az d2
 refine aG (oM O (vq (cn O O O) O (oA O (aw ?_))))
 exact bT (s := (az, IntKind.i64.wrap (c.2 + 1))) () ⟨O, O, O, trivial⟩ (.a .n)
 refine dt (cK (cU (cN ?_)))
 exact gx (s := c.1) () ⟨O, O, trivial⟩ (.a .n)
 intro ab d8
 refine sr (oM O (vq (bL O O O iE) O (vq (lv O O O) O (oM O (ao (b := decide ((x0.length : Int) ≤ (200 : Int))) (fun b2 => RQ.sub (E' := [(3, Iv ab)]) ⟨O, trivial⟩ (am O O)) O O O O O (ao (b := decide ((x0.length : Int) ≤ (200 : Int))) (fun z => RQ.sub (E' := [(58, Iv ab)]) ⟨aN O z, trivial⟩ (lv O O O)) O O O O O (vq (fN O O O) O (oA O (oT (ay ?_))))))))))
 exact aJ () O O O (.a .n)

def jV.f (c : List ((List UInt8) × (List UInt8 × Int))) (a : List UInt8) (d : Int) (b : Bool) (x1 : Int) : Option (List UInt8 × Int × Bool) := some (a, max x1 (0 : Int), b)
theorem jV.calls (W : World) (F : HA) (b0 b : Nat) (c : Kps) (d : List (Lb × (Lb × Int))) (e : Lb) (g : Int) (h : Bool) (x1 : Int)  :
    Fn Tryz.prog W 33 [Pt b0, Iv x1] [W0 b0 b e g h, ax (au b aB ar c) ak c d] F (jV.f d e g h x1) (fun r (y : Unit) => .tuple #[]) (fun r y => [W1 b0 b r, ax (au b aB ar c) ak c d]) := by
 unfold jV.f
 refine aX 9 Tryz.func33 O Tryz.ntmps33 O (aG (oM O (oM O (vq (qJ O O O) O (oN O (vq (oF O bD O aa O) O (bg (aI 0 O O O aa O O (aM (by rfl)) O O) O O ?_)))))))
 intro _
 refine aw ?_
 exact gw () O O O (.a (.a (.a .n)))

def eY.f (b : List ((List UInt8) × (List UInt8 × Int))) (c : List UInt8) (d : Int) (a : Bool) : Option (Bool) := some a
theorem eY.calls (W : World) (F : HA) (b0 b : Nat) (c : Kps) (d : List (Lb × (Lb × Int))) (e : Lb) (g : Int) (h : Bool)  :
    Fn Tryz.prog W 34 [Pt b0] [W0 b0 b e g h, ax (au b aB ar c) ak c d] F (eY.f d e g h) (fun r (y : Unit) => .bool r) (fun r y => [W0 b0 b e g h, ax (au b aB ar c) ak c d]) := by
 unfold eY.f
 refine aX 7 Tryz.func34 O Tryz.ntmps34 O (sr (oA O (nx (oM O (oN O (vq (oF O bD O cM O) O (vq (oL O dY 0 O) O (oA O (oT (ay ?_))))))))))
 exact aJ () O O O (.a (.a (.a .n)))

def gJ.l0 (a : List (aP)) : Nat → Int → List (aV) → Option ((List (aV)))
  | 0, _, _ => none
  | k + 1, b, c => if b < (a.length : Int) then (if 0 ≤ b ∧ b < (a.length : Int) then ((dD.f ((a.getD b.toNat aD).2.2.2.1)).bind fun d => (if (c.length + ([((a.getD b.toNat aD).1, (a.getD b.toNat aD).2.1, (a.getD b.toNat aD).2.2.1, d)] : List (aV)).length) * 48 ≤ 140737488355328 then (gJ.l0 a k (IntKind.i64.wrap (b + 1)) (c ++ ([((a.getD b.toNat aD).1, (a.getD b.toNat aD).2.1, (a.getD b.toNat aD).2.2.1, d)] : List (aV)))) else none)) else none) else (some c)
def gJ.f (k : Nat) (a b c d e : Int) (g : List (aP)) : Option (Int × Int × Int × Int × Int × (List (aV))) := (gJ.l0 g k 0 ([] : List (aV))).bind fun h => (some (a, b, c, d, e, h))
theorem gJ.calls (W : World) (F : HA) (k b0 : Nat) (q t u w x : Int) (ad : Option Addr) (ab : Nat) (g : List aP) (b4 : RdV F 5 (ba F) ad g) (b6 : g.length ≤ ab) (b7 : ab ≤ maxLen) :
    Fn Tryz.prog W 54 [Pt b0] [W15 b0 q t u w x g ad ab] F (gJ.f k q t u w x g) (fun r (y : Option Addr × Nat × HA) => .agg #[Iv r.1, Iv r.2.1, Iv r.2.2.1, Iv r.2.2.2.1, Iv r.2.2.2.2.1, .slice y.1 r.2.2.2.2.2.length y.2.1]) (fun r y => [ah 35 4 (V35 y.2.2) y.1 r.2.2.2.2.2 y.2.1, y.2.2, W15 b0 q t u w x g ad ab]) := by
 unfold gJ.f
 refine aX 43 Tryz.func54 O Tryz.ntmps54 O (sr (oE (bX O iW O) O ?_))
 intro ag
 refine oT (ap (bK [[], [0], [0, 1], [0, 1, 2], [], [4], [4, 5], [4, 5, 6], [], [8], [8, 9], [8, 9, 10], rL 12, [], rL 14] 43 O mixed (by decide) (dqo 0 [0] O O O (am O O) (dq 1 O O O (bi O O) (dq 2 O O O (oF O aC O aU O) (dl 3 [] O O O (cw (vs := [Iv q, Iv t, Iv u]) O O dm aU O (dc 1 O (cL O))) (dqo 4 [0] O O O (am O O) (dq 5 O O O (bi O O) (dq 6 O O O (oF O aC O aa O) (dl 7 [] O O O (oL O ae 1 O) (dqo 8 [0] O O O (am O O) (dq 9 O O O (bi O O) (dq 10 O O O (oF O aC O aa O) (dl 11 [] O O O (oL O ae 1 O) (dq 12 O O O (cW (v := .agg #[Iv q, Iv t, Iv u, Iv w, Iv x, .slice none 0 0]) O O (fun _ => by kernel_rfl)) (de 13 [] O O O O (bX O iW O) (fun al => (ac (px [] O O O O (oL O ae 2 O)) (ac (px [] O O O O (oL O ae 2 O)) (ac (px [] O O O O (cw (vs := [Iv q, Iv t, Iv u]) O O dm aU O (dc 2 O (cL O)))) zA)))) (fun al => (de 14 [] O O O O (aI 0 O O O fy O O (aM (by rfl)) O O) (fun _ => zA) (fun _ => (.fin [(0, Pt b0), (2, Pt ag), (3, Pt al)] O ⟨O, O, O, trivial⟩ (ai ?_)))))))))))))))))))))
 refine bP (S := (List aV)) (HA × Option Addr × Nat) (fun s y => [(2, Pt ag), (3, Pt al)]) (fun s y => [W3 al q t u w x s y.2.1 y.2.2, obj ag 47 [Iv 0, Iv 0, Iv 0, Iv 0, Iv 0, .slice none 0 0], W15 b0 q t u w x g ad ab, ah 35 4 (V35 y.1) y.2.1 s y.2.2, y.1, F]) ?_ ?_
 refine sr (oM O (oN O (vq (oF O aC O bR O) O (vq (oL O dn 2 O) O (vq (bL O O O bJ) O (oM O (oT (aZ ?_))))))))
 refine da (S := Int × (List aV)) (HA × Option Addr × Nat) (fun k s => gJ.l0 g k s.1 s.2) (fun s y => [(2, Pt ag), (3, Pt al), (23, .slice ad g.length ab), (24, Iv (g.length : Int)), (25, Iv s.1)]) (fun s y => [W3 al q t u w x s.2 y.2.1 y.2.2, obj ag 47 [Iv 0, Iv 0, Iv 0, Iv 0, Iv 0, .slice none 0 0], W15 b0 q t u w x g ad ab, ah 35 4 (V35 y.1) y.2.1 s.2 y.2.2, y.1, F]) (fun _ => by rw [gJ.l0]) ?_ k (0, ([] : List aV)) (tt, none, 0) ⟨O, O, O, O, O, trivial⟩ (.a (.a (.a (.rowV_nil (.tt_in (.a .n))))))
 intro k n z
 refine dW (by rw [gJ.l0]) (sr (vq (dG O O O) O (oT (ap ?_))))
 refine bu O (fun c0 => ?_) (fun cd => ?_)
 refine aA (ai (ap (aZ (sr (bo (fun a5 => ?_))))))
 obtain ⟨ch, b8, cs, a8, a9, b5, hcell18v⟩ := RdV.pos b4 (Up.refl _) rfl (i := n.1.toNat) (by omega) aD
 obtain ⟨an, az, rfl, ⟨bc, bd, be⟩⟩ := a9
 refine vq (dM O O O a8 bJ dX a5.1 a5.2) O (vq (cw O O isAgg144 dX O (fun j v hj => hcell18v 5 O j v hj)) O (oE (bX O zeroValue144 O) O ?_))
 intro a2
 refine bg (aI 0 O O O dX O O (aM (by rfl)) O O) O O ?_
 intro _
 refine nx (vq (oF O fc O aR O) O (vq (cw (vs := [Iv ((g.getD n.1.toNat aD).1), Iv ((g.getD n.1.toNat aD).2.1), Iv ((g.getD n.1.toNat aD).2.2.1), .slice an (((g.getD n.1.toNat aD).2.2.2.1).length) az]) O O cy aR O (dc 0 O (cL O))) O (oE (bX O dy O) O ?_)))
 intro a3
 refine bg (aI 0 O O O aR O O (aM (by rfl)) O O) O O ?_
 intro _
 refine nx (vq (oF O bj O bM O) O (vq (oL O cP 0 O) O (aj (fun p br => (oE (oC (vs := [.slice an (((g.getD n.1.toNat aD).2.2.2.1).length) az]) (cap := []) (A := []) O call82 (.a (.a (.a (.a (.a (.a (.a (.a .n)))))))) (dD.calls _ _ an az ((g.getD n.1.toNat aD).2.2.2.1) (bc.lend 7 O) bd be) br) O ?_)))))
 intro o
 refine vq (oF O bj O bM O) O (bg (aI 1 O O O bM O O (aM (by rfl)) O O) O O ?_)
 intro _
 refine ny (vq (oF O du O ew O) O (vq (oL O fC 3 O) O (vq (cF 1 O O cy aR O O) O (bw 0 O (fun bs bt b1 b9 => ?_)))))
 have a1 : bW 4 (V35 (Row 5 1 o.1 p.length o.2 (aL p))) ([((g.getD n.1.toNat aD).1, (g.getD n.1.toNat aD).2.1, (g.getD n.1.toNat aD).2.2.1, p)] : List aV) [[Iv ((g.getD n.1.toNat aD).1), Iv ((g.getD n.1.toNat aD).2.1), Iv ((g.getD n.1.toNat aD).2.2.1), .slice o.1 p.length o.2]] := ⟨⟨rfl, aM (by rfl), ⟨o.1, o.2, rfl, ⟨bs, bt, b1⟩⟩⟩, trivial⟩
 refine oE (eW (V := (V35 (Row 5 1 o.1 p.length o.2 (aL p)))) (xs := ([((g.getD n.1.toNat aD).1, (g.getD n.1.toNat aD).2.1, (g.getD n.1.toNat aD).2.2.1, p)] : List aV)) [[Iv ((g.getD n.1.toNat aD).1), Iv ((g.getD n.1.toNat aD).2.1), Iv ((g.getD n.1.toNat aD).2.2.1), .slice o.1 p.length o.2]] O O cq qL O (by kernel_rfl) O a1 O O) O ?_
 intro a4
 refine bk 7 O (fun a6 b2 => (cl (H' := [bl [Row 5 1 o.1 p.length o.2 (aL p), z.1], Row 35 4 (some ⟨a4, 0, none⟩) ([((g.getD n.1.toNat aD).1, (g.getD n.1.toNat aD).2.1, (g.getD n.1.toNat aD).2.2.1, p)] : List aV).length 1 [[Iv ((g.getD n.1.toNat aD).1), Iv ((g.getD n.1.toNat aD).2.1), Iv ((g.getD n.1.toNat aD).2.2.1), .slice o.1 p.length o.2]].flatten, W8 a3 ((g.getD n.1.toNat aD).1) ((g.getD n.1.toNat aD).2.1) ((g.getD n.1.toNat aD).2.2.1) p o.1 o.2, W9 a2 (g.getD n.1.toNat aD) an az, W3 al q t u w x n.2 z.2.1 z.2.2, obj ag 47 [Iv 0, Iv 0, Iv 0, Iv 0, Iv 0, .slice none 0 0], W15 b0 q t u w x g ad ab, Row 35 4 z.2.1 n.2.length z.2.2 a6.flatten, F]) (Ent.trans (m := [Row 5 1 o.1 p.length o.2 (aL p), z.1, Row 35 4 (some ⟨a4, 0, none⟩) ([((g.getD n.1.toNat aD).1, (g.getD n.1.toNat aD).2.1, (g.getD n.1.toNat aD).2.2.1, p)] : List aV).length 1 [[Iv ((g.getD n.1.toNat aD).1), Iv ((g.getD n.1.toNat aD).2.1), Iv ((g.getD n.1.toNat aD).2.2.1), .slice o.1 p.length o.2]].flatten, W8 a3 ((g.getD n.1.toNat aD).1) ((g.getD n.1.toNat aD).2.1) ((g.getD n.1.toNat aD).2.2.1) p o.1 o.2, W9 a2 (g.getD n.1.toNat aD) an az, W3 al q t u w x n.2 z.2.1 z.2.2, obj ag 47 [Iv 0, Iv 0, Iv 0, Iv 0, Iv 0, .slice none 0 0], W15 b0 q t u w x g ad ab, Row 35 4 z.2.1 n.2.length z.2.2 a6.flatten, F]) (.b (.h (.a (.a (.a (.a (.a (.a (.a (.a .n)))))))))) (jv [Row 5 1 o.1 p.length o.2 (aL p), z.1] _)) (bo (fun b3 => (oE (eV 7 O O O cq qL O (b2.mono (V35.up (Up.lend (l := [Row 5 1 o.1 p.length o.2 (aL p), z.1]) 1 O))) (hQ.row (a1.mono (V35.up (Up.lend (l := [Row 5 1 o.1 p.length o.2 (aL p), z.1]) 0 O))) 1 O) b3) O ?_)))))
 intro a0
 refine vq (oF O du O ew O) O (bg (aI 4 O O O ew O O (aM (by rfl)) O O) O O ?_)
 intro _
 refine cl (H' := [bl [Row 5 1 o.1 p.length o.2 (aL p), z.1], Row 35 4 (some ⟨a4, 0, none⟩) ([((g.getD n.1.toNat aD).1, (g.getD n.1.toNat aD).2.1, (g.getD n.1.toNat aD).2.2.1, p)] : List aV).length 1 [[Iv ((g.getD n.1.toNat aD).1), Iv ((g.getD n.1.toNat aD).2.1), Iv ((g.getD n.1.toNat aD).2.2.1), .slice o.1 p.length o.2]].flatten, W8 a3 ((g.getD n.1.toNat aD).1) ((g.getD n.1.toNat aD).2.1) ((g.getD n.1.toNat aD).2.2.1) p o.1 o.2, W9 a2 (g.getD n.1.toNat aD) an az, W3 al q t u w x (n.2 ++ ([((g.getD n.1.toNat aD).1, (g.getD n.1.toNat aD).2.1, (g.getD n.1.toNat aD).2.2.1, p)] : List aV)) a0.1 a0.2, obj ag 47 [Iv 0, Iv 0, Iv 0, Iv 0, Iv 0, .slice none 0 0], W15 b0 q t u w x g ad ab, ah 35 4 (V35 (bl [Row 5 1 o.1 p.length o.2 (aL p), z.1])) a0.1 (n.2 ++ ([((g.getD n.1.toNat aD).1, (g.getD n.1.toNat aD).2.1, (g.getD n.1.toNat aD).2.2.1, p)] : List aV)) a0.2, F]) (Ent.refl _) (aw (bz (ai (aG (vq (cn O O O) O (oM O (aw ?_)))))))
 exact bT (s := (IntKind.i64.wrap (n.1 + 1), n.2 ++ ([((g.getD n.1.toNat aD).1, (g.getD n.1.toNat aD).2.1, (g.getD n.1.toNat aD).2.2.1, p)] : List aV))) (bl [Row 5 1 o.1 p.length o.2 (aL p), z.1], a0) ⟨O, O, O, O, O, trivial⟩ (.e (.e (.e (.e (.a (.d .n))))))
 refine dt (cK (cU (cN ?_)))
 exact aF (s := n.2) z ⟨O, O, trivial⟩ (.a (.a (.a (.a (.a (.a .n))))))
 intro a7 af
 refine sr (vq (cF 0 O O jz fy O O) O (bg (aI 1 O O O fy O O (aM (by rfl)) O O) O O ?_))
 intro _
 refine cl (H' := [W3 al q t u w x a7 af.2.1 af.2.2, W3 ag q t u w x a7 af.2.1 af.2.2, W15 b0 q t u w x g ad ab, ah 35 4 (V35 af.1) af.2.1 a7 af.2.2, af.1, F]) (Ent.refl _) (oT (ay ?_))
 exact lx (vs := [.agg #[Iv q, Iv t, Iv u, Iv w, Iv x, .slice af.2.1 a7.length af.2.2]]) (af.2.1, af.2.2, af.1) O ⟨⟨ag, O, kE 1 jz fy O O⟩, trivial⟩ O (.d (.d (.c (.c .n))))

def gG.f (e g h a c : Int) (b : List (aV)) (x1 x2 : Int) : Option (Bool) := if ((decide (x1 = a)) && (decide (x2 = c))) = true then (some true) else ((if ((decide (a < x1)) && (decide (IntKind.i64.wrap ((IntKind.i64.wrap (x1 - a)) - 1) < (b.length : Int)))) = true then (if 0 ≤ IntKind.i64.wrap ((IntKind.i64.wrap (x1 - a)) - 1) ∧ IntKind.i64.wrap ((IntKind.i64.wrap (x1 - a)) - 1) < (b.length : Int) then (some (decide ((b.getD (IntKind.i64.wrap ((IntKind.i64.wrap (x1 - a)) - 1)).toNat bh).1 = x2))) else none) else (some false)).bind fun d => (some d))
theorem gG.calls (W : World) (F : HA) (m n o c g : Int) (h : Option Addr) (e : Nat) (d : List aV) (x1 x2 : Int) (z : RdV F 4 (V35 F) h d) (af : d.length ≤ e) (ag : e ≤ maxLen) :
    Fn Tryz.prog W 71 [.agg #[Iv m, Iv n, Iv o, Iv c, Iv g, .slice h d.length e], Iv x1, Iv x2] [] F (gG.f m n o c g d x1 x2) (fun r (y : Unit) => .bool r) (fun r y => []) := by
 unfold gG.f
 refine aX 44 Tryz.func71 O Tryz.ntmps71 O (sr (oE (cH O O O) O ?_))
 intro j
 refine oA O (oT (ap (sr (oM O (vq (oF O du O aa O) O (vq (oL O ae 0 O) O (vq (cr O O O) O (oM O (ao (b := decide (x1 = c)) (fun al => RQ.sub (E' := [(2, Iv x2)]) ⟨O, trivial⟩ (am O O)) O O O O O (ao (b := decide (x1 = c)) (fun an => RQ.sub (E' := [(3, Pt j)]) ⟨O, trivial⟩ (oF O du O aa O)) O O O O O (ao (b := decide (x1 = c)) (fun q => RQ.sub (E' := [(14, .pointer (some ⟨j, 4, none⟩))]) ⟨aN O q, trivial⟩ (oL O ae 0 O)) O O O O O (ao (b := decide (x1 = c)) (fun k => RQ.sub (E' := [(13, Iv x2), (15, Iv g)]) ⟨aN O k, aN O k, trivial⟩ (cr O O O)) O O O O O (vq (fN O O O) O (oT ?_))))))))))))))
 refine bm O (fun a8 => ?_) (fun a9 => ?_)
 refine sr (oA O (oT (ay (aY ?_))))
 exact aJ () O O O (.b .n)
 refine aA (ai (sr (oM O (vq (oF O du O aa O) O (vq (oL O ae 0 O) O (vq (eL O O O) O (vq (eL O O O) O (oA O (nx (oM O (vq (oF O du O aa O) O (vq (oL O ae 0 O) O (vq (dO O O O) O (oM O (ao (b := decide (c < x1)) (fun az => RQ.sub (E' := [(7, Iv (IntKind.i64.wrap ((IntKind.i64.wrap (x1 - c)) - 1)))]) ⟨O, trivial⟩ (am O O)) O O O O O (ao (b := decide (c < x1)) (fun a0 => RQ.sub (E' := [(3, Pt j)]) ⟨O, trivial⟩ (oF O du O ew O)) O O O O O (ao (b := decide (c < x1)) (fun t => RQ.sub (E' := [(29, .pointer (some ⟨j, 5, none⟩))]) ⟨aN O t, trivial⟩ (oL O fC 0 O)) O O O O O (ao (b := decide (c < x1)) (fun u => RQ.sub (E' := [(30, .slice h d.length e)]) ⟨aN O u, trivial⟩ (bL O O O cq)) O O O O O (ao (b := decide (c < x1)) (fun l => RQ.sub (E' := [(28, Iv (IntKind.i64.wrap ((IntKind.i64.wrap (x1 - c)) - 1))), (31, Iv (d.length : Int))]) ⟨aN O l, aN O l, trivial⟩ (dG O O O)) O O O O O (vq (fN O O O) O (oM O ?_)))))))))))))))))))))
 refine eG 9 (S := Bool) Unit (fun s y => [(43, .bool s)]) (fun s y => [F]) ?_ ?_
 refine ii (fun v => ?_) (fun w => ?_)
 rw [v]
 refine aK (oF O du O ew O) O O O O O O (aK (oL O fC 0 O) O O O O O O (aK (am O O) O O O O O O (bo (fun p => ?_))))
 obtain ⟨bc, a4, a5, ab, x, ad, hcell13v⟩ := RdV.pos z (Up.refl _) rfl (i := (IntKind.i64.wrap ((IntKind.i64.wrap (x1 - c)) - 1)).toNat) (by omega) bh
 obtain ⟨a6, a7, rfl, ⟨a1, a2, a3⟩⟩ := x
 refine aK (dM O O O ab cq aR p.1 p.2) O O O O O O (aK (oF O bj O aa O) O O O O O O (aK (dR O O ae (hcell13v 1 O 0 _ O)) O O O O O O (aK (am O O) O O O O O O (aK (cr O O O) O O O O O O (vq (bZ O O O O O) O (aw ?_))))))
 exact aF (s := decide ((d.getD (IntKind.i64.wrap ((IntKind.i64.wrap (x1 - c)) - 1)).toNat bh).1 = x2)) () ⟨O, trivial⟩ (.b .n)
 rw [w]
 refine oS O (oS O (oS O (oS O (oS O (oS O (oS O (oS O (vq (bZ O O O O O) O (aw ?_)))))))))
 exact aF (s := false) () ⟨O, trivial⟩ (.b .n)
 intro bd be
 refine oA O (oT (ay ?_))
 exact aJ () O O O (.a .n)

def gn.l0 (b : List (aV)) : Nat → List (dE) → Int → Option ((List (dE)))
  | 0, _, _ => none
  | k + 1, c, a => if a < (b.length : Int) then (if 0 ≤ a ∧ a < (b.length : Int) then (if (c.length + ([((2 : Int), (0 : Int), (0 : Int), (0 : Int), (0 : Int), (0 : Int), (b.getD a.toNat bh).1, (b.getD a.toNat bh).2.1, (b.getD a.toNat bh).2.2.1, (b.getD a.toNat bh).2.2.2)] : List (dE)).length) * 96 ≤ 140737488355328 then (gn.l0 b k (c ++ ([((2 : Int), (0 : Int), (0 : Int), (0 : Int), (0 : Int), (0 : Int), (b.getD a.toNat bh).1, (b.getD a.toNat bh).2.1, (b.getD a.toNat bh).2.2.1, (b.getD a.toNat bh).2.2.2)] : List (dE))) (IntKind.i64.wrap (a + 1))) else none) else none) else (some c)
def gn.f (k : Nat) (e g c n o : Int) (p : List (aV)) (l : Bool) (a b h d i : Int) (q : List (aV)) : Option ((List (dE))) := ((if l = true then (some ((!decide (a = e)) || (!decide (b = g)))) else (some false)).bind fun v => (if v = true then (if ([((1 : Int), a, b, c, (0 : Int), (0 : Int), (0 : Int), (0 : Int), (0 : Int), ([] : List UInt8))] : List (dE)).length * 96 ≤ 140737488355328 then (some (([((1 : Int), a, b, c, (0 : Int), (0 : Int), (0 : Int), (0 : Int), (0 : Int), ([] : List UInt8))] : List (dE)), a, b)) else none) else (some (([] : List (dE)), e, g)))).bind fun m => (((if (0 : Int) < d then ((gG.f e g c n o p d i).bind fun r => (some (!r))) else (some false)).bind fun s => (if s = true then (if (m.1.length + ([((3 : Int), (0 : Int), (0 : Int), (0 : Int), d, i, (0 : Int), (0 : Int), (0 : Int), ([] : List UInt8))] : List (dE)).length) * 96 ≤ 140737488355328 then (some (m.1 ++ ([((3 : Int), (0 : Int), (0 : Int), (0 : Int), d, i, (0 : Int), (0 : Int), (0 : Int), ([] : List UInt8))] : List (dE)))) else none) else (some m.1))).bind fun t => ((gn.l0 q k t 0).bind fun j => ((if (l && (!decide (h = c))) = true then (if (j.length + ([((1 : Int), a, b, h, (0 : Int), (0 : Int), (0 : Int), (0 : Int), (0 : Int), ([] : List UInt8))] : List (dE)).length) * 96 ≤ 140737488355328 then (some (j ++ ([((1 : Int), a, b, h, (0 : Int), (0 : Int), (0 : Int), (0 : Int), (0 : Int), ([] : List UInt8))] : List (dE)))) else none) else (some j)).bind fun u => (some u))))
theorem gn.calls (W : World) (F G : HA) (hG : Up G F) (k : Nat) (n x m al an : Int) (az : Option Addr) (ag : Nat) (ad : List aV) (t : Bool) (g l o p q : Int) (af : Option Addr) (z : Nat) (e : List aV) (d4 : RdV G 4 (V35 G) az ad) (b4 : ad.length ≤ ag) (b5 : ag ≤ maxLen) (d5 : RdV G 4 (V35 G) af e) (ea : e.length ≤ z) (eb : z ≤ maxLen) :
    Fn Tryz.prog W 35 [.agg #[Iv n, Iv x, Iv m, Iv al, Iv an, .slice az ad.length ag], .agg #[.bool t, Iv g, Iv l, Iv o, Iv p, Iv q, .slice af e.length z]] [] F (gn.f k n x m al an ad t g l o p q e) (fun r (y : Option Addr × Nat) => .slice y.1 r.length y.2) (fun r y => [ah 84 10 (V84 G) y.1 r y.2]) := by
 unfold gn.f
 refine aX 95 Tryz.func35 O Tryz.ntmps35 O (sr (oE (cH O O O) O ?_))
 intro a7
 refine oE (cH O O O) O ?_
 intro u
 refine oA O (nx (vq (oF O du O aU O) O (vq (cw (vs := [Iv n, Iv x, Iv m]) O O dm aU O (dc 1 O (cL O))) O (oE (bX O zeroValue43 O) O ?_))))
 intro w
 refine bg (aI 0 O O O aU O O (aM (by rfl)) O O) O O ?_
 intro _
 refine nx (oA O (oT ?_))
 refine bP (S := (List dE) × Int × Int) (Option Addr × Nat) (fun s y => [(2, Pt a7), (3, Pt u), (5, Pt w), (6, .slice y.1 s.1.length y.2)]) (fun s y => [W16 w s.2.1 s.2.2 m, W13 u t g l o p q e af z, W3 a7 n x m al an ad az ag, ah 84 10 (V84 G) y.1 s.1 y.2, F]) ?_ ?_
 refine sr (vq (oF O aS O cM O) O (vq (oL O dY 1 O) O (oM O ?_)))
 refine eG 15 (S := Bool) Unit (fun s y => [(2, Pt a7), (3, Pt u), (5, Pt w), (6, .slice none 0 0), (27, .bool s)]) (fun s y => [W16 w n x m, W13 u t g l o p q e af z, W3 a7 n x m al an ad az ag, F]) ?_ ?_
 refine ii (fun b6 => ?_) (fun b7 => ?_)
 rw [b6]
 refine aK (oF O aS O aU O) O O O O O O (aK (oF O bH O aa O) O O O O O O (aK (oL O ae 1 O) O O O O O O (aK (oF O bH O aa O) O O O O O O (aK (oL O ae 0 O) O O O O O O (aK (ej O O O) O O O O O O (aK (am O O) O O O O O O (ao (b := !decide (g = n)) (fun ec => RQ.sub (E' := [(3, Pt u)]) ⟨O, trivial⟩ (oF O aS O aU O)) O O O O O (ao (b := !decide (g = n)) (fun b8 => RQ.sub (E' := [(20, .pointer (some ⟨u, 1, none⟩))]) ⟨aN O b8, trivial⟩ (oF O bH O aa O)) O O O O O (ao (b := !decide (g = n)) (fun b9 => RQ.sub (E' := [(21, .pointer (some ⟨u, 2, none⟩))]) ⟨aN O b9, trivial⟩ (oL O ae 1 O)) O O O O O (ao (b := !decide (g = n)) (fun ed => RQ.sub (E' := [(5, Pt w)]) ⟨O, trivial⟩ (oF O bH O aa O)) O O O O O (ao (b := !decide (g = n)) (fun d6 => RQ.sub (E' := [(23, .pointer (some ⟨w, 1, none⟩))]) ⟨aN O d6, trivial⟩ (oL O ae 0 O)) O O O O O (ao (b := !decide (g = n)) (fun bc => RQ.sub (E' := [(22, Iv l), (24, Iv x)]) ⟨aN O bc, aN O bc, trivial⟩ (ej O O O)) O O O O O (aK (ik O O O) O O O O O O (vq (bZ O O O O O) O (aw ?_)))))))))))))))
 exact aF (s := (!decide (g = n)) || (!decide (l = x))) () ⟨O, O, O, O, O, trivial⟩ (.a (.a (.a (.a .n))))
 rw [b7]
 refine oS O (oS O (oS O (oS O (oS O (oS O (oS O (cQ O O O O O (cQ O O O O O (cQ O O O O O (cQ O O O O O (cQ O O O O O (cQ O O O O O (oS O (vq (bZ O O O O O) O (aw ?_)))))))))))))))
 exact aF (s := false) () ⟨O, O, O, O, O, trivial⟩ (.a (.a (.a (.a .n))))
 intro e8 e9
 refine oT ?_
 refine bm O (fun em => ?_) (fun en => ?_)
 refine sr (vq (oF O aS O aU O) O (vq (oF O bH O aa O) O (vq (oL O ae 1 O) O (vq (oF O aS O aU O) O (vq (oF O bH O aa O) O (vq (oL O ae 1 O) O (vq (oF O bH O aa O) O (vq (oL O ae 0 O) O (vq (cW (v := .agg #[Iv g, Iv l, Iv m]) O O (fun _ => by kernel_rfl)) O (bg (aI 0 O O O aU O O (aM (by rfl)) O O) O O ?_))))))))))
 intro _
 refine ny (oM O (vq (cF 0 O O dm aU O O) O (vq (cW (v := .agg #[Iv 1, Iv g, Iv l, Iv m, Iv 0, Iv 0, Iv 0, Iv 0, Iv 0, .slice none 0 0]) O O (fun _ => by kernel_rfl)) O ?_)))
 have a3 : bW 10 (V84 G) ([((1 : Int), g, l, m, (0 : Int), (0 : Int), (0 : Int), (0 : Int), (0 : Int), ([] : Lb))] : List dE) [[Iv 1, Iv g, Iv l, Iv m, Iv 0, Iv 0, Iv 0, Iv 0, Iv 0, .slice none 0 0]] := ⟨⟨rfl, aM (by rfl), ⟨none, 0, rfl, ⟨Rd.nil _ _, Nat.le_refl _, Nat.zero_le _⟩⟩⟩, trivial⟩
 refine oE (eW (V := (V84 G)) (xs := ([((1 : Int), g, l, m, (0 : Int), (0 : Int), (0 : Int), (0 : Int), (0 : Int), ([] : Lb))] : List dE)) [[Iv 1, Iv g, Iv l, Iv m, Iv 0, Iv 0, Iv 0, Iv 0, Iv 0, .slice none 0 0]] O O cC jZ O (by kernel_rfl) O a3 O O) O ?_
 intro er
 refine bo (fun cd => (oE (oQ (V := (V84 G)) O O O cC jZ (hQ.row a3 0 O) cd) O ?_))
 intro bd
 refine oA O (aw ?_)
 exact aF (s := (([((1 : Int), g, l, m, (0 : Int), (0 : Int), (0 : Int), (0 : Int), (0 : Int), ([] : Lb))] : List dE), g, l)) bd ⟨O, O, O, O, trivial⟩ (.c (.c (.c (.a (.b .n)))))
 refine aA ?_
 exact aF (s := (([] : List dE), n, x)) (none, 0) ⟨O, O, O, O, trivial⟩ (.a (.a (.a (.rowV_nil (.a .n)))))
 intro ab a0
 refine bP (S := (List dE)) (Option Addr × Nat) (fun s y => [(3, Pt u), (5, Pt w), (6, .slice y.1 s.length y.2)]) (fun s y => [W16 w ab.2.1 ab.2.2 m, W13 u t g l o p q e af z, ah 84 10 (V84 G) y.1 s y.2, F]) ?_ ?_
 refine sr (vq (oF O aS O aa O) O (vq (oL O ae 1 O) O (vq (dO O O O) O (oM O ?_))))
 refine eG 8 (S := Bool) Unit (fun s y => [(3, Pt u), (5, Pt w), (6, .slice a0.1 ab.1.length a0.2), (53, .bool s)]) (fun s y => [W16 w ab.2.1 ab.2.2 m, W13 u t g l o p q e af z, ah 84 10 (V84 G) a0.1 ab.1 a0.2, F]) ?_ ?_
 refine iD (fun ch => ?_) (fun cs => ?_)
 rw [ch]
 refine aK (cF 2 O O jz fy O O) O O O O O O (aK (oF O aS O aa O) O O O O O O (aK (oL O ae 1 O) O O O O O O (aK (oF O aS O aa O) O O O O O O (aK (oL O ae 1 O) O O O O O O (aj (fun d7 c0 => (gj (oC (vs := [.agg #[Iv n, Iv x, Iv m, Iv al, Iv an, .slice az ad.length ag], Iv p, Iv q]) (cap := []) (A := []) O call71 (.a (.a (.a (.a (.a .n))))) (gG.calls _ _ n x m al an az ag ad p q ((d4.up hG (V35.up hG)).up (Up.lend 4 O) (V35.up (Up.lend 4 O))) b4 b5) c0) O O O O O O ?_)))))))
 intro es
 refine aK (iB O O) O O O O O O (vq (bZ O O O O O) O (aw ?_))
 exact aF (s := !d7) () ⟨O, O, O, O, trivial⟩ (.a (.a (.b (.b .n))))
 rw [cs]
 refine oS O (oS O (oS O (oS O (oS O (oS O (oS O (vq (bZ O O O O O) O (aw ?_))))))))
 exact aF (s := false) () ⟨O, O, O, O, trivial⟩ (.a (.a (.b (.b .n))))
 intro et ex
 refine oT ?_
 refine bm O (fun eA => ?_) (fun eB => ?_)
 refine aG (oM O (vq (oF O aS O aa O) O (vq (oL O ae 1 O) O (vq (oF O aS O aa O) O (vq (oL O ae 1 O) O (vq (cW (v := .agg #[Iv 3, Iv 0, Iv 0, Iv 0, Iv p, Iv q, Iv 0, Iv 0, Iv 0, .slice none 0 0]) O O (fun _ => by kernel_rfl)) O ?_))))))
 have a4 : bW 10 (V84 G) ([((3 : Int), (0 : Int), (0 : Int), (0 : Int), p, q, (0 : Int), (0 : Int), (0 : Int), ([] : Lb))] : List dE) [[Iv 3, Iv 0, Iv 0, Iv 0, Iv p, Iv q, Iv 0, Iv 0, Iv 0, .slice none 0 0]] := ⟨⟨rfl, aM (by rfl), ⟨none, 0, rfl, ⟨Rd.nil _ _, Nat.le_refl _, Nat.zero_le _⟩⟩⟩, trivial⟩
 refine oE (eW (V := (V84 G)) (xs := ([((3 : Int), (0 : Int), (0 : Int), (0 : Int), p, q, (0 : Int), (0 : Int), (0 : Int), ([] : Lb))] : List dE)) [[Iv 3, Iv 0, Iv 0, Iv 0, Iv p, Iv q, Iv 0, Iv 0, Iv 0, .slice none 0 0]] O O cC jZ O (by kernel_rfl) O a4 O O) O ?_
 intro eD
 refine bk 3 O (fun ee c1 => (bo (fun c2 => (oE (eV 3 O O O cC jZ O c1 (hQ.row a4 0 O) c2) O ?_))))
 intro be
 refine oA O (aw ?_)
 exact aF (s := ab.1 ++ ([((3 : Int), (0 : Int), (0 : Int), (0 : Int), p, q, (0 : Int), (0 : Int), (0 : Int), ([] : Lb))] : List dE)) be ⟨O, O, O, trivial⟩ (.b (.b (.b (.b .n))))
 refine aA ?_
 exact aF (s := ab.1) a0 ⟨O, O, O, trivial⟩ (.a (.a (.a (.a .n))))
 intro d8 br
 refine bP (S := (List dE)) (Option Addr × Nat) (fun s y => [(3, Pt u), (5, Pt w), (6, .slice y.1 s.length y.2)]) (fun s y => [W16 w ab.2.1 ab.2.2 m, W13 u t g l o p q e af z, ah 84 10 (V84 G) y.1 s y.2, F]) ?_ ?_
 refine sr (oA O (oT (aZ ?_)))
 refine da (S := (List dE) × Int) (Option Addr × Nat) (fun k s => gn.l0 e k s.1 s.2) (fun s y => [(3, Pt u), (5, Pt w), (6, .slice y.1 s.1.length y.2), (7, Iv s.2)]) (fun s y => [W16 w ab.2.1 ab.2.2 m, W13 u t g l o p q e af z, ah 84 10 (V84 G) y.1 s.1 y.2, F]) (fun _ => by rw [gn.l0]) ?_ k (d8, 0) br ⟨O, O, O, O, trivial⟩ (.a (.a (.a (.a .n))))
 intro k h bs
 refine dW (by rw [gn.l0]) (ap (sr (oM O (vq (oF O aS O ew O) O (vq (oL O fC 1 O) O (vq (bL O O O cq) O (vq (dG O O O) O (oT ?_))))))))
 refine bu O (fun eF => ?_) (fun e0 => ?_)
 refine aA (ai (ap (aZ (aG (oM O (vq (oF O aS O ew O) O (vq (oL O fC 1 O) O (oM O (bo (fun a8 => ?_))))))))))
 obtain ⟨e1, ef, e2, c3, c4, d9, hcell58v⟩ := RdV.pos d5 hG rfl (i := h.2.toNat) (by omega) bh
 obtain ⟨a1, a2, rfl, ⟨c5, c6, c7⟩⟩ := c4
 refine vq (dM O O O c3 cq aR a8.1 a8.2) O (vq (cw O O cy aR O (fun j v hj => hcell58v 3 O j v hj)) O (vq (cW (v := .agg #[Iv 2, Iv 0, Iv 0, Iv 0, Iv 0, Iv 0, Iv ((e.getD h.2.toNat bh).1), Iv ((e.getD h.2.toNat bh).2.1), Iv ((e.getD h.2.toNat bh).2.2.1), .slice a1 (((e.getD h.2.toNat bh).2.2.2).length) a2]) O O (fun _ => by kernel_rfl)) O ?_))
 have a5 : bW 10 (V84 G) ([((2 : Int), (0 : Int), (0 : Int), (0 : Int), (0 : Int), (0 : Int), (e.getD h.2.toNat bh).1, (e.getD h.2.toNat bh).2.1, (e.getD h.2.toNat bh).2.2.1, (e.getD h.2.toNat bh).2.2.2)] : List dE) [[Iv 2, Iv 0, Iv 0, Iv 0, Iv 0, Iv 0, Iv ((e.getD h.2.toNat bh).1), Iv ((e.getD h.2.toNat bh).2.1), Iv ((e.getD h.2.toNat bh).2.2.1), .slice a1 (((e.getD h.2.toNat bh).2.2.2).length) a2]] := ⟨⟨rfl, aM (by rfl), ⟨a1, a2, rfl, ⟨c5, c6, c7⟩⟩⟩, trivial⟩
 refine oE (eW (V := (V84 G)) (xs := ([((2 : Int), (0 : Int), (0 : Int), (0 : Int), (0 : Int), (0 : Int), (e.getD h.2.toNat bh).1, (e.getD h.2.toNat bh).2.1, (e.getD h.2.toNat bh).2.2.1, (e.getD h.2.toNat bh).2.2.2)] : List dE)) [[Iv 2, Iv 0, Iv 0, Iv 0, Iv 0, Iv 0, Iv ((e.getD h.2.toNat bh).1), Iv ((e.getD h.2.toNat bh).2.1), Iv ((e.getD h.2.toNat bh).2.2.1), .slice a1 (((e.getD h.2.toNat bh).2.2.2).length) a2]] O O cC jZ O (by kernel_rfl) O a5 O O) O ?_
 intro e3
 refine bk 3 O (fun eg c8 => (bo (fun c9 => (oE (eV 3 O O O cC jZ O c8 (hQ.row a5 0 O) c9) O ?_))))
 intro bt
 refine oA O (aw (bz (ai (aG (oM O (vq (cn O O O) O (oA O (aw ?_))))))))
 exact bT (s := (h.1 ++ ([((2 : Int), (0 : Int), (0 : Int), (0 : Int), (0 : Int), (0 : Int), (e.getD h.2.toNat bh).1, (e.getD h.2.toNat bh).2.1, (e.getD h.2.toNat bh).2.2.1, (e.getD h.2.toNat bh).2.2.2)] : List dE), IntKind.i64.wrap (h.2 + 1))) bt ⟨O, O, O, O, trivial⟩ (.b (.b (.b (.b .n))))
 refine dt (cK (cU (cN ?_)))
 exact aF (s := h.1) bs ⟨O, O, O, trivial⟩ (.a (.a (.a (.a .n))))
 intro b0 b1
 refine bP (S := (List dE)) (Option Addr × Nat) (fun s y => [(6, .slice y.1 s.length y.2)]) (fun s y => [ah 84 10 (V84 G) y.1 s y.2, F]) ?_ ?_
 refine sr (vq (oF O aS O cM O) O (vq (oL O dY 1 O) O (oM O (ao (b := t) (fun ei => RQ.sub (E' := [(3, Pt u)]) ⟨O, trivial⟩ (oF O aS O aU O)) O O O O O (ao (b := t) (fun ds => RQ.sub (E' := [(81, .pointer (some ⟨u, 1, none⟩))]) ⟨aN O ds, trivial⟩ (oF O bH O aa O)) O O O O O (ao (b := t) (fun dz => RQ.sub (E' := [(82, .pointer (some ⟨u, 3, none⟩))]) ⟨aN O dz, trivial⟩ (oL O ae 1 O)) O O O O O (ao (b := t) (fun ek => RQ.sub (E' := [(5, Pt w)]) ⟨O, trivial⟩ (oF O bH O aa O)) O O O O O (ao (b := t) (fun d1 => RQ.sub (E' := [(84, .pointer (some ⟨w, 2, none⟩))]) ⟨aN O d1, trivial⟩ (oL O ae 0 O)) O O O O O (ao (b := t) (fun a9 => RQ.sub (E' := [(83, Iv o), (85, Iv m)]) ⟨aN O a9, aN O a9, trivial⟩ (ej O O O)) O O O O O (vq (fN O O O) O (oT ?_)))))))))))
 refine bm O (fun e4 => ?_) (fun e5 => ?_)
 refine aG (oM O (vq (oF O aS O aU O) O (vq (cw (vs := [Iv g, Iv l, Iv o]) O O dm aU O (dc 1 O (cL O))) O (vq (cW (v := .agg #[Iv 1, Iv g, Iv l, Iv o, Iv 0, Iv 0, Iv 0, Iv 0, Iv 0, .slice none 0 0]) O O (fun _ => by kernel_rfl)) O ?_))))
 have a6 : bW 10 (V84 G) ([((1 : Int), g, l, o, (0 : Int), (0 : Int), (0 : Int), (0 : Int), (0 : Int), ([] : Lb))] : List dE) [[Iv 1, Iv g, Iv l, Iv o, Iv 0, Iv 0, Iv 0, Iv 0, Iv 0, .slice none 0 0]] := ⟨⟨rfl, aM (by rfl), ⟨none, 0, rfl, ⟨Rd.nil _ _, Nat.le_refl _, Nat.zero_le _⟩⟩⟩, trivial⟩
 refine oE (eW (V := (V84 G)) (xs := ([((1 : Int), g, l, o, (0 : Int), (0 : Int), (0 : Int), (0 : Int), (0 : Int), ([] : Lb))] : List dE)) [[Iv 1, Iv g, Iv l, Iv o, Iv 0, Iv 0, Iv 0, Iv 0, Iv 0, .slice none 0 0]] O O cC jZ O (by kernel_rfl) O a6 O O) O ?_
 intro e6
 refine bk 3 O (fun el d2 => (bo (fun d3 => (oE (eV 3 O O O cC jZ O d2 (hQ.row a6 0 O) d3) O ?_))))
 intro b2
 refine oA O (aw ?_)
 exact aF (s := b0 ++ ([((1 : Int), g, l, o, (0 : Int), (0 : Int), (0 : Int), (0 : Int), (0 : Int), ([] : Lb))] : List dE)) b2 ⟨O, trivial⟩ (.d (.d .n))
 refine aA ?_
 exact aF (s := b0) b1 ⟨O, trivial⟩ (.c (.c .n))
 intro e7 b3
 refine sr (oM O (oA O (oT (ay ?_))))
 exact aJ b3 O O O (.a (.a .n))

def iN.f (e a g : Int) (h : List UInt8) (b c d : Int) : Option (Bool) := some ((decide (b = c)) && (decide (d < a)))
theorem iN.calls (W : World) (F : HA) (i g j : Int) (k : Option Addr) (h : Nat) (d : Lb) (c : Int) (b1 : Nat) (a : Int) (b2 : Nat) (e : Int) (s : Rd F k (aL d)) (p : d.length ≤ h) (q : h ≤ maxLen) :
    Fn Tryz.prog W 91 [.agg #[Iv i, Iv g, Iv j, .slice k d.length h, Iv c], Pt b1, Pt b2] [obj b1 3 [Iv a], obj b2 3 [Iv e]] F (iN.f i g j d c a e) (fun r (y : Unit) => .bool r) (fun r y => [obj b1 3 [Iv a], obj b2 3 [Iv e]]) := by
 unfold iN.f
 refine aX 16 Tryz.func91 O Tryz.ntmps91 O (sr (oE (cH O O O) O ?_))
 intro l
 refine oA O (nx (vq (oF O fc O aa O) O (vq (oL O ae 0 O) O (vq (oL O ae 1 O) O (vq (cr O O O) O (oM O (ao (b := decide (c = a)) (fun t => RQ.sub (E' := [(3, Pt l)]) ⟨O, trivial⟩ (oF O fc O aR O)) O O O O O (ao (b := decide (c = a)) (fun n => RQ.sub (E' := [(10, Pt l)]) ⟨aN O n, trivial⟩ (oF O bj O aa O)) O O O O O (ao (b := decide (c = a)) (fun o => RQ.sub (E' := [(11, .pointer (some ⟨l, 1, none⟩))]) ⟨aN O o, trivial⟩ (oL O ae 0 O)) O O O O O (ao (b := decide (c = a)) (fun u => RQ.sub (E' := [(2, Pt b2)]) ⟨O, trivial⟩ (oL O ae 2 O)) O O O O O (ao (b := decide (c = a)) (fun m => RQ.sub (E' := [(12, Iv g), (13, Iv e)]) ⟨aN O m, aN O m, trivial⟩ (dO O O O)) O O O O O (vq (fN O O O) O (oA O (oT (ay ?_)))))))))))))))
 exact aJ () O O O (.b (.b (.b .n)))

def bG.l0 (x0 : List (aP)) (b c : Int) : Nat → Int → Option ((Unit) ⊕ (Int))
  | 0, _ => none
  | k + 1, a => if a < (x0.length : Int) then (if 0 ≤ a ∧ a < (x0.length : Int) then ((iN.f ((x0.getD a.toNat aD).1) ((x0.getD a.toNat aD).2.1) ((x0.getD a.toNat aD).2.2.1) ((x0.getD a.toNat aD).2.2.2.1) ((x0.getD a.toNat aD).2.2.2.2) b c).bind fun d => (if d = true then (some (.inr a)) else (bG.l0 x0 b c k (IntKind.i64.wrap (a + 1))))) else none) else (some (.inl ()))
def bG.f (k : Nat) (x0 : List (aP)) (a b : Int) : Option (Int) := orR (bG.l0 x0 a b k 0) fun c => (some (-1))
theorem bG.calls (W : World) (F : HA) (k : Nat) (a0 : Option Addr) (c0 : Nat) (x0 : List aP) (e : Nat) (b : Int) (g : Nat) (c : Int) (h0 : RdV F 5 (ba F) a0 x0) (al : x0.length ≤ c0) (an : c0 ≤ maxLen) :
    Fn Tryz.prog W 115 [.slice a0 x0.length c0, .func (.func 91) #[] #[Pt e, Pt g]] [obj e 3 [Iv b], obj g 3 [Iv c]] F (bG.f k x0 b c) (fun r (y : Unit) => Iv r) (fun r y => [obj e 3 [Iv b], obj g 3 [Iv c]]) := by
 unfold bG.f
 refine aX 19 Tryz.func115 O Tryz.ntmps115 O (sr (oA O (oT ?_)))
 refine iA (S := Unit) Unit (fun s y => []) (fun s y => [obj e 3 [Iv b], obj g 3 [Iv c], F]) ?_ ?_
 refine sr (oM O (vq (bL O O O bJ) O (oM O (oT (aZ ?_)))))
 refine da (S := Int) Unit (fun k s => bG.l0 x0 b c k s) (fun s y => [(0, .slice a0 x0.length c0), (1, .func (.func 91) #[] #[Pt e, Pt g]), (7, Iv (x0.length : Int)), (8, Iv s)]) (fun s y => [obj e 3 [Iv b], obj g 3 [Iv c], F]) (fun _ => by rw [bG.l0]) ?_ k 0 () ⟨O, O, O, O, trivial⟩ (.a (.a (.a .n)))
 intro k d az
 refine dW (by rw [bG.l0]) (sr (vq (dG O O O) O (oT (ap ?_))))
 refine bu O (fun a1 => ?_) (fun a2 => ?_)
 refine aA (ai (ap (aZ (sr (oM O (oA O (nx (oM O (oM O (oM O (bo (fun h => ?_))))))))))))
 obtain ⟨a3, x, z, n, o, w, hcell15v⟩ := RdV.pos h0 (Up.refl _) rfl (i := d.toNat) (by omega) aD
 obtain ⟨l, m, rfl, ⟨p, q, t⟩⟩ := o
 refine vq (dM O O O n bJ dX h.1 h.2) O (vq (cw O O isAgg144 dX O (fun j v hj => hcell15v 2 O j v hj)) O (aj (fun ab u => (oE (oC (vs := [.agg #[Iv ((x0.getD d.toNat aD).1), Iv ((x0.getD d.toNat aD).2.1), Iv ((x0.getD d.toNat aD).2.2.1), .slice l (((x0.getD d.toNat aD).2.2.2.1).length) m, Iv ((x0.getD d.toNat aD).2.2.2.2)]]) (cap := [Pt e, Pt g]) (A := [obj e 3 [Iv b], obj g 3 [Iv c]]) O call91 (.a (.a (.a .n))) (iN.calls _ _ ((x0.getD d.toNat aD).1) ((x0.getD d.toNat aD).2.1) ((x0.getD d.toNat aD).2.2.1) l m ((x0.getD d.toNat aD).2.2.2.1) ((x0.getD d.toNat aD).2.2.2.2) e b g c (p.lend 0 O) q t) u) O ?_))))
 intro ad
 refine oT ?_
 refine bm O (fun af => ?_) (fun ag => ?_)
 refine sr (oM O (oA O (oT (ay (bI (aY (ij (bI (gP ?_)))))))))
 exact aJ () O O O (.a (.a (.a .n)))
 refine aA (bz (ai (aG (vq (cn O O O) O (oM O (aw ?_))))))
 exact bT (s := IntKind.i64.wrap (d + 1)) () ⟨O, O, O, O, trivial⟩ (.a (.a (.a .n)))
 refine dt (cK (cU (cN ?_)))
 exact gx (s := ()) () trivial (.a (.a (.a .n)))
 intro a4 a5
 refine sr (oA O (oT (ay ?_)))
 exact aJ () O O O (.a (.a (.a .n)))

def cp.f (k : Nat) (x0 : List (aP)) (a b : Int) : Option (Bool) := (bG.f k x0 a b).bind fun c => (some (decide ((0 : Int) ≤ c)))
theorem cp.calls (W : World) (F : HA) (k : Nat) (a0 : Option Addr) (c0 : Nat) (x0 : List aP) (d : Nat) (b : Int) (e : Nat) (c : Int) (h0 : RdV F 5 (ba F) a0 x0) (h : x0.length ≤ c0) (i : c0 ≤ maxLen) :
    Fn Tryz.prog W 90 [.slice a0 x0.length c0, .func (.func 91) #[] #[Pt d, Pt e]] [obj d 3 [Iv b], obj e 3 [Iv c]] F (cp.f k x0 b c) (fun r (y : Unit) => .bool r) (fun r y => [obj d 3 [Iv b], obj e 3 [Iv c]]) := by
 unfold cp.f
 refine aX 9 Tryz.func90 O Tryz.ntmps90 O (sr (oA O (nx (oM O (oM O (aj (fun j g => (oE (oC (vs := [.slice a0 x0.length c0, .func (.func 91) #[] #[Pt d, Pt e]]) (cap := []) (A := [obj d 3 [Iv b], obj e 3 [Iv c]]) O call115 (.a (.a (.a .n))) (bG.calls _ _ k a0 c0 x0 d b e c (h0.up (Up.lend 0 O) (ba.up (Up.lend 0 O))) h i) g) O ?_))))))))
 intro l
 refine vq (lw O O O) O (oA O (oT (ay ?_)))
 exact aJ () O O O (.a (.a (.a .n)))

def mn.f (k : Nat) (c d e g h : Int) (a : List (aP)) (x1 x2 : Int) : Option (Bool) := (cp.f k a x1 x2).bind fun b => (some b)
theorem mn.calls (W : World) (F : HA) (k b0 : Nat) (h i j l m : Int) (g : Option Addr) (e : Nat) (d : List aP) (x1 x2 : Int) (s : RdV F 5 (ba F) g d) (p : d.length ≤ e) (q : e ≤ maxLen) :
    Fn Tryz.prog W 63 [Pt b0, Iv x1, Iv x2] [W15 b0 h i j l m d g e] F (mn.f k h i j l m d x1 x2) (fun r (y : Unit) => .bool r) (fun r y => [W15 b0 h i j l m d g e]) := by
 unfold mn.f
 refine aX 13 Tryz.func63 O Tryz.ntmps63 O (sr (oE (cH O O O) O ?_))
 intro n
 refine oE (cH O O O) O ?_
 intro o
 refine oA O (nx (oM O (oN O (vq (oF O aC O bR O) O (vq (oL O dn 2 O) O (vq (jj O O O) O (aj (fun u t => (oE (oC (vs := [.slice g d.length e, .func (.func 91) #[] #[Pt n, Pt o]]) (cap := []) (A := [obj n 3 [Iv x1], obj o 3 [Iv x2]]) O call90 (.b (.a (.a (.a .n)))) (cp.calls _ _ k g e d n x1 o x2 (s.up (Up.lend 1 O) (ba.up (Up.lend 1 O))) p q) t) O ?_)))))))))
 intro v
 refine oA O (oT (ay ?_))
 exact aJ () O O O (.c (.c .n))

def fO.f (x0 : List (aP)) : Option ((List (aP))) := if (([] : List (aP)).length + x0.length) * 56 ≤ 140737488355328 then (some (([] : List (aP)) ++ x0)) else none
theorem fO.calls (W : World) (F G : HA) (hG : Up G F) (a0 : Option Addr) (c0 : Nat) (x0 : List aP) (h0 : RdV G 5 (ba G) a0 x0) (g : x0.length ≤ c0) (i : c0 ≤ maxLen) :
    Fn Tryz.prog W 92 [.slice a0 x0.length c0] [] F (fO.f x0) (fun r (y : Option Addr × Nat) => .slice y.1 r.length y.2) (fun r y => [ah 144 5 (ba G) y.1 r y.2]) := by
 unfold fO.f
 refine aX 8 Tryz.func92 O Tryz.ntmps92 O ?_
 rcases a0 with _ | p0
 have hx : x0 = [] := uU rfl h0
 subst hx
 refine dW (o' := some ([] : List aP)) (by simp) (sr (oA O (oT (ap (sr (oM O (vq (rt O O bJ) O (oT (ix O (sr (oA O (oT (ay (aY ?_))))))))))))))
 exact aJ (none, 0) O O O (.rowV_nil (.a .n))
 refine sr (oA O (oT (ap (sr (oM O (vq (ru O O bJ) O (oT (jE O (aA (ai (sr (oE (mC (α := Int × Int × Int × Lb × Int) (V := (ba G)) O bJ pb) O ?_))))))))))))
 intro j
 refine oM O (bk 0 O (fun e c => (bo (fun d => ?_))))
 refine oE (eV 0 O O O bJ pb O c ((h0.up hG (fun _ _ h => h)).rds 0 O) d) O ?_
 intro b
 refine oA O (oT (ay ?_))
 exact aJ b O O O (.a (.a .n))

def gK.l0 (b : List (aP)) (x1 : Int) : Nat → Int → Option (Int)
  | 0, _ => none
  | k + 1, a => (if a < (b.length : Int) then (if 0 ≤ a ∧ a < (b.length : Int) then (some (decide ((b.getD a.toNat aD).2.2.2.2 = x1))) else none) else (some false)).bind fun c => (if c = true then (gK.l0 b x1 k (IntKind.i64.wrap (a + 1))) else (some a))
def gK.f (k : Nat) (c d e g h : Int) (a : List (aP)) (x1 : Int) : Option (Int × Int × Int × Int × Int × (List (aP))) := (gK.l0 a x1 k 0).bind fun b => (if (0 : Int) < b then (if 0 ≤ IntKind.i64.wrap (b - 1) ∧ IntKind.i64.wrap (b - 1) < (a.length : Int) then (if 0 ≤ b ∧ b ≤ (a.length : Int) ∧ (a.length : Int) ≤ (a.length : Int) then ((fO.f (cut a b (a.length : Int))).bind fun i => (some (c, d, e, (a.getD (IntKind.i64.wrap (b - 1)).toNat aD).2.1, (a.getD (IntKind.i64.wrap (b - 1)).toNat aD).1, i))) else none) else none) else (some (c, d, e, g, h, a)))
theorem gK.calls (W : World) (F : HA) (k b0 : Nat) (q t u x z : Int) (h : Option Addr) (n : Nat) (e : List aP) (o : HA) (x1 : Int)  :
    Fn Tryz.prog W 65 [Pt b0, Iv x1] [W15 b0 q t u x z e h n, ah 144 5 (ba o) h e n, o] F (gK.f k q t u x z e x1) (fun r (y : Option Addr × Nat × HA) => .tuple #[]) (fun r y => [W17 b0 r y.1 y.2.1, ah 144 5 (ba y.2.2) y.1 r.2.2.2.2.2 y.2.1, y.2.2]) := by
 unfold gK.f
 refine aX 58 Tryz.func65 O Tryz.ntmps65 O (sr (oA O (oT ?_)))
 refine bP (S := Int) Unit (fun s y => [(0, Pt b0), (4, Iv s)]) (fun s y => [W15 b0 q t u x z e h n, ah 144 5 (ba o) h e n, o, F]) ?_ ?_
 refine aZ ?_
 refine da (S := Int) Unit (fun k s => gK.l0 e x1 k s) (fun s y => [(0, Pt b0), (1, Iv x1), (4, Iv s)]) (fun s y => [W15 b0 q t u x z e h n, ah 144 5 (ba o) h e n, o, F]) (fun _ => by rw [gK.l0]) ?_ k 0 () ⟨O, O, O, trivial⟩ (.a (.a (.a (.a .n))))
 intro k af d1
 refine dW (by rw [gK.l0]) (ap (sr (oM O (oM O (oN O (vq (oF O aC O bR O) O (vq (oL O dn 0 O) O (vq (bL O O O bJ) O (vq (dG O O O) O (oM O ?_))))))))))
 refine eG 11 (S := Bool) Unit (fun s y => [(0, Pt b0), (1, Iv x1), (4, Iv af), (24, .bool s)]) (fun s y => [W15 b0 q t u x z e h n, ah 144 5 (ba o) h e n, o, F]) ?_ ?_
 refine iD (fun a6 => ?_) (fun a7 => ?_)
 rw [a6]
 refine aK (am O O) O O O O O O (aK (bi O O) O O O O O O (aK (oF O aC O bR O) O O O O O O (aK (oL O dn 0 O) O O O O O O (aK (am O O) O O O O O O (bk 1 O (fun b6 al => (bo (fun a2 => (gv 1 O al O (i := af.toNat) (by omega) aD (fun d2 c2 c3 a8 a9 b4 hcell15v => ?_))))))))))
 obtain ⟨c4, c5, rfl, ⟨b7, b8, b9⟩⟩ := a9
 refine aK (dM O O O a8 bJ dX a2.1 a2.2) O O O O O O (aK (oF O fc O aa O) O O O O O O (aK (dR O O ae (hcell15v 1 O 4 _ O)) O O O O O O (aK (am O O) O O O O O O (aK (cr O O O) O O O O O O (vq (bZ O O O O O) O (aw ?_))))))
 exact aF (s := decide ((e.getD af.toNat aD).2.2.2.2 = x1)) () ⟨O, O, O, O, trivial⟩ (.a (.sel' 0 O (ah.mk al) (.a (.a .n))))
 rw [a7]
 refine oS O (oS O (oS O (oS O (oS O (oS O (oS O (oS O (oS O (oS O (vq (bZ O O O O O) O (aw ?_)))))))))))
 exact aF (s := false) () ⟨O, O, O, O, trivial⟩ (.a (.a (.a (.a .n))))
 intro d3 d4
 refine oT ?_
 refine bm O (fun c6 => ?_) (fun c7 => ?_)
 refine aA (ai (aZ (aG (oM O (vq (cn O O O) O (oA O (aw (bz ?_))))))))
 exact bT (s := IntKind.i64.wrap (af + 1)) () ⟨O, O, O, trivial⟩ (.a (.a (.a (.a .n))))
 refine dt (cK (cU (cN ?_)))
 exact aF (s := af) () ⟨O, O, trivial⟩ (.a (.a (.a (.a .n))))
 intro g d5
 refine sr (oM O (vq (dO O O O) O (oT ?_)))
 refine bu O (fun c8 => ?_) (fun c9 => ?_)
 refine sr (oM O (oN O (vq (oF O aC O bR O) O (vq (oL O dn 0 O) O (oM O (vq (eL O O O) O (bk 1 O (fun p an => (bo (fun az => (gv 1 O an O (i := (IntKind.i64.wrap (g - 1)).toNat) (by omega) aD (fun ds cd dz bc bd b5 hcell36v => ?_))))))))))))
 obtain ⟨ab, ad, rfl, ⟨ch, cs, c0⟩⟩ := bd
 refine vq (dM O O O bc bJ dX az.1 az.2) O (vq (oF O fc O aR O) O (vq (cw (vs := [Iv ((e.getD (IntKind.i64.wrap (g - 1)).toNat aD).1), Iv ((e.getD (IntKind.i64.wrap (g - 1)).toNat aD).2.1), Iv ((e.getD (IntKind.i64.wrap (g - 1)).toNat aD).2.2.1), .slice ab (((e.getD (IntKind.i64.wrap (g - 1)).toNat aD).2.2.2.1).length) ad]) O O cy aR O (fun j v hj => nE (hcell36v 1 O (0 + j) v (cL (off := 0) O j v hj)))) O (oE (bX O dy O) O ?_)))
 intro ag
 refine bg (aI 0 O O O aR O O (aM (by rfl)) O O) O O ?_
 intro _
 refine oT (ap (bK [[], [], [], [2], [], [4], [0, 2, 3], [0, 2, 3, 6], [0, 2, 3, 6, 7], rL 9, rL 10, rL 11] 58 O mixed (by decide) (dqo 0 [0] O O O (am O O) (dqo 1 [0] O O O (am O O) (dqo 2 [5] O O O (oF O bj O aa O) (dl 3 [] O O O (oL O ae 0 O) (dqo 4 [5] O O O (oF O bj O aa O) (dl 5 [] O O O (oL O ae 0 O) (dq 6 O O O (bi O O) (dq 7 O O O (oF O aC O aa O) (de 8 [] O O O O (aI 1 O O O aa O O (aM (by rfl)) O O) (fun _ => (ac (px [] O O O O (oL O ae 0 O)) zA)) (fun _ => (dq 9 O O O (bi O O) (dq 10 O O O (oF O aC O aa O) (de 11 [] O O O O (aI 1 O O O aa O O (aM (by rfl)) O O) (fun _ => zA) (fun _ => (.fin [(0, Pt b0), (4, Iv g)] O ⟨O, O, trivial⟩ (ai (aG (oM O (oM O (oN O (vq (oF O aC O bR O) O (vq (oL O dn 1 O) O (oM O (bw 2 O (fun be a0 br c1 => (cl (H' := [bl [Row 144 5 h e.length n p.flatten, o], W18 ag (e.getD (IntKind.i64.wrap (g - 1)).toNat aD) ab ad, W15 b0 q t u ((e.getD (IntKind.i64.wrap (g - 1)).toNat aD).2.1) ((e.getD (IntKind.i64.wrap (g - 1)).toNat aD).1) e h n, F]) (Ent.trans (m := [Row 144 5 h e.length n p.flatten, o, W18 ag (e.getD (IntKind.i64.wrap (g - 1)).toNat aD) ab ad, W15 b0 q t u ((e.getD (IntKind.i64.wrap (g - 1)).toNat aD).2.1) ((e.getD (IntKind.i64.wrap (g - 1)).toNat aD).1) e h n, F]) (.c (.c (.a (.a (.a .n))))) (jv [Row 144 5 h e.length n p.flatten, o] _)) (bo (fun a1 => ?_))))))))))))))))))))))))))))))
 obtain ⟨a3, a4, bs, bt, b1, b2⟩ := jY (lo := g) (hi := (e.length : Int)) (Rd.asV (an.mono (ba.up (Up.lend (l := [Row 144 5 h e.length n p.flatten, o]) 1 rfl))) (Rd.lend (l := [Row 144 5 h e.length n p.flatten, o]) be 0 rfl)) a0 a1
 refine vq (gV (l := e) (lo' := g) (hi' := (e.length : Int)) O O O O bJ dX (.inl ⟨O, O⟩) (.inr ⟨_, O⟩) a1 a0 bs) O (aj (fun a5 b3 => (oE (oC (vs := [.slice a3 ((cut e g (e.length : Int)).length) a4]) (cap := []) (A := []) O call92 (.a (.a (.a (.a .n)))) (fO.calls _ _ _ (Up.lend 0 O) a3 a4 (cut e g (e.length : Int)) bt b1 (Nat.le_trans b2 br)) b3) O ?_)))
 intro w
 refine oN O (vq (oF O aC O bR O) O (bg (aI 3 O O O bR O O (aM (by rfl)) O O) O O ?_))
 intro _
 refine cl (H' := [ah 144 5 (ba (bl [Row 144 5 h e.length n p.flatten, o])) w.1 a5 w.2, bl [Row 144 5 h e.length n p.flatten, o], W18 ag (e.getD (IntKind.i64.wrap (g - 1)).toNat aD) ab ad, W15 b0 q t u ((e.getD (IntKind.i64.wrap (g - 1)).toNat aD).2.1) ((e.getD (IntKind.i64.wrap (g - 1)).toNat aD).1) a5 w.1 w.2, F]) (Ent.refl _) (aw ?_)
 exact gw (w.1, w.2, bl [Row 144 5 h e.length n p.flatten, o]) O O O (.d (.a (.a (.b .n))))
 refine aA ?_
 exact gw (h, n, o) O O O (.a (.a (.a (.a .n))))
end Go.Proofs.YtndjkejhacfpdaaGreatDoor

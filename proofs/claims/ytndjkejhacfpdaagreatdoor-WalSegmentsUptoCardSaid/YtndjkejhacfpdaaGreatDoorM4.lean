/- Texts that lead to the law WalSegments: G2. Conditions: as each says. -/
import Derived.Test.YtndjkejhacfpdaaGreatDoorM3
set_option linter.unusedVariables false
set_option linter.unusedSimpArgs false
set_option linter.unusedSectionVars false
namespace Go.Proofs.YtndjkejhacfpdaaGreatDoor
open Go.RowKit _root_.Go.Proofs.Tryz
set_option maxRecDepth 20000
set_option maxHeartbeats 20000000
def gd.f (k : Nat) (x0 : List UInt8) (x1 : Int) : Option (List UInt8 × Int × Int) := if (((decide (x1 < (0 : Int))) || (decide ((x0.length : Int) < x1))) || (decide (IntKind.i64.wrap ((x0.length : Int) - x1) < (4 : Int)))) = true then (some (([] : List UInt8), 0, 2)) else (if 0 ≤ x1 ∧ x1 ≤ (x0.length : Int) ∧ (x0.length : Int) ≤ (x0.length : Int) then ((fC.f (cut x0 x1 (x0.length : Int))).bind fun a => (if (1048576 : Int) < IntKind.i64.wrap a then (some (([] : List UInt8), 0, 3)) else (if ((cut x0 x1 (x0.length : Int)).length : Int) < IntKind.i64.wrap (8 + (IntKind.i64.wrap a)) then (some (([] : List UInt8), 0, 2)) else (if 0 ≤ (8 : Int) ∧ (8 : Int) ≤ IntKind.i64.wrap (8 + (IntKind.i64.wrap a)) ∧ IntKind.i64.wrap (8 + (IntKind.i64.wrap a)) ≤ ((cut x0 x1 (x0.length : Int)).length : Int) then (if 0 ≤ (0 : Int) ∧ (0 : Int) ≤ (4 : Int) ∧ (4 : Int) ≤ ((cut x0 x1 (x0.length : Int)).length : Int) then ((bU.f k (4294967295 : Int) (cut (cut x0 x1 (x0.length : Int)) (0 : Int) (4 : Int))).bind fun b => ((bU.f k b (cut (cut x0 x1 (x0.length : Int)) (8 : Int) (IntKind.i64.wrap (8 + (IntKind.i64.wrap a))))).bind fun c => (if 0 ≤ (4 : Int) ∧ (4 : Int) ≤ ((cut x0 x1 (x0.length : Int)).length : Int) ∧ ((cut x0 x1 (x0.length : Int)).length : Int) ≤ ((cut x0 x1 (x0.length : Int)).length : Int) then ((fC.f (cut (cut x0 x1 (x0.length : Int)) (4 : Int) ((cut x0 x1 (x0.length : Int)).length : Int))).bind fun d => (if bQ .xor .u32 (if IntKind.u32.signed then -1 else IntKind.u32.max) c = d then (if 0 ≤ (0 : Int) ∧ (0 : Int) ≤ IntKind.i64.wrap a ∧ IntKind.i64.wrap a * 1 ≤ 140737488355328 then (if ((List.replicate (0 : Int).toNat (0 : UInt8)).length + (cut (cut x0 x1 (x0.length : Int)) (8 : Int) (IntKind.i64.wrap (8 + (IntKind.i64.wrap a)))).length) * 1 ≤ 140737488355328 then (some ((List.replicate (0 : Int).toNat (0 : UInt8)) ++ (cut (cut x0 x1 (x0.length : Int)) (8 : Int) (IntKind.i64.wrap (8 + (IntKind.i64.wrap a)))), IntKind.i64.wrap (8 + (IntKind.i64.wrap a)), 0)) else none) else none) else (some (([] : List UInt8), 0, 5)))) else none))) else none) else none)))) else none)
theorem gd.calls (W : World) (F : HA) (k : Nat) (a0 : Option Addr) (c0 : Nat) (x0 : Lb) (x1 : Int) (h0 : Rd F a0 (ax x0)) (b9 : x0.length ≤ c0) (af : c0 ≤ maxLen) :
    Fn Tryz.prog W 68 [.slice a0 x0.length c0, Iv x1] [] F (gd.f k x0 x1) (fun (r : Lb × Int × Int) (y : Option Addr × Nat) => .tuple #[.slice y.1 r.1.length y.2, Iv r.2.1, Iv r.2.2]) (fun r y => [Row 5 1 y.1 r.1.length y.2 (ax r.1)]) := by
 unfold gd.f
 refine aO 58 Tryz.func68 O Tryz.ntmps68 O (sr (va O O (va O O (va O O (ae (aa (ay (sr (vm O O (vq (cD O O O) O (vm O O (aw (b := decide (x1 < (0 : Int))) (fun ch => RQ.sub (E' := [(1, Iv x1)]) ⟨O, trivial⟩ (aY O O)) O O O O O (aw (b := decide (x1 < (0 : Int))) (fun cs => RQ.sub (E' := [(0, .slice a0 x0.length c0)]) ⟨O, trivial⟩ (aY O O)) O O O O O (aw (b := decide (x1 < (0 : Int))) (fun a7 => RQ.sub (E' := [(14, .slice a0 x0.length c0)]) ⟨aH O a7, trivial⟩ (bC O O O underlying33)) O O O O O (aw (b := decide (x1 < (0 : Int))) (fun al => RQ.sub (E' := [(13, Iv x1), (15, Iv (x0.length : Int))]) ⟨aH O al, aH O al, trivial⟩ (cC O O O)) O O O O O (vq (fb O O O) O (vm O O (aw (b := (decide (x1 < (0 : Int))) || (decide ((x0.length : Int) < x1))) (fun c1 => RQ.sub (E' := [(0, .slice a0 x0.length c0)]) ⟨O, trivial⟩ (aY O O)) O O O O O (aw (b := (decide (x1 < (0 : Int))) || (decide ((x0.length : Int) < x1))) (fun a8 => RQ.sub (E' := [(19, .slice a0 x0.length c0)]) ⟨aH O a8, trivial⟩ (bC O O O underlying33)) O O O O O (aw (b := (decide (x1 < (0 : Int))) || (decide ((x0.length : Int) < x1))) (fun c2 => RQ.sub (E' := [(1, Iv x1)]) ⟨O, trivial⟩ (aY O O)) O O O O O (aw (b := (decide (x1 < (0 : Int))) || (decide ((x0.length : Int) < x1))) (fun an => RQ.sub (E' := [(20, Iv (x0.length : Int)), (21, Iv x1)]) ⟨aH O an, aH O an, trivial⟩ (cW O O O)) O O O O O (aw (b := (decide (x1 < (0 : Int))) || (decide ((x0.length : Int) < x1))) (fun a9 => RQ.sub (E' := [(22, Iv (IntKind.i64.wrap ((x0.length : Int) - x1)))]) ⟨aH O a9, trivial⟩ (cD O O O)) O O O O O (vq (fb O O O) O (ae (aa ?_)))))))))))))))))))))))))
 refine aX O (fun d1 => ?_) (fun d2 => ?_)
 refine sr (va O O (va O O (va O O (ae (aa (aA (aN ?_)))))))
 exact aE (none, 0) O O O (.row_nil (.s O .n))
 refine aB (aa (sr (vm O O (vm O O (bb (fun a5 => ?_))))))
 obtain ⟨az, a1, cd, e, a, g⟩ := gV (lo := x1) (hi := (x0.length : Int)) h0 b9 a5
 refine vq (gD (l := x0) (lo' := x1) (hi' := (x0.length : Int)) O O O O underlying33 sizeOf5 (.inl ⟨O, O⟩) (.inr ⟨_, O⟩) a5 b9 cd) O (va O O (nx (vm O O (av (fun c bc => (ah (au (vs := [.slice az ((cut x0 x1 (x0.length : Int)).length) a1]) (cap := []) (A := []) (rst := [F]) O O O O O O call94 (.s O .n) (fC.calls _ _ az a1 (cut x0 x1 (x0.length : Int)) (e.lend 0 O) a (Nat.le_trans g af)) bc) O O O ?_))))))
 intro c3
 refine vq (fN O O underlying149 underlying3) O (va O O (ae (aa (ay (sr (vm O O (vq (cC O O O) O (ae (aa ?_)))))))))
 refine bk O (fun c4 => ?_) (fun c5 => ?_)
 refine sr (va O O (va O O (va O O (ae (aa (aA (aN ?_)))))))
 exact aE (none, 0) O O O (.row_nil (.s O .n))
 refine aB (aa (ay (sr (vm O O (vq (bC O O O underlying33) O (vm O O (vq (ca O O O) O (vq (cD O O O) O (ae (aa ?_))))))))))
 refine bk O (fun c6 => ?_) (fun c7 => ?_)
 refine sr (va O O (va O O (va O O (ae (aa (aA (aN ?_)))))))
 exact aE (none, 0) O O O (.row_nil (.s O .n))
 refine aB (aa (sr (vm O O (vm O O (vq (ca O O O) O (bb (fun a2 => ?_)))))))
 obtain ⟨h, m, bd, a3, be, br⟩ := gV (lo := (8 : Int)) (hi := IntKind.i64.wrap (8 + (IntKind.i64.wrap c))) e a a2
 refine vq (gD (l := (cut x0 x1 (x0.length : Int))) (lo' := (8 : Int)) (hi' := IntKind.i64.wrap (8 + (IntKind.i64.wrap c))) O O O O underlying33 sizeOf5 (.inr ⟨_, O⟩) (.inr ⟨_, O⟩) a2 a bd) O (va O O (ae (aa (ay (ay (cN (fun a4 => ?_)))))))
 obtain ⟨t, u, bs, bt, b0, b1⟩ := gV (lo := (0 : Int)) (hi := (4 : Int)) e a a4
 refine bo (fun w b2 => (bo (fun n b3 => (cN (fun d => ?_)))))
 obtain ⟨x, ab, p, b4, b5, b6⟩ := gV (lo := (4 : Int)) (hi := ((cut x0 x1 (x0.length : Int)).length : Int)) e a d
 refine bo (fun ad b7 => ?_)
 refine bh (Γ := Unit) () [[], [0], [0, 1], [], rL 4, rL 5, [], [6], [0, 1, 2, 3, 4, 6, 7], rL 9] [2, 4, 8] [0, 1, 3, 5, 6, 7, 9] (fun i => [[0], [0], [], [0, 1], [], [2, 3], [0, 1, 2], [0, 1, 2], [], [3]].getD i []) (fun i => [[], [], [0, 1, 3, 6, 7], [], [0, 1, 2, 3, 6, 7], [], [], [], rL 8, []].getD i []) (fun γ i => [.slice az ((cut x0 x1 (x0.length : Int)).length) a1, .slice t ((cut (cut x0 x1 (x0.length : Int)) (0 : Int) (4 : Int)).length) u, .int .u32 w, .slice h ((cut (cut x0 x1 (x0.length : Int)) (8 : Int) (IntKind.i64.wrap (8 + (IntKind.i64.wrap c)))).length) m, .int .u32 n, .int .u32 (bQ .xor .u32 (if IntKind.u32.signed then -1 else IntKind.u32.max) n), .slice az ((cut x0 x1 (x0.length : Int)).length) a1, .slice x ((cut (cut x0 x1 (x0.length : Int)) (4 : Int) ((cut x0 x1 (x0.length : Int)).length : Int)).length) ab, .int .u32 ad, .bool (!decide (bQ .xor .u32 (if IntKind.u32.signed then -1 else IntKind.u32.max) n = ad))].getD i undef) (fun j γ => [[F], [F], [F], [F]].getD j []) (fun γ => [(8, Iv (IntKind.i64.wrap c)), (9, .slice h ((cut (cut x0 x1 (x0.length : Int)) (8 : Int) (IntKind.i64.wrap (8 + (IntKind.i64.wrap c)))).length) m), (51, .bool (!decide (bQ .xor .u32 (if IntKind.u32.signed then -1 else IntKind.u32.max) n = ad)))]) mixed (by decide) (by decide) (by decide) (by decide) (by decide) (by decide) (by decide) 58 O (by decide) (by decide) (by decide) (Ent.refl _) ?_ ?_ (fun _ => ⟨O, O, O, trivial⟩) ?_
 exact (aq O (fun γ => qm O (.o (s := 7) O (by decide) .nil) O) (aq O (fun γ => qp O O (.v 0 O O .nil) (gD (l := (cut x0 x1 (x0.length : Int))) (lo' := (0 : Int)) (hi' := (4 : Int)) O O O O underlying33 sizeOf5 (.inr ⟨_, O⟩) (.inl ⟨O, O⟩) a4 a bs) O) (ac (fun γ => (ac (qm O (.o (s := 9) O (by decide) .nil) O) (ac (qm O (.o (s := 9) O (by decide) .nil) O) zA))) (ac (fun γ => (ac (qp O O (.v 4 O O .nil) (rT O O) O) (ac (qp O O (.v 4 O O .nil) (rT O O) O) zA))) (ac (fun γ => (ac (qm O (.o (s := 7) O (by decide) .nil) O) (ac (qm O (.o (s := 7) O (by decide) .nil) O) (ac (qm O (.o (s := 7) O (by decide) .nil) O) zA)))) (ac (fun γ => (ac (qp O O (.v 6 O O .nil) (gD (l := (cut x0 x1 (x0.length : Int))) (lo' := (4 : Int)) (hi' := ((cut x0 x1 (x0.length : Int)).length : Int)) O O O O underlying33 sizeOf5 (.inl ⟨O, O⟩) (.inr ⟨_, O⟩) d a p) O) (ac (qp O O (.v 6 O O .nil) (gD (l := (cut x0 x1 (x0.length : Int))) (lo' := (4 : Int)) (hi' := ((cut x0 x1 (x0.length : Int)).length : Int)) O O O O underlying33 sizeOf5 (.inl ⟨O, O⟩) (.inr ⟨_, O⟩) d a p) O) (ac (qp O O (.v 6 O O .nil) (gD (l := (cut x0 x1 (x0.length : Int))) (lo' := (4 : Int)) (hi' := ((cut x0 x1 (x0.length : Int)).length : Int)) O O O O underlying33 sizeOf5 (.inl ⟨O, O⟩) (.inr ⟨_, O⟩) d a p) O) zA)))) (aq O (fun γ => qp O O (.v 5 O O (.v 8 O O .nil)) (cS O O O) O) zA)))))))
 exact (ac (fun γ => eo (Z := Unit) (fun z => ()) O O (.v 1 O O .nil) (au (val := fun (r : Int) (y : Unit) => .int .u32 r) (B := fun _ _ => []) (vs := [.int .u32 4294967295, .slice t ((cut (cut x0 x1 (x0.length : Int)) (0 : Int) (4 : Int)).length) u]) (cap := []) (A := []) (rst := [F]) O O O O O O call95 (.s O .n) (bU.calls _ _ k (4294967295 : Int) t u (cut (cut x0 x1 (x0.length : Int)) (0 : Int) (4 : Int)) (bt.lend 0 O) b0 (Nat.le_trans b1 (Nat.le_trans g af))) b2) (fun _ => ⟨O, O, O, O, O, trivial⟩) (fun _ => .inr O) (fun z => Ent.refl _)) (ac (fun γ => eo (Z := Unit) (fun z => ()) O O (.v 2 O O (.v 3 O O .nil)) (au (val := fun (r : Int) (y : Unit) => .int .u32 r) (B := fun _ _ => []) (vs := [.int .u32 w, .slice h ((cut (cut x0 x1 (x0.length : Int)) (8 : Int) (IntKind.i64.wrap (8 + (IntKind.i64.wrap c)))).length) m]) (cap := []) (A := []) (rst := [F]) O O O O O O call95 (.s O .n) (bU.calls _ _ k w h m (cut (cut x0 x1 (x0.length : Int)) (8 : Int) (IntKind.i64.wrap (8 + (IntKind.i64.wrap c)))) (a3.lend 0 O) be (Nat.le_trans br (Nat.le_trans g af))) b3) (fun _ => ⟨O, O, O, O, O, O, trivial⟩) (fun _ => .inr O) (fun z => Ent.refl _)) (ac (fun γ => eo (Z := Unit) (fun z => ()) O O (.v 7 O O .nil) (au (val := fun (r : Int) (y : Unit) => .int .u32 r) (B := fun _ _ => []) (vs := [.slice x ((cut (cut x0 x1 (x0.length : Int)) (4 : Int) ((cut x0 x1 (x0.length : Int)).length : Int)).length) ab]) (cap := []) (A := []) (rst := [F]) O O O O O O call94 (.s O .n) (fC.calls _ _ x ab (cut (cut x0 x1 (x0.length : Int)) (4 : Int) ((cut x0 x1 (x0.length : Int)).length : Int)) (b4.lend 0 O) b5 (Nat.le_trans b6 (Nat.le_trans g af))) b7) (fun _ => ⟨O, O, O, O, O, O, O, O, trivial⟩) (fun _ => .inr O) (fun z => Ent.refl _)) zA)))
 intro c8
 refine aa ?_
 refine di O (fun c9 => ?_) (fun dl => ?_)
 refine aB (aa (sr (vm O O (bb (fun q => (ah (lc O O O underlying33 gg q.1 q.2.1 q.2.2) O O O ?_))))))
 intro ds
 refine vm O O (bb (fun b8 => ?_))
 refine ah (fi 0 O O O underlying33 gg O (a3.rds 0 O) b8) O O O ?_
 intro a6
 refine vm O O (vq (ca O O O) O (va O O (va O O (va O O (ae (aa (aA ?_)))))))
 exact aE (a6.1, a6.2) O O O (.s O (.s O .n))
 refine sr (va O O (va O O (va O O (ae (aa (aA (aN ?_)))))))
 exact aE (none, 0) O O O (.row_nil (.s O .n))

def cG.l0 {S : Type} (step : S → (Int × List UInt8) → Option S) (a : List UInt8) : Nat → Int → S → Option (S)
  | 0, _, _ => none
  | k + 1, c, d => if c < (a.length : Int) then ((gd.f k a c).bind fun e => ((if e.2.2 = (0 : Int) then ((step d (c, e.1)).bind fun g => (some (false, g))) else (some (true, d))).bind fun b => (if b.1 = true then (some b.2) else (cG.l0 step a k (IntKind.i64.wrap (c + e.2.1)) b.2)))) else (some d)
def cG.f {S : Type} (k : Nat) (step : S → (Int × List UInt8) → Option S) (s0 : S) (a : List UInt8) : Option (S) := cG.l0 step a k 0 s0
theorem cG.calls (W : World) (F : HA) (k : Nat) (S Y : Type) (l : Nat) (step : S → Int × Lb → Option S) (A : S → Y → HA) (s0 : S) (y0 : Y) (b1 : Nat) (c : Option Addr) (b : Nat) (a : Lb) (hY : ld Tryz.prog W l (fun (x : Int × Lb) (γ : Option Addr × Nat) => [Iv x.1, .slice γ.1 x.2.length γ.2]) (fun (x : Int × Lb) (γ : Option Addr × Nat) => Row 5 1 γ.1 x.2.length γ.2 (ax x.2)) step A) (q : Rd F c (ax a)) (i : a.length ≤ b) (j : b ≤ maxLen) :
    Fn Tryz.prog W 93 [.func (.yield l) #[] #[], Pt b1] [A s0 y0, obj b1 33 [.slice c a.length b]] F (cG.f k step s0 a) (fun (r : S) (y : Y) => .tuple #[]) (fun r y => [A r y, obj b1 33 [.slice c a.length b]]) := by
 unfold cG.f
 refine aO 30 Tryz.func93 O Tryz.ntmps93 O (sr (va O O (ae (aa (aU ?_)))))
 refine cx (S := Int × S) (Y) (fun k s => cG.l0 step a k s.1 s.2) (fun s y => [(0, .func (.yield l) #[] #[]), (1, Pt b1), (3, Iv s.1)]) (fun s y => [obj b1 33 [.slice c a.length b], A s.2 y, F]) (fun _ => by rw [cG.l0]) ?_ k (0, s0) y0 ⟨O, O, O, trivial⟩ (.sel 1 O (.s O (.s O .n)))
 intro k d e
 refine cU (by rw [cG.l0]) (ay (sr (vm O O (vq (ag O O isAgg33 (.obj 0 O O)) O (vq (bC O O O underlying33) O (vq (cD O O O) O (ae (aa ?_))))))))
 refine bk O (fun ad => ?_) (fun af => ?_)
 refine aB (aa (aU (sr (vq (ag O O isAgg33 (.obj 0 O O)) O (vm O O (av (fun g t => (ah (au (vs := [.slice c a.length b, Iv d.1]) (cap := []) (A := []) (rst := [obj b1 33 [.slice c a.length b], A d.2 e, F]) O O O O O O call68 (.s O (.s O (.s O .n))) (gd.calls _ _ k c b a d.1 (q.lend 2 O) i j) t) O O O ?_))))))))
 intro p
 refine vm O O (vq (bF O O O) O (vq (bF O O O) O (vq (bF O O O) O (va O O (va O O (va O O (ae (aa (ay (sr (vm O O (vq (cS O O O) O (vm O O ?_)))))))))))))
 refine da 6 (S := Bool × S) (Y) (fun s y => [(0, .func (.yield l) #[] #[]), (1, Pt b1), (3, Iv d.1), (5, Iv g.2.1), (26, .bool s.1)]) (fun s y => [obj b1 33 [.slice c a.length b], A s.2 y, F]) ?_ ?_
 refine kS (fun m => ?_) (fun n => ?_)
 rw [m]
 refine aC O O O O O O (aC O O O O O O (aC O O O O O O (aC O O O O O O (aC O O O O O O (vq (bP O O O O O) O (ae ?_))))))
 exact aG (s := (true, d.2)) e ⟨O, O, O, O, O, trivial⟩ (.sel 1 O (.sel 1 O (.sel 1 O .n)))
 rw [n]
 refine aJ (aY O O) O O O O O O (aJ (aY O O) O O O O O O (aJ (aY O O) O O O O O O (av (fun u o => (fk (sU (γ := Option Addr × Nat) (d.1, g.1) (p.1, p.2) [obj b1 33 [.slice c a.length b], F] O O O O O O hY (.sel 2 O (.s O (.s O (.s O .n)))) o) O O O O O O ?_)))))
 intro v
 refine aJ (fh O O) O O O O O O (vq (bP O O O O O) O (ae ?_))
 exact aG (s := (false, u)) v ⟨O, O, O, O, O, trivial⟩ (.sel 1 O (.s O (.s O .n)))
 intro w h
 refine ae (aa ?_)
 refine aX O (fun z => ?_) (fun ab => ?_)
 refine aA (aN (bi (eH (bi ?_))))
 exact aE h O O O (.sel 1 O (.s O (.s O .n)))
 refine aB (aa (aK (vm O O (vm O O (vq (ca O O O) O (va O O (ae (bq ?_))))))))
 exact bV (s := (IntKind.i64.wrap (d.1 + g.2.1), w.2)) h ⟨O, O, O, trivial⟩ (.s O (.s O (.s O .n)))
 refine cL (cp (cw (cq ?_)))
 exact fm e O O O (.sel 1 O (.s O (.s O .n)))

def gK.f  : Option (Unit) := some ()
theorem gK.calls (W : World) (F : HA) (a0 : Option Addr) (c0 : Nat) (x0 : Lb)  :
    Fn Tryz.prog W 67 [.slice a0 x0.length c0] [] F (gK.f ) (fun (r : Unit) (y : Nat) => .func (.func 93) #[] #[Pt y]) (fun r y => [obj y 33 [.slice a0 x0.length c0]]) := by
 unfold gK.f
 refine aO 4 Tryz.func67 O Tryz.ntmps67 O (sr (ah (cl O O O) O O O ?_))
 intro a
 refine va O O (nx (vq (gl O O O) O (va O O (ae (aa (aA ?_))))))
 exact aE a O O O (.s O (.s O .n))

def fD.f (k : Nat) (x0 : List UInt8) : Option (List (List UInt8) × Int × Int) := (gK.f).bind fun e => ((cG.f k (fun (c : Int × List (List UInt8)) (b : Int × List UInt8) => if (c.2.length + ([b.2] : List (List UInt8)).length) * 24 ≤ 140737488355328 then (some (IntKind.i64.wrap ((IntKind.i64.wrap (b.1 + 8)) + (b.2.length : Int)), c.2 ++ ([b.2] : List (List UInt8)))) else none) (0, ([] : List (List UInt8))) x0).bind fun a => (if a.1 = (x0.length : Int) then (some (a.2, a.1, 0)) else ((gd.f k x0 a.1).bind fun d => (some (a.2, a.1, d.2.2)))))
theorem fD.calls (W : World) (F : HA) (k : Nat) (a0 : Option Addr) (c0 : Nat) (x0 : Lb) (h0 : Rd F a0 (ax x0)) (a7 : x0.length ≤ c0) (a8 : c0 ≤ maxLen) :
    Fn Tryz.prog W 27 [.slice a0 x0.length c0] [] F (fD.f k x0) (fun (r : List Lb × Int × Int) (y : Option Addr × Nat × HA) => .tuple #[.slice y.1 r.1.length y.2.1, Iv r.2.1, Iv r.2.2]) (fun r y => [am 33 1 (V33 (y.2.2)) y.1 r.1 y.2.1, y.2.2]) := by
 unfold fD.f
 refine nV 41 Tryz.func27 O Tryz.ntmps27 O (sr (va O O (va O O (va O O (nx (ah (cn O zeroValue64 O) O O O ?_))))))
 intro h
 refine nx (ah (cn O zeroValue3 O) O O O ?_)
 intro n
 refine bf (aL 0 O O O sizeOf3 O O (aS (by rfl)) O O) O O ?_
 intro _
 refine ae (aa (ay (sr (vm O O (av (fun bt a9 => (ah (au (vs := [.slice a0 x0.length c0]) (cap := []) (A := []) (rst := [obj n 3 [Iv 0], obj h 64 [.slice none 0 0], F]) O O O O O O call67 (.s O (.s O (.s O .n))) (gK.calls _ _ a0 c0 x0 ) a9) O O O ?_)))))))
 intro q
 refine ae (aa (aU ?_))
 refine rU (γ := Option Addr × Nat) (S := Int × List Lb) (Y := HA × Option Addr × Nat) (R' := (Int × List Lb)) (Y' := (HA × Option Addr × Nat)) (ps := [14, 15]) (Cap := [obj q 33 [.slice a0 x0.length c0]]) (rst := [F]) (CapB := fun r y => [obj q 33 [.slice a0 x0.length c0]]) (enc := fun (x : Int × Lb) (γ : Option Addr × Nat) => [Iv x.1, .slice γ.1 x.2.length γ.2]) (own := fun (x : Int × Lb) (γ : Option Addr × Nat) => Row 5 1 γ.1 x.2.length γ.2 (ax x.2)) (oN := cG.f k (fun (g : Int × List Lb) (c : Int × Lb) => if (g.2.length + ([c.2] : List Lb).length) * 24 ≤ 140737488355328 then (some (IntKind.i64.wrap ((IntKind.i64.wrap (c.1 + 8)) + (c.2.length : Int)), g.2 ++ ([c.2] : List Lb))) else none) (0, ([] : List Lb)) x0) (fun s y => [obj n 3 [Iv s.1], obj h 64 [.slice y.2.1 s.2.length y.2.2], am 33 1 (V33 (y.1)) y.2.1 s.2 y.2.2, y.1]) (0, ([] : List Lb)) (tt, none, 0) (fun g c b e => [(5, Pt h), (6, Pt n), (7, Iv c.1), (8, .slice b.1 c.2.length b.2)]) (fun r => r) (fun r y => y) O O call93 (fun l A hY X => cG.calls _ _ k _ _ l _ A _ _ q a0 c0 x0 hY (h0.lend 1 O) a7 a8) O (fun _ _ => O) (.sel 1 O (.sel 1 O (.rowV_nil (.tt_in (.s O (.s O .n)))))) ?_ ?_ ?_
 intro l g c b e Fr
 refine fd (H' := [obj n 3 [Iv g.1], obj h 64 [.slice e.2.1 g.2.length e.2.2], am 33 1 (V33 (e.1)) e.2.1 g.2 e.2.2, e.1, Row 5 1 b.1 c.2.length b.2 (ax c.2), Fr]) (Ent.refl _) (sr (va O O (ny (va O O (ae ?_)))))
 exact aG () ⟨O, O, O, O, trivial⟩ (Ent.refl _)
 intro l g c b e Fr
 refine fd (H' := [obj n 3 [Iv g.1], obj h 64 [.slice e.2.1 g.2.length e.2.2], am 33 1 (V33 (e.1)) e.2.1 g.2 e.2.2, e.1, Row 5 1 b.1 c.2.length b.2 (ax c.2), Fr]) (Ent.refl _) (aU (sr (vq (ag O O isAgg64 (.obj 1 O O)) O (vm O O (bj 4 O (fun af al an bc => ?_))))))
 have u : bL 1 (V33 (Row 5 1 b.1 c.2.length b.2 (ax c.2))) ([c.2] : List Lb) [[.slice b.1 c.2.length b.2]] := ⟨⟨rfl, aS (by rfl), ⟨b.1, b.2, rfl, ⟨af, al, an⟩⟩⟩, trivial⟩
 refine ah (fU (V := (V33 (Row 5 1 b.1 c.2.length b.2 (ax c.2)))) (xs := ([c.2] : List Lb)) [[.slice b.1 c.2.length b.2]] O O underlying64 uq O (by kernel_rfl) O u O O) O O O ?_
 intro z
 refine bg 3 O (fun w az => (cr (H' := [aT [Row 5 1 b.1 c.2.length b.2 (ax c.2), e.1], Row 33 1 (some ⟨z, 0, none⟩) ([c.2] : List Lb).length 1 [[.slice b.1 c.2.length b.2]].flatten, obj n 3 [Iv g.1], obj h 64 [.slice e.2.1 g.2.length e.2.2], Row 33 1 e.2.1 g.2.length e.2.2 w.flatten, Fr]) (Ent.trans (m := [Row 5 1 b.1 c.2.length b.2 (ax c.2), e.1, Row 33 1 (some ⟨z, 0, none⟩) ([c.2] : List Lb).length 1 [[.slice b.1 c.2.length b.2]].flatten, obj n 3 [Iv g.1], obj h 64 [.slice e.2.1 g.2.length e.2.2], Row 33 1 e.2.1 g.2.length e.2.2 w.flatten, Fr]) (.sel 5 O (.sel 4 O (.s O (.s O (.s O (.s O (.s O .n))))))) (gQ [Row 5 1 b.1 c.2.length b.2 (ax c.2), e.1] _)) (bb (fun a1 => (ah (fg 4 O O O underlying64 uq O (az.mono (V33.up (Up.lend (l := [Row 5 1 b.1 c.2.length b.2 (ax c.2), e.1]) 1 O))) (gM.row (u.mono (V33.up (Up.lend (l := [Row 5 1 b.1 c.2.length b.2 (ax c.2), e.1]) 0 O))) 1 O) a1) O O O ?_)))))
 intro ab
 refine bf (aL 3 O O O sizeOf64 O O (aS (by rfl)) O O) O O ?_
 intro _
 refine ny (vm O O (vq (ca O O O) O (vm O O (vq (bC O O O underlying33) O (vq (ca O O O) O (bf (aL 2 O O O sizeOf3 O O (aS (by rfl)) O O) O O ?_))))))
 intro _
 refine ae (bq ?_)
 exact aG (s := (IntKind.i64.wrap ((IntKind.i64.wrap (c.1 + 8)) + (c.2.length : Int)), g.2 ++ ([c.2] : List Lb))) (aT [Row 5 1 b.1 c.2.length b.2 (ax c.2), e.1], ab.1, ab.2) trivial (.sel 2 O (.sel 2 O (.sel 2 O (.s O (.sel 1 O .n)))))
 intro p d a
 refine nO (H' := [hD p, obj n 3 [Iv d.1], obj h 64 [.slice a.2.1 d.2.length a.2.2], am 33 1 (V33 (a.1)) a.2.1 d.2 a.2.2, a.1, obj q 33 [.slice a0 x0.length c0], F]) (Ent.refl _) (bq (aa (ay (sr (vq (ag O O isAgg3 (.obj 1 O O)) O (vm O O (vq (bC O O O underlying33) O (vq (bS O O O) O (ae (aa ?_))))))))))
 refine bk O (fun bd => ?_) (fun be => ?_)
 refine ay (bm 3 O (fun a2 a3 => ?_))
 refine bh (Γ := Unit) () [[], [], [0], [0, 1, 2], rL 4] [] [0, 1, 2, 3, 4] (fun i => [[0], [0], [0], [0], [0]].getD i []) (fun i => [[], [], [], [], []].getD i []) (fun γ i => [.slice a.2.1 d.2.length a.2.2, Iv d.1, .slice a.2.1 d.2.length a.2.2, Iv d.1, Iv 0].getD i undef) (fun j γ => [[hD p, obj n 3 [Iv d.1], obj h 64 [.slice a.2.1 d.2.length a.2.2], Row 33 1 a.2.1 d.2.length a.2.2 a2.flatten, a.1, obj q 33 [.slice a0 x0.length c0], F]].getD j []) (fun γ => [(2, .slice a.2.1 d.2.length a.2.2), (3, Iv d.1), (4, Iv 0)]) mixed (by decide) (by decide) (by decide) (by decide) (by decide) (by decide) (by decide) 41 O (by decide) (by decide) (by decide) (Ent.refl _) ?_ ?_ (fun _ => ⟨O, O, O, trivial⟩) ?_
 exact (aq O (fun γ => qp O O (.o (s := 5) O (by decide) .nil) (ag O O isAgg64 (.obj 2 O O)) O) (aq O (fun γ => qp O O (.o (s := 6) O (by decide) .nil) (ag O O isAgg3 (.obj 1 O O)) O) (aq O (fun γ => qp O O (.v 0 O O .nil) (cz O O) O) (aq O (fun γ => qp O O (.v 1 O O .nil) (cz O O) O) (aq O (fun γ => qp O O .nil (cz O O) O) zA)))))
 exact zA
 intro br
 refine aa (aA (aN ?_))
 exact lN [p] (a.2.1, a.2.2, a.1) O O O (.s O (.sel' 2 O (am.mk a3) (.sel 2 O (.sel 3 O .n))))
 refine aB (aa (sr (vm O O (vq (ag O O isAgg3 (.obj 1 O O)) O (av (fun t a4 => (ah (au (vs := [.slice a0 x0.length c0, Iv d.1]) (cap := []) (A := []) (rst := [hD p, obj n 3 [Iv d.1], obj h 64 [.slice a.2.1 d.2.length a.2.2], am 33 1 (V33 (a.1)) a.2.1 d.2 a.2.2, a.1, obj q 33 [.slice a0 x0.length c0], F]) O O O O O O call68 (.s O (.s O (.s O (.s O (.s O (.s O (.s O .n))))))) (gd.calls _ _ k a0 c0 x0 d.1 (h0.lend 6 O) a7 a8) a4) O O O ?_)))))))
 intro ad
 refine vm O O (vq (bF O O O) O (vq (bF O O O) O (vq (bF O O O) O (va O O (va O O (va O O (ae (aa (ay (bm 4 O (fun a5 a6 => ?_)))))))))))
 refine bh (Γ := Unit) () [[], [], [], [0], [0, 1, 3], rL 5] [] [0, 1, 2, 3, 4, 5] (fun i => [[0], [0], [0], [0], [0], [0]].getD i []) (fun i => [[], [], [], [], [], []].getD i []) (fun γ i => [.slice a.2.1 d.2.length a.2.2, Iv d.1, Iv t.2.2, .slice a.2.1 d.2.length a.2.2, Iv d.1, Iv t.2.2].getD i undef) (fun j γ => [[Row 5 1 ad.1 t.1.length ad.2 (ax t.1), hD p, obj n 3 [Iv d.1], obj h 64 [.slice a.2.1 d.2.length a.2.2], Row 33 1 a.2.1 d.2.length a.2.2 a5.flatten, a.1, obj q 33 [.slice a0 x0.length c0], F]].getD j []) (fun γ => [(2, .slice a.2.1 d.2.length a.2.2), (3, Iv d.1), (4, Iv t.2.2)]) mixed (by decide) (by decide) (by decide) (by decide) (by decide) (by decide) (by decide) 41 O (by decide) (by decide) (by decide) (Ent.refl _) ?_ ?_ (fun _ => ⟨O, O, O, trivial⟩) ?_
 exact (aq O (fun γ => qp O O (.o (s := 5) O (by decide) .nil) (ag O O isAgg64 (.obj 3 O O)) O) (aq O (fun γ => qp O O (.o (s := 6) O (by decide) .nil) (ag O O isAgg3 (.obj 2 O O)) O) (aq O (fun γ => qm O (.o (s := 11) O (by decide) .nil) O) (aq O (fun γ => qp O O (.v 0 O O .nil) (cz O O) O) (aq O (fun γ => qp O O (.v 1 O O .nil) (cz O O) O) (aq O (fun γ => qp O O (.v 2 O O .nil) (cz O O) O) zA))))))
 exact zA
 intro bs
 refine aa (aA ?_)
 exact lN [p] (a.2.1, a.2.2, a.1) O O O (.sel 1 O (.sel' 3 O (am.mk a6) (.sel 3 O (.sel 4 O .n))))

def gE.f (a : List ((List UInt8) × (List UInt8 × Int))) (c : List UInt8) (d : Int) (b : Bool) (x1 : List UInt8) (x2 : Int) : Option (Int × (List ((List UInt8) × (List UInt8 × Int))) × List UInt8 × Int × Bool) := if (aQ a x1).isSome = true then (if b = true then (some (11, a, c, d, b)) else (if ((decide (x2 < (0 : Int))) || (decide (((((aQ a x1).getD (([] : List UInt8), (0 : Int))).1).length : Int) < x2))) = true then (some (1, a, c, d, b)) else ((bM.f a c d b).bind fun e => (if e.1 = true then (some (11, a, e.2.1, e.2.2.1, e.2.2.2)) else (if 0 ≤ (0 : Int) ∧ (0 : Int) ≤ x2 ∧ x2 ≤ ((((aQ a x1).getD (([] : List UInt8), (0 : Int))).1).length : Int) then (some (0, aR a x1 (cut (((aQ a x1).getD (([] : List UInt8), (0 : Int))).1) (0 : Int) x2, min (((aQ a x1).getD (([] : List UInt8), (0 : Int))).2) x2), e.2.1, e.2.2.1, e.2.2.2)) else none))))) else (if b = true then (some (11, a, c, d, b)) else (some (8, a, c, d, b)))
theorem gE.calls (W : World) (F : HA) (b0 : Nat) (d : Nat) (a : Kps) (c : List (Lb × (Lb × Int))) (h : Lb) (i : Int) (j : Bool) (x1 : Lb) (x2 : Int)  :
    Fn Tryz.prog W 74 [Pt b0, str x1, Iv x2] [obj b0 97 [.map (some d), str h, Iv i, .bool j], ao (aj d ap ak a) ai a c] F (gE.f c h i j x1 x2) (fun (r : Int × (List (Lb × (Lb × Int))) × Lb × Int × Bool) (y : Nat × Kps) => Iv r.1) (fun r y => [obj b0 97 [.map (some y.1), str r.2.2.1, Iv r.2.2.2.1, .bool r.q4], ao (aj y.1 ap ak y.2) ai y.2 r.2.1]) := by
 unfold gE.f
 refine aO 55 Tryz.func74 O Tryz.ntmps74 O (sr (va O O (ae (aa (ay ?_)))))
 refine fx (fun g => ?_) (fun g => ?_)
 refine aK (vm O O (vn O O (vq (ar O O underlying97 O O sizeOf95 O) O (vq (ag O O isAgg95 (.obj 0 O O)) O (vm O O (vq ((kb (ek := ap) x1 (gU 1 O) g O O O underlying95 jE : RQ _ _ _ _ (.pointer (some ⟨(cI a x1), 0, none⟩)))) O (va O O (ae (aa (ay (aU (sr (vm O O (vn O O (vq (ar O O underlying97 O O sizeOf4 O) O (vq (ag O O isAgg4 (.obj 0 O O)) O (va O O (ae (aa ?_)))))))))))))))))))
 refine aX O (fun a9 => ?_) (fun bc => ?_)
 refine sr (va O O (ae (aa (aA (bi (aN ?_))))))
 exact aE (d, a) O O O (.s O (.s O (.s O .n)))
 refine sr (vm O O (vq (lT O O O underlying107) O (va O O (ae (aa (fE O (ay (iD (v := ((aQ c x1).getD (([] : Lb), (0 : Int)))) 1 O (fG g) (fun e => (fd (H' := [obj (cI a x1) 109 [.slice e.1 ((((aQ c x1).getD (([] : Lb), (0 : Int))).1).length) e.2, Iv (((aQ c x1).getD (([] : Lb), (0 : Int))).2)], Row 5 1 e.1 (((aQ c x1).getD (([] : Lb), (0 : Int))).1).length e.2 (ax (((aQ c x1).getD (([] : Lb), (0 : Int))).1)), iu (aj d ap ak a) ai a c x1, obj b0 97 [.map (some d), str h, Iv i, .bool j], F]) (Ent.refl _) (aK (vm O O (vq (cD O O O) O (vm O O (aw (b := decide (x2 < (0 : Int))) (fun an => RQ.sub (E' := [(2, Iv x2)]) ⟨O, trivial⟩ (aY O O)) O O O O O (aw (b := decide (x2 < (0 : Int))) (fun az => RQ.sub (E' := [(7, .pointer (some ⟨(cI a x1), 0, none⟩))]) ⟨O, trivial⟩ (aY O O)) O O O O O (aw (b := decide (x2 < (0 : Int))) (fun t => RQ.sub (E' := [(27, .pointer (some ⟨(cI a x1), 0, none⟩))]) ⟨aH O t, trivial⟩ (aW O O)) O O O O O (aw (b := decide (x2 < (0 : Int))) (fun u => RQ.sub (E' := [(28, .pointer (some ⟨(cI a x1), 0, none⟩))]) ⟨aH O u, trivial⟩ (ar O O underlying109 O O sizeOf33 O)) O O O O O (aw (b := decide (x2 < (0 : Int))) (fun w => RQ.sub (E' := [(29, .pointer (some ⟨(cI a x1), 0, none⟩))]) ⟨aH O w, trivial⟩ (ag O O isAgg33 (.obj 0 O O))) O O O O O (aw (b := decide (x2 < (0 : Int))) (fun z => RQ.sub (E' := [(30, .slice e.1 ((((aQ c x1).getD (([] : Lb), (0 : Int))).1).length) e.2)]) ⟨aH O z, trivial⟩ (bC O O O underlying33)) O O O O O (aw (b := decide (x2 < (0 : Int))) (fun o => RQ.sub (E' := [(26, Iv x2), (31, Iv ((((aQ c x1).getD (([] : Lb), (0 : Int))).1).length : Int))]) ⟨aH O o, aH O o, trivial⟩ (cC O O O)) O O O O O (vq (fb O O O) O (va O O (ae (aa ?_)))))))))))))))))))))))))
 refine aX O (fun bd => ?_) (fun be => ?_)
 refine sr (va O O (ae (aa (aA (bi (aN ?_))))))
 exact aE (d, a) O O O (.sel 3 O (.foldF0 (x := x1) (p := (cI a x1)) (v := ((aQ c x1).getD (([] : Lb), (0 : Int)))) (e.1, e.2) O (fG g) (.sel 2 O (.s O (.s O (.s O .n))))))
 refine sr (vm O O (cr (H' := [ao (aj d ap ak a) ai a c, obj b0 97 [.map (some d), str h, Iv i, .bool j], F]) ((.foldF0 (x := x1) (p := (cI a x1)) (v := ((aQ c x1).getD (([] : Lb), (0 : Int)))) (e.1, e.2) O (fG g) (.sel 2 O (.s O (.s O (.s O (.s O .n))))))) (av (fun s ad => (ah (au (vs := [Pt b0]) (cap := []) (A := [obj b0 97 [.map (some d), str h, Iv i, .bool j], ao (aj d ap ak a) ai a c]) (rst := [F]) O O O O O O call58 (.sel 1 O (.s O (.s O .n))) (bM.calls _ _ b0 d a c h i j ) ad) O O O ?_)))))
 intro br
 refine va O O (ae (aa ?_))
 refine aX O (fun a5 => ?_) (fun a6 => ?_)
 refine sr (va O O (ae (aa (aA (bi (aN ?_))))))
 exact aE (d, a) O O O (.s O (.s O (.s O .n)))
 refine aB (bq (aa (ay (iD (v := ((aQ c x1).getD (([] : Lb), (0 : Int)))) 1 O (fG g) (fun k => (fd (H' := [obj (cI a x1) 109 [.slice k.1 ((((aQ c x1).getD (([] : Lb), (0 : Int))).1).length) k.2, Iv (((aQ c x1).getD (([] : Lb), (0 : Int))).2)], Row 5 1 k.1 (((aQ c x1).getD (([] : Lb), (0 : Int))).1).length k.2 (ax (((aQ c x1).getD (([] : Lb), (0 : Int))).1)), iu (aj d ap ak a) ai a c x1, obj b0 97 [.map (some d), str s.2.1, Iv s.2.2.1, .bool s.2.2.2], F]) (Ent.refl _) (aK (vm O O (vm O O (vn O O (vq (ar O O underlying109 O O sizeOf33 O) O (vq (ag O O isAgg33 (.obj 0 O O)) O (vm O O (bb (fun m => (bj 1 O (fun ab n a0 a1 => ?_)))))))))))))))))
 obtain ⟨af, al, q, a2, a3, a4⟩ := gV (lo := (0 : Int)) (hi := x2) ab n m
 refine vq (gD (l := (((aQ c x1).getD (([] : Lb), (0 : Int))).1)) (lo' := (0 : Int)) (hi' := x2) O O O O underlying33 sizeOf5 (.inr ⟨_, O⟩) (.inl ⟨O, O⟩) m n q) O (vn O O (vq (ar O O underlying109 O O sizeOf33 O) O (bf (RE.ent (Ent.cutB 1 O q m n) (aL 0 O O O sizeOf33 O O (aS (by rfl)) O O)) O O ?_)))
 intro _
 refine nx (vm O O (vm O O (vn O O (vq (ar O O underlying109 O O sizeOf3 O) O (vq (ag O O isAgg3 (.obj 0 O O)) O (vm O O (vq (rB O O O) O (vn O O (vq (ar O O underlying109 O O sizeOf3 O) O (bf (aL 0 O O O sizeOf3 O O (aS (by rfl)) O O) O O ?_))))))))))
 intro _
 refine nx (va O O (ae (aa (aA ?_))))
 exact aE (d, a) O O O (.sel 3 O (.foldF (x := x1) (p := (cI a x1)) (v := (cut (((aQ c x1).getD (([] : Lb), (0 : Int))).1) (0 : Int) x2, min (((aQ c x1).getD (([] : Lb), (0 : Int))).2) x2)) (af, al) O (.sel 2 O (.s O (.s O (.s O .n))))))
 refine aK (vm O O (vn O O (vq (ar O O underlying97 O O sizeOf95 O) O (vq (ag O O isAgg95 (.obj 0 O O)) O (vm O O (vq (kc (ek := ap) x1 (gU 1 O) (iC g) O O O underlying95 jE zeroValue107) O (va O O (ae (aa (ay (aU (sr (vm O O (vn O O (vq (ar O O underlying97 O O sizeOf4 O) O (vq (ag O O isAgg4 (.obj 0 O O)) O (va O O (ae (aa ?_)))))))))))))))))))
 refine aX O (fun a7 => ?_) (fun a8 => ?_)
 refine sr (va O O (ae (aa (aA (bi (aN ?_))))))
 exact aE (d, a) O O O (.s O (.s O (.s O .n)))
 refine sr (vm O O (vq (kw O O O underlying107) O (va O O (ae (aa (fJ O (sr (va O O (ae (aa (aA (bi (aN ?_)))))))))))))
 exact aE (d, a) O O O (.s O (.s O (.s O .n)))

def dL.f (a : List ((List UInt8) × (List UInt8 × Int))) (d : List UInt8) (e : Int) (c : Bool) (x1 : List UInt8) : Option (Int × (List ((List UInt8) × (List UInt8 × Int))) × List UInt8 × Int × Bool) := if c = true then (some (11, a, d, e, c)) else ((cH.f a d e c x1).bind fun h => (if (!h) = true then (some (8, a, d, e, c)) else ((bM.f a d e c).bind fun b => (if b.1 = true then (some (11, a, b.2.1, b.2.2.1, b.2.2.2)) else ((if b.2.1 = x1 then (some ([] : List UInt8)) else (some b.2.1)).bind fun g => (some (0, dp a x1, g, b.2.2.1, b.2.2.2)))))))
theorem dL.calls (W : World) (F : HA) (b0 : Nat) (a : Nat) (b : Kps) (c : List (Lb × (Lb × Int))) (d : Lb) (e : Int) (g : Bool) (x1 : Lb)  :
    Fn Tryz.prog W 64 [Pt b0, str x1] [obj b0 97 [.map (some a), str d, Iv e, .bool g], ao (aj a ap ak b) ai b c] F (dL.f c d e g x1) (fun (r : Int × (List (Lb × (Lb × Int))) × Lb × Int × Bool) (y : Nat × Kps) => Iv r.1) (fun r y => [obj b0 97 [.map (some y.1), str r.2.2.1, Iv r.2.2.2.1, .bool r.q4], ao (aj y.1 ap ak y.2) ai y.2 r.2.1]) := by
 unfold dL.f
 refine aO 32 Tryz.func64 O Tryz.ntmps64 O (sr (va O O (ae (aa (ay (aU (sr (vm O O (vn O O (vq (ar O O underlying97 O O sizeOf4 O) O (vq (ag O O isAgg4 (.obj 0 O O)) O (va O O (ae (aa ?_))))))))))))))
 refine aX O (fun t => ?_) (fun u => ?_)
 refine sr (va O O (ae (aa (aA (bi (aN ?_))))))
 exact aE (a, b) O O O (.s O (.s O (.s O .n)))
 refine sr (vm O O (vm O O (av (fun v i => (ah (au (vs := [Pt b0, str x1]) (cap := []) (A := [obj b0 97 [.map (some a), str d, Iv e, .bool g], ao (aj a ap ak b) ai b c]) (rst := [F]) O O O O O O call57 (.s O (.s O (.s O .n))) (cH.calls _ _ b0 a b c d e g x1 ) i) O O O ?_)))))
 intro w
 refine vq (fh O O) O (va O O (ae (aa ?_)))
 refine aX O (fun x => ?_) (fun z => ?_)
 refine sr (va O O (ae (aa (aA (bi (aN ?_))))))
 exact aE (a, b) O O O (.s O (.s O (.s O .n)))
 refine sr (vm O O (av (fun h j => (ah (au (vs := [Pt b0]) (cap := []) (A := [obj b0 97 [.map (some a), str d, Iv e, .bool g], ao (aj a ap ak b) ai b c]) (rst := [F]) O O O O O O call58 (.s O (.s O (.s O .n))) (bM.calls _ _ b0 a b c d e g ) j) O O O ?_))))
 intro k
 refine va O O (ae (aa ?_))
 refine aX O (fun l => ?_) (fun m => ?_)
 refine sr (va O O (ae (aa (aA (bi (aN ?_))))))
 exact aE (a, b) O O O (.s O (.s O (.s O .n)))
 refine aB (bq (aa (sr (vm O O (vn O O (vq (ar O O underlying97 O O sizeOf95 O) O (vq (ag O O isAgg95 (.obj 0 O O)) O (vm O O (bf (tJ (ek := ap) 1 x1 O O O O underlying95 jE O) O O ?_)))))))))
 intro _
 refine ae (aa ?_)
 refine bK (S := Lb) (Unit) (fun s y => []) (fun s y => [obj b0 97 [.map (some a), str s, Iv h.2.2.1, .bool h.2.2.2], ao (aj a ap ak (dp b x1)) ai (dp b x1) (dp c x1), F]) ?_ ?_
 refine sr (vm O O (vn O O (vq (ar O O underlying97 O O sizeOf9 O) O (vq (ag O O isAgg9 (.obj 0 O O)) O (vm O O (vq (ul O O O) O (ae (aa ?_))))))))
 refine bk O (fun n => ?_) (fun o => ?_)
 refine aK (vm O O (vn O O (vq (ar O O underlying97 O O sizeOf9 O) O (bf (aL 0 O O O sizeOf9 O O (aS (by rfl)) O O) O O ?_))))
 intro _
 refine ae ?_
 exact aG (s := ([] : Lb)) () trivial (.s O (.s O (.s O .n)))
 refine aB ?_
 exact aG (s := h.2.1) () trivial (.s O (.s O (.s O .n)))
 intro p q
 refine sr (va O O (ae (aa (aA ?_))))
 exact aE (a, dp b x1) O O O (.s O (.s O (.s O .n)))

def fe.f (x0 : List UInt8) : Option (List UInt8 × Int × Int) := (eS.f x0).bind fun a => (some (a, 0, 0))
theorem fe.calls (W : World) (F : HA) (a0 : Option Addr) (c0 : Nat) (x0 : Lb) (h0 : Rd F a0 (ax x0)) (c : x0.length ≤ c0) (d : c0 ≤ maxLen) :
    Fn Tryz.prog W 100 [.slice a0 x0.length c0] [] F (fe.f x0) (fun (r : Lb × Int × Int) (y : Nat × Option Addr × Nat) => Pt y.1) (fun r y => [obj y.1 180 [.slice y.2.1 r.1.length y.2.2, Iv r.2.1, Iv r.2.2], Row 5 1 y.2.1 r.1.length y.2.2 (ax r.1)]) := by
 unfold fe.f
 refine aO 7 Tryz.func100 O Tryz.ntmps100 O (sr (va O O (nx (vm O O (av (fun e b => (ah (au (vs := [.slice a0 x0.length c0]) (cap := []) (A := []) (rst := [F]) O O O O O O call110 (.s O .n) (eS.calls _ _ a0 c0 x0 (h0.lend 0 O) c d) b) O O O ?_)))))))
 intro a
 refine vq (dm (v := .agg #[.slice a.1 e.length a.2, Iv 0, Iv 0]) O O (fun _ => by kernel_rfl)) O (ah (cl O O O) O O O ?_)
 intro g
 refine va O O (ae (aa (aA ?_)))
 exact aE (g, a.1, a.2) O O O (.s O (.s O (.s O .n)))

def fO.l0 (x0 : List UInt8) (x1 : Int) : Nat → Int → Int → Option ((Unit) ⊕ (Int × Int × Int))
  | 0, _, _ => none
  | k + 1, b, a => if a < (9 : Int) then (if IntKind.i64.wrap ((x0.length : Int) - x1) ≤ a then (some (.inr (0, 0, 2))) else (if 0 ≤ IntKind.i64.wrap (x1 + a) ∧ IntKind.i64.wrap (x1 + a) < (x0.length : Int) then (if 0 ≤ IntKind.i64.wrap (7 * a) then (if (128 : Int) ≤ ((x0.getD (IntKind.i64.wrap (x1 + a)).toNat 0).toNat : Int) then (fO.l0 x0 x1 k (bQ .or .i64 b (IntKind.i64.wrap ((IntKind.i64.wrap (bQ .and .u8 ((x0.getD (IntKind.i64.wrap (x1 + a)).toNat 0).toNat : Int) 127)) * 2 ^ (min (IntKind.i64.wrap (7 * a)).toNat IntKind.i64.bits)))) (IntKind.i64.wrap (a + 1))) else (if ((decide (((x0.getD (IntKind.i64.wrap (x1 + a)).toNat 0).toNat : Int) = (0 : Int))) && (decide ((0 : Int) < a))) = true then (some (.inr (0, 0, 4))) else (if (4611686018427387904 : Int) < bQ .or .i64 b (IntKind.i64.wrap ((IntKind.i64.wrap (bQ .and .u8 ((x0.getD (IntKind.i64.wrap (x1 + a)).toNat 0).toNat : Int) 127)) * 2 ^ (min (IntKind.i64.wrap (7 * a)).toNat IntKind.i64.bits))) then (some (.inr (0, 0, 1))) else (some (.inr (bQ .or .i64 b (IntKind.i64.wrap ((IntKind.i64.wrap (bQ .and .u8 ((x0.getD (IntKind.i64.wrap (x1 + a)).toNat 0).toNat : Int) 127)) * 2 ^ (min (IntKind.i64.wrap (7 * a)).toNat IntKind.i64.bits))), IntKind.i64.wrap (a + 1), 0)))))) else none) else none)) else (some (.inl ()))
def fO.f (k : Nat) (x0 : List UInt8) (x1 : Int) : Option (Int × Int × Int) := if ((decide (x1 < (0 : Int))) || (decide ((x0.length : Int) ≤ x1))) = true then (some (0, 0, 2)) else (orR (fO.l0 x0 x1 k 0 0) fun a => (some (0, 0, 4)))
theorem fO.calls (W : World) (F : HA) (k : Nat) (a0 : Option Addr) (c0 : Nat) (x0 : Lb) (x1 : Int) (h0 : Rd F a0 (ax x0)) (af : x0.length ≤ c0) (al : c0 ≤ maxLen) :
    Fn Tryz.prog W 143 [.slice a0 x0.length c0, Iv x1] [] F (fO.f k x0 x1) (fun (r : Int × Int × Int) (y : Unit) => .tuple #[Iv r.1, Iv r.2.1, Iv r.2.2]) (fun r y => []) := by
 unfold fO.f
 refine aO 55 Tryz.func143 O Tryz.ntmps143 O (sr (va O O (va O O (va O O (ae (aa (ay (sr (vm O O (vq (cD O O O) O (vm O O (aw (b := decide (x1 < (0 : Int))) (fun l => RQ.sub (E' := [(1, Iv x1)]) ⟨O, trivial⟩ (aY O O)) O O O O O (aw (b := decide (x1 < (0 : Int))) (fun m => RQ.sub (E' := [(0, .slice a0 x0.length c0)]) ⟨O, trivial⟩ (aY O O)) O O O O O (aw (b := decide (x1 < (0 : Int))) (fun g => RQ.sub (E' := [(14, .slice a0 x0.length c0)]) ⟨aH O g, trivial⟩ (bC O O O underlying33)) O O O O O (aw (b := decide (x1 < (0 : Int))) (fun c => RQ.sub (E' := [(13, Iv x1), (15, Iv (x0.length : Int))]) ⟨aH O c, aH O c, trivial⟩ (jH O O O)) O O O O O (vq (fb O O O) O (ae (aa ?_))))))))))))))))))
 refine aX O (fun an => ?_) (fun az => ?_)
 refine sr (va O O (va O O (va O O (ae (aa (aA (aN ?_)))))))
 exact aE () O O O (.s O .n)
 refine aB (aa (sr (va O O (ae (aa ?_)))))
 refine fc (S := Unit) (Unit) (fun s y => []) (fun s y => [F]) ?_ ?_
 refine sr (va O O (ae (aa (aU ?_))))
 refine cx (S := Int × Int) (Unit) (fun k s => fO.l0 x0 x1 k s.1 s.2) (fun s y => [(0, .slice a0 x0.length c0), (1, Iv x1), (7, Iv s.1), (8, Iv s.2)]) (fun s y => [F]) (fun _ => by rw [fO.l0]) ?_ k (0, 0) () ⟨O, O, O, O, trivial⟩ (.s O .n)
 intro k a a1
 refine cU (by rw [fO.l0]) (ay (sr (vm O O (vq (cD O O O) O (ae (aa ?_))))))
 refine bk O (fun a2 => ?_) (fun p => ?_)
 refine aB (aa (ay (aU (ay (sr (vm O O (vm O O (vq (bC O O O underlying33) O (vm O O (vq (cW O O O) O (vq (jH O O O) O (ae (aa ?_)))))))))))))
 refine bk O (fun q => ?_) (fun t => ?_)
 refine sr (va O O (va O O (va O O (ae (aa (aA (aN (bi (aN (eH (bi (dP ?_))))))))))))
 exact aE () O O O (.s O .n)
 refine aB (aa (sr (vm O O (vm O O (vm O O (vq (ca O O O) O (bb (fun d => ?_))))))))
 obtain ⟨u, n, e⟩ := h0.pos (gX (j := (IntKind.i64.wrap (x1 + a.2)).toNat) (by omega))
 refine vq (iH O O O e underlying33 sizeOf5 d.1 d.2) O (vq (ag O O isAgg5 (h0.cell 0 O e (gw (by omega)))) O (va O O (nx (vm O O (vm O O (vq (qd O O O) O (vq (fN O O underlying5 underlying3) O (vm O O (vq (ur O O O) O (bb (fun h => (vq (oR O O O h) O (vq (nj O O O) O (va O O (ae (aa (ay (sr (vm O O (vq (jH O O O) O (ae (aa ?_))))))))))))))))))))))
 refine bk O (fun v => ?_) (fun w => ?_)
 refine cL (cp (cq (aa (aK (vm O O (vq (ca O O O) O (va O O (ae ?_))))))))
 exact bV (s := (bQ .or .i64 a.1 (IntKind.i64.wrap ((IntKind.i64.wrap (bQ .and .u8 ((x0.getD (IntKind.i64.wrap (x1 + a.2)).toNat 0).toNat : Int) 127)) * 2 ^ (min (IntKind.i64.wrap (7 * a.2)).toNat IntKind.i64.bits))), IntKind.i64.wrap (a.2 + 1))) () ⟨O, O, O, O, trivial⟩ (.s O .n)
 refine aB (aa (ay (sr (vm O O (vq (bS O O O) O (vm O O (aw (b := decide (((x0.getD (IntKind.i64.wrap (x1 + a.2)).toNat 0).toNat : Int) = (0 : Int))) (fun o => RQ.sub (E' := [(8, Iv a.2)]) ⟨O, trivial⟩ (aY O O)) O O O O O (aw (b := decide (((x0.getD (IntKind.i64.wrap (x1 + a.2)).toNat 0).toNat : Int) = (0 : Int))) (fun i => RQ.sub (E' := [(47, Iv a.2)]) ⟨aH O i, trivial⟩ (cC O O O)) O O O O O (vq (dF O O O) O (ae (aa ?_)))))))))))
 refine aX O (fun x => ?_) (fun z => ?_)
 refine sr (va O O (va O O (va O O (ae (aa (aA (aN (bi (aN (eH (bi (dP ?_))))))))))))
 exact aE () O O O (.s O .n)
 refine aB (aa (ay (sr (vm O O (vq (cC O O O) O (ae (aa ?_)))))))
 refine bk O (fun ab => ?_) (fun ad => ?_)
 refine sr (va O O (va O O (va O O (ae (aa (aA (aN (bi (aN (eH (bi (dP ?_))))))))))))
 exact aE () O O O (.s O .n)
 refine aB (aa (sr (vm O O (vm O O (vq (ca O O O) O (va O O (va O O (va O O (ae (aa (aA (bi (aN (eH (bi (dP ?_))))))))))))))))
 exact aE () O O O (.s O .n)
 refine cL (cp (cw (cq ?_)))
 exact eR (s := ()) () trivial (.s O .n)
 intro a3 a4
 refine sr (va O O (va O O (va O O (ae (aa (aA ?_))))))
 exact aE () O O O (.s O .n)

def eK.f (k : Nat) (d : List UInt8) (a : Int) (c : Int) : Option (Int × Int × Bool × Int × Int) := if c = (0 : Int) then ((fO.f k d a).bind fun b => (some (b.1, b.2.1, decide (b.2.2 = (0 : Int)), a, b.2.2))) else (some (0, 0, false, a, c))
theorem eK.calls (W : World) (F : HA) (k : Nat) (b0 : Nat) (d : Option Addr) (c : Nat) (a : Lb) (e : Int) (g : Int) (m : Rd F d (ax a)) (h : a.length ≤ c) (l : c ≤ maxLen) :
    Fn Tryz.prog W 123 [Pt b0] [obj b0 180 [.slice d a.length c, Iv e, Iv g]] F (eK.f k a e g) (fun (r : Int × Int × Bool × Int × Int) (y : Unit) => .tuple #[Iv r.1, Iv r.2.1, .bool r.2.2.1]) (fun r y => [obj b0 180 [.slice d a.length c, Iv r.2.2.2.1, Iv r.q4]]) := by
 unfold eK.f
 refine aO 34 Tryz.func123 O Tryz.ntmps123 O (sr (va O O (va O O (va O O (ae (aa (ay (sr (vm O O (vn O O (vq (ar O O underlying180 O O sizeOf23 O) O (vq (ag O O isAgg23 (.obj 0 O O)) O (vq (cS O O O) O (ae (aa ?_)))))))))))))))
 refine di O (fun p => ?_) (fun q => ?_)
 refine aB (aa (ay (bo (fun b n => ?_))))
 refine bh (Γ := Unit) () [[], [0], [0, 1], [0, 1, 2], [], [4], [4, 5], [4, 5, 6], rL 8, rL 9, rL 10, rL 10, rL 10, rL 11, [0, 1, 2, 3, 4, 5, 6, 7, 8, 9, 10, 11, 13], rL 15] [8] [0, 1, 2, 3, 4, 5, 6, 7, 9, 10, 11, 12, 13, 14, 15] (fun i => [[0], [0], [0], [0], [0], [0], [0], [0], [], [1], [1], [1], [1], [1], [1], [1]].getD i []) (fun i => [[], [], [], [], [], [], [], [], rL 8, [], [], [], [], [], [], []].getD i []) (fun γ i => [Pt b0, Pt b0, Pt b0, .slice d a.length c, Pt b0, Pt b0, .pointer (some ⟨b0, 1, none⟩), Iv e, .tuple #[Iv b.1, Iv b.2.1, Iv b.2.2], .tuple #[Iv b.1, Iv b.2.1, Iv b.2.2], Iv b.1, Iv b.2.1, Iv b.2.2, Iv b.1, Iv b.2.1, Iv b.2.2].getD i undef) (fun j γ => [[obj b0 180 [.slice d a.length c, Iv e, Iv g], F], [obj b0 180 [.slice d a.length c, Iv e, Iv g], F]].getD j []) (fun γ => [(0, Pt b0), (5, Iv b.1), (6, Iv b.2.1), (7, Iv b.2.2)]) mixed (by decide) (by decide) (by decide) (by decide) (by decide) (by decide) (by decide) 34 O (by decide) (by decide) (by decide) (Ent.refl _) ?_ ?_ (fun _ => ⟨O, O, O, O, trivial⟩) ?_
 exact (aq O (fun γ => qm O (.o (s := 0) O (by decide) .nil) O) (aq O (fun γ => qp O O (.v 0 O O .nil) (aW O O) O) (aq O (fun γ => qp O O (.v 1 O O .nil) (ar O O underlying180 O O sizeOf33 O) O) (aq O (fun γ => qp O O (.v 2 O O .nil) (ag O O isAgg33 (.obj 0 O O)) O) (aq O (fun γ => qm O (.o (s := 0) O (by decide) .nil) O) (aq O (fun γ => qp O O (.v 4 O O .nil) (aW O O) O) (aq O (fun γ => qp O O (.v 5 O O .nil) (ar O O underlying180 O O sizeOf3 O) O) (aq O (fun γ => qp O O (.v 6 O O .nil) (ag O O isAgg3 (.obj 0 O O)) O) (aq O (fun γ => qm O (.v 8 O O .nil) O) (aq O (fun γ => qp O O (.v 9 O O .nil) (bF O O O) O) (aq O (fun γ => qp O O (.v 9 O O .nil) (bF O O O) O) (aq O (fun γ => qp O O (.v 9 O O .nil) (bF O O O) O) (aq O (fun γ => qp O O (.v 10 O O .nil) (cz O O) O) (aq O (fun γ => qp O O (.v 11 O O .nil) (cz O O) O) (aq O (fun γ => qp O O (.v 12 O O .nil) (cz O O) O) zA)))))))))))))))
 exact (ac (fun γ => eo (Z := Unit) (fun z => ()) O O (.v 3 O O (.v 7 O O .nil)) (au (val := fun (r : Int × Int × Int) (y : Unit) => .tuple #[Iv r.1, Iv r.2.1, Iv r.2.2]) (B := fun _ _ => []) (vs := [.slice d a.length c, Iv e]) (cap := []) (A := []) (rst := [obj b0 180 [.slice d a.length c, Iv e, Iv g], F]) O O O O O O call143 (.s O (.s O .n)) (fO.calls _ _ k d c a e (m.lend 1 O) h l) n) (fun _ => ⟨O, O, O, O, O, O, O, O, trivial⟩) (fun _ => .inr O) (fun z => Ent.refl _)) zA)
 intro t
 refine aa (sr (vm O O (vm O O (vn O O (vq (ar O O underlying180 O O sizeOf23 O) O (bf (aL 0 O O O sizeOf23 O O (aS (by rfl)) O O) O O ?_))))))
 intro _
 refine nx (vm O O (vm O O (vm O O (vq (bS O O O) O (va O O (va O O (va O O (ae (aa (aA ?_))))))))))
 exact aE () O O O (.s O (.s O .n))
 refine sr (va O O (va O O (va O O (ae (aa (aA (aN ?_)))))))
 exact aE () O O O (.s O (.s O .n))

def bN.f (k : Nat) (b : List UInt8) (c : Int) (d : Int) : Option (Int × Int × Int) := (eK.f k b c d).bind fun a => (if (!a.2.2.1) = true then (some (0, a.2.2.2.1, a.2.2.2.2)) else (some (a.1, IntKind.i64.wrap (a.2.2.2.1 + a.2.1), a.2.2.2.2)))
theorem bN.calls (W : World) (F : HA) (k : Nat) (b0 : Nat) (c : Option Addr) (b : Nat) (a : Lb) (d : Int) (e : Int) (i : Rd F c (ax a)) (g : a.length ≤ b) (h : b ≤ maxLen) :
    Fn Tryz.prog W 101 [Pt b0] [obj b0 180 [.slice c a.length b, Iv d, Iv e]] F (bN.f k a d e) (fun (r : Int × Int × Int) (y : Unit) => Iv r.1) (fun r y => [obj b0 180 [.slice c a.length b, Iv r.2.1, Iv r.2.2]]) := by
 unfold bN.f
 refine aO 23 Tryz.func101 O Tryz.ntmps101 O (sr (va O O (nx (vm O O (av (fun l j => (ah (au (vs := [Pt b0]) (cap := []) (A := [obj b0 180 [.slice c a.length b, Iv d, Iv e]]) (rst := [F]) O O O O O O call123 (.s O (.s O .n)) (eK.calls _ _ k b0 c b a d e (i.lend 0 O) g h) j) O O O ?_)))))))
 intro m
 refine vm O O (vq (bF O O O) O (vq (bF O O O) O (vq (bF O O O) O (va O O (va O O (va O O (ae (aa (ay (sr (vm O O (vq (fh O O) O (ae (aa ?_))))))))))))))
 refine aX O (fun n => ?_) (fun o => ?_)
 refine sr (va O O (ae (aa (aA (aN ?_)))))
 exact aE () O O O (.s O (.s O .n))
 refine aB (aa (sr (vm O O (vn O O (vq (ar O O underlying180 O O sizeOf3 O) O (vq (ag O O isAgg3 (.obj 0 O O)) O (vm O O (vq (ca O O O) O (vn O O (vq (ar O O underlying180 O O sizeOf3 O) O (bf (aL 0 O O O sizeOf3 O O (aS (by rfl)) O O) O O ?_)))))))))))
 intro _
 refine nx (vm O O (va O O (ae (aa (aA ?_)))))
 exact aE () O O O (.s O (.s O .n))

def cZ.f (b : Int) (a : Int) (c : Int) : Option (Int) := (cf.f b (0 : Int)).bind fun d => ((if (!d) = true then (some true) else ((cf.f c (0 : Int)).bind fun e => (some (!e)))).bind fun g => (if ((g || (decide (a < (0 : Int)))) || (decide ((7 : Int) < a))) = true then (some 1) else (if ((!decide (a = (0 : Int))) && (decide (b = (0 : Int)))) = true then (some 4) else (some 0))))
theorem cZ.calls (W : World) (F : HA) (c : Int) (a : Int) (e : Int)  :
    Fn Tryz.prog W 78 [.agg #[], .agg #[Iv c, Iv a, Iv e]] [] F (cZ.f c a e) (fun (r : Int) (y : Unit) => Iv r) (fun r y => []) := by
 unfold cZ.f
 refine aO 35 Tryz.func78 O Tryz.ntmps78 O (sr (ah (cl O O O) O O O ?_))
 intro p
 refine ah (cl O O O) O O O ?_
 intro d
 refine va O O (ae (aa (ay (aU (sr (vq (ar O O underlying43 O O sizeOf3 O) O (vq (ag O O isAgg3 (.obj 0 O O)) O (av (fun an q => (ah (au (vs := [Iv c, Iv 0]) (cap := []) (A := []) (rst := [obj d 43 [Iv c, Iv a, Iv e], obj p 129 [], F]) O O O O O O call105 (.s O (.s O (.s O .n))) (cf.calls _ _ c (0 : Int) ) q) O O O ?_))))))))))
 intro az
 refine vq (fh O O) O (vm O O ?_)
 refine da 5 (S := Bool) (Unit) (fun s y => [(3, Pt d), (15, .bool s)]) (fun s y => [obj d 43 [Iv c, Iv a, Iv e], F]) ?_ ?_
 refine ee (fun h => ?_) (fun i => ?_)
 rw [h]
 refine aC O O O O O O (aC O O O O O O (aC O O O O O O (aC O O O O O O (vq (bP O O O O O) O (ae ?_)))))
 exact aG (s := true) () ⟨O, O, trivial⟩ (.s O (.sel 1 O .n))
 rw [i]
 refine aJ (ar O O underlying43 O O sizeOf3 O) O O O O O O (aJ (ag O O isAgg3 (.obj 0 O O)) O O O O O O (av (fun u t => (fk (au (vs := [Iv e, Iv 0]) (cap := []) (A := []) (rst := [obj d 43 [Iv c, Iv a, Iv e], obj p 129 [], F]) O O O O O O call105 (.s O (.s O (.s O .n))) (cf.calls _ _ e (0 : Int) ) t) O O O O O O ?_))))
 intro z
 refine aJ (fh O O) O O O O O O (vq (bP O O O O O) O (ae ?_))
 exact aG (s := !u) () ⟨O, O, trivial⟩ (.s O (.sel 1 O .n))
 intro g a0
 refine vm O O (aw (b := g) (fun v => RQ.sub (E' := [(3, Pt d)]) ⟨O, trivial⟩ (ar O O underlying43 O O sizeOf3 O)) O O O O O (aw (b := g) (fun j => RQ.sub (E' := [(17, .pointer (some ⟨d, 1, none⟩))]) ⟨aH O j, trivial⟩ (ag O O isAgg3 (.obj 0 O O))) O O O O O (aw (b := g) (fun k => RQ.sub (E' := [(18, Iv a)]) ⟨aH O k, trivial⟩ (cD O O O)) O O O O O (vq (fb O O O) O (vm O O (aw (b := g || (decide (a < (0 : Int)))) (fun w => RQ.sub (E' := [(3, Pt d)]) ⟨O, trivial⟩ (ar O O underlying43 O O sizeOf3 O)) O O O O O (aw (b := g || (decide (a < (0 : Int)))) (fun l => RQ.sub (E' := [(22, .pointer (some ⟨d, 1, none⟩))]) ⟨aH O l, trivial⟩ (ag O O isAgg3 (.obj 0 O O))) O O O O O (aw (b := g || (decide (a < (0 : Int)))) (fun m => RQ.sub (E' := [(23, Iv a)]) ⟨aH O m, trivial⟩ (cC O O O)) O O O O O (vq (fb O O O) O (va O O (ae (aa ?_))))))))))))
 refine aX O (fun ab => ?_) (fun ad => ?_)
 refine sr (va O O (ae (aa (aA (bi (aN ?_))))))
 exact aE () O O O (.sel 1 O .n)
 refine sr (vq (ar O O underlying43 O O sizeOf3 O) O (vq (ag O O isAgg3 (.obj 0 O O)) O (vq (cS O O O) O (vm O O (aw (b := !decide (a = (0 : Int))) (fun x => RQ.sub (E' := [(3, Pt d)]) ⟨O, trivial⟩ (ar O O underlying43 O O sizeOf3 O)) O O O O O (aw (b := !decide (a = (0 : Int))) (fun n => RQ.sub (E' := [(31, Pt d)]) ⟨aH O n, trivial⟩ (ag O O isAgg3 (.obj 0 O O))) O O O O O (aw (b := !decide (a = (0 : Int))) (fun o => RQ.sub (E' := [(32, Iv c)]) ⟨aH O o, trivial⟩ (bS O O O)) O O O O O (vq (dF O O O) O (va O O (ae (aa ?_)))))))))))
 refine aX O (fun af => ?_) (fun al => ?_)
 refine sr (va O O (ae (aa (aA (bi (aN ?_))))))
 exact aE () O O O (.sel 1 O .n)
 refine aB (bq (aa (sr (va O O (ae (aa (aA ?_)))))))
 exact aE () O O O (.sel 1 O .n)

def eu.f (k : Nat) (b : List UInt8) (c : Int) (d : Int) (x1 : Int) : Option (List UInt8 × Int × Int) := (eK.f k b c d).bind fun a => (if (!a.2.2.1) = true then (some (([] : List UInt8), a.2.2.2.1, a.2.2.2.2)) else (if max x1 (0 : Int) < a.1 then (some (([] : List UInt8), a.2.2.2.1, 3)) else (if IntKind.i64.wrap ((IntKind.i64.wrap ((b.length : Int) - a.2.2.2.1)) - a.2.1) < a.1 then (some (([] : List UInt8), a.2.2.2.1, 2)) else (if 0 ≤ IntKind.i64.wrap (a.2.2.2.1 + a.2.1) ∧ IntKind.i64.wrap (a.2.2.2.1 + a.2.1) ≤ IntKind.i64.wrap ((IntKind.i64.wrap (a.2.2.2.1 + a.2.1)) + a.1) ∧ IntKind.i64.wrap ((IntKind.i64.wrap (a.2.2.2.1 + a.2.1)) + a.1) ≤ (b.length : Int) then ((eS.f (cut b (IntKind.i64.wrap (a.2.2.2.1 + a.2.1)) (IntKind.i64.wrap ((IntKind.i64.wrap (a.2.2.2.1 + a.2.1)) + a.1)))).bind fun e => (some (e, IntKind.i64.wrap ((IntKind.i64.wrap (a.2.2.2.1 + a.2.1)) + a.1), a.2.2.2.2))) else none))))
theorem eu.calls (W : World) (F : HA) (k : Nat) (b0 : Nat) (d : Option Addr) (c : Nat) (b : Lb) (g : Int) (h : Int) (x1 : Int) (u : Rd F d (ax b)) (m : b.length ≤ c) (q : c ≤ maxLen) :
    Fn Tryz.prog W 103 [Pt b0, Iv x1] [obj b0 180 [.slice d b.length c, Iv g, Iv h]] F (eu.f k b g h x1) (fun (r : Lb × Int × Int) (y : Option Addr × Nat) => .slice y.1 r.1.length y.2) (fun r y => [Row 5 1 y.1 r.1.length y.2 (ax r.1), obj b0 180 [.slice d b.length c, Iv r.2.1, Iv r.2.2]]) := by
 unfold eu.f
 refine aO 67 Tryz.func103 O Tryz.ntmps103 O (sr (va O O (nx (vm O O (av (fun a an => (ah (au (vs := [Pt b0]) (cap := []) (A := [obj b0 180 [.slice d b.length c, Iv g, Iv h]]) (rst := [F]) O O O O O O call123 (.s O (.s O .n)) (eK.calls _ _ k b0 d c b g h (u.lend 0 O) m q) an) O O O ?_)))))))
 intro a0
 refine vm O O (vq (bF O O O) O (vq (bF O O O) O (vq (bF O O O) O (va O O (va O O (va O O (ae (aa (ay (aU (sr (vm O O (vq (fh O O) O (va O O (ae (aa ?_))))))))))))))))
 refine aX O (fun a1 => ?_) (fun a2 => ?_)
 refine sr (va O O (ae (aa (aA (bi (aN ?_))))))
 exact aE (none, 0) O O O (.row_nil (.s O (.s O .n)))
 refine sr (vm O O (vm O O (vq (ui O O O) O (vq (cC O O O) O (va O O (ae (aa ?_)))))))
 refine bk O (fun a3 => ?_) (fun a4 => ?_)
 refine sr (vm O O (vn O O (vq (ar O O underlying180 O O sizeOf23 O) O (bf (aL 0 O O O sizeOf23 O O (aS (by rfl)) O O) O O ?_))))
 intro _
 refine nx (va O O (ae (aa (aA (bi (aN ?_))))))
 exact aE (none, 0) O O O (.row_nil (.s O (.s O .n)))
 refine ay ?_
 refine bh (Γ := Unit) () [[], [], [1], [1, 2], [1, 2, 3], [1, 2, 3, 4], [], [6], [6, 7], [6, 7, 8], [1, 2, 3, 4, 5, 6, 7, 8, 9], [], [1, 2, 3, 4, 5, 6, 7, 8, 9, 10, 11], rL 13, rL 14] [] [0, 1, 2, 3, 4, 5, 6, 7, 8, 9, 10, 11, 12, 13, 14] (fun i => [[0], [0], [0], [0], [0], [0], [0], [0], [0], [0], [0], [0], [0], [0], [0]].getD i []) (fun i => [[], [], [], [], [], [], [], [], [], [], [], [], [], [], []].getD i []) (fun γ i => [Iv a.1, Pt b0, Pt b0, Pt b0, .slice d b.length c, Iv (b.length : Int), Pt b0, Pt b0, .pointer (some ⟨b0, 1, none⟩), Iv a.2.2.2.1, Iv (IntKind.i64.wrap ((b.length : Int) - a.2.2.2.1)), Iv a.2.1, Iv (IntKind.i64.wrap ((IntKind.i64.wrap ((b.length : Int) - a.2.2.2.1)) - a.2.1)), .bool (decide (IntKind.i64.wrap ((IntKind.i64.wrap ((b.length : Int) - a.2.2.2.1)) - a.2.1) < a.1)), .bool (decide (IntKind.i64.wrap ((IntKind.i64.wrap ((b.length : Int) - a.2.2.2.1)) - a.2.1) < a.1))].getD i undef) (fun j γ => [[obj b0 180 [.slice d b.length c, Iv a.2.2.2.1, Iv a.q4], F]].getD j []) (fun γ => [(0, Pt b0), (5, Iv a.1), (6, Iv a.2.1), (26, .bool (decide (IntKind.i64.wrap ((IntKind.i64.wrap ((b.length : Int) - a.2.2.2.1)) - a.2.1) < a.1)))]) mixed (by decide) (by decide) (by decide) (by decide) (by decide) (by decide) (by decide) 67 O (by decide) (by decide) (by decide) (Ent.refl _) ?_ ?_ (fun _ => ⟨O, O, O, O, trivial⟩) ?_
 exact (aq O (fun γ => qm O (.o (s := 5) O (by decide) .nil) O) (aq O (fun γ => qm O (.o (s := 0) O (by decide) .nil) O) (aq O (fun γ => qp O O (.v 1 O O .nil) (aW O O) O) (aq O (fun γ => qp O O (.v 2 O O .nil) (ar O O underlying180 O O sizeOf33 O) O) (aq O (fun γ => qp O O (.v 3 O O .nil) (ag O O isAgg33 (.obj 0 O O)) O) (aq O (fun γ => qp O O (.v 4 O O .nil) (bC O O O underlying33) O) (aq O (fun γ => qm O (.o (s := 0) O (by decide) .nil) O) (aq O (fun γ => qp O O (.v 6 O O .nil) (aW O O) O) (aq O (fun γ => qp O O (.v 7 O O .nil) (ar O O underlying180 O O sizeOf3 O) O) (aq O (fun γ => qp O O (.v 8 O O .nil) (ag O O isAgg3 (.obj 0 O O)) O) (aq O (fun γ => qp O O (.v 5 O O (.v 9 O O .nil)) (cW O O O) O) (aq O (fun γ => qm O (.o (s := 6) O (by decide) .nil) O) (aq O (fun γ => qp O O (.v 10 O O (.v 11 O O .nil)) (cW O O O) O) (aq O (fun γ => qp O O (.v 0 O O (.v 12 O O .nil)) (cC O O O) O) (aq O (fun γ => qp O O (.v 13 O O .nil) (cz O O) O) zA)))))))))))))))
 exact zA
 intro a5
 refine aa ?_
 refine bk O (fun a6 => ?_) (fun az => ?_)
 refine sr (vm O O (vn O O (vq (ar O O underlying180 O O sizeOf23 O) O (bf (aL 0 O O O sizeOf23 O O (aS (by rfl)) O O) O O ?_))))
 intro _
 refine nx (va O O (ae (aa (aA (bi (aN ?_))))))
 exact aE (none, 0) O O O (.row_nil (.s O (.s O .n)))
 refine aB (bq (aa (sr (vm O O (vn O O (vq (ar O O underlying180 O O sizeOf3 O) O (vq (ag O O isAgg3 (.obj 0 O O)) O (vm O O (vq (ca O O O) O (va O O (nx (vm O O (vm O O (vm O O (vq (ca O O O) O (vn O O (vq (ar O O underlying180 O O sizeOf3 O) O (bf (aL 0 O O O sizeOf3 O O (aS (by rfl)) O O) O O ?_))))))))))))))))))
 intro _
 refine ae (aa (ay (cN (fun t => ?_))))
 obtain ⟨n, p, x, ab, ad, af⟩ := gV (lo := IntKind.i64.wrap (a.2.2.2.1 + a.2.1)) (hi := IntKind.i64.wrap ((IntKind.i64.wrap (a.2.2.2.1 + a.2.1)) + a.1)) u m t
 refine bo (fun e al => ?_)
 refine bh (Γ := (Option Addr × Nat)) (none, 0) [[], [0], [0, 1], [0, 1, 2], [], [], [5], [5, 6], [5, 6, 7], rL 9, rL 10, rL 11] [10] [0, 1, 2, 3, 4, 5, 6, 7, 8, 9, 11] (fun i => [[0], [0], [0], [0], [0], [0], [0], [0], [0], [0], [], [1]].getD i []) (fun i => [[], [], [], [], [], [], [], [], [], [], rL 10, []].getD i []) (fun γ i => [Pt b0, Pt b0, Pt b0, .slice d b.length c, Iv (IntKind.i64.wrap (a.2.2.2.1 + a.2.1)), Pt b0, Pt b0, .pointer (some ⟨b0, 1, none⟩), Iv (IntKind.i64.wrap ((IntKind.i64.wrap (a.2.2.2.1 + a.2.1)) + a.1)), .slice n ((cut b (IntKind.i64.wrap (a.2.2.2.1 + a.2.1)) (IntKind.i64.wrap ((IntKind.i64.wrap (a.2.2.2.1 + a.2.1)) + a.1))).length) p, .slice γ.1 e.length γ.2, .slice γ.1 e.length γ.2].getD i undef) (fun j γ => [[obj b0 180 [.slice d b.length c, Iv (IntKind.i64.wrap ((IntKind.i64.wrap (a.2.2.2.1 + a.2.1)) + a.1)), Iv a.q4], F], [Row 5 1 γ.1 e.length γ.2 (ax e), obj b0 180 [.slice d b.length c, Iv (IntKind.i64.wrap ((IntKind.i64.wrap (a.2.2.2.1 + a.2.1)) + a.1)), Iv a.q4], F]].getD j []) (fun γ => [(4, .slice γ.1 e.length γ.2)]) mixed (by decide) (by decide) (by decide) (by decide) (by decide) (by decide) (by decide) 67 O (by decide) (by decide) (by decide) (Ent.refl _) ?_ ?_ (fun _ => ⟨O, trivial⟩) ?_
 exact (aq O (fun γ => qm O (.o (s := 0) O (by decide) .nil) O) (aq O (fun γ => qp O O (.v 0 O O .nil) (aW O O) O) (aq O (fun γ => qp O O (.v 1 O O .nil) (ar O O underlying180 O O sizeOf33 O) O) (aq O (fun γ => qp O O (.v 2 O O .nil) (ag O O isAgg33 (.obj 0 O O)) O) (aq O (fun γ => qm O (.o (s := 8) O (by decide) .nil) O) (aq O (fun γ => qm O (.o (s := 0) O (by decide) .nil) O) (aq O (fun γ => qp O O (.v 5 O O .nil) (aW O O) O) (aq O (fun γ => qp O O (.v 6 O O .nil) (ar O O underlying180 O O sizeOf3 O) O) (aq O (fun γ => qp O O (.v 7 O O .nil) (ag O O isAgg3 (.obj 0 O O)) O) (aq O (fun γ => qp O O (.v 3 O O (.v 4 O O (.v 8 O O .nil))) (gD (l := b) (lo' := IntKind.i64.wrap (a.2.2.2.1 + a.2.1)) (hi' := IntKind.i64.wrap ((IntKind.i64.wrap (a.2.2.2.1 + a.2.1)) + a.1)) O O O O underlying33 sizeOf5 (.inr ⟨_, O⟩) (.inr ⟨_, O⟩) t m x) O) (aq O (fun γ => qp O O (.v 10 O O .nil) (cz O O) O) zA)))))))))))
 exact (ac (fun γ => eo (Z := Option Addr × Nat) (fun z => z) O O (.v 9 O O .nil) (au (vs := [.slice n ((cut b (IntKind.i64.wrap (a.2.2.2.1 + a.2.1)) (IntKind.i64.wrap ((IntKind.i64.wrap (a.2.2.2.1 + a.2.1)) + a.1))).length) p]) (cap := []) (A := []) (rst := [obj b0 180 [.slice d b.length c, Iv (IntKind.i64.wrap ((IntKind.i64.wrap (a.2.2.2.1 + a.2.1)) + a.1)), Iv a.q4], F]) O O O O O O call110 (.s O (.s O .n)) (eS.calls _ _ n p (cut b (IntKind.i64.wrap (a.2.2.2.1 + a.2.1)) (IntKind.i64.wrap ((IntKind.i64.wrap (a.2.2.2.1 + a.2.1)) + a.1))) (ab.lend 1 O) ad (Nat.le_trans af q)) al) (fun _ => ⟨O, O, O, O, O, O, O, O, O, O, trivial⟩) (fun _ => .inr O) (fun z => Ent.refl _)) zA)
 intro w
 refine aa (aA ?_)
 exact aE (w.1, w.2) O O O (.s O (.s O (.s O .n)))

def cA.f (a : List UInt8) (b : Int) (c : Int) : Option (Int) := some (IntKind.i64.wrap ((a.length : Int) - b))
theorem cA.calls (W : World) (F : HA) (b0 : Nat) (d : Option Addr) (c : Nat) (a : Lb) (b : Int) (e : Int) (k : Rd F d (ax a)) (g : a.length ≤ c) (h : c ≤ maxLen) :
    Fn Tryz.prog W 125 [Pt b0] [obj b0 180 [.slice d a.length c, Iv b, Iv e]] F (cA.f a b e) (fun (r : Int) (y : Unit) => Iv r) (fun r y => [obj b0 180 [.slice d a.length c, Iv b, Iv e]]) := by
 unfold cA.f
 refine aO 13 Tryz.func125 O Tryz.ntmps125 O (sr (va O O (ae (aa (ay ?_)))))
 refine bh (Γ := Unit) () [[], [0], [0, 1], [0, 1, 2], rL 4, [], [5], [5, 6], [5, 6, 7], rL 9, rL 10] [] [0, 1, 2, 3, 4, 5, 6, 7, 8, 9, 10] (fun i => [[0], [0], [0], [0], [0], [0], [0], [0], [0], [0], [0]].getD i []) (fun i => [[], [], [], [], [], [], [], [], [], [], []].getD i []) (fun γ i => [Pt b0, Pt b0, Pt b0, .slice d a.length c, Iv (a.length : Int), Pt b0, Pt b0, .pointer (some ⟨b0, 1, none⟩), Iv b, Iv (IntKind.i64.wrap ((a.length : Int) - b)), Iv (IntKind.i64.wrap ((a.length : Int) - b))].getD i undef) (fun j γ => [[obj b0 180 [.slice d a.length c, Iv b, Iv e], F]].getD j []) (fun γ => [(2, Iv (IntKind.i64.wrap ((a.length : Int) - b)))]) mixed (by decide) (by decide) (by decide) (by decide) (by decide) (by decide) (by decide) 13 O (by decide) (by decide) (by decide) (Ent.refl _) ?_ ?_ (fun _ => ⟨O, trivial⟩) ?_
 exact (aq O (fun γ => qm O (.o (s := 0) O (by decide) .nil) O) (aq O (fun γ => qp O O (.v 0 O O .nil) (aW O O) O) (aq O (fun γ => qp O O (.v 1 O O .nil) (ar O O underlying180 O O sizeOf33 O) O) (aq O (fun γ => qp O O (.v 2 O O .nil) (ag O O isAgg33 (.obj 0 O O)) O) (aq O (fun γ => qp O O (.v 3 O O .nil) (bC O O O underlying33) O) (aq O (fun γ => qm O (.o (s := 0) O (by decide) .nil) O) (aq O (fun γ => qp O O (.v 5 O O .nil) (aW O O) O) (aq O (fun γ => qp O O (.v 6 O O .nil) (ar O O underlying180 O O sizeOf3 O) O) (aq O (fun γ => qp O O (.v 7 O O .nil) (ag O O isAgg3 (.obj 0 O O)) O) (aq O (fun γ => qp O O (.v 4 O O (.v 8 O O .nil)) (cW O O O) O) (aq O (fun γ => qp O O (.v 9 O O .nil) (cz O O) O) zA)))))))))))
 exact zA
 intro l
 refine aa (aA ?_)
 exact aE () O O O (.s O (.s O .n))
def cA.v (a : List UInt8) (b : Int) (c : Int) : Int := (cA.f a b c).getD 0
theorem cA.tot (a : Lb) (b : Int) (c : Int) : cA.f a b c = some (cA.v a b c) := by
  have h : ∃ r, cA.f a b c = some r := by
    unfold cA.f
    repeat' (first | exact ⟨_, rfl⟩ | split | simp only [Option.bind_some])
  obtain ⟨r, h⟩ := h
  unfold cA.v
  rw [h]; rfl

def bp.f (b : List UInt8) (c : Int) (a : Int) : Option (Int) := (if a = (0 : Int) then ((cA.f b c a).bind fun d => (some (decide ((0 : Int) < d)))) else (some false)).bind fun e => (if e = true then (some 3) else (some a))
theorem bp.calls (W : World) (F : HA) (b0 : Nat) (c : Option Addr) (b : Nat) (a : Lb) (d : Int) (e : Int) (i : Rd F c (ax a)) (g : a.length ≤ b) (h : b ≤ maxLen) :
    Fn Tryz.prog W 104 [Pt b0] [obj b0 180 [.slice c a.length b, Iv d, Iv e]] F (bp.f a d e) (fun (r : Int) (y : Unit) => Iv r) (fun r y => [obj b0 180 [.slice c a.length b, Iv d, Iv e]]) := by
 unfold bp.f
 refine aO 17 Tryz.func104 O Tryz.ntmps104 O (sr (va O O (ae (aa (ay (sr (vm O O (vn O O (vq (ar O O underlying180 O O sizeOf23 O) O (vq (ag O O isAgg23 (.obj 0 O O)) O (vq (bS O O O) O (vm O O ?_))))))))))))
 refine da 4 (S := Bool) (Unit) (fun s y => [(0, Pt b0), (12, .bool s)]) (fun s y => [obj b0 180 [.slice c a.length b, Iv d, Iv e], F]) ?_ ?_
 refine iJ (fun j => ?_) (fun k => ?_)
 rw [j]
 refine aJ (aY O O) O O O O O O (av (fun m l => (fk (au (vs := [Pt b0]) (cap := []) (A := [obj b0 180 [.slice c a.length b, Iv d, Iv e]]) (rst := [F]) O O O O O O call125 (.s O (.s O .n)) (cA.calls _ _ b0 c b a d e (i.lend 0 O) g h) l) O O O O O O ?_)))
 intro n
 refine aJ (cC O O O) O O O O O O (vq (bP O O O O O) O (ae ?_))
 exact aG (s := decide ((0 : Int) < m)) () ⟨O, O, trivial⟩ (.s O (.s O .n))
 rw [k]
 refine aC O O O O O O (aC O O O O O O (aC O O O O O O (vq (bP O O O O O) O (ae ?_))))
 exact aG (s := false) () ⟨O, O, trivial⟩ (.s O (.s O .n))
 intro o p
 refine ae (aa ?_)
 refine aX O (fun q => ?_) (fun t => ?_)
 refine sr (va O O (ae (aa (aA (aN ?_)))))
 exact aE () O O O (.s O (.s O .n))
 refine aB (aa (sr (vm O O (vn O O (vq (ar O O underlying180 O O sizeOf23 O) O (vq (ag O O isAgg23 (.obj 0 O O)) O (va O O (ae (aa (aA ?_))))))))))
 exact aE () O O O (.s O (.s O .n))
def bp.v (a : List UInt8) (b : Int) (c : Int) : Int := (bp.f a b c).getD 0
theorem bp.tot (a : Lb) (b : Int) (c : Int) : bp.f a b c = some (bp.v a b c) := by
  have h : ∃ r, bp.f a b c = some r := by
    unfold bp.f
    repeat' (first | exact ⟨_, rfl⟩ | split | simp only [Option.bind_some, cA.tot])
  obtain ⟨r, h⟩ := h
  unfold bp.v
  rw [h]; rfl

def fP.f (e : List UInt8) (g : Int) (h : Int) (a : Int) (b : Int) (c : Int) (d : List UInt8) : Option (aF) := (bp.f e g h).bind fun i => ((if i = (0 : Int) then ((bx.f a b c d).bind fun k => (some k)) else (some i)).bind fun j => (if j = (0 : Int) then (some (a, b, c, d, 0)) else (some (0, 0, 0, ([] : List UInt8), j))))
theorem fP.calls (W : World) (F : HA) (G : HA) (hG : Up G F) (m : Nat) (e : Option Addr) (b : Nat) (a : Lb) (g : Int) (h : Int) (j : Int) (k : Int) (l : Int) (i : Option Addr) (c : Nat) (d : Lb) (w : Rd G e (ax a)) (t : a.length ≤ b) (u : b ≤ maxLen) (v : Rd G i (ax d)) (o : d.length ≤ c) (p : c ≤ maxLen) :
    Fn Tryz.prog W 124 [Pt m, .iface 131 (.agg #[]), .agg #[Iv j, Iv k, Iv l, .slice i d.length c]] [obj m 180 [.slice e a.length b, Iv g, Iv h]] F (fP.f a g h j k l d) (fun (r : Int × Int × Int × Lb × Int) (y : Option Addr × Nat) => .tuple #[.agg #[Iv r.1, Iv r.2.1, Iv r.2.2.1, .slice y.1 r.2.2.2.1.length y.2], Iv r.q4]) (fun r y => [pr (Rd (G) y.1 (ax r.2.2.2.1) ∧ r.2.2.2.1.length ≤ y.2 ∧ y.2 ≤ maxLen), obj m 180 [.slice e a.length b, Iv g, Iv h]]) := by
 unfold fP.f
 refine aO 22 Tryz.func124 O Tryz.ntmps124 O (sr (ah (cl O O O) O O O ?_))
 intro q
 refine ah (cn O zeroValue35 O) O O O ?_
 intro n
 refine va O O (nx (vm O O (av (fun ad z => (ah (au (vs := [Pt m]) (cap := []) (A := [obj m 180 [.slice e a.length b, Iv g, Iv h]]) (rst := [obj n 35 [Iv 0, Iv 0, Iv 0, .slice none 0 0], obj q 35 [Iv j, Iv k, Iv l, .slice i d.length c], F]) O O O O O O call104 (.sel 2 O (.s O (.s O (.s O .n)))) (bp.calls _ _ m e b a g h ((w.up hG).lend 2 O) t u) z) O O O ?_)))))
 intro a1
 refine va O O (ae (aa ?_))
 refine bK (S := Int) (Unit) (fun s y => [(5, Pt q), (6, Pt n), (8, Iv s)]) (fun s y => [obj m 180 [.slice e a.length b, Iv g, Iv h], obj n 35 [Iv 0, Iv 0, Iv 0, .slice none 0 0], obj q 35 [Iv j, Iv k, Iv l, .slice i d.length c], F]) ?_ ?_
 refine sr (vm O O (vq (bS O O O) O (ae (aa ?_))))
 refine bk O (fun a2 => ?_) (fun a3 => ?_)
 refine aK (vm O O (vq (ct 2 O O isAgg35 sizeOf35 O O) O (av (fun ab x => (ah (ot (vs := [.agg #[Iv j, Iv k, Iv l, .slice i d.length c]]) (A := []) (rst := [obj m 180 [.slice e a.length b, Iv g, Iv h], obj n 35 [Iv 0, Iv 0, Iv 0, .slice none 0 0], obj q 35 [Iv j, Iv k, Iv l, .slice i d.length c], F]) O O O O O (fun _ => by kernel_rfl) call79 (.s O (.s O (.s O (.s O .n)))) (bx.calls _ _ j k l i c d ((v.up hG).lend 3 O) o p) x) O O O ?_)))))
 intro al
 refine va O O (ae ?_)
 exact aG (s := ab) () ⟨O, O, O, trivial⟩ (.s O (.s O (.s O (.s O .n))))
 refine aB ?_
 exact aG (s := ad) () ⟨O, O, O, trivial⟩ (.s O (.s O (.s O (.s O .n))))
 intro af a4
 refine ay (sr (vm O O (vq (cS O O O) O (ae (aa ?_)))))
 refine di O (fun an => ?_) (fun az => ?_)
 refine aB (aa (sr (vq (ct 2 O O isAgg35 sizeOf35 O O) O (bf (aL 1 O O O sizeOf35 O O (aS (by rfl)) O O) O O ?_))))
 intro _
 refine va O O (ae (aa (aA ?_)))
 exact jQ (vs := [.agg #[Iv j, Iv k, Iv l, .slice i d.length c], Iv 0]) (i, c) O ⟨⟨n, O, jb 1 isAgg35 sizeOf35 O O⟩, O, trivial⟩ O (.pr_in ⟨v, o, p⟩ (.s O (.sel 2 O .n)))
 refine sr (ah (cn O zeroValue35 O) O O O ?_)
 intro a0
 refine nx (vq (ct 0 O O isAgg35 sizeOf35 O O) O (vm O O (bf (aL 2 O O O sizeOf35 O O (aS (by rfl)) O O) O O ?_)))
 intro _
 refine va O O (ae (aa (aA (aN ?_))))
 exact jQ (vs := [.agg #[Iv 0, Iv 0, Iv 0, .slice none 0 0], Iv af]) (none, 0) O ⟨⟨n, O, jb 2 isAgg35 sizeOf35 O O⟩, O, trivial⟩ O (.pr_in ⟨Rd.nil _ _, Nat.le_refl _, Nat.zero_le _⟩ (.sel 1 O (.sel 3 O .n)))

def dI.f (e : List UInt8) (g : Int) (h : Int) (a : Int) (b : Int) (c : Int) (d : List UInt8) : Option (aF) := (bp.f e g h).bind fun i => ((if i = (0 : Int) then ((bx.f a b c d).bind fun k => (some k)) else (some i)).bind fun j => (if j = (0 : Int) then (some (a, b, c, d, 0)) else (some (0, 0, 0, ([] : List UInt8), j))))
theorem dI.calls (W : World) (F : HA) (m : Nat) (g : Option Addr) (e : Nat) (d : Lb) (h : Int) (i : Int) (j : Int) (k : Int) (l : Int) (b : Option Addr) (c : Nat) (a : Lb) (t : Rd F g (ax d)) (p : d.length ≤ e) (q : e ≤ maxLen) :
    Fn Tryz.prog W 124 [Pt m, .iface 131 (.agg #[]), .agg #[Iv j, Iv k, Iv l, .slice b a.length c]] [obj m 180 [.slice g d.length e, Iv h, Iv i], Row 5 1 b a.length c (ax a)] F (dI.f d h i j k l a) (fun (r : Int × Int × Int × Lb × Int) (y : Option Addr × Nat) => .tuple #[.agg #[Iv r.1, Iv r.2.1, Iv r.2.2.1, .slice y.1 r.2.2.2.1.length y.2], Iv r.q4]) (fun r y => [Row 5 1 y.1 r.2.2.2.1.length y.2 (ax r.2.2.2.1), obj m 180 [.slice g d.length e, Iv h, Iv i]]) := by
 unfold dI.f
 refine aO 22 Tryz.func124 O Tryz.ntmps124 O (sr (ah (cl O O O) O O O ?_))
 intro o
 refine ah (cn O zeroValue35 O) O O O ?_
 intro n
 refine va O O (nx (vm O O (av (fun ad z => (ah (au (vs := [Pt m]) (cap := []) (A := [obj m 180 [.slice g d.length e, Iv h, Iv i]]) (rst := [obj n 35 [Iv 0, Iv 0, Iv 0, .slice none 0 0], obj o 35 [Iv j, Iv k, Iv l, .slice b a.length c], Row 5 1 b a.length c (ax a), F]) O O O O O O call104 (.sel 2 O (.s O (.s O (.s O (.s O .n))))) (bp.calls _ _ m g e d h i (t.lend 3 O) p q) z) O O O ?_)))))
 intro a2
 refine va O O (ae (aa ?_))
 refine bK (S := Int) (Unit) (fun s y => [(5, Pt o), (6, Pt n), (8, Iv s)]) (fun s y => [obj m 180 [.slice g d.length e, Iv h, Iv i], obj n 35 [Iv 0, Iv 0, Iv 0, .slice none 0 0], obj o 35 [Iv j, Iv k, Iv l, .slice b a.length c], Row 5 1 b a.length c (ax a), F]) ?_ ?_
 refine sr (vm O O (vq (bS O O O) O (ae (aa ?_))))
 refine bk O (fun a3 => ?_) (fun a4 => ?_)
 refine aK (vm O O (vq (ct 2 O O isAgg35 sizeOf35 O O) O (av (fun ab u => (bj 3 O (fun v w x al => (ah (ot (vs := [.agg #[Iv j, Iv k, Iv l, .slice b a.length c]]) (A := []) (rst := [obj m 180 [.slice g d.length e, Iv h, Iv i], obj n 35 [Iv 0, Iv 0, Iv 0, .slice none 0 0], obj o 35 [Iv j, Iv k, Iv l, .slice b a.length c], Row 5 1 b a.length c (ax a), F]) O O O O O (fun _ => by kernel_rfl) call79 (.s O (.s O (.s O (.s O (.s O .n))))) (bx.calls _ _ j k l b c a (v.lend 3 O) w x) u) O O O ?_)))))))
 intro an
 refine va O O (ae ?_)
 exact aG (s := ab) () ⟨O, O, O, trivial⟩ (.s O (.s O (.s O (.s O (.s O .n)))))
 refine aB ?_
 exact aG (s := ad) () ⟨O, O, O, trivial⟩ (.s O (.s O (.s O (.s O (.s O .n)))))
 intro af a5
 refine ay (sr (vm O O (vq (cS O O O) O (ae (aa ?_)))))
 refine di O (fun az => ?_) (fun a0 => ?_)
 refine aB (aa (sr (vq (ct 2 O O isAgg35 sizeOf35 O O) O (bf (aL 1 O O O sizeOf35 O O (aS (by rfl)) O O) O O ?_))))
 intro _
 refine va O O (ae (aa (aA ?_)))
 exact jQ (vs := [.agg #[Iv j, Iv k, Iv l, .slice b a.length c], Iv 0]) (b, c) O ⟨⟨n, O, jb 1 isAgg35 sizeOf35 O O⟩, O, trivial⟩ O (.sel 3 O (.s O (.sel 2 O .n)))
 refine sr (ah (cn O zeroValue35 O) O O O ?_)
 intro a1
 refine nx (vq (ct 0 O O isAgg35 sizeOf35 O O) O (vm O O (bf (aL 2 O O O sizeOf35 O O (aS (by rfl)) O O) O O ?_)))
 intro _
 refine va O O (ae (aa (aA (aN ?_))))
 exact jQ (vs := [.agg #[Iv 0, Iv 0, Iv 0, .slice none 0 0], Iv af]) (none, 0) O ⟨⟨n, O, jb 2 isAgg35 sizeOf35 O O⟩, O, trivial⟩ O (.row_nil (.sel 1 O (.sel 4 O .n)))

def fy.f (k : Nat) (x1 : List UInt8) : Option (aF) := (fe.f x1).bind fun a => ((bN.f k a.1 a.2.1 a.2.2).bind fun c => ((bN.f k a.1 c.2.1 c.2.2).bind fun d => ((bN.f k a.1 d.2.1 d.2.2).bind fun e => ((eu.f k a.1 e.2.1 e.2.2 (4096 : Int)).bind fun g => ((dI.f a.1 g.2.1 g.2.2 c.1 d.1 e.1 g.1).bind fun b => (some (b.1, b.2.1, b.2.2.1, b.2.2.2.1, b.2.2.2.2)))))))
theorem fy.calls (W : World) (F : HA) (k : Nat) (a1 : Option Addr) (c1 : Nat) (x1 : Lb) (h1 : Rd F a1 (ax x1)) (a7 : x1.length ≤ c1) (a8 : c1 ≤ maxLen) :
    Fn Tryz.prog W 102 [.agg #[], .slice a1 x1.length c1] [] F (fy.f k x1) (fun (r : Int × Int × Int × Lb × Int) (y : Option Addr × Nat) => .tuple #[.agg #[Iv r.1, Iv r.2.1, Iv r.2.2.1, .slice y.1 r.2.2.2.1.length y.2], Iv r.q4]) (fun r y => [Row 5 1 y.1 r.2.2.2.1.length y.2 (ax r.2.2.2.1)]) := by
 unfold fy.f
 refine aO 26 Tryz.func102 O Tryz.ntmps102 O (sr (ah (cl O O O) O O O ?_))
 intro l
 refine ah (cn O zeroValue35 O) O O O ?_
 intro i
 refine va O O (nx (vm O O (av (fun b a2 => (ah (au (vs := [.slice a1 x1.length c1]) (cap := []) (A := []) (rst := [obj i 35 [Iv 0, Iv 0, Iv 0, .slice none 0 0], obj l 131 [], F]) O O O O O O call100 (.s O (.s O (.s O .n))) (fe.calls _ _ a1 c1 x1 (h1.lend 2 O) a7 a8) a2) O O O ?_)))))
 intro a
 refine va O O (nx (vm O O (av (fun e n => (bj 1 O (fun a3 a4 a5 br => (ah (au (vs := [Pt a.1]) (cap := []) (A := [obj a.1 180 [.slice a.2.1 b.1.length a.2.2, Iv b.2.1, Iv b.2.2]]) (rst := [Row 5 1 a.2.1 b.1.length a.2.2 (ax b.1), obj i 35 [Iv 0, Iv 0, Iv 0, .slice none 0 0], obj l 131 [], F]) O O O O O O call101 (.s O (.s O (.s O (.s O (.s O .n))))) (bN.calls _ _ k a.1 a.2.1 a.2.2 b.1 b.2.1 b.2.2 (a3.lend 0 O) a4 a5) n) O O O ?_)))))))
 intro bs
 refine vm O O (av (fun g o => (bj 1 O (fun p q s a9 => (ah (au (vs := [Pt a.1]) (cap := []) (A := [obj a.1 180 [.slice a.2.1 b.1.length a.2.2, Iv e.2.1, Iv e.2.2]]) (rst := [Row 5 1 a.2.1 b.1.length a.2.2 (ax b.1), obj i 35 [Iv 0, Iv 0, Iv 0, .slice none 0 0], obj l 131 [], F]) O O O O O O call101 (.s O (.s O (.s O (.s O (.s O .n))))) (bN.calls _ _ k a.1 a.2.1 a.2.2 b.1 e.2.1 e.2.2 (p.lend 0 O) q s) o) O O O ?_)))))
 intro bt
 refine vm O O (av (fun h t => (bj 1 O (fun u w x bc => (ah (au (vs := [Pt a.1]) (cap := []) (A := [obj a.1 180 [.slice a.2.1 b.1.length a.2.2, Iv g.2.1, Iv g.2.2]]) (rst := [Row 5 1 a.2.1 b.1.length a.2.2 (ax b.1), obj i 35 [Iv 0, Iv 0, Iv 0, .slice none 0 0], obj l 131 [], F]) O O O O O O call101 (.s O (.s O (.s O (.s O (.s O .n))))) (bN.calls _ _ k a.1 a.2.1 a.2.2 b.1 g.2.1 g.2.2 (u.lend 0 O) w x) t) O O O ?_)))))
 intro b0
 refine vm O O (av (fun c z => (bj 1 O (fun ab ad af bd => (ah (au (vs := [Pt a.1, Iv 4096]) (cap := []) (A := [obj a.1 180 [.slice a.2.1 b.1.length a.2.2, Iv h.2.1, Iv h.2.2]]) (rst := [Row 5 1 a.2.1 b.1.length a.2.2 (ax b.1), obj i 35 [Iv 0, Iv 0, Iv 0, .slice none 0 0], obj l 131 [], F]) O O O O O O call103 (.s O (.s O (.s O (.s O (.s O .n))))) (eu.calls _ _ k a.1 a.2.1 a.2.2 b.1 h.2.1 h.2.2 (4096 : Int) (ab.lend 0 O) ad af) z) O O O ?_)))))
 intro d
 refine vq (dm (v := .agg #[Iv e.1, Iv g.1, Iv h.1, .slice d.1 c.1.length d.2]) O O (fun _ => by kernel_rfl)) O (ah (cn O zeroValue35 O) O O O ?_)
 intro a6
 refine bf (aL 0 O O O sizeOf35 O O (aS (by rfl)) O O) O O ?_
 intro _
 refine nx (vm O O (vq (ct 5 O O isAgg131 sizeOf131 O O) O (vq (vT O O underlying131 O) O (vq (ct 0 O O isAgg35 sizeOf35 O O) O (av (fun j al => (bj 3 O (fun an az a0 be => (ah (au (vs := [Pt a.1, .iface 131 (.agg #[]), .agg #[Iv e.1, Iv g.1, Iv h.1, .slice d.1 c.1.length d.2]]) (cap := []) (A := [obj a.1 180 [.slice a.2.1 b.1.length a.2.2, Iv c.2.1, Iv c.2.2], Row 5 1 d.1 c.1.length d.2 (ax c.1)]) (rst := [obj a6 35 [Iv e.1, Iv g.1, Iv h.1, .slice d.1 c.1.length d.2], Row 5 1 a.2.1 b.1.length a.2.2 (ax b.1), obj i 35 [Iv 0, Iv 0, Iv 0, .slice none 0 0], obj l 131 [], F]) O O O O O O call124 (.sel 2 O (.sel 1 O (.s O (.s O (.s O (.s O (.s O .n))))))) (dI.calls _ _ a.1 a.2.1 a.2.2 b.1 c.2.1 c.2.2 e.1 g.1 h.1 d.1 d.2 c.1 (an.lend 1 O) az a0) al) O O O ?_)))))))))
 intro m
 refine vq (bF O O O) O (vq (bF O O O) O (bf (aL 4 O O O sizeOf35 O O (aS (by rfl)) O O) O O ?_))
 intro _
 refine va O O (ae (aa (aA ?_)))
 exact jQ (vs := [.agg #[Iv j.1, Iv j.2.1, Iv j.2.2.1, .slice m.1 j.2.2.2.1.length m.2], Iv j.q4]) (m.1, m.2) O ⟨⟨i, O, jb 4 isAgg35 sizeOf35 O O⟩, O, trivial⟩ O (.s O (.sel 5 O .n))

def jt.f (k : Nat) (x0 : List UInt8) : Option (Int × Int × Int × Int × Int × Int × Int × Int × Int × Int × List UInt8 × Bool) := (fe.f x0).bind fun c => ((bN.f k c.1 c.2.1 c.2.2).bind fun a => ((if a.1 = (0 : Int) then ((bN.f k c.1 a.2.1 a.2.2).bind fun o => (some (o.2.1, o.2.2, o.1))) else (some (a.2.1, a.2.2, 0))).bind fun h => ((if ((decide (a.1 = (0 : Int))) || (decide (a.1 = (1 : Int)))) = true then ((bN.f k c.1 h.1 h.2.1).bind fun i => ((bN.f k c.1 i.2.1 i.2.2).bind fun j => ((bN.f k c.1 j.2.1 j.2.2).bind fun l => ((cZ.f i.1 j.1 l.1).bind fun q => (some (decide (q = (0 : Int)), l.2.1, l.2.2, i.1, j.1, l.1)))))) else (some (decide (a.1 ≤ (3 : Int)), h.1, h.2.1, 0, 0, 0))).bind fun b => ((if ((decide (a.1 = (0 : Int))) || (decide (a.1 = (3 : Int)))) = true then ((bN.f k c.1 b.2.1 b.2.2.1).bind fun m => ((bN.f k c.1 m.2.1 m.2.2).bind fun n => ((if b.1 = true then ((if a.1 = (0 : Int) then (some true) else (some ((decide ((0 : Int) < m.1)) && (decide ((0 : Int) < n.1))))).bind fun r => (some r)) else (some false)).bind fun s => (some (s, n.2.1, n.2.2, m.1, n.1))))) else (some (b.1, b.2.1, b.2.2.1, 0, 0))).bind fun d => ((if a.1 = (2 : Int) then ((eu.f k c.1 d.2.1 d.2.2.1 (8192 : Int)).bind fun p => ((fy.f k p.1).bind fun g => (some (decide (g.2.2.2.2 = (0 : Int)), p.2.1, p.2.2, g.1, g.2.1, g.2.2.1, g.2.2.2.1)))) else (some (d.1, d.2.1, d.2.2.1, 0, 0, 0, ([] : List UInt8)))).bind fun e => (some (a.1, h.2.2, b.2.2.2.1, b.2.2.2.2.1, b.2.2.2.2.2, d.2.2.2.1, d.2.2.2.2, e.2.2.2.1, e.2.2.2.2.1, e.2.2.2.2.2.1, e.2.2.2.2.2.2, e.1 && (decide ((bp.v c.1 e.2.1 e.2.2.1) = (0 : Int))))))))))
theorem jt.calls (W : World) (F : HA) (k : Nat) (a0 : Option Addr) (c0 : Nat) (x0 : Lb) (h0 : Rd F a0 (ax x0)) (em : x0.length ≤ c0) (en : c0 ≤ maxLen) :
    Fn Tryz.prog W 76 [.slice a0 x0.length c0] [] F (jt.f k x0) (fun (r : Int × Int × Int × Int × Int × Int × Int × Int × Int × Int × Lb × Bool) (y : Option Addr × Nat) => .tuple #[.agg #[Iv r.1, Iv r.2.1, Iv r.2.2.1, Iv r.2.2.2.1, Iv r.q4.1, Iv r.q4.2.1, Iv r.q4.2.2.1, Iv r.q4.2.2.2.1, Iv r.q8.1, Iv r.q8.2.1, .slice y.1 r.q8.2.2.1.length y.2], .bool r.q8.2.2.2]) (fun r y => [Row 5 1 y.1 r.q8.2.2.1.length y.2 (ax r.q8.2.2.1)]) := by
 unfold jt.f
 refine aO 95 Tryz.func76 O Tryz.ntmps76 O (sr (ah (cn O zeroValue102 O) O O O ?_))
 intro n
 refine va O O (nx (vm O O (av (fun d ec => (ah (au (vs := [.slice a0 x0.length c0]) (cap := []) (A := []) (rst := [obj n 102 [Iv 0, Iv 0, Iv 0, Iv 0, Iv 0, Iv 0, Iv 0, Iv 0, Iv 0, Iv 0, .slice none 0 0], F]) O O O O O O call100 (.s O (.s O .n)) (fe.calls _ _ a0 c0 x0 (h0.lend 1 O) em en) ec) O O O ?_)))))
 intro a
 refine va O O (nx (vm O O (av (fun h a8 => (bj 1 O (fun ed ef eg go => (ah (au (vs := [Pt a.1]) (cap := []) (A := [obj a.1 180 [.slice a.2.1 d.1.length a.2.2, Iv d.2.1, Iv d.2.2]]) (rst := [Row 5 1 a.2.1 d.1.length a.2.2 (ax d.1), obj n 102 [Iv 0, Iv 0, Iv 0, Iv 0, Iv 0, Iv 0, Iv 0, Iv 0, Iv 0, Iv 0, .slice none 0 0], F]) O O O O O O call101 (.s O (.s O (.s O (.s O .n)))) (bN.calls _ _ k a.1 a.2.1 a.2.2 d.1 d.2.1 d.2.2 (ed.lend 0 O) ef eg) a8) O O O ?_)))))))
 intro gs
 refine vq (dm (v := .agg #[Iv h.1, Iv 0, Iv 0, Iv 0, Iv 0, Iv 0, Iv 0, Iv 0, Iv 0, Iv 0, .slice none 0 0]) O O (fun _ => by kernel_rfl)) O (ah (cn O zeroValue102 O) O O O ?_)
 intro g
 refine bf (aL 0 O O O sizeOf102 O O (aS (by rfl)) O O) O O ?_
 intro _
 refine cr (H' := [obj g 102 [Iv h.1, Iv 0, Iv 0, Iv 0, Iv 0, Iv 0, Iv 0, Iv 0, Iv 0, Iv 0, .slice none 0 0], obj a.1 180 [.slice a.2.1 d.1.length a.2.2, Iv h.2.1, Iv h.2.2], Row 5 1 a.2.1 d.1.length a.2.2 (ax d.1), obj n 102 [Iv 0, Iv 0, Iv 0, Iv 0, Iv 0, Iv 0, Iv 0, Iv 0, Iv 0, Iv 0, .slice none 0 0], F]) (Ent.refl _) (nx (vq (ar O O underlying102 O O sizeOf3 O) O (vq (ag O O isAgg3 (.obj 0 O O)) O (vq (iI O O O) O (va O O (ae (aa ?_)))))))
 refine bK (S := Int × Int × Int) (Unit) (fun s y => [(2, Pt n), (4, Pt a.1), (5, Pt g), (6, .bool (decide (h.1 ≤ (3 : Int))))]) (fun s y => [obj a.1 180 [.slice a.2.1 d.1.length a.2.2, Iv s.1, Iv s.2.1], obj g 102 [Iv h.1, Iv s.2.2, Iv 0, Iv 0, Iv 0, Iv 0, Iv 0, Iv 0, Iv 0, Iv 0, .slice none 0 0], obj n 102 [Iv 0, Iv 0, Iv 0, Iv 0, Iv 0, Iv 0, Iv 0, Iv 0, Iv 0, Iv 0, .slice none 0 0], Row 5 1 a.2.1 d.1.length a.2.2 (ax d.1), F]) ?_ ?_
 refine sr (vq (ar O O underlying102 O O sizeOf3 O) O (vq (ag O O isAgg3 (.obj 0 O O)) O (vq (bS O O O) O (ae (aa ?_)))))
 refine bk O (fun gy => ?_) (fun g0 => ?_)
 refine aK (vm O O (av (fun an a9 => (bj 2 O (fun bc bd be e4 => (ah (au (vs := [Pt a.1]) (cap := []) (A := [obj a.1 180 [.slice a.2.1 d.1.length a.2.2, Iv h.2.1, Iv h.2.2]]) (rst := [obj g 102 [Iv h.1, Iv 0, Iv 0, Iv 0, Iv 0, Iv 0, Iv 0, Iv 0, Iv 0, Iv 0, .slice none 0 0], Row 5 1 a.2.1 d.1.length a.2.2 (ax d.1), obj n 102 [Iv 0, Iv 0, Iv 0, Iv 0, Iv 0, Iv 0, Iv 0, Iv 0, Iv 0, Iv 0, .slice none 0 0], F]) O O O O O O call101 (.sel 1 O (.s O (.s O (.s O (.s O .n))))) (bN.calls _ _ k a.1 a.2.1 a.2.2 d.1 h.2.1 h.2.2 (bc.lend 1 O) bd be) a9) O O O ?_))))))
 intro g1
 refine vq (ar O O underlying102 O O sizeOf3 O) O (bf (aL 1 O O O sizeOf3 O O (aS (by rfl)) O O) O O ?_)
 intro _
 refine cr (H' := [obj a.1 180 [.slice a.2.1 d.1.length a.2.2, Iv an.2.1, Iv an.2.2], obj g 102 [Iv h.1, Iv an.1, Iv 0, Iv 0, Iv 0, Iv 0, Iv 0, Iv 0, Iv 0, Iv 0, .slice none 0 0], Row 5 1 a.2.1 d.1.length a.2.2 (ax d.1), obj n 102 [Iv 0, Iv 0, Iv 0, Iv 0, Iv 0, Iv 0, Iv 0, Iv 0, Iv 0, Iv 0, .slice none 0 0], F]) (Ent.refl _) (ae ?_)
 exact aG (s := (an.2.1, an.2.2, an.1)) () ⟨O, O, O, O, trivial⟩ (.s O (.s O (.sel 1 O (.s O (.s O .n)))))
 refine aB ?_
 exact aG (s := (h.2.1, h.2.2, 0)) () ⟨O, O, O, O, trivial⟩ (.sel 1 O (.s O (.sel 1 O (.s O (.s O .n)))))
 intro l g2
 refine bK (S := Bool × Int × Int × Int × Int × Int) (Unit) (fun s y => [(2, Pt n), (4, Pt a.1), (5, Pt g), (6, .bool s.1)]) (fun s y => [obj a.1 180 [.slice a.2.1 d.1.length a.2.2, Iv s.2.1, Iv s.2.2.1], obj g 102 [Iv h.1, Iv l.2.2, Iv s.2.2.2.1, Iv s.q4.1, Iv s.q4.2, Iv 0, Iv 0, Iv 0, Iv 0, Iv 0, .slice none 0 0], obj n 102 [Iv 0, Iv 0, Iv 0, Iv 0, Iv 0, Iv 0, Iv 0, Iv 0, Iv 0, Iv 0, .slice none 0 0], Row 5 1 a.2.1 d.1.length a.2.2 (ax d.1), F]) ?_ ?_
 refine sr (vq (ar O O underlying102 O O sizeOf3 O) O (vq (ag O O isAgg3 (.obj 1 O O)) O (vq (bS O O O) O (vm O O (aw (b := decide (h.1 = (0 : Int))) (fun e5 => RQ.sub (E' := [(5, Pt g)]) ⟨O, trivial⟩ (ar O O underlying102 O O sizeOf3 O)) O O O O O (aw (b := decide (h.1 = (0 : Int))) (fun br => RQ.sub (E' := [(27, Pt g)]) ⟨aH O br, trivial⟩ (ag O O isAgg3 (.obj 1 O O))) O O O O O (aw (b := decide (h.1 = (0 : Int))) (fun bs => RQ.sub (E' := [(28, Iv h.1)]) ⟨aH O bs, trivial⟩ (bS O O O)) O O O O O (vq (fb O O O) O (ae (aa ?_))))))))))
 refine aX O (fun g3 => ?_) (fun g4 => ?_)
 refine sr (vm O O (av (fun ab bt => (bj 3 O (fun b0 b1 b2 e6 => (ah (au (vs := [Pt a.1]) (cap := []) (A := [obj a.1 180 [.slice a.2.1 d.1.length a.2.2, Iv l.1, Iv l.2.1]]) (rst := [obj g 102 [Iv h.1, Iv l.2.2, Iv 0, Iv 0, Iv 0, Iv 0, Iv 0, Iv 0, Iv 0, Iv 0, .slice none 0 0], obj n 102 [Iv 0, Iv 0, Iv 0, Iv 0, Iv 0, Iv 0, Iv 0, Iv 0, Iv 0, Iv 0, .slice none 0 0], Row 5 1 a.2.1 d.1.length a.2.2 (ax d.1), F]) O O O O O O call101 (.s O (.s O (.s O (.s O (.s O .n))))) (bN.calls _ _ k a.1 a.2.1 a.2.2 d.1 l.1 l.2.1 (b0.lend 2 O) b1 b2) bt) O O O ?_))))))
 intro g5
 refine vm O O (av (fun ad b3 => (bj 3 O (fun b4 b5 b6 e7 => (ah (au (vs := [Pt a.1]) (cap := []) (A := [obj a.1 180 [.slice a.2.1 d.1.length a.2.2, Iv ab.2.1, Iv ab.2.2]]) (rst := [obj g 102 [Iv h.1, Iv l.2.2, Iv 0, Iv 0, Iv 0, Iv 0, Iv 0, Iv 0, Iv 0, Iv 0, .slice none 0 0], obj n 102 [Iv 0, Iv 0, Iv 0, Iv 0, Iv 0, Iv 0, Iv 0, Iv 0, Iv 0, Iv 0, .slice none 0 0], Row 5 1 a.2.1 d.1.length a.2.2 (ax d.1), F]) O O O O O O call101 (.s O (.s O (.s O (.s O (.s O .n))))) (bN.calls _ _ k a.1 a.2.1 a.2.2 d.1 ab.2.1 ab.2.2 (b4.lend 2 O) b5 b6) b3) O O O ?_)))))
 intro g6
 refine vm O O (av (fun u b7 => (bj 3 O (fun b8 b9 cd e8 => (ah (au (vs := [Pt a.1]) (cap := []) (A := [obj a.1 180 [.slice a.2.1 d.1.length a.2.2, Iv ad.2.1, Iv ad.2.2]]) (rst := [obj g 102 [Iv h.1, Iv l.2.2, Iv 0, Iv 0, Iv 0, Iv 0, Iv 0, Iv 0, Iv 0, Iv 0, .slice none 0 0], obj n 102 [Iv 0, Iv 0, Iv 0, Iv 0, Iv 0, Iv 0, Iv 0, Iv 0, Iv 0, Iv 0, .slice none 0 0], Row 5 1 a.2.1 d.1.length a.2.2 (ax d.1), F]) O O O O O O call101 (.s O (.s O (.s O (.s O (.s O .n))))) (bN.calls _ _ k a.1 a.2.1 a.2.2 d.1 ad.2.1 ad.2.2 (b8.lend 2 O) b9 cd) b7) O O O ?_)))))
 intro g7
 refine vq (dm (v := .agg #[Iv ab.1, Iv ad.1, Iv u.1]) O O (fun _ => by kernel_rfl)) O (vq (ar O O underlying102 O O sizeOf43 O) O (bf (aL 1 O O O sizeOf43 O O (aS (by rfl)) O O) O O ?_))
 intro _
 refine cr (H' := [obj a.1 180 [.slice a.2.1 d.1.length a.2.2, Iv u.2.1, Iv u.2.2], obj g 102 [Iv h.1, Iv l.2.2, Iv ab.1, Iv ad.1, Iv u.1, Iv 0, Iv 0, Iv 0, Iv 0, Iv 0, .slice none 0 0], obj n 102 [Iv 0, Iv 0, Iv 0, Iv 0, Iv 0, Iv 0, Iv 0, Iv 0, Iv 0, Iv 0, .slice none 0 0], Row 5 1 a.2.1 d.1.length a.2.2 (ax d.1), F]) (Ent.refl _) (ny (vq (dm (v := .agg #[]) O O (fun _ => by kernel_rfl)) O (vq (ar O O underlying102 O O sizeOf43 O) O (vq (dk (vs := [Iv ab.1, Iv ad.1, Iv u.1]) O O isAgg43 sizeOf43 O (ew 1 O (dA O))) O (av (fun ei ch => (ah (au (vs := [.agg #[], .agg #[Iv ab.1, Iv ad.1, Iv u.1]]) (cap := []) (A := []) (rst := [obj a.1 180 [.slice a.2.1 d.1.length a.2.2, Iv u.2.1, Iv u.2.2], obj g 102 [Iv h.1, Iv l.2.2, Iv ab.1, Iv ad.1, Iv u.1, Iv 0, Iv 0, Iv 0, Iv 0, Iv 0, .slice none 0 0], obj n 102 [Iv 0, Iv 0, Iv 0, Iv 0, Iv 0, Iv 0, Iv 0, Iv 0, Iv 0, Iv 0, .slice none 0 0], Row 5 1 a.2.1 d.1.length a.2.2 (ax d.1), F]) O O O O O O call78 (.s O (.s O (.s O (.s O (.s O .n))))) (cZ.calls _ _ ab.1 ad.1 u.1 ) ch) O O O ?_)))))))
 intro g8
 refine vq (bS O O O) O (va O O (ae ?_))
 exact aG (s := (decide (ei = (0 : Int)), u.2.1, u.2.2, ab.1, ad.1, u.1)) () ⟨O, O, O, O, trivial⟩ (.s O (.s O (.s O (.s O (.s O .n)))))
 refine aB ?_
 exact aG (s := (decide (h.1 ≤ (3 : Int)), l.1, l.2.1, 0, 0, 0)) () ⟨O, O, O, O, trivial⟩ (.s O (.s O (.s O (.s O (.s O .n)))))
 intro e g9
 refine bK (S := Bool × Int × Int × Int × Int) (Unit) (fun s y => [(2, Pt n), (4, Pt a.1), (5, Pt g), (6, .bool s.1)]) (fun s y => [obj a.1 180 [.slice a.2.1 d.1.length a.2.2, Iv s.2.1, Iv s.2.2.1], obj g 102 [Iv h.1, Iv l.2.2, Iv e.2.2.2.1, Iv e.q4.1, Iv e.q4.2, Iv s.2.2.2.1, Iv s.q4, Iv 0, Iv 0, Iv 0, .slice none 0 0], obj n 102 [Iv 0, Iv 0, Iv 0, Iv 0, Iv 0, Iv 0, Iv 0, Iv 0, Iv 0, Iv 0, .slice none 0 0], Row 5 1 a.2.1 d.1.length a.2.2 (ax d.1), F]) ?_ ?_
 refine sr (vq (ar O O underlying102 O O sizeOf3 O) O (vq (ag O O isAgg3 (.obj 1 O O)) O (vq (bS O O O) O (vm O O (aw (b := decide (h.1 = (0 : Int))) (fun e9 => RQ.sub (E' := [(5, Pt g)]) ⟨O, trivial⟩ (ar O O underlying102 O O sizeOf3 O)) O O O O O (aw (b := decide (h.1 = (0 : Int))) (fun cs => RQ.sub (E' := [(48, Pt g)]) ⟨aH O cs, trivial⟩ (ag O O isAgg3 (.obj 1 O O))) O O O O O (aw (b := decide (h.1 = (0 : Int))) (fun c1 => RQ.sub (E' := [(49, Iv h.1)]) ⟨aH O c1, trivial⟩ (bS O O O)) O O O O O (vq (fb O O O) O (ae (aa ?_))))))))))
 refine aX O (fun ha => ?_) (fun hb => ?_)
 refine sr (vm O O (av (fun w c2 => (bj 3 O (fun c3 c4 c5 fn => (ah (au (vs := [Pt a.1]) (cap := []) (A := [obj a.1 180 [.slice a.2.1 d.1.length a.2.2, Iv e.2.1, Iv e.2.2.1]]) (rst := [obj g 102 [Iv h.1, Iv l.2.2, Iv e.2.2.2.1, Iv e.q4.1, Iv e.q4.2, Iv 0, Iv 0, Iv 0, Iv 0, Iv 0, .slice none 0 0], obj n 102 [Iv 0, Iv 0, Iv 0, Iv 0, Iv 0, Iv 0, Iv 0, Iv 0, Iv 0, Iv 0, .slice none 0 0], Row 5 1 a.2.1 d.1.length a.2.2 (ax d.1), F]) O O O O O O call101 (.s O (.s O (.s O (.s O (.s O .n))))) (bN.calls _ _ k a.1 a.2.1 a.2.2 d.1 e.2.1 e.2.2.1 (c3.lend 2 O) c4 c5) c2) O O O ?_))))))
 intro hc
 refine vm O O (av (fun t c6 => (bj 3 O (fun c7 c8 c9 fp => (ah (au (vs := [Pt a.1]) (cap := []) (A := [obj a.1 180 [.slice a.2.1 d.1.length a.2.2, Iv w.2.1, Iv w.2.2]]) (rst := [obj g 102 [Iv h.1, Iv l.2.2, Iv e.2.2.2.1, Iv e.q4.1, Iv e.q4.2, Iv 0, Iv 0, Iv 0, Iv 0, Iv 0, .slice none 0 0], obj n 102 [Iv 0, Iv 0, Iv 0, Iv 0, Iv 0, Iv 0, Iv 0, Iv 0, Iv 0, Iv 0, .slice none 0 0], Row 5 1 a.2.1 d.1.length a.2.2 (ax d.1), F]) O O O O O O call101 (.s O (.s O (.s O (.s O (.s O .n))))) (bN.calls _ _ k a.1 a.2.1 a.2.2 d.1 w.2.1 w.2.2 (c7.lend 2 O) c8 c9) c6) O O O ?_)))))
 intro he
 refine vq (ar O O underlying102 O O sizeOf3 O) O (bf (aL 1 O O O sizeOf3 O O (aS (by rfl)) O O) O O ?_)
 intro _
 refine cr (H' := [obj a.1 180 [.slice a.2.1 d.1.length a.2.2, Iv t.2.1, Iv t.2.2], obj g 102 [Iv h.1, Iv l.2.2, Iv e.2.2.2.1, Iv e.q4.1, Iv e.q4.2, Iv w.1, Iv 0, Iv 0, Iv 0, Iv 0, .slice none 0 0], obj n 102 [Iv 0, Iv 0, Iv 0, Iv 0, Iv 0, Iv 0, Iv 0, Iv 0, Iv 0, Iv 0, .slice none 0 0], Row 5 1 a.2.1 d.1.length a.2.2 (ax d.1), F]) (Ent.refl _) (vq (ar O O underlying102 O O sizeOf3 O) O (bf (aL 1 O O O sizeOf3 O O (aS (by rfl)) O O) O O ?_))
 intro _
 refine cr (H' := [obj a.1 180 [.slice a.2.1 d.1.length a.2.2, Iv t.2.1, Iv t.2.2], obj g 102 [Iv h.1, Iv l.2.2, Iv e.2.2.2.1, Iv e.q4.1, Iv e.q4.2, Iv w.1, Iv t.1, Iv 0, Iv 0, Iv 0, .slice none 0 0], obj n 102 [Iv 0, Iv 0, Iv 0, Iv 0, Iv 0, Iv 0, Iv 0, Iv 0, Iv 0, Iv 0, .slice none 0 0], Row 5 1 a.2.1 d.1.length a.2.2 (ax d.1), F]) (Ent.refl _) (ny (vm O O (vm O O ?_)))
 refine da 14 (S := Bool) (Unit) (fun s y => [(2, Pt n), (4, Pt a.1), (5, Pt g), (73, .bool s)]) (fun s y => [obj a.1 180 [.slice a.2.1 d.1.length a.2.2, Iv t.2.1, Iv t.2.2], obj g 102 [Iv h.1, Iv l.2.2, Iv e.2.2.2.1, Iv e.q4.1, Iv e.q4.2, Iv w.1, Iv t.1, Iv 0, Iv 0, Iv 0, .slice none 0 0], obj n 102 [Iv 0, Iv 0, Iv 0, Iv 0, Iv 0, Iv 0, Iv 0, Iv 0, Iv 0, Iv 0, .slice none 0 0], Row 5 1 a.2.1 d.1.length a.2.2 (ax d.1), F]) ?_ ?_
 refine ee (fun dl => ?_) (fun ds => ?_)
 rw [dl]
 refine aJ (ar O O underlying102 O O sizeOf3 O) O O O O O O (aJ (ag O O isAgg3 (.obj 1 O O)) O O O O O O (aJ (bS O O O) O O O O O O (aJ (aY O O) O O O O O O ?_)))
 refine da 9 (S := Bool) (Unit) (fun s y => [(2, Pt n), (4, Pt a.1), (5, Pt g), (59, .bool true), (72, .bool s)]) (fun s y => [obj a.1 180 [.slice a.2.1 d.1.length a.2.2, Iv t.2.1, Iv t.2.2], obj g 102 [Iv h.1, Iv l.2.2, Iv e.2.2.2.1, Iv e.q4.1, Iv e.q4.2, Iv w.1, Iv t.1, Iv 0, Iv 0, Iv 0, .slice none 0 0], obj n 102 [Iv 0, Iv 0, Iv 0, Iv 0, Iv 0, Iv 0, Iv 0, Iv 0, Iv 0, Iv 0, .slice none 0 0], Row 5 1 a.2.1 d.1.length a.2.2 (ax d.1), F]) ?_ ?_
 refine iJ (fun d1 => ?_) (fun d2 => ?_)
 rw [d1]
 refine aC O O O O O O (aC O O O O O O (aC O O O O O O (aC O O O O O O (ce O O O O O (ce O O O O O (ce O O O O O (aC O O O O O O (aJ (bP O O O O O) O O O O O O (ae ?_)))))))))
 exact aG (s := true) () ⟨O, O, O, O, O, trivial⟩ (.s O (.s O (.s O (.s O (.s O .n)))))
 rw [d2]
 refine aJ (ar O O underlying102 O O sizeOf3 O) O O O O O O (aJ (ag O O isAgg3 (.obj 1 O O)) O O O O O O (aJ (cC O O O) O O O O O O (aJ (aY O O) O O O O O O (aw (b := decide ((0 : Int) < w.1)) (fun fr => RQ.sub (E' := [(5, Pt g)]) ⟨O, trivial⟩ (ar O O underlying102 O O sizeOf3 O)) O O O O O (aw (b := decide ((0 : Int) < w.1)) (fun d3 => RQ.sub (E' := [(68, .pointer (some ⟨g, 6, none⟩))]) ⟨aH O d3, trivial⟩ (ag O O isAgg3 (.obj 1 O O))) O O O O O (aw (b := decide ((0 : Int) < w.1)) (fun d4 => RQ.sub (E' := [(69, Iv t.1)]) ⟨aH O d4, trivial⟩ (cC O O O)) O O O O O (aJ (dF O O O) O O O O O O (aJ (bP O O O O O) O O O O O O (ae ?_)))))))))
 exact aG (s := (decide ((0 : Int) < w.1)) && (decide ((0 : Int) < t.1))) () ⟨O, O, O, O, O, trivial⟩ (.s O (.s O (.s O (.s O (.s O .n)))))
 intro ek hf
 refine vq (bP O O O O O) O (ae ?_)
 exact aG (s := ek) () ⟨O, O, O, O, trivial⟩ (.s O (.s O (.s O (.s O (.s O .n)))))
 rw [ds]
 refine aC O O O O O O (aC O O O O O O (aC O O O O O O (aC O O O O O O (ce O O O O O (ce O O O O O (ce O O O O O (ce O O O O O (ce O O O O O (ce O O O O O (ce O O O O O (ce O O O O O (aC O O O O O O (vq (bP O O O O O) O (ae ?_))))))))))))))
 exact aG (s := false) () ⟨O, O, O, O, trivial⟩ (.s O (.s O (.s O (.s O (.s O .n)))))
 intro el hg
 refine va O O (ae ?_)
 exact aG (s := (el, t.2.1, t.2.2, w.1, t.1)) () ⟨O, O, O, O, trivial⟩ (.s O (.s O (.s O (.s O (.s O .n)))))
 refine aB ?_
 exact aG (s := (e.1, e.2.1, e.2.2.1, 0, 0)) () ⟨O, O, O, O, trivial⟩ (.s O (.s O (.s O (.s O (.s O .n)))))
 intro m hh
 refine bK (S := Bool × Int × Int × Int × Int × Int × Lb) (Option Addr × Nat) (fun s y => [(2, Pt n), (4, Pt a.1), (5, Pt g), (6, .bool s.1)]) (fun s y => [obj a.1 180 [.slice a.2.1 d.1.length a.2.2, Iv s.2.1, Iv s.2.2.1], obj g 102 [Iv h.1, Iv l.2.2, Iv e.2.2.2.1, Iv e.q4.1, Iv e.q4.2, Iv m.2.2.2.1, Iv m.q4, Iv s.2.2.2.1, Iv s.q4.1, Iv s.q4.2.1, .slice y.1 s.q4.2.2.length y.2], obj n 102 [Iv 0, Iv 0, Iv 0, Iv 0, Iv 0, Iv 0, Iv 0, Iv 0, Iv 0, Iv 0, .slice none 0 0], Row 5 1 a.2.1 d.1.length a.2.2 (ax d.1), Row 5 1 y.1 s.q4.2.2.length y.2 (ax s.q4.2.2), F]) ?_ ?_
 refine sr (vq (ar O O underlying102 O O sizeOf3 O) O (vq (ag O O isAgg3 (.obj 1 O O)) O (vq (bS O O O) O (ae (aa ?_)))))
 refine bk O (fun hi => ?_) (fun hj => ?_)
 refine sr (vq (dm (v := .agg #[]) O O (fun _ => by kernel_rfl)) O (vm O O (av (fun x d5 => (bj 3 O (fun d6 d7 d8 fs => (ah (au (vs := [Pt a.1, Iv 8192]) (cap := []) (A := [obj a.1 180 [.slice a.2.1 d.1.length a.2.2, Iv m.2.1, Iv m.2.2.1]]) (rst := [obj g 102 [Iv h.1, Iv l.2.2, Iv e.2.2.2.1, Iv e.q4.1, Iv e.q4.2, Iv m.2.2.2.1, Iv m.q4, Iv 0, Iv 0, Iv 0, .slice none 0 0], obj n 102 [Iv 0, Iv 0, Iv 0, Iv 0, Iv 0, Iv 0, Iv 0, Iv 0, Iv 0, Iv 0, .slice none 0 0], Row 5 1 a.2.1 d.1.length a.2.2 (ax d.1), F]) O O O O O O call103 (.s O (.s O (.s O (.s O (.s O .n))))) (eu.calls _ _ k a.1 a.2.1 a.2.2 d.1 m.2.1 m.2.2.1 (8192 : Int) (d6.lend 2 O) d7 d8) d5) O O O ?_)))))))
 intro al
 refine av (fun q az => (bj 0 O (fun d9 ea a1 er => (ah (au (vs := [.agg #[], .slice al.1 x.1.length al.2]) (cap := []) (A := []) (rst := [Row 5 1 al.1 x.1.length al.2 (ax x.1), obj a.1 180 [.slice a.2.1 d.1.length a.2.2, Iv x.2.1, Iv x.2.2], obj g 102 [Iv h.1, Iv l.2.2, Iv e.2.2.2.1, Iv e.q4.1, Iv e.q4.2, Iv m.2.2.2.1, Iv m.q4, Iv 0, Iv 0, Iv 0, .slice none 0 0], obj n 102 [Iv 0, Iv 0, Iv 0, Iv 0, Iv 0, Iv 0, Iv 0, Iv 0, Iv 0, Iv 0, .slice none 0 0], Row 5 1 a.2.1 d.1.length a.2.2 (ax d.1), F]) O O O O O O call102 (.s O (.s O (.s O (.s O (.s O (.s O .n)))))) (fy.calls _ _ k al.1 al.2 x.1 (d9.lend 0 O) ea a1) az) O O O ?_))))
 intro af
 refine vm O O (vq (bF O O O) O (vq (bF O O O) O (ah (cn O zeroValue35 O) O O O ?_)))
 intro eb
 refine bf (aL 0 O O O sizeOf35 O O (aS (by rfl)) O O) O O ?_
 intro _
 refine va O O (ny (vq (ct 0 O O isAgg35 sizeOf35 O O) O (vm O O (vq (bS O O O) O (vq (ar O O underlying102 O O sizeOf35 O) O (bf (aL 4 O O O sizeOf35 O O (aS (by rfl)) O O) O O ?_))))))
 intro _
 refine cr (H' := [obj eb 35 [Iv q.1, Iv q.2.1, Iv q.2.2.1, .slice af.1 q.2.2.2.1.length af.2], Row 5 1 af.1 q.2.2.2.1.length af.2 (ax q.2.2.2.1), Row 5 1 al.1 x.1.length al.2 (ax x.1), obj a.1 180 [.slice a.2.1 d.1.length a.2.2, Iv x.2.1, Iv x.2.2], obj g 102 [Iv h.1, Iv l.2.2, Iv e.2.2.2.1, Iv e.q4.1, Iv e.q4.2, Iv m.2.2.2.1, Iv m.q4, Iv q.1, Iv q.2.1, Iv q.2.2.1, .slice af.1 q.2.2.2.1.length af.2], obj n 102 [Iv 0, Iv 0, Iv 0, Iv 0, Iv 0, Iv 0, Iv 0, Iv 0, Iv 0, Iv 0, .slice none 0 0], Row 5 1 a.2.1 d.1.length a.2.2 (ax d.1), F]) (Ent.refl _) (va O O (ae ?_))
 exact aG (s := (decide (q.q4 = (0 : Int)), x.2.1, x.2.2, q.1, q.2.1, q.2.2.1, q.2.2.2.1)) (af.1, af.2) ⟨O, O, O, O, trivial⟩ (.sel 3 O (.sel 3 O (.sel 3 O (.sel 3 O (.sel 1 O (.sel 2 O .n))))))
 refine aB ?_
 exact aG (s := (m.1, m.2.1, m.2.2.1, 0, 0, 0, ([] : Lb))) (none, 0) ⟨O, O, O, O, trivial⟩ (.s O (.s O (.s O (.s O (.row_nil (.s O .n))))))
 intro c p
 refine ay (ir 3 O (fun es et e0 e1 => (ir 3 O (fun a2 a3 a4 e2 => ?_))))
 refine bh (Γ := Unit) () [[], [], [1], [1, 2], [1, 2, 3], [1, 2, 3, 4], [1, 2, 3, 4, 5], rL 5, rL 8] [7] [0, 1, 2, 3, 4, 5, 6, 8] (fun i => [[0], [0], [0], [0], [0], [0, 1], [0, 1], [], [1]].getD i []) (fun i => [[], [], [], [], [], [], [], rL 7, []].getD i []) (fun γ i => [.agg #[Iv h.1, Iv l.2.2, Iv e.2.2.2.1, Iv e.q4.1, Iv e.q4.2, Iv m.2.2.2.1, Iv m.q4, Iv c.2.2.2.1, Iv c.q4.1, Iv c.q4.2.1, .slice p.1 c.q4.2.2.length p.2], .bool c.1, .bool c.1, cv (c.1 == true) (Pt a.1), cv (c.1 == true) (Iv (bp.v d.1 c.2.1 c.2.2.1)), cv (c.1 == true) (.bool (decide ((bp.v d.1 c.2.1 c.2.2.1) = (0 : Int)))), .bool (c.1 && (decide ((bp.v d.1 c.2.1 c.2.2.1) = (0 : Int)))), undef, .bool (c.1 && (decide ((bp.v d.1 c.2.1 c.2.2.1) = (0 : Int))))].getD i undef) (fun j γ => [[obj a.1 180 [.slice a.2.1 d.1.length a.2.2, Iv c.2.1, Iv c.2.2.1], obj g 102 [Iv h.1, Iv l.2.2, Iv e.2.2.2.1, Iv e.q4.1, Iv e.q4.2, Iv m.2.2.2.1, Iv m.q4, Iv c.2.2.2.1, Iv c.q4.1, Iv c.q4.2.1, .slice p.1 c.q4.2.2.length p.2], obj n 102 [Iv 0, Iv 0, Iv 0, Iv 0, Iv 0, Iv 0, Iv 0, Iv 0, Iv 0, Iv 0, .slice none 0 0], Row 5 1 a.2.1 d.1.length a.2.2 (ax d.1), Row 5 1 p.1 c.q4.2.2.length p.2 (ax c.q4.2.2), F], [obj a.1 180 [.slice a.2.1 d.1.length a.2.2, Iv c.2.1, Iv c.2.2.1], obj g 102 [Iv h.1, Iv l.2.2, Iv e.2.2.2.1, Iv e.q4.1, Iv e.q4.2, Iv m.2.2.2.1, Iv m.q4, Iv c.2.2.2.1, Iv c.q4.1, Iv c.q4.2.1, .slice p.1 c.q4.2.2.length p.2], obj n 102 [Iv h.1, Iv l.2.2, Iv e.2.2.2.1, Iv e.q4.1, Iv e.q4.2, Iv m.2.2.2.1, Iv m.q4, Iv c.2.2.2.1, Iv c.q4.1, Iv c.q4.2.1, .slice p.1 c.q4.2.2.length p.2], Row 5 1 a.2.1 d.1.length a.2.2 (ax d.1), Row 5 1 p.1 c.q4.2.2.length p.2 (ax c.q4.2.2), F]].getD j []) (fun γ => [(2, Pt n), (3, .bool (c.1 && (decide ((bp.v d.1 c.2.1 c.2.2.1) = (0 : Int)))))]) mixed (by decide) (by decide) (by decide) (by decide) (by decide) (by decide) (by decide) 95 O (by decide) (by decide) (by decide) (Ent.refl _) ?_ ?_ (fun _ => ⟨O, O, trivial⟩) ?_
 exact (aq O (fun γ => qp O O (.o (s := 5) O (by decide) .nil) (ct 1 O O isAgg102 sizeOf102 O O) O) (aq O (fun γ => qm O (.o (s := 6) O (by decide) .nil) O) (aq O (fun γ => qm O (.v 1 O O .nil) O) (aq O (fun γ => QOb.grd (b := c.1) [(4, Pt a.1), (90, .bool c.1)] O O O O (.o (s := 4) O (by decide) (.v 2 O O .nil)) (fun e3 => RQ.sub (E' := [(4, Pt a.1)]) ⟨O, trivial⟩ (aY O O)) O) (aq O (fun γ => QOb.grd (b := c.1) [(90, .bool c.1), (91, cv (c.1 == true) (Pt a.1))] O O O O (.v 2 O O (.v 3 O O .nil)) (fun a5 => RQ.sub (E' := [(91, Pt a.1)]) ⟨aH O a5, trivial⟩ (RE.rq (au (vs := [Pt a.1]) (cap := []) (A := [obj a.1 180 [.slice a.2.1 d.1.length a.2.2, Iv c.2.1, Iv c.2.2.1]]) (rst := [obj g 102 [Iv h.1, Iv l.2.2, Iv e.2.2.2.1, Iv e.q4.1, Iv e.q4.2, Iv m.2.2.2.1, Iv m.q4, Iv c.2.2.2.1, Iv c.q4.1, Iv c.q4.2.1, .slice p.1 c.q4.2.2.length p.2], obj n 102 [Iv 0, Iv 0, Iv 0, Iv 0, Iv 0, Iv 0, Iv 0, Iv 0, Iv 0, Iv 0, .slice none 0 0], Row 5 1 a.2.1 d.1.length a.2.2 (ax d.1), Row 5 1 p.1 c.q4.2.2.length p.2 (ax c.q4.2.2), F]) O O O O O O call104 (.s O (.s O (.s O (.s O (.s O (.s O .n)))))) (bp.calls _ _ a.1 a.2.1 a.2.2 d.1 c.2.1 c.2.2.1 (a2.lend 2 O) a3 a4) (bp.tot d.1 c.2.1 c.2.2.1)) (fun _ => O) (fun _ => (.s O (.s O (.s O (.s O (.s O (.s O .n))))))))) O) (ac (fun γ => (ac (QOb.grd (b := c.1) [(90, .bool c.1), (92, cv (c.1 == true) (Iv (bp.v d.1 c.2.1 c.2.2.1)))] O O O O (.v 2 O O (.v 4 O O .nil)) (fun a6 => RQ.sub (E' := [(92, Iv (bp.v d.1 c.2.1 c.2.2.1))]) ⟨aH O a6, trivial⟩ (bS O O O)) O) (ac (QOb.grd (b := c.1) [(90, .bool c.1), (92, cv (c.1 == true) (Iv (bp.v d.1 c.2.1 c.2.2.1)))] O O O O (.v 2 O O (.v 4 O O .nil)) (fun a7 => RQ.sub (E' := [(92, Iv (bp.v d.1 c.2.1 c.2.2.1))]) ⟨aH O a7, trivial⟩ (bS O O O)) O) zA))) (ac (fun γ => (ac (qp O O (.v 2 O O (.v 5 O O .nil)) (dF O O O) O) (ac (qp O O (.v 2 O O (.v 5 O O .nil)) (dF O O O) O) zA))) (aq O (fun γ => qp O O (.v 6 O O .nil) (cz O O) O) zA))))))))
 exact (ac (fun γ => eo (Z := Unit) (fun z => ()) O O (.o (s := 2) O (by decide) (.v 0 O O .nil)) (aL 2 O O O sizeOf102 O O (aS (by rfl)) O O) (fun _ => ⟨O, O, O, O, O, O, O, trivial⟩) (fun _ => .inl O) (fun z => Ent.refl _)) zA)
 intro fz
 refine aa (aA ?_)
 exact jQ (vs := [.agg #[Iv h.1, Iv l.2.2, Iv e.2.2.2.1, Iv e.q4.1, Iv e.q4.2, Iv m.2.2.2.1, Iv m.q4, Iv c.2.2.2.1, Iv c.q4.1, Iv c.q4.2.1, .slice p.1 c.q4.2.2.length p.2], .bool (c.1 && (decide ((bp.v d.1 c.2.1 c.2.2.1) = (0 : Int))))]) (p.1, p.2) O ⟨⟨n, O, jb 2 isAgg102 sizeOf102 O O⟩, O, trivial⟩ O (.sel 4 O (.sel 4 O .n))

def gH.f (h : Int) (i : Int) (j : Int) (a : Int) (b : Int) (k : List (aF)) (l : Int) (m : Int) (c : Int) (d : Int) (e : Int) (n : Int) (o : Int) (p : Int) (q : Int) (r : Int) (g : List UInt8) (x2 : Int) : Option (Bool × Int × Int × Int × Int × Int) := some (true, c, d, e, a, b)
theorem gH.calls (W : World) (F : HA) (b0 : Nat) (u : Int) (v : Int) (w : Int) (k : Int) (l : Int) (i : Option Addr) (d : Nat) (b : List (aF)) (m : Int) (n : Int) (e : Int) (g : Int) (h : Int) (o : Int) (p : Int) (q : Int) (s : Int) (t : Int) (j : Option Addr) (c : Nat) (a : Lb) (x2 : Int) (an : RdV F 5 (aM F) i b) (ad : b.length ≤ d) (af : d ≤ maxLen) (al : Rd F j (ax a)) (x : a.length ≤ c) (z : c ≤ maxLen) :
    Fn Tryz.prog W 112 [Pt b0, .agg #[Iv m, Iv n, Iv e, Iv g, Iv h, Iv o, Iv p, Iv q, Iv s, Iv t, .slice j a.length c], Iv x2] [obj b0 89 [Iv u, Iv v, Iv w, Iv k, Iv l, .slice i b.length d]] F (gH.f u v w k l b m n e g h o p q s t a x2) (fun (r : Bool × Int × Int × Int × Int × Int) (y : Unit) => .bool r.1) (fun r y => [obj b0 89 [Iv r.2.1, Iv r.2.2.1, Iv r.2.2.2.1, Iv r.q4.1, Iv r.q4.2, .slice i b.length d]]) := by
 unfold gH.f
 refine aO 12 Tryz.func112 O Tryz.ntmps112 O (sr (ah (cl O O O) O O O ?_))
 intro ab
 refine va O O (nx (vm O O (vq (ar O O underlying102 O O sizeOf43 O) O (vq (dk (vs := [Iv e, Iv g, Iv h]) O O isAgg43 sizeOf43 O (ew 0 O (dA O))) O (vn O O (vq (ar O O underlying89 O O sizeOf43 O) O (bf (aL 1 O O O sizeOf43 O O (aS (by rfl)) O O) O O ?_)))))))
 intro _
 refine cr (H' := [obj ab 102 [Iv m, Iv n, Iv e, Iv g, Iv h, Iv o, Iv p, Iv q, Iv s, Iv t, .slice j a.length c], obj b0 89 [Iv e, Iv g, Iv h, Iv k, Iv l, .slice i b.length d], F]) (Ent.refl _) (nx (va O O (ae (aa (aA ?_)))))
 exact aE () O O O (.sel 1 O (.sel 1 O .n))

def gI.f (g : Int) (h : Int) (i : Int) (c : Int) (j : Int) (d : List (aF)) (m : Int) (n : Int) (o : Int) (p : Int) (q : Int) (r : Int) (s : Int) (k : Int) (a : Int) (l : Int) (e : List UInt8) (x2 : Int) : Option (Bool × Int × Int × Int × Int × Int × (List (aF))) := if IntKind.i64.wrap ((IntKind.i64.wrap (c + (d.length : Int))) + 1) < a then (some (false, g, h, i, c, j, d)) else ((if a ≤ c then (some (IntKind.i64.wrap (a - 1), 0, ([] : List (aF)))) else (some (c, j, d))).bind fun b => (if 0 ≤ (0 : Int) ∧ (0 : Int) ≤ IntKind.i64.wrap ((IntKind.i64.wrap (a - b.1)) - 1) ∧ IntKind.i64.wrap ((IntKind.i64.wrap (a - b.1)) - 1) ≤ (b.2.2.length : Int) then (if ((cut b.2.2 (0 : Int) (IntKind.i64.wrap ((IntKind.i64.wrap (a - b.1)) - 1))).length + ([(k, a, l, e, x2)] : List (aF)).length) * 56 ≤ 140737488355328 then (some (true, g, h, i, b.1, b.2.1, (cut b.2.2 (0 : Int) (IntKind.i64.wrap ((IntKind.i64.wrap (a - b.1)) - 1))) ++ ([(k, a, l, e, x2)] : List (aF)))) else none) else none))
theorem gI.calls (W : World) (F : HA) (b0 : Nat) (t : Int) (u : Int) (w : Int) (x : Int) (a3 : Int) (p : Option Addr) (q : Nat) (n : List (aF)) (m : HA) (af : Int) (al : Int) (an : Int) (az : Int) (a0 : Int) (a1 : Int) (a2 : Int) (c : Int) (a : Int) (d : Int) (g : Option Addr) (e : Nat) (b : Lb) (x2 : Int) (b3 : Rd m g (ax b)) (be : b.length ≤ e) (br : e ≤ maxLen) :
    Fn Tryz.prog W 113 [Pt b0, .agg #[Iv af, Iv al, Iv an, Iv az, Iv a0, Iv a1, Iv a2, Iv c, Iv a, Iv d, .slice g b.length e], Iv x2] [obj b0 89 [Iv t, Iv u, Iv w, Iv x, Iv a3, .slice p n.length q], am 144 5 (aM m) p n q, m] F (gI.f t u w x a3 n af al an az a0 a1 a2 c a d b x2) (fun (r : Bool × Int × Int × Int × Int × Int × (List (aF))) (y : Option Addr × Nat × HA) => .bool r.1) (fun r y => [pr (Up m y.2.2), obj b0 89 [Iv r.2.1, Iv r.2.2.1, Iv r.2.2.2.1, Iv r.q4.1, Iv r.q4.2.1, .slice y.1 r.q4.2.2.length y.2.1], am 144 5 (aM (y.2.2)) y.1 r.q4.2.2 y.2.1, y.2.2]) := by
 unfold gI.f
 refine aO 64 Tryz.func113 O Tryz.ntmps113 O (sr (ah (cl O O O) O O O ?_))
 intro a8
 refine va O O (nx (vq (ar O O underlying102 O O sizeOf35 O) O (vq (dk (vs := [Iv c, Iv a, Iv d, .slice g b.length e]) O O isAgg35 sizeOf35 O (ew 0 O (dA O))) O (ah (cn O zeroValue35 O) O O O ?_))))
 intro ab
 refine bf (aL 0 O O O sizeOf35 O O (aS (by rfl)) O O) O O ?_
 intro _
 refine ae (aa (ay (ay (bm 3 O (fun a6 bs => ?_)))))
 refine bh (Γ := Unit) () [[], [0], [], [2], [2, 3], [2, 3, 4], [], [6], [6, 7], [6, 7, 8], [6, 7, 8, 9], [2, 3, 4, 5, 6, 7, 8, 9, 10], [2, 3, 4, 5, 6, 7, 8, 9, 10, 11], rL 13] [] [0, 1, 2, 3, 4, 5, 6, 7, 8, 9, 10, 11, 12, 13] (fun i => [[0], [0], [0], [0], [0], [0], [0], [0], [0], [0], [0], [0], [0], [0]].getD i []) (fun i => [[], [], [], [], [], [], [], [], [], [], [], [], [], []].getD i []) (fun γ i => [.pointer (some ⟨ab, 1, none⟩), Iv a, Pt b0, Pt b0, .pointer (some ⟨b0, 3, none⟩), Iv x, Pt b0, Pt b0, .pointer (some ⟨b0, 5, none⟩), .slice p n.length q, Iv (n.length : Int), Iv (IntKind.i64.wrap (x + (n.length : Int))), Iv (IntKind.i64.wrap ((IntKind.i64.wrap (x + (n.length : Int))) + 1)), .bool (decide (IntKind.i64.wrap ((IntKind.i64.wrap (x + (n.length : Int))) + 1) < a))].getD i undef) (fun j γ => [[obj ab 35 [Iv c, Iv a, Iv d, .slice g b.length e], obj a8 102 [Iv af, Iv al, Iv an, Iv az, Iv a0, Iv a1, Iv a2, Iv c, Iv a, Iv d, .slice g b.length e], obj b0 89 [Iv t, Iv u, Iv w, Iv x, Iv a3, .slice p n.length q], Row 144 5 p n.length q a6.flatten, m, F]].getD j []) (fun γ => [(0, Pt b0), (2, Iv x2), (7, Pt ab), (23, .bool (decide (IntKind.i64.wrap ((IntKind.i64.wrap (x + (n.length : Int))) + 1) < a)))]) mixed (by decide) (by decide) (by decide) (by decide) (by decide) (by decide) (by decide) 64 O (by decide) (by decide) (by decide) (Ent.refl _) ?_ ?_ (fun _ => ⟨O, O, O, O, trivial⟩) ?_
 exact (aq O (fun γ => qp O O (.o (s := 7) O (by decide) .nil) (ar O O underlying35 O O sizeOf3 O) O) (aq O (fun γ => qp O O (.v 0 O O .nil) (ag O O isAgg3 (.obj 0 O O)) O) (aq O (fun γ => qm O (.o (s := 0) O (by decide) .nil) O) (aq O (fun γ => qp O O (.v 2 O O .nil) (aW O O) O) (aq O (fun γ => qp O O (.v 3 O O .nil) (ar O O underlying89 O O sizeOf3 O) O) (aq O (fun γ => qp O O (.v 4 O O .nil) (ag O O isAgg3 (.obj 2 O O)) O) (aq O (fun γ => qm O (.o (s := 0) O (by decide) .nil) O) (aq O (fun γ => qp O O (.v 6 O O .nil) (aW O O) O) (aq O (fun γ => qp O O (.v 7 O O .nil) (ar O O underlying89 O O sizeOf87 O) O) (aq O (fun γ => qp O O (.v 8 O O .nil) (ag O O isAgg87 (.obj 2 O O)) O) (aq O (fun γ => qp O O (.v 9 O O .nil) (bC O O O underlying87) O) (aq O (fun γ => qp O O (.v 5 O O (.v 10 O O .nil)) (ca O O O) O) (aq O (fun γ => qp O O (.v 11 O O .nil) (ca O O O) O) (aq O (fun γ => qp O O (.v 1 O O (.v 12 O O .nil)) (cC O O O) O) zA))))))))))))))
 exact zA
 intro c1
 refine aa ?_
 refine bk O (fun c2 => ?_) (fun c3 => ?_)
 refine sr (va O O (ae (aa (aA (aN ?_)))))
 exact aE (p, q, m) O O O (.pr_in (Up.refl _) (.sel 2 O (.sel' 2 O (am.mk bs) (.sel 2 O (.sel 2 O .n)))))
 refine aB (aa ?_)
 refine bK (S := Int × Int × (List (aF))) (Option Addr × Nat) (fun s y => [(0, Pt b0), (2, Iv x2), (7, Pt ab)]) (fun s y => [obj ab 35 [Iv c, Iv a, Iv d, .slice g b.length e], obj b0 89 [Iv t, Iv u, Iv w, Iv s.1, Iv s.2.1, .slice y.1 s.2.2.length y.2], am 144 5 (aM (m)) y.1 s.2.2 y.2, m, F]) ?_ ?_
 refine ay ?_
 refine bh (Γ := Unit) () [[], [0], [], [2], [2, 3], [2, 3, 4], rL 6] [] [0, 1, 2, 3, 4, 5, 6] (fun i => [[0], [0], [0], [0], [0], [0], [0]].getD i []) (fun i => [[], [], [], [], [], [], []].getD i []) (fun γ i => [.pointer (some ⟨ab, 1, none⟩), Iv a, Pt b0, Pt b0, .pointer (some ⟨b0, 3, none⟩), Iv x, .bool (decide (a ≤ x))].getD i undef) (fun j γ => [[obj ab 35 [Iv c, Iv a, Iv d, .slice g b.length e], obj a8 102 [Iv af, Iv al, Iv an, Iv az, Iv a0, Iv a1, Iv a2, Iv c, Iv a, Iv d, .slice g b.length e], obj b0 89 [Iv t, Iv u, Iv w, Iv x, Iv a3, .slice p n.length q], Row 144 5 p n.length q a6.flatten, m, F]].getD j []) (fun γ => [(0, Pt b0), (2, Iv x2), (7, Pt ab), (30, .bool (decide (a ≤ x)))]) mixed (by decide) (by decide) (by decide) (by decide) (by decide) (by decide) (by decide) 64 O (by decide) (by decide) (by decide) (Ent.refl _) ?_ ?_ (fun _ => ⟨O, O, O, O, trivial⟩) ?_
 exact (aq O (fun γ => qp O O (.o (s := 7) O (by decide) .nil) (ar O O underlying35 O O sizeOf3 O) O) (aq O (fun γ => qp O O (.v 0 O O .nil) (ag O O isAgg3 (.obj 0 O O)) O) (aq O (fun γ => qm O (.o (s := 0) O (by decide) .nil) O) (aq O (fun γ => qp O O (.v 2 O O .nil) (aW O O) O) (aq O (fun γ => qp O O (.v 3 O O .nil) (ar O O underlying89 O O sizeOf3 O) O) (aq O (fun γ => qp O O (.v 4 O O .nil) (ag O O isAgg3 (.obj 2 O O)) O) (aq O (fun γ => qp O O (.v 1 O O (.v 5 O O .nil)) (iI O O O) O) zA)))))))
 exact zA
 intro ch
 refine aa ?_
 refine bk O (fun cs => ?_) (fun c0 => ?_)
 refine aK (vm O O (vm O O (vm O O (vq (ar O O underlying35 O O sizeOf3 O) O (vq (ag O O isAgg3 (.obj 0 O O)) O (vq (cW O O O) O (vn O O (vq (ar O O underlying89 O O sizeOf3 O) O (bf (aL 2 O O O sizeOf3 O O (aS (by rfl)) O O) O O ?_)))))))))
 intro _
 refine cr (H' := [obj ab 35 [Iv c, Iv a, Iv d, .slice g b.length e], obj a8 102 [Iv af, Iv al, Iv an, Iv az, Iv a0, Iv a1, Iv a2, Iv c, Iv a, Iv d, .slice g b.length e], obj b0 89 [Iv t, Iv u, Iv w, Iv (IntKind.i64.wrap (a - 1)), Iv a3, .slice p n.length q], Row 144 5 p n.length q a6.flatten, m, F]) (Ent.refl _) (vn O O (vq (ar O O underlying89 O O sizeOf3 O) O (bf (aL 2 O O O sizeOf3 O O (aS (by rfl)) O O) O O ?_)))
 intro _
 refine cr (H' := [obj ab 35 [Iv c, Iv a, Iv d, .slice g b.length e], obj a8 102 [Iv af, Iv al, Iv an, Iv az, Iv a0, Iv a1, Iv a2, Iv c, Iv a, Iv d, .slice g b.length e], obj b0 89 [Iv t, Iv u, Iv w, Iv (IntKind.i64.wrap (a - 1)), Iv 0, .slice p n.length q], Row 144 5 p n.length q a6.flatten, m, F]) (Ent.refl _) (vn O O (vq (ar O O underlying89 O O sizeOf87 O) O (bf (aL 2 O O O sizeOf87 O O (aS (by rfl)) O O) O O ?_)))
 intro _
 refine cr (H' := [obj ab 35 [Iv c, Iv a, Iv d, .slice g b.length e], obj a8 102 [Iv af, Iv al, Iv an, Iv az, Iv a0, Iv a1, Iv a2, Iv c, Iv a, Iv d, .slice g b.length e], obj b0 89 [Iv t, Iv u, Iv w, Iv (IntKind.i64.wrap (a - 1)), Iv 0, .slice none 0 0], Row 144 5 p n.length q a6.flatten, m, F]) (Ent.refl _) (ae ?_)
 exact aG (s := (IntKind.i64.wrap (a - 1), 0, ([] : List (aF)))) (none, 0) ⟨O, O, O, trivial⟩ (.s O (.sel 1 O (.rowV_nil (.sel 2 O (.sel 2 O .n)))))
 refine aB ?_
 exact aG (s := (x, a3, n)) (p, q) ⟨O, O, O, trivial⟩ (.s O (.sel 1 O (.sel' 1 O (am.mk bs) (.sel 1 O (.sel 1 O .n)))))
 intro k ad
 refine ay (bm 2 O (fun bc bd => (ir 2 O (fun b4 a4 b6 b7 => (cN (fun a5 => ?_))))))
 obtain ⟨bt, b1, a7, b8, b9, cd⟩ := hQ (lo := (0 : Int)) (hi := IntKind.i64.wrap ((IntKind.i64.wrap (a - k.1)) - 1)) (Rd.asV bd b4) a4 a5
 have a9 : bL 5 (aM (m)) ([(c, a, d, b, x2)] : List (aF)) [[Iv c, Iv a, Iv d, .slice g b.length e, Iv x2]] := ⟨⟨rfl, aS (by rfl), ⟨g, e, rfl, ⟨b3, be, br⟩⟩⟩, trivial⟩
 refine cN (fun b5 => ?_)
 refine bh (Γ := Nat × (Option Addr × Nat)) (0, (none, 0)) [[], [], [1], [1, 2], [1, 2, 3], [], [5], [], [7], [7, 8], [7, 8, 9], [5, 6, 7, 8, 9, 10], [5, 6, 7, 8, 9, 10, 11], [1, 2, 3, 4, 5, 6, 7, 8, 9, 10, 11, 12], [], [], [14, 15], [14, 15, 16], [1, 2, 3, 4, 5, 6, 7, 8, 9, 10, 11, 12, 13, 14, 15, 16, 17], rL 19, rL 20, rL 21] [17, 18, 21] [0, 1, 2, 3, 4, 5, 6, 7, 8, 9, 10, 11, 12, 13, 14, 15, 16, 19, 20] (fun i => [[0, 1, 2], [0, 1], [0, 1], [0, 1], [0, 1], [0, 1], [0, 1], [0, 1], [0, 1], [0, 1], [0, 1], [0, 1], [0, 1], [0, 1], [0], [0], [0], [], [], [2], [2], []].getD i []) (fun i => [[], [], [], [], [], [], [], [], [], [], [], [], [], [], [], [], [], rL 17, rL 18, [], [], rL 21].getD i []) (fun γ i => [Pt b0, Pt b0, Pt b0, .pointer (some ⟨b0, 5, none⟩), .slice ad.1 k.2.2.length ad.2, .pointer (some ⟨ab, 1, none⟩), Iv a, Pt b0, Pt b0, .pointer (some ⟨b0, 3, none⟩), Iv k.1, Iv (IntKind.i64.wrap (a - k.1)), Iv (IntKind.i64.wrap ((IntKind.i64.wrap (a - k.1)) - 1)), .slice bt ((cut k.2.2 (0 : Int) (IntKind.i64.wrap ((IntKind.i64.wrap (a - k.1)) - 1))).length) b1, .agg #[Iv c, Iv a, Iv d, .slice g b.length e], Iv x2, .agg #[Iv c, Iv a, Iv d, .slice g b.length e, Iv x2], .slice (some ⟨γ.1, 0, none⟩) (([(c, a, d, b, x2)] : List (aF)).length) 1, .slice γ.2.1 (((cut k.2.2 (0 : Int) (IntKind.i64.wrap ((IntKind.i64.wrap (a - k.1)) - 1))) ++ ([(c, a, d, b, x2)] : List (aF))).length) γ.2.2, Pt b0, .pointer (some ⟨b0, 5, none⟩), undef].getD i undef) (fun j γ => [[obj ab 35 [Iv c, Iv a, Iv d, .slice g b.length e], obj b0 89 [Iv t, Iv u, Iv w, Iv k.1, Iv k.2.1, .slice ad.1 k.2.2.length ad.2], Row 144 5 ad.1 k.2.2.length ad.2 bc.flatten, m, F], [Row 144 5 (some ⟨γ.1, 0, none⟩) ([(c, a, d, b, x2)] : List (aF)).length 1 [[Iv c, Iv a, Iv d, .slice g b.length e, Iv x2]].flatten, obj ab 35 [Iv c, Iv a, Iv d, .slice g b.length e], obj b0 89 [Iv t, Iv u, Iv w, Iv k.1, Iv k.2.1, .slice ad.1 k.2.2.length ad.2], Row 144 5 ad.1 k.2.2.length ad.2 bc.flatten, m, F], [Row 144 5 (some ⟨γ.1, 0, none⟩) ([(c, a, d, b, x2)] : List (aF)).length 1 [[Iv c, Iv a, Iv d, .slice g b.length e, Iv x2]].flatten, obj ab 35 [Iv c, Iv a, Iv d, .slice g b.length e], obj b0 89 [Iv t, Iv u, Iv w, Iv k.1, Iv k.2.1, .slice ad.1 k.2.2.length ad.2], am 144 5 (aM (m)) γ.2.1 ((cut k.2.2 (0 : Int) (IntKind.i64.wrap ((IntKind.i64.wrap (a - k.1)) - 1))) ++ ([(c, a, d, b, x2)] : List (aF))) γ.2.2, m, F], [Row 144 5 (some ⟨γ.1, 0, none⟩) ([(c, a, d, b, x2)] : List (aF)).length 1 [[Iv c, Iv a, Iv d, .slice g b.length e, Iv x2]].flatten, obj ab 35 [Iv c, Iv a, Iv d, .slice g b.length e], obj b0 89 [Iv t, Iv u, Iv w, Iv k.1, Iv k.2.1, .slice γ.2.1 (((cut k.2.2 (0 : Int) (IntKind.i64.wrap ((IntKind.i64.wrap (a - k.1)) - 1))) ++ ([(c, a, d, b, x2)] : List (aF))).length) γ.2.2], am 144 5 (aM (m)) γ.2.1 ((cut k.2.2 (0 : Int) (IntKind.i64.wrap ((IntKind.i64.wrap (a - k.1)) - 1))) ++ ([(c, a, d, b, x2)] : List (aF))) γ.2.2, m, F]].getD j []) (fun γ => []) mixed (by decide) (by decide) (by decide) (by decide) (by decide) (by decide) (by decide) 64 O (by decide) (by decide) (by decide) (Ent.refl _) ?_ ?_ (fun _ => trivial) ?_
 exact (ac (fun γ => (ac (qm O (.o (s := 0) O (by decide) .nil) O) (ac (qm O (.o (s := 0) O (by decide) .nil) O) (ac (qm O (.o (s := 0) O (by decide) .nil) O) zA)))) (ac (fun γ => (ac (qm O (.o (s := 0) O (by decide) .nil) O) (ac (qm O (.o (s := 0) O (by decide) .nil) O) zA))) (ac (fun γ => (ac (qp O O (.v 1 O O .nil) (aW O O) O) (ac (qp O O (.v 1 O O .nil) (aW O O) O) zA))) (ac (fun γ => (ac (qp O O (.v 2 O O .nil) (ar O O underlying89 O O sizeOf87 O) O) (ac (qp O O (.v 2 O O .nil) (ar O O underlying89 O O sizeOf87 O) O) zA))) (ac (fun γ => (ac (qp O O (.v 3 O O .nil) (ag O O isAgg87 (.obj 1 O O)) O) (ac (qp O O (.v 3 O O .nil) (ag O O isAgg87 (.obj 2 O O)) O) zA))) (ac (fun γ => (ac (qp O O (.o (s := 7) O (by decide) .nil) (ar O O underlying35 O O sizeOf3 O) O) (ac (qp O O (.o (s := 7) O (by decide) .nil) (ar O O underlying35 O O sizeOf3 O) O) zA))) (ac (fun γ => (ac (qp O O (.v 5 O O .nil) (ag O O isAgg3 (.obj 0 O O)) O) (ac (qp O O (.v 5 O O .nil) (ag O O isAgg3 (.obj 1 O O)) O) zA))) (ac (fun γ => (ac (qm O (.o (s := 0) O (by decide) .nil) O) (ac (qm O (.o (s := 0) O (by decide) .nil) O) zA))) (ac (fun γ => (ac (qp O O (.v 7 O O .nil) (aW O O) O) (ac (qp O O (.v 7 O O .nil) (aW O O) O) zA))) (ac (fun γ => (ac (qp O O (.v 8 O O .nil) (ar O O underlying89 O O sizeOf3 O) O) (ac (qp O O (.v 8 O O .nil) (ar O O underlying89 O O sizeOf3 O) O) zA))) (ac (fun γ => (ac (qp O O (.v 9 O O .nil) (ag O O isAgg3 (.obj 1 O O)) O) (ac (qp O O (.v 9 O O .nil) (ag O O isAgg3 (.obj 2 O O)) O) zA))) (ac (fun γ => (ac (qp O O (.v 6 O O (.v 10 O O .nil)) (cW O O O) O) (ac (qp O O (.v 6 O O (.v 10 O O .nil)) (cW O O O) O) zA))) (ac (fun γ => (ac (qp O O (.v 11 O O .nil) (cW O O O) O) (ac (qp O O (.v 11 O O .nil) (cW O O O) O) zA))) (ac (fun γ => (ac (qp O O (.v 4 O O (.v 12 O O .nil)) (gr (l := k.2.2) (lo' := (0 : Int)) (hi' := IntKind.i64.wrap ((IntKind.i64.wrap (a - k.1)) - 1)) O O O O underlying87 sizeOf144 (.inr ⟨_, O⟩) (.inl ⟨O, O⟩) a5 a4 a7) O) (ac (qp O O (.v 4 O O (.v 12 O O .nil)) (gr (l := k.2.2) (lo' := (0 : Int)) (hi' := IntKind.i64.wrap ((IntKind.i64.wrap (a - k.1)) - 1)) O O O O underlying87 sizeOf144 (.inr ⟨_, O⟩) (.inl ⟨O, O⟩) a5 a4 a7) O) zA))) (aq O (fun γ => qp O O (.o (s := 7) O (by decide) .nil) (ct 0 O O isAgg35 sizeOf35 O O) O) (aq O (fun γ => qm O (.o (s := 2) O (by decide) .nil) O) (aq O (fun γ => qp O O (.v 14 O O (.v 15 O O .nil)) (dm (v := .agg #[Iv c, Iv a, Iv d, .slice g b.length e, Iv x2]) O O (fun _ => by kernel_rfl)) O) (aq O (fun γ => qp O O (.v 0 O O .nil) (aW O O) O) (aq O (fun γ => qp O O (.v 19 O O .nil) (ar O O underlying89 O O sizeOf87 O) O) zA)))))))))))))))))))
 exact (ac (fun γ => eo (Z := Nat) (fun z => (z, γ.2)) O O (.v 16 O O .nil) (fU (V := (aM (m))) (xs := ([(c, a, d, b, x2)] : List (aF))) [[Iv c, Iv a, Iv d, .slice g b.length e, Iv x2]] O O underlying87 kC O (by kernel_rfl) O a9 O O) (fun _ => ⟨O, O, O, O, O, O, O, O, O, O, O, O, O, O, O, O, O, trivial⟩) (fun _ => .inr O) (fun z => Ent.refl _)) (ac (fun γ => eo (Z := Option Addr × Nat) (fun z => (γ.1, z)) O O (.v 13 O O (.v 17 O O .nil)) (RE.ent (H1 := [Row 144 5 (some ⟨γ.1, 0, none⟩) ([(c, a, d, b, x2)] : List (aF)).length 1 [[Iv c, Iv a, Iv d, .slice g b.length e, Iv x2]].flatten, obj ab 35 [Iv c, Iv a, Iv d, .slice g b.length e], obj b0 89 [Iv t, Iv u, Iv w, Iv k.1, Iv k.2.1, .slice ad.1 k.2.2.length ad.2], am 144 5 (aM (m)) bt (cut k.2.2 (0 : Int) (IntKind.i64.wrap ((IntKind.i64.wrap (a - k.1)) - 1))) b1, m, F]) (Ent.set' 3 O (fun _ h => rf bd a7 a5 a4 h)) (lZ 3 O O O underlying87 kC O  (gM.row a9 0 O) b5)) (fun _ => ⟨O, O, O, O, O, O, O, O, O, O, O, O, O, O, O, O, O, O, trivial⟩) (fun _ => .inr O) (fun z => Ent.refl _)) (ac (fun γ => eo (Z := Unit) (fun z => (γ.1, γ.2)) O O (.v 18 O O (.v 20 O O .nil)) (aL 2 O O O sizeOf87 O O (aS (by rfl)) O O) (fun _ => ⟨O, O, O, O, O, O, O, O, O, O, O, O, O, O, O, O, O, O, O, O, O, trivial⟩) (fun _ => .inl O) (fun z => Ent.refl _)) zA)))
 intro b2
 refine aa (sr (va O O (ae (aa (aA ?_)))))
 exact aE (b2.2.1, b2.2.2, m) O O O (.pr_in (Up.refl _) (.sel 2 O (.sel 2 O (.sel 2 O (.sel 2 O .n)))))
end Go.Proofs.YtndjkejhacfpdaaGreatDoor

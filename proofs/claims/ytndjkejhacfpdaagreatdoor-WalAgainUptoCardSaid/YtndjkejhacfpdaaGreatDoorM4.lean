/- Texts that lead to the law WalAgain: G2. Conditions: as each says. -/
import Derived.Test.YtndjkejhacfpdaaGreatDoorM3
set_option linter.unusedVariables false
set_option linter.unusedSimpArgs false
set_option linter.unusedSectionVars false
namespace Go.Proofs.YtndjkejhacfpdaaGreatDoor
open Go.RowKit _root_.Go.Proofs.Tryz
set_option maxRecDepth 20000
set_option maxHeartbeats 20000000
def gP.f (k : Nat) (x0 : List UInt8) (x1 : Int) : Option (List UInt8 × Int × Int) := if (((decide (x1 < (0 : Int))) || (decide ((x0.length : Int) < x1))) || (decide (IntKind.i64.wrap ((x0.length : Int) - x1) < (4 : Int)))) = true then (some (([] : List UInt8), 0, 2)) else (if 0 ≤ x1 ∧ x1 ≤ (x0.length : Int) ∧ (x0.length : Int) ≤ (x0.length : Int) then ((gm.f (cut x0 x1 (x0.length : Int))).bind fun a => (if (1048576 : Int) < IntKind.i64.wrap a then (some (([] : List UInt8), 0, 3)) else (if ((cut x0 x1 (x0.length : Int)).length : Int) < IntKind.i64.wrap (8 + (IntKind.i64.wrap a)) then (some (([] : List UInt8), 0, 2)) else (if 0 ≤ (8 : Int) ∧ (8 : Int) ≤ IntKind.i64.wrap (8 + (IntKind.i64.wrap a)) ∧ IntKind.i64.wrap (8 + (IntKind.i64.wrap a)) ≤ ((cut x0 x1 (x0.length : Int)).length : Int) then (if 0 ≤ (0 : Int) ∧ (0 : Int) ≤ (4 : Int) ∧ (4 : Int) ≤ ((cut x0 x1 (x0.length : Int)).length : Int) then ((ca.f k (4294967295 : Int) (cut (cut x0 x1 (x0.length : Int)) (0 : Int) (4 : Int))).bind fun b => ((ca.f k b (cut (cut x0 x1 (x0.length : Int)) (8 : Int) (IntKind.i64.wrap (8 + (IntKind.i64.wrap a))))).bind fun c => (if 0 ≤ (4 : Int) ∧ (4 : Int) ≤ ((cut x0 x1 (x0.length : Int)).length : Int) ∧ ((cut x0 x1 (x0.length : Int)).length : Int) ≤ ((cut x0 x1 (x0.length : Int)).length : Int) then ((gm.f (cut (cut x0 x1 (x0.length : Int)) (4 : Int) ((cut x0 x1 (x0.length : Int)).length : Int))).bind fun d => (if bU .xor .u32 (if IntKind.u32.signed then -1 else IntKind.u32.max) c = d then (if 0 ≤ (0 : Int) ∧ (0 : Int) ≤ IntKind.i64.wrap a ∧ IntKind.i64.wrap a * 1 ≤ 140737488355328 then (if ((List.replicate (0 : Int).toNat (0 : UInt8)).length + (cut (cut x0 x1 (x0.length : Int)) (8 : Int) (IntKind.i64.wrap (8 + (IntKind.i64.wrap a)))).length) * 1 ≤ 140737488355328 then (some ((List.replicate (0 : Int).toNat (0 : UInt8)) ++ (cut (cut x0 x1 (x0.length : Int)) (8 : Int) (IntKind.i64.wrap (8 + (IntKind.i64.wrap a)))), IntKind.i64.wrap (8 + (IntKind.i64.wrap a)), 0)) else none) else none) else (some (([] : List UInt8), 0, 5)))) else none))) else none) else none)))) else none)
theorem gP.calls (W : World) (F : HA) (k : Nat) (a0 : Option Addr) (c0 : Nat) (x0 : Lb) (x1 : Int) (h0 : Rd F a0 (aB x0)) (b9 : x0.length ≤ c0) (af : c0 ≤ maxLen) :
    Fn Tryz.prog W 68 [.slice a0 x0.length c0, Iv x1] [] F (gP.f k x0 x1) (fun (r : Lb × Int × Int) (y : Option Addr × Nat) => .tuple #[.slice y.1 r.1.length y.2, Iv r.2.1, Iv r.2.2]) (fun r y => [Row 5 1 y.1 r.1.length y.2 (aB r.1)]) := by
 unfold gP.f
 refine aO 58 Tryz.func68 O Tryz.ntmps68 O (sr (va O O (va O O (va O O (ae (aa (ay (sr (vm O O (vq (cL O O O) O (vm O O (aw (b := decide (x1 < (0 : Int))) (fun ch => RQ.sub (E' := [(1, Iv x1)]) ⟨O, trivial⟩ (bh O O)) O O O O O (aw (b := decide (x1 < (0 : Int))) (fun cs => RQ.sub (E' := [(0, .slice a0 x0.length c0)]) ⟨O, trivial⟩ (bh O O)) O O O O O (aw (b := decide (x1 < (0 : Int))) (fun a7 => RQ.sub (E' := [(14, .slice a0 x0.length c0)]) ⟨aH O a7, trivial⟩ (bx O O O underlying33)) O O O O O (aw (b := decide (x1 < (0 : Int))) (fun al => RQ.sub (E' := [(13, Iv x1), (15, Iv (x0.length : Int))]) ⟨aH O al, aH O al, trivial⟩ (cW O O O)) O O O O O (vq (fI O O O) O (vm O O (aw (b := (decide (x1 < (0 : Int))) || (decide ((x0.length : Int) < x1))) (fun c1 => RQ.sub (E' := [(0, .slice a0 x0.length c0)]) ⟨O, trivial⟩ (bh O O)) O O O O O (aw (b := (decide (x1 < (0 : Int))) || (decide ((x0.length : Int) < x1))) (fun a8 => RQ.sub (E' := [(19, .slice a0 x0.length c0)]) ⟨aH O a8, trivial⟩ (bx O O O underlying33)) O O O O O (aw (b := (decide (x1 < (0 : Int))) || (decide ((x0.length : Int) < x1))) (fun c2 => RQ.sub (E' := [(1, Iv x1)]) ⟨O, trivial⟩ (bh O O)) O O O O O (aw (b := (decide (x1 < (0 : Int))) || (decide ((x0.length : Int) < x1))) (fun an => RQ.sub (E' := [(20, Iv (x0.length : Int)), (21, Iv x1)]) ⟨aH O an, aH O an, trivial⟩ (dC O O O)) O O O O O (aw (b := (decide (x1 < (0 : Int))) || (decide ((x0.length : Int) < x1))) (fun a9 => RQ.sub (E' := [(22, Iv (IntKind.i64.wrap ((x0.length : Int) - x1)))]) ⟨aH O a9, trivial⟩ (cL O O O)) O O O O O (vq (fI O O O) O (ae (aa ?_)))))))))))))))))))))))))
 refine aZ O (fun dz => ?_) (fun d1 => ?_)
 refine sr (va O O (va O O (va O O (ae (aa (aA (aN ?_)))))))
 exact aE (none, 0) O O O (.row_nil (.s O .n))
 refine aC (aa (sr (vm O O (vm O O (bg (fun a5 => ?_))))))
 obtain ⟨az, a1, cd, e, a, g⟩ := iJ (lo := x1) (hi := (x0.length : Int)) h0 b9 a5
 refine vq (im (l := x0) (lo' := x1) (hi' := (x0.length : Int)) O O O O underlying33 sizeOf5 (.inl ⟨O, O⟩) (.inr ⟨_, O⟩) a5 b9 cd) O (va O O (nx (vm O O (ax (fun c bc => (ah (av (vs := [.slice az ((cut x0 x1 (x0.length : Int)).length) a1]) (cap := []) (A := []) (rst := [F]) O O O O O O call94 (.s O .n) (gm.calls _ _ az a1 (cut x0 x1 (x0.length : Int)) (e.lend 0 O) a (Nat.le_trans g af)) bc) O O O ?_))))))
 intro c3
 refine vq (gA O O underlying149 underlying3) O (va O O (ae (aa (ay (sr (vm O O (vq (cW O O O) O (ae (aa ?_)))))))))
 refine bn O (fun c4 => ?_) (fun c5 => ?_)
 refine sr (va O O (va O O (va O O (ae (aa (aA (aN ?_)))))))
 exact aE (none, 0) O O O (.row_nil (.s O .n))
 refine aC (aa (ay (sr (vm O O (vq (bx O O O underlying33) O (vm O O (vq (bY O O O) O (vq (cL O O O) O (ae (aa ?_))))))))))
 refine bn O (fun c6 => ?_) (fun c7 => ?_)
 refine sr (va O O (va O O (va O O (ae (aa (aA (aN ?_)))))))
 exact aE (none, 0) O O O (.row_nil (.s O .n))
 refine aC (aa (sr (vm O O (vm O O (vq (bY O O O) O (bg (fun a2 => ?_)))))))
 obtain ⟨h, m, bd, a3, be, br⟩ := iJ (lo := (8 : Int)) (hi := IntKind.i64.wrap (8 + (IntKind.i64.wrap c))) e a a2
 refine vq (im (l := (cut x0 x1 (x0.length : Int))) (lo' := (8 : Int)) (hi' := IntKind.i64.wrap (8 + (IntKind.i64.wrap c))) O O O O underlying33 sizeOf5 (.inr ⟨_, O⟩) (.inr ⟨_, O⟩) a2 a bd) O (va O O (ae (aa (ay (ay (cG (fun a4 => ?_)))))))
 obtain ⟨t, u, bs, bt, b0, b1⟩ := iJ (lo := (0 : Int)) (hi := (4 : Int)) e a a4
 refine bv (fun w b2 => (bv (fun n b3 => (cG (fun d => ?_)))))
 obtain ⟨x, ab, p, b4, b5, b6⟩ := iJ (lo := (4 : Int)) (hi := ((cut x0 x1 (x0.length : Int)).length : Int)) e a d
 refine bv (fun ad b7 => ?_)
 refine bi (Γ := Unit) () [[], [0], [0, 1], [], rL 4, rL 5, [], [6], [0, 1, 2, 3, 4, 6, 7], rL 9] [2, 4, 8] [0, 1, 3, 5, 6, 7, 9] (fun i => [[0], [0], [], [0, 1], [], [2, 3], [0, 1, 2], [0, 1, 2], [], [3]].getD i []) (fun i => [[], [], [0, 1, 3, 6, 7], [], [0, 1, 2, 3, 6, 7], [], [], [], rL 8, []].getD i []) (fun γ i => [.slice az ((cut x0 x1 (x0.length : Int)).length) a1, .slice t ((cut (cut x0 x1 (x0.length : Int)) (0 : Int) (4 : Int)).length) u, .int .u32 w, .slice h ((cut (cut x0 x1 (x0.length : Int)) (8 : Int) (IntKind.i64.wrap (8 + (IntKind.i64.wrap c)))).length) m, .int .u32 n, .int .u32 (bU .xor .u32 (if IntKind.u32.signed then -1 else IntKind.u32.max) n), .slice az ((cut x0 x1 (x0.length : Int)).length) a1, .slice x ((cut (cut x0 x1 (x0.length : Int)) (4 : Int) ((cut x0 x1 (x0.length : Int)).length : Int)).length) ab, .int .u32 ad, .bool (!decide (bU .xor .u32 (if IntKind.u32.signed then -1 else IntKind.u32.max) n = ad))].getD i undef) (fun j γ => [[F], [F], [F], [F]].getD j []) (fun γ => [(8, Iv (IntKind.i64.wrap c)), (9, .slice h ((cut (cut x0 x1 (x0.length : Int)) (8 : Int) (IntKind.i64.wrap (8 + (IntKind.i64.wrap c)))).length) m), (51, .bool (!decide (bU .xor .u32 (if IntKind.u32.signed then -1 else IntKind.u32.max) n = ad)))]) mixed (by decide) (by decide) (by decide) (by decide) (by decide) (by decide) (by decide) 58 O (by decide) (by decide) (by decide) (Ent.refl _) ?_ ?_ (fun _ => ⟨O, O, O, trivial⟩) ?_
 exact (aq O (fun γ => qm O (.o (s := 7) O (by decide) .nil) O) (aq O (fun γ => qp O O (.v 0 O O .nil) (im (l := (cut x0 x1 (x0.length : Int))) (lo' := (0 : Int)) (hi' := (4 : Int)) O O O O underlying33 sizeOf5 (.inr ⟨_, O⟩) (.inl ⟨O, O⟩) a4 a bs) O) (ac (fun γ => (ac (qm O (.o (s := 9) O (by decide) .nil) O) (ac (qm O (.o (s := 9) O (by decide) .nil) O) zA))) (ac (fun γ => (ac (qp O O (.v 4 O O .nil) (tU O O) O) (ac (qp O O (.v 4 O O .nil) (tU O O) O) zA))) (ac (fun γ => (ac (qm O (.o (s := 7) O (by decide) .nil) O) (ac (qm O (.o (s := 7) O (by decide) .nil) O) (ac (qm O (.o (s := 7) O (by decide) .nil) O) zA)))) (ac (fun γ => (ac (qp O O (.v 6 O O .nil) (im (l := (cut x0 x1 (x0.length : Int))) (lo' := (4 : Int)) (hi' := ((cut x0 x1 (x0.length : Int)).length : Int)) O O O O underlying33 sizeOf5 (.inl ⟨O, O⟩) (.inr ⟨_, O⟩) d a p) O) (ac (qp O O (.v 6 O O .nil) (im (l := (cut x0 x1 (x0.length : Int))) (lo' := (4 : Int)) (hi' := ((cut x0 x1 (x0.length : Int)).length : Int)) O O O O underlying33 sizeOf5 (.inl ⟨O, O⟩) (.inr ⟨_, O⟩) d a p) O) (ac (qp O O (.v 6 O O .nil) (im (l := (cut x0 x1 (x0.length : Int))) (lo' := (4 : Int)) (hi' := ((cut x0 x1 (x0.length : Int)).length : Int)) O O O O underlying33 sizeOf5 (.inl ⟨O, O⟩) (.inr ⟨_, O⟩) d a p) O) zA)))) (aq O (fun γ => qp O O (.v 5 O O (.v 8 O O .nil)) (dp O O O) O) zA)))))))
 exact (ac (fun γ => eo (Z := Unit) (fun z => ()) O O (.v 1 O O .nil) (av (val := fun (r : Int) (y : Unit) => .int .u32 r) (B := fun _ _ => []) (vs := [.int .u32 4294967295, .slice t ((cut (cut x0 x1 (x0.length : Int)) (0 : Int) (4 : Int)).length) u]) (cap := []) (A := []) (rst := [F]) O O O O O O call95 (.s O .n) (ca.calls _ _ k (4294967295 : Int) t u (cut (cut x0 x1 (x0.length : Int)) (0 : Int) (4 : Int)) (bt.lend 0 O) b0 (Nat.le_trans b1 (Nat.le_trans g af))) b2) (fun _ => ⟨O, O, O, O, O, trivial⟩) (fun _ => .inr O) (fun z => Ent.refl _)) (ac (fun γ => eo (Z := Unit) (fun z => ()) O O (.v 2 O O (.v 3 O O .nil)) (av (val := fun (r : Int) (y : Unit) => .int .u32 r) (B := fun _ _ => []) (vs := [.int .u32 w, .slice h ((cut (cut x0 x1 (x0.length : Int)) (8 : Int) (IntKind.i64.wrap (8 + (IntKind.i64.wrap c)))).length) m]) (cap := []) (A := []) (rst := [F]) O O O O O O call95 (.s O .n) (ca.calls _ _ k w h m (cut (cut x0 x1 (x0.length : Int)) (8 : Int) (IntKind.i64.wrap (8 + (IntKind.i64.wrap c)))) (a3.lend 0 O) be (Nat.le_trans br (Nat.le_trans g af))) b3) (fun _ => ⟨O, O, O, O, O, O, trivial⟩) (fun _ => .inr O) (fun z => Ent.refl _)) (ac (fun γ => eo (Z := Unit) (fun z => ()) O O (.v 7 O O .nil) (av (val := fun (r : Int) (y : Unit) => .int .u32 r) (B := fun _ _ => []) (vs := [.slice x ((cut (cut x0 x1 (x0.length : Int)) (4 : Int) ((cut x0 x1 (x0.length : Int)).length : Int)).length) ab]) (cap := []) (A := []) (rst := [F]) O O O O O O call94 (.s O .n) (gm.calls _ _ x ab (cut (cut x0 x1 (x0.length : Int)) (4 : Int) ((cut x0 x1 (x0.length : Int)).length : Int)) (b4.lend 0 O) b5 (Nat.le_trans b6 (Nat.le_trans g af))) b7) (fun _ => ⟨O, O, O, O, O, O, O, O, trivial⟩) (fun _ => .inr O) (fun z => Ent.refl _)) zA)))
 intro c8
 refine aa ?_
 refine dd O (fun c9 => ?_) (fun dl => ?_)
 refine aC (aa (sr (vm O O (bg (fun q => (ah (lX O O O underlying33 ig q.1 q.2.1 q.2.2) O O O ?_))))))
 intro ds
 refine vm O O (bg (fun b8 => ?_))
 refine ah (fV 0 O O O underlying33 ig O (a3.rds 0 O) b8) O O O ?_
 intro a6
 refine vm O O (vq (bY O O O) O (va O O (va O O (va O O (ae (aa (aA ?_)))))))
 exact aE a6 O O O (.s O (.s O .n))
 refine sr (va O O (va O O (va O O (ae (aa (aA (aN ?_)))))))
 exact aE (none, 0) O O O (.row_nil (.s O .n))

def cZ.l0 {S : Type} (step : S → (Int × List UInt8) → Option S) (a : List UInt8) : Nat → Int → S → Option (S)
  | 0, _, _ => none
  | k + 1, c, d => if c < (a.length : Int) then ((gP.f k a c).bind fun e => ((if e.2.2 = (0 : Int) then ((step d (c, e.1)).bind fun g => (some (false, g))) else (some (true, d))).bind fun b => (if b.1 = true then (some b.2) else (cZ.l0 step a k (IntKind.i64.wrap (c + e.2.1)) b.2)))) else (some d)
def cZ.f {S : Type} (k : Nat) (step : S → (Int × List UInt8) → Option S) (s0 : S) (a : List UInt8) : Option (S) := cZ.l0 step a k 0 s0
theorem cZ.calls (W : World) (F : HA) (k : Nat) (S Y : Type) (l : Nat) (step : S → Int × Lb → Option S) (A : S → Y → HA) (s0 : S) (y0 : Y) (b1 : Nat) (c : Option Addr) (b : Nat) (a : Lb) (hY : mj Tryz.prog W l (fun (x : Int × Lb) (γ : Option Addr × Nat) => [Iv x.1, .slice γ.1 x.2.length γ.2]) (fun (x : Int × Lb) (γ : Option Addr × Nat) => Row 5 1 γ.1 x.2.length γ.2 (aB x.2)) step A) (q : Rd F c (aB a)) (i : a.length ≤ b) (j : b ≤ maxLen) :
    Fn Tryz.prog W 93 [.func (.yield l) #[] #[], Pt b1] [A s0 y0, obj b1 33 [.slice c a.length b]] F (cZ.f k step s0 a) (fun (r : S) (y : Y) => .tuple #[]) (fun r y => [A r y, obj b1 33 [.slice c a.length b]]) := by
 unfold cZ.f
 refine aO 30 Tryz.func93 O Tryz.ntmps93 O (sr (va O O (ae (aa (aR ?_)))))
 refine ck (S := Int × S) Y (fun k s => cZ.l0 step a k s.1 s.2) (fun s y => [(0, .func (.yield l) #[] #[]), (1, Pt b1), (3, Iv s.1)]) (fun s y => [obj b1 33 [.slice c a.length b], A s.2 y, F]) (fun _ => by rw [cZ.l0]) ?_ k (0, s0) y0 ⟨O, O, O, trivial⟩ (.sel 1 O (.s O (.s O .n)))
 intro k d e
 refine cS (by rw [cZ.l0]) (ay (sr (vm O O (vq (ag O O isAgg33 (.obj 0 O O)) O (vq (bx O O O underlying33) O (vq (cL O O O) O (ae (aa ?_))))))))
 refine bn O (fun ad => ?_) (fun af => ?_)
 refine aC (aa (aR (sr (vq (ag O O isAgg33 (.obj 0 O O)) O (vm O O (ax (fun g t => (ah (av (vs := [.slice c a.length b, Iv d.1]) (cap := []) (A := []) (rst := [obj b1 33 [.slice c a.length b], A d.2 e, F]) O O O O O O call68 (.s O (.s O (.s O .n))) (gP.calls _ _ k c b a d.1 (q.lend 2 O) i j) t) O O O ?_))))))))
 intro p
 refine vm O O (vq (bI O O O) O (vq (bI O O O) O (vq (bI O O O) O (va O O (va O O (va O O (ae (aa (ay (sr (vm O O (vq (dp O O O) O (vm O O ?_)))))))))))))
 refine dG 6 (S := Bool × S) Y (fun s y => [(0, .func (.yield l) #[] #[]), (1, Pt b1), (3, Iv d.1), (5, Iv g.2.1), (26, .bool s.1)]) (fun s y => [obj b1 33 [.slice c a.length b], A s.2 y, F]) ?_ ?_
 refine ox (fun m => ?_) (fun n => ?_)
 rw [m]
 refine aD O O O O O O (aD O O O O O O (aD O O O O O O (aD O O O O O O (aD O O O O O O (vq (bS O O O O O) O (ae ?_))))))
 exact aG (s := (true, d.2)) e ⟨O, O, O, O, O, trivial⟩ (.sel 1 O (.sel 1 O (.sel 1 O .n)))
 rw [n]
 refine aL (bh O O) O O O O O O (aL (bh O O) O O O O O O (aL (bh O O) O O O O O O (ax (fun u o => (ga (vp (γ := Option Addr × Nat) (d.1, g.1) p [obj b1 33 [.slice c a.length b], F] O O O O O O hY (.sel 2 O (.s O (.s O (.s O .n)))) o) O O O O O O ?_)))))
 intro v
 refine aL (fK O O) O O O O O O (vq (bS O O O O O) O (ae ?_))
 exact aG (s := (false, u)) v ⟨O, O, O, O, O, trivial⟩ (.sel 1 O (.s O (.s O .n)))
 intro w h
 refine ae (aa ?_)
 refine aZ O (fun z => ?_) (fun ab => ?_)
 refine aA (aN (bp (fw (bp ?_))))
 exact aE h O O O (.sel 1 O (.s O (.s O .n)))
 refine aC (aa (aI (vm O O (vm O O (vq (bY O O O) O (va O O (ae (bo ?_))))))))
 exact bM (s := (IntKind.i64.wrap (d.1 + g.2.1), w.2)) h ⟨O, O, O, trivial⟩ (.s O (.s O (.s O .n)))
 refine cA (ce (cl (cf ?_)))
 exact fZ e O O O (.sel 1 O (.s O (.s O .n)))

def iB.f  : Option (Unit) := some ()
theorem iB.calls (W : World) (F : HA) (a0 : Option Addr) (c0 : Nat) (x0 : Lb)  :
    Fn Tryz.prog W 67 [.slice a0 x0.length c0] [] F (iB.f ) (fun (r : Unit) (y : Nat) => .func (.func 93) #[] #[Pt y]) (fun r y => [obj y 33 [.slice a0 x0.length c0]]) := by
 unfold iB.f
 refine aO 4 Tryz.func67 O Tryz.ntmps67 O (sr (ah (cq O O O) O O O ?_))
 intro a
 refine va O O (nx (vq (gY O O O) O (va O O (ae (aa (aA ?_))))))
 exact aE a O O O (.s O (.s O .n))

def iL.f (k : Nat) (x0 : List UInt8) : Option (List (List UInt8) × Int × Int) := (iB.f).bind fun e => ((cZ.f k (fun (c : Int × List (List UInt8)) (b : Int × List UInt8) => if (c.2.length + ([b.2] : List (List UInt8)).length) * 24 ≤ 140737488355328 then (some (IntKind.i64.wrap ((IntKind.i64.wrap (b.1 + 8)) + (b.2.length : Int)), c.2 ++ ([b.2] : List (List UInt8)))) else none) (0, ([] : List (List UInt8))) x0).bind fun a => (if a.1 = (x0.length : Int) then (some (a.2, a.1, 0)) else ((gP.f k x0 a.1).bind fun d => (some (a.2, a.1, d.2.2)))))
theorem iL.calls (W : World) (F : HA) (k : Nat) (a0 : Option Addr) (c0 : Nat) (x0 : Lb) (h0 : Rd F a0 (aB x0)) (a7 : x0.length ≤ c0) (a8 : c0 ≤ maxLen) :
    Fn Tryz.prog W 27 [.slice a0 x0.length c0] [] F (iL.f k x0) (fun (r : List Lb × Int × Int) (y : Option Addr × Nat × HA) => .tuple #[.slice y.1 r.1.length y.2.1, Iv r.2.1, Iv r.2.2]) (fun r y => [am 33 1 (V33 y.2.2) y.1 r.1 y.2.1, y.2.2]) := by
 unfold iL.f
 refine pw 41 Tryz.func27 O Tryz.ntmps27 O (sr (va O O (va O O (va O O (nx (ah (bT O zeroValue64 O) O O O ?_))))))
 intro h
 refine nx (ah (bT O zeroValue3 O) O O O ?_)
 intro n
 refine aY (aJ 0 O O O sizeOf3 O O (aP (by rfl)) O O) O O ?_
 intro _
 refine ae (aa (ay (sr (vm O O (ax (fun bt a9 => (ah (av (vs := [.slice a0 x0.length c0]) (cap := []) (A := []) (rst := [obj n 3 [Iv 0], obj h 64 [.slice none 0 0], F]) O O O O O O call67 (.s O (.s O (.s O .n))) (iB.calls _ _ a0 c0 x0 ) a9) O O O ?_)))))))
 intro q
 refine ae (aa (aR ?_))
 refine uh (γ := Option Addr × Nat) (S := Int × List Lb) (Y := HA × Option Addr × Nat) (R' := (Int × List Lb)) (Y' := (HA × Option Addr × Nat)) (ps := [14, 15]) (Cap := [obj q 33 [.slice a0 x0.length c0]]) (rst := [F]) (CapB := fun r y => [obj q 33 [.slice a0 x0.length c0]]) (enc := fun (x : Int × Lb) (γ : Option Addr × Nat) => [Iv x.1, .slice γ.1 x.2.length γ.2]) (own := fun (x : Int × Lb) (γ : Option Addr × Nat) => Row 5 1 γ.1 x.2.length γ.2 (aB x.2)) (oN := cZ.f k (fun (g : Int × List Lb) (c : Int × Lb) => if (g.2.length + ([c.2] : List Lb).length) * 24 ≤ 140737488355328 then (some (IntKind.i64.wrap ((IntKind.i64.wrap (c.1 + 8)) + (c.2.length : Int)), g.2 ++ ([c.2] : List Lb))) else none) (0, ([] : List Lb)) x0) (fun s y => [obj n 3 [Iv s.1], obj h 64 [.slice y.2.1 s.2.length y.2.2], am 33 1 (V33 y.1) y.2.1 s.2 y.2.2, y.1]) (0, ([] : List Lb)) (tt, none, 0) (fun g c b e => [(5, Pt h), (6, Pt n), (7, Iv c.1), (8, .slice b.1 c.2.length b.2)]) (fun r => r) (fun r y => y) O O call93 (fun l A hY X => cZ.calls _ _ k _ _ l _ A _ _ q a0 c0 x0 hY (h0.lend 1 O) a7 a8) O (fun _ _ => O) (.sel 1 O (.sel 1 O (.rowV_nil (.tt_in (.s O (.s O .n)))))) ?_ ?_ ?_
 intro l g c b e Fr
 refine fm (H' := [obj n 3 [Iv g.1], obj h 64 [.slice e.2.1 g.2.length e.2.2], am 33 1 (V33 e.1) e.2.1 g.2 e.2.2, e.1, Row 5 1 b.1 c.2.length b.2 (aB c.2), Fr]) (Ent.refl _) (sr (va O O (ny (va O O (ae ?_)))))
 exact aG () ⟨O, O, O, O, trivial⟩ (Ent.refl _)
 intro l g c b e Fr
 refine fm (H' := [obj n 3 [Iv g.1], obj h 64 [.slice e.2.1 g.2.length e.2.2], am 33 1 (V33 e.1) e.2.1 g.2 e.2.2, e.1, Row 5 1 b.1 c.2.length b.2 (aB c.2), Fr]) (Ent.refl _) (aR (sr (vq (ag O O isAgg64 (.obj 1 O O)) O (vm O O (ba 4 O (fun af al an bc => ?_))))))
 have u : bP 1 (V33 (Row 5 1 b.1 c.2.length b.2 (aB c.2))) ([c.2] : List Lb) [[.slice b.1 c.2.length b.2]] := ⟨⟨rfl, aP (by rfl), ⟨b.1, b.2, rfl, ⟨af, al, an⟩⟩⟩, trivial⟩
 refine ah (gb (V := (V33 (Row 5 1 b.1 c.2.length b.2 (aB c.2)))) (xs := ([c.2] : List Lb)) [[.slice b.1 c.2.length b.2]] O O underlying64 wR O (by kernel_rfl) O u O O) O O O ?_
 intro z
 refine bf 3 O (fun w az => (bX (H' := [aS [Row 5 1 b.1 c.2.length b.2 (aB c.2), e.1], Row 33 1 (some ⟨z, 0, none⟩) ([c.2] : List Lb).length 1 [[.slice b.1 c.2.length b.2]].flatten, obj n 3 [Iv g.1], obj h 64 [.slice e.2.1 g.2.length e.2.2], Row 33 1 e.2.1 g.2.length e.2.2 w.flatten, Fr]) (Ent.trans (m := [Row 5 1 b.1 c.2.length b.2 (aB c.2), e.1, Row 33 1 (some ⟨z, 0, none⟩) ([c.2] : List Lb).length 1 [[.slice b.1 c.2.length b.2]].flatten, obj n 3 [Iv g.1], obj h 64 [.slice e.2.1 g.2.length e.2.2], Row 33 1 e.2.1 g.2.length e.2.2 w.flatten, Fr]) (.sel 5 O (.sel 4 O (.s O (.s O (.s O (.s O (.s O .n))))))) (gf [Row 5 1 b.1 c.2.length b.2 (aB c.2), e.1] _)) (bg (fun a1 => (ah (fg 4 O O O underlying64 wR O (az.mono (V33.up (Up.lend (l := [Row 5 1 b.1 c.2.length b.2 (aB c.2), e.1]) 1 O))) (gX.row (u.mono (V33.up (Up.lend (l := [Row 5 1 b.1 c.2.length b.2 (aB c.2), e.1]) 0 O))) 1 O) a1) O O O ?_)))))
 intro ab
 refine aY (aJ 3 O O O sizeOf64 O O (aP (by rfl)) O O) O O ?_
 intro _
 refine ny (vm O O (vq (bY O O O) O (vm O O (vq (bx O O O underlying33) O (vq (bY O O O) O (aY (aJ 2 O O O sizeOf3 O O (aP (by rfl)) O O) O O ?_))))))
 intro _
 refine ae (bo ?_)
 exact aG (s := (IntKind.i64.wrap ((IntKind.i64.wrap (c.1 + 8)) + (c.2.length : Int)), g.2 ++ ([c.2] : List Lb))) (aS [Row 5 1 b.1 c.2.length b.2 (aB c.2), e.1], ab) trivial (.sel 2 O (.sel 2 O (.sel 2 O (.s O (.sel 1 O .n)))))
 intro p d a
 refine oX (H' := [iT p, obj n 3 [Iv d.1], obj h 64 [.slice a.2.1 d.2.length a.2.2], am 33 1 (V33 a.1) a.2.1 d.2 a.2.2, a.1, obj q 33 [.slice a0 x0.length c0], F]) (Ent.refl _) (bo (aa (ay (sr (vq (ag O O isAgg3 (.obj 1 O O)) O (vm O O (vq (bx O O O underlying33) O (vq (bW O O O) O (ae (aa ?_))))))))))
 refine bn O (fun bd => ?_) (fun be => ?_)
 refine ay (bq 3 O (fun a2 a3 => ?_))
 refine bi (Γ := Unit) () [[], [], [0], [0, 1, 2], rL 4] [] [0, 1, 2, 3, 4] (fun i => [[0], [0], [0], [0], [0]].getD i []) (fun i => [[], [], [], [], []].getD i []) (fun γ i => [.slice a.2.1 d.2.length a.2.2, Iv d.1, .slice a.2.1 d.2.length a.2.2, Iv d.1, Iv 0].getD i undef) (fun j γ => [[iT p, obj n 3 [Iv d.1], obj h 64 [.slice a.2.1 d.2.length a.2.2], Row 33 1 a.2.1 d.2.length a.2.2 a2.flatten, a.1, obj q 33 [.slice a0 x0.length c0], F]].getD j []) (fun γ => [(2, .slice a.2.1 d.2.length a.2.2), (3, Iv d.1), (4, Iv 0)]) mixed (by decide) (by decide) (by decide) (by decide) (by decide) (by decide) (by decide) 41 O (by decide) (by decide) (by decide) (Ent.refl _) ?_ ?_ (fun _ => ⟨O, O, O, trivial⟩) ?_
 exact (aq O (fun γ => qp O O (.o (s := 5) O (by decide) .nil) (ag O O isAgg64 (.obj 2 O O)) O) (aq O (fun γ => qp O O (.o (s := 6) O (by decide) .nil) (ag O O isAgg3 (.obj 1 O O)) O) (aq O (fun γ => qp O O (.v 0 O O .nil) (cK O O) O) (aq O (fun γ => qp O O (.v 1 O O .nil) (cK O O) O) (aq O (fun γ => qp O O .nil (cK O O) O) zA)))))
 exact zA
 intro br
 refine aa (aA (aN ?_))
 exact ni [p] (a.2.1, a.2.2, a.1) O O O (.s O (.sel' 2 O (am.mk a3) (.sel 2 O (.sel 3 O .n))))
 refine aC (aa (sr (vm O O (vq (ag O O isAgg3 (.obj 1 O O)) O (ax (fun t a4 => (ah (av (vs := [.slice a0 x0.length c0, Iv d.1]) (cap := []) (A := []) (rst := [iT p, obj n 3 [Iv d.1], obj h 64 [.slice a.2.1 d.2.length a.2.2], am 33 1 (V33 a.1) a.2.1 d.2 a.2.2, a.1, obj q 33 [.slice a0 x0.length c0], F]) O O O O O O call68 (.s O (.s O (.s O (.s O (.s O (.s O (.s O .n))))))) (gP.calls _ _ k a0 c0 x0 d.1 (h0.lend 6 O) a7 a8) a4) O O O ?_)))))))
 intro ad
 refine vm O O (vq (bI O O O) O (vq (bI O O O) O (vq (bI O O O) O (va O O (va O O (va O O (ae (aa (ay (bq 4 O (fun a5 a6 => ?_)))))))))))
 refine bi (Γ := Unit) () [[], [], [], [0], [0, 1, 3], rL 5] [] [0, 1, 2, 3, 4, 5] (fun i => [[0], [0], [0], [0], [0], [0]].getD i []) (fun i => [[], [], [], [], [], []].getD i []) (fun γ i => [.slice a.2.1 d.2.length a.2.2, Iv d.1, Iv t.2.2, .slice a.2.1 d.2.length a.2.2, Iv d.1, Iv t.2.2].getD i undef) (fun j γ => [[Row 5 1 ad.1 t.1.length ad.2 (aB t.1), iT p, obj n 3 [Iv d.1], obj h 64 [.slice a.2.1 d.2.length a.2.2], Row 33 1 a.2.1 d.2.length a.2.2 a5.flatten, a.1, obj q 33 [.slice a0 x0.length c0], F]].getD j []) (fun γ => [(2, .slice a.2.1 d.2.length a.2.2), (3, Iv d.1), (4, Iv t.2.2)]) mixed (by decide) (by decide) (by decide) (by decide) (by decide) (by decide) (by decide) 41 O (by decide) (by decide) (by decide) (Ent.refl _) ?_ ?_ (fun _ => ⟨O, O, O, trivial⟩) ?_
 exact (aq O (fun γ => qp O O (.o (s := 5) O (by decide) .nil) (ag O O isAgg64 (.obj 3 O O)) O) (aq O (fun γ => qp O O (.o (s := 6) O (by decide) .nil) (ag O O isAgg3 (.obj 2 O O)) O) (aq O (fun γ => qm O (.o (s := 11) O (by decide) .nil) O) (aq O (fun γ => qp O O (.v 0 O O .nil) (cK O O) O) (aq O (fun γ => qp O O (.v 1 O O .nil) (cK O O) O) (aq O (fun γ => qp O O (.v 2 O O .nil) (cK O O) O) zA))))))
 exact zA
 intro bs
 refine aa (aA ?_)
 exact ni [p] (a.2.1, a.2.2, a.1) O O O (.sel 1 O (.sel' 3 O (am.mk a6) (.sel 3 O (.sel 4 O .n))))

def iv.f (a : List ((List UInt8) × (List UInt8 × Int))) (c : List UInt8) (d : Int) (b : Bool) (x1 : List UInt8) (x2 : Int) : Option (Int × (List ((List UInt8) × (List UInt8 × Int))) × List UInt8 × Int × Bool) := if (aU a x1).isSome = true then (if b = true then (some (11, a, c, d, b)) else (if ((decide (x2 < (0 : Int))) || (decide (((((aU a x1).getD (([] : List UInt8), (0 : Int))).1).length : Int) < x2))) = true then (some (1, a, c, d, b)) else ((bR.f a c d b).bind fun e => (if e.1 = true then (some (11, a, e.2.1, e.2.2.1, e.2.2.2)) else (if 0 ≤ (0 : Int) ∧ (0 : Int) ≤ x2 ∧ x2 ≤ ((((aU a x1).getD (([] : List UInt8), (0 : Int))).1).length : Int) then (some (0, aX a x1 (cut (((aU a x1).getD (([] : List UInt8), (0 : Int))).1) (0 : Int) x2, min (((aU a x1).getD (([] : List UInt8), (0 : Int))).2) x2), e.2.1, e.2.2.1, e.2.2.2)) else none))))) else (if b = true then (some (11, a, c, d, b)) else (some (8, a, c, d, b)))
theorem iv.calls (W : World) (F : HA) (b0 : Nat) (d : Nat) (a : Kps) (c : List (Lb × (Lb × Int))) (h : Lb) (i : Int) (j : Bool) (x1 : Lb) (x2 : Int)  :
    Fn Tryz.prog W 74 [Pt b0, str x1, Iv x2] [W0 b0 d h i j, ao (aj d ar ak a) ai a c] F (iv.f c h i j x1 x2) (fun (r : Int × (List (Lb × (Lb × Int))) × Lb × Int × Bool) (y : Nat × Kps) => Iv r.1) (fun r y => [W5 b0 y.1 r.2.2, ao (aj y.1 ar ak y.2) ai y.2 r.2.1]) := by
 unfold iv.f
 refine aO 55 Tryz.func74 O Tryz.ntmps74 O (sr (va O O (ae (aa (ay ?_)))))
 refine gj (fun g => ?_) (fun g => ?_)
 refine aI (vm O O (vn O O (vq (ap O O underlying97 O O sizeOf95 O) O (vq (ag O O isAgg95 (.obj 0 O O)) O (vm O O (vq ((kG (ek := ar) x1 (iI 1 O) g O O O underlying95 km : RQ _ _ _ _ (.pointer (some ⟨(da a x1), 0, none⟩)))) O (va O O (ae (aa (ay (aR (sr (vm O O (vn O O (vq (ap O O underlying97 O O sizeOf4 O) O (vq (ag O O isAgg4 (.obj 0 O O)) O (va O O (ae (aa ?_)))))))))))))))))))
 refine aZ O (fun a9 => ?_) (fun bc => ?_)
 refine sr (va O O (ae (aa (aA (bp (aN ?_))))))
 exact aE (d, a) O O O (.s O (.s O (.s O .n)))
 refine sr (vm O O (vq (lR O O O underlying107) O (va O O (ae (aa (gq O (ay (jm (v := ((aU c x1).getD (([] : Lb), (0 : Int)))) 1 O (gu g) (fun e => (fm (H' := [obj (da a x1) 109 [.slice e.1 ((((aU c x1).getD (([] : Lb), (0 : Int))).1).length) e.2, Iv (((aU c x1).getD (([] : Lb), (0 : Int))).2)], Row 5 1 e.1 (((aU c x1).getD (([] : Lb), (0 : Int))).1).length e.2 (aB (((aU c x1).getD (([] : Lb), (0 : Int))).1)), jh (aj d ar ak a) ai a c x1, W0 b0 d h i j, F]) (Ent.refl _) (aI (vm O O (vq (cL O O O) O (vm O O (aw (b := decide (x2 < (0 : Int))) (fun an => RQ.sub (E' := [(2, Iv x2)]) ⟨O, trivial⟩ (bh O O)) O O O O O (aw (b := decide (x2 < (0 : Int))) (fun az => RQ.sub (E' := [(7, .pointer (some ⟨(da a x1), 0, none⟩))]) ⟨O, trivial⟩ (bh O O)) O O O O O (aw (b := decide (x2 < (0 : Int))) (fun t => RQ.sub (E' := [(27, .pointer (some ⟨(da a x1), 0, none⟩))]) ⟨aH O t, trivial⟩ (aW O O)) O O O O O (aw (b := decide (x2 < (0 : Int))) (fun u => RQ.sub (E' := [(28, .pointer (some ⟨(da a x1), 0, none⟩))]) ⟨aH O u, trivial⟩ (ap O O underlying109 O O sizeOf33 O)) O O O O O (aw (b := decide (x2 < (0 : Int))) (fun w => RQ.sub (E' := [(29, .pointer (some ⟨(da a x1), 0, none⟩))]) ⟨aH O w, trivial⟩ (ag O O isAgg33 (.obj 0 O O))) O O O O O (aw (b := decide (x2 < (0 : Int))) (fun z => RQ.sub (E' := [(30, .slice e.1 ((((aU c x1).getD (([] : Lb), (0 : Int))).1).length) e.2)]) ⟨aH O z, trivial⟩ (bx O O O underlying33)) O O O O O (aw (b := decide (x2 < (0 : Int))) (fun o => RQ.sub (E' := [(26, Iv x2), (31, Iv ((((aU c x1).getD (([] : Lb), (0 : Int))).1).length : Int))]) ⟨aH O o, aH O o, trivial⟩ (cW O O O)) O O O O O (vq (fI O O O) O (va O O (ae (aa ?_)))))))))))))))))))))))))
 refine aZ O (fun bd => ?_) (fun be => ?_)
 refine sr (va O O (ae (aa (aA (bp (aN ?_))))))
 exact aE (d, a) O O O (.sel 3 O (.foldF0 (x := x1) (p := (da a x1)) (v := ((aU c x1).getD (([] : Lb), (0 : Int)))) e O (gu g) (.sel 2 O (.s O (.s O (.s O .n))))))
 refine sr (vm O O (bX (H' := [ao (aj d ar ak a) ai a c, W0 b0 d h i j, F]) ((.foldF0 (x := x1) (p := (da a x1)) (v := ((aU c x1).getD (([] : Lb), (0 : Int)))) e O (gu g) (.sel 2 O (.s O (.s O (.s O (.s O .n))))))) (ax (fun s ad => (ah (av (vs := [Pt b0]) (cap := []) (A := [W0 b0 d h i j, ao (aj d ar ak a) ai a c]) (rst := [F]) O O O O O O call58 (.sel 1 O (.s O (.s O .n))) (bR.calls _ _ b0 d a c h i j ) ad) O O O ?_)))))
 intro br
 refine va O O (ae (aa ?_))
 refine aZ O (fun a5 => ?_) (fun a6 => ?_)
 refine sr (va O O (ae (aa (aA (bp (aN ?_))))))
 exact aE (d, a) O O O (.s O (.s O (.s O .n)))
 refine aC (bo (aa (ay (jm (v := ((aU c x1).getD (([] : Lb), (0 : Int)))) 1 O (gu g) (fun k => (fm (H' := [obj (da a x1) 109 [.slice k.1 ((((aU c x1).getD (([] : Lb), (0 : Int))).1).length) k.2, Iv (((aU c x1).getD (([] : Lb), (0 : Int))).2)], Row 5 1 k.1 (((aU c x1).getD (([] : Lb), (0 : Int))).1).length k.2 (aB (((aU c x1).getD (([] : Lb), (0 : Int))).1)), jh (aj d ar ak a) ai a c x1, W5 b0 d s.2, F]) (Ent.refl _) (aI (vm O O (vm O O (vn O O (vq (ap O O underlying109 O O sizeOf33 O) O (vq (ag O O isAgg33 (.obj 0 O O)) O (vm O O (bg (fun m => (ba 1 O (fun ab n a0 a1 => ?_)))))))))))))))))
 obtain ⟨af, al, q, a2, a3, a4⟩ := iJ (lo := (0 : Int)) (hi := x2) ab n m
 refine vq (im (l := (((aU c x1).getD (([] : Lb), (0 : Int))).1)) (lo' := (0 : Int)) (hi' := x2) O O O O underlying33 sizeOf5 (.inr ⟨_, O⟩) (.inl ⟨O, O⟩) m n q) O (vn O O (vq (ap O O underlying109 O O sizeOf33 O) O (aY (RE.ent (Ent.cutB 1 O q m n) (aJ 0 O O O sizeOf33 O O (aP (by rfl)) O O)) O O ?_)))
 intro _
 refine nx (vm O O (vm O O (vn O O (vq (ap O O underlying109 O O sizeOf3 O) O (vq (ag O O isAgg3 (.obj 0 O O)) O (vm O O (vq (tF O O O) O (vn O O (vq (ap O O underlying109 O O sizeOf3 O) O (aY (aJ 0 O O O sizeOf3 O O (aP (by rfl)) O O) O O ?_))))))))))
 intro _
 refine nx (va O O (ae (aa (aA ?_))))
 exact aE (d, a) O O O (.sel 3 O (.foldF (x := x1) (p := (da a x1)) (v := (cut (((aU c x1).getD (([] : Lb), (0 : Int))).1) (0 : Int) x2, min (((aU c x1).getD (([] : Lb), (0 : Int))).2) x2)) (af, al) O (.sel 2 O (.s O (.s O (.s O .n))))))
 refine aI (vm O O (vn O O (vq (ap O O underlying97 O O sizeOf95 O) O (vq (ag O O isAgg95 (.obj 0 O O)) O (vm O O (vq (kH (ek := ar) x1 (iI 1 O) (jl g) O O O underlying95 km zeroValue107) O (va O O (ae (aa (ay (aR (sr (vm O O (vn O O (vq (ap O O underlying97 O O sizeOf4 O) O (vq (ag O O isAgg4 (.obj 0 O O)) O (va O O (ae (aa ?_)))))))))))))))))))
 refine aZ O (fun a7 => ?_) (fun a8 => ?_)
 refine sr (va O O (ae (aa (aA (bp (aN ?_))))))
 exact aE (d, a) O O O (.s O (.s O (.s O .n)))
 refine sr (vm O O (vq (kE O O O underlying107) O (va O O (ae (aa (gh O (sr (va O O (ae (aa (aA (bp (aN ?_)))))))))))))
 exact aE (d, a) O O O (.s O (.s O (.s O .n)))

def eC.f (a : List ((List UInt8) × (List UInt8 × Int))) (d : List UInt8) (e : Int) (c : Bool) (x1 : List UInt8) : Option (Int × (List ((List UInt8) × (List UInt8 × Int))) × List UInt8 × Int × Bool) := if c = true then (some (11, a, d, e, c)) else ((cY.f a d e c x1).bind fun h => (if (!h) = true then (some (8, a, d, e, c)) else ((bR.f a d e c).bind fun b => (if b.1 = true then (some (11, a, b.2.1, b.2.2.1, b.2.2.2)) else ((if b.2.1 = x1 then (some ([] : List UInt8)) else (some b.2.1)).bind fun g => (some (0, dM a x1, g, b.2.2.1, b.2.2.2)))))))
theorem eC.calls (W : World) (F : HA) (b0 : Nat) (a : Nat) (b : Kps) (c : List (Lb × (Lb × Int))) (d : Lb) (e : Int) (g : Bool) (x1 : Lb)  :
    Fn Tryz.prog W 64 [Pt b0, str x1] [W0 b0 a d e g, ao (aj a ar ak b) ai b c] F (eC.f c d e g x1) (fun (r : Int × (List (Lb × (Lb × Int))) × Lb × Int × Bool) (y : Nat × Kps) => Iv r.1) (fun r y => [W5 b0 y.1 r.2.2, ao (aj y.1 ar ak y.2) ai y.2 r.2.1]) := by
 unfold eC.f
 refine aO 32 Tryz.func64 O Tryz.ntmps64 O (sr (va O O (ae (aa (ay (aR (sr (vm O O (vn O O (vq (ap O O underlying97 O O sizeOf4 O) O (vq (ag O O isAgg4 (.obj 0 O O)) O (va O O (ae (aa ?_))))))))))))))
 refine aZ O (fun t => ?_) (fun u => ?_)
 refine sr (va O O (ae (aa (aA (bp (aN ?_))))))
 exact aE (a, b) O O O (.s O (.s O (.s O .n)))
 refine sr (vm O O (vm O O (ax (fun v i => (ah (av (vs := [Pt b0, str x1]) (cap := []) (A := [W0 b0 a d e g, ao (aj a ar ak b) ai b c]) (rst := [F]) O O O O O O call57 (.s O (.s O (.s O .n))) (cY.calls _ _ b0 a b c d e g x1 ) i) O O O ?_)))))
 intro w
 refine vq (fK O O) O (va O O (ae (aa ?_)))
 refine aZ O (fun x => ?_) (fun z => ?_)
 refine sr (va O O (ae (aa (aA (bp (aN ?_))))))
 exact aE (a, b) O O O (.s O (.s O (.s O .n)))
 refine sr (vm O O (ax (fun h j => (ah (av (vs := [Pt b0]) (cap := []) (A := [W0 b0 a d e g, ao (aj a ar ak b) ai b c]) (rst := [F]) O O O O O O call58 (.s O (.s O (.s O .n))) (bR.calls _ _ b0 a b c d e g ) j) O O O ?_))))
 intro k
 refine va O O (ae (aa ?_))
 refine aZ O (fun l => ?_) (fun m => ?_)
 refine sr (va O O (ae (aa (aA (bp (aN ?_))))))
 exact aE (a, b) O O O (.s O (.s O (.s O .n)))
 refine aC (bo (aa (sr (vm O O (vn O O (vq (ap O O underlying97 O O sizeOf95 O) O (vq (ag O O isAgg95 (.obj 0 O O)) O (vm O O (aY (wq (ek := ar) 1 x1 O O O O underlying95 km O) O O ?_)))))))))
 intro _
 refine ae (aa ?_)
 refine bJ (S := Lb) Unit (fun s y => []) (fun s y => [W0 b0 a s h.2.2.1 h.2.2.2, ao (aj a ar ak (dM b x1)) ai (dM b x1) (dM c x1), F]) ?_ ?_
 refine sr (vm O O (vn O O (vq (ap O O underlying97 O O sizeOf9 O) O (vq (ag O O isAgg9 (.obj 0 O O)) O (vm O O (vq (wP O O O) O (ae (aa ?_))))))))
 refine bn O (fun n => ?_) (fun o => ?_)
 refine aI (vm O O (vn O O (vq (ap O O underlying97 O O sizeOf9 O) O (aY (aJ 0 O O O sizeOf9 O O (aP (by rfl)) O O) O O ?_))))
 intro _
 refine ae ?_
 exact aG (s := ([] : Lb)) () trivial (.s O (.s O (.s O .n)))
 refine aC ?_
 exact aG (s := h.2.1) () trivial (.s O (.s O (.s O .n)))
 intro p q
 refine sr (va O O (ae (aa (aA ?_))))
 exact aE (a, dM b x1) O O O (.s O (.s O (.s O .n)))

def eT.f (x0 : List UInt8) : Option (List UInt8 × Int × Int) := (fx.f x0).bind fun a => (some (a, 0, 0))
theorem eT.calls (W : World) (F : HA) (a0 : Option Addr) (c0 : Nat) (x0 : Lb) (h0 : Rd F a0 (aB x0)) (c : x0.length ≤ c0) (d : c0 ≤ maxLen) :
    Fn Tryz.prog W 100 [.slice a0 x0.length c0] [] F (eT.f x0) (fun (r : Lb × Int × Int) (y : Nat × Option Addr × Nat) => Pt y.1) (fun r y => [W19 y.1 r y.2.1 y.2.2, Row 5 1 y.2.1 r.1.length y.2.2 (aB r.1)]) := by
 unfold eT.f
 refine aO 7 Tryz.func100 O Tryz.ntmps100 O (sr (va O O (nx (vm O O (ax (fun e b => (ah (av (vs := [.slice a0 x0.length c0]) (cap := []) (A := []) (rst := [F]) O O O O O O call110 (.s O .n) (fx.calls _ _ a0 c0 x0 (h0.lend 0 O) c d) b) O O O ?_)))))))
 intro a
 refine vq (di (v := .agg #[.slice a.1 e.length a.2, Iv 0, Iv 0]) O O (fun _ => by kernel_rfl)) O (ah (cq O O O) O O O ?_)
 intro g
 refine va O O (ae (aa (aA ?_)))
 exact aE (g, a) O O O (.s O (.s O (.s O .n)))

def fb.l0 (x0 : List UInt8) (x1 : Int) : Nat → Int → Int → Option ((Unit) ⊕ (Int × Int × Int))
  | 0, _, _ => none
  | k + 1, b, a => if a < (9 : Int) then (if IntKind.i64.wrap ((x0.length : Int) - x1) ≤ a then (some (.inr (0, 0, 2))) else (if 0 ≤ IntKind.i64.wrap (x1 + a) ∧ IntKind.i64.wrap (x1 + a) < (x0.length : Int) then (if 0 ≤ IntKind.i64.wrap (7 * a) then (if (128 : Int) ≤ ((x0.getD (IntKind.i64.wrap (x1 + a)).toNat 0).toNat : Int) then (fb.l0 x0 x1 k (bU .or .i64 b (IntKind.i64.wrap ((IntKind.i64.wrap (bU .and .u8 ((x0.getD (IntKind.i64.wrap (x1 + a)).toNat 0).toNat : Int) 127)) * 2 ^ (min (IntKind.i64.wrap (7 * a)).toNat IntKind.i64.bits)))) (IntKind.i64.wrap (a + 1))) else (if ((decide (((x0.getD (IntKind.i64.wrap (x1 + a)).toNat 0).toNat : Int) = (0 : Int))) && (decide ((0 : Int) < a))) = true then (some (.inr (0, 0, 4))) else (if (4611686018427387904 : Int) < bU .or .i64 b (IntKind.i64.wrap ((IntKind.i64.wrap (bU .and .u8 ((x0.getD (IntKind.i64.wrap (x1 + a)).toNat 0).toNat : Int) 127)) * 2 ^ (min (IntKind.i64.wrap (7 * a)).toNat IntKind.i64.bits))) then (some (.inr (0, 0, 1))) else (some (.inr (bU .or .i64 b (IntKind.i64.wrap ((IntKind.i64.wrap (bU .and .u8 ((x0.getD (IntKind.i64.wrap (x1 + a)).toNat 0).toNat : Int) 127)) * 2 ^ (min (IntKind.i64.wrap (7 * a)).toNat IntKind.i64.bits))), IntKind.i64.wrap (a + 1), 0)))))) else none) else none)) else (some (.inl ()))
def fb.f (k : Nat) (x0 : List UInt8) (x1 : Int) : Option (Int × Int × Int) := if ((decide (x1 < (0 : Int))) || (decide ((x0.length : Int) ≤ x1))) = true then (some (0, 0, 2)) else (orR (fb.l0 x0 x1 k 0 0) fun a => (some (0, 0, 4)))
theorem fb.calls (W : World) (F : HA) (k : Nat) (a0 : Option Addr) (c0 : Nat) (x0 : Lb) (x1 : Int) (h0 : Rd F a0 (aB x0)) (af : x0.length ≤ c0) (al : c0 ≤ maxLen) :
    Fn Tryz.prog W 143 [.slice a0 x0.length c0, Iv x1] [] F (fb.f k x0 x1) (fun (r : Int × Int × Int) (y : Unit) => .tuple #[Iv r.1, Iv r.2.1, Iv r.2.2]) (fun r y => []) := by
 unfold fb.f
 refine aO 55 Tryz.func143 O Tryz.ntmps143 O (sr (va O O (va O O (va O O (ae (aa (ay (sr (vm O O (vq (cL O O O) O (vm O O (aw (b := decide (x1 < (0 : Int))) (fun l => RQ.sub (E' := [(1, Iv x1)]) ⟨O, trivial⟩ (bh O O)) O O O O O (aw (b := decide (x1 < (0 : Int))) (fun m => RQ.sub (E' := [(0, .slice a0 x0.length c0)]) ⟨O, trivial⟩ (bh O O)) O O O O O (aw (b := decide (x1 < (0 : Int))) (fun g => RQ.sub (E' := [(14, .slice a0 x0.length c0)]) ⟨aH O g, trivial⟩ (bx O O O underlying33)) O O O O O (aw (b := decide (x1 < (0 : Int))) (fun c => RQ.sub (E' := [(13, Iv x1), (15, Iv (x0.length : Int))]) ⟨aH O c, aH O c, trivial⟩ (kq O O O)) O O O O O (vq (fI O O O) O (ae (aa ?_))))))))))))))))))
 refine aZ O (fun an => ?_) (fun az => ?_)
 refine sr (va O O (va O O (va O O (ae (aa (aA (aN ?_)))))))
 exact aE () O O O (.s O .n)
 refine aC (aa (sr (va O O (ae (aa ?_)))))
 refine gi (S := Unit) Unit (fun s y => []) (fun s y => [F]) ?_ ?_
 refine sr (va O O (ae (aa (aR ?_))))
 refine ck (S := Int × Int) Unit (fun k s => fb.l0 x0 x1 k s.1 s.2) (fun s y => [(0, .slice a0 x0.length c0), (1, Iv x1), (7, Iv s.1), (8, Iv s.2)]) (fun s y => [F]) (fun _ => by rw [fb.l0]) ?_ k (0, 0) () ⟨O, O, O, O, trivial⟩ (.s O .n)
 intro k a a1
 refine cS (by rw [fb.l0]) (ay (sr (vm O O (vq (cL O O O) O (ae (aa ?_))))))
 refine bn O (fun a2 => ?_) (fun p => ?_)
 refine aC (aa (ay (aR (ay (sr (vm O O (vm O O (vq (bx O O O underlying33) O (vm O O (vq (dC O O O) O (vq (kq O O O) O (ae (aa ?_)))))))))))))
 refine bn O (fun q => ?_) (fun t => ?_)
 refine sr (va O O (va O O (va O O (ae (aa (aA (aN (bp (aN (fw (bp (fi ?_))))))))))))
 exact aE () O O O (.s O .n)
 refine aC (aa (sr (vm O O (vm O O (vm O O (vq (bY O O O) O (bg (fun d => ?_))))))))
 obtain ⟨u, n, e⟩ := h0.pos (iS (j := (IntKind.i64.wrap (x1 + a.2)).toNat) (by omega))
 refine vq (jv O O O e underlying33 sizeOf5 d.1 d.2) O (vq (ag O O isAgg5 (h0.cell 0 O e (il (by omega)))) O (va O O (nx (vm O O (vm O O (vq (qO O O O) O (vq (gA O O underlying5 underlying3) O (vm O O (vq (wT O O O) O (bg (fun h => (vq (ql O O O h) O (vq (oy O O O) O (va O O (ae (aa (ay (sr (vm O O (vq (kq O O O) O (ae (aa ?_))))))))))))))))))))))
 refine bn O (fun v => ?_) (fun w => ?_)
 refine cA (ce (cf (aa (aI (vm O O (vq (bY O O O) O (va O O (ae ?_))))))))
 exact bM (s := (bU .or .i64 a.1 (IntKind.i64.wrap ((IntKind.i64.wrap (bU .and .u8 ((x0.getD (IntKind.i64.wrap (x1 + a.2)).toNat 0).toNat : Int) 127)) * 2 ^ (min (IntKind.i64.wrap (7 * a.2)).toNat IntKind.i64.bits))), IntKind.i64.wrap (a.2 + 1))) () ⟨O, O, O, O, trivial⟩ (.s O .n)
 refine aC (aa (ay (sr (vm O O (vq (bW O O O) O (vm O O (aw (b := decide (((x0.getD (IntKind.i64.wrap (x1 + a.2)).toNat 0).toNat : Int) = (0 : Int))) (fun o => RQ.sub (E' := [(8, Iv a.2)]) ⟨O, trivial⟩ (bh O O)) O O O O O (aw (b := decide (((x0.getD (IntKind.i64.wrap (x1 + a.2)).toNat 0).toNat : Int) = (0 : Int))) (fun i => RQ.sub (E' := [(47, Iv a.2)]) ⟨aH O i, trivial⟩ (cW O O O)) O O O O O (vq (dK O O O) O (ae (aa ?_)))))))))))
 refine aZ O (fun x => ?_) (fun z => ?_)
 refine sr (va O O (va O O (va O O (ae (aa (aA (aN (bp (aN (fw (bp (fi ?_))))))))))))
 exact aE () O O O (.s O .n)
 refine aC (aa (ay (sr (vm O O (vq (cW O O O) O (ae (aa ?_)))))))
 refine bn O (fun ab => ?_) (fun ad => ?_)
 refine sr (va O O (va O O (va O O (ae (aa (aA (aN (bp (aN (fw (bp (fi ?_))))))))))))
 exact aE () O O O (.s O .n)
 refine aC (aa (sr (vm O O (vm O O (vq (bY O O O) O (va O O (va O O (va O O (ae (aa (aA (bp (aN (fw (bp (fi ?_))))))))))))))))
 exact aE () O O O (.s O .n)
 refine cA (ce (cl (cf ?_)))
 exact fN (s := ()) () trivial (.s O .n)
 intro a3 a4
 refine sr (va O O (va O O (va O O (ae (aa (aA ?_))))))
 exact aE () O O O (.s O .n)

def eE.f (k : Nat) (d : List UInt8) (a : Int) (c : Int) : Option (Int × Int × Bool × Int × Int) := if c = (0 : Int) then ((fb.f k d a).bind fun b => (some (b.1, b.2.1, decide (b.2.2 = (0 : Int)), a, b.2.2))) else (some (0, 0, false, a, c))
theorem eE.calls (W : World) (F : HA) (k : Nat) (b0 : Nat) (d : Option Addr) (c : Nat) (a : Lb) (e : Int) (g : Int) (m : Rd F d (aB a)) (h : a.length ≤ c) (l : c ≤ maxLen) :
    Fn Tryz.prog W 123 [Pt b0] [W20 b0 a e g d c] F (eE.f k a e g) (fun (r : Int × Int × Bool × Int × Int) (y : Unit) => .tuple #[Iv r.1, Iv r.2.1, .bool r.2.2.1]) (fun r y => [W20 b0 a r.2.2.2.1 r.q4 d c]) := by
 unfold eE.f
 refine aO 34 Tryz.func123 O Tryz.ntmps123 O (sr (va O O (va O O (va O O (ae (aa (ay (sr (vm O O (vn O O (vq (ap O O underlying180 O O sizeOf23 O) O (vq (ag O O isAgg23 (.obj 0 O O)) O (vq (dp O O O) O (ae (aa ?_)))))))))))))))
 refine dd O (fun p => ?_) (fun q => ?_)
 refine aC (aa (ay (bv (fun b n => ?_))))
 refine bi (Γ := Unit) () [[], [0], [0, 1], [0, 1, 2], [], [4], [4, 5], [4, 5, 6], rL 8, rL 9, rL 10, rL 10, rL 10, rL 11, [0, 1, 2, 3, 4, 5, 6, 7, 8, 9, 10, 11, 13], rL 15] [8] [0, 1, 2, 3, 4, 5, 6, 7, 9, 10, 11, 12, 13, 14, 15] (fun i => [[0], [0], [0], [0], [0], [0], [0], [0], [], [1], [1], [1], [1], [1], [1], [1]].getD i []) (fun i => [[], [], [], [], [], [], [], [], rL 8, [], [], [], [], [], [], []].getD i []) (fun γ i => [Pt b0, Pt b0, Pt b0, .slice d a.length c, Pt b0, Pt b0, .pointer (some ⟨b0, 1, none⟩), Iv e, .tuple #[Iv b.1, Iv b.2.1, Iv b.2.2], .tuple #[Iv b.1, Iv b.2.1, Iv b.2.2], Iv b.1, Iv b.2.1, Iv b.2.2, Iv b.1, Iv b.2.1, Iv b.2.2].getD i undef) (fun j γ => [[W20 b0 a e g d c, F], [W20 b0 a e g d c, F]].getD j []) (fun γ => [(0, Pt b0), (5, Iv b.1), (6, Iv b.2.1), (7, Iv b.2.2)]) mixed (by decide) (by decide) (by decide) (by decide) (by decide) (by decide) (by decide) 34 O (by decide) (by decide) (by decide) (Ent.refl _) ?_ ?_ (fun _ => ⟨O, O, O, O, trivial⟩) ?_
 exact (aq O (fun γ => qm O (.o (s := 0) O (by decide) .nil) O) (aq O (fun γ => qp O O (.v 0 O O .nil) (aW O O) O) (aq O (fun γ => qp O O (.v 1 O O .nil) (ap O O underlying180 O O sizeOf33 O) O) (aq O (fun γ => qp O O (.v 2 O O .nil) (ag O O isAgg33 (.obj 0 O O)) O) (aq O (fun γ => qm O (.o (s := 0) O (by decide) .nil) O) (aq O (fun γ => qp O O (.v 4 O O .nil) (aW O O) O) (aq O (fun γ => qp O O (.v 5 O O .nil) (ap O O underlying180 O O sizeOf3 O) O) (aq O (fun γ => qp O O (.v 6 O O .nil) (ag O O isAgg3 (.obj 0 O O)) O) (aq O (fun γ => qm O (.v 8 O O .nil) O) (aq O (fun γ => qp O O (.v 9 O O .nil) (bI O O O) O) (aq O (fun γ => qp O O (.v 9 O O .nil) (bI O O O) O) (aq O (fun γ => qp O O (.v 9 O O .nil) (bI O O O) O) (aq O (fun γ => qp O O (.v 10 O O .nil) (cK O O) O) (aq O (fun γ => qp O O (.v 11 O O .nil) (cK O O) O) (aq O (fun γ => qp O O (.v 12 O O .nil) (cK O O) O) zA)))))))))))))))
 exact (ac (fun γ => eo (Z := Unit) (fun z => ()) O O (.v 3 O O (.v 7 O O .nil)) (av (val := fun (r : Int × Int × Int) (y : Unit) => .tuple #[Iv r.1, Iv r.2.1, Iv r.2.2]) (B := fun _ _ => []) (vs := [.slice d a.length c, Iv e]) (cap := []) (A := []) (rst := [W20 b0 a e g d c, F]) O O O O O O call143 (.s O (.s O .n)) (fb.calls _ _ k d c a e (m.lend 1 O) h l) n) (fun _ => ⟨O, O, O, O, O, O, O, O, trivial⟩) (fun _ => .inr O) (fun z => Ent.refl _)) zA)
 intro t
 refine aa (sr (vm O O (vm O O (vn O O (vq (ap O O underlying180 O O sizeOf23 O) O (aY (aJ 0 O O O sizeOf23 O O (aP (by rfl)) O O) O O ?_))))))
 intro _
 refine nx (vm O O (vm O O (vm O O (vq (bW O O O) O (va O O (va O O (va O O (ae (aa (aA ?_))))))))))
 exact aE () O O O (.s O (.s O .n))
 refine sr (va O O (va O O (va O O (ae (aa (aA (aN ?_)))))))
 exact aE () O O O (.s O (.s O .n))

def bF.f (k : Nat) (b : List UInt8) (c : Int) (d : Int) : Option (Int × Int × Int) := (eE.f k b c d).bind fun a => (if (!a.2.2.1) = true then (some (0, a.2.2.2.1, a.2.2.2.2)) else (some (a.1, IntKind.i64.wrap (a.2.2.2.1 + a.2.1), a.2.2.2.2)))
theorem bF.calls (W : World) (F : HA) (k : Nat) (b0 : Nat) (c : Option Addr) (b : Nat) (a : Lb) (d : Int) (e : Int) (i : Rd F c (aB a)) (g : a.length ≤ b) (h : b ≤ maxLen) :
    Fn Tryz.prog W 101 [Pt b0] [W20 b0 a d e c b] F (bF.f k a d e) (fun (r : Int × Int × Int) (y : Unit) => Iv r.1) (fun r y => [W20 b0 a r.2.1 r.2.2 c b]) := by
 unfold bF.f
 refine aO 23 Tryz.func101 O Tryz.ntmps101 O (sr (va O O (nx (vm O O (ax (fun l j => (ah (av (vs := [Pt b0]) (cap := []) (A := [W20 b0 a d e c b]) (rst := [F]) O O O O O O call123 (.s O (.s O .n)) (eE.calls _ _ k b0 c b a d e (i.lend 0 O) g h) j) O O O ?_)))))))
 intro m
 refine vm O O (vq (bI O O O) O (vq (bI O O O) O (vq (bI O O O) O (va O O (va O O (va O O (ae (aa (ay (sr (vm O O (vq (fK O O) O (ae (aa ?_))))))))))))))
 refine aZ O (fun n => ?_) (fun o => ?_)
 refine sr (va O O (ae (aa (aA (aN ?_)))))
 exact aE () O O O (.s O (.s O .n))
 refine aC (aa (sr (vm O O (vn O O (vq (ap O O underlying180 O O sizeOf3 O) O (vq (ag O O isAgg3 (.obj 0 O O)) O (vm O O (vq (bY O O O) O (vn O O (vq (ap O O underlying180 O O sizeOf3 O) O (aY (aJ 0 O O O sizeOf3 O O (aP (by rfl)) O O) O O ?_)))))))))))
 intro _
 refine nx (vm O O (va O O (ae (aa (aA ?_)))))
 exact aE () O O O (.s O (.s O .n))

def dy.f (b : Int) (a : Int) (c : Int) : Option (Int) := (ct.f b (0 : Int)).bind fun d => ((if (!d) = true then (some true) else ((ct.f c (0 : Int)).bind fun e => (some (!e)))).bind fun g => (if ((g || (decide (a < (0 : Int)))) || (decide ((7 : Int) < a))) = true then (some 1) else (if ((!decide (a = (0 : Int))) && (decide (b = (0 : Int)))) = true then (some 4) else (some 0))))
theorem dy.calls (W : World) (F : HA) (c : Int) (a : Int) (e : Int)  :
    Fn Tryz.prog W 78 [.agg #[], .agg #[Iv c, Iv a, Iv e]] [] F (dy.f c a e) (fun (r : Int) (y : Unit) => Iv r) (fun r y => []) := by
 unfold dy.f
 refine aO 35 Tryz.func78 O Tryz.ntmps78 O (sr (ah (cq O O O) O O O ?_))
 intro p
 refine ah (cq O O O) O O O ?_
 intro d
 refine va O O (ae (aa (ay (aR (sr (vq (ap O O underlying43 O O sizeOf3 O) O (vq (ag O O isAgg3 (.obj 0 O O)) O (ax (fun an q => (ah (av (vs := [Iv c, Iv 0]) (cap := []) (A := []) (rst := [W9 d c a e, obj p 129 [], F]) O O O O O O call105 (.s O (.s O (.s O .n))) (ct.calls _ _ c (0 : Int) ) q) O O O ?_))))))))))
 intro az
 refine vq (fK O O) O (vm O O ?_)
 refine dG 5 (S := Bool) Unit (fun s y => [(3, Pt d), (15, .bool s)]) (fun s y => [W9 d c a e, F]) ?_ ?_
 refine fv (fun h => ?_) (fun i => ?_)
 rw [h]
 refine aD O O O O O O (aD O O O O O O (aD O O O O O O (aD O O O O O O (vq (bS O O O O O) O (ae ?_)))))
 exact aG (s := true) () ⟨O, O, trivial⟩ (.s O (.sel 1 O .n))
 rw [i]
 refine aL (ap O O underlying43 O O sizeOf3 O) O O O O O O (aL (ag O O isAgg3 (.obj 0 O O)) O O O O O O (ax (fun u t => (ga (av (vs := [Iv e, Iv 0]) (cap := []) (A := []) (rst := [W9 d c a e, obj p 129 [], F]) O O O O O O call105 (.s O (.s O (.s O .n))) (ct.calls _ _ e (0 : Int) ) t) O O O O O O ?_))))
 intro z
 refine aL (fK O O) O O O O O O (vq (bS O O O O O) O (ae ?_))
 exact aG (s := !u) () ⟨O, O, trivial⟩ (.s O (.sel 1 O .n))
 intro g a0
 refine vm O O (aw (b := g) (fun v => RQ.sub (E' := [(3, Pt d)]) ⟨O, trivial⟩ (ap O O underlying43 O O sizeOf3 O)) O O O O O (aw (b := g) (fun j => RQ.sub (E' := [(17, .pointer (some ⟨d, 1, none⟩))]) ⟨aH O j, trivial⟩ (ag O O isAgg3 (.obj 0 O O))) O O O O O (aw (b := g) (fun k => RQ.sub (E' := [(18, Iv a)]) ⟨aH O k, trivial⟩ (cL O O O)) O O O O O (vq (fI O O O) O (vm O O (aw (b := g || (decide (a < (0 : Int)))) (fun w => RQ.sub (E' := [(3, Pt d)]) ⟨O, trivial⟩ (ap O O underlying43 O O sizeOf3 O)) O O O O O (aw (b := g || (decide (a < (0 : Int)))) (fun l => RQ.sub (E' := [(22, .pointer (some ⟨d, 1, none⟩))]) ⟨aH O l, trivial⟩ (ag O O isAgg3 (.obj 0 O O))) O O O O O (aw (b := g || (decide (a < (0 : Int)))) (fun m => RQ.sub (E' := [(23, Iv a)]) ⟨aH O m, trivial⟩ (cW O O O)) O O O O O (vq (fI O O O) O (va O O (ae (aa ?_))))))))))))
 refine aZ O (fun ab => ?_) (fun ad => ?_)
 refine sr (va O O (ae (aa (aA (bp (aN ?_))))))
 exact aE () O O O (.sel 1 O .n)
 refine sr (vq (ap O O underlying43 O O sizeOf3 O) O (vq (ag O O isAgg3 (.obj 0 O O)) O (vq (dp O O O) O (vm O O (aw (b := !decide (a = (0 : Int))) (fun x => RQ.sub (E' := [(3, Pt d)]) ⟨O, trivial⟩ (ap O O underlying43 O O sizeOf3 O)) O O O O O (aw (b := !decide (a = (0 : Int))) (fun n => RQ.sub (E' := [(31, Pt d)]) ⟨aH O n, trivial⟩ (ag O O isAgg3 (.obj 0 O O))) O O O O O (aw (b := !decide (a = (0 : Int))) (fun o => RQ.sub (E' := [(32, Iv c)]) ⟨aH O o, trivial⟩ (bW O O O)) O O O O O (vq (dK O O O) O (va O O (ae (aa ?_)))))))))))
 refine aZ O (fun af => ?_) (fun al => ?_)
 refine sr (va O O (ae (aa (aA (bp (aN ?_))))))
 exact aE () O O O (.sel 1 O .n)
 refine aC (bo (aa (sr (va O O (ae (aa (aA ?_)))))))
 exact aE () O O O (.sel 1 O .n)

def dv.f (k : Nat) (b : List UInt8) (c : Int) (d : Int) (x1 : Int) : Option (List UInt8 × Int × Int) := (eE.f k b c d).bind fun a => (if (!a.2.2.1) = true then (some (([] : List UInt8), a.2.2.2.1, a.2.2.2.2)) else (if max x1 (0 : Int) < a.1 then (some (([] : List UInt8), a.2.2.2.1, 3)) else (if IntKind.i64.wrap ((IntKind.i64.wrap ((b.length : Int) - a.2.2.2.1)) - a.2.1) < a.1 then (some (([] : List UInt8), a.2.2.2.1, 2)) else (if 0 ≤ IntKind.i64.wrap (a.2.2.2.1 + a.2.1) ∧ IntKind.i64.wrap (a.2.2.2.1 + a.2.1) ≤ IntKind.i64.wrap ((IntKind.i64.wrap (a.2.2.2.1 + a.2.1)) + a.1) ∧ IntKind.i64.wrap ((IntKind.i64.wrap (a.2.2.2.1 + a.2.1)) + a.1) ≤ (b.length : Int) then ((fx.f (cut b (IntKind.i64.wrap (a.2.2.2.1 + a.2.1)) (IntKind.i64.wrap ((IntKind.i64.wrap (a.2.2.2.1 + a.2.1)) + a.1)))).bind fun e => (some (e, IntKind.i64.wrap ((IntKind.i64.wrap (a.2.2.2.1 + a.2.1)) + a.1), a.2.2.2.2))) else none))))
theorem dv.calls (W : World) (F : HA) (k : Nat) (b0 : Nat) (d : Option Addr) (c : Nat) (b : Lb) (g : Int) (h : Int) (x1 : Int) (u : Rd F d (aB b)) (m : b.length ≤ c) (q : c ≤ maxLen) :
    Fn Tryz.prog W 103 [Pt b0, Iv x1] [W20 b0 b g h d c] F (dv.f k b g h x1) (fun (r : Lb × Int × Int) (y : Option Addr × Nat) => .slice y.1 r.1.length y.2) (fun r y => [Row 5 1 y.1 r.1.length y.2 (aB r.1), W20 b0 b r.2.1 r.2.2 d c]) := by
 unfold dv.f
 refine aO 67 Tryz.func103 O Tryz.ntmps103 O (sr (va O O (nx (vm O O (ax (fun a an => (ah (av (vs := [Pt b0]) (cap := []) (A := [W20 b0 b g h d c]) (rst := [F]) O O O O O O call123 (.s O (.s O .n)) (eE.calls _ _ k b0 d c b g h (u.lend 0 O) m q) an) O O O ?_)))))))
 intro a0
 refine vm O O (vq (bI O O O) O (vq (bI O O O) O (vq (bI O O O) O (va O O (va O O (va O O (ae (aa (ay (aR (sr (vm O O (vq (fK O O) O (va O O (ae (aa ?_))))))))))))))))
 refine aZ O (fun a1 => ?_) (fun a2 => ?_)
 refine sr (va O O (ae (aa (aA (bp (aN ?_))))))
 exact aE (none, 0) O O O (.row_nil (.s O (.s O .n)))
 refine sr (vm O O (vm O O (vq (tE O O O) O (vq (cW O O O) O (va O O (ae (aa ?_)))))))
 refine bn O (fun a3 => ?_) (fun a4 => ?_)
 refine sr (vm O O (vn O O (vq (ap O O underlying180 O O sizeOf23 O) O (aY (aJ 0 O O O sizeOf23 O O (aP (by rfl)) O O) O O ?_))))
 intro _
 refine nx (va O O (ae (aa (aA (bp (aN ?_))))))
 exact aE (none, 0) O O O (.row_nil (.s O (.s O .n)))
 refine ay ?_
 refine bi (Γ := Unit) () [[], [], [1], [1, 2], [1, 2, 3], [1, 2, 3, 4], [], [6], [6, 7], [6, 7, 8], [1, 2, 3, 4, 5, 6, 7, 8, 9], [], [1, 2, 3, 4, 5, 6, 7, 8, 9, 10, 11], rL 13, rL 14] [] [0, 1, 2, 3, 4, 5, 6, 7, 8, 9, 10, 11, 12, 13, 14] (fun i => [[0], [0], [0], [0], [0], [0], [0], [0], [0], [0], [0], [0], [0], [0], [0]].getD i []) (fun i => [[], [], [], [], [], [], [], [], [], [], [], [], [], [], []].getD i []) (fun γ i => [Iv a.1, Pt b0, Pt b0, Pt b0, .slice d b.length c, Iv (b.length : Int), Pt b0, Pt b0, .pointer (some ⟨b0, 1, none⟩), Iv a.2.2.2.1, Iv (IntKind.i64.wrap ((b.length : Int) - a.2.2.2.1)), Iv a.2.1, Iv (IntKind.i64.wrap ((IntKind.i64.wrap ((b.length : Int) - a.2.2.2.1)) - a.2.1)), .bool (decide (IntKind.i64.wrap ((IntKind.i64.wrap ((b.length : Int) - a.2.2.2.1)) - a.2.1) < a.1)), .bool (decide (IntKind.i64.wrap ((IntKind.i64.wrap ((b.length : Int) - a.2.2.2.1)) - a.2.1) < a.1))].getD i undef) (fun j γ => [[W20 b0 b a.2.2.2.1 a.q4 d c, F]].getD j []) (fun γ => [(0, Pt b0), (5, Iv a.1), (6, Iv a.2.1), (26, .bool (decide (IntKind.i64.wrap ((IntKind.i64.wrap ((b.length : Int) - a.2.2.2.1)) - a.2.1) < a.1)))]) mixed (by decide) (by decide) (by decide) (by decide) (by decide) (by decide) (by decide) 67 O (by decide) (by decide) (by decide) (Ent.refl _) ?_ ?_ (fun _ => ⟨O, O, O, O, trivial⟩) ?_
 exact (aq O (fun γ => qm O (.o (s := 5) O (by decide) .nil) O) (aq O (fun γ => qm O (.o (s := 0) O (by decide) .nil) O) (aq O (fun γ => qp O O (.v 1 O O .nil) (aW O O) O) (aq O (fun γ => qp O O (.v 2 O O .nil) (ap O O underlying180 O O sizeOf33 O) O) (aq O (fun γ => qp O O (.v 3 O O .nil) (ag O O isAgg33 (.obj 0 O O)) O) (aq O (fun γ => qp O O (.v 4 O O .nil) (bx O O O underlying33) O) (aq O (fun γ => qm O (.o (s := 0) O (by decide) .nil) O) (aq O (fun γ => qp O O (.v 6 O O .nil) (aW O O) O) (aq O (fun γ => qp O O (.v 7 O O .nil) (ap O O underlying180 O O sizeOf3 O) O) (aq O (fun γ => qp O O (.v 8 O O .nil) (ag O O isAgg3 (.obj 0 O O)) O) (aq O (fun γ => qp O O (.v 5 O O (.v 9 O O .nil)) (dC O O O) O) (aq O (fun γ => qm O (.o (s := 6) O (by decide) .nil) O) (aq O (fun γ => qp O O (.v 10 O O (.v 11 O O .nil)) (dC O O O) O) (aq O (fun γ => qp O O (.v 0 O O (.v 12 O O .nil)) (cW O O O) O) (aq O (fun γ => qp O O (.v 13 O O .nil) (cK O O) O) zA)))))))))))))))
 exact zA
 intro a5
 refine aa ?_
 refine bn O (fun a6 => ?_) (fun az => ?_)
 refine sr (vm O O (vn O O (vq (ap O O underlying180 O O sizeOf23 O) O (aY (aJ 0 O O O sizeOf23 O O (aP (by rfl)) O O) O O ?_))))
 intro _
 refine nx (va O O (ae (aa (aA (bp (aN ?_))))))
 exact aE (none, 0) O O O (.row_nil (.s O (.s O .n)))
 refine aC (bo (aa (sr (vm O O (vn O O (vq (ap O O underlying180 O O sizeOf3 O) O (vq (ag O O isAgg3 (.obj 0 O O)) O (vm O O (vq (bY O O O) O (va O O (nx (vm O O (vm O O (vm O O (vq (bY O O O) O (vn O O (vq (ap O O underlying180 O O sizeOf3 O) O (aY (aJ 0 O O O sizeOf3 O O (aP (by rfl)) O O) O O ?_))))))))))))))))))
 intro _
 refine ae (aa (ay (cG (fun t => ?_))))
 obtain ⟨n, p, x, ab, ad, af⟩ := iJ (lo := IntKind.i64.wrap (a.2.2.2.1 + a.2.1)) (hi := IntKind.i64.wrap ((IntKind.i64.wrap (a.2.2.2.1 + a.2.1)) + a.1)) u m t
 refine bv (fun e al => ?_)
 refine bi (Γ := (Option Addr × Nat)) (none, 0) [[], [0], [0, 1], [0, 1, 2], [], [], [5], [5, 6], [5, 6, 7], rL 9, rL 10, rL 11] [10] [0, 1, 2, 3, 4, 5, 6, 7, 8, 9, 11] (fun i => [[0], [0], [0], [0], [0], [0], [0], [0], [0], [0], [], [1]].getD i []) (fun i => [[], [], [], [], [], [], [], [], [], [], rL 10, []].getD i []) (fun γ i => [Pt b0, Pt b0, Pt b0, .slice d b.length c, Iv (IntKind.i64.wrap (a.2.2.2.1 + a.2.1)), Pt b0, Pt b0, .pointer (some ⟨b0, 1, none⟩), Iv (IntKind.i64.wrap ((IntKind.i64.wrap (a.2.2.2.1 + a.2.1)) + a.1)), .slice n ((cut b (IntKind.i64.wrap (a.2.2.2.1 + a.2.1)) (IntKind.i64.wrap ((IntKind.i64.wrap (a.2.2.2.1 + a.2.1)) + a.1))).length) p, .slice γ.1 e.length γ.2, .slice γ.1 e.length γ.2].getD i undef) (fun j γ => [[W20 b0 b (IntKind.i64.wrap ((IntKind.i64.wrap (a.2.2.2.1 + a.2.1)) + a.1)) a.q4 d c, F], [Row 5 1 γ.1 e.length γ.2 (aB e), W20 b0 b (IntKind.i64.wrap ((IntKind.i64.wrap (a.2.2.2.1 + a.2.1)) + a.1)) a.q4 d c, F]].getD j []) (fun γ => [(4, .slice γ.1 e.length γ.2)]) mixed (by decide) (by decide) (by decide) (by decide) (by decide) (by decide) (by decide) 67 O (by decide) (by decide) (by decide) (Ent.refl _) ?_ ?_ (fun _ => ⟨O, trivial⟩) ?_
 exact (aq O (fun γ => qm O (.o (s := 0) O (by decide) .nil) O) (aq O (fun γ => qp O O (.v 0 O O .nil) (aW O O) O) (aq O (fun γ => qp O O (.v 1 O O .nil) (ap O O underlying180 O O sizeOf33 O) O) (aq O (fun γ => qp O O (.v 2 O O .nil) (ag O O isAgg33 (.obj 0 O O)) O) (aq O (fun γ => qm O (.o (s := 8) O (by decide) .nil) O) (aq O (fun γ => qm O (.o (s := 0) O (by decide) .nil) O) (aq O (fun γ => qp O O (.v 5 O O .nil) (aW O O) O) (aq O (fun γ => qp O O (.v 6 O O .nil) (ap O O underlying180 O O sizeOf3 O) O) (aq O (fun γ => qp O O (.v 7 O O .nil) (ag O O isAgg3 (.obj 0 O O)) O) (aq O (fun γ => qp O O (.v 3 O O (.v 4 O O (.v 8 O O .nil))) (im (l := b) (lo' := IntKind.i64.wrap (a.2.2.2.1 + a.2.1)) (hi' := IntKind.i64.wrap ((IntKind.i64.wrap (a.2.2.2.1 + a.2.1)) + a.1)) O O O O underlying33 sizeOf5 (.inr ⟨_, O⟩) (.inr ⟨_, O⟩) t m x) O) (aq O (fun γ => qp O O (.v 10 O O .nil) (cK O O) O) zA)))))))))))
 exact (ac (fun γ => eo (Z := Option Addr × Nat) (fun z => z) O O (.v 9 O O .nil) (av (vs := [.slice n ((cut b (IntKind.i64.wrap (a.2.2.2.1 + a.2.1)) (IntKind.i64.wrap ((IntKind.i64.wrap (a.2.2.2.1 + a.2.1)) + a.1))).length) p]) (cap := []) (A := []) (rst := [W20 b0 b (IntKind.i64.wrap ((IntKind.i64.wrap (a.2.2.2.1 + a.2.1)) + a.1)) a.q4 d c, F]) O O O O O O call110 (.s O (.s O .n)) (fx.calls _ _ n p (cut b (IntKind.i64.wrap (a.2.2.2.1 + a.2.1)) (IntKind.i64.wrap ((IntKind.i64.wrap (a.2.2.2.1 + a.2.1)) + a.1))) (ab.lend 1 O) ad (Nat.le_trans af q)) al) (fun _ => ⟨O, O, O, O, O, O, O, O, O, O, trivial⟩) (fun _ => .inr O) (fun z => Ent.refl _)) zA)
 intro w
 refine aa (aA ?_)
 exact aE w O O O (.s O (.s O (.s O .n)))

def cJ.f (a : List UInt8) (b : Int) (c : Int) : Option (Int) := some (IntKind.i64.wrap ((a.length : Int) - b))
theorem cJ.calls (W : World) (F : HA) (b0 : Nat) (d : Option Addr) (c : Nat) (a : Lb) (b : Int) (e : Int) (k : Rd F d (aB a)) (g : a.length ≤ c) (h : c ≤ maxLen) :
    Fn Tryz.prog W 125 [Pt b0] [W20 b0 a b e d c] F (cJ.f a b e) (fun (r : Int) (y : Unit) => Iv r) (fun r y => [W20 b0 a b e d c]) := by
 unfold cJ.f
 refine aO 13 Tryz.func125 O Tryz.ntmps125 O (sr (va O O (ae (aa (ay ?_)))))
 refine bi (Γ := Unit) () [[], [0], [0, 1], [0, 1, 2], rL 4, [], [5], [5, 6], [5, 6, 7], rL 9, rL 10] [] [0, 1, 2, 3, 4, 5, 6, 7, 8, 9, 10] (fun i => [[0], [0], [0], [0], [0], [0], [0], [0], [0], [0], [0]].getD i []) (fun i => [[], [], [], [], [], [], [], [], [], [], []].getD i []) (fun γ i => [Pt b0, Pt b0, Pt b0, .slice d a.length c, Iv (a.length : Int), Pt b0, Pt b0, .pointer (some ⟨b0, 1, none⟩), Iv b, Iv (IntKind.i64.wrap ((a.length : Int) - b)), Iv (IntKind.i64.wrap ((a.length : Int) - b))].getD i undef) (fun j γ => [[W20 b0 a b e d c, F]].getD j []) (fun γ => [(2, Iv (IntKind.i64.wrap ((a.length : Int) - b)))]) mixed (by decide) (by decide) (by decide) (by decide) (by decide) (by decide) (by decide) 13 O (by decide) (by decide) (by decide) (Ent.refl _) ?_ ?_ (fun _ => ⟨O, trivial⟩) ?_
 exact (aq O (fun γ => qm O (.o (s := 0) O (by decide) .nil) O) (aq O (fun γ => qp O O (.v 0 O O .nil) (aW O O) O) (aq O (fun γ => qp O O (.v 1 O O .nil) (ap O O underlying180 O O sizeOf33 O) O) (aq O (fun γ => qp O O (.v 2 O O .nil) (ag O O isAgg33 (.obj 0 O O)) O) (aq O (fun γ => qp O O (.v 3 O O .nil) (bx O O O underlying33) O) (aq O (fun γ => qm O (.o (s := 0) O (by decide) .nil) O) (aq O (fun γ => qp O O (.v 5 O O .nil) (aW O O) O) (aq O (fun γ => qp O O (.v 6 O O .nil) (ap O O underlying180 O O sizeOf3 O) O) (aq O (fun γ => qp O O (.v 7 O O .nil) (ag O O isAgg3 (.obj 0 O O)) O) (aq O (fun γ => qp O O (.v 4 O O (.v 8 O O .nil)) (dC O O O) O) (aq O (fun γ => qp O O (.v 9 O O .nil) (cK O O) O) zA)))))))))))
 exact zA
 intro l
 refine aa (aA ?_)
 exact aE () O O O (.s O (.s O .n))
def cJ.v (a : List UInt8) (b : Int) (c : Int) : Int := (cJ.f a b c).getD 0
theorem cJ.tot (a : Lb) (b : Int) (c : Int) : cJ.f a b c = some (cJ.v a b c) := by
  have h : ∃ r, cJ.f a b c = some r := by
    unfold cJ.f
    repeat' (first | exact ⟨_, rfl⟩ | split | simp only [Option.bind_some])
  obtain ⟨r, h⟩ := h
  unfold cJ.v
  rw [h]; rfl

def bu.f (b : List UInt8) (c : Int) (a : Int) : Option (Int) := (if a = (0 : Int) then ((cJ.f b c a).bind fun d => (some (decide ((0 : Int) < d)))) else (some false)).bind fun e => (if e = true then (some 3) else (some a))
theorem bu.calls (W : World) (F : HA) (b0 : Nat) (c : Option Addr) (b : Nat) (a : Lb) (d : Int) (e : Int) (i : Rd F c (aB a)) (g : a.length ≤ b) (h : b ≤ maxLen) :
    Fn Tryz.prog W 104 [Pt b0] [W20 b0 a d e c b] F (bu.f a d e) (fun (r : Int) (y : Unit) => Iv r) (fun r y => [W20 b0 a d e c b]) := by
 unfold bu.f
 refine aO 17 Tryz.func104 O Tryz.ntmps104 O (sr (va O O (ae (aa (ay (sr (vm O O (vn O O (vq (ap O O underlying180 O O sizeOf23 O) O (vq (ag O O isAgg23 (.obj 0 O O)) O (vq (bW O O O) O (vm O O ?_))))))))))))
 refine dG 4 (S := Bool) Unit (fun s y => [(0, Pt b0), (12, .bool s)]) (fun s y => [W20 b0 a d e c b, F]) ?_ ?_
 refine ij (fun j => ?_) (fun k => ?_)
 rw [j]
 refine aL (bh O O) O O O O O O (ax (fun m l => (ga (av (vs := [Pt b0]) (cap := []) (A := [W20 b0 a d e c b]) (rst := [F]) O O O O O O call125 (.s O (.s O .n)) (cJ.calls _ _ b0 c b a d e (i.lend 0 O) g h) l) O O O O O O ?_)))
 intro n
 refine aL (cW O O O) O O O O O O (vq (bS O O O O O) O (ae ?_))
 exact aG (s := decide ((0 : Int) < m)) () ⟨O, O, trivial⟩ (.s O (.s O .n))
 rw [k]
 refine aD O O O O O O (aD O O O O O O (aD O O O O O O (vq (bS O O O O O) O (ae ?_))))
 exact aG (s := false) () ⟨O, O, trivial⟩ (.s O (.s O .n))
 intro o p
 refine ae (aa ?_)
 refine aZ O (fun q => ?_) (fun t => ?_)
 refine sr (va O O (ae (aa (aA (aN ?_)))))
 exact aE () O O O (.s O (.s O .n))
 refine aC (aa (sr (vm O O (vn O O (vq (ap O O underlying180 O O sizeOf23 O) O (vq (ag O O isAgg23 (.obj 0 O O)) O (va O O (ae (aa (aA ?_))))))))))
 exact aE () O O O (.s O (.s O .n))
def bu.v (a : List UInt8) (b : Int) (c : Int) : Int := (bu.f a b c).getD 0
theorem bu.tot (a : Lb) (b : Int) (c : Int) : bu.f a b c = some (bu.v a b c) := by
  have h : ∃ r, bu.f a b c = some r := by
    unfold bu.f
    repeat' (first | exact ⟨_, rfl⟩ | split | simp only [Option.bind_some, cJ.tot])
  obtain ⟨r, h⟩ := h
  unfold bu.v
  rw [h]; rfl

def gF.f (e : List UInt8) (g : Int) (h : Int) (a : Int) (b : Int) (c : Int) (d : List UInt8) : Option (aF) := (bu.f e g h).bind fun i => ((if i = (0 : Int) then ((bG.f a b c d).bind fun k => (some k)) else (some i)).bind fun j => (if j = (0 : Int) then (some (a, b, c, d, 0)) else (some (0, 0, 0, ([] : List UInt8), j))))
theorem gF.calls (W : World) (F : HA) (G : HA) (hG : Up G F) (m : Nat) (e : Option Addr) (b : Nat) (a : Lb) (g : Int) (h : Int) (j : Int) (k : Int) (l : Int) (i : Option Addr) (c : Nat) (d : Lb) (w : Rd G e (aB a)) (t : a.length ≤ b) (u : b ≤ maxLen) (v : Rd G i (aB d)) (o : d.length ≤ c) (p : c ≤ maxLen) :
    Fn Tryz.prog W 124 [Pt m, .iface 131 (.agg #[]), .agg #[Iv j, Iv k, Iv l, .slice i d.length c]] [W20 m a g h e b] F (gF.f a g h j k l d) (fun (r : Int × Int × Int × Lb × Int) (y : Option Addr × Nat) => .tuple #[.agg #[Iv r.1, Iv r.2.1, Iv r.2.2.1, .slice y.1 r.2.2.2.1.length y.2], Iv r.q4]) (fun r y => [pr (Rd G y.1 (aB r.2.2.2.1) ∧ r.2.2.2.1.length ≤ y.2 ∧ y.2 ≤ maxLen), W20 m a g h e b]) := by
 unfold gF.f
 refine aO 22 Tryz.func124 O Tryz.ntmps124 O (sr (ah (cq O O O) O O O ?_))
 intro q
 refine ah (bT O zeroValue35 O) O O O ?_
 intro n
 refine va O O (nx (vm O O (ax (fun ad z => (ah (av (vs := [Pt m]) (cap := []) (A := [W20 m a g h e b]) (rst := [obj n 35 [Iv 0, Iv 0, Iv 0, .slice none 0 0], W10 q j k l d i c, F]) O O O O O O call104 (.sel 2 O (.s O (.s O (.s O .n)))) (bu.calls _ _ m e b a g h ((w.up hG).lend 2 O) t u) z) O O O ?_)))))
 intro a1
 refine va O O (ae (aa ?_))
 refine bJ (S := Int) Unit (fun s y => [(5, Pt q), (6, Pt n), (8, Iv s)]) (fun s y => [W20 m a g h e b, obj n 35 [Iv 0, Iv 0, Iv 0, .slice none 0 0], W10 q j k l d i c, F]) ?_ ?_
 refine sr (vm O O (vq (bW O O O) O (ae (aa ?_))))
 refine bn O (fun a2 => ?_) (fun a3 => ?_)
 refine aI (vm O O (vq (co 2 O O isAgg35 sizeOf35 O O) O (ax (fun ab x => (ah (pU (vs := [.agg #[Iv j, Iv k, Iv l, .slice i d.length c]]) (A := []) (rst := [W20 m a g h e b, obj n 35 [Iv 0, Iv 0, Iv 0, .slice none 0 0], W10 q j k l d i c, F]) O O O O O (fun _ => by kernel_rfl) call79 (.s O (.s O (.s O (.s O .n)))) (bG.calls _ _ j k l i c d ((v.up hG).lend 3 O) o p) x) O O O ?_)))))
 intro al
 refine va O O (ae ?_)
 exact aG (s := ab) () ⟨O, O, O, trivial⟩ (.s O (.s O (.s O (.s O .n))))
 refine aC ?_
 exact aG (s := ad) () ⟨O, O, O, trivial⟩ (.s O (.s O (.s O (.s O .n))))
 intro af a4
 refine ay (sr (vm O O (vq (dp O O O) O (ae (aa ?_)))))
 refine dd O (fun an => ?_) (fun az => ?_)
 refine aC (aa (sr (vq (co 2 O O isAgg35 sizeOf35 O O) O (aY (aJ 1 O O O sizeOf35 O O (aP (by rfl)) O O) O O ?_))))
 intro _
 refine va O O (ae (aa (aA ?_)))
 exact iU (vs := [.agg #[Iv j, Iv k, Iv l, .slice i d.length c], Iv 0]) (i, c) O ⟨⟨n, O, ir 1 isAgg35 sizeOf35 O O⟩, O, trivial⟩ O (.pr_in ⟨v, o, p⟩ (.s O (.sel 2 O .n)))
 refine sr (ah (bT O zeroValue35 O) O O O ?_)
 intro a0
 refine nx (vq (co 0 O O isAgg35 sizeOf35 O O) O (vm O O (aY (aJ 2 O O O sizeOf35 O O (aP (by rfl)) O O) O O ?_)))
 intro _
 refine va O O (ae (aa (aA (aN ?_))))
 exact iU (vs := [.agg #[Iv 0, Iv 0, Iv 0, .slice none 0 0], Iv af]) (none, 0) O ⟨⟨n, O, ir 2 isAgg35 sizeOf35 O O⟩, O, trivial⟩ O (.pr_in ⟨Rd.nil _ _, Nat.le_refl _, Nat.zero_le _⟩ (.sel 1 O (.sel 3 O .n)))

def dH.f (e : List UInt8) (g : Int) (h : Int) (a : Int) (b : Int) (c : Int) (d : List UInt8) : Option (aF) := (bu.f e g h).bind fun i => ((if i = (0 : Int) then ((bG.f a b c d).bind fun k => (some k)) else (some i)).bind fun j => (if j = (0 : Int) then (some (a, b, c, d, 0)) else (some (0, 0, 0, ([] : List UInt8), j))))
theorem dH.calls (W : World) (F : HA) (m : Nat) (g : Option Addr) (e : Nat) (d : Lb) (h : Int) (i : Int) (j : Int) (k : Int) (l : Int) (b : Option Addr) (c : Nat) (a : Lb) (t : Rd F g (aB d)) (p : d.length ≤ e) (q : e ≤ maxLen) :
    Fn Tryz.prog W 124 [Pt m, .iface 131 (.agg #[]), .agg #[Iv j, Iv k, Iv l, .slice b a.length c]] [W20 m d h i g e, Row 5 1 b a.length c (aB a)] F (dH.f d h i j k l a) (fun (r : Int × Int × Int × Lb × Int) (y : Option Addr × Nat) => .tuple #[.agg #[Iv r.1, Iv r.2.1, Iv r.2.2.1, .slice y.1 r.2.2.2.1.length y.2], Iv r.q4]) (fun r y => [Row 5 1 y.1 r.2.2.2.1.length y.2 (aB r.2.2.2.1), W20 m d h i g e]) := by
 unfold dH.f
 refine aO 22 Tryz.func124 O Tryz.ntmps124 O (sr (ah (cq O O O) O O O ?_))
 intro o
 refine ah (bT O zeroValue35 O) O O O ?_
 intro n
 refine va O O (nx (vm O O (ax (fun ad z => (ah (av (vs := [Pt m]) (cap := []) (A := [W20 m d h i g e]) (rst := [obj n 35 [Iv 0, Iv 0, Iv 0, .slice none 0 0], W10 o j k l a b c, Row 5 1 b a.length c (aB a), F]) O O O O O O call104 (.sel 2 O (.s O (.s O (.s O (.s O .n))))) (bu.calls _ _ m g e d h i (t.lend 3 O) p q) z) O O O ?_)))))
 intro a2
 refine va O O (ae (aa ?_))
 refine bJ (S := Int) Unit (fun s y => [(5, Pt o), (6, Pt n), (8, Iv s)]) (fun s y => [W20 m d h i g e, obj n 35 [Iv 0, Iv 0, Iv 0, .slice none 0 0], W10 o j k l a b c, Row 5 1 b a.length c (aB a), F]) ?_ ?_
 refine sr (vm O O (vq (bW O O O) O (ae (aa ?_))))
 refine bn O (fun a3 => ?_) (fun a4 => ?_)
 refine aI (vm O O (vq (co 2 O O isAgg35 sizeOf35 O O) O (ax (fun ab u => (ba 3 O (fun v w x al => (ah (pU (vs := [.agg #[Iv j, Iv k, Iv l, .slice b a.length c]]) (A := []) (rst := [W20 m d h i g e, obj n 35 [Iv 0, Iv 0, Iv 0, .slice none 0 0], W10 o j k l a b c, Row 5 1 b a.length c (aB a), F]) O O O O O (fun _ => by kernel_rfl) call79 (.s O (.s O (.s O (.s O (.s O .n))))) (bG.calls _ _ j k l b c a (v.lend 3 O) w x) u) O O O ?_)))))))
 intro an
 refine va O O (ae ?_)
 exact aG (s := ab) () ⟨O, O, O, trivial⟩ (.s O (.s O (.s O (.s O (.s O .n)))))
 refine aC ?_
 exact aG (s := ad) () ⟨O, O, O, trivial⟩ (.s O (.s O (.s O (.s O (.s O .n)))))
 intro af a5
 refine ay (sr (vm O O (vq (dp O O O) O (ae (aa ?_)))))
 refine dd O (fun az => ?_) (fun a0 => ?_)
 refine aC (aa (sr (vq (co 2 O O isAgg35 sizeOf35 O O) O (aY (aJ 1 O O O sizeOf35 O O (aP (by rfl)) O O) O O ?_))))
 intro _
 refine va O O (ae (aa (aA ?_)))
 exact iU (vs := [.agg #[Iv j, Iv k, Iv l, .slice b a.length c], Iv 0]) (b, c) O ⟨⟨n, O, ir 1 isAgg35 sizeOf35 O O⟩, O, trivial⟩ O (.sel 3 O (.s O (.sel 2 O .n)))
 refine sr (ah (bT O zeroValue35 O) O O O ?_)
 intro a1
 refine nx (vq (co 0 O O isAgg35 sizeOf35 O O) O (vm O O (aY (aJ 2 O O O sizeOf35 O O (aP (by rfl)) O O) O O ?_)))
 intro _
 refine va O O (ae (aa (aA (aN ?_))))
 exact iU (vs := [.agg #[Iv 0, Iv 0, Iv 0, .slice none 0 0], Iv af]) (none, 0) O ⟨⟨n, O, ir 2 isAgg35 sizeOf35 O O⟩, O, trivial⟩ O (.row_nil (.sel 1 O (.sel 4 O .n)))

def eZ.f (k : Nat) (x1 : List UInt8) : Option (aF) := (eT.f x1).bind fun a => ((bF.f k a.1 a.2.1 a.2.2).bind fun c => ((bF.f k a.1 c.2.1 c.2.2).bind fun d => ((bF.f k a.1 d.2.1 d.2.2).bind fun e => ((dv.f k a.1 e.2.1 e.2.2 (4096 : Int)).bind fun g => ((dH.f a.1 g.2.1 g.2.2 c.1 d.1 e.1 g.1).bind fun b => (some (b.1, b.2.1, b.2.2.1, b.2.2.2.1, b.2.2.2.2)))))))
theorem eZ.calls (W : World) (F : HA) (k : Nat) (a1 : Option Addr) (c1 : Nat) (x1 : Lb) (h1 : Rd F a1 (aB x1)) (a7 : x1.length ≤ c1) (a8 : c1 ≤ maxLen) :
    Fn Tryz.prog W 102 [.agg #[], .slice a1 x1.length c1] [] F (eZ.f k x1) (fun (r : Int × Int × Int × Lb × Int) (y : Option Addr × Nat) => .tuple #[.agg #[Iv r.1, Iv r.2.1, Iv r.2.2.1, .slice y.1 r.2.2.2.1.length y.2], Iv r.q4]) (fun r y => [Row 5 1 y.1 r.2.2.2.1.length y.2 (aB r.2.2.2.1)]) := by
 unfold eZ.f
 refine aO 26 Tryz.func102 O Tryz.ntmps102 O (sr (ah (cq O O O) O O O ?_))
 intro l
 refine ah (bT O zeroValue35 O) O O O ?_
 intro i
 refine va O O (nx (vm O O (ax (fun b a2 => (ah (av (vs := [.slice a1 x1.length c1]) (cap := []) (A := []) (rst := [obj i 35 [Iv 0, Iv 0, Iv 0, .slice none 0 0], obj l 131 [], F]) O O O O O O call100 (.s O (.s O (.s O .n))) (eT.calls _ _ a1 c1 x1 (h1.lend 2 O) a7 a8) a2) O O O ?_)))))
 intro a
 refine va O O (nx (vm O O (ax (fun e n => (ba 1 O (fun a3 a4 a5 br => (ah (av (vs := [Pt a.1]) (cap := []) (A := [W19 a.1 b a.2.1 a.2.2]) (rst := [Row 5 1 a.2.1 b.1.length a.2.2 (aB b.1), obj i 35 [Iv 0, Iv 0, Iv 0, .slice none 0 0], obj l 131 [], F]) O O O O O O call101 (.s O (.s O (.s O (.s O (.s O .n))))) (bF.calls _ _ k a.1 a.2.1 a.2.2 b.1 b.2.1 b.2.2 (a3.lend 0 O) a4 a5) n) O O O ?_)))))))
 intro bs
 refine vm O O (ax (fun g o => (ba 1 O (fun p q s a9 => (ah (av (vs := [Pt a.1]) (cap := []) (A := [W20 a.1 b.1 e.2.1 e.2.2 a.2.1 a.2.2]) (rst := [Row 5 1 a.2.1 b.1.length a.2.2 (aB b.1), obj i 35 [Iv 0, Iv 0, Iv 0, .slice none 0 0], obj l 131 [], F]) O O O O O O call101 (.s O (.s O (.s O (.s O (.s O .n))))) (bF.calls _ _ k a.1 a.2.1 a.2.2 b.1 e.2.1 e.2.2 (p.lend 0 O) q s) o) O O O ?_)))))
 intro bt
 refine vm O O (ax (fun h t => (ba 1 O (fun u w x bc => (ah (av (vs := [Pt a.1]) (cap := []) (A := [W20 a.1 b.1 g.2.1 g.2.2 a.2.1 a.2.2]) (rst := [Row 5 1 a.2.1 b.1.length a.2.2 (aB b.1), obj i 35 [Iv 0, Iv 0, Iv 0, .slice none 0 0], obj l 131 [], F]) O O O O O O call101 (.s O (.s O (.s O (.s O (.s O .n))))) (bF.calls _ _ k a.1 a.2.1 a.2.2 b.1 g.2.1 g.2.2 (u.lend 0 O) w x) t) O O O ?_)))))
 intro b0
 refine vm O O (ax (fun c z => (ba 1 O (fun ab ad af bd => (ah (av (vs := [Pt a.1, Iv 4096]) (cap := []) (A := [W20 a.1 b.1 h.2.1 h.2.2 a.2.1 a.2.2]) (rst := [Row 5 1 a.2.1 b.1.length a.2.2 (aB b.1), obj i 35 [Iv 0, Iv 0, Iv 0, .slice none 0 0], obj l 131 [], F]) O O O O O O call103 (.s O (.s O (.s O (.s O (.s O .n))))) (dv.calls _ _ k a.1 a.2.1 a.2.2 b.1 h.2.1 h.2.2 (4096 : Int) (ab.lend 0 O) ad af) z) O O O ?_)))))
 intro d
 refine vq (di (v := .agg #[Iv e.1, Iv g.1, Iv h.1, .slice d.1 c.1.length d.2]) O O (fun _ => by kernel_rfl)) O (ah (bT O zeroValue35 O) O O O ?_)
 intro a6
 refine aY (aJ 0 O O O sizeOf35 O O (aP (by rfl)) O O) O O ?_
 intro _
 refine nx (vm O O (vq (co 5 O O isAgg131 sizeOf131 O O) O (vq (yP O O underlying131 O) O (vq (co 0 O O isAgg35 sizeOf35 O O) O (ax (fun j al => (ba 3 O (fun an az a0 be => (ah (av (vs := [Pt a.1, .iface 131 (.agg #[]), .agg #[Iv e.1, Iv g.1, Iv h.1, .slice d.1 c.1.length d.2]]) (cap := []) (A := [W20 a.1 b.1 c.2.1 c.2.2 a.2.1 a.2.2, Row 5 1 d.1 c.1.length d.2 (aB c.1)]) (rst := [W10 a6 e.1 g.1 h.1 c.1 d.1 d.2, Row 5 1 a.2.1 b.1.length a.2.2 (aB b.1), obj i 35 [Iv 0, Iv 0, Iv 0, .slice none 0 0], obj l 131 [], F]) O O O O O O call124 (.sel 2 O (.sel 1 O (.s O (.s O (.s O (.s O (.s O .n))))))) (dH.calls _ _ a.1 a.2.1 a.2.2 b.1 c.2.1 c.2.2 e.1 g.1 h.1 d.1 d.2 c.1 (an.lend 1 O) az a0) al) O O O ?_)))))))))
 intro m
 refine vq (bI O O O) O (vq (bI O O O) O (aY (aJ 4 O O O sizeOf35 O O (aP (by rfl)) O O) O O ?_))
 intro _
 refine va O O (ae (aa (aA ?_)))
 exact iU (vs := [.agg #[Iv j.1, Iv j.2.1, Iv j.2.2.1, .slice m.1 j.2.2.2.1.length m.2], Iv j.q4]) m O ⟨⟨i, O, ir 4 isAgg35 sizeOf35 O O⟩, O, trivial⟩ O (.s O (.sel 5 O .n))

def eQ.f (k : Nat) (x0 : List UInt8) : Option (Int × Int × Int × Int × Int × Int × Int × Int × Int × Int × List UInt8 × Bool) := (eT.f x0).bind fun c => ((bF.f k c.1 c.2.1 c.2.2).bind fun a => ((if a.1 = (0 : Int) then ((bF.f k c.1 a.2.1 a.2.2).bind fun o => (some (o.2.1, o.2.2, o.1))) else (some (a.2.1, a.2.2, 0))).bind fun h => ((if ((decide (a.1 = (0 : Int))) || (decide (a.1 = (1 : Int)))) = true then ((bF.f k c.1 h.1 h.2.1).bind fun i => ((bF.f k c.1 i.2.1 i.2.2).bind fun j => ((bF.f k c.1 j.2.1 j.2.2).bind fun l => ((dy.f i.1 j.1 l.1).bind fun q => (some (decide (q = (0 : Int)), l.2.1, l.2.2, i.1, j.1, l.1)))))) else (some (decide (a.1 ≤ (3 : Int)), h.1, h.2.1, 0, 0, 0))).bind fun b => ((if ((decide (a.1 = (0 : Int))) || (decide (a.1 = (3 : Int)))) = true then ((bF.f k c.1 b.2.1 b.2.2.1).bind fun m => ((bF.f k c.1 m.2.1 m.2.2).bind fun n => ((if b.1 = true then ((if a.1 = (0 : Int) then (some true) else (some ((decide ((0 : Int) < m.1)) && (decide ((0 : Int) < n.1))))).bind fun r => (some r)) else (some false)).bind fun s => (some (s, n.2.1, n.2.2, m.1, n.1))))) else (some (b.1, b.2.1, b.2.2.1, 0, 0))).bind fun d => ((if a.1 = (2 : Int) then ((dv.f k c.1 d.2.1 d.2.2.1 (8192 : Int)).bind fun p => ((eZ.f k p.1).bind fun g => (some (decide (g.2.2.2.2 = (0 : Int)), p.2.1, p.2.2, g.1, g.2.1, g.2.2.1, g.2.2.2.1)))) else (some (d.1, d.2.1, d.2.2.1, 0, 0, 0, ([] : List UInt8)))).bind fun e => (some (a.1, h.2.2, b.2.2.2.1, b.2.2.2.2.1, b.2.2.2.2.2, d.2.2.2.1, d.2.2.2.2, e.2.2.2.1, e.2.2.2.2.1, e.2.2.2.2.2.1, e.2.2.2.2.2.2, e.1 && (decide ((bu.v c.1 e.2.1 e.2.2.1) = (0 : Int))))))))))
theorem eQ.calls (W : World) (F : HA) (k : Nat) (a0 : Option Addr) (c0 : Nat) (x0 : Lb) (h0 : Rd F a0 (aB x0)) (ek : x0.length ≤ c0) (el : c0 ≤ maxLen) :
    Fn Tryz.prog W 76 [.slice a0 x0.length c0] [] F (eQ.f k x0) (fun (r : Int × Int × Int × Int × Int × Int × Int × Int × Int × Int × Lb × Bool) (y : Option Addr × Nat) => .tuple #[.agg #[Iv r.1, Iv r.2.1, Iv r.2.2.1, Iv r.2.2.2.1, Iv r.q4.1, Iv r.q4.2.1, Iv r.q4.2.2.1, Iv r.q4.2.2.2.1, Iv r.q8.1, Iv r.q8.2.1, .slice y.1 r.q8.2.2.1.length y.2], .bool r.q8.2.2.2]) (fun r y => [Row 5 1 y.1 r.q8.2.2.1.length y.2 (aB r.q8.2.2.1)]) := by
 unfold eQ.f
 refine aO 95 Tryz.func76 O Tryz.ntmps76 O (sr (ah (bT O zeroValue102 O) O O O ?_))
 intro n
 refine va O O (nx (vm O O (ax (fun d eb => (ah (av (vs := [.slice a0 x0.length c0]) (cap := []) (A := []) (rst := [obj n 102 [Iv 0, Iv 0, Iv 0, Iv 0, Iv 0, Iv 0, Iv 0, Iv 0, Iv 0, Iv 0, .slice none 0 0], F]) O O O O O O call100 (.s O (.s O .n)) (eT.calls _ _ a0 c0 x0 (h0.lend 1 O) ek el) eb) O O O ?_)))))
 intro a
 refine va O O (nx (vm O O (ax (fun h a8 => (ba 1 O (fun ec ed ee e8 => (ah (av (vs := [Pt a.1]) (cap := []) (A := [W19 a.1 d a.2.1 a.2.2]) (rst := [Row 5 1 a.2.1 d.1.length a.2.2 (aB d.1), obj n 102 [Iv 0, Iv 0, Iv 0, Iv 0, Iv 0, Iv 0, Iv 0, Iv 0, Iv 0, Iv 0, .slice none 0 0], F]) O O O O O O call101 (.s O (.s O (.s O (.s O .n)))) (bF.calls _ _ k a.1 a.2.1 a.2.2 d.1 d.2.1 d.2.2 (ec.lend 0 O) ed ee) a8) O O O ?_)))))))
 intro e9
 refine vq (di (v := .agg #[Iv h.1, Iv 0, Iv 0, Iv 0, Iv 0, Iv 0, Iv 0, Iv 0, Iv 0, Iv 0, .slice none 0 0]) O O (fun _ => by kernel_rfl)) O (ah (bT O zeroValue102 O) O O O ?_)
 intro g
 refine aY (aJ 0 O O O sizeOf102 O O (aP (by rfl)) O O) O O ?_
 intro _
 refine bX (H' := [obj g 102 [Iv h.1, Iv 0, Iv 0, Iv 0, Iv 0, Iv 0, Iv 0, Iv 0, Iv 0, Iv 0, .slice none 0 0], W20 a.1 d.1 h.2.1 h.2.2 a.2.1 a.2.2, Row 5 1 a.2.1 d.1.length a.2.2 (aB d.1), obj n 102 [Iv 0, Iv 0, Iv 0, Iv 0, Iv 0, Iv 0, Iv 0, Iv 0, Iv 0, Iv 0, .slice none 0 0], F]) (Ent.refl _) (nx (vq (ap O O underlying102 O O sizeOf3 O) O (vq (ag O O isAgg3 (.obj 0 O O)) O (vq (iQ O O O) O (va O O (ae (aa ?_)))))))
 refine bJ (S := Int × Int × Int) Unit (fun s y => [(2, Pt n), (4, Pt a.1), (5, Pt g), (6, .bool (decide (h.1 ≤ (3 : Int))))]) (fun s y => [W20 a.1 d.1 s.1 s.2.1 a.2.1 a.2.2, obj g 102 [Iv h.1, Iv s.2.2, Iv 0, Iv 0, Iv 0, Iv 0, Iv 0, Iv 0, Iv 0, Iv 0, .slice none 0 0], obj n 102 [Iv 0, Iv 0, Iv 0, Iv 0, Iv 0, Iv 0, Iv 0, Iv 0, Iv 0, Iv 0, .slice none 0 0], Row 5 1 a.2.1 d.1.length a.2.2 (aB d.1), F]) ?_ ?_
 refine sr (vq (ap O O underlying102 O O sizeOf3 O) O (vq (ag O O isAgg3 (.obj 0 O O)) O (vq (bW O O O) O (ae (aa ?_)))))
 refine bn O (fun fl => ?_) (fun fn => ?_)
 refine aI (vm O O (ax (fun an a9 => (ba 2 O (fun bc bd be eA => (ah (av (vs := [Pt a.1]) (cap := []) (A := [W20 a.1 d.1 h.2.1 h.2.2 a.2.1 a.2.2]) (rst := [obj g 102 [Iv h.1, Iv 0, Iv 0, Iv 0, Iv 0, Iv 0, Iv 0, Iv 0, Iv 0, Iv 0, .slice none 0 0], Row 5 1 a.2.1 d.1.length a.2.2 (aB d.1), obj n 102 [Iv 0, Iv 0, Iv 0, Iv 0, Iv 0, Iv 0, Iv 0, Iv 0, Iv 0, Iv 0, .slice none 0 0], F]) O O O O O O call101 (.sel 1 O (.s O (.s O (.s O (.s O .n))))) (bF.calls _ _ k a.1 a.2.1 a.2.2 d.1 h.2.1 h.2.2 (bc.lend 1 O) bd be) a9) O O O ?_))))))
 intro fp
 refine vq (ap O O underlying102 O O sizeOf3 O) O (aY (aJ 1 O O O sizeOf3 O O (aP (by rfl)) O O) O O ?_)
 intro _
 refine bX (H' := [W20 a.1 d.1 an.2.1 an.2.2 a.2.1 a.2.2, obj g 102 [Iv h.1, Iv an.1, Iv 0, Iv 0, Iv 0, Iv 0, Iv 0, Iv 0, Iv 0, Iv 0, .slice none 0 0], Row 5 1 a.2.1 d.1.length a.2.2 (aB d.1), obj n 102 [Iv 0, Iv 0, Iv 0, Iv 0, Iv 0, Iv 0, Iv 0, Iv 0, Iv 0, Iv 0, .slice none 0 0], F]) (Ent.refl _) (ae ?_)
 exact aG (s := (an.2.1, an.2.2, an.1)) () ⟨O, O, O, O, trivial⟩ (.s O (.s O (.sel 1 O (.s O (.s O .n)))))
 refine aC ?_
 exact aG (s := (h.2.1, h.2.2, 0)) () ⟨O, O, O, O, trivial⟩ (.sel 1 O (.s O (.sel 1 O (.s O (.s O .n)))))
 intro l fr
 refine bJ (S := Bool × Int × Int × Int × Int × Int) Unit (fun s y => [(2, Pt n), (4, Pt a.1), (5, Pt g), (6, .bool s.1)]) (fun s y => [W20 a.1 d.1 s.2.1 s.2.2.1 a.2.1 a.2.2, obj g 102 [Iv h.1, Iv l.2.2, Iv s.2.2.2.1, Iv s.q4.1, Iv s.q4.2, Iv 0, Iv 0, Iv 0, Iv 0, Iv 0, .slice none 0 0], obj n 102 [Iv 0, Iv 0, Iv 0, Iv 0, Iv 0, Iv 0, Iv 0, Iv 0, Iv 0, Iv 0, .slice none 0 0], Row 5 1 a.2.1 d.1.length a.2.2 (aB d.1), F]) ?_ ?_
 refine sr (vq (ap O O underlying102 O O sizeOf3 O) O (vq (ag O O isAgg3 (.obj 1 O O)) O (vq (bW O O O) O (vm O O (aw (b := decide (h.1 = (0 : Int))) (fun eB => RQ.sub (E' := [(5, Pt g)]) ⟨O, trivial⟩ (ap O O underlying102 O O sizeOf3 O)) O O O O O (aw (b := decide (h.1 = (0 : Int))) (fun br => RQ.sub (E' := [(27, Pt g)]) ⟨aH O br, trivial⟩ (ag O O isAgg3 (.obj 1 O O))) O O O O O (aw (b := decide (h.1 = (0 : Int))) (fun bs => RQ.sub (E' := [(28, Iv h.1)]) ⟨aH O bs, trivial⟩ (bW O O O)) O O O O O (vq (fI O O O) O (ae (aa ?_))))))))))
 refine aZ O (fun fs => ?_) (fun fz => ?_)
 refine sr (vm O O (ax (fun ab bt => (ba 3 O (fun b0 b1 b2 eD => (ah (av (vs := [Pt a.1]) (cap := []) (A := [W20 a.1 d.1 l.1 l.2.1 a.2.1 a.2.2]) (rst := [obj g 102 [Iv h.1, Iv l.2.2, Iv 0, Iv 0, Iv 0, Iv 0, Iv 0, Iv 0, Iv 0, Iv 0, .slice none 0 0], obj n 102 [Iv 0, Iv 0, Iv 0, Iv 0, Iv 0, Iv 0, Iv 0, Iv 0, Iv 0, Iv 0, .slice none 0 0], Row 5 1 a.2.1 d.1.length a.2.2 (aB d.1), F]) O O O O O O call101 (.s O (.s O (.s O (.s O (.s O .n))))) (bF.calls _ _ k a.1 a.2.1 a.2.2 d.1 l.1 l.2.1 (b0.lend 2 O) b1 b2) bt) O O O ?_))))))
 intro go
 refine vm O O (ax (fun ad b3 => (ba 3 O (fun b4 b5 b6 e0 => (ah (av (vs := [Pt a.1]) (cap := []) (A := [W20 a.1 d.1 ab.2.1 ab.2.2 a.2.1 a.2.2]) (rst := [obj g 102 [Iv h.1, Iv l.2.2, Iv 0, Iv 0, Iv 0, Iv 0, Iv 0, Iv 0, Iv 0, Iv 0, .slice none 0 0], obj n 102 [Iv 0, Iv 0, Iv 0, Iv 0, Iv 0, Iv 0, Iv 0, Iv 0, Iv 0, Iv 0, .slice none 0 0], Row 5 1 a.2.1 d.1.length a.2.2 (aB d.1), F]) O O O O O O call101 (.s O (.s O (.s O (.s O (.s O .n))))) (bF.calls _ _ k a.1 a.2.1 a.2.2 d.1 ab.2.1 ab.2.2 (b4.lend 2 O) b5 b6) b3) O O O ?_)))))
 intro gs
 refine vm O O (ax (fun u b7 => (ba 3 O (fun b8 b9 cd e1 => (ah (av (vs := [Pt a.1]) (cap := []) (A := [W20 a.1 d.1 ad.2.1 ad.2.2 a.2.1 a.2.2]) (rst := [obj g 102 [Iv h.1, Iv l.2.2, Iv 0, Iv 0, Iv 0, Iv 0, Iv 0, Iv 0, Iv 0, Iv 0, .slice none 0 0], obj n 102 [Iv 0, Iv 0, Iv 0, Iv 0, Iv 0, Iv 0, Iv 0, Iv 0, Iv 0, Iv 0, .slice none 0 0], Row 5 1 a.2.1 d.1.length a.2.2 (aB d.1), F]) O O O O O O call101 (.s O (.s O (.s O (.s O (.s O .n))))) (bF.calls _ _ k a.1 a.2.1 a.2.2 d.1 ad.2.1 ad.2.2 (b8.lend 2 O) b9 cd) b7) O O O ?_)))))
 intro gy
 refine vq (di (v := .agg #[Iv ab.1, Iv ad.1, Iv u.1]) O O (fun _ => by kernel_rfl)) O (vq (ap O O underlying102 O O sizeOf43 O) O (aY (aJ 1 O O O sizeOf43 O O (aP (by rfl)) O O) O O ?_))
 intro _
 refine bX (H' := [W20 a.1 d.1 u.2.1 u.2.2 a.2.1 a.2.2, obj g 102 [Iv h.1, Iv l.2.2, Iv ab.1, Iv ad.1, Iv u.1, Iv 0, Iv 0, Iv 0, Iv 0, Iv 0, .slice none 0 0], obj n 102 [Iv 0, Iv 0, Iv 0, Iv 0, Iv 0, Iv 0, Iv 0, Iv 0, Iv 0, Iv 0, .slice none 0 0], Row 5 1 a.2.1 d.1.length a.2.2 (aB d.1), F]) (Ent.refl _) (ny (vq (di (v := .agg #[]) O O (fun _ => by kernel_rfl)) O (vq (ap O O underlying102 O O sizeOf43 O) O (vq (cu (vs := [Iv ab.1, Iv ad.1, Iv u.1]) O O isAgg43 sizeOf43 O (du 1 O (cR O))) O (ax (fun ef ch => (ah (av (vs := [.agg #[], .agg #[Iv ab.1, Iv ad.1, Iv u.1]]) (cap := []) (A := []) (rst := [W20 a.1 d.1 u.2.1 u.2.2 a.2.1 a.2.2, obj g 102 [Iv h.1, Iv l.2.2, Iv ab.1, Iv ad.1, Iv u.1, Iv 0, Iv 0, Iv 0, Iv 0, Iv 0, .slice none 0 0], obj n 102 [Iv 0, Iv 0, Iv 0, Iv 0, Iv 0, Iv 0, Iv 0, Iv 0, Iv 0, Iv 0, .slice none 0 0], Row 5 1 a.2.1 d.1.length a.2.2 (aB d.1), F]) O O O O O O call78 (.s O (.s O (.s O (.s O (.s O .n))))) (dy.calls _ _ ab.1 ad.1 u.1 ) ch) O O O ?_)))))))
 intro g0
 refine vq (bW O O O) O (va O O (ae ?_))
 exact aG (s := (decide (ef = (0 : Int)), u.2.1, u.2.2, ab.1, ad.1, u.1)) () ⟨O, O, O, O, trivial⟩ (.s O (.s O (.s O (.s O (.s O .n)))))
 refine aC ?_
 exact aG (s := (decide (h.1 ≤ (3 : Int)), l.1, l.2.1, 0, 0, 0)) () ⟨O, O, O, O, trivial⟩ (.s O (.s O (.s O (.s O (.s O .n)))))
 intro e g1
 refine bJ (S := Bool × Int × Int × Int × Int) Unit (fun s y => [(2, Pt n), (4, Pt a.1), (5, Pt g), (6, .bool s.1)]) (fun s y => [W20 a.1 d.1 s.2.1 s.2.2.1 a.2.1 a.2.2, obj g 102 [Iv h.1, Iv l.2.2, Iv e.2.2.2.1, Iv e.q4.1, Iv e.q4.2, Iv s.2.2.2.1, Iv s.q4, Iv 0, Iv 0, Iv 0, .slice none 0 0], obj n 102 [Iv 0, Iv 0, Iv 0, Iv 0, Iv 0, Iv 0, Iv 0, Iv 0, Iv 0, Iv 0, .slice none 0 0], Row 5 1 a.2.1 d.1.length a.2.2 (aB d.1), F]) ?_ ?_
 refine sr (vq (ap O O underlying102 O O sizeOf3 O) O (vq (ag O O isAgg3 (.obj 1 O O)) O (vq (bW O O O) O (vm O O (aw (b := decide (h.1 = (0 : Int))) (fun e2 => RQ.sub (E' := [(5, Pt g)]) ⟨O, trivial⟩ (ap O O underlying102 O O sizeOf3 O)) O O O O O (aw (b := decide (h.1 = (0 : Int))) (fun cs => RQ.sub (E' := [(48, Pt g)]) ⟨aH O cs, trivial⟩ (ag O O isAgg3 (.obj 1 O O))) O O O O O (aw (b := decide (h.1 = (0 : Int))) (fun c1 => RQ.sub (E' := [(49, Iv h.1)]) ⟨aH O c1, trivial⟩ (bW O O O)) O O O O O (vq (fI O O O) O (ae (aa ?_))))))))))
 refine aZ O (fun g2 => ?_) (fun g3 => ?_)
 refine sr (vm O O (ax (fun w c2 => (ba 3 O (fun c3 c4 c5 e3 => (ah (av (vs := [Pt a.1]) (cap := []) (A := [W20 a.1 d.1 e.2.1 e.2.2.1 a.2.1 a.2.2]) (rst := [obj g 102 [Iv h.1, Iv l.2.2, Iv e.2.2.2.1, Iv e.q4.1, Iv e.q4.2, Iv 0, Iv 0, Iv 0, Iv 0, Iv 0, .slice none 0 0], obj n 102 [Iv 0, Iv 0, Iv 0, Iv 0, Iv 0, Iv 0, Iv 0, Iv 0, Iv 0, Iv 0, .slice none 0 0], Row 5 1 a.2.1 d.1.length a.2.2 (aB d.1), F]) O O O O O O call101 (.s O (.s O (.s O (.s O (.s O .n))))) (bF.calls _ _ k a.1 a.2.1 a.2.2 d.1 e.2.1 e.2.2.1 (c3.lend 2 O) c4 c5) c2) O O O ?_))))))
 intro g4
 refine vm O O (ax (fun t c6 => (ba 3 O (fun c7 c8 c9 e4 => (ah (av (vs := [Pt a.1]) (cap := []) (A := [W20 a.1 d.1 w.2.1 w.2.2 a.2.1 a.2.2]) (rst := [obj g 102 [Iv h.1, Iv l.2.2, Iv e.2.2.2.1, Iv e.q4.1, Iv e.q4.2, Iv 0, Iv 0, Iv 0, Iv 0, Iv 0, .slice none 0 0], obj n 102 [Iv 0, Iv 0, Iv 0, Iv 0, Iv 0, Iv 0, Iv 0, Iv 0, Iv 0, Iv 0, .slice none 0 0], Row 5 1 a.2.1 d.1.length a.2.2 (aB d.1), F]) O O O O O O call101 (.s O (.s O (.s O (.s O (.s O .n))))) (bF.calls _ _ k a.1 a.2.1 a.2.2 d.1 w.2.1 w.2.2 (c7.lend 2 O) c8 c9) c6) O O O ?_)))))
 intro g5
 refine vq (ap O O underlying102 O O sizeOf3 O) O (aY (aJ 1 O O O sizeOf3 O O (aP (by rfl)) O O) O O ?_)
 intro _
 refine bX (H' := [W20 a.1 d.1 t.2.1 t.2.2 a.2.1 a.2.2, obj g 102 [Iv h.1, Iv l.2.2, Iv e.2.2.2.1, Iv e.q4.1, Iv e.q4.2, Iv w.1, Iv 0, Iv 0, Iv 0, Iv 0, .slice none 0 0], obj n 102 [Iv 0, Iv 0, Iv 0, Iv 0, Iv 0, Iv 0, Iv 0, Iv 0, Iv 0, Iv 0, .slice none 0 0], Row 5 1 a.2.1 d.1.length a.2.2 (aB d.1), F]) (Ent.refl _) (vq (ap O O underlying102 O O sizeOf3 O) O (aY (aJ 1 O O O sizeOf3 O O (aP (by rfl)) O O) O O ?_))
 intro _
 refine bX (H' := [W20 a.1 d.1 t.2.1 t.2.2 a.2.1 a.2.2, obj g 102 [Iv h.1, Iv l.2.2, Iv e.2.2.2.1, Iv e.q4.1, Iv e.q4.2, Iv w.1, Iv t.1, Iv 0, Iv 0, Iv 0, .slice none 0 0], obj n 102 [Iv 0, Iv 0, Iv 0, Iv 0, Iv 0, Iv 0, Iv 0, Iv 0, Iv 0, Iv 0, .slice none 0 0], Row 5 1 a.2.1 d.1.length a.2.2 (aB d.1), F]) (Ent.refl _) (ny (vm O O (vm O O ?_)))
 refine dG 14 (S := Bool) Unit (fun s y => [(2, Pt n), (4, Pt a.1), (5, Pt g), (73, .bool s)]) (fun s y => [W20 a.1 d.1 t.2.1 t.2.2 a.2.1 a.2.2, obj g 102 [Iv h.1, Iv l.2.2, Iv e.2.2.2.1, Iv e.q4.1, Iv e.q4.2, Iv w.1, Iv t.1, Iv 0, Iv 0, Iv 0, .slice none 0 0], obj n 102 [Iv 0, Iv 0, Iv 0, Iv 0, Iv 0, Iv 0, Iv 0, Iv 0, Iv 0, Iv 0, .slice none 0 0], Row 5 1 a.2.1 d.1.length a.2.2 (aB d.1), F]) ?_ ?_
 refine fv (fun dl => ?_) (fun ds => ?_)
 rw [dl]
 refine aL (ap O O underlying102 O O sizeOf3 O) O O O O O O (aL (ag O O isAgg3 (.obj 1 O O)) O O O O O O (aL (bW O O O) O O O O O O (aL (bh O O) O O O O O O ?_)))
 refine dG 9 (S := Bool) Unit (fun s y => [(2, Pt n), (4, Pt a.1), (5, Pt g), (59, .bool true), (72, .bool s)]) (fun s y => [W20 a.1 d.1 t.2.1 t.2.2 a.2.1 a.2.2, obj g 102 [Iv h.1, Iv l.2.2, Iv e.2.2.2.1, Iv e.q4.1, Iv e.q4.2, Iv w.1, Iv t.1, Iv 0, Iv 0, Iv 0, .slice none 0 0], obj n 102 [Iv 0, Iv 0, Iv 0, Iv 0, Iv 0, Iv 0, Iv 0, Iv 0, Iv 0, Iv 0, .slice none 0 0], Row 5 1 a.2.1 d.1.length a.2.2 (aB d.1), F]) ?_ ?_
 refine ij (fun dz => ?_) (fun d1 => ?_)
 rw [dz]
 refine aD O O O O O O (aD O O O O O O (aD O O O O O O (aD O O O O O O (dc O O O O O (dc O O O O O (dc O O O O O (aD O O O O O O (aL (bS O O O O O) O O O O O O (ae ?_)))))))))
 exact aG (s := true) () ⟨O, O, O, O, O, trivial⟩ (.s O (.s O (.s O (.s O (.s O .n)))))
 rw [d1]
 refine aL (ap O O underlying102 O O sizeOf3 O) O O O O O O (aL (ag O O isAgg3 (.obj 1 O O)) O O O O O O (aL (cW O O O) O O O O O O (aL (bh O O) O O O O O O (aw (b := decide ((0 : Int) < w.1)) (fun e5 => RQ.sub (E' := [(5, Pt g)]) ⟨O, trivial⟩ (ap O O underlying102 O O sizeOf3 O)) O O O O O (aw (b := decide ((0 : Int) < w.1)) (fun d2 => RQ.sub (E' := [(68, .pointer (some ⟨g, 6, none⟩))]) ⟨aH O d2, trivial⟩ (ag O O isAgg3 (.obj 1 O O))) O O O O O (aw (b := decide ((0 : Int) < w.1)) (fun d3 => RQ.sub (E' := [(69, Iv t.1)]) ⟨aH O d3, trivial⟩ (cW O O O)) O O O O O (aL (dK O O O) O O O O O O (aL (bS O O O O O) O O O O O O (ae ?_)))))))))
 exact aG (s := (decide ((0 : Int) < w.1)) && (decide ((0 : Int) < t.1))) () ⟨O, O, O, O, O, trivial⟩ (.s O (.s O (.s O (.s O (.s O .n)))))
 intro eg g6
 refine vq (bS O O O O O) O (ae ?_)
 exact aG (s := eg) () ⟨O, O, O, O, trivial⟩ (.s O (.s O (.s O (.s O (.s O .n)))))
 rw [ds]
 refine aD O O O O O O (aD O O O O O O (aD O O O O O O (aD O O O O O O (dc O O O O O (dc O O O O O (dc O O O O O (dc O O O O O (dc O O O O O (dc O O O O O (dc O O O O O (dc O O O O O (aD O O O O O O (vq (bS O O O O O) O (ae ?_))))))))))))))
 exact aG (s := false) () ⟨O, O, O, O, trivial⟩ (.s O (.s O (.s O (.s O (.s O .n)))))
 intro ei g7
 refine va O O (ae ?_)
 exact aG (s := (ei, t.2.1, t.2.2, w.1, t.1)) () ⟨O, O, O, O, trivial⟩ (.s O (.s O (.s O (.s O (.s O .n)))))
 refine aC ?_
 exact aG (s := (e.1, e.2.1, e.2.2.1, 0, 0)) () ⟨O, O, O, O, trivial⟩ (.s O (.s O (.s O (.s O (.s O .n)))))
 intro m g8
 refine bJ (S := Bool × Int × Int × Int × Int × Int × Lb) (Option Addr × Nat) (fun s y => [(2, Pt n), (4, Pt a.1), (5, Pt g), (6, .bool s.1)]) (fun s y => [W20 a.1 d.1 s.2.1 s.2.2.1 a.2.1 a.2.2, W13 g h.1 l.2.2 e.2.2.2.1 e.q4.1 e.q4.2 m.2.2.2.1 m.q4 s.2.2.2.1 s.q4.1 s.q4.2.1 s.q4.2.2 y.1 y.2, obj n 102 [Iv 0, Iv 0, Iv 0, Iv 0, Iv 0, Iv 0, Iv 0, Iv 0, Iv 0, Iv 0, .slice none 0 0], Row 5 1 a.2.1 d.1.length a.2.2 (aB d.1), Row 5 1 y.1 s.q4.2.2.length y.2 (aB s.q4.2.2), F]) ?_ ?_
 refine sr (vq (ap O O underlying102 O O sizeOf3 O) O (vq (ag O O isAgg3 (.obj 1 O O)) O (vq (bW O O O) O (ae (aa ?_)))))
 refine bn O (fun g9 => ?_) (fun ha => ?_)
 refine sr (vq (di (v := .agg #[]) O O (fun _ => by kernel_rfl)) O (vm O O (ax (fun x d4 => (ba 3 O (fun d5 d6 d7 e6 => (ah (av (vs := [Pt a.1, Iv 8192]) (cap := []) (A := [W20 a.1 d.1 m.2.1 m.2.2.1 a.2.1 a.2.2]) (rst := [obj g 102 [Iv h.1, Iv l.2.2, Iv e.2.2.2.1, Iv e.q4.1, Iv e.q4.2, Iv m.2.2.2.1, Iv m.q4, Iv 0, Iv 0, Iv 0, .slice none 0 0], obj n 102 [Iv 0, Iv 0, Iv 0, Iv 0, Iv 0, Iv 0, Iv 0, Iv 0, Iv 0, Iv 0, .slice none 0 0], Row 5 1 a.2.1 d.1.length a.2.2 (aB d.1), F]) O O O O O O call103 (.s O (.s O (.s O (.s O (.s O .n))))) (dv.calls _ _ k a.1 a.2.1 a.2.2 d.1 m.2.1 m.2.2.1 (8192 : Int) (d5.lend 2 O) d6 d7) d4) O O O ?_)))))))
 intro al
 refine ax (fun q az => (ba 0 O (fun d8 d9 a1 em => (ah (av (vs := [.agg #[], .slice al.1 x.1.length al.2]) (cap := []) (A := []) (rst := [Row 5 1 al.1 x.1.length al.2 (aB x.1), W20 a.1 d.1 x.2.1 x.2.2 a.2.1 a.2.2, obj g 102 [Iv h.1, Iv l.2.2, Iv e.2.2.2.1, Iv e.q4.1, Iv e.q4.2, Iv m.2.2.2.1, Iv m.q4, Iv 0, Iv 0, Iv 0, .slice none 0 0], obj n 102 [Iv 0, Iv 0, Iv 0, Iv 0, Iv 0, Iv 0, Iv 0, Iv 0, Iv 0, Iv 0, .slice none 0 0], Row 5 1 a.2.1 d.1.length a.2.2 (aB d.1), F]) O O O O O O call102 (.s O (.s O (.s O (.s O (.s O (.s O .n)))))) (eZ.calls _ _ k al.1 al.2 x.1 (d8.lend 0 O) d9 a1) az) O O O ?_))))
 intro af
 refine vm O O (vq (bI O O O) O (vq (bI O O O) O (ah (bT O zeroValue35 O) O O O ?_)))
 intro ea
 refine aY (aJ 0 O O O sizeOf35 O O (aP (by rfl)) O O) O O ?_
 intro _
 refine va O O (ny (vq (co 0 O O isAgg35 sizeOf35 O O) O (vm O O (vq (bW O O O) O (vq (ap O O underlying102 O O sizeOf35 O) O (aY (aJ 4 O O O sizeOf35 O O (aP (by rfl)) O O) O O ?_))))))
 intro _
 refine bX (H' := [W12 ea q af.1 af.2, Row 5 1 af.1 q.2.2.2.1.length af.2 (aB q.2.2.2.1), Row 5 1 al.1 x.1.length al.2 (aB x.1), W20 a.1 d.1 x.2.1 x.2.2 a.2.1 a.2.2, W13 g h.1 l.2.2 e.2.2.2.1 e.q4.1 e.q4.2 m.2.2.2.1 m.q4 q.1 q.2.1 q.2.2.1 q.2.2.2.1 af.1 af.2, obj n 102 [Iv 0, Iv 0, Iv 0, Iv 0, Iv 0, Iv 0, Iv 0, Iv 0, Iv 0, Iv 0, .slice none 0 0], Row 5 1 a.2.1 d.1.length a.2.2 (aB d.1), F]) (Ent.refl _) (va O O (ae ?_))
 exact aG (s := (decide (q.q4 = (0 : Int)), x.2.1, x.2.2, q.1, q.2.1, q.2.2.1, q.2.2.2.1)) af ⟨O, O, O, O, trivial⟩ (.sel 3 O (.sel 3 O (.sel 3 O (.sel 3 O (.sel 1 O (.sel 2 O .n))))))
 refine aC ?_
 exact aG (s := (m.1, m.2.1, m.2.2.1, 0, 0, 0, ([] : Lb))) (none, 0) ⟨O, O, O, O, trivial⟩ (.s O (.s O (.s O (.s O (.row_nil (.s O .n))))))
 intro c p
 refine ay (ii 3 O (fun en er es et => (ii 3 O (fun a2 a3 a4 ew => ?_))))
 refine bi (Γ := Unit) () [[], [], [1], [1, 2], [1, 2, 3], [1, 2, 3, 4], [1, 2, 3, 4, 5], rL 5, rL 8] [7] [0, 1, 2, 3, 4, 5, 6, 8] (fun i => [[0], [0], [0], [0], [0], [0, 1], [0, 1], [], [1]].getD i []) (fun i => [[], [], [], [], [], [], [], rL 7, []].getD i []) (fun γ i => [.agg #[Iv h.1, Iv l.2.2, Iv e.2.2.2.1, Iv e.q4.1, Iv e.q4.2, Iv m.2.2.2.1, Iv m.q4, Iv c.2.2.2.1, Iv c.q4.1, Iv c.q4.2.1, .slice p.1 c.q4.2.2.length p.2], .bool c.1, .bool c.1, cv (c.1 == true) (Pt a.1), cv (c.1 == true) (Iv (bu.v d.1 c.2.1 c.2.2.1)), cv (c.1 == true) (.bool (decide ((bu.v d.1 c.2.1 c.2.2.1) = (0 : Int)))), .bool (c.1 && (decide ((bu.v d.1 c.2.1 c.2.2.1) = (0 : Int)))), undef, .bool (c.1 && (decide ((bu.v d.1 c.2.1 c.2.2.1) = (0 : Int))))].getD i undef) (fun j γ => [[W20 a.1 d.1 c.2.1 c.2.2.1 a.2.1 a.2.2, W13 g h.1 l.2.2 e.2.2.2.1 e.q4.1 e.q4.2 m.2.2.2.1 m.q4 c.2.2.2.1 c.q4.1 c.q4.2.1 c.q4.2.2 p.1 p.2, obj n 102 [Iv 0, Iv 0, Iv 0, Iv 0, Iv 0, Iv 0, Iv 0, Iv 0, Iv 0, Iv 0, .slice none 0 0], Row 5 1 a.2.1 d.1.length a.2.2 (aB d.1), Row 5 1 p.1 c.q4.2.2.length p.2 (aB c.q4.2.2), F], [W20 a.1 d.1 c.2.1 c.2.2.1 a.2.1 a.2.2, W13 g h.1 l.2.2 e.2.2.2.1 e.q4.1 e.q4.2 m.2.2.2.1 m.q4 c.2.2.2.1 c.q4.1 c.q4.2.1 c.q4.2.2 p.1 p.2, W13 n h.1 l.2.2 e.2.2.2.1 e.q4.1 e.q4.2 m.2.2.2.1 m.q4 c.2.2.2.1 c.q4.1 c.q4.2.1 c.q4.2.2 p.1 p.2, Row 5 1 a.2.1 d.1.length a.2.2 (aB d.1), Row 5 1 p.1 c.q4.2.2.length p.2 (aB c.q4.2.2), F]].getD j []) (fun γ => [(2, Pt n), (3, .bool (c.1 && (decide ((bu.v d.1 c.2.1 c.2.2.1) = (0 : Int)))))]) mixed (by decide) (by decide) (by decide) (by decide) (by decide) (by decide) (by decide) 95 O (by decide) (by decide) (by decide) (Ent.refl _) ?_ ?_ (fun _ => ⟨O, O, trivial⟩) ?_
 exact (aq O (fun γ => qp O O (.o (s := 5) O (by decide) .nil) (co 1 O O isAgg102 sizeOf102 O O) O) (aq O (fun γ => qm O (.o (s := 6) O (by decide) .nil) O) (aq O (fun γ => qm O (.v 1 O O .nil) O) (aq O (fun γ => QOb.grd (b := c.1) [(4, Pt a.1), (90, .bool c.1)] O O O O (.o (s := 4) O (by decide) (.v 2 O O .nil)) (fun ex => RQ.sub (E' := [(4, Pt a.1)]) ⟨O, trivial⟩ (bh O O)) O) (aq O (fun γ => QOb.grd (b := c.1) [(90, .bool c.1), (91, cv (c.1 == true) (Pt a.1))] O O O O (.v 2 O O (.v 3 O O .nil)) (fun a5 => RQ.sub (E' := [(91, Pt a.1)]) ⟨aH O a5, trivial⟩ (RE.rq (av (vs := [Pt a.1]) (cap := []) (A := [W20 a.1 d.1 c.2.1 c.2.2.1 a.2.1 a.2.2]) (rst := [W13 g h.1 l.2.2 e.2.2.2.1 e.q4.1 e.q4.2 m.2.2.2.1 m.q4 c.2.2.2.1 c.q4.1 c.q4.2.1 c.q4.2.2 p.1 p.2, obj n 102 [Iv 0, Iv 0, Iv 0, Iv 0, Iv 0, Iv 0, Iv 0, Iv 0, Iv 0, Iv 0, .slice none 0 0], Row 5 1 a.2.1 d.1.length a.2.2 (aB d.1), Row 5 1 p.1 c.q4.2.2.length p.2 (aB c.q4.2.2), F]) O O O O O O call104 (.s O (.s O (.s O (.s O (.s O (.s O .n)))))) (bu.calls _ _ a.1 a.2.1 a.2.2 d.1 c.2.1 c.2.2.1 (a2.lend 2 O) a3 a4) (bu.tot d.1 c.2.1 c.2.2.1)) (fun _ => O) (fun _ => (.s O (.s O (.s O (.s O (.s O (.s O .n))))))))) O) (ac (fun γ => (ac (QOb.grd (b := c.1) [(90, .bool c.1), (92, cv (c.1 == true) (Iv (bu.v d.1 c.2.1 c.2.2.1)))] O O O O (.v 2 O O (.v 4 O O .nil)) (fun a6 => RQ.sub (E' := [(92, Iv (bu.v d.1 c.2.1 c.2.2.1))]) ⟨aH O a6, trivial⟩ (bW O O O)) O) (ac (QOb.grd (b := c.1) [(90, .bool c.1), (92, cv (c.1 == true) (Iv (bu.v d.1 c.2.1 c.2.2.1)))] O O O O (.v 2 O O (.v 4 O O .nil)) (fun a7 => RQ.sub (E' := [(92, Iv (bu.v d.1 c.2.1 c.2.2.1))]) ⟨aH O a7, trivial⟩ (bW O O O)) O) zA))) (ac (fun γ => (ac (qp O O (.v 2 O O (.v 5 O O .nil)) (dK O O O) O) (ac (qp O O (.v 2 O O (.v 5 O O .nil)) (dK O O O) O) zA))) (aq O (fun γ => qp O O (.v 6 O O .nil) (cK O O) O) zA))))))))
 exact (ac (fun γ => eo (Z := Unit) (fun z => ()) O O (.o (s := 2) O (by decide) (.v 0 O O .nil)) (aJ 2 O O O sizeOf102 O O (aP (by rfl)) O O) (fun _ => ⟨O, O, O, O, O, O, O, trivial⟩) (fun _ => .inl O) (fun z => Ent.refl _)) zA)
 intro e7
 refine aa (aA ?_)
 exact iU (vs := [.agg #[Iv h.1, Iv l.2.2, Iv e.2.2.2.1, Iv e.q4.1, Iv e.q4.2, Iv m.2.2.2.1, Iv m.q4, Iv c.2.2.2.1, Iv c.q4.1, Iv c.q4.2.1, .slice p.1 c.q4.2.2.length p.2], .bool (c.1 && (decide ((bu.v d.1 c.2.1 c.2.2.1) = (0 : Int))))]) p O ⟨⟨n, O, ir 2 isAgg102 sizeOf102 O O⟩, O, trivial⟩ O (.sel 4 O (.sel 4 O .n))

def iy.f (h : Int) (i : Int) (j : Int) (a : Int) (b : Int) (k : List (aF)) (l : Int) (m : Int) (c : Int) (d : Int) (e : Int) (n : Int) (o : Int) (p : Int) (q : Int) (r : Int) (g : List UInt8) (x2 : Int) : Option (Bool × Int × Int × Int × Int × Int) := some (true, c, d, e, a, b)
theorem iy.calls (W : World) (F : HA) (b0 : Nat) (u : Int) (v : Int) (w : Int) (k : Int) (l : Int) (i : Option Addr) (d : Nat) (b : List aF) (m : Int) (n : Int) (e : Int) (g : Int) (h : Int) (o : Int) (p : Int) (q : Int) (s : Int) (t : Int) (j : Option Addr) (c : Nat) (a : Lb) (x2 : Int) (an : RdV F 5 (aQ F) i b) (ad : b.length ≤ d) (af : d ≤ maxLen) (al : Rd F j (aB a)) (x : a.length ≤ c) (z : c ≤ maxLen) :
    Fn Tryz.prog W 112 [Pt b0, .agg #[Iv m, Iv n, Iv e, Iv g, Iv h, Iv o, Iv p, Iv q, Iv s, Iv t, .slice j a.length c], Iv x2] [W11 b0 u v w k l b i d] F (iy.f u v w k l b m n e g h o p q s t a x2) (fun (r : Bool × Int × Int × Int × Int × Int) (y : Unit) => .bool r.1) (fun r y => [W11 b0 r.2.1 r.2.2.1 r.2.2.2.1 r.q4.1 r.q4.2 b i d]) := by
 unfold iy.f
 refine aO 12 Tryz.func112 O Tryz.ntmps112 O (sr (ah (cq O O O) O O O ?_))
 intro ab
 refine va O O (nx (vm O O (vq (ap O O underlying102 O O sizeOf43 O) O (vq (cu (vs := [Iv e, Iv g, Iv h]) O O isAgg43 sizeOf43 O (du 0 O (cR O))) O (vn O O (vq (ap O O underlying89 O O sizeOf43 O) O (aY (aJ 1 O O O sizeOf43 O O (aP (by rfl)) O O) O O ?_)))))))
 intro _
 refine bX (H' := [W13 ab m n e g h o p q s t a j c, W11 b0 e g h k l b i d, F]) (Ent.refl _) (nx (va O O (ae (aa (aA ?_)))))
 exact aE () O O O (.sel 1 O (.sel 1 O .n))

def iz.f (g : Int) (h : Int) (i : Int) (c : Int) (j : Int) (d : List (aF)) (m : Int) (n : Int) (o : Int) (p : Int) (q : Int) (r : Int) (s : Int) (k : Int) (a : Int) (l : Int) (e : List UInt8) (x2 : Int) : Option (Bool × Int × Int × Int × Int × Int × (List (aF))) := if IntKind.i64.wrap ((IntKind.i64.wrap (c + (d.length : Int))) + 1) < a then (some (false, g, h, i, c, j, d)) else ((if a ≤ c then (some (IntKind.i64.wrap (a - 1), 0, ([] : List (aF)))) else (some (c, j, d))).bind fun b => (if 0 ≤ (0 : Int) ∧ (0 : Int) ≤ IntKind.i64.wrap ((IntKind.i64.wrap (a - b.1)) - 1) ∧ IntKind.i64.wrap ((IntKind.i64.wrap (a - b.1)) - 1) ≤ (b.2.2.length : Int) then (if ((cut b.2.2 (0 : Int) (IntKind.i64.wrap ((IntKind.i64.wrap (a - b.1)) - 1))).length + ([(k, a, l, e, x2)] : List (aF)).length) * 56 ≤ 140737488355328 then (some (true, g, h, i, b.1, b.2.1, (cut b.2.2 (0 : Int) (IntKind.i64.wrap ((IntKind.i64.wrap (a - b.1)) - 1))) ++ ([(k, a, l, e, x2)] : List (aF)))) else none) else none))
theorem iz.calls (W : World) (F : HA) (b0 : Nat) (t : Int) (u : Int) (w : Int) (x : Int) (a3 : Int) (p : Option Addr) (q : Nat) (n : List aF) (m : HA) (af : Int) (al : Int) (an : Int) (az : Int) (a0 : Int) (a1 : Int) (a2 : Int) (c : Int) (a : Int) (d : Int) (g : Option Addr) (e : Nat) (b : Lb) (x2 : Int) (b3 : Rd m g (aB b)) (be : b.length ≤ e) (br : e ≤ maxLen) :
    Fn Tryz.prog W 113 [Pt b0, .agg #[Iv af, Iv al, Iv an, Iv az, Iv a0, Iv a1, Iv a2, Iv c, Iv a, Iv d, .slice g b.length e], Iv x2] [W11 b0 t u w x a3 n p q, am 144 5 (aQ m) p n q, m] F (iz.f t u w x a3 n af al an az a0 a1 a2 c a d b x2) (fun (r : Bool × Int × Int × Int × Int × Int × (List aF)) (y : Option Addr × Nat × HA) => .bool r.1) (fun r y => [pr (Up m y.2.2), W18 b0 r.2 y.1 y.2.1, am 144 5 (aQ y.2.2) y.1 r.q4.2.2 y.2.1, y.2.2]) := by
 unfold iz.f
 refine aO 64 Tryz.func113 O Tryz.ntmps113 O (sr (ah (cq O O O) O O O ?_))
 intro a8
 refine va O O (nx (vq (ap O O underlying102 O O sizeOf35 O) O (vq (cu (vs := [Iv c, Iv a, Iv d, .slice g b.length e]) O O isAgg35 sizeOf35 O (du 0 O (cR O))) O (ah (bT O zeroValue35 O) O O O ?_))))
 intro ab
 refine aY (aJ 0 O O O sizeOf35 O O (aP (by rfl)) O O) O O ?_
 intro _
 refine ae (aa (ay (ay (bq 3 O (fun a6 bs => ?_)))))
 refine bi (Γ := Unit) () [[], [0], [], [2], [2, 3], [2, 3, 4], [], [6], [6, 7], [6, 7, 8], [6, 7, 8, 9], [2, 3, 4, 5, 6, 7, 8, 9, 10], [2, 3, 4, 5, 6, 7, 8, 9, 10, 11], rL 13] [] [0, 1, 2, 3, 4, 5, 6, 7, 8, 9, 10, 11, 12, 13] (fun i => [[0], [0], [0], [0], [0], [0], [0], [0], [0], [0], [0], [0], [0], [0]].getD i []) (fun i => [[], [], [], [], [], [], [], [], [], [], [], [], [], []].getD i []) (fun γ i => [.pointer (some ⟨ab, 1, none⟩), Iv a, Pt b0, Pt b0, .pointer (some ⟨b0, 3, none⟩), Iv x, Pt b0, Pt b0, .pointer (some ⟨b0, 5, none⟩), .slice p n.length q, Iv (n.length : Int), Iv (IntKind.i64.wrap (x + (n.length : Int))), Iv (IntKind.i64.wrap ((IntKind.i64.wrap (x + (n.length : Int))) + 1)), .bool (decide (IntKind.i64.wrap ((IntKind.i64.wrap (x + (n.length : Int))) + 1) < a))].getD i undef) (fun j γ => [[W10 ab c a d b g e, W13 a8 af al an az a0 a1 a2 c a d b g e, W11 b0 t u w x a3 n p q, Row 144 5 p n.length q a6.flatten, m, F]].getD j []) (fun γ => [(0, Pt b0), (2, Iv x2), (7, Pt ab), (23, .bool (decide (IntKind.i64.wrap ((IntKind.i64.wrap (x + (n.length : Int))) + 1) < a)))]) mixed (by decide) (by decide) (by decide) (by decide) (by decide) (by decide) (by decide) 64 O (by decide) (by decide) (by decide) (Ent.refl _) ?_ ?_ (fun _ => ⟨O, O, O, O, trivial⟩) ?_
 exact (aq O (fun γ => qp O O (.o (s := 7) O (by decide) .nil) (ap O O underlying35 O O sizeOf3 O) O) (aq O (fun γ => qp O O (.v 0 O O .nil) (ag O O isAgg3 (.obj 0 O O)) O) (aq O (fun γ => qm O (.o (s := 0) O (by decide) .nil) O) (aq O (fun γ => qp O O (.v 2 O O .nil) (aW O O) O) (aq O (fun γ => qp O O (.v 3 O O .nil) (ap O O underlying89 O O sizeOf3 O) O) (aq O (fun γ => qp O O (.v 4 O O .nil) (ag O O isAgg3 (.obj 2 O O)) O) (aq O (fun γ => qm O (.o (s := 0) O (by decide) .nil) O) (aq O (fun γ => qp O O (.v 6 O O .nil) (aW O O) O) (aq O (fun γ => qp O O (.v 7 O O .nil) (ap O O underlying89 O O sizeOf87 O) O) (aq O (fun γ => qp O O (.v 8 O O .nil) (ag O O isAgg87 (.obj 2 O O)) O) (aq O (fun γ => qp O O (.v 9 O O .nil) (bx O O O underlying87) O) (aq O (fun γ => qp O O (.v 5 O O (.v 10 O O .nil)) (bY O O O) O) (aq O (fun γ => qp O O (.v 11 O O .nil) (bY O O O) O) (aq O (fun γ => qp O O (.v 1 O O (.v 12 O O .nil)) (cW O O O) O) zA))))))))))))))
 exact zA
 intro c1
 refine aa ?_
 refine bn O (fun c2 => ?_) (fun c3 => ?_)
 refine sr (va O O (ae (aa (aA (aN ?_)))))
 exact aE (p, q, m) O O O (.pr_in (Up.refl _) (.sel 2 O (.sel' 2 O (am.mk bs) (.sel 2 O (.sel 2 O .n)))))
 refine aC (aa ?_)
 refine bJ (S := Int × Int × (List aF)) (Option Addr × Nat) (fun s y => [(0, Pt b0), (2, Iv x2), (7, Pt ab)]) (fun s y => [W10 ab c a d b g e, W11 b0 t u w s.1 s.2.1 s.2.2 y.1 y.2, am 144 5 (aQ m) y.1 s.2.2 y.2, m, F]) ?_ ?_
 refine ay ?_
 refine bi (Γ := Unit) () [[], [0], [], [2], [2, 3], [2, 3, 4], rL 6] [] [0, 1, 2, 3, 4, 5, 6] (fun i => [[0], [0], [0], [0], [0], [0], [0]].getD i []) (fun i => [[], [], [], [], [], [], []].getD i []) (fun γ i => [.pointer (some ⟨ab, 1, none⟩), Iv a, Pt b0, Pt b0, .pointer (some ⟨b0, 3, none⟩), Iv x, .bool (decide (a ≤ x))].getD i undef) (fun j γ => [[W10 ab c a d b g e, W13 a8 af al an az a0 a1 a2 c a d b g e, W11 b0 t u w x a3 n p q, Row 144 5 p n.length q a6.flatten, m, F]].getD j []) (fun γ => [(0, Pt b0), (2, Iv x2), (7, Pt ab), (30, .bool (decide (a ≤ x)))]) mixed (by decide) (by decide) (by decide) (by decide) (by decide) (by decide) (by decide) 64 O (by decide) (by decide) (by decide) (Ent.refl _) ?_ ?_ (fun _ => ⟨O, O, O, O, trivial⟩) ?_
 exact (aq O (fun γ => qp O O (.o (s := 7) O (by decide) .nil) (ap O O underlying35 O O sizeOf3 O) O) (aq O (fun γ => qp O O (.v 0 O O .nil) (ag O O isAgg3 (.obj 0 O O)) O) (aq O (fun γ => qm O (.o (s := 0) O (by decide) .nil) O) (aq O (fun γ => qp O O (.v 2 O O .nil) (aW O O) O) (aq O (fun γ => qp O O (.v 3 O O .nil) (ap O O underlying89 O O sizeOf3 O) O) (aq O (fun γ => qp O O (.v 4 O O .nil) (ag O O isAgg3 (.obj 2 O O)) O) (aq O (fun γ => qp O O (.v 1 O O (.v 5 O O .nil)) (iQ O O O) O) zA)))))))
 exact zA
 intro ch
 refine aa ?_
 refine bn O (fun cs => ?_) (fun c0 => ?_)
 refine aI (vm O O (vm O O (vm O O (vq (ap O O underlying35 O O sizeOf3 O) O (vq (ag O O isAgg3 (.obj 0 O O)) O (vq (dC O O O) O (vn O O (vq (ap O O underlying89 O O sizeOf3 O) O (aY (aJ 2 O O O sizeOf3 O O (aP (by rfl)) O O) O O ?_)))))))))
 intro _
 refine bX (H' := [W10 ab c a d b g e, W13 a8 af al an az a0 a1 a2 c a d b g e, W11 b0 t u w (IntKind.i64.wrap (a - 1)) a3 n p q, Row 144 5 p n.length q a6.flatten, m, F]) (Ent.refl _) (vn O O (vq (ap O O underlying89 O O sizeOf3 O) O (aY (aJ 2 O O O sizeOf3 O O (aP (by rfl)) O O) O O ?_)))
 intro _
 refine bX (H' := [W10 ab c a d b g e, W13 a8 af al an az a0 a1 a2 c a d b g e, W11 b0 t u w (IntKind.i64.wrap (a - 1)) 0 n p q, Row 144 5 p n.length q a6.flatten, m, F]) (Ent.refl _) (vn O O (vq (ap O O underlying89 O O sizeOf87 O) O (aY (aJ 2 O O O sizeOf87 O O (aP (by rfl)) O O) O O ?_)))
 intro _
 refine bX (H' := [W10 ab c a d b g e, W13 a8 af al an az a0 a1 a2 c a d b g e, obj b0 89 [Iv t, Iv u, Iv w, Iv (IntKind.i64.wrap (a - 1)), Iv 0, .slice none 0 0], Row 144 5 p n.length q a6.flatten, m, F]) (Ent.refl _) (ae ?_)
 exact aG (s := (IntKind.i64.wrap (a - 1), 0, ([] : List aF))) (none, 0) ⟨O, O, O, trivial⟩ (.s O (.sel 1 O (.rowV_nil (.sel 2 O (.sel 2 O .n)))))
 refine aC ?_
 exact aG (s := (x, a3, n)) (p, q) ⟨O, O, O, trivial⟩ (.s O (.sel 1 O (.sel' 1 O (am.mk bs) (.sel 1 O (.sel 1 O .n)))))
 intro k ad
 refine ay (bq 2 O (fun bc bd => (ii 2 O (fun b4 a4 b6 b7 => (cG (fun a5 => ?_))))))
 obtain ⟨bt, b1, a7, b8, b9, cd⟩ := gM (lo := (0 : Int)) (hi := IntKind.i64.wrap ((IntKind.i64.wrap (a - k.1)) - 1)) (Rd.asV bd b4) a4 a5
 have a9 : bP 5 (aQ m) ([(c, a, d, b, x2)] : List aF) [[Iv c, Iv a, Iv d, .slice g b.length e, Iv x2]] := ⟨⟨rfl, aP (by rfl), ⟨g, e, rfl, ⟨b3, be, br⟩⟩⟩, trivial⟩
 refine cG (fun b5 => ?_)
 refine bi (Γ := Nat × (Option Addr × Nat)) (0, (none, 0)) [[], [], [1], [1, 2], [1, 2, 3], [], [5], [], [7], [7, 8], [7, 8, 9], [5, 6, 7, 8, 9, 10], [5, 6, 7, 8, 9, 10, 11], [1, 2, 3, 4, 5, 6, 7, 8, 9, 10, 11, 12], [], [], [14, 15], [14, 15, 16], [1, 2, 3, 4, 5, 6, 7, 8, 9, 10, 11, 12, 13, 14, 15, 16, 17], rL 19, rL 20, rL 21] [17, 18, 21] [0, 1, 2, 3, 4, 5, 6, 7, 8, 9, 10, 11, 12, 13, 14, 15, 16, 19, 20] (fun i => [[0, 1, 2], [0, 1], [0, 1], [0, 1], [0, 1], [0, 1], [0, 1], [0, 1], [0, 1], [0, 1], [0, 1], [0, 1], [0, 1], [0, 1], [0], [0], [0], [], [], [2], [2], []].getD i []) (fun i => [[], [], [], [], [], [], [], [], [], [], [], [], [], [], [], [], [], rL 17, rL 18, [], [], rL 21].getD i []) (fun γ i => [Pt b0, Pt b0, Pt b0, .pointer (some ⟨b0, 5, none⟩), .slice ad.1 k.2.2.length ad.2, .pointer (some ⟨ab, 1, none⟩), Iv a, Pt b0, Pt b0, .pointer (some ⟨b0, 3, none⟩), Iv k.1, Iv (IntKind.i64.wrap (a - k.1)), Iv (IntKind.i64.wrap ((IntKind.i64.wrap (a - k.1)) - 1)), .slice bt ((cut k.2.2 (0 : Int) (IntKind.i64.wrap ((IntKind.i64.wrap (a - k.1)) - 1))).length) b1, .agg #[Iv c, Iv a, Iv d, .slice g b.length e], Iv x2, .agg #[Iv c, Iv a, Iv d, .slice g b.length e, Iv x2], .slice (some ⟨γ.1, 0, none⟩) (([(c, a, d, b, x2)] : List aF).length) 1, .slice γ.2.1 (((cut k.2.2 (0 : Int) (IntKind.i64.wrap ((IntKind.i64.wrap (a - k.1)) - 1))) ++ ([(c, a, d, b, x2)] : List aF)).length) γ.2.2, Pt b0, .pointer (some ⟨b0, 5, none⟩), undef].getD i undef) (fun j γ => [[W10 ab c a d b g e, W11 b0 t u w k.1 k.2.1 k.2.2 ad.1 ad.2, Row 144 5 ad.1 k.2.2.length ad.2 bc.flatten, m, F], [Row 144 5 (some ⟨γ.1, 0, none⟩) ([(c, a, d, b, x2)] : List aF).length 1 [[Iv c, Iv a, Iv d, .slice g b.length e, Iv x2]].flatten, W10 ab c a d b g e, W11 b0 t u w k.1 k.2.1 k.2.2 ad.1 ad.2, Row 144 5 ad.1 k.2.2.length ad.2 bc.flatten, m, F], [Row 144 5 (some ⟨γ.1, 0, none⟩) ([(c, a, d, b, x2)] : List aF).length 1 [[Iv c, Iv a, Iv d, .slice g b.length e, Iv x2]].flatten, W10 ab c a d b g e, W11 b0 t u w k.1 k.2.1 k.2.2 ad.1 ad.2, am 144 5 (aQ m) γ.2.1 ((cut k.2.2 (0 : Int) (IntKind.i64.wrap ((IntKind.i64.wrap (a - k.1)) - 1))) ++ ([(c, a, d, b, x2)] : List aF)) γ.2.2, m, F], [Row 144 5 (some ⟨γ.1, 0, none⟩) ([(c, a, d, b, x2)] : List aF).length 1 [[Iv c, Iv a, Iv d, .slice g b.length e, Iv x2]].flatten, W10 ab c a d b g e, W11 b0 t u w k.1 k.2.1 ((cut k.2.2 (0 : Int) (IntKind.i64.wrap ((IntKind.i64.wrap (a - k.1)) - 1))) ++ ([(c, a, d, b, x2)] : List aF)) γ.2.1 γ.2.2, am 144 5 (aQ m) γ.2.1 ((cut k.2.2 (0 : Int) (IntKind.i64.wrap ((IntKind.i64.wrap (a - k.1)) - 1))) ++ ([(c, a, d, b, x2)] : List aF)) γ.2.2, m, F]].getD j []) (fun γ => []) mixed (by decide) (by decide) (by decide) (by decide) (by decide) (by decide) (by decide) 64 O (by decide) (by decide) (by decide) (Ent.refl _) ?_ ?_ (fun _ => trivial) ?_
 exact (ac (fun γ => (ac (qm O (.o (s := 0) O (by decide) .nil) O) (ac (qm O (.o (s := 0) O (by decide) .nil) O) (ac (qm O (.o (s := 0) O (by decide) .nil) O) zA)))) (ac (fun γ => (ac (qm O (.o (s := 0) O (by decide) .nil) O) (ac (qm O (.o (s := 0) O (by decide) .nil) O) zA))) (ac (fun γ => (ac (qp O O (.v 1 O O .nil) (aW O O) O) (ac (qp O O (.v 1 O O .nil) (aW O O) O) zA))) (ac (fun γ => (ac (qp O O (.v 2 O O .nil) (ap O O underlying89 O O sizeOf87 O) O) (ac (qp O O (.v 2 O O .nil) (ap O O underlying89 O O sizeOf87 O) O) zA))) (ac (fun γ => (ac (qp O O (.v 3 O O .nil) (ag O O isAgg87 (.obj 1 O O)) O) (ac (qp O O (.v 3 O O .nil) (ag O O isAgg87 (.obj 2 O O)) O) zA))) (ac (fun γ => (ac (qp O O (.o (s := 7) O (by decide) .nil) (ap O O underlying35 O O sizeOf3 O) O) (ac (qp O O (.o (s := 7) O (by decide) .nil) (ap O O underlying35 O O sizeOf3 O) O) zA))) (ac (fun γ => (ac (qp O O (.v 5 O O .nil) (ag O O isAgg3 (.obj 0 O O)) O) (ac (qp O O (.v 5 O O .nil) (ag O O isAgg3 (.obj 1 O O)) O) zA))) (ac (fun γ => (ac (qm O (.o (s := 0) O (by decide) .nil) O) (ac (qm O (.o (s := 0) O (by decide) .nil) O) zA))) (ac (fun γ => (ac (qp O O (.v 7 O O .nil) (aW O O) O) (ac (qp O O (.v 7 O O .nil) (aW O O) O) zA))) (ac (fun γ => (ac (qp O O (.v 8 O O .nil) (ap O O underlying89 O O sizeOf3 O) O) (ac (qp O O (.v 8 O O .nil) (ap O O underlying89 O O sizeOf3 O) O) zA))) (ac (fun γ => (ac (qp O O (.v 9 O O .nil) (ag O O isAgg3 (.obj 1 O O)) O) (ac (qp O O (.v 9 O O .nil) (ag O O isAgg3 (.obj 2 O O)) O) zA))) (ac (fun γ => (ac (qp O O (.v 6 O O (.v 10 O O .nil)) (dC O O O) O) (ac (qp O O (.v 6 O O (.v 10 O O .nil)) (dC O O O) O) zA))) (ac (fun γ => (ac (qp O O (.v 11 O O .nil) (dC O O O) O) (ac (qp O O (.v 11 O O .nil) (dC O O O) O) zA))) (ac (fun γ => (ac (qp O O (.v 4 O O (.v 12 O O .nil)) (gr (l := k.2.2) (lo' := (0 : Int)) (hi' := IntKind.i64.wrap ((IntKind.i64.wrap (a - k.1)) - 1)) O O O O underlying87 sizeOf144 (.inr ⟨_, O⟩) (.inl ⟨O, O⟩) a5 a4 a7) O) (ac (qp O O (.v 4 O O (.v 12 O O .nil)) (gr (l := k.2.2) (lo' := (0 : Int)) (hi' := IntKind.i64.wrap ((IntKind.i64.wrap (a - k.1)) - 1)) O O O O underlying87 sizeOf144 (.inr ⟨_, O⟩) (.inl ⟨O, O⟩) a5 a4 a7) O) zA))) (aq O (fun γ => qp O O (.o (s := 7) O (by decide) .nil) (co 0 O O isAgg35 sizeOf35 O O) O) (aq O (fun γ => qm O (.o (s := 2) O (by decide) .nil) O) (aq O (fun γ => qp O O (.v 14 O O (.v 15 O O .nil)) (di (v := .agg #[Iv c, Iv a, Iv d, .slice g b.length e, Iv x2]) O O (fun _ => by kernel_rfl)) O) (aq O (fun γ => qp O O (.v 0 O O .nil) (aW O O) O) (aq O (fun γ => qp O O (.v 19 O O .nil) (ap O O underlying89 O O sizeOf87 O) O) zA)))))))))))))))))))
 exact (ac (fun γ => eo (Z := Nat) (fun z => (z, γ.2)) O O (.v 16 O O .nil) (gb (V := (aQ m)) (xs := ([(c, a, d, b, x2)] : List aF)) [[Iv c, Iv a, Iv d, .slice g b.length e, Iv x2]] O O underlying87 lG O (by kernel_rfl) O a9 O O) (fun _ => ⟨O, O, O, O, O, O, O, O, O, O, O, O, O, O, O, O, O, trivial⟩) (fun _ => .inr O) (fun z => Ent.refl _)) (ac (fun γ => eo (Z := Option Addr × Nat) (fun z => (γ.1, z)) O O (.v 13 O O (.v 17 O O .nil)) (RE.ent (H1 := [Row 144 5 (some ⟨γ.1, 0, none⟩) ([(c, a, d, b, x2)] : List aF).length 1 [[Iv c, Iv a, Iv d, .slice g b.length e, Iv x2]].flatten, W10 ab c a d b g e, W11 b0 t u w k.1 k.2.1 k.2.2 ad.1 ad.2, am 144 5 (aQ m) bt (cut k.2.2 (0 : Int) (IntKind.i64.wrap ((IntKind.i64.wrap (a - k.1)) - 1))) b1, m, F]) (Ent.set' 3 O (fun _ h => tf bd a7 a5 a4 h)) (nv 3 O O O underlying87 lG O  (gX.row a9 0 O) b5)) (fun _ => ⟨O, O, O, O, O, O, O, O, O, O, O, O, O, O, O, O, O, O, trivial⟩) (fun _ => .inr O) (fun z => Ent.refl _)) (ac (fun γ => eo (Z := Unit) (fun z => (γ.1, γ.2)) O O (.v 18 O O (.v 20 O O .nil)) (aJ 2 O O O sizeOf87 O O (aP (by rfl)) O O) (fun _ => ⟨O, O, O, O, O, O, O, O, O, O, O, O, O, O, O, O, O, O, O, O, O, trivial⟩) (fun _ => .inl O) (fun z => Ent.refl _)) zA)))
 intro b2
 refine aa (sr (va O O (ae (aa (aA ?_)))))
 exact aE (b2.2.1, b2.2.2, m) O O O (.pr_in (Up.refl _) (.sel 2 O (.sel 2 O (.sel 2 O (.sel 2 O .n)))))
end Go.Proofs.YtndjkejhacfpdaaGreatDoor

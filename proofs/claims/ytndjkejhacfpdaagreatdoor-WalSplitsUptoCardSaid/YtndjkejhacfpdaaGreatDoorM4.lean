/- Texts that lead to the law WalSplits: G2. Conditions: as each says. -/
import Derived.Test.YtndjkejhacfpdaaGreatDoorM3
namespace Go.Proofs.YtndjkejhacfpdaaGreatDoor
open Go.RowKit _root_.Go.Proofs.Tryz
set_option linter.unusedVariables false
set_option linter.unusedSimpArgs false
set_option maxRecDepth 20000
set_option maxHeartbeats 20000000
def gr.f (k : Nat) (x0 : List UInt8) (x1 : Int) : Option (List UInt8 × Int × Int) := if (((decide (x1 < (0 : Int))) || (decide ((x0.length : Int) < x1))) || (decide (IntKind.i64.wrap ((x0.length : Int) - x1) < (4 : Int)))) = true then (some (([] : List UInt8), 0, 2)) else (if 0 ≤ x1 ∧ x1 ≤ (x0.length : Int) ∧ (x0.length : Int) ≤ (x0.length : Int) then ((fZ.f (cut x0 x1 (x0.length : Int))).bind fun a => (if (1048576 : Int) < IntKind.i64.wrap a then (some (([] : List UInt8), 0, 3)) else (if ((cut x0 x1 (x0.length : Int)).length : Int) < IntKind.i64.wrap (8 + (IntKind.i64.wrap a)) then (some (([] : List UInt8), 0, 2)) else (if 0 ≤ (8 : Int) ∧ (8 : Int) ≤ IntKind.i64.wrap (8 + (IntKind.i64.wrap a)) ∧ IntKind.i64.wrap (8 + (IntKind.i64.wrap a)) ≤ ((cut x0 x1 (x0.length : Int)).length : Int) then (if 0 ≤ (0 : Int) ∧ (0 : Int) ≤ (4 : Int) ∧ (4 : Int) ≤ ((cut x0 x1 (x0.length : Int)).length : Int) then ((bN.f k (4294967295 : Int) (cut (cut x0 x1 (x0.length : Int)) (0 : Int) (4 : Int))).bind fun b => ((bN.f k b (cut (cut x0 x1 (x0.length : Int)) (8 : Int) (IntKind.i64.wrap (8 + (IntKind.i64.wrap a))))).bind fun c => (if 0 ≤ (4 : Int) ∧ (4 : Int) ≤ ((cut x0 x1 (x0.length : Int)).length : Int) ∧ ((cut x0 x1 (x0.length : Int)).length : Int) ≤ ((cut x0 x1 (x0.length : Int)).length : Int) then ((fZ.f (cut (cut x0 x1 (x0.length : Int)) (4 : Int) ((cut x0 x1 (x0.length : Int)).length : Int))).bind fun d => (if bS .xor .u32 (if IntKind.u32.signed then -1 else IntKind.u32.max) c = d then (if 0 ≤ (0 : Int) ∧ (0 : Int) ≤ IntKind.i64.wrap a ∧ IntKind.i64.wrap a * 1 ≤ 140737488355328 then (if ((List.replicate (0 : Int).toNat (0 : UInt8)).length + (cut (cut x0 x1 (x0.length : Int)) (8 : Int) (IntKind.i64.wrap (8 + (IntKind.i64.wrap a)))).length) * 1 ≤ 140737488355328 then (some ((List.replicate (0 : Int).toNat (0 : UInt8)) ++ (cut (cut x0 x1 (x0.length : Int)) (8 : Int) (IntKind.i64.wrap (8 + (IntKind.i64.wrap a)))), IntKind.i64.wrap (8 + (IntKind.i64.wrap a)), 0)) else none) else none) else (some (([] : List UInt8), 0, 5)))) else none))) else none) else none)))) else none)
theorem gr.calls (W : World) (F : HA) (k : Nat) (a0 : Option Addr) (c0 : Nat) (x0 : List UInt8) (x1 : Int) (h0 : Rd F a0 (ax x0)) (cd : x0.length ≤ c0) (af : c0 ≤ maxLen) :
    Fn Tryz.prog W 68 [.slice a0 x0.length c0, .int .i64 x1] [] F (gr.f k x0 x1) (fun (r : List UInt8 × Int × Int) (y : Option Addr × Nat) => .tuple #[.slice y.1 r.1.length y.2, .int .i64 r.2.1, .int .i64 r.2.2]) (fun r y => [Row 5 1 y.1 r.1.length y.2 (ax r.1)]) := by
 unfold gr.f
 refine aN 58 Tryz.func68 O Tryz.ntmps68 O ?_
 refine sr ?_
 refine va O O ?_
 refine va O O ?_
 refine va O O (ae (aa (ay (sr ?_))))
 refine vm O O ?_
 refine vq (cH O O O) O ?_
 refine vm O O ?_
 refine au (b := decide (x1 < (0 : Int))) (fun cs => RQ.sub (E' := [(1, .int .i64 x1)]) ⟨O, trivial⟩ (ba O O)) O O O O O ?_
 refine au (b := decide (x1 < (0 : Int))) (fun c1 => RQ.sub (E' := [(0, .slice a0 x0.length c0)]) ⟨O, trivial⟩ (ba O O)) O O O O O ?_
 refine au (b := decide (x1 < (0 : Int))) (fun a7 => RQ.sub (E' := [(14, .slice a0 x0.length c0)]) ⟨aE O a7, trivial⟩ (bD O O O underlying33)) O O O O O ?_
 refine au (b := decide (x1 < (0 : Int))) (fun al => RQ.sub (E' := [(13, .int .i64 x1), (15, .int .i64 (x0.length : Int))]) ⟨aE O al, aE O al, trivial⟩ (cI O O O)) O O O O O ?_
 refine vq (ex O O O) O ?_
 refine vm O O ?_
 refine au (b := (decide (x1 < (0 : Int))) || (decide ((x0.length : Int) < x1))) (fun c2 => RQ.sub (E' := [(0, .slice a0 x0.length c0)]) ⟨O, trivial⟩ (ba O O)) O O O O O ?_
 refine au (b := (decide (x1 < (0 : Int))) || (decide ((x0.length : Int) < x1))) (fun a8 => RQ.sub (E' := [(19, .slice a0 x0.length c0)]) ⟨aE O a8, trivial⟩ (bD O O O underlying33)) O O O O O ?_
 refine au (b := (decide (x1 < (0 : Int))) || (decide ((x0.length : Int) < x1))) (fun c3 => RQ.sub (E' := [(1, .int .i64 x1)]) ⟨O, trivial⟩ (ba O O)) O O O O O ?_
 refine au (b := (decide (x1 < (0 : Int))) || (decide ((x0.length : Int) < x1))) (fun an => RQ.sub (E' := [(20, .int .i64 (x0.length : Int)), (21, .int .i64 x1)]) ⟨aE O an, aE O an, trivial⟩ (dc O O O)) O O O O O ?_
 refine au (b := (decide (x1 < (0 : Int))) || (decide ((x0.length : Int) < x1))) (fun a9 => RQ.sub (E' := [(22, .int .i64 (IntKind.i64.wrap ((x0.length : Int) - x1)))]) ⟨aE O a9, trivial⟩ (cH O O O)) O O O O O ?_
 refine vq (ex O O O) O (ae (aa ?_))
 refine aY O (fun d2 => ?_) (fun d3 => ?_)
 refine sr ?_
 refine va O O ?_
 refine va O O ?_
 refine va O O (ae (aa (aA ?_)))
 refine aK ?_
 exact aD (none, 0) O O O (.row_nil (.sel 0 O (.nil _)))
 refine aC ?_
 refine aa (sr ?_)
 refine vm O O ?_
 refine vm O O ?_
 refine bh (fun a5 => ?_)
 obtain ⟨az, a1, ch, e, a, g⟩ := gu (lo := x1) (hi := (x0.length : Int)) h0 cd a5
 refine vq (ga (l := x0) (lo' := x1) (hi' := (x0.length : Int)) O O O O underlying33 sizeOf5 (.inl ⟨O, O⟩) (.inr ⟨_, O⟩) a5 cd ch) O ?_
 refine va O O (nx ?_)
 refine vm O O ?_
 refine aw (fun c bc => ?_)
 refine ah (av (vs := [.slice az ((cut x0 x1 (x0.length : Int)).length) a1]) (cap := []) (A := []) (rst := [F]) O O O O O O call94 (.sel 0 O (.nil _)) (fZ.calls _ _ az a1 (cut x0 x1 (x0.length : Int)) (e.lend 0 O) a (Nat.le_trans g af)) bc) O O O ?_
 intro c4
 refine vq (eX O O underlying149 underlying3) O ?_
 refine va O O (ae (aa (ay (sr ?_))))
 refine vm O O ?_
 refine vq (cI O O O) O (ae (aa ?_))
 refine bf O (fun c5 => ?_) (fun c6 => ?_)
 refine sr ?_
 refine va O O ?_
 refine va O O ?_
 refine va O O (ae (aa (aA ?_)))
 refine aK ?_
 exact aD (none, 0) O O O (.row_nil (.sel 0 O (.nil _)))
 refine aC ?_
 refine aa (ay (sr ?_))
 refine vm O O ?_
 refine vq (bD O O O underlying33) O ?_
 refine vm O O ?_
 refine vq (cb O O O) O ?_
 refine vq (cH O O O) O (ae (aa ?_))
 refine bf O (fun c7 => ?_) (fun c8 => ?_)
 refine sr ?_
 refine va O O ?_
 refine va O O ?_
 refine va O O (ae (aa (aA ?_)))
 refine aK ?_
 exact aD (none, 0) O O O (.row_nil (.sel 0 O (.nil _)))
 refine aC ?_
 refine aa (sr ?_)
 refine vm O O ?_
 refine vm O O ?_
 refine vq (cb O O O) O ?_
 refine bh (fun a2 => ?_)
 obtain ⟨h, m, be, a3, br, bs⟩ := gu (lo := (8 : Int)) (hi := IntKind.i64.wrap (8 + (IntKind.i64.wrap c))) e a a2
 refine vq (ga (l := (cut x0 x1 (x0.length : Int))) (lo' := (8 : Int)) (hi' := IntKind.i64.wrap (8 + (IntKind.i64.wrap c))) O O O O underlying33 sizeOf5 (.inr ⟨_, O⟩) (.inr ⟨_, O⟩) a2 a be) O ?_
 refine va O O (ae (aa (ay (ay ?_))))
 refine cU (fun a4 => ?_)
 obtain ⟨t, u, bt, b0, b1, b2⟩ := gu (lo := (0 : Int)) (hi := (4 : Int)) e a a4
 refine bp (fun w b3 => ?_)
 refine bp (fun n b4 => ?_)
 refine cU (fun d => ?_)
 obtain ⟨x, ab, p, b5, b6, b7⟩ := gu (lo := (4 : Int)) (hi := ((cut x0 x1 (x0.length : Int)).length : Int)) e a d
 refine bp (fun ad b8 => ?_)
 refine bb (Γ := Unit) () [[], [0], [0, 1], [], rL 4, rL 5, [], [6], [0, 1, 2, 3, 4, 6, 7], rL 9] [2, 4, 8] [0, 1, 3, 5, 6, 7, 9] (fun i => [[0], [0], [], [0, 1], [], [2, 3], [0, 1, 2], [0, 1, 2], [], [3]].getD i []) (fun i => [[], [], [0, 1, 3, 6, 7], [], [0, 1, 2, 3, 6, 7], [], [], [], rL 8, []].getD i []) (fun γ i => [.slice az ((cut x0 x1 (x0.length : Int)).length) a1, .slice t ((cut (cut x0 x1 (x0.length : Int)) (0 : Int) (4 : Int)).length) u, .int .u32 w, .slice h ((cut (cut x0 x1 (x0.length : Int)) (8 : Int) (IntKind.i64.wrap (8 + (IntKind.i64.wrap c)))).length) m, .int .u32 n, .int .u32 (bS .xor .u32 (if IntKind.u32.signed then -1 else IntKind.u32.max) n), .slice az ((cut x0 x1 (x0.length : Int)).length) a1, .slice x ((cut (cut x0 x1 (x0.length : Int)) (4 : Int) ((cut x0 x1 (x0.length : Int)).length : Int)).length) ab, .int .u32 ad, .bool (!decide (bS .xor .u32 (if IntKind.u32.signed then -1 else IntKind.u32.max) n = ad))].getD i undef) (fun j γ => [[F], [F], [F], [F]].getD j []) (fun γ => [(8, .int .i64 (IntKind.i64.wrap c)), (9, .slice h ((cut (cut x0 x1 (x0.length : Int)) (8 : Int) (IntKind.i64.wrap (8 + (IntKind.i64.wrap c)))).length) m), (51, .bool (!decide (bS .xor .u32 (if IntKind.u32.signed then -1 else IntKind.u32.max) n = ad)))]) mixed (by decide) (by decide) (by decide) (by decide) (by decide) (by decide) (by decide) 58 O (by decide) (by decide) (by decide) (Ent.refl _) ?_ ?_ (fun _ => ⟨O, O, O, trivial⟩) ?_
 exact (aq O (fun γ => qm O (.o (s := 7) O (by decide) .nil) O) (aq O (fun γ => qp O O (.v 0 O O .nil) (ga (l := (cut x0 x1 (x0.length : Int))) (lo' := (0 : Int)) (hi' := (4 : Int)) O O O O underlying33 sizeOf5 (.inr ⟨_, O⟩) (.inl ⟨O, O⟩) a4 a bt) O) (ac (fun γ => (ac (qm O (.o (s := 9) O (by decide) .nil) O) (ac (qm O (.o (s := 9) O (by decide) .nil) O) zA))) (ac (fun γ => (ac (qp O O (.v 4 O O .nil) (pW O O) O) (ac (qp O O (.v 4 O O .nil) (pW O O) O) zA))) (ac (fun γ => (ac (qm O (.o (s := 7) O (by decide) .nil) O) (ac (qm O (.o (s := 7) O (by decide) .nil) O) (ac (qm O (.o (s := 7) O (by decide) .nil) O) zA)))) (ac (fun γ => (ac (qp O O (.v 6 O O .nil) (ga (l := (cut x0 x1 (x0.length : Int))) (lo' := (4 : Int)) (hi' := ((cut x0 x1 (x0.length : Int)).length : Int)) O O O O underlying33 sizeOf5 (.inl ⟨O, O⟩) (.inr ⟨_, O⟩) d a p) O) (ac (qp O O (.v 6 O O .nil) (ga (l := (cut x0 x1 (x0.length : Int))) (lo' := (4 : Int)) (hi' := ((cut x0 x1 (x0.length : Int)).length : Int)) O O O O underlying33 sizeOf5 (.inl ⟨O, O⟩) (.inr ⟨_, O⟩) d a p) O) (ac (qp O O (.v 6 O O .nil) (ga (l := (cut x0 x1 (x0.length : Int))) (lo' := (4 : Int)) (hi' := ((cut x0 x1 (x0.length : Int)).length : Int)) O O O O underlying33 sizeOf5 (.inl ⟨O, O⟩) (.inr ⟨_, O⟩) d a p) O) zA)))) (aq O (fun γ => qp O O (.v 5 O O (.v 8 O O .nil)) (cZ O O O) O) zA)))))))
 exact (ac (fun γ => eo (Z := Unit) (fun z => ()) O O (.v 1 O O .nil) (av (val := fun (r : Int) (y : Unit) => .int .u32 r) (B := fun _ _ => []) (vs := [.int .u32 4294967295, .slice t ((cut (cut x0 x1 (x0.length : Int)) (0 : Int) (4 : Int)).length) u]) (cap := []) (A := []) (rst := [F]) O O O O O O call95 (.sel 0 O (.nil _)) (bN.calls _ _ k (4294967295 : Int) t u (cut (cut x0 x1 (x0.length : Int)) (0 : Int) (4 : Int)) (b0.lend 0 O) b1 (Nat.le_trans b2 (Nat.le_trans g af))) b3) (fun _ => ⟨O, O, O, O, O, trivial⟩) (fun _ => .inr O) (fun z => Ent.refl _)) (ac (fun γ => eo (Z := Unit) (fun z => ()) O O (.v 2 O O (.v 3 O O .nil)) (av (val := fun (r : Int) (y : Unit) => .int .u32 r) (B := fun _ _ => []) (vs := [.int .u32 w, .slice h ((cut (cut x0 x1 (x0.length : Int)) (8 : Int) (IntKind.i64.wrap (8 + (IntKind.i64.wrap c)))).length) m]) (cap := []) (A := []) (rst := [F]) O O O O O O call95 (.sel 0 O (.nil _)) (bN.calls _ _ k w h m (cut (cut x0 x1 (x0.length : Int)) (8 : Int) (IntKind.i64.wrap (8 + (IntKind.i64.wrap c)))) (a3.lend 0 O) br (Nat.le_trans bs (Nat.le_trans g af))) b4) (fun _ => ⟨O, O, O, O, O, O, trivial⟩) (fun _ => .inr O) (fun z => Ent.refl _)) (ac (fun γ => eo (Z := Unit) (fun z => ()) O O (.v 7 O O .nil) (av (val := fun (r : Int) (y : Unit) => .int .u32 r) (B := fun _ _ => []) (vs := [.slice x ((cut (cut x0 x1 (x0.length : Int)) (4 : Int) ((cut x0 x1 (x0.length : Int)).length : Int)).length) ab]) (cap := []) (A := []) (rst := [F]) O O O O O O call94 (.sel 0 O (.nil _)) (fZ.calls _ _ x ab (cut (cut x0 x1 (x0.length : Int)) (4 : Int) ((cut x0 x1 (x0.length : Int)).length : Int)) (b5.lend 0 O) b6 (Nat.le_trans b7 (Nat.le_trans g af))) b8) (fun _ => ⟨O, O, O, O, O, O, O, O, trivial⟩) (fun _ => .inr O) (fun z => Ent.refl _)) zA)))
 intro c9
 refine aa ?_
 refine cS O (fun dl => ?_) (fun ds => ?_)
 refine aC ?_
 refine aa (sr ?_)
 refine vm O O ?_
 refine bh (fun q => ?_)
 refine ah (jY O O O underlying33 fV q.1 q.2.1 q.2.2) O O O ?_
 intro d1
 refine vm O O ?_
 refine bh (fun b9 => ?_)
 refine ah (eG 0 O O O underlying33 fV O (a3.rds 0 O) b9) O O O ?_
 intro a6
 refine vm O O ?_
 refine vq (cb O O O) O ?_
 refine va O O ?_
 refine va O O ?_
 refine va O O (ae (aa (aA ?_)))
 exact aD (a6.1, a6.2) O O O (.sel 0 O (.sel 0 O (.nil _)))
 refine sr ?_
 refine va O O ?_
 refine va O O ?_
 refine va O O (ae (aa (aA ?_)))
 refine aK ?_
 exact aD (none, 0) O O O (.row_nil (.sel 0 O (.nil _)))

def dr.l0 {S : Type} (step : S → (Int × List UInt8) → Option S) (a : List UInt8) : Nat → Int → S → Option (S)
  | 0, _, _ => none
  | k + 1, c, d => if c < (a.length : Int) then ((gr.f k a c).bind fun e => ((if e.2.2 = (0 : Int) then ((step d (c, e.1)).bind fun g => (some (false, g))) else (some (true, d))).bind fun b => (if b.1 = true then (some b.2) else (dr.l0 step a k (IntKind.i64.wrap (c + e.2.1)) b.2)))) else (some d)
def dr.f {S : Type} (k : Nat) (step : S → (Int × List UInt8) → Option S) (s0 : S) (a : List UInt8) : Option (S) := dr.l0 step a k 0 s0
theorem dr.calls (W : World) (F : HA) (k : Nat) (S Y : Type) (l : Nat) (step : S → Int × List UInt8 → Option S) (A : S → Y → HA) (s0 : S) (y0 : Y) (b1 : Nat) (c : Option Addr) (b : Nat) (a : List UInt8) (hY : jJ Tryz.prog W l (fun (x : Int × List UInt8) (γ : Option Addr × Nat) => [.int .i64 x.1, .slice γ.1 x.2.length γ.2]) (fun (x : Int × List UInt8) (γ : Option Addr × Nat) => Row 5 1 γ.1 x.2.length γ.2 (ax x.2)) step A) (q : Rd F c (ax a)) (i : a.length ≤ b) (j : b ≤ maxLen) :
    Fn Tryz.prog W 93 [.func (.yield l) #[] #[], .pointer (some ⟨b1, 0, none⟩)] [A s0 y0, obj b1 33 [.slice c a.length b]] F (dr.f k step s0 a) (fun (r : S) (y : Y) => .tuple #[]) (fun r y => [A r y, obj b1 33 [.slice c a.length b]]) := by
 unfold dr.f
 refine aN 30 Tryz.func93 O Tryz.ntmps93 O ?_
 refine sr ?_
 refine va O O (ae (aa ?_))
 refine aT ?_
 refine cC (S := Int × S) (Y) (fun k s => dr.l0 step a k s.1 s.2) (fun s y => [(0, .func (.yield l) #[] #[]), (1, .pointer (some ⟨b1, 0, none⟩)), (3, .int .i64 s.1)]) (fun s y => [obj b1 33 [.slice c a.length b], A s.2 y, F]) (fun _ => by rw [dr.l0]) ?_ k (0, s0) y0 ⟨O, O, O, trivial⟩ (.sel 1 O (.sel 0 O (.sel 0 O (.nil _))))
 intro k d e
 refine df (by rw [dr.l0]) ?_
 refine ay (sr ?_)
 refine vm O O ?_
 refine vq (ag O O isAgg33 (.obj 0 O O)) O ?_
 refine vq (bD O O O underlying33) O ?_
 refine vq (cH O O O) O (ae (aa ?_))
 refine bf O (fun ad => ?_) (fun af => ?_)
 refine aC ?_
 refine aa ?_
 refine aT ?_
 refine sr ?_
 refine vq (ag O O isAgg33 (.obj 0 O O)) O ?_
 refine vm O O ?_
 refine aw (fun g t => ?_)
 refine ah (av (vs := [.slice c a.length b, .int .i64 d.1]) (cap := []) (A := []) (rst := [obj b1 33 [.slice c a.length b], A d.2 e, F]) O O O O O O call68 (.sel 0 O (.sel 0 O (.sel 0 O (.nil _)))) (gr.calls _ _ k c b a d.1 (q.lend 2 O) i j) t) O O O ?_
 intro p
 refine vm O O ?_
 refine vq (bu O O O) O ?_
 refine vq (bu O O O) O ?_
 refine vq (bu O O O) O ?_
 refine va O O ?_
 refine va O O ?_
 refine va O O (ae (aa (ay (sr ?_))))
 refine vm O O ?_
 refine vq (cZ O O O) O ?_
 refine vm O O ?_
 refine dG 6 (S := Bool × S) (Y) (fun s y => [(0, .func (.yield l) #[] #[]), (1, .pointer (some ⟨b1, 0, none⟩)), (3, .int .i64 d.1), (5, .int .i64 g.2.1), (26, .bool s.1)]) (fun s y => [obj b1 33 [.slice c a.length b], A s.2 y, F]) ?_ ?_
 refine lS (fun m => ?_) (fun n => ?_)
 rw [m]
 refine aO O O O O O O ?_
 refine aO O O O O O O ?_
 refine aO O O O O O O ?_
 refine aO O O O O O O ?_
 refine aO O O O O O O ?_
 refine vq (bW O O O O O) O (ae ?_)
 exact aF (s := (true, d.2)) e ⟨O, O, O, O, O, trivial⟩ (.sel 1 O (.sel 1 O (.sel 1 O (.nil _))))
 rw [n]
 refine aZ (ba O O) O O O O O O ?_
 refine aZ (ba O O) O O O O O O ?_
 refine aZ (ba O O) O O O O O O ?_
 refine aw (fun u o => ?_)
 refine fC (qI (γ := Option Addr × Nat) (d.1, g.1) (p.1, p.2) [obj b1 33 [.slice c a.length b], F] O O O O O O hY (.sel 2 O (.sel 0 O (.sel 0 O (.sel 0 O (.nil _))))) o) O O O O O O ?_
 intro v
 refine aZ (eP O O) O O O O O O ?_
 refine vq (bW O O O O O) O (ae ?_)
 exact aF (s := (false, u)) v ⟨O, O, O, O, O, trivial⟩ (.sel 1 O (.sel 0 O (.sel 0 O (.nil _))))
 intro w h
 refine ae (aa ?_)
 refine aY O (fun z => ?_) (fun ab => ?_)
 refine aA ?_
 refine aK ?_
 refine bi ?_
 refine fb ?_
 refine bi ?_
 exact aD h O O O (.sel 1 O (.sel 0 O (.sel 0 O (.nil _))))
 refine aC ?_
 refine aa (aJ ?_)
 refine vm O O ?_
 refine vm O O ?_
 refine vq (cb O O O) O ?_
 refine va O O (ae (bv ?_))
 exact bV (s := (IntKind.i64.wrap (d.1 + g.2.1), w.2)) h ⟨O, O, O, trivial⟩ (.sel 0 O (.sel 0 O (.sel 0 O (.nil _))))
 refine cN ?_
 refine ct ?_
 refine cD ?_
 refine cu ?_
 exact gb e O O O (.sel 1 O (.sel 0 O (.sel 0 O (.nil _))))

def gJ.f  : Option (Unit) := some ()
theorem gJ.calls (W : World) (F : HA) (a0 : Option Addr) (c0 : Nat) (x0 : List UInt8)  :
    Fn Tryz.prog W 67 [.slice a0 x0.length c0] [] F (gJ.f ) (fun (r : Unit) (y : Nat) => .func (.func 93) #[] #[.pointer (some ⟨y, 0, none⟩)]) (fun r y => [obj y 33 [.slice a0 x0.length c0]]) := by
 unfold gJ.f
 refine aN 4 Tryz.func67 O Tryz.ntmps67 O ?_
 refine sr ?_
 refine ah (cy O O O) O O O ?_
 intro a
 refine va O O (nx ?_)
 refine vq (hD O O O) O ?_
 refine va O O (ae (aa (aA ?_)))
 exact aD a O O O (.sel 0 O (.sel 0 O (.nil _)))

def iB.f (k : Nat) (x0 : List UInt8) : Option (List (List UInt8) × Int × Int) := (gJ.f).bind fun e => ((dr.f k (fun (c : Int × List (List UInt8)) (b : Int × List UInt8) => if (c.2.length + ([b.2] : List (List UInt8)).length) * 24 ≤ 140737488355328 then (some (IntKind.i64.wrap ((IntKind.i64.wrap (b.1 + 8)) + (b.2.length : Int)), c.2 ++ ([b.2] : List (List UInt8)))) else none) (0, ([] : List (List UInt8))) x0).bind fun a => (if a.1 = (x0.length : Int) then (some (a.2, a.1, 0)) else ((gr.f k x0 a.1).bind fun d => (some (a.2, a.1, d.2.2)))))
theorem iB.calls (W : World) (F : HA) (k : Nat) (a0 : Option Addr) (c0 : Nat) (x0 : List UInt8) (h0 : Rd F a0 (ax x0)) (a7 : x0.length ≤ c0) (a8 : c0 ≤ maxLen) :
    Fn Tryz.prog W 27 [.slice a0 x0.length c0] [] F (iB.f k x0) (fun (r : List (List UInt8) × Int × Int) (y : Option Addr × Nat × HA) => .tuple #[.slice y.1 r.1.length y.2.1, .int .i64 r.2.1, .int .i64 r.2.2]) (fun r y => [ap 33 1 (V33 (y.2.2)) y.1 r.1 y.2.1, y.2.2]) := by
 unfold iB.f
 refine na 41 Tryz.func27 O Tryz.ntmps27 O ?_
 refine sr ?_
 refine va O O ?_
 refine va O O ?_
 refine va O O (nx ?_)
 refine ah (bL O zeroValue64 O) O O O ?_
 intro h
 refine nx ?_
 refine ah (bL O zeroValue3 O) O O O ?_
 intro n
 refine aU (aH 0 O O O sizeOf3 O O (aM (by rfl)) O O) O O ?_
 intro _
 refine ae (aa (ay (sr ?_)))
 refine vm O O ?_
 refine aw (fun b0 a9 => ?_)
 refine ah (av (vs := [.slice a0 x0.length c0]) (cap := []) (A := []) (rst := [obj n 3 [.int .i64 0], obj h 64 [.slice none 0 0], F]) O O O O O O call67 (.sel 0 O (.sel 0 O (.sel 0 O (.nil _)))) (gJ.calls _ _ a0 c0 x0 ) a9) O O O ?_
 intro q
 refine ae (aa ?_)
 refine aT ?_
 refine pX (γ := Option Addr × Nat) (S := Int × List (List UInt8)) (Y := HA × Option Addr × Nat) (R' := (Int × List (List UInt8))) (Y' := (HA × Option Addr × Nat)) (ps := [14, 15]) (Cap := [obj q 33 [.slice a0 x0.length c0]]) (rst := [F]) (CapB := fun r y => [obj q 33 [.slice a0 x0.length c0]]) (enc := fun (x : Int × List UInt8) (γ : Option Addr × Nat) => [.int .i64 x.1, .slice γ.1 x.2.length γ.2]) (own := fun (x : Int × List UInt8) (γ : Option Addr × Nat) => Row 5 1 γ.1 x.2.length γ.2 (ax x.2)) (oN := dr.f k (fun (g : Int × List (List UInt8)) (c : Int × List UInt8) => if (g.2.length + ([c.2] : List (List UInt8)).length) * 24 ≤ 140737488355328 then (some (IntKind.i64.wrap ((IntKind.i64.wrap (c.1 + 8)) + (c.2.length : Int)), g.2 ++ ([c.2] : List (List UInt8)))) else none) (0, ([] : List (List UInt8))) x0) (fun s y => [obj n 3 [.int .i64 s.1], obj h 64 [.slice y.2.1 s.2.length y.2.2], ap 33 1 (V33 (y.1)) y.2.1 s.2 y.2.2, y.1]) (0, ([] : List (List UInt8))) (tt, none, 0) (fun g c b e => [(5, .pointer (some ⟨h, 0, none⟩)), (6, .pointer (some ⟨n, 0, none⟩)), (7, .int .i64 c.1), (8, .slice b.1 c.2.length b.2)]) (fun r => r) (fun r y => y) O O call93 (fun l A hY X => dr.calls _ _ k _ _ l _ A _ _ q a0 c0 x0 hY (h0.lend 1 O) a7 a8) O (fun _ _ => O) (.sel 1 O (.sel 1 O (.rowV_nil (.tt_in (.sel 0 O (.sel 0 O (.nil _))))))) ?_ ?_ ?_
 intro l g c b e Fr
 refine eD (H' := [obj n 3 [.int .i64 g.1], obj h 64 [.slice e.2.1 g.2.length e.2.2], ap 33 1 (V33 (e.1)) e.2.1 g.2 e.2.2, e.1, Row 5 1 b.1 c.2.length b.2 (ax c.2), Fr]) (Ent.refl _) ?_
 refine sr ?_
 refine va O O (ny ?_)
 refine va O O (ae ?_)
 exact aF () ⟨O, O, O, O, trivial⟩ (Ent.refl _)
 intro l g c b e Fr
 refine eD (H' := [obj n 3 [.int .i64 g.1], obj h 64 [.slice e.2.1 g.2.length e.2.2], ap 33 1 (V33 (e.1)) e.2.1 g.2 e.2.2, e.1, Row 5 1 b.1 c.2.length b.2 (ax c.2), Fr]) (Ent.refl _) ?_
 refine aT ?_
 refine sr ?_
 refine vq (ag O O isAgg64 (.obj 1 O O)) O ?_
 refine vm O O ?_
 refine bd 4 O (fun af al an bc => ?_)
 have u : bx 1 (V33 (Row 5 1 b.1 c.2.length b.2 (ax c.2))) ([c.2] : List (List UInt8)) [[.slice b.1 c.2.length b.2]] := ⟨⟨rfl, aM (by rfl), ⟨b.1, b.2, rfl, ⟨af, al, an⟩⟩⟩, trivial⟩
 refine ah (eB (V := (V33 (Row 5 1 b.1 c.2.length b.2 (ax c.2)))) (xs := ([c.2] : List (List UInt8))) [[.slice b.1 c.2.length b.2]] O O underlying64 sA O (by kernel_rfl) O u O O) O O O ?_
 intro z
 refine bg 3 O (fun w az => ?_)
 refine bR (H' := [aP [Row 5 1 b.1 c.2.length b.2 (ax c.2), e.1], Row 33 1 (some ⟨z, 0, none⟩) ([c.2] : List (List UInt8)).length 1 [[.slice b.1 c.2.length b.2]].flatten, obj n 3 [.int .i64 g.1], obj h 64 [.slice e.2.1 g.2.length e.2.2], Row 33 1 e.2.1 g.2.length e.2.2 w.flatten, Fr]) (Ent.trans (m := [Row 5 1 b.1 c.2.length b.2 (ax c.2), e.1, Row 33 1 (some ⟨z, 0, none⟩) ([c.2] : List (List UInt8)).length 1 [[.slice b.1 c.2.length b.2]].flatten, obj n 3 [.int .i64 g.1], obj h 64 [.slice e.2.1 g.2.length e.2.2], Row 33 1 e.2.1 g.2.length e.2.2 w.flatten, Fr]) (.sel 5 O (.sel 4 O (.sel 0 O (.sel 0 O (.sel 0 O (.sel 0 O (.sel 0 O (.nil _)))))))) (gq [Row 5 1 b.1 c.2.length b.2 (ax c.2), e.1] _)) ?_
 refine bh (fun a1 => ?_)
 refine ah (ej 4 O O O underlying64 sA O (az.mono (V33.up (Up.lend (l := [Row 5 1 b.1 c.2.length b.2 (ax c.2), e.1]) 1 O))) (fI.row (u.mono (V33.up (Up.lend (l := [Row 5 1 b.1 c.2.length b.2 (ax c.2), e.1]) 0 O))) 1 O) a1) O O O ?_
 intro ab
 refine aU (aH 3 O O O sizeOf64 O O (aM (by rfl)) O O) O O ?_
 intro _
 refine ny ?_
 refine vm O O ?_
 refine vq (cb O O O) O ?_
 refine vm O O ?_
 refine vq (bD O O O underlying33) O ?_
 refine vq (cb O O O) O ?_
 refine aU (aH 2 O O O sizeOf3 O O (aM (by rfl)) O O) O O ?_
 intro _
 refine ae (bv ?_)
 exact aF (s := (IntKind.i64.wrap ((IntKind.i64.wrap (c.1 + 8)) + (c.2.length : Int)), g.2 ++ ([c.2] : List (List UInt8)))) (aP [Row 5 1 b.1 c.2.length b.2 (ax c.2), e.1], ab.1, ab.2) trivial (.sel 2 O (.sel 2 O (.sel 2 O (.sel 0 O (.sel 1 O (.nil _))))))
 intro p d a
 refine mx (H' := [gD p, obj n 3 [.int .i64 d.1], obj h 64 [.slice a.2.1 d.2.length a.2.2], ap 33 1 (V33 (a.1)) a.2.1 d.2 a.2.2, a.1, obj q 33 [.slice a0 x0.length c0], F]) (Ent.refl _) ?_
 refine bv (aa (ay (sr ?_)))
 refine vq (ag O O isAgg3 (.obj 1 O O)) O ?_
 refine vm O O ?_
 refine vq (bD O O O underlying33) O ?_
 refine vq (bI O O O) O (ae (aa ?_))
 refine bf O (fun be => ?_) (fun br => ?_)
 refine ay ?_
 refine bn 3 O (fun a2 a3 => ?_)
 refine bb (Γ := Unit) () [[], [], [0], [0, 1, 2], rL 4] [] [0, 1, 2, 3, 4] (fun i => [[0], [0], [0], [0], [0]].getD i []) (fun i => [[], [], [], [], []].getD i []) (fun γ i => [.slice a.2.1 d.2.length a.2.2, .int .i64 d.1, .slice a.2.1 d.2.length a.2.2, .int .i64 d.1, .int .i64 0].getD i undef) (fun j γ => [[gD p, obj n 3 [.int .i64 d.1], obj h 64 [.slice a.2.1 d.2.length a.2.2], Row 33 1 a.2.1 d.2.length a.2.2 a2.flatten, a.1, obj q 33 [.slice a0 x0.length c0], F]].getD j []) (fun γ => [(2, .slice a.2.1 d.2.length a.2.2), (3, .int .i64 d.1), (4, .int .i64 0)]) mixed (by decide) (by decide) (by decide) (by decide) (by decide) (by decide) (by decide) 41 O (by decide) (by decide) (by decide) (Ent.refl _) ?_ ?_ (fun _ => ⟨O, O, O, trivial⟩) ?_
 exact (aq O (fun γ => qp O O (.o (s := 5) O (by decide) .nil) (ag O O isAgg64 (.obj 2 O O)) O) (aq O (fun γ => qp O O (.o (s := 6) O (by decide) .nil) (ag O O isAgg3 (.obj 1 O O)) O) (aq O (fun γ => qp O O (.v 0 O O .nil) (ci O O) O) (aq O (fun γ => qp O O (.v 1 O O .nil) (ci O O) O) (aq O (fun γ => qp O O .nil (ci O O) O) zA)))))
 exact zA
 intro bs
 refine aa (aA ?_)
 refine aK ?_
 exact kS [p] (a.2.1, a.2.2, a.1) O O O (.sel 0 O (.sel' 2 O (ap.mk a3) (.sel 2 O (.sel 3 O (.nil _)))))
 refine aC ?_
 refine aa (sr ?_)
 refine vm O O ?_
 refine vq (ag O O isAgg3 (.obj 1 O O)) O ?_
 refine aw (fun t a4 => ?_)
 refine ah (av (vs := [.slice a0 x0.length c0, .int .i64 d.1]) (cap := []) (A := []) (rst := [gD p, obj n 3 [.int .i64 d.1], obj h 64 [.slice a.2.1 d.2.length a.2.2], ap 33 1 (V33 (a.1)) a.2.1 d.2 a.2.2, a.1, obj q 33 [.slice a0 x0.length c0], F]) O O O O O O call68 (.sel 0 O (.sel 0 O (.sel 0 O (.sel 0 O (.sel 0 O (.sel 0 O (.sel 0 O (.nil _)))))))) (gr.calls _ _ k a0 c0 x0 d.1 (h0.lend 6 O) a7 a8) a4) O O O ?_
 intro ad
 refine vm O O ?_
 refine vq (bu O O O) O ?_
 refine vq (bu O O O) O ?_
 refine vq (bu O O O) O ?_
 refine va O O ?_
 refine va O O ?_
 refine va O O (ae (aa (ay ?_)))
 refine bn 4 O (fun a5 a6 => ?_)
 refine bb (Γ := Unit) () [[], [], [], [0], [0, 1, 3], rL 5] [] [0, 1, 2, 3, 4, 5] (fun i => [[0], [0], [0], [0], [0], [0]].getD i []) (fun i => [[], [], [], [], [], []].getD i []) (fun γ i => [.slice a.2.1 d.2.length a.2.2, .int .i64 d.1, .int .i64 t.2.2, .slice a.2.1 d.2.length a.2.2, .int .i64 d.1, .int .i64 t.2.2].getD i undef) (fun j γ => [[Row 5 1 ad.1 t.1.length ad.2 (ax t.1), gD p, obj n 3 [.int .i64 d.1], obj h 64 [.slice a.2.1 d.2.length a.2.2], Row 33 1 a.2.1 d.2.length a.2.2 a5.flatten, a.1, obj q 33 [.slice a0 x0.length c0], F]].getD j []) (fun γ => [(2, .slice a.2.1 d.2.length a.2.2), (3, .int .i64 d.1), (4, .int .i64 t.2.2)]) mixed (by decide) (by decide) (by decide) (by decide) (by decide) (by decide) (by decide) 41 O (by decide) (by decide) (by decide) (Ent.refl _) ?_ ?_ (fun _ => ⟨O, O, O, trivial⟩) ?_
 exact (aq O (fun γ => qp O O (.o (s := 5) O (by decide) .nil) (ag O O isAgg64 (.obj 3 O O)) O) (aq O (fun γ => qp O O (.o (s := 6) O (by decide) .nil) (ag O O isAgg3 (.obj 2 O O)) O) (aq O (fun γ => qm O (.o (s := 11) O (by decide) .nil) O) (aq O (fun γ => qp O O (.v 0 O O .nil) (ci O O) O) (aq O (fun γ => qp O O (.v 1 O O .nil) (ci O O) O) (aq O (fun γ => qp O O (.v 2 O O .nil) (ci O O) O) zA))))))
 exact zA
 intro bt
 refine aa (aA ?_)
 exact kS [p] (a.2.1, a.2.2, a.1) O O O (.sel 1 O (.sel' 3 O (ap.mk a6) (.sel 3 O (.sel 4 O (.nil _)))))

def gc.f (a : List ((List UInt8) × (List UInt8 × Int))) (c : List UInt8) (d : Int) (b : Bool) (x1 : List UInt8) (x2 : Int) : Option (Int × (List ((List UInt8) × (List UInt8 × Int))) × List UInt8 × Int × Bool) := if (aR a x1).isSome = true then (if b = true then (some (11, a, c, d, b)) else (if ((decide (x2 < (0 : Int))) || (decide (((((aR a x1).getD (([] : List UInt8), (0 : Int))).1).length : Int) < x2))) = true then (some (1, a, c, d, b)) else ((bF.f a c d b).bind fun e => (if e.1 = true then (some (11, a, e.2.1, e.2.2.1, e.2.2.2)) else (if 0 ≤ (0 : Int) ∧ (0 : Int) ≤ x2 ∧ x2 ≤ ((((aR a x1).getD (([] : List UInt8), (0 : Int))).1).length : Int) then (some (0, aV a x1 (cut (((aR a x1).getD (([] : List UInt8), (0 : Int))).1) (0 : Int) x2, min (((aR a x1).getD (([] : List UInt8), (0 : Int))).2) x2), e.2.1, e.2.2.1, e.2.2.2)) else none))))) else (if b = true then (some (11, a, c, d, b)) else (some (8, a, c, d, b)))
theorem gc.calls (W : World) (F : HA) (b0 : Nat) (d : Nat) (a : Kps) (c : List ((List UInt8) × (List UInt8 × Int))) (h : List UInt8) (i : Int) (j : Bool) (x1 : List UInt8) (x2 : Int)  :
    Fn Tryz.prog W 74 [.pointer (some ⟨b0, 0, none⟩), str x1, .int .i64 x2] [obj b0 97 [.map (some d), str h, .int .i64 i, .bool j], am (aj d ao ak a) ai a c] F (gc.f c h i j x1 x2) (fun (r : Int × (List ((List UInt8) × (List UInt8 × Int))) × List UInt8 × Int × Bool) (y : Nat × Kps) => .int .i64 r.1) (fun r y => [obj b0 97 [.map (some y.1), str r.2.2.1, .int .i64 r.2.2.2.1, .bool r.2.2.2.2], am (aj y.1 ao ak y.2) ai y.2 r.2.1]) := by
 unfold gc.f
 refine aN 55 Tryz.func74 O Tryz.ntmps74 O ?_
 refine sr ?_
 refine va O O (ae (aa (ay ?_)))
 refine fd (fun g => ?_) (fun g => ?_)
 refine aJ ?_
 refine vm O O ?_
 refine vn O O ?_
 refine vq (ar O O underlying97 O O sizeOf95 O) O ?_
 refine vq (ag O O isAgg95 (.obj 0 O O)) O ?_
 refine vm O O ?_
 refine vq ((jk (ek := ao) x1 (gv 1 O) g O O O underlying95 iM : RQ _ _ _ _ (.pointer (some ⟨(cw a x1), 0, none⟩)))) O ?_
 refine va O O (ae (aa (ay ?_)))
 refine aT ?_
 refine sr ?_
 refine vm O O ?_
 refine vn O O ?_
 refine vq (ar O O underlying97 O O sizeOf4 O) O ?_
 refine vq (ag O O isAgg4 (.obj 0 O O)) O ?_
 refine va O O (ae (aa ?_))
 refine aY O (fun a9 => ?_) (fun bc => ?_)
 refine sr ?_
 refine va O O (ae (aa (aA ?_)))
 refine bi ?_
 refine aK ?_
 exact aD (d, a) O O O (.sel 0 O (.sel 0 O (.sel 0 O (.nil _))))
 refine sr ?_
 refine vm O O ?_
 refine vq (jr O O O underlying107) O ?_
 refine va O O (ae (aa ?_))
 refine fx O ?_
 refine ay ?_
 refine gV (v := ((aR c x1).getD (([] : List UInt8), (0 : Int)))) 1 O (eU g) (fun e => ?_)
 refine eD (H' := [obj (cw a x1) 109 [.slice e.1 ((((aR c x1).getD (([] : List UInt8), (0 : Int))).1).length) e.2, .int .i64 (((aR c x1).getD (([] : List UInt8), (0 : Int))).2)], Row 5 1 e.1 (((aR c x1).getD (([] : List UInt8), (0 : Int))).1).length e.2 (ax (((aR c x1).getD (([] : List UInt8), (0 : Int))).1)), gO (aj d ao ak a) ai a c x1, obj b0 97 [.map (some d), str h, .int .i64 i, .bool j], F]) (Ent.refl _) ?_
 refine aJ ?_
 refine vm O O ?_
 refine vq (cH O O O) O ?_
 refine vm O O ?_
 refine au (b := decide (x2 < (0 : Int))) (fun an => RQ.sub (E' := [(2, .int .i64 x2)]) ⟨O, trivial⟩ (ba O O)) O O O O O ?_
 refine au (b := decide (x2 < (0 : Int))) (fun az => RQ.sub (E' := [(7, .pointer (some ⟨(cw a x1), 0, none⟩))]) ⟨O, trivial⟩ (ba O O)) O O O O O ?_
 refine au (b := decide (x2 < (0 : Int))) (fun t => RQ.sub (E' := [(27, .pointer (some ⟨(cw a x1), 0, none⟩))]) ⟨aE O t, trivial⟩ (aX O O)) O O O O O ?_
 refine au (b := decide (x2 < (0 : Int))) (fun u => RQ.sub (E' := [(28, .pointer (some ⟨(cw a x1), 0, none⟩))]) ⟨aE O u, trivial⟩ (ar O O underlying109 O O sizeOf33 O)) O O O O O ?_
 refine au (b := decide (x2 < (0 : Int))) (fun w => RQ.sub (E' := [(29, .pointer (some ⟨(cw a x1), 0, none⟩))]) ⟨aE O w, trivial⟩ (ag O O isAgg33 (.obj 0 O O))) O O O O O ?_
 refine au (b := decide (x2 < (0 : Int))) (fun z => RQ.sub (E' := [(30, .slice e.1 ((((aR c x1).getD (([] : List UInt8), (0 : Int))).1).length) e.2)]) ⟨aE O z, trivial⟩ (bD O O O underlying33)) O O O O O ?_
 refine au (b := decide (x2 < (0 : Int))) (fun o => RQ.sub (E' := [(26, .int .i64 x2), (31, .int .i64 ((((aR c x1).getD (([] : List UInt8), (0 : Int))).1).length : Int))]) ⟨aE O o, aE O o, trivial⟩ (cI O O O)) O O O O O ?_
 refine vq (ex O O O) O ?_
 refine va O O (ae (aa ?_))
 refine aY O (fun be => ?_) (fun br => ?_)
 refine sr ?_
 refine va O O (ae (aa (aA ?_)))
 refine bi ?_
 refine aK ?_
 exact aD (d, a) O O O (.sel 3 O (.foldF0 (x := x1) (p := (cw a x1)) (v := ((aR c x1).getD (([] : List UInt8), (0 : Int)))) (e.1, e.2) O (eU g) (.sel 2 O (.sel 0 O (.sel 0 O (.sel 0 O (.nil _)))))))
 refine sr ?_
 refine vm O O ?_
 refine bR (H' := [am (aj d ao ak a) ai a c, obj b0 97 [.map (some d), str h, .int .i64 i, .bool j], F]) ((.foldF0 (x := x1) (p := (cw a x1)) (v := ((aR c x1).getD (([] : List UInt8), (0 : Int)))) (e.1, e.2) O (eU g) (.sel 2 O (.sel 0 O (.sel 0 O (.sel 0 O (.sel 0 O (.nil _)))))))) ?_
 refine aw (fun s ad => ?_)
 refine ah (av (vs := [.pointer (some ⟨b0, 0, none⟩)]) (cap := []) (A := [obj b0 97 [.map (some d), str h, .int .i64 i, .bool j], am (aj d ao ak a) ai a c]) (rst := [F]) O O O O O O call58 (.sel 1 O (.sel 0 O (.sel 0 O (.nil _)))) (bF.calls _ _ b0 d a c h i j ) ad) O O O ?_
 intro bs
 refine va O O (ae (aa ?_))
 refine aY O (fun a5 => ?_) (fun a6 => ?_)
 refine sr ?_
 refine va O O (ae (aa (aA ?_)))
 refine bi ?_
 refine aK ?_
 exact aD (d, a) O O O (.sel 0 O (.sel 0 O (.sel 0 O (.nil _))))
 refine aC ?_
 refine bv (aa (ay ?_))
 refine gV (v := ((aR c x1).getD (([] : List UInt8), (0 : Int)))) 1 O (eU g) (fun k => ?_)
 refine eD (H' := [obj (cw a x1) 109 [.slice k.1 ((((aR c x1).getD (([] : List UInt8), (0 : Int))).1).length) k.2, .int .i64 (((aR c x1).getD (([] : List UInt8), (0 : Int))).2)], Row 5 1 k.1 (((aR c x1).getD (([] : List UInt8), (0 : Int))).1).length k.2 (ax (((aR c x1).getD (([] : List UInt8), (0 : Int))).1)), gO (aj d ao ak a) ai a c x1, obj b0 97 [.map (some d), str s.2.1, .int .i64 s.2.2.1, .bool s.2.2.2], F]) (Ent.refl _) ?_
 refine aJ ?_
 refine vm O O ?_
 refine vm O O ?_
 refine vn O O ?_
 refine vq (ar O O underlying109 O O sizeOf33 O) O ?_
 refine vq (ag O O isAgg33 (.obj 0 O O)) O ?_
 refine vm O O ?_
 refine bh (fun m => ?_)
 refine bd 1 O (fun ab n a0 a1 => ?_)
 obtain ⟨af, al, q, a2, a3, a4⟩ := gu (lo := (0 : Int)) (hi := x2) ab n m
 refine vq (ga (l := (((aR c x1).getD (([] : List UInt8), (0 : Int))).1)) (lo' := (0 : Int)) (hi' := x2) O O O O underlying33 sizeOf5 (.inr ⟨_, O⟩) (.inl ⟨O, O⟩) m n q) O ?_
 refine vn O O ?_
 refine vq (ar O O underlying109 O O sizeOf33 O) O ?_
 refine aU (RE.ent (Ent.cutB 1 O q m n) (aH 0 O O O sizeOf33 O O (aM (by rfl)) O O)) O O ?_
 intro _
 refine nx ?_
 refine vm O O ?_
 refine vm O O ?_
 refine vn O O ?_
 refine vq (ar O O underlying109 O O sizeOf3 O) O ?_
 refine vq (ag O O isAgg3 (.obj 0 O O)) O ?_
 refine vm O O ?_
 refine vq (qa O O O) O ?_
 refine vn O O ?_
 refine vq (ar O O underlying109 O O sizeOf3 O) O ?_
 refine aU (aH 0 O O O sizeOf3 O O (aM (by rfl)) O O) O O ?_
 intro _
 refine nx ?_
 refine va O O (ae (aa (aA ?_)))
 exact aD (d, a) O O O (.sel 3 O (.foldF (x := x1) (p := (cw a x1)) (v := (cut (((aR c x1).getD (([] : List UInt8), (0 : Int))).1) (0 : Int) x2, min (((aR c x1).getD (([] : List UInt8), (0 : Int))).2) x2)) (af, al) O (.sel 2 O (.sel 0 O (.sel 0 O (.sel 0 O (.nil _)))))))
 refine aJ ?_
 refine vm O O ?_
 refine vn O O ?_
 refine vq (ar O O underlying97 O O sizeOf95 O) O ?_
 refine vq (ag O O isAgg95 (.obj 0 O O)) O ?_
 refine vm O O ?_
 refine vq (jl (ek := ao) x1 (gv 1 O) (gW g) O O O underlying95 iM zeroValue107) O ?_
 refine va O O (ae (aa (ay ?_)))
 refine aT ?_
 refine sr ?_
 refine vm O O ?_
 refine vn O O ?_
 refine vq (ar O O underlying97 O O sizeOf4 O) O ?_
 refine vq (ag O O isAgg4 (.obj 0 O O)) O ?_
 refine va O O (ae (aa ?_))
 refine aY O (fun a7 => ?_) (fun a8 => ?_)
 refine sr ?_
 refine va O O (ae (aa (aA ?_)))
 refine bi ?_
 refine aK ?_
 exact aD (d, a) O O O (.sel 0 O (.sel 0 O (.sel 0 O (.nil _))))
 refine sr ?_
 refine vm O O ?_
 refine vq (iE O O O underlying107) O ?_
 refine va O O (ae (aa ?_))
 refine eM O ?_
 refine sr ?_
 refine va O O (ae (aa (aA ?_)))
 refine bi ?_
 refine aK ?_
 exact aD (d, a) O O O (.sel 0 O (.sel 0 O (.sel 0 O (.nil _))))

def fe.f (a : List ((List UInt8) × (List UInt8 × Int))) (d : List UInt8) (e : Int) (c : Bool) (x1 : List UInt8) : Option (Int × (List ((List UInt8) × (List UInt8 × Int))) × List UInt8 × Int × Bool) := if c = true then (some (11, a, d, e, c)) else ((co.f a d e c x1).bind fun h => (if (!h) = true then (some (8, a, d, e, c)) else ((bF.f a d e c).bind fun b => (if b.1 = true then (some (11, a, b.2.1, b.2.2.1, b.2.2.2)) else ((if b.2.1 = x1 then (some ([] : List UInt8)) else (some b.2.1)).bind fun g => (some (0, fY a x1, g, b.2.2.1, b.2.2.2)))))))
theorem fe.calls (W : World) (F : HA) (b0 : Nat) (a : Nat) (b : Kps) (c : List ((List UInt8) × (List UInt8 × Int))) (d : List UInt8) (e : Int) (g : Bool) (x1 : List UInt8)  :
    Fn Tryz.prog W 64 [.pointer (some ⟨b0, 0, none⟩), str x1] [obj b0 97 [.map (some a), str d, .int .i64 e, .bool g], am (aj a ao ak b) ai b c] F (fe.f c d e g x1) (fun (r : Int × (List ((List UInt8) × (List UInt8 × Int))) × List UInt8 × Int × Bool) (y : Nat × Kps) => .int .i64 r.1) (fun r y => [obj b0 97 [.map (some y.1), str r.2.2.1, .int .i64 r.2.2.2.1, .bool r.2.2.2.2], am (aj y.1 ao ak y.2) ai y.2 r.2.1]) := by
 unfold fe.f
 refine aN 32 Tryz.func64 O Tryz.ntmps64 O ?_
 refine sr ?_
 refine va O O (ae (aa (ay ?_)))
 refine aT ?_
 refine sr ?_
 refine vm O O ?_
 refine vn O O ?_
 refine vq (ar O O underlying97 O O sizeOf4 O) O ?_
 refine vq (ag O O isAgg4 (.obj 0 O O)) O ?_
 refine va O O (ae (aa ?_))
 refine aY O (fun t => ?_) (fun u => ?_)
 refine sr ?_
 refine va O O (ae (aa (aA ?_)))
 refine bi ?_
 refine aK ?_
 exact aD (a, b) O O O (.sel 0 O (.sel 0 O (.sel 0 O (.nil _))))
 refine sr ?_
 refine vm O O ?_
 refine vm O O ?_
 refine aw (fun v i => ?_)
 refine ah (av (vs := [.pointer (some ⟨b0, 0, none⟩), str x1]) (cap := []) (A := [obj b0 97 [.map (some a), str d, .int .i64 e, .bool g], am (aj a ao ak b) ai b c]) (rst := [F]) O O O O O O call57 (.sel 0 O (.sel 0 O (.sel 0 O (.nil _)))) (co.calls _ _ b0 a b c d e g x1 ) i) O O O ?_
 intro w
 refine vq (eP O O) O ?_
 refine va O O (ae (aa ?_))
 refine aY O (fun x => ?_) (fun z => ?_)
 refine sr ?_
 refine va O O (ae (aa (aA ?_)))
 refine bi ?_
 refine aK ?_
 exact aD (a, b) O O O (.sel 0 O (.sel 0 O (.sel 0 O (.nil _))))
 refine sr ?_
 refine vm O O ?_
 refine aw (fun h j => ?_)
 refine ah (av (vs := [.pointer (some ⟨b0, 0, none⟩)]) (cap := []) (A := [obj b0 97 [.map (some a), str d, .int .i64 e, .bool g], am (aj a ao ak b) ai b c]) (rst := [F]) O O O O O O call58 (.sel 0 O (.sel 0 O (.sel 0 O (.nil _)))) (bF.calls _ _ b0 a b c d e g ) j) O O O ?_
 intro k
 refine va O O (ae (aa ?_))
 refine aY O (fun l => ?_) (fun m => ?_)
 refine sr ?_
 refine va O O (ae (aa (aA ?_)))
 refine bi ?_
 refine aK ?_
 exact aD (a, b) O O O (.sel 0 O (.sel 0 O (.sel 0 O (.nil _))))
 refine aC ?_
 refine bv (aa (sr ?_))
 refine vm O O ?_
 refine vn O O ?_
 refine vq (ar O O underlying97 O O sizeOf95 O) O ?_
 refine vq (ag O O isAgg95 (.obj 0 O O)) O ?_
 refine vm O O ?_
 refine aU (rQ (ek := ao) 1 x1 O O O O underlying95 iM O) O O ?_
 intro _
 refine ae (aa ?_)
 refine bE (S := List UInt8) (Unit) (fun s y => []) (fun s y => [obj b0 97 [.map (some a), str s, .int .i64 h.2.2.1, .bool h.2.2.2], am (aj a ao ak (fY b x1)) ai (fY b x1) (fY c x1), F]) ?_ ?_
 refine sr ?_
 refine vm O O ?_
 refine vn O O ?_
 refine vq (ar O O underlying97 O O sizeOf9 O) O ?_
 refine vq (ag O O isAgg9 (.obj 0 O O)) O ?_
 refine vm O O ?_
 refine vq (sx O O O) O (ae (aa ?_))
 refine bf O (fun n => ?_) (fun o => ?_)
 refine aJ ?_
 refine vm O O ?_
 refine vn O O ?_
 refine vq (ar O O underlying97 O O sizeOf9 O) O ?_
 refine aU (aH 0 O O O sizeOf9 O O (aM (by rfl)) O O) O O ?_
 intro _
 refine ae ?_
 exact aF (s := ([] : List UInt8)) () trivial (.sel 0 O (.sel 0 O (.sel 0 O (.nil _))))
 refine aC ?_
 exact aF (s := h.2.1) () trivial (.sel 0 O (.sel 0 O (.sel 0 O (.nil _))))
 intro p q
 refine sr ?_
 refine va O O (ae (aa (aA ?_)))
 exact aD (a, fY b x1) O O O (.sel 0 O (.sel 0 O (.sel 0 O (.nil _))))

def eE.f (x0 : List UInt8) : Option (List UInt8 × Int × Int) := (en.f x0).bind fun a => (some (a, 0, 0))
theorem eE.calls (W : World) (F : HA) (a0 : Option Addr) (c0 : Nat) (x0 : List UInt8) (h0 : Rd F a0 (ax x0)) (c : x0.length ≤ c0) (d : c0 ≤ maxLen) :
    Fn Tryz.prog W 100 [.slice a0 x0.length c0] [] F (eE.f x0) (fun (r : List UInt8 × Int × Int) (y : Nat × Option Addr × Nat) => .pointer (some ⟨y.1, 0, none⟩)) (fun r y => [obj y.1 180 [.slice y.2.1 r.1.length y.2.2, .int .i64 r.2.1, .int .i64 r.2.2], Row 5 1 y.2.1 r.1.length y.2.2 (ax r.1)]) := by
 unfold eE.f
 refine aN 7 Tryz.func100 O Tryz.ntmps100 O ?_
 refine sr ?_
 refine va O O (nx ?_)
 refine vm O O ?_
 refine aw (fun e b => ?_)
 refine ah (av (vs := [.slice a0 x0.length c0]) (cap := []) (A := []) (rst := [F]) O O O O O O call110 (.sel 0 O (.nil _)) (en.calls _ _ a0 c0 x0 (h0.lend 0 O) c d) b) O O O ?_
 intro a
 refine vq (cx (v := .agg #[.slice a.1 e.length a.2, .int .i64 0, .int .i64 0]) O O (fun _ => by kernel_rfl)) O ?_
 refine ah (cy O O O) O O O ?_
 intro g
 refine va O O (ae (aa (aA ?_)))
 exact aD (g, a.1, a.2) O O O (.sel 0 O (.sel 0 O (.sel 0 O (.nil _))))

def ff.l0 (x0 : List UInt8) (x1 : Int) : Nat → Int → Int → Option ((Unit) ⊕ (Int × Int × Int))
  | 0, _, _ => none
  | k + 1, b, a => if a < (9 : Int) then (if IntKind.i64.wrap ((x0.length : Int) - x1) ≤ a then (some (.inr (0, 0, 2))) else (if 0 ≤ IntKind.i64.wrap (x1 + a) ∧ IntKind.i64.wrap (x1 + a) < (x0.length : Int) then (if 0 ≤ IntKind.i64.wrap (7 * a) then (if (128 : Int) ≤ ((x0.getD (IntKind.i64.wrap (x1 + a)).toNat 0).toNat : Int) then (ff.l0 x0 x1 k (bS .or .i64 b (IntKind.i64.wrap ((IntKind.i64.wrap (bS .and .u8 ((x0.getD (IntKind.i64.wrap (x1 + a)).toNat 0).toNat : Int) 127)) * 2 ^ (min (IntKind.i64.wrap (7 * a)).toNat IntKind.i64.bits)))) (IntKind.i64.wrap (a + 1))) else (if ((decide (((x0.getD (IntKind.i64.wrap (x1 + a)).toNat 0).toNat : Int) = (0 : Int))) && (decide ((0 : Int) < a))) = true then (some (.inr (0, 0, 4))) else (if (4611686018427387904 : Int) < bS .or .i64 b (IntKind.i64.wrap ((IntKind.i64.wrap (bS .and .u8 ((x0.getD (IntKind.i64.wrap (x1 + a)).toNat 0).toNat : Int) 127)) * 2 ^ (min (IntKind.i64.wrap (7 * a)).toNat IntKind.i64.bits))) then (some (.inr (0, 0, 1))) else (some (.inr (bS .or .i64 b (IntKind.i64.wrap ((IntKind.i64.wrap (bS .and .u8 ((x0.getD (IntKind.i64.wrap (x1 + a)).toNat 0).toNat : Int) 127)) * 2 ^ (min (IntKind.i64.wrap (7 * a)).toNat IntKind.i64.bits))), IntKind.i64.wrap (a + 1), 0)))))) else none) else none)) else (some (.inl ()))
def ff.f (k : Nat) (x0 : List UInt8) (x1 : Int) : Option (Int × Int × Int) := if ((decide (x1 < (0 : Int))) || (decide ((x0.length : Int) ≤ x1))) = true then (some (0, 0, 2)) else (orR (ff.l0 x0 x1 k 0 0) fun a => (some (0, 0, 4)))
theorem ff.calls (W : World) (F : HA) (k : Nat) (a0 : Option Addr) (c0 : Nat) (x0 : List UInt8) (x1 : Int) (h0 : Rd F a0 (ax x0)) (af : x0.length ≤ c0) (al : c0 ≤ maxLen) :
    Fn Tryz.prog W 143 [.slice a0 x0.length c0, .int .i64 x1] [] F (ff.f k x0 x1) (fun (r : Int × Int × Int) (y : Unit) => .tuple #[.int .i64 r.1, .int .i64 r.2.1, .int .i64 r.2.2]) (fun r y => []) := by
 unfold ff.f
 refine aN 55 Tryz.func143 O Tryz.ntmps143 O ?_
 refine sr ?_
 refine va O O ?_
 refine va O O ?_
 refine va O O (ae (aa (ay (sr ?_))))
 refine vm O O ?_
 refine vq (cH O O O) O ?_
 refine vm O O ?_
 refine au (b := decide (x1 < (0 : Int))) (fun l => RQ.sub (E' := [(1, .int .i64 x1)]) ⟨O, trivial⟩ (ba O O)) O O O O O ?_
 refine au (b := decide (x1 < (0 : Int))) (fun m => RQ.sub (E' := [(0, .slice a0 x0.length c0)]) ⟨O, trivial⟩ (ba O O)) O O O O O ?_
 refine au (b := decide (x1 < (0 : Int))) (fun g => RQ.sub (E' := [(14, .slice a0 x0.length c0)]) ⟨aE O g, trivial⟩ (bD O O O underlying33)) O O O O O ?_
 refine au (b := decide (x1 < (0 : Int))) (fun c => RQ.sub (E' := [(13, .int .i64 x1), (15, .int .i64 (x0.length : Int))]) ⟨aE O c, aE O c, trivial⟩ (jo O O O)) O O O O O ?_
 refine vq (ex O O O) O (ae (aa ?_))
 refine aY O (fun an => ?_) (fun az => ?_)
 refine sr ?_
 refine va O O ?_
 refine va O O ?_
 refine va O O (ae (aa (aA ?_)))
 refine aK ?_
 exact aD () O O O (.sel 0 O (.nil _))
 refine aC ?_
 refine aa (sr ?_)
 refine va O O (ae (aa ?_))
 refine gp (S := Unit) (Unit) (fun s y => []) (fun s y => [F]) ?_ ?_
 refine sr ?_
 refine va O O (ae (aa ?_))
 refine aT ?_
 refine cC (S := Int × Int) (Unit) (fun k s => ff.l0 x0 x1 k s.1 s.2) (fun s y => [(0, .slice a0 x0.length c0), (1, .int .i64 x1), (7, .int .i64 s.1), (8, .int .i64 s.2)]) (fun s y => [F]) (fun _ => by rw [ff.l0]) ?_ k (0, 0) () ⟨O, O, O, O, trivial⟩ (.sel 0 O (.nil _))
 intro k a a1
 refine df (by rw [ff.l0]) ?_
 refine ay (sr ?_)
 refine vm O O ?_
 refine vq (cH O O O) O (ae (aa ?_))
 refine bf O (fun a2 => ?_) (fun p => ?_)
 refine aC ?_
 refine aa (ay ?_)
 refine aT ?_
 refine ay (sr ?_)
 refine vm O O ?_
 refine vm O O ?_
 refine vq (bD O O O underlying33) O ?_
 refine vm O O ?_
 refine vq (dc O O O) O ?_
 refine vq (jo O O O) O (ae (aa ?_))
 refine bf O (fun q => ?_) (fun t => ?_)
 refine sr ?_
 refine va O O ?_
 refine va O O ?_
 refine va O O (ae (aa (aA ?_)))
 refine aK ?_
 refine bi ?_
 refine aK ?_
 refine fb ?_
 refine bi ?_
 refine fa ?_
 exact aD () O O O (.sel 0 O (.nil _))
 refine aC ?_
 refine aa (sr ?_)
 refine vm O O ?_
 refine vm O O ?_
 refine vm O O ?_
 refine vq (cb O O O) O ?_
 refine bh (fun d => ?_)
 obtain ⟨u, n, e⟩ := h0.pos (gA (j := (IntKind.i64.wrap (x1 + a.2)).toNat) (by omega))
 refine vq (hJ O O O e underlying33 sizeOf5 d.1 d.2) O ?_
 refine vq (ag O O isAgg5 (h0.cell 0 O e (fQ (by omega)))) O ?_
 refine va O O (nx ?_)
 refine vm O O ?_
 refine vm O O ?_
 refine vq (nL O O O) O ?_
 refine vq (eX O O underlying5 underlying3) O ?_
 refine vm O O ?_
 refine vq (su O O O) O ?_
 refine bh (fun h => ?_)
 refine vq (nA O O O h) O ?_
 refine vq (lF O O O) O ?_
 refine va O O (ae (aa (ay (sr ?_))))
 refine vm O O ?_
 refine vq (jo O O O) O (ae (aa ?_))
 refine bf O (fun v => ?_) (fun w => ?_)
 refine cN ?_
 refine ct ?_
 refine cu ?_
 refine aa (aJ ?_)
 refine vm O O ?_
 refine vq (cb O O O) O ?_
 refine va O O (ae ?_)
 exact bV (s := (bS .or .i64 a.1 (IntKind.i64.wrap ((IntKind.i64.wrap (bS .and .u8 ((x0.getD (IntKind.i64.wrap (x1 + a.2)).toNat 0).toNat : Int) 127)) * 2 ^ (min (IntKind.i64.wrap (7 * a.2)).toNat IntKind.i64.bits))), IntKind.i64.wrap (a.2 + 1))) () ⟨O, O, O, O, trivial⟩ (.sel 0 O (.nil _))
 refine aC ?_
 refine aa (ay (sr ?_))
 refine vm O O ?_
 refine vq (bI O O O) O ?_
 refine vm O O ?_
 refine au (b := decide (((x0.getD (IntKind.i64.wrap (x1 + a.2)).toNat 0).toNat : Int) = (0 : Int))) (fun o => RQ.sub (E' := [(8, .int .i64 a.2)]) ⟨O, trivial⟩ (ba O O)) O O O O O ?_
 refine au (b := decide (((x0.getD (IntKind.i64.wrap (x1 + a.2)).toNat 0).toNat : Int) = (0 : Int))) (fun i => RQ.sub (E' := [(47, .int .i64 a.2)]) ⟨aE O i, trivial⟩ (cI O O O)) O O O O O ?_
 refine vq (db O O O) O (ae (aa ?_))
 refine aY O (fun x => ?_) (fun z => ?_)
 refine sr ?_
 refine va O O ?_
 refine va O O ?_
 refine va O O (ae (aa (aA ?_)))
 refine aK ?_
 refine bi ?_
 refine aK ?_
 refine fb ?_
 refine bi ?_
 refine fa ?_
 exact aD () O O O (.sel 0 O (.nil _))
 refine aC ?_
 refine aa (ay (sr ?_))
 refine vm O O ?_
 refine vq (cI O O O) O (ae (aa ?_))
 refine bf O (fun ab => ?_) (fun ad => ?_)
 refine sr ?_
 refine va O O ?_
 refine va O O ?_
 refine va O O (ae (aa (aA ?_)))
 refine aK ?_
 refine bi ?_
 refine aK ?_
 refine fb ?_
 refine bi ?_
 refine fa ?_
 exact aD () O O O (.sel 0 O (.nil _))
 refine aC ?_
 refine aa (sr ?_)
 refine vm O O ?_
 refine vm O O ?_
 refine vq (cb O O O) O ?_
 refine va O O ?_
 refine va O O ?_
 refine va O O (ae (aa (aA ?_)))
 refine bi ?_
 refine aK ?_
 refine fb ?_
 refine bi ?_
 refine fa ?_
 exact aD () O O O (.sel 0 O (.nil _))
 refine cN ?_
 refine ct ?_
 refine cD ?_
 refine cu ?_
 exact fW (s := ()) () trivial (.sel 0 O (.nil _))
 intro a3 a4
 refine sr ?_
 refine va O O ?_
 refine va O O ?_
 refine va O O (ae (aa (aA ?_)))
 exact aD () O O O (.sel 0 O (.nil _))

def dU.f (k : Nat) (d : List UInt8) (a : Int) (c : Int) : Option (Int × Int × Bool × Int × Int) := if c = (0 : Int) then ((ff.f k d a).bind fun b => (some (b.1, b.2.1, decide (b.2.2 = (0 : Int)), a, b.2.2))) else (some (0, 0, false, a, c))
theorem dU.calls (W : World) (F : HA) (k : Nat) (b0 : Nat) (d : Option Addr) (c : Nat) (a : List UInt8) (e : Int) (g : Int) (m : Rd F d (ax a)) (h : a.length ≤ c) (l : c ≤ maxLen) :
    Fn Tryz.prog W 123 [.pointer (some ⟨b0, 0, none⟩)] [obj b0 180 [.slice d a.length c, .int .i64 e, .int .i64 g]] F (dU.f k a e g) (fun (r : Int × Int × Bool × Int × Int) (y : Unit) => .tuple #[.int .i64 r.1, .int .i64 r.2.1, .bool r.2.2.1]) (fun r y => [obj b0 180 [.slice d a.length c, .int .i64 r.2.2.2.1, .int .i64 r.2.2.2.2]]) := by
 unfold dU.f
 refine aN 34 Tryz.func123 O Tryz.ntmps123 O ?_
 refine sr ?_
 refine va O O ?_
 refine va O O ?_
 refine va O O (ae (aa (ay (sr ?_))))
 refine vm O O ?_
 refine vn O O ?_
 refine vq (ar O O underlying180 O O sizeOf23 O) O ?_
 refine vq (ag O O isAgg23 (.obj 0 O O)) O ?_
 refine vq (cZ O O O) O (ae (aa ?_))
 refine cS O (fun p => ?_) (fun q => ?_)
 refine aC ?_
 refine aa (ay ?_)
 refine bp (fun b n => ?_)
 refine bb (Γ := Unit) () [[], [0], [0, 1], [0, 1, 2], [], [4], [4, 5], [4, 5, 6], rL 8, rL 9, rL 10, rL 10, rL 10, rL 11, [0, 1, 2, 3, 4, 5, 6, 7, 8, 9, 10, 11, 13], rL 15] [8] [0, 1, 2, 3, 4, 5, 6, 7, 9, 10, 11, 12, 13, 14, 15] (fun i => [[0], [0], [0], [0], [0], [0], [0], [0], [], [1], [1], [1], [1], [1], [1], [1]].getD i []) (fun i => [[], [], [], [], [], [], [], [], rL 8, [], [], [], [], [], [], []].getD i []) (fun γ i => [.pointer (some ⟨b0, 0, none⟩), .pointer (some ⟨b0, 0, none⟩), .pointer (some ⟨b0, 0, none⟩), .slice d a.length c, .pointer (some ⟨b0, 0, none⟩), .pointer (some ⟨b0, 0, none⟩), .pointer (some ⟨b0, 1, none⟩), .int .i64 e, .tuple #[.int .i64 b.1, .int .i64 b.2.1, .int .i64 b.2.2], .tuple #[.int .i64 b.1, .int .i64 b.2.1, .int .i64 b.2.2], .int .i64 b.1, .int .i64 b.2.1, .int .i64 b.2.2, .int .i64 b.1, .int .i64 b.2.1, .int .i64 b.2.2].getD i undef) (fun j γ => [[obj b0 180 [.slice d a.length c, .int .i64 e, .int .i64 g], F], [obj b0 180 [.slice d a.length c, .int .i64 e, .int .i64 g], F]].getD j []) (fun γ => [(0, .pointer (some ⟨b0, 0, none⟩)), (5, .int .i64 b.1), (6, .int .i64 b.2.1), (7, .int .i64 b.2.2)]) mixed (by decide) (by decide) (by decide) (by decide) (by decide) (by decide) (by decide) 34 O (by decide) (by decide) (by decide) (Ent.refl _) ?_ ?_ (fun _ => ⟨O, O, O, O, trivial⟩) ?_
 exact (aq O (fun γ => qm O (.o (s := 0) O (by decide) .nil) O) (aq O (fun γ => qp O O (.v 0 O O .nil) (aX O O) O) (aq O (fun γ => qp O O (.v 1 O O .nil) (ar O O underlying180 O O sizeOf33 O) O) (aq O (fun γ => qp O O (.v 2 O O .nil) (ag O O isAgg33 (.obj 0 O O)) O) (aq O (fun γ => qm O (.o (s := 0) O (by decide) .nil) O) (aq O (fun γ => qp O O (.v 4 O O .nil) (aX O O) O) (aq O (fun γ => qp O O (.v 5 O O .nil) (ar O O underlying180 O O sizeOf3 O) O) (aq O (fun γ => qp O O (.v 6 O O .nil) (ag O O isAgg3 (.obj 0 O O)) O) (aq O (fun γ => qm O (.v 8 O O .nil) O) (aq O (fun γ => qp O O (.v 9 O O .nil) (bu O O O) O) (aq O (fun γ => qp O O (.v 9 O O .nil) (bu O O O) O) (aq O (fun γ => qp O O (.v 9 O O .nil) (bu O O O) O) (aq O (fun γ => qp O O (.v 10 O O .nil) (ci O O) O) (aq O (fun γ => qp O O (.v 11 O O .nil) (ci O O) O) (aq O (fun γ => qp O O (.v 12 O O .nil) (ci O O) O) zA)))))))))))))))
 exact (ac (fun γ => eo (Z := Unit) (fun z => ()) O O (.v 3 O O (.v 7 O O .nil)) (av (val := fun (r : Int × Int × Int) (y : Unit) => .tuple #[.int .i64 r.1, .int .i64 r.2.1, .int .i64 r.2.2]) (B := fun _ _ => []) (vs := [.slice d a.length c, .int .i64 e]) (cap := []) (A := []) (rst := [obj b0 180 [.slice d a.length c, .int .i64 e, .int .i64 g], F]) O O O O O O call143 (.sel 0 O (.sel 0 O (.nil _))) (ff.calls _ _ k d c a e (m.lend 1 O) h l) n) (fun _ => ⟨O, O, O, O, O, O, O, O, trivial⟩) (fun _ => .inr O) (fun z => Ent.refl _)) zA)
 intro t
 refine aa (sr ?_)
 refine vm O O ?_
 refine vm O O ?_
 refine vn O O ?_
 refine vq (ar O O underlying180 O O sizeOf23 O) O ?_
 refine aU (aH 0 O O O sizeOf23 O O (aM (by rfl)) O O) O O ?_
 intro _
 refine nx ?_
 refine vm O O ?_
 refine vm O O ?_
 refine vm O O ?_
 refine vq (bI O O O) O ?_
 refine va O O ?_
 refine va O O ?_
 refine va O O (ae (aa (aA ?_)))
 exact aD () O O O (.sel 0 O (.sel 0 O (.nil _)))
 refine sr ?_
 refine va O O ?_
 refine va O O ?_
 refine va O O (ae (aa (aA ?_)))
 refine aK ?_
 exact aD () O O O (.sel 0 O (.sel 0 O (.nil _)))

def bG.f (k : Nat) (b : List UInt8) (c : Int) (d : Int) : Option (Int × Int × Int) := (dU.f k b c d).bind fun a => (if (!a.2.2.1) = true then (some (0, a.2.2.2.1, a.2.2.2.2)) else (some (a.1, IntKind.i64.wrap (a.2.2.2.1 + a.2.1), a.2.2.2.2)))
theorem bG.calls (W : World) (F : HA) (k : Nat) (b0 : Nat) (c : Option Addr) (b : Nat) (a : List UInt8) (d : Int) (e : Int) (i : Rd F c (ax a)) (g : a.length ≤ b) (h : b ≤ maxLen) :
    Fn Tryz.prog W 101 [.pointer (some ⟨b0, 0, none⟩)] [obj b0 180 [.slice c a.length b, .int .i64 d, .int .i64 e]] F (bG.f k a d e) (fun (r : Int × Int × Int) (y : Unit) => .int .i64 r.1) (fun r y => [obj b0 180 [.slice c a.length b, .int .i64 r.2.1, .int .i64 r.2.2]]) := by
 unfold bG.f
 refine aN 23 Tryz.func101 O Tryz.ntmps101 O ?_
 refine sr ?_
 refine va O O (nx ?_)
 refine vm O O ?_
 refine aw (fun l j => ?_)
 refine ah (av (vs := [.pointer (some ⟨b0, 0, none⟩)]) (cap := []) (A := [obj b0 180 [.slice c a.length b, .int .i64 d, .int .i64 e]]) (rst := [F]) O O O O O O call123 (.sel 0 O (.sel 0 O (.nil _))) (dU.calls _ _ k b0 c b a d e (i.lend 0 O) g h) j) O O O ?_
 intro m
 refine vm O O ?_
 refine vq (bu O O O) O ?_
 refine vq (bu O O O) O ?_
 refine vq (bu O O O) O ?_
 refine va O O ?_
 refine va O O ?_
 refine va O O (ae (aa (ay (sr ?_))))
 refine vm O O ?_
 refine vq (eP O O) O (ae (aa ?_))
 refine aY O (fun n => ?_) (fun o => ?_)
 refine sr ?_
 refine va O O (ae (aa (aA ?_)))
 refine aK ?_
 exact aD () O O O (.sel 0 O (.sel 0 O (.nil _)))
 refine aC ?_
 refine aa (sr ?_)
 refine vm O O ?_
 refine vn O O ?_
 refine vq (ar O O underlying180 O O sizeOf3 O) O ?_
 refine vq (ag O O isAgg3 (.obj 0 O O)) O ?_
 refine vm O O ?_
 refine vq (cb O O O) O ?_
 refine vn O O ?_
 refine vq (ar O O underlying180 O O sizeOf3 O) O ?_
 refine aU (aH 0 O O O sizeOf3 O O (aM (by rfl)) O O) O O ?_
 intro _
 refine nx ?_
 refine vm O O ?_
 refine va O O (ae (aa (aA ?_)))
 exact aD () O O O (.sel 0 O (.sel 0 O (.nil _)))

def cR.f (b : Int) (a : Int) (c : Int) : Option (Int) := (bY.f b (0 : Int)).bind fun d => ((if (!d) = true then (some true) else ((bY.f c (0 : Int)).bind fun e => (some (!e)))).bind fun g => (if ((g || (decide (a < (0 : Int)))) || (decide ((7 : Int) < a))) = true then (some 1) else (if ((!decide (a = (0 : Int))) && (decide (b = (0 : Int)))) = true then (some 4) else (some 0))))
theorem cR.calls (W : World) (F : HA) (c : Int) (a : Int) (e : Int)  :
    Fn Tryz.prog W 78 [.agg #[], .agg #[.int .i64 c, .int .i64 a, .int .i64 e]] [] F (cR.f c a e) (fun (r : Int) (y : Unit) => .int .i64 r) (fun r y => []) := by
 unfold cR.f
 refine aN 35 Tryz.func78 O Tryz.ntmps78 O ?_
 refine sr ?_
 refine ah (cy O O O) O O O ?_
 intro p
 refine ah (cy O O O) O O O ?_
 intro d
 refine va O O (ae (aa (ay ?_)))
 refine aT ?_
 refine sr ?_
 refine vq (ar O O underlying43 O O sizeOf3 O) O ?_
 refine vq (ag O O isAgg3 (.obj 0 O O)) O ?_
 refine aw (fun an q => ?_)
 refine ah (av (vs := [.int .i64 c, .int .i64 0]) (cap := []) (A := []) (rst := [obj d 43 [.int .i64 c, .int .i64 a, .int .i64 e], obj p 129 [], F]) O O O O O O call105 (.sel 0 O (.sel 0 O (.sel 0 O (.nil _)))) (bY.calls _ _ c (0 : Int) ) q) O O O ?_
 intro az
 refine vq (eP O O) O ?_
 refine vm O O ?_
 refine dG 5 (S := Bool) (Unit) (fun s y => [(3, .pointer (some ⟨d, 0, none⟩)), (15, .bool s)]) (fun s y => [obj d 43 [.int .i64 c, .int .i64 a, .int .i64 e], F]) ?_ ?_
 refine eS (fun h => ?_) (fun i => ?_)
 rw [h]
 refine aO O O O O O O ?_
 refine aO O O O O O O ?_
 refine aO O O O O O O ?_
 refine aO O O O O O O ?_
 refine vq (bW O O O O O) O (ae ?_)
 exact aF (s := true) () ⟨O, O, trivial⟩ (.sel 0 O (.sel 1 O (.nil _)))
 rw [i]
 refine aZ (ar O O underlying43 O O sizeOf3 O) O O O O O O ?_
 refine aZ (ag O O isAgg3 (.obj 0 O O)) O O O O O O ?_
 refine aw (fun u t => ?_)
 refine fC (av (vs := [.int .i64 e, .int .i64 0]) (cap := []) (A := []) (rst := [obj d 43 [.int .i64 c, .int .i64 a, .int .i64 e], obj p 129 [], F]) O O O O O O call105 (.sel 0 O (.sel 0 O (.sel 0 O (.nil _)))) (bY.calls _ _ e (0 : Int) ) t) O O O O O O ?_
 intro z
 refine aZ (eP O O) O O O O O O ?_
 refine vq (bW O O O O O) O (ae ?_)
 exact aF (s := !u) () ⟨O, O, trivial⟩ (.sel 0 O (.sel 1 O (.nil _)))
 intro g a0
 refine vm O O ?_
 refine au (b := g) (fun v => RQ.sub (E' := [(3, .pointer (some ⟨d, 0, none⟩))]) ⟨O, trivial⟩ (ar O O underlying43 O O sizeOf3 O)) O O O O O ?_
 refine au (b := g) (fun j => RQ.sub (E' := [(17, .pointer (some ⟨d, 1, none⟩))]) ⟨aE O j, trivial⟩ (ag O O isAgg3 (.obj 0 O O))) O O O O O ?_
 refine au (b := g) (fun k => RQ.sub (E' := [(18, .int .i64 a)]) ⟨aE O k, trivial⟩ (cH O O O)) O O O O O ?_
 refine vq (ex O O O) O ?_
 refine vm O O ?_
 refine au (b := g || (decide (a < (0 : Int)))) (fun w => RQ.sub (E' := [(3, .pointer (some ⟨d, 0, none⟩))]) ⟨O, trivial⟩ (ar O O underlying43 O O sizeOf3 O)) O O O O O ?_
 refine au (b := g || (decide (a < (0 : Int)))) (fun l => RQ.sub (E' := [(22, .pointer (some ⟨d, 1, none⟩))]) ⟨aE O l, trivial⟩ (ag O O isAgg3 (.obj 0 O O))) O O O O O ?_
 refine au (b := g || (decide (a < (0 : Int)))) (fun m => RQ.sub (E' := [(23, .int .i64 a)]) ⟨aE O m, trivial⟩ (cI O O O)) O O O O O ?_
 refine vq (ex O O O) O ?_
 refine va O O (ae (aa ?_))
 refine aY O (fun ab => ?_) (fun ad => ?_)
 refine sr ?_
 refine va O O (ae (aa (aA ?_)))
 refine bi ?_
 refine aK ?_
 exact aD () O O O (.sel 1 O (.nil _))
 refine sr ?_
 refine vq (ar O O underlying43 O O sizeOf3 O) O ?_
 refine vq (ag O O isAgg3 (.obj 0 O O)) O ?_
 refine vq (cZ O O O) O ?_
 refine vm O O ?_
 refine au (b := !decide (a = (0 : Int))) (fun x => RQ.sub (E' := [(3, .pointer (some ⟨d, 0, none⟩))]) ⟨O, trivial⟩ (ar O O underlying43 O O sizeOf3 O)) O O O O O ?_
 refine au (b := !decide (a = (0 : Int))) (fun n => RQ.sub (E' := [(31, .pointer (some ⟨d, 0, none⟩))]) ⟨aE O n, trivial⟩ (ag O O isAgg3 (.obj 0 O O))) O O O O O ?_
 refine au (b := !decide (a = (0 : Int))) (fun o => RQ.sub (E' := [(32, .int .i64 c)]) ⟨aE O o, trivial⟩ (bI O O O)) O O O O O ?_
 refine vq (db O O O) O ?_
 refine va O O (ae (aa ?_))
 refine aY O (fun af => ?_) (fun al => ?_)
 refine sr ?_
 refine va O O (ae (aa (aA ?_)))
 refine bi ?_
 refine aK ?_
 exact aD () O O O (.sel 1 O (.nil _))
 refine aC ?_
 refine bv (aa (sr ?_))
 refine va O O (ae (aa (aA ?_)))
 exact aD () O O O (.sel 1 O (.nil _))

def dO.f (k : Nat) (b : List UInt8) (c : Int) (d : Int) (x1 : Int) : Option (List UInt8 × Int × Int) := (dU.f k b c d).bind fun a => (if (!a.2.2.1) = true then (some (([] : List UInt8), a.2.2.2.1, a.2.2.2.2)) else (if max x1 (0 : Int) < a.1 then (some (([] : List UInt8), a.2.2.2.1, 3)) else (if IntKind.i64.wrap ((IntKind.i64.wrap ((b.length : Int) - a.2.2.2.1)) - a.2.1) < a.1 then (some (([] : List UInt8), a.2.2.2.1, 2)) else (if 0 ≤ IntKind.i64.wrap (a.2.2.2.1 + a.2.1) ∧ IntKind.i64.wrap (a.2.2.2.1 + a.2.1) ≤ IntKind.i64.wrap ((IntKind.i64.wrap (a.2.2.2.1 + a.2.1)) + a.1) ∧ IntKind.i64.wrap ((IntKind.i64.wrap (a.2.2.2.1 + a.2.1)) + a.1) ≤ (b.length : Int) then ((en.f (cut b (IntKind.i64.wrap (a.2.2.2.1 + a.2.1)) (IntKind.i64.wrap ((IntKind.i64.wrap (a.2.2.2.1 + a.2.1)) + a.1)))).bind fun e => (some (e, IntKind.i64.wrap ((IntKind.i64.wrap (a.2.2.2.1 + a.2.1)) + a.1), a.2.2.2.2))) else none))))
theorem dO.calls (W : World) (F : HA) (k : Nat) (b0 : Nat) (d : Option Addr) (c : Nat) (b : List UInt8) (g : Int) (h : Int) (x1 : Int) (u : Rd F d (ax b)) (m : b.length ≤ c) (q : c ≤ maxLen) :
    Fn Tryz.prog W 103 [.pointer (some ⟨b0, 0, none⟩), .int .i64 x1] [obj b0 180 [.slice d b.length c, .int .i64 g, .int .i64 h]] F (dO.f k b g h x1) (fun (r : List UInt8 × Int × Int) (y : Option Addr × Nat) => .slice y.1 r.1.length y.2) (fun r y => [Row 5 1 y.1 r.1.length y.2 (ax r.1), obj b0 180 [.slice d b.length c, .int .i64 r.2.1, .int .i64 r.2.2]]) := by
 unfold dO.f
 refine aN 67 Tryz.func103 O Tryz.ntmps103 O ?_
 refine sr ?_
 refine va O O (nx ?_)
 refine vm O O ?_
 refine aw (fun a an => ?_)
 refine ah (av (vs := [.pointer (some ⟨b0, 0, none⟩)]) (cap := []) (A := [obj b0 180 [.slice d b.length c, .int .i64 g, .int .i64 h]]) (rst := [F]) O O O O O O call123 (.sel 0 O (.sel 0 O (.nil _))) (dU.calls _ _ k b0 d c b g h (u.lend 0 O) m q) an) O O O ?_
 intro a0
 refine vm O O ?_
 refine vq (bu O O O) O ?_
 refine vq (bu O O O) O ?_
 refine vq (bu O O O) O ?_
 refine va O O ?_
 refine va O O ?_
 refine va O O (ae (aa (ay ?_)))
 refine aT ?_
 refine sr ?_
 refine vm O O ?_
 refine vq (eP O O) O ?_
 refine va O O (ae (aa ?_))
 refine aY O (fun a1 => ?_) (fun a2 => ?_)
 refine sr ?_
 refine va O O (ae (aa (aA ?_)))
 refine bi ?_
 refine aK ?_
 exact aD (none, 0) O O O (.row_nil (.sel 0 O (.sel 0 O (.nil _))))
 refine sr ?_
 refine vm O O ?_
 refine vm O O ?_
 refine vq (sB O O O) O ?_
 refine vq (cI O O O) O ?_
 refine va O O (ae (aa ?_))
 refine bf O (fun a3 => ?_) (fun a4 => ?_)
 refine sr ?_
 refine vm O O ?_
 refine vn O O ?_
 refine vq (ar O O underlying180 O O sizeOf23 O) O ?_
 refine aU (aH 0 O O O sizeOf23 O O (aM (by rfl)) O O) O O ?_
 intro _
 refine nx ?_
 refine va O O (ae (aa (aA ?_)))
 refine bi ?_
 refine aK ?_
 exact aD (none, 0) O O O (.row_nil (.sel 0 O (.sel 0 O (.nil _))))
 refine ay ?_
 refine bb (Γ := Unit) () [[], [], [1], [1, 2], [1, 2, 3], [1, 2, 3, 4], [], [6], [6, 7], [6, 7, 8], [1, 2, 3, 4, 5, 6, 7, 8, 9], [], [1, 2, 3, 4, 5, 6, 7, 8, 9, 10, 11], rL 13, rL 14] [] [0, 1, 2, 3, 4, 5, 6, 7, 8, 9, 10, 11, 12, 13, 14] (fun i => [[0], [0], [0], [0], [0], [0], [0], [0], [0], [0], [0], [0], [0], [0], [0]].getD i []) (fun i => [[], [], [], [], [], [], [], [], [], [], [], [], [], [], []].getD i []) (fun γ i => [.int .i64 a.1, .pointer (some ⟨b0, 0, none⟩), .pointer (some ⟨b0, 0, none⟩), .pointer (some ⟨b0, 0, none⟩), .slice d b.length c, .int .i64 (b.length : Int), .pointer (some ⟨b0, 0, none⟩), .pointer (some ⟨b0, 0, none⟩), .pointer (some ⟨b0, 1, none⟩), .int .i64 a.2.2.2.1, .int .i64 (IntKind.i64.wrap ((b.length : Int) - a.2.2.2.1)), .int .i64 a.2.1, .int .i64 (IntKind.i64.wrap ((IntKind.i64.wrap ((b.length : Int) - a.2.2.2.1)) - a.2.1)), .bool (decide (IntKind.i64.wrap ((IntKind.i64.wrap ((b.length : Int) - a.2.2.2.1)) - a.2.1) < a.1)), .bool (decide (IntKind.i64.wrap ((IntKind.i64.wrap ((b.length : Int) - a.2.2.2.1)) - a.2.1) < a.1))].getD i undef) (fun j γ => [[obj b0 180 [.slice d b.length c, .int .i64 a.2.2.2.1, .int .i64 a.2.2.2.2], F]].getD j []) (fun γ => [(0, .pointer (some ⟨b0, 0, none⟩)), (5, .int .i64 a.1), (6, .int .i64 a.2.1), (26, .bool (decide (IntKind.i64.wrap ((IntKind.i64.wrap ((b.length : Int) - a.2.2.2.1)) - a.2.1) < a.1)))]) mixed (by decide) (by decide) (by decide) (by decide) (by decide) (by decide) (by decide) 67 O (by decide) (by decide) (by decide) (Ent.refl _) ?_ ?_ (fun _ => ⟨O, O, O, O, trivial⟩) ?_
 exact (aq O (fun γ => qm O (.o (s := 5) O (by decide) .nil) O) (aq O (fun γ => qm O (.o (s := 0) O (by decide) .nil) O) (aq O (fun γ => qp O O (.v 1 O O .nil) (aX O O) O) (aq O (fun γ => qp O O (.v 2 O O .nil) (ar O O underlying180 O O sizeOf33 O) O) (aq O (fun γ => qp O O (.v 3 O O .nil) (ag O O isAgg33 (.obj 0 O O)) O) (aq O (fun γ => qp O O (.v 4 O O .nil) (bD O O O underlying33) O) (aq O (fun γ => qm O (.o (s := 0) O (by decide) .nil) O) (aq O (fun γ => qp O O (.v 6 O O .nil) (aX O O) O) (aq O (fun γ => qp O O (.v 7 O O .nil) (ar O O underlying180 O O sizeOf3 O) O) (aq O (fun γ => qp O O (.v 8 O O .nil) (ag O O isAgg3 (.obj 0 O O)) O) (aq O (fun γ => qp O O (.v 5 O O (.v 9 O O .nil)) (dc O O O) O) (aq O (fun γ => qm O (.o (s := 6) O (by decide) .nil) O) (aq O (fun γ => qp O O (.v 10 O O (.v 11 O O .nil)) (dc O O O) O) (aq O (fun γ => qp O O (.v 0 O O (.v 12 O O .nil)) (cI O O O) O) (aq O (fun γ => qp O O (.v 13 O O .nil) (ci O O) O) zA)))))))))))))))
 exact zA
 intro a5
 refine aa ?_
 refine bf O (fun a6 => ?_) (fun az => ?_)
 refine sr ?_
 refine vm O O ?_
 refine vn O O ?_
 refine vq (ar O O underlying180 O O sizeOf23 O) O ?_
 refine aU (aH 0 O O O sizeOf23 O O (aM (by rfl)) O O) O O ?_
 intro _
 refine nx ?_
 refine va O O (ae (aa (aA ?_)))
 refine bi ?_
 refine aK ?_
 exact aD (none, 0) O O O (.row_nil (.sel 0 O (.sel 0 O (.nil _))))
 refine aC ?_
 refine bv (aa (sr ?_))
 refine vm O O ?_
 refine vn O O ?_
 refine vq (ar O O underlying180 O O sizeOf3 O) O ?_
 refine vq (ag O O isAgg3 (.obj 0 O O)) O ?_
 refine vm O O ?_
 refine vq (cb O O O) O ?_
 refine va O O (nx ?_)
 refine vm O O ?_
 refine vm O O ?_
 refine vm O O ?_
 refine vq (cb O O O) O ?_
 refine vn O O ?_
 refine vq (ar O O underlying180 O O sizeOf3 O) O ?_
 refine aU (aH 0 O O O sizeOf3 O O (aM (by rfl)) O O) O O ?_
 intro _
 refine ae (aa (ay ?_))
 refine cU (fun t => ?_)
 obtain ⟨n, p, x, ab, ad, af⟩ := gu (lo := IntKind.i64.wrap (a.2.2.2.1 + a.2.1)) (hi := IntKind.i64.wrap ((IntKind.i64.wrap (a.2.2.2.1 + a.2.1)) + a.1)) u m t
 refine bp (fun e al => ?_)
 refine bb (Γ := (Option Addr × Nat)) (none, 0) [[], [0], [0, 1], [0, 1, 2], [], [], [5], [5, 6], [5, 6, 7], rL 9, rL 10, rL 11] [10] [0, 1, 2, 3, 4, 5, 6, 7, 8, 9, 11] (fun i => [[0], [0], [0], [0], [0], [0], [0], [0], [0], [0], [], [1]].getD i []) (fun i => [[], [], [], [], [], [], [], [], [], [], rL 10, []].getD i []) (fun γ i => [.pointer (some ⟨b0, 0, none⟩), .pointer (some ⟨b0, 0, none⟩), .pointer (some ⟨b0, 0, none⟩), .slice d b.length c, .int .i64 (IntKind.i64.wrap (a.2.2.2.1 + a.2.1)), .pointer (some ⟨b0, 0, none⟩), .pointer (some ⟨b0, 0, none⟩), .pointer (some ⟨b0, 1, none⟩), .int .i64 (IntKind.i64.wrap ((IntKind.i64.wrap (a.2.2.2.1 + a.2.1)) + a.1)), .slice n ((cut b (IntKind.i64.wrap (a.2.2.2.1 + a.2.1)) (IntKind.i64.wrap ((IntKind.i64.wrap (a.2.2.2.1 + a.2.1)) + a.1))).length) p, .slice γ.1 e.length γ.2, .slice γ.1 e.length γ.2].getD i undef) (fun j γ => [[obj b0 180 [.slice d b.length c, .int .i64 (IntKind.i64.wrap ((IntKind.i64.wrap (a.2.2.2.1 + a.2.1)) + a.1)), .int .i64 a.2.2.2.2], F], [Row 5 1 γ.1 e.length γ.2 (ax e), obj b0 180 [.slice d b.length c, .int .i64 (IntKind.i64.wrap ((IntKind.i64.wrap (a.2.2.2.1 + a.2.1)) + a.1)), .int .i64 a.2.2.2.2], F]].getD j []) (fun γ => [(4, .slice γ.1 e.length γ.2)]) mixed (by decide) (by decide) (by decide) (by decide) (by decide) (by decide) (by decide) 67 O (by decide) (by decide) (by decide) (Ent.refl _) ?_ ?_ (fun _ => ⟨O, trivial⟩) ?_
 exact (aq O (fun γ => qm O (.o (s := 0) O (by decide) .nil) O) (aq O (fun γ => qp O O (.v 0 O O .nil) (aX O O) O) (aq O (fun γ => qp O O (.v 1 O O .nil) (ar O O underlying180 O O sizeOf33 O) O) (aq O (fun γ => qp O O (.v 2 O O .nil) (ag O O isAgg33 (.obj 0 O O)) O) (aq O (fun γ => qm O (.o (s := 8) O (by decide) .nil) O) (aq O (fun γ => qm O (.o (s := 0) O (by decide) .nil) O) (aq O (fun γ => qp O O (.v 5 O O .nil) (aX O O) O) (aq O (fun γ => qp O O (.v 6 O O .nil) (ar O O underlying180 O O sizeOf3 O) O) (aq O (fun γ => qp O O (.v 7 O O .nil) (ag O O isAgg3 (.obj 0 O O)) O) (aq O (fun γ => qp O O (.v 3 O O (.v 4 O O (.v 8 O O .nil))) (ga (l := b) (lo' := IntKind.i64.wrap (a.2.2.2.1 + a.2.1)) (hi' := IntKind.i64.wrap ((IntKind.i64.wrap (a.2.2.2.1 + a.2.1)) + a.1)) O O O O underlying33 sizeOf5 (.inr ⟨_, O⟩) (.inr ⟨_, O⟩) t m x) O) (aq O (fun γ => qp O O (.v 10 O O .nil) (ci O O) O) zA)))))))))))
 exact (ac (fun γ => eo (Z := Option Addr × Nat) (fun z => z) O O (.v 9 O O .nil) (av (vs := [.slice n ((cut b (IntKind.i64.wrap (a.2.2.2.1 + a.2.1)) (IntKind.i64.wrap ((IntKind.i64.wrap (a.2.2.2.1 + a.2.1)) + a.1))).length) p]) (cap := []) (A := []) (rst := [obj b0 180 [.slice d b.length c, .int .i64 (IntKind.i64.wrap ((IntKind.i64.wrap (a.2.2.2.1 + a.2.1)) + a.1)), .int .i64 a.2.2.2.2], F]) O O O O O O call110 (.sel 0 O (.sel 0 O (.nil _))) (en.calls _ _ n p (cut b (IntKind.i64.wrap (a.2.2.2.1 + a.2.1)) (IntKind.i64.wrap ((IntKind.i64.wrap (a.2.2.2.1 + a.2.1)) + a.1))) (ab.lend 1 O) ad (Nat.le_trans af q)) al) (fun _ => ⟨O, O, O, O, O, O, O, O, O, O, trivial⟩) (fun _ => .inr O) (fun z => Ent.refl _)) zA)
 intro w
 refine aa (aA ?_)
 exact aD (w.1, w.2) O O O (.sel 0 O (.sel 0 O (.sel 0 O (.nil _))))

def cn.f (a : List UInt8) (b : Int) (c : Int) : Option (Int) := some (IntKind.i64.wrap ((a.length : Int) - b))
theorem cn.calls (W : World) (F : HA) (b0 : Nat) (d : Option Addr) (c : Nat) (a : List UInt8) (b : Int) (e : Int) (k : Rd F d (ax a)) (g : a.length ≤ c) (h : c ≤ maxLen) :
    Fn Tryz.prog W 125 [.pointer (some ⟨b0, 0, none⟩)] [obj b0 180 [.slice d a.length c, .int .i64 b, .int .i64 e]] F (cn.f a b e) (fun (r : Int) (y : Unit) => .int .i64 r) (fun r y => [obj b0 180 [.slice d a.length c, .int .i64 b, .int .i64 e]]) := by
 unfold cn.f
 refine aN 13 Tryz.func125 O Tryz.ntmps125 O ?_
 refine sr ?_
 refine va O O (ae (aa (ay ?_)))
 refine bb (Γ := Unit) () [[], [0], [0, 1], [0, 1, 2], rL 4, [], [5], [5, 6], [5, 6, 7], rL 9, rL 10] [] [0, 1, 2, 3, 4, 5, 6, 7, 8, 9, 10] (fun i => [[0], [0], [0], [0], [0], [0], [0], [0], [0], [0], [0]].getD i []) (fun i => [[], [], [], [], [], [], [], [], [], [], []].getD i []) (fun γ i => [.pointer (some ⟨b0, 0, none⟩), .pointer (some ⟨b0, 0, none⟩), .pointer (some ⟨b0, 0, none⟩), .slice d a.length c, .int .i64 (a.length : Int), .pointer (some ⟨b0, 0, none⟩), .pointer (some ⟨b0, 0, none⟩), .pointer (some ⟨b0, 1, none⟩), .int .i64 b, .int .i64 (IntKind.i64.wrap ((a.length : Int) - b)), .int .i64 (IntKind.i64.wrap ((a.length : Int) - b))].getD i undef) (fun j γ => [[obj b0 180 [.slice d a.length c, .int .i64 b, .int .i64 e], F]].getD j []) (fun γ => [(2, .int .i64 (IntKind.i64.wrap ((a.length : Int) - b)))]) mixed (by decide) (by decide) (by decide) (by decide) (by decide) (by decide) (by decide) 13 O (by decide) (by decide) (by decide) (Ent.refl _) ?_ ?_ (fun _ => ⟨O, trivial⟩) ?_
 exact (aq O (fun γ => qm O (.o (s := 0) O (by decide) .nil) O) (aq O (fun γ => qp O O (.v 0 O O .nil) (aX O O) O) (aq O (fun γ => qp O O (.v 1 O O .nil) (ar O O underlying180 O O sizeOf33 O) O) (aq O (fun γ => qp O O (.v 2 O O .nil) (ag O O isAgg33 (.obj 0 O O)) O) (aq O (fun γ => qp O O (.v 3 O O .nil) (bD O O O underlying33) O) (aq O (fun γ => qm O (.o (s := 0) O (by decide) .nil) O) (aq O (fun γ => qp O O (.v 5 O O .nil) (aX O O) O) (aq O (fun γ => qp O O (.v 6 O O .nil) (ar O O underlying180 O O sizeOf3 O) O) (aq O (fun γ => qp O O (.v 7 O O .nil) (ag O O isAgg3 (.obj 0 O O)) O) (aq O (fun γ => qp O O (.v 4 O O (.v 8 O O .nil)) (dc O O O) O) (aq O (fun γ => qp O O (.v 9 O O .nil) (ci O O) O) zA)))))))))))
 exact zA
 intro l
 refine aa (aA ?_)
 exact aD () O O O (.sel 0 O (.sel 0 O (.nil _)))
def cn.v (a : List UInt8) (b : Int) (c : Int) : Int := (cn.f a b c).getD 0
theorem cn.tot (a : List UInt8) (b : Int) (c : Int) : cn.f a b c = some (cn.v a b c) := by
  have h : ∃ r, cn.f a b c = some r := by
    unfold cn.f
    repeat' (first | exact ⟨_, rfl⟩ | split | simp only [Option.bind_some])
  obtain ⟨r, h⟩ := h
  unfold cn.v
  rw [h]; rfl

def bk.f (b : List UInt8) (c : Int) (a : Int) : Option (Int) := (if a = (0 : Int) then ((cn.f b c a).bind fun d => (some (decide ((0 : Int) < d)))) else (some false)).bind fun e => (if e = true then (some 3) else (some a))
theorem bk.calls (W : World) (F : HA) (b0 : Nat) (c : Option Addr) (b : Nat) (a : List UInt8) (d : Int) (e : Int) (i : Rd F c (ax a)) (g : a.length ≤ b) (h : b ≤ maxLen) :
    Fn Tryz.prog W 104 [.pointer (some ⟨b0, 0, none⟩)] [obj b0 180 [.slice c a.length b, .int .i64 d, .int .i64 e]] F (bk.f a d e) (fun (r : Int) (y : Unit) => .int .i64 r) (fun r y => [obj b0 180 [.slice c a.length b, .int .i64 d, .int .i64 e]]) := by
 unfold bk.f
 refine aN 17 Tryz.func104 O Tryz.ntmps104 O ?_
 refine sr ?_
 refine va O O (ae (aa (ay (sr ?_))))
 refine vm O O ?_
 refine vn O O ?_
 refine vq (ar O O underlying180 O O sizeOf23 O) O ?_
 refine vq (ag O O isAgg23 (.obj 0 O O)) O ?_
 refine vq (bI O O O) O ?_
 refine vm O O ?_
 refine dG 4 (S := Bool) (Unit) (fun s y => [(0, .pointer (some ⟨b0, 0, none⟩)), (12, .bool s)]) (fun s y => [obj b0 180 [.slice c a.length b, .int .i64 d, .int .i64 e], F]) ?_ ?_
 refine iV (fun j => ?_) (fun k => ?_)
 rw [j]
 refine aZ (ba O O) O O O O O O ?_
 refine aw (fun m l => ?_)
 refine fC (av (vs := [.pointer (some ⟨b0, 0, none⟩)]) (cap := []) (A := [obj b0 180 [.slice c a.length b, .int .i64 d, .int .i64 e]]) (rst := [F]) O O O O O O call125 (.sel 0 O (.sel 0 O (.nil _))) (cn.calls _ _ b0 c b a d e (i.lend 0 O) g h) l) O O O O O O ?_
 intro n
 refine aZ (cI O O O) O O O O O O ?_
 refine vq (bW O O O O O) O (ae ?_)
 exact aF (s := decide ((0 : Int) < m)) () ⟨O, O, trivial⟩ (.sel 0 O (.sel 0 O (.nil _)))
 rw [k]
 refine aO O O O O O O ?_
 refine aO O O O O O O ?_
 refine aO O O O O O O ?_
 refine vq (bW O O O O O) O (ae ?_)
 exact aF (s := false) () ⟨O, O, trivial⟩ (.sel 0 O (.sel 0 O (.nil _)))
 intro o p
 refine ae (aa ?_)
 refine aY O (fun q => ?_) (fun t => ?_)
 refine sr ?_
 refine va O O (ae (aa (aA ?_)))
 refine aK ?_
 exact aD () O O O (.sel 0 O (.sel 0 O (.nil _)))
 refine aC ?_
 refine aa (sr ?_)
 refine vm O O ?_
 refine vn O O ?_
 refine vq (ar O O underlying180 O O sizeOf23 O) O ?_
 refine vq (ag O O isAgg23 (.obj 0 O O)) O ?_
 refine va O O (ae (aa (aA ?_)))
 exact aD () O O O (.sel 0 O (.sel 0 O (.nil _)))
def bk.v (a : List UInt8) (b : Int) (c : Int) : Int := (bk.f a b c).getD 0
theorem bk.tot (a : List UInt8) (b : Int) (c : Int) : bk.f a b c = some (bk.v a b c) := by
  have h : ∃ r, bk.f a b c = some r := by
    unfold bk.f
    repeat' (first | exact ⟨_, rfl⟩ | split | simp only [Option.bind_some, cn.tot])
  obtain ⟨r, h⟩ := h
  unfold bk.v
  rw [h]; rfl

def fg.f (e : List UInt8) (g : Int) (h : Int) (a : Int) (b : Int) (c : Int) (d : List UInt8) : Option (aG) := (bk.f e g h).bind fun i => ((if i = (0 : Int) then ((bq.f a b c d).bind fun k => (some k)) else (some i)).bind fun j => (if j = (0 : Int) then (some (a, b, c, d, 0)) else (some (0, 0, 0, ([] : List UInt8), j))))
theorem fg.calls (W : World) (F : HA) (G : HA) (hG : Up G F) (m : Nat) (e : Option Addr) (b : Nat) (a : List UInt8) (g : Int) (h : Int) (j : Int) (k : Int) (l : Int) (i : Option Addr) (c : Nat) (d : List UInt8) (w : Rd G e (ax a)) (t : a.length ≤ b) (u : b ≤ maxLen) (v : Rd G i (ax d)) (o : d.length ≤ c) (p : c ≤ maxLen) :
    Fn Tryz.prog W 124 [.pointer (some ⟨m, 0, none⟩), .iface 131 (.agg #[]), .agg #[.int .i64 j, .int .i64 k, .int .i64 l, .slice i d.length c]] [obj m 180 [.slice e a.length b, .int .i64 g, .int .i64 h]] F (fg.f a g h j k l d) (fun (r : Int × Int × Int × List UInt8 × Int) (y : Option Addr × Nat) => .tuple #[.agg #[.int .i64 r.1, .int .i64 r.2.1, .int .i64 r.2.2.1, .slice y.1 r.2.2.2.1.length y.2], .int .i64 r.2.2.2.2]) (fun r y => [pr (Rd (G) y.1 (ax r.2.2.2.1) ∧ r.2.2.2.1.length ≤ y.2 ∧ y.2 ≤ maxLen), obj m 180 [.slice e a.length b, .int .i64 g, .int .i64 h]]) := by
 unfold fg.f
 refine aN 22 Tryz.func124 O Tryz.ntmps124 O ?_
 refine sr ?_
 refine ah (cy O O O) O O O ?_
 intro q
 refine ah (bL O zeroValue35 O) O O O ?_
 intro n
 refine va O O (nx ?_)
 refine vm O O ?_
 refine aw (fun ad z => ?_)
 refine ah (av (vs := [.pointer (some ⟨m, 0, none⟩)]) (cap := []) (A := [obj m 180 [.slice e a.length b, .int .i64 g, .int .i64 h]]) (rst := [obj n 35 [.int .i64 0, .int .i64 0, .int .i64 0, .slice none 0 0], obj q 35 [.int .i64 j, .int .i64 k, .int .i64 l, .slice i d.length c], F]) O O O O O O call104 (.sel 2 O (.sel 0 O (.sel 0 O (.sel 0 O (.nil _))))) (bk.calls _ _ m e b a g h ((w.up hG).lend 2 O) t u) z) O O O ?_
 intro a1
 refine va O O (ae (aa ?_))
 refine bE (S := Int) (Unit) (fun s y => [(5, .pointer (some ⟨q, 0, none⟩)), (6, .pointer (some ⟨n, 0, none⟩)), (8, .int .i64 s)]) (fun s y => [obj m 180 [.slice e a.length b, .int .i64 g, .int .i64 h], obj n 35 [.int .i64 0, .int .i64 0, .int .i64 0, .slice none 0 0], obj q 35 [.int .i64 j, .int .i64 k, .int .i64 l, .slice i d.length c], F]) ?_ ?_
 refine sr ?_
 refine vm O O ?_
 refine vq (bI O O O) O (ae (aa ?_))
 refine bf O (fun a2 => ?_) (fun a3 => ?_)
 refine aJ ?_
 refine vm O O ?_
 refine vq (bU 2 O O isAgg35 sizeOf35 O O) O ?_
 refine aw (fun ab x => ?_)
 refine ah (nb (vs := [.agg #[.int .i64 j, .int .i64 k, .int .i64 l, .slice i d.length c]]) (A := []) (rst := [obj m 180 [.slice e a.length b, .int .i64 g, .int .i64 h], obj n 35 [.int .i64 0, .int .i64 0, .int .i64 0, .slice none 0 0], obj q 35 [.int .i64 j, .int .i64 k, .int .i64 l, .slice i d.length c], F]) O O O O O (fun _ => by kernel_rfl) call79 (.sel 0 O (.sel 0 O (.sel 0 O (.sel 0 O (.nil _))))) (bq.calls _ _ j k l i c d ((v.up hG).lend 3 O) o p) x) O O O ?_
 intro al
 refine va O O (ae ?_)
 exact aF (s := ab) () ⟨O, O, O, trivial⟩ (.sel 0 O (.sel 0 O (.sel 0 O (.sel 0 O (.nil _)))))
 refine aC ?_
 exact aF (s := ad) () ⟨O, O, O, trivial⟩ (.sel 0 O (.sel 0 O (.sel 0 O (.sel 0 O (.nil _)))))
 intro af a4
 refine ay (sr ?_)
 refine vm O O ?_
 refine vq (cZ O O O) O (ae (aa ?_))
 refine cS O (fun an => ?_) (fun az => ?_)
 refine aC ?_
 refine aa (sr ?_)
 refine vq (bU 2 O O isAgg35 sizeOf35 O O) O ?_
 refine aU (aH 1 O O O sizeOf35 O O (aM (by rfl)) O O) O O ?_
 intro _
 refine va O O (ae (aa (aA ?_)))
 exact gG (vs := [.agg #[.int .i64 j, .int .i64 k, .int .i64 l, .slice i d.length c], .int .i64 0]) (i, c) O ⟨⟨n, O, fX 1 isAgg35 sizeOf35 O O⟩, O, trivial⟩ O (.pr_in ⟨v, o, p⟩ (.sel 0 O (.sel 2 O (.nil _))))
 refine sr ?_
 refine ah (bL O zeroValue35 O) O O O ?_
 intro a0
 refine nx ?_
 refine vq (bU 0 O O isAgg35 sizeOf35 O O) O ?_
 refine vm O O ?_
 refine aU (aH 2 O O O sizeOf35 O O (aM (by rfl)) O O) O O ?_
 intro _
 refine va O O (ae (aa (aA ?_)))
 refine aK ?_
 exact gG (vs := [.agg #[.int .i64 0, .int .i64 0, .int .i64 0, .slice none 0 0], .int .i64 af]) (none, 0) O ⟨⟨n, O, fX 2 isAgg35 sizeOf35 O O⟩, O, trivial⟩ O (.pr_in ⟨Rd.nil _ _, Nat.le_refl _, Nat.zero_le _⟩ (.sel 1 O (.sel 3 O (.nil _))))

def dx.f (e : List UInt8) (g : Int) (h : Int) (a : Int) (b : Int) (c : Int) (d : List UInt8) : Option (aG) := (bk.f e g h).bind fun i => ((if i = (0 : Int) then ((bq.f a b c d).bind fun k => (some k)) else (some i)).bind fun j => (if j = (0 : Int) then (some (a, b, c, d, 0)) else (some (0, 0, 0, ([] : List UInt8), j))))
theorem dx.calls (W : World) (F : HA) (m : Nat) (g : Option Addr) (e : Nat) (d : List UInt8) (h : Int) (i : Int) (j : Int) (k : Int) (l : Int) (b : Option Addr) (c : Nat) (a : List UInt8) (t : Rd F g (ax d)) (p : d.length ≤ e) (q : e ≤ maxLen) :
    Fn Tryz.prog W 124 [.pointer (some ⟨m, 0, none⟩), .iface 131 (.agg #[]), .agg #[.int .i64 j, .int .i64 k, .int .i64 l, .slice b a.length c]] [obj m 180 [.slice g d.length e, .int .i64 h, .int .i64 i], Row 5 1 b a.length c (ax a)] F (dx.f d h i j k l a) (fun (r : Int × Int × Int × List UInt8 × Int) (y : Option Addr × Nat) => .tuple #[.agg #[.int .i64 r.1, .int .i64 r.2.1, .int .i64 r.2.2.1, .slice y.1 r.2.2.2.1.length y.2], .int .i64 r.2.2.2.2]) (fun r y => [Row 5 1 y.1 r.2.2.2.1.length y.2 (ax r.2.2.2.1), obj m 180 [.slice g d.length e, .int .i64 h, .int .i64 i]]) := by
 unfold dx.f
 refine aN 22 Tryz.func124 O Tryz.ntmps124 O ?_
 refine sr ?_
 refine ah (cy O O O) O O O ?_
 intro o
 refine ah (bL O zeroValue35 O) O O O ?_
 intro n
 refine va O O (nx ?_)
 refine vm O O ?_
 refine aw (fun ad z => ?_)
 refine ah (av (vs := [.pointer (some ⟨m, 0, none⟩)]) (cap := []) (A := [obj m 180 [.slice g d.length e, .int .i64 h, .int .i64 i]]) (rst := [obj n 35 [.int .i64 0, .int .i64 0, .int .i64 0, .slice none 0 0], obj o 35 [.int .i64 j, .int .i64 k, .int .i64 l, .slice b a.length c], Row 5 1 b a.length c (ax a), F]) O O O O O O call104 (.sel 2 O (.sel 0 O (.sel 0 O (.sel 0 O (.sel 0 O (.nil _)))))) (bk.calls _ _ m g e d h i (t.lend 3 O) p q) z) O O O ?_
 intro a2
 refine va O O (ae (aa ?_))
 refine bE (S := Int) (Unit) (fun s y => [(5, .pointer (some ⟨o, 0, none⟩)), (6, .pointer (some ⟨n, 0, none⟩)), (8, .int .i64 s)]) (fun s y => [obj m 180 [.slice g d.length e, .int .i64 h, .int .i64 i], obj n 35 [.int .i64 0, .int .i64 0, .int .i64 0, .slice none 0 0], obj o 35 [.int .i64 j, .int .i64 k, .int .i64 l, .slice b a.length c], Row 5 1 b a.length c (ax a), F]) ?_ ?_
 refine sr ?_
 refine vm O O ?_
 refine vq (bI O O O) O (ae (aa ?_))
 refine bf O (fun a3 => ?_) (fun a4 => ?_)
 refine aJ ?_
 refine vm O O ?_
 refine vq (bU 2 O O isAgg35 sizeOf35 O O) O ?_
 refine aw (fun ab u => ?_)
 refine bd 3 O (fun v w x al => ?_)
 refine ah (nb (vs := [.agg #[.int .i64 j, .int .i64 k, .int .i64 l, .slice b a.length c]]) (A := []) (rst := [obj m 180 [.slice g d.length e, .int .i64 h, .int .i64 i], obj n 35 [.int .i64 0, .int .i64 0, .int .i64 0, .slice none 0 0], obj o 35 [.int .i64 j, .int .i64 k, .int .i64 l, .slice b a.length c], Row 5 1 b a.length c (ax a), F]) O O O O O (fun _ => by kernel_rfl) call79 (.sel 0 O (.sel 0 O (.sel 0 O (.sel 0 O (.sel 0 O (.nil _)))))) (bq.calls _ _ j k l b c a (v.lend 3 O) w x) u) O O O ?_
 intro an
 refine va O O (ae ?_)
 exact aF (s := ab) () ⟨O, O, O, trivial⟩ (.sel 0 O (.sel 0 O (.sel 0 O (.sel 0 O (.sel 0 O (.nil _))))))
 refine aC ?_
 exact aF (s := ad) () ⟨O, O, O, trivial⟩ (.sel 0 O (.sel 0 O (.sel 0 O (.sel 0 O (.sel 0 O (.nil _))))))
 intro af a5
 refine ay (sr ?_)
 refine vm O O ?_
 refine vq (cZ O O O) O (ae (aa ?_))
 refine cS O (fun az => ?_) (fun a0 => ?_)
 refine aC ?_
 refine aa (sr ?_)
 refine vq (bU 2 O O isAgg35 sizeOf35 O O) O ?_
 refine aU (aH 1 O O O sizeOf35 O O (aM (by rfl)) O O) O O ?_
 intro _
 refine va O O (ae (aa (aA ?_)))
 exact gG (vs := [.agg #[.int .i64 j, .int .i64 k, .int .i64 l, .slice b a.length c], .int .i64 0]) (b, c) O ⟨⟨n, O, fX 1 isAgg35 sizeOf35 O O⟩, O, trivial⟩ O (.sel 3 O (.sel 0 O (.sel 2 O (.nil _))))
 refine sr ?_
 refine ah (bL O zeroValue35 O) O O O ?_
 intro a1
 refine nx ?_
 refine vq (bU 0 O O isAgg35 sizeOf35 O O) O ?_
 refine vm O O ?_
 refine aU (aH 2 O O O sizeOf35 O O (aM (by rfl)) O O) O O ?_
 intro _
 refine va O O (ae (aa (aA ?_)))
 refine aK ?_
 exact gG (vs := [.agg #[.int .i64 0, .int .i64 0, .int .i64 0, .slice none 0 0], .int .i64 af]) (none, 0) O ⟨⟨n, O, fX 2 isAgg35 sizeOf35 O O⟩, O, trivial⟩ O (.row_nil (.sel 1 O (.sel 4 O (.nil _))))

def eN.f (k : Nat) (x1 : List UInt8) : Option (aG) := (eE.f x1).bind fun a => ((bG.f k a.1 a.2.1 a.2.2).bind fun c => ((bG.f k a.1 c.2.1 c.2.2).bind fun d => ((bG.f k a.1 d.2.1 d.2.2).bind fun e => ((dO.f k a.1 e.2.1 e.2.2 (4096 : Int)).bind fun g => ((dx.f a.1 g.2.1 g.2.2 c.1 d.1 e.1 g.1).bind fun b => (some (b.1, b.2.1, b.2.2.1, b.2.2.2.1, b.2.2.2.2)))))))
theorem eN.calls (W : World) (F : HA) (k : Nat) (a1 : Option Addr) (c1 : Nat) (x1 : List UInt8) (h1 : Rd F a1 (ax x1)) (a7 : x1.length ≤ c1) (a8 : c1 ≤ maxLen) :
    Fn Tryz.prog W 102 [.agg #[], .slice a1 x1.length c1] [] F (eN.f k x1) (fun (r : Int × Int × Int × List UInt8 × Int) (y : Option Addr × Nat) => .tuple #[.agg #[.int .i64 r.1, .int .i64 r.2.1, .int .i64 r.2.2.1, .slice y.1 r.2.2.2.1.length y.2], .int .i64 r.2.2.2.2]) (fun r y => [Row 5 1 y.1 r.2.2.2.1.length y.2 (ax r.2.2.2.1)]) := by
 unfold eN.f
 refine aN 26 Tryz.func102 O Tryz.ntmps102 O ?_
 refine sr ?_
 refine ah (cy O O O) O O O ?_
 intro l
 refine ah (bL O zeroValue35 O) O O O ?_
 intro i
 refine va O O (nx ?_)
 refine vm O O ?_
 refine aw (fun b a2 => ?_)
 refine ah (av (vs := [.slice a1 x1.length c1]) (cap := []) (A := []) (rst := [obj i 35 [.int .i64 0, .int .i64 0, .int .i64 0, .slice none 0 0], obj l 131 [], F]) O O O O O O call100 (.sel 0 O (.sel 0 O (.sel 0 O (.nil _)))) (eE.calls _ _ a1 c1 x1 (h1.lend 2 O) a7 a8) a2) O O O ?_
 intro a
 refine va O O (nx ?_)
 refine vm O O ?_
 refine aw (fun e n => ?_)
 refine bd 1 O (fun a3 a4 a5 bs => ?_)
 refine ah (av (vs := [.pointer (some ⟨a.1, 0, none⟩)]) (cap := []) (A := [obj a.1 180 [.slice a.2.1 b.1.length a.2.2, .int .i64 b.2.1, .int .i64 b.2.2]]) (rst := [Row 5 1 a.2.1 b.1.length a.2.2 (ax b.1), obj i 35 [.int .i64 0, .int .i64 0, .int .i64 0, .slice none 0 0], obj l 131 [], F]) O O O O O O call101 (.sel 0 O (.sel 0 O (.sel 0 O (.sel 0 O (.sel 0 O (.nil _)))))) (bG.calls _ _ k a.1 a.2.1 a.2.2 b.1 b.2.1 b.2.2 (a3.lend 0 O) a4 a5) n) O O O ?_
 intro bt
 refine vm O O ?_
 refine aw (fun g o => ?_)
 refine bd 1 O (fun p q s a9 => ?_)
 refine ah (av (vs := [.pointer (some ⟨a.1, 0, none⟩)]) (cap := []) (A := [obj a.1 180 [.slice a.2.1 b.1.length a.2.2, .int .i64 e.2.1, .int .i64 e.2.2]]) (rst := [Row 5 1 a.2.1 b.1.length a.2.2 (ax b.1), obj i 35 [.int .i64 0, .int .i64 0, .int .i64 0, .slice none 0 0], obj l 131 [], F]) O O O O O O call101 (.sel 0 O (.sel 0 O (.sel 0 O (.sel 0 O (.sel 0 O (.nil _)))))) (bG.calls _ _ k a.1 a.2.1 a.2.2 b.1 e.2.1 e.2.2 (p.lend 0 O) q s) o) O O O ?_
 intro b0
 refine vm O O ?_
 refine aw (fun h t => ?_)
 refine bd 1 O (fun u w x bc => ?_)
 refine ah (av (vs := [.pointer (some ⟨a.1, 0, none⟩)]) (cap := []) (A := [obj a.1 180 [.slice a.2.1 b.1.length a.2.2, .int .i64 g.2.1, .int .i64 g.2.2]]) (rst := [Row 5 1 a.2.1 b.1.length a.2.2 (ax b.1), obj i 35 [.int .i64 0, .int .i64 0, .int .i64 0, .slice none 0 0], obj l 131 [], F]) O O O O O O call101 (.sel 0 O (.sel 0 O (.sel 0 O (.sel 0 O (.sel 0 O (.nil _)))))) (bG.calls _ _ k a.1 a.2.1 a.2.2 b.1 g.2.1 g.2.2 (u.lend 0 O) w x) t) O O O ?_
 intro b1
 refine vm O O ?_
 refine aw (fun c z => ?_)
 refine bd 1 O (fun ab ad af be => ?_)
 refine ah (av (vs := [.pointer (some ⟨a.1, 0, none⟩), .int .i64 4096]) (cap := []) (A := [obj a.1 180 [.slice a.2.1 b.1.length a.2.2, .int .i64 h.2.1, .int .i64 h.2.2]]) (rst := [Row 5 1 a.2.1 b.1.length a.2.2 (ax b.1), obj i 35 [.int .i64 0, .int .i64 0, .int .i64 0, .slice none 0 0], obj l 131 [], F]) O O O O O O call103 (.sel 0 O (.sel 0 O (.sel 0 O (.sel 0 O (.sel 0 O (.nil _)))))) (dO.calls _ _ k a.1 a.2.1 a.2.2 b.1 h.2.1 h.2.2 (4096 : Int) (ab.lend 0 O) ad af) z) O O O ?_
 intro d
 refine vq (cx (v := .agg #[.int .i64 e.1, .int .i64 g.1, .int .i64 h.1, .slice d.1 c.1.length d.2]) O O (fun _ => by kernel_rfl)) O ?_
 refine ah (bL O zeroValue35 O) O O O ?_
 intro a6
 refine aU (aH 0 O O O sizeOf35 O O (aM (by rfl)) O O) O O ?_
 intro _
 refine nx ?_
 refine vm O O ?_
 refine vq (bU 5 O O isAgg131 sizeOf131 O O) O ?_
 refine vq (tG O O underlying131 O) O ?_
 refine vq (bU 0 O O isAgg35 sizeOf35 O O) O ?_
 refine aw (fun j al => ?_)
 refine bd 3 O (fun an az a0 br => ?_)
 refine ah (av (vs := [.pointer (some ⟨a.1, 0, none⟩), .iface 131 (.agg #[]), .agg #[.int .i64 e.1, .int .i64 g.1, .int .i64 h.1, .slice d.1 c.1.length d.2]]) (cap := []) (A := [obj a.1 180 [.slice a.2.1 b.1.length a.2.2, .int .i64 c.2.1, .int .i64 c.2.2], Row 5 1 d.1 c.1.length d.2 (ax c.1)]) (rst := [obj a6 35 [.int .i64 e.1, .int .i64 g.1, .int .i64 h.1, .slice d.1 c.1.length d.2], Row 5 1 a.2.1 b.1.length a.2.2 (ax b.1), obj i 35 [.int .i64 0, .int .i64 0, .int .i64 0, .slice none 0 0], obj l 131 [], F]) O O O O O O call124 (.sel 2 O (.sel 1 O (.sel 0 O (.sel 0 O (.sel 0 O (.sel 0 O (.sel 0 O (.nil _)))))))) (dx.calls _ _ a.1 a.2.1 a.2.2 b.1 c.2.1 c.2.2 e.1 g.1 h.1 d.1 d.2 c.1 (an.lend 1 O) az a0) al) O O O ?_
 intro m
 refine vq (bu O O O) O ?_
 refine vq (bu O O O) O ?_
 refine aU (aH 4 O O O sizeOf35 O O (aM (by rfl)) O O) O O ?_
 intro _
 refine va O O (ae (aa (aA ?_)))
 exact gG (vs := [.agg #[.int .i64 j.1, .int .i64 j.2.1, .int .i64 j.2.2.1, .slice m.1 j.2.2.2.1.length m.2], .int .i64 j.2.2.2.2]) (m.1, m.2) O ⟨⟨i, O, fX 4 isAgg35 sizeOf35 O O⟩, O, trivial⟩ O (.sel 0 O (.sel 5 O (.nil _)))

def iA.f (k : Nat) (x0 : List UInt8) : Option (Int × Int × Int × Int × Int × Int × Int × Int × Int × Int × List UInt8 × Bool) := (eE.f x0).bind fun c => ((bG.f k c.1 c.2.1 c.2.2).bind fun a => ((if a.1 = (0 : Int) then ((bG.f k c.1 a.2.1 a.2.2).bind fun o => (some (o.2.1, o.2.2, o.1))) else (some (a.2.1, a.2.2, 0))).bind fun h => ((if ((decide (a.1 = (0 : Int))) || (decide (a.1 = (1 : Int)))) = true then ((bG.f k c.1 h.1 h.2.1).bind fun i => ((bG.f k c.1 i.2.1 i.2.2).bind fun j => ((bG.f k c.1 j.2.1 j.2.2).bind fun l => ((cR.f i.1 j.1 l.1).bind fun q => (some (decide (q = (0 : Int)), l.2.1, l.2.2, i.1, j.1, l.1)))))) else (some (decide (a.1 ≤ (3 : Int)), h.1, h.2.1, 0, 0, 0))).bind fun b => ((if ((decide (a.1 = (0 : Int))) || (decide (a.1 = (3 : Int)))) = true then ((bG.f k c.1 b.2.1 b.2.2.1).bind fun m => ((bG.f k c.1 m.2.1 m.2.2).bind fun n => ((if b.1 = true then ((if a.1 = (0 : Int) then (some true) else (some ((decide ((0 : Int) < m.1)) && (decide ((0 : Int) < n.1))))).bind fun r => (some r)) else (some false)).bind fun s => (some (s, n.2.1, n.2.2, m.1, n.1))))) else (some (b.1, b.2.1, b.2.2.1, 0, 0))).bind fun d => ((if a.1 = (2 : Int) then ((dO.f k c.1 d.2.1 d.2.2.1 (8192 : Int)).bind fun p => ((eN.f k p.1).bind fun g => (some (decide (g.2.2.2.2 = (0 : Int)), p.2.1, p.2.2, g.1, g.2.1, g.2.2.1, g.2.2.2.1)))) else (some (d.1, d.2.1, d.2.2.1, 0, 0, 0, ([] : List UInt8)))).bind fun e => (some (a.1, h.2.2, b.2.2.2.1, b.2.2.2.2.1, b.2.2.2.2.2, d.2.2.2.1, d.2.2.2.2, e.2.2.2.1, e.2.2.2.2.1, e.2.2.2.2.2.1, e.2.2.2.2.2.2, e.1 && (decide ((bk.v c.1 e.2.1 e.2.2.1) = (0 : Int))))))))))
theorem iA.calls (W : World) (F : HA) (k : Nat) (a0 : Option Addr) (c0 : Nat) (x0 : List UInt8) (h0 : Rd F a0 (ax x0)) (er : x0.length ≤ c0) (es : c0 ≤ maxLen) :
    Fn Tryz.prog W 76 [.slice a0 x0.length c0] [] F (iA.f k x0) (fun (r : Int × Int × Int × Int × Int × Int × Int × Int × Int × Int × List UInt8 × Bool) (y : Option Addr × Nat) => .tuple #[.agg #[.int .i64 r.1, .int .i64 r.2.1, .int .i64 r.2.2.1, .int .i64 r.2.2.2.1, .int .i64 r.2.2.2.2.1, .int .i64 r.2.2.2.2.2.1, .int .i64 r.2.2.2.2.2.2.1, .int .i64 r.2.2.2.2.2.2.2.1, .int .i64 r.2.2.2.2.2.2.2.2.1, .int .i64 r.2.2.2.2.2.2.2.2.2.1, .slice y.1 r.2.2.2.2.2.2.2.2.2.2.1.length y.2], .bool r.2.2.2.2.2.2.2.2.2.2.2]) (fun r y => [Row 5 1 y.1 r.2.2.2.2.2.2.2.2.2.2.1.length y.2 (ax r.2.2.2.2.2.2.2.2.2.2.1)]) := by
 unfold iA.f
 refine aN 95 Tryz.func76 O Tryz.ntmps76 O ?_
 refine sr ?_
 refine ah (bL O zeroValue102 O) O O O ?_
 intro n
 refine va O O (nx ?_)
 refine vm O O ?_
 refine aw (fun d ed => ?_)
 refine ah (av (vs := [.slice a0 x0.length c0]) (cap := []) (A := []) (rst := [obj n 102 [.int .i64 0, .int .i64 0, .int .i64 0, .int .i64 0, .int .i64 0, .int .i64 0, .int .i64 0, .int .i64 0, .int .i64 0, .int .i64 0, .slice none 0 0], F]) O O O O O O call100 (.sel 0 O (.sel 0 O (.nil _))) (eE.calls _ _ a0 c0 x0 (h0.lend 1 O) er es) ed) O O O ?_
 intro a
 refine va O O (nx ?_)
 refine vm O O ?_
 refine aw (fun h a8 => ?_)
 refine bd 1 O (fun ee ef ei gy => ?_)
 refine ah (av (vs := [.pointer (some ⟨a.1, 0, none⟩)]) (cap := []) (A := [obj a.1 180 [.slice a.2.1 d.1.length a.2.2, .int .i64 d.2.1, .int .i64 d.2.2]]) (rst := [Row 5 1 a.2.1 d.1.length a.2.2 (ax d.1), obj n 102 [.int .i64 0, .int .i64 0, .int .i64 0, .int .i64 0, .int .i64 0, .int .i64 0, .int .i64 0, .int .i64 0, .int .i64 0, .int .i64 0, .slice none 0 0], F]) O O O O O O call101 (.sel 0 O (.sel 0 O (.sel 0 O (.sel 0 O (.nil _))))) (bG.calls _ _ k a.1 a.2.1 a.2.2 d.1 d.2.1 d.2.2 (ee.lend 0 O) ef ei) a8) O O O ?_
 intro g0
 refine vq (cx (v := .agg #[.int .i64 h.1, .int .i64 0, .int .i64 0, .int .i64 0, .int .i64 0, .int .i64 0, .int .i64 0, .int .i64 0, .int .i64 0, .int .i64 0, .slice none 0 0]) O O (fun _ => by kernel_rfl)) O ?_
 refine ah (bL O zeroValue102 O) O O O ?_
 intro g
 refine aU (aH 0 O O O sizeOf102 O O (aM (by rfl)) O O) O O ?_
 intro _
 refine bR (H' := [obj g 102 [.int .i64 h.1, .int .i64 0, .int .i64 0, .int .i64 0, .int .i64 0, .int .i64 0, .int .i64 0, .int .i64 0, .int .i64 0, .int .i64 0, .slice none 0 0], obj a.1 180 [.slice a.2.1 d.1.length a.2.2, .int .i64 h.2.1, .int .i64 h.2.2], Row 5 1 a.2.1 d.1.length a.2.2 (ax d.1), obj n 102 [.int .i64 0, .int .i64 0, .int .i64 0, .int .i64 0, .int .i64 0, .int .i64 0, .int .i64 0, .int .i64 0, .int .i64 0, .int .i64 0, .slice none 0 0], F]) (Ent.refl _) ?_
 refine nx ?_
 refine vq (ar O O underlying102 O O sizeOf3 O) O ?_
 refine vq (ag O O isAgg3 (.obj 0 O O)) O ?_
 refine vq (iQ O O O) O ?_
 refine va O O (ae (aa ?_))
 refine bE (S := Int × Int × Int) (Unit) (fun s y => [(2, .pointer (some ⟨n, 0, none⟩)), (4, .pointer (some ⟨a.1, 0, none⟩)), (5, .pointer (some ⟨g, 0, none⟩)), (6, .bool (decide (h.1 ≤ (3 : Int))))]) (fun s y => [obj a.1 180 [.slice a.2.1 d.1.length a.2.2, .int .i64 s.1, .int .i64 s.2.1], obj g 102 [.int .i64 h.1, .int .i64 s.2.2, .int .i64 0, .int .i64 0, .int .i64 0, .int .i64 0, .int .i64 0, .int .i64 0, .int .i64 0, .int .i64 0, .slice none 0 0], obj n 102 [.int .i64 0, .int .i64 0, .int .i64 0, .int .i64 0, .int .i64 0, .int .i64 0, .int .i64 0, .int .i64 0, .int .i64 0, .int .i64 0, .slice none 0 0], Row 5 1 a.2.1 d.1.length a.2.2 (ax d.1), F]) ?_ ?_
 refine sr ?_
 refine vq (ar O O underlying102 O O sizeOf3 O) O ?_
 refine vq (ag O O isAgg3 (.obj 0 O O)) O ?_
 refine vq (bI O O O) O (ae (aa ?_))
 refine bf O (fun g1 => ?_) (fun g2 => ?_)
 refine aJ ?_
 refine vm O O ?_
 refine aw (fun an a9 => ?_)
 refine bd 2 O (fun bc be br e6 => ?_)
 refine ah (av (vs := [.pointer (some ⟨a.1, 0, none⟩)]) (cap := []) (A := [obj a.1 180 [.slice a.2.1 d.1.length a.2.2, .int .i64 h.2.1, .int .i64 h.2.2]]) (rst := [obj g 102 [.int .i64 h.1, .int .i64 0, .int .i64 0, .int .i64 0, .int .i64 0, .int .i64 0, .int .i64 0, .int .i64 0, .int .i64 0, .int .i64 0, .slice none 0 0], Row 5 1 a.2.1 d.1.length a.2.2 (ax d.1), obj n 102 [.int .i64 0, .int .i64 0, .int .i64 0, .int .i64 0, .int .i64 0, .int .i64 0, .int .i64 0, .int .i64 0, .int .i64 0, .int .i64 0, .slice none 0 0], F]) O O O O O O call101 (.sel 1 O (.sel 0 O (.sel 0 O (.sel 0 O (.sel 0 O (.nil _)))))) (bG.calls _ _ k a.1 a.2.1 a.2.2 d.1 h.2.1 h.2.2 (bc.lend 1 O) be br) a9) O O O ?_
 intro g3
 refine vq (ar O O underlying102 O O sizeOf3 O) O ?_
 refine aU (aH 1 O O O sizeOf3 O O (aM (by rfl)) O O) O O ?_
 intro _
 refine bR (H' := [obj a.1 180 [.slice a.2.1 d.1.length a.2.2, .int .i64 an.2.1, .int .i64 an.2.2], obj g 102 [.int .i64 h.1, .int .i64 an.1, .int .i64 0, .int .i64 0, .int .i64 0, .int .i64 0, .int .i64 0, .int .i64 0, .int .i64 0, .int .i64 0, .slice none 0 0], Row 5 1 a.2.1 d.1.length a.2.2 (ax d.1), obj n 102 [.int .i64 0, .int .i64 0, .int .i64 0, .int .i64 0, .int .i64 0, .int .i64 0, .int .i64 0, .int .i64 0, .int .i64 0, .int .i64 0, .slice none 0 0], F]) (Ent.refl _) ?_
 refine ae ?_
 exact aF (s := (an.2.1, an.2.2, an.1)) () ⟨O, O, O, O, trivial⟩ (.sel 0 O (.sel 0 O (.sel 1 O (.sel 0 O (.sel 0 O (.nil _))))))
 refine aC ?_
 exact aF (s := (h.2.1, h.2.2, 0)) () ⟨O, O, O, O, trivial⟩ (.sel 1 O (.sel 0 O (.sel 1 O (.sel 0 O (.sel 0 O (.nil _))))))
 intro l g4
 refine bE (S := Bool × Int × Int × Int × Int × Int) (Unit) (fun s y => [(2, .pointer (some ⟨n, 0, none⟩)), (4, .pointer (some ⟨a.1, 0, none⟩)), (5, .pointer (some ⟨g, 0, none⟩)), (6, .bool s.1)]) (fun s y => [obj a.1 180 [.slice a.2.1 d.1.length a.2.2, .int .i64 s.2.1, .int .i64 s.2.2.1], obj g 102 [.int .i64 h.1, .int .i64 l.2.2, .int .i64 s.2.2.2.1, .int .i64 s.2.2.2.2.1, .int .i64 s.2.2.2.2.2, .int .i64 0, .int .i64 0, .int .i64 0, .int .i64 0, .int .i64 0, .slice none 0 0], obj n 102 [.int .i64 0, .int .i64 0, .int .i64 0, .int .i64 0, .int .i64 0, .int .i64 0, .int .i64 0, .int .i64 0, .int .i64 0, .int .i64 0, .slice none 0 0], Row 5 1 a.2.1 d.1.length a.2.2 (ax d.1), F]) ?_ ?_
 refine sr ?_
 refine vq (ar O O underlying102 O O sizeOf3 O) O ?_
 refine vq (ag O O isAgg3 (.obj 1 O O)) O ?_
 refine vq (bI O O O) O ?_
 refine vm O O ?_
 refine au (b := decide (h.1 = (0 : Int))) (fun e7 => RQ.sub (E' := [(5, .pointer (some ⟨g, 0, none⟩))]) ⟨O, trivial⟩ (ar O O underlying102 O O sizeOf3 O)) O O O O O ?_
 refine au (b := decide (h.1 = (0 : Int))) (fun bs => RQ.sub (E' := [(27, .pointer (some ⟨g, 0, none⟩))]) ⟨aE O bs, trivial⟩ (ag O O isAgg3 (.obj 1 O O))) O O O O O ?_
 refine au (b := decide (h.1 = (0 : Int))) (fun bt => RQ.sub (E' := [(28, .int .i64 h.1)]) ⟨aE O bt, trivial⟩ (bI O O O)) O O O O O ?_
 refine vq (ex O O O) O (ae (aa ?_))
 refine aY O (fun g5 => ?_) (fun g6 => ?_)
 refine sr ?_
 refine vm O O ?_
 refine aw (fun ab b0 => ?_)
 refine bd 3 O (fun b1 b2 b3 e8 => ?_)
 refine ah (av (vs := [.pointer (some ⟨a.1, 0, none⟩)]) (cap := []) (A := [obj a.1 180 [.slice a.2.1 d.1.length a.2.2, .int .i64 l.1, .int .i64 l.2.1]]) (rst := [obj g 102 [.int .i64 h.1, .int .i64 l.2.2, .int .i64 0, .int .i64 0, .int .i64 0, .int .i64 0, .int .i64 0, .int .i64 0, .int .i64 0, .int .i64 0, .slice none 0 0], obj n 102 [.int .i64 0, .int .i64 0, .int .i64 0, .int .i64 0, .int .i64 0, .int .i64 0, .int .i64 0, .int .i64 0, .int .i64 0, .int .i64 0, .slice none 0 0], Row 5 1 a.2.1 d.1.length a.2.2 (ax d.1), F]) O O O O O O call101 (.sel 0 O (.sel 0 O (.sel 0 O (.sel 0 O (.sel 0 O (.nil _)))))) (bG.calls _ _ k a.1 a.2.1 a.2.2 d.1 l.1 l.2.1 (b1.lend 2 O) b2 b3) b0) O O O ?_
 intro g7
 refine vm O O ?_
 refine aw (fun ad b4 => ?_)
 refine bd 3 O (fun b5 b6 b7 e9 => ?_)
 refine ah (av (vs := [.pointer (some ⟨a.1, 0, none⟩)]) (cap := []) (A := [obj a.1 180 [.slice a.2.1 d.1.length a.2.2, .int .i64 ab.2.1, .int .i64 ab.2.2]]) (rst := [obj g 102 [.int .i64 h.1, .int .i64 l.2.2, .int .i64 0, .int .i64 0, .int .i64 0, .int .i64 0, .int .i64 0, .int .i64 0, .int .i64 0, .int .i64 0, .slice none 0 0], obj n 102 [.int .i64 0, .int .i64 0, .int .i64 0, .int .i64 0, .int .i64 0, .int .i64 0, .int .i64 0, .int .i64 0, .int .i64 0, .int .i64 0, .slice none 0 0], Row 5 1 a.2.1 d.1.length a.2.2 (ax d.1), F]) O O O O O O call101 (.sel 0 O (.sel 0 O (.sel 0 O (.sel 0 O (.sel 0 O (.nil _)))))) (bG.calls _ _ k a.1 a.2.1 a.2.2 d.1 ab.2.1 ab.2.2 (b5.lend 2 O) b6 b7) b4) O O O ?_
 intro g8
 refine vm O O ?_
 refine aw (fun u b8 => ?_)
 refine bd 3 O (fun b9 cd ch fn => ?_)
 refine ah (av (vs := [.pointer (some ⟨a.1, 0, none⟩)]) (cap := []) (A := [obj a.1 180 [.slice a.2.1 d.1.length a.2.2, .int .i64 ad.2.1, .int .i64 ad.2.2]]) (rst := [obj g 102 [.int .i64 h.1, .int .i64 l.2.2, .int .i64 0, .int .i64 0, .int .i64 0, .int .i64 0, .int .i64 0, .int .i64 0, .int .i64 0, .int .i64 0, .slice none 0 0], obj n 102 [.int .i64 0, .int .i64 0, .int .i64 0, .int .i64 0, .int .i64 0, .int .i64 0, .int .i64 0, .int .i64 0, .int .i64 0, .int .i64 0, .slice none 0 0], Row 5 1 a.2.1 d.1.length a.2.2 (ax d.1), F]) O O O O O O call101 (.sel 0 O (.sel 0 O (.sel 0 O (.sel 0 O (.sel 0 O (.nil _)))))) (bG.calls _ _ k a.1 a.2.1 a.2.2 d.1 ad.2.1 ad.2.2 (b9.lend 2 O) cd ch) b8) O O O ?_
 intro g9
 refine vq (cx (v := .agg #[.int .i64 ab.1, .int .i64 ad.1, .int .i64 u.1]) O O (fun _ => by kernel_rfl)) O ?_
 refine vq (ar O O underlying102 O O sizeOf43 O) O ?_
 refine aU (aH 1 O O O sizeOf43 O O (aM (by rfl)) O O) O O ?_
 intro _
 refine bR (H' := [obj a.1 180 [.slice a.2.1 d.1.length a.2.2, .int .i64 u.2.1, .int .i64 u.2.2], obj g 102 [.int .i64 h.1, .int .i64 l.2.2, .int .i64 ab.1, .int .i64 ad.1, .int .i64 u.1, .int .i64 0, .int .i64 0, .int .i64 0, .int .i64 0, .int .i64 0, .slice none 0 0], obj n 102 [.int .i64 0, .int .i64 0, .int .i64 0, .int .i64 0, .int .i64 0, .int .i64 0, .int .i64 0, .int .i64 0, .int .i64 0, .int .i64 0, .slice none 0 0], Row 5 1 a.2.1 d.1.length a.2.2 (ax d.1), F]) (Ent.refl _) ?_
 refine ny ?_
 refine vq (cx (v := .agg #[]) O O (fun _ => by kernel_rfl)) O ?_
 refine vq (ar O O underlying102 O O sizeOf43 O) O ?_
 refine vq (cf (vs := [.int .i64 ab.1, .int .i64 ad.1, .int .i64 u.1]) O O isAgg43 sizeOf43 O (cM 1 O (cz O))) O ?_
 refine aw (fun ek cs => ?_)
 refine ah (av (vs := [.agg #[], .agg #[.int .i64 ab.1, .int .i64 ad.1, .int .i64 u.1]]) (cap := []) (A := []) (rst := [obj a.1 180 [.slice a.2.1 d.1.length a.2.2, .int .i64 u.2.1, .int .i64 u.2.2], obj g 102 [.int .i64 h.1, .int .i64 l.2.2, .int .i64 ab.1, .int .i64 ad.1, .int .i64 u.1, .int .i64 0, .int .i64 0, .int .i64 0, .int .i64 0, .int .i64 0, .slice none 0 0], obj n 102 [.int .i64 0, .int .i64 0, .int .i64 0, .int .i64 0, .int .i64 0, .int .i64 0, .int .i64 0, .int .i64 0, .int .i64 0, .int .i64 0, .slice none 0 0], Row 5 1 a.2.1 d.1.length a.2.2 (ax d.1), F]) O O O O O O call78 (.sel 0 O (.sel 0 O (.sel 0 O (.sel 0 O (.sel 0 O (.nil _)))))) (cR.calls _ _ ab.1 ad.1 u.1 ) cs) O O O ?_
 intro ha
 refine vq (bI O O O) O ?_
 refine va O O (ae ?_)
 exact aF (s := (decide (ek = (0 : Int)), u.2.1, u.2.2, ab.1, ad.1, u.1)) () ⟨O, O, O, O, trivial⟩ (.sel 0 O (.sel 0 O (.sel 0 O (.sel 0 O (.sel 0 O (.nil _))))))
 refine aC ?_
 exact aF (s := (decide (h.1 ≤ (3 : Int)), l.1, l.2.1, 0, 0, 0)) () ⟨O, O, O, O, trivial⟩ (.sel 0 O (.sel 0 O (.sel 0 O (.sel 0 O (.sel 0 O (.nil _))))))
 intro e hb
 refine bE (S := Bool × Int × Int × Int × Int) (Unit) (fun s y => [(2, .pointer (some ⟨n, 0, none⟩)), (4, .pointer (some ⟨a.1, 0, none⟩)), (5, .pointer (some ⟨g, 0, none⟩)), (6, .bool s.1)]) (fun s y => [obj a.1 180 [.slice a.2.1 d.1.length a.2.2, .int .i64 s.2.1, .int .i64 s.2.2.1], obj g 102 [.int .i64 h.1, .int .i64 l.2.2, .int .i64 e.2.2.2.1, .int .i64 e.2.2.2.2.1, .int .i64 e.2.2.2.2.2, .int .i64 s.2.2.2.1, .int .i64 s.2.2.2.2, .int .i64 0, .int .i64 0, .int .i64 0, .slice none 0 0], obj n 102 [.int .i64 0, .int .i64 0, .int .i64 0, .int .i64 0, .int .i64 0, .int .i64 0, .int .i64 0, .int .i64 0, .int .i64 0, .int .i64 0, .slice none 0 0], Row 5 1 a.2.1 d.1.length a.2.2 (ax d.1), F]) ?_ ?_
 refine sr ?_
 refine vq (ar O O underlying102 O O sizeOf3 O) O ?_
 refine vq (ag O O isAgg3 (.obj 1 O O)) O ?_
 refine vq (bI O O O) O ?_
 refine vm O O ?_
 refine au (b := decide (h.1 = (0 : Int))) (fun fp => RQ.sub (E' := [(5, .pointer (some ⟨g, 0, none⟩))]) ⟨O, trivial⟩ (ar O O underlying102 O O sizeOf3 O)) O O O O O ?_
 refine au (b := decide (h.1 = (0 : Int))) (fun c1 => RQ.sub (E' := [(48, .pointer (some ⟨g, 0, none⟩))]) ⟨aE O c1, trivial⟩ (ag O O isAgg3 (.obj 1 O O))) O O O O O ?_
 refine au (b := decide (h.1 = (0 : Int))) (fun c2 => RQ.sub (E' := [(49, .int .i64 h.1)]) ⟨aE O c2, trivial⟩ (bI O O O)) O O O O O ?_
 refine vq (ex O O O) O (ae (aa ?_))
 refine aY O (fun hc => ?_) (fun he => ?_)
 refine sr ?_
 refine vm O O ?_
 refine aw (fun w c3 => ?_)
 refine bd 3 O (fun c4 c5 c6 fr => ?_)
 refine ah (av (vs := [.pointer (some ⟨a.1, 0, none⟩)]) (cap := []) (A := [obj a.1 180 [.slice a.2.1 d.1.length a.2.2, .int .i64 e.2.1, .int .i64 e.2.2.1]]) (rst := [obj g 102 [.int .i64 h.1, .int .i64 l.2.2, .int .i64 e.2.2.2.1, .int .i64 e.2.2.2.2.1, .int .i64 e.2.2.2.2.2, .int .i64 0, .int .i64 0, .int .i64 0, .int .i64 0, .int .i64 0, .slice none 0 0], obj n 102 [.int .i64 0, .int .i64 0, .int .i64 0, .int .i64 0, .int .i64 0, .int .i64 0, .int .i64 0, .int .i64 0, .int .i64 0, .int .i64 0, .slice none 0 0], Row 5 1 a.2.1 d.1.length a.2.2 (ax d.1), F]) O O O O O O call101 (.sel 0 O (.sel 0 O (.sel 0 O (.sel 0 O (.sel 0 O (.nil _)))))) (bG.calls _ _ k a.1 a.2.1 a.2.2 d.1 e.2.1 e.2.2.1 (c4.lend 2 O) c5 c6) c3) O O O ?_
 intro hf
 refine vm O O ?_
 refine aw (fun t c7 => ?_)
 refine bd 3 O (fun c8 c9 dl fs => ?_)
 refine ah (av (vs := [.pointer (some ⟨a.1, 0, none⟩)]) (cap := []) (A := [obj a.1 180 [.slice a.2.1 d.1.length a.2.2, .int .i64 w.2.1, .int .i64 w.2.2]]) (rst := [obj g 102 [.int .i64 h.1, .int .i64 l.2.2, .int .i64 e.2.2.2.1, .int .i64 e.2.2.2.2.1, .int .i64 e.2.2.2.2.2, .int .i64 0, .int .i64 0, .int .i64 0, .int .i64 0, .int .i64 0, .slice none 0 0], obj n 102 [.int .i64 0, .int .i64 0, .int .i64 0, .int .i64 0, .int .i64 0, .int .i64 0, .int .i64 0, .int .i64 0, .int .i64 0, .int .i64 0, .slice none 0 0], Row 5 1 a.2.1 d.1.length a.2.2 (ax d.1), F]) O O O O O O call101 (.sel 0 O (.sel 0 O (.sel 0 O (.sel 0 O (.sel 0 O (.nil _)))))) (bG.calls _ _ k a.1 a.2.1 a.2.2 d.1 w.2.1 w.2.2 (c8.lend 2 O) c9 dl) c7) O O O ?_
 intro hg
 refine vq (ar O O underlying102 O O sizeOf3 O) O ?_
 refine aU (aH 1 O O O sizeOf3 O O (aM (by rfl)) O O) O O ?_
 intro _
 refine bR (H' := [obj a.1 180 [.slice a.2.1 d.1.length a.2.2, .int .i64 t.2.1, .int .i64 t.2.2], obj g 102 [.int .i64 h.1, .int .i64 l.2.2, .int .i64 e.2.2.2.1, .int .i64 e.2.2.2.2.1, .int .i64 e.2.2.2.2.2, .int .i64 w.1, .int .i64 0, .int .i64 0, .int .i64 0, .int .i64 0, .slice none 0 0], obj n 102 [.int .i64 0, .int .i64 0, .int .i64 0, .int .i64 0, .int .i64 0, .int .i64 0, .int .i64 0, .int .i64 0, .int .i64 0, .int .i64 0, .slice none 0 0], Row 5 1 a.2.1 d.1.length a.2.2 (ax d.1), F]) (Ent.refl _) ?_
 refine vq (ar O O underlying102 O O sizeOf3 O) O ?_
 refine aU (aH 1 O O O sizeOf3 O O (aM (by rfl)) O O) O O ?_
 intro _
 refine bR (H' := [obj a.1 180 [.slice a.2.1 d.1.length a.2.2, .int .i64 t.2.1, .int .i64 t.2.2], obj g 102 [.int .i64 h.1, .int .i64 l.2.2, .int .i64 e.2.2.2.1, .int .i64 e.2.2.2.2.1, .int .i64 e.2.2.2.2.2, .int .i64 w.1, .int .i64 t.1, .int .i64 0, .int .i64 0, .int .i64 0, .slice none 0 0], obj n 102 [.int .i64 0, .int .i64 0, .int .i64 0, .int .i64 0, .int .i64 0, .int .i64 0, .int .i64 0, .int .i64 0, .int .i64 0, .int .i64 0, .slice none 0 0], Row 5 1 a.2.1 d.1.length a.2.2 (ax d.1), F]) (Ent.refl _) ?_
 refine ny ?_
 refine vm O O ?_
 refine vm O O ?_
 refine dG 14 (S := Bool) (Unit) (fun s y => [(2, .pointer (some ⟨n, 0, none⟩)), (4, .pointer (some ⟨a.1, 0, none⟩)), (5, .pointer (some ⟨g, 0, none⟩)), (73, .bool s)]) (fun s y => [obj a.1 180 [.slice a.2.1 d.1.length a.2.2, .int .i64 t.2.1, .int .i64 t.2.2], obj g 102 [.int .i64 h.1, .int .i64 l.2.2, .int .i64 e.2.2.2.1, .int .i64 e.2.2.2.2.1, .int .i64 e.2.2.2.2.2, .int .i64 w.1, .int .i64 t.1, .int .i64 0, .int .i64 0, .int .i64 0, .slice none 0 0], obj n 102 [.int .i64 0, .int .i64 0, .int .i64 0, .int .i64 0, .int .i64 0, .int .i64 0, .int .i64 0, .int .i64 0, .int .i64 0, .int .i64 0, .slice none 0 0], Row 5 1 a.2.1 d.1.length a.2.2 (ax d.1), F]) ?_ ?_
 refine eS (fun ds => ?_) (fun d1 => ?_)
 rw [ds]
 refine aZ (ar O O underlying102 O O sizeOf3 O) O O O O O O ?_
 refine aZ (ag O O isAgg3 (.obj 1 O O)) O O O O O O ?_
 refine aZ (bI O O O) O O O O O O ?_
 refine aZ (ba O O) O O O O O O ?_
 refine dG 9 (S := Bool) (Unit) (fun s y => [(2, .pointer (some ⟨n, 0, none⟩)), (4, .pointer (some ⟨a.1, 0, none⟩)), (5, .pointer (some ⟨g, 0, none⟩)), (59, .bool true), (72, .bool s)]) (fun s y => [obj a.1 180 [.slice a.2.1 d.1.length a.2.2, .int .i64 t.2.1, .int .i64 t.2.2], obj g 102 [.int .i64 h.1, .int .i64 l.2.2, .int .i64 e.2.2.2.1, .int .i64 e.2.2.2.2.1, .int .i64 e.2.2.2.2.2, .int .i64 w.1, .int .i64 t.1, .int .i64 0, .int .i64 0, .int .i64 0, .slice none 0 0], obj n 102 [.int .i64 0, .int .i64 0, .int .i64 0, .int .i64 0, .int .i64 0, .int .i64 0, .int .i64 0, .int .i64 0, .int .i64 0, .int .i64 0, .slice none 0 0], Row 5 1 a.2.1 d.1.length a.2.2 (ax d.1), F]) ?_ ?_
 refine iV (fun d2 => ?_) (fun d3 => ?_)
 rw [d2]
 refine aO O O O O O O ?_
 refine aO O O O O O O ?_
 refine aO O O O O O O ?_
 refine aO O O O O O O ?_
 refine cO O O O O O ?_
 refine cO O O O O O ?_
 refine cO O O O O O ?_
 refine aO O O O O O O ?_
 refine aZ (bW O O O O O) O O O O O O ?_
 refine ae ?_
 exact aF (s := true) () ⟨O, O, O, O, O, trivial⟩ (.sel 0 O (.sel 0 O (.sel 0 O (.sel 0 O (.sel 0 O (.nil _))))))
 rw [d3]
 refine aZ (ar O O underlying102 O O sizeOf3 O) O O O O O O ?_
 refine aZ (ag O O isAgg3 (.obj 1 O O)) O O O O O O ?_
 refine aZ (cI O O O) O O O O O O ?_
 refine aZ (ba O O) O O O O O O ?_
 refine au (b := decide ((0 : Int) < w.1)) (fun fz => RQ.sub (E' := [(5, .pointer (some ⟨g, 0, none⟩))]) ⟨O, trivial⟩ (ar O O underlying102 O O sizeOf3 O)) O O O O O ?_
 refine au (b := decide ((0 : Int) < w.1)) (fun d4 => RQ.sub (E' := [(68, .pointer (some ⟨g, 6, none⟩))]) ⟨aE O d4, trivial⟩ (ag O O isAgg3 (.obj 1 O O))) O O O O O ?_
 refine au (b := decide ((0 : Int) < w.1)) (fun d5 => RQ.sub (E' := [(69, .int .i64 t.1)]) ⟨aE O d5, trivial⟩ (cI O O O)) O O O O O ?_
 refine aZ (db O O O) O O O O O O ?_
 refine aZ (bW O O O O O) O O O O O O ?_
 refine ae ?_
 exact aF (s := (decide ((0 : Int) < w.1)) && (decide ((0 : Int) < t.1))) () ⟨O, O, O, O, O, trivial⟩ (.sel 0 O (.sel 0 O (.sel 0 O (.sel 0 O (.sel 0 O (.nil _))))))
 intro el hh
 refine vq (bW O O O O O) O (ae ?_)
 exact aF (s := el) () ⟨O, O, O, O, trivial⟩ (.sel 0 O (.sel 0 O (.sel 0 O (.sel 0 O (.sel 0 O (.nil _))))))
 rw [d1]
 refine aO O O O O O O ?_
 refine aO O O O O O O ?_
 refine aO O O O O O O ?_
 refine aO O O O O O O ?_
 refine cO O O O O O ?_
 refine cO O O O O O ?_
 refine cO O O O O O ?_
 refine cO O O O O O ?_
 refine cO O O O O O ?_
 refine cO O O O O O ?_
 refine cO O O O O O ?_
 refine cO O O O O O ?_
 refine aO O O O O O O ?_
 refine vq (bW O O O O O) O (ae ?_)
 exact aF (s := false) () ⟨O, O, O, O, trivial⟩ (.sel 0 O (.sel 0 O (.sel 0 O (.sel 0 O (.sel 0 O (.nil _))))))
 intro em hi
 refine va O O (ae ?_)
 exact aF (s := (em, t.2.1, t.2.2, w.1, t.1)) () ⟨O, O, O, O, trivial⟩ (.sel 0 O (.sel 0 O (.sel 0 O (.sel 0 O (.sel 0 O (.nil _))))))
 refine aC ?_
 exact aF (s := (e.1, e.2.1, e.2.2.1, 0, 0)) () ⟨O, O, O, O, trivial⟩ (.sel 0 O (.sel 0 O (.sel 0 O (.sel 0 O (.sel 0 O (.nil _))))))
 intro m hj
 refine bE (S := Bool × Int × Int × Int × Int × Int × List UInt8) (Option Addr × Nat) (fun s y => [(2, .pointer (some ⟨n, 0, none⟩)), (4, .pointer (some ⟨a.1, 0, none⟩)), (5, .pointer (some ⟨g, 0, none⟩)), (6, .bool s.1)]) (fun s y => [obj a.1 180 [.slice a.2.1 d.1.length a.2.2, .int .i64 s.2.1, .int .i64 s.2.2.1], obj g 102 [.int .i64 h.1, .int .i64 l.2.2, .int .i64 e.2.2.2.1, .int .i64 e.2.2.2.2.1, .int .i64 e.2.2.2.2.2, .int .i64 m.2.2.2.1, .int .i64 m.2.2.2.2, .int .i64 s.2.2.2.1, .int .i64 s.2.2.2.2.1, .int .i64 s.2.2.2.2.2.1, .slice y.1 s.2.2.2.2.2.2.length y.2], obj n 102 [.int .i64 0, .int .i64 0, .int .i64 0, .int .i64 0, .int .i64 0, .int .i64 0, .int .i64 0, .int .i64 0, .int .i64 0, .int .i64 0, .slice none 0 0], Row 5 1 a.2.1 d.1.length a.2.2 (ax d.1), Row 5 1 y.1 s.2.2.2.2.2.2.length y.2 (ax s.2.2.2.2.2.2), F]) ?_ ?_
 refine sr ?_
 refine vq (ar O O underlying102 O O sizeOf3 O) O ?_
 refine vq (ag O O isAgg3 (.obj 1 O O)) O ?_
 refine vq (bI O O O) O (ae (aa ?_))
 refine bf O (fun hk => ?_) (fun hl => ?_)
 refine sr ?_
 refine vq (cx (v := .agg #[]) O O (fun _ => by kernel_rfl)) O ?_
 refine vm O O ?_
 refine aw (fun x d6 => ?_)
 refine bd 3 O (fun d7 d8 d9 go => ?_)
 refine ah (av (vs := [.pointer (some ⟨a.1, 0, none⟩), .int .i64 8192]) (cap := []) (A := [obj a.1 180 [.slice a.2.1 d.1.length a.2.2, .int .i64 m.2.1, .int .i64 m.2.2.1]]) (rst := [obj g 102 [.int .i64 h.1, .int .i64 l.2.2, .int .i64 e.2.2.2.1, .int .i64 e.2.2.2.2.1, .int .i64 e.2.2.2.2.2, .int .i64 m.2.2.2.1, .int .i64 m.2.2.2.2, .int .i64 0, .int .i64 0, .int .i64 0, .slice none 0 0], obj n 102 [.int .i64 0, .int .i64 0, .int .i64 0, .int .i64 0, .int .i64 0, .int .i64 0, .int .i64 0, .int .i64 0, .int .i64 0, .int .i64 0, .slice none 0 0], Row 5 1 a.2.1 d.1.length a.2.2 (ax d.1), F]) O O O O O O call103 (.sel 0 O (.sel 0 O (.sel 0 O (.sel 0 O (.sel 0 O (.nil _)))))) (dO.calls _ _ k a.1 a.2.1 a.2.2 d.1 m.2.1 m.2.2.1 (8192 : Int) (d7.lend 2 O) d8 d9) d6) O O O ?_
 intro al
 refine aw (fun q az => ?_)
 refine bd 0 O (fun ea eb a1 et => ?_)
 refine ah (av (vs := [.agg #[], .slice al.1 x.1.length al.2]) (cap := []) (A := []) (rst := [Row 5 1 al.1 x.1.length al.2 (ax x.1), obj a.1 180 [.slice a.2.1 d.1.length a.2.2, .int .i64 x.2.1, .int .i64 x.2.2], obj g 102 [.int .i64 h.1, .int .i64 l.2.2, .int .i64 e.2.2.2.1, .int .i64 e.2.2.2.2.1, .int .i64 e.2.2.2.2.2, .int .i64 m.2.2.2.1, .int .i64 m.2.2.2.2, .int .i64 0, .int .i64 0, .int .i64 0, .slice none 0 0], obj n 102 [.int .i64 0, .int .i64 0, .int .i64 0, .int .i64 0, .int .i64 0, .int .i64 0, .int .i64 0, .int .i64 0, .int .i64 0, .int .i64 0, .slice none 0 0], Row 5 1 a.2.1 d.1.length a.2.2 (ax d.1), F]) O O O O O O call102 (.sel 0 O (.sel 0 O (.sel 0 O (.sel 0 O (.sel 0 O (.sel 0 O (.nil _))))))) (eN.calls _ _ k al.1 al.2 x.1 (ea.lend 0 O) eb a1) az) O O O ?_
 intro af
 refine vm O O ?_
 refine vq (bu O O O) O ?_
 refine vq (bu O O O) O ?_
 refine ah (bL O zeroValue35 O) O O O ?_
 intro ec
 refine aU (aH 0 O O O sizeOf35 O O (aM (by rfl)) O O) O O ?_
 intro _
 refine va O O (ny ?_)
 refine vq (bU 0 O O isAgg35 sizeOf35 O O) O ?_
 refine vm O O ?_
 refine vq (bI O O O) O ?_
 refine vq (ar O O underlying102 O O sizeOf35 O) O ?_
 refine aU (aH 4 O O O sizeOf35 O O (aM (by rfl)) O O) O O ?_
 intro _
 refine bR (H' := [obj ec 35 [.int .i64 q.1, .int .i64 q.2.1, .int .i64 q.2.2.1, .slice af.1 q.2.2.2.1.length af.2], Row 5 1 af.1 q.2.2.2.1.length af.2 (ax q.2.2.2.1), Row 5 1 al.1 x.1.length al.2 (ax x.1), obj a.1 180 [.slice a.2.1 d.1.length a.2.2, .int .i64 x.2.1, .int .i64 x.2.2], obj g 102 [.int .i64 h.1, .int .i64 l.2.2, .int .i64 e.2.2.2.1, .int .i64 e.2.2.2.2.1, .int .i64 e.2.2.2.2.2, .int .i64 m.2.2.2.1, .int .i64 m.2.2.2.2, .int .i64 q.1, .int .i64 q.2.1, .int .i64 q.2.2.1, .slice af.1 q.2.2.2.1.length af.2], obj n 102 [.int .i64 0, .int .i64 0, .int .i64 0, .int .i64 0, .int .i64 0, .int .i64 0, .int .i64 0, .int .i64 0, .int .i64 0, .int .i64 0, .slice none 0 0], Row 5 1 a.2.1 d.1.length a.2.2 (ax d.1), F]) (Ent.refl _) ?_
 refine va O O (ae ?_)
 exact aF (s := (decide (q.2.2.2.2 = (0 : Int)), x.2.1, x.2.2, q.1, q.2.1, q.2.2.1, q.2.2.2.1)) (af.1, af.2) ⟨O, O, O, O, trivial⟩ (.sel 3 O (.sel 3 O (.sel 3 O (.sel 3 O (.sel 1 O (.sel 2 O (.nil _)))))))
 refine aC ?_
 exact aF (s := (m.1, m.2.1, m.2.2.1, 0, 0, 0, ([] : List UInt8))) (none, 0) ⟨O, O, O, O, trivial⟩ (.sel 0 O (.sel 0 O (.sel 0 O (.sel 0 O (.row_nil (.sel 0 O (.nil _)))))))
 intro c p
 refine ay ?_
 refine il 3 O (fun e0 e1 e2 e3 => ?_)
 refine il 3 O (fun a2 a3 a4 e4 => ?_)
 refine bb (Γ := Unit) () [[], [], [1], [1, 2], [1, 2, 3], [1, 2, 3, 4], [1, 2, 3, 4, 5], rL 5, rL 8] [7] [0, 1, 2, 3, 4, 5, 6, 8] (fun i => [[0], [0], [0], [0], [0], [0, 1], [0, 1], [], [1]].getD i []) (fun i => [[], [], [], [], [], [], [], rL 7, []].getD i []) (fun γ i => [.agg #[.int .i64 h.1, .int .i64 l.2.2, .int .i64 e.2.2.2.1, .int .i64 e.2.2.2.2.1, .int .i64 e.2.2.2.2.2, .int .i64 m.2.2.2.1, .int .i64 m.2.2.2.2, .int .i64 c.2.2.2.1, .int .i64 c.2.2.2.2.1, .int .i64 c.2.2.2.2.2.1, .slice p.1 c.2.2.2.2.2.2.length p.2], .bool c.1, .bool c.1, cv (c.1 == true) (.pointer (some ⟨a.1, 0, none⟩)), cv (c.1 == true) (.int .i64 (bk.v d.1 c.2.1 c.2.2.1)), cv (c.1 == true) (.bool (decide ((bk.v d.1 c.2.1 c.2.2.1) = (0 : Int)))), .bool (c.1 && (decide ((bk.v d.1 c.2.1 c.2.2.1) = (0 : Int)))), undef, .bool (c.1 && (decide ((bk.v d.1 c.2.1 c.2.2.1) = (0 : Int))))].getD i undef) (fun j γ => [[obj a.1 180 [.slice a.2.1 d.1.length a.2.2, .int .i64 c.2.1, .int .i64 c.2.2.1], obj g 102 [.int .i64 h.1, .int .i64 l.2.2, .int .i64 e.2.2.2.1, .int .i64 e.2.2.2.2.1, .int .i64 e.2.2.2.2.2, .int .i64 m.2.2.2.1, .int .i64 m.2.2.2.2, .int .i64 c.2.2.2.1, .int .i64 c.2.2.2.2.1, .int .i64 c.2.2.2.2.2.1, .slice p.1 c.2.2.2.2.2.2.length p.2], obj n 102 [.int .i64 0, .int .i64 0, .int .i64 0, .int .i64 0, .int .i64 0, .int .i64 0, .int .i64 0, .int .i64 0, .int .i64 0, .int .i64 0, .slice none 0 0], Row 5 1 a.2.1 d.1.length a.2.2 (ax d.1), Row 5 1 p.1 c.2.2.2.2.2.2.length p.2 (ax c.2.2.2.2.2.2), F], [obj a.1 180 [.slice a.2.1 d.1.length a.2.2, .int .i64 c.2.1, .int .i64 c.2.2.1], obj g 102 [.int .i64 h.1, .int .i64 l.2.2, .int .i64 e.2.2.2.1, .int .i64 e.2.2.2.2.1, .int .i64 e.2.2.2.2.2, .int .i64 m.2.2.2.1, .int .i64 m.2.2.2.2, .int .i64 c.2.2.2.1, .int .i64 c.2.2.2.2.1, .int .i64 c.2.2.2.2.2.1, .slice p.1 c.2.2.2.2.2.2.length p.2], obj n 102 [.int .i64 h.1, .int .i64 l.2.2, .int .i64 e.2.2.2.1, .int .i64 e.2.2.2.2.1, .int .i64 e.2.2.2.2.2, .int .i64 m.2.2.2.1, .int .i64 m.2.2.2.2, .int .i64 c.2.2.2.1, .int .i64 c.2.2.2.2.1, .int .i64 c.2.2.2.2.2.1, .slice p.1 c.2.2.2.2.2.2.length p.2], Row 5 1 a.2.1 d.1.length a.2.2 (ax d.1), Row 5 1 p.1 c.2.2.2.2.2.2.length p.2 (ax c.2.2.2.2.2.2), F]].getD j []) (fun γ => [(2, .pointer (some ⟨n, 0, none⟩)), (3, .bool (c.1 && (decide ((bk.v d.1 c.2.1 c.2.2.1) = (0 : Int)))))]) mixed (by decide) (by decide) (by decide) (by decide) (by decide) (by decide) (by decide) 95 O (by decide) (by decide) (by decide) (Ent.refl _) ?_ ?_ (fun _ => ⟨O, O, trivial⟩) ?_
 exact (aq O (fun γ => qp O O (.o (s := 5) O (by decide) .nil) (bU 1 O O isAgg102 sizeOf102 O O) O) (aq O (fun γ => qm O (.o (s := 6) O (by decide) .nil) O) (aq O (fun γ => qm O (.v 1 O O .nil) O) (aq O (fun γ => QOb.grd (b := c.1) [(4, .pointer (some ⟨a.1, 0, none⟩)), (90, .bool c.1)] O O O O (.o (s := 4) O (by decide) (.v 2 O O .nil)) (fun e5 => RQ.sub (E' := [(4, .pointer (some ⟨a.1, 0, none⟩))]) ⟨O, trivial⟩ (ba O O)) O) (aq O (fun γ => QOb.grd (b := c.1) [(90, .bool c.1), (91, cv (c.1 == true) (.pointer (some ⟨a.1, 0, none⟩)))] O O O O (.v 2 O O (.v 3 O O .nil)) (fun a5 => RQ.sub (E' := [(91, .pointer (some ⟨a.1, 0, none⟩))]) ⟨aE O a5, trivial⟩ (RE.rq (av (vs := [.pointer (some ⟨a.1, 0, none⟩)]) (cap := []) (A := [obj a.1 180 [.slice a.2.1 d.1.length a.2.2, .int .i64 c.2.1, .int .i64 c.2.2.1]]) (rst := [obj g 102 [.int .i64 h.1, .int .i64 l.2.2, .int .i64 e.2.2.2.1, .int .i64 e.2.2.2.2.1, .int .i64 e.2.2.2.2.2, .int .i64 m.2.2.2.1, .int .i64 m.2.2.2.2, .int .i64 c.2.2.2.1, .int .i64 c.2.2.2.2.1, .int .i64 c.2.2.2.2.2.1, .slice p.1 c.2.2.2.2.2.2.length p.2], obj n 102 [.int .i64 0, .int .i64 0, .int .i64 0, .int .i64 0, .int .i64 0, .int .i64 0, .int .i64 0, .int .i64 0, .int .i64 0, .int .i64 0, .slice none 0 0], Row 5 1 a.2.1 d.1.length a.2.2 (ax d.1), Row 5 1 p.1 c.2.2.2.2.2.2.length p.2 (ax c.2.2.2.2.2.2), F]) O O O O O O call104 (.sel 0 O (.sel 0 O (.sel 0 O (.sel 0 O (.sel 0 O (.sel 0 O (.nil _))))))) (bk.calls _ _ a.1 a.2.1 a.2.2 d.1 c.2.1 c.2.2.1 (a2.lend 2 O) a3 a4) (bk.tot d.1 c.2.1 c.2.2.1)) (fun _ => O) (fun _ => (.sel 0 O (.sel 0 O (.sel 0 O (.sel 0 O (.sel 0 O (.sel 0 O (.nil _)))))))))) O) (ac (fun γ => (ac (QOb.grd (b := c.1) [(90, .bool c.1), (92, cv (c.1 == true) (.int .i64 (bk.v d.1 c.2.1 c.2.2.1)))] O O O O (.v 2 O O (.v 4 O O .nil)) (fun a6 => RQ.sub (E' := [(92, .int .i64 (bk.v d.1 c.2.1 c.2.2.1))]) ⟨aE O a6, trivial⟩ (bI O O O)) O) (ac (QOb.grd (b := c.1) [(90, .bool c.1), (92, cv (c.1 == true) (.int .i64 (bk.v d.1 c.2.1 c.2.2.1)))] O O O O (.v 2 O O (.v 4 O O .nil)) (fun a7 => RQ.sub (E' := [(92, .int .i64 (bk.v d.1 c.2.1 c.2.2.1))]) ⟨aE O a7, trivial⟩ (bI O O O)) O) zA))) (ac (fun γ => (ac (qp O O (.v 2 O O (.v 5 O O .nil)) (db O O O) O) (ac (qp O O (.v 2 O O (.v 5 O O .nil)) (db O O O) O) zA))) (aq O (fun γ => qp O O (.v 6 O O .nil) (ci O O) O) zA))))))))
 exact (ac (fun γ => eo (Z := Unit) (fun z => ()) O O (.o (s := 2) O (by decide) (.v 0 O O .nil)) (aH 2 O O O sizeOf102 O O (aM (by rfl)) O O) (fun _ => ⟨O, O, O, O, O, O, O, trivial⟩) (fun _ => .inl O) (fun z => Ent.refl _)) zA)
 intro gs
 refine aa (aA ?_)
 exact gG (vs := [.agg #[.int .i64 h.1, .int .i64 l.2.2, .int .i64 e.2.2.2.1, .int .i64 e.2.2.2.2.1, .int .i64 e.2.2.2.2.2, .int .i64 m.2.2.2.1, .int .i64 m.2.2.2.2, .int .i64 c.2.2.2.1, .int .i64 c.2.2.2.2.1, .int .i64 c.2.2.2.2.2.1, .slice p.1 c.2.2.2.2.2.2.length p.2], .bool (c.1 && (decide ((bk.v d.1 c.2.1 c.2.2.1) = (0 : Int))))]) (p.1, p.2) O ⟨⟨n, O, fX 2 isAgg102 sizeOf102 O O⟩, O, trivial⟩ O (.sel 4 O (.sel 4 O (.nil _)))

def gd.f (h : Int) (i : Int) (j : Int) (a : Int) (b : Int) (k : List (aG)) (l : Int) (m : Int) (c : Int) (d : Int) (e : Int) (n : Int) (o : Int) (p : Int) (q : Int) (r : Int) (g : List UInt8) (x2 : Int) : Option (Bool × Int × Int × Int × Int × Int) := some (true, c, d, e, a, b)
theorem gd.calls (W : World) (F : HA) (b0 : Nat) (u : Int) (v : Int) (w : Int) (k : Int) (l : Int) (i : Option Addr) (d : Nat) (b : List (aG)) (m : Int) (n : Int) (e : Int) (g : Int) (h : Int) (o : Int) (p : Int) (q : Int) (s : Int) (t : Int) (j : Option Addr) (c : Nat) (a : List UInt8) (x2 : Int) (an : RdV F 5 (aQ F) i b) (ad : b.length ≤ d) (af : d ≤ maxLen) (al : Rd F j (ax a)) (x : a.length ≤ c) (z : c ≤ maxLen) :
    Fn Tryz.prog W 112 [.pointer (some ⟨b0, 0, none⟩), .agg #[.int .i64 m, .int .i64 n, .int .i64 e, .int .i64 g, .int .i64 h, .int .i64 o, .int .i64 p, .int .i64 q, .int .i64 s, .int .i64 t, .slice j a.length c], .int .i64 x2] [obj b0 89 [.int .i64 u, .int .i64 v, .int .i64 w, .int .i64 k, .int .i64 l, .slice i b.length d]] F (gd.f u v w k l b m n e g h o p q s t a x2) (fun (r : Bool × Int × Int × Int × Int × Int) (y : Unit) => .bool r.1) (fun r y => [obj b0 89 [.int .i64 r.2.1, .int .i64 r.2.2.1, .int .i64 r.2.2.2.1, .int .i64 r.2.2.2.2.1, .int .i64 r.2.2.2.2.2, .slice i b.length d]]) := by
 unfold gd.f
 refine aN 12 Tryz.func112 O Tryz.ntmps112 O ?_
 refine sr ?_
 refine ah (cy O O O) O O O ?_
 intro ab
 refine va O O (nx ?_)
 refine vm O O ?_
 refine vq (ar O O underlying102 O O sizeOf43 O) O ?_
 refine vq (cf (vs := [.int .i64 e, .int .i64 g, .int .i64 h]) O O isAgg43 sizeOf43 O (cM 0 O (cz O))) O ?_
 refine vn O O ?_
 refine vq (ar O O underlying89 O O sizeOf43 O) O ?_
 refine aU (aH 1 O O O sizeOf43 O O (aM (by rfl)) O O) O O ?_
 intro _
 refine bR (H' := [obj ab 102 [.int .i64 m, .int .i64 n, .int .i64 e, .int .i64 g, .int .i64 h, .int .i64 o, .int .i64 p, .int .i64 q, .int .i64 s, .int .i64 t, .slice j a.length c], obj b0 89 [.int .i64 e, .int .i64 g, .int .i64 h, .int .i64 k, .int .i64 l, .slice i b.length d], F]) (Ent.refl _) ?_
 refine nx ?_
 refine va O O (ae (aa (aA ?_)))
 exact aD () O O O (.sel 1 O (.sel 1 O (.nil _)))

def gf.f (g : Int) (h : Int) (i : Int) (c : Int) (j : Int) (d : List (aG)) (m : Int) (n : Int) (o : Int) (p : Int) (q : Int) (r : Int) (s : Int) (k : Int) (a : Int) (l : Int) (e : List UInt8) (x2 : Int) : Option (Bool × Int × Int × Int × Int × Int × (List (aG))) := if IntKind.i64.wrap ((IntKind.i64.wrap (c + (d.length : Int))) + 1) < a then (some (false, g, h, i, c, j, d)) else ((if a ≤ c then (some (IntKind.i64.wrap (a - 1), 0, ([] : List (aG)))) else (some (c, j, d))).bind fun b => (if 0 ≤ (0 : Int) ∧ (0 : Int) ≤ IntKind.i64.wrap ((IntKind.i64.wrap (a - b.1)) - 1) ∧ IntKind.i64.wrap ((IntKind.i64.wrap (a - b.1)) - 1) ≤ (b.2.2.length : Int) then (if ((cut b.2.2 (0 : Int) (IntKind.i64.wrap ((IntKind.i64.wrap (a - b.1)) - 1))).length + ([(k, a, l, e, x2)] : List (aG)).length) * 56 ≤ 140737488355328 then (some (true, g, h, i, b.1, b.2.1, (cut b.2.2 (0 : Int) (IntKind.i64.wrap ((IntKind.i64.wrap (a - b.1)) - 1))) ++ ([(k, a, l, e, x2)] : List (aG)))) else none) else none))
theorem gf.calls (W : World) (F : HA) (b0 : Nat) (t : Int) (u : Int) (w : Int) (x : Int) (a3 : Int) (p : Option Addr) (q : Nat) (n : List (aG)) (m : HA) (af : Int) (al : Int) (an : Int) (az : Int) (a0 : Int) (a1 : Int) (a2 : Int) (c : Int) (a : Int) (d : Int) (g : Option Addr) (e : Nat) (b : List UInt8) (x2 : Int) (b4 : Rd m g (ax b)) (br : b.length ≤ e) (bs : e ≤ maxLen) :
    Fn Tryz.prog W 113 [.pointer (some ⟨b0, 0, none⟩), .agg #[.int .i64 af, .int .i64 al, .int .i64 an, .int .i64 az, .int .i64 a0, .int .i64 a1, .int .i64 a2, .int .i64 c, .int .i64 a, .int .i64 d, .slice g b.length e], .int .i64 x2] [obj b0 89 [.int .i64 t, .int .i64 u, .int .i64 w, .int .i64 x, .int .i64 a3, .slice p n.length q], ap 144 5 (aQ m) p n q, m] F (gf.f t u w x a3 n af al an az a0 a1 a2 c a d b x2) (fun (r : Bool × Int × Int × Int × Int × Int × (List (aG))) (y : Option Addr × Nat × HA) => .bool r.1) (fun r y => [pr (Up m y.2.2), obj b0 89 [.int .i64 r.2.1, .int .i64 r.2.2.1, .int .i64 r.2.2.2.1, .int .i64 r.2.2.2.2.1, .int .i64 r.2.2.2.2.2.1, .slice y.1 r.2.2.2.2.2.2.length y.2.1], ap 144 5 (aQ (y.2.2)) y.1 r.2.2.2.2.2.2 y.2.1, y.2.2]) := by
 unfold gf.f
 refine aN 64 Tryz.func113 O Tryz.ntmps113 O ?_
 refine sr ?_
 refine ah (cy O O O) O O O ?_
 intro a8
 refine va O O (nx ?_)
 refine vq (ar O O underlying102 O O sizeOf35 O) O ?_
 refine vq (cf (vs := [.int .i64 c, .int .i64 a, .int .i64 d, .slice g b.length e]) O O isAgg35 sizeOf35 O (cM 0 O (cz O))) O ?_
 refine ah (bL O zeroValue35 O) O O O ?_
 intro ab
 refine aU (aH 0 O O O sizeOf35 O O (aM (by rfl)) O O) O O ?_
 intro _
 refine ae (aa (ay (ay ?_)))
 refine bn 3 O (fun a6 bt => ?_)
 refine bb (Γ := Unit) () [[], [0], [], [2], [2, 3], [2, 3, 4], [], [6], [6, 7], [6, 7, 8], [6, 7, 8, 9], [2, 3, 4, 5, 6, 7, 8, 9, 10], [2, 3, 4, 5, 6, 7, 8, 9, 10, 11], rL 13] [] [0, 1, 2, 3, 4, 5, 6, 7, 8, 9, 10, 11, 12, 13] (fun i => [[0], [0], [0], [0], [0], [0], [0], [0], [0], [0], [0], [0], [0], [0]].getD i []) (fun i => [[], [], [], [], [], [], [], [], [], [], [], [], [], []].getD i []) (fun γ i => [.pointer (some ⟨ab, 1, none⟩), .int .i64 a, .pointer (some ⟨b0, 0, none⟩), .pointer (some ⟨b0, 0, none⟩), .pointer (some ⟨b0, 3, none⟩), .int .i64 x, .pointer (some ⟨b0, 0, none⟩), .pointer (some ⟨b0, 0, none⟩), .pointer (some ⟨b0, 5, none⟩), .slice p n.length q, .int .i64 (n.length : Int), .int .i64 (IntKind.i64.wrap (x + (n.length : Int))), .int .i64 (IntKind.i64.wrap ((IntKind.i64.wrap (x + (n.length : Int))) + 1)), .bool (decide (IntKind.i64.wrap ((IntKind.i64.wrap (x + (n.length : Int))) + 1) < a))].getD i undef) (fun j γ => [[obj ab 35 [.int .i64 c, .int .i64 a, .int .i64 d, .slice g b.length e], obj a8 102 [.int .i64 af, .int .i64 al, .int .i64 an, .int .i64 az, .int .i64 a0, .int .i64 a1, .int .i64 a2, .int .i64 c, .int .i64 a, .int .i64 d, .slice g b.length e], obj b0 89 [.int .i64 t, .int .i64 u, .int .i64 w, .int .i64 x, .int .i64 a3, .slice p n.length q], Row 144 5 p n.length q a6.flatten, m, F]].getD j []) (fun γ => [(0, .pointer (some ⟨b0, 0, none⟩)), (2, .int .i64 x2), (7, .pointer (some ⟨ab, 0, none⟩)), (23, .bool (decide (IntKind.i64.wrap ((IntKind.i64.wrap (x + (n.length : Int))) + 1) < a)))]) mixed (by decide) (by decide) (by decide) (by decide) (by decide) (by decide) (by decide) 64 O (by decide) (by decide) (by decide) (Ent.refl _) ?_ ?_ (fun _ => ⟨O, O, O, O, trivial⟩) ?_
 exact (aq O (fun γ => qp O O (.o (s := 7) O (by decide) .nil) (ar O O underlying35 O O sizeOf3 O) O) (aq O (fun γ => qp O O (.v 0 O O .nil) (ag O O isAgg3 (.obj 0 O O)) O) (aq O (fun γ => qm O (.o (s := 0) O (by decide) .nil) O) (aq O (fun γ => qp O O (.v 2 O O .nil) (aX O O) O) (aq O (fun γ => qp O O (.v 3 O O .nil) (ar O O underlying89 O O sizeOf3 O) O) (aq O (fun γ => qp O O (.v 4 O O .nil) (ag O O isAgg3 (.obj 2 O O)) O) (aq O (fun γ => qm O (.o (s := 0) O (by decide) .nil) O) (aq O (fun γ => qp O O (.v 6 O O .nil) (aX O O) O) (aq O (fun γ => qp O O (.v 7 O O .nil) (ar O O underlying89 O O sizeOf87 O) O) (aq O (fun γ => qp O O (.v 8 O O .nil) (ag O O isAgg87 (.obj 2 O O)) O) (aq O (fun γ => qp O O (.v 9 O O .nil) (bD O O O underlying87) O) (aq O (fun γ => qp O O (.v 5 O O (.v 10 O O .nil)) (cb O O O) O) (aq O (fun γ => qp O O (.v 11 O O .nil) (cb O O O) O) (aq O (fun γ => qp O O (.v 1 O O (.v 12 O O .nil)) (cI O O O) O) zA))))))))))))))
 exact zA
 intro c2
 refine aa ?_
 refine bf O (fun c3 => ?_) (fun c4 => ?_)
 refine sr ?_
 refine va O O (ae (aa (aA ?_)))
 refine aK ?_
 exact aD (p, q, m) O O O (.pr_in (Up.refl _) (.sel 2 O (.sel' 2 O (ap.mk bt) (.sel 2 O (.sel 2 O (.nil _))))))
 refine aC ?_
 refine aa ?_
 refine bE (S := Int × Int × (List (aG))) (Option Addr × Nat) (fun s y => [(0, .pointer (some ⟨b0, 0, none⟩)), (2, .int .i64 x2), (7, .pointer (some ⟨ab, 0, none⟩))]) (fun s y => [obj ab 35 [.int .i64 c, .int .i64 a, .int .i64 d, .slice g b.length e], obj b0 89 [.int .i64 t, .int .i64 u, .int .i64 w, .int .i64 s.1, .int .i64 s.2.1, .slice y.1 s.2.2.length y.2], ap 144 5 (aQ (m)) y.1 s.2.2 y.2, m, F]) ?_ ?_
 refine ay ?_
 refine bb (Γ := Unit) () [[], [0], [], [2], [2, 3], [2, 3, 4], rL 6] [] [0, 1, 2, 3, 4, 5, 6] (fun i => [[0], [0], [0], [0], [0], [0], [0]].getD i []) (fun i => [[], [], [], [], [], [], []].getD i []) (fun γ i => [.pointer (some ⟨ab, 1, none⟩), .int .i64 a, .pointer (some ⟨b0, 0, none⟩), .pointer (some ⟨b0, 0, none⟩), .pointer (some ⟨b0, 3, none⟩), .int .i64 x, .bool (decide (a ≤ x))].getD i undef) (fun j γ => [[obj ab 35 [.int .i64 c, .int .i64 a, .int .i64 d, .slice g b.length e], obj a8 102 [.int .i64 af, .int .i64 al, .int .i64 an, .int .i64 az, .int .i64 a0, .int .i64 a1, .int .i64 a2, .int .i64 c, .int .i64 a, .int .i64 d, .slice g b.length e], obj b0 89 [.int .i64 t, .int .i64 u, .int .i64 w, .int .i64 x, .int .i64 a3, .slice p n.length q], Row 144 5 p n.length q a6.flatten, m, F]].getD j []) (fun γ => [(0, .pointer (some ⟨b0, 0, none⟩)), (2, .int .i64 x2), (7, .pointer (some ⟨ab, 0, none⟩)), (30, .bool (decide (a ≤ x)))]) mixed (by decide) (by decide) (by decide) (by decide) (by decide) (by decide) (by decide) 64 O (by decide) (by decide) (by decide) (Ent.refl _) ?_ ?_ (fun _ => ⟨O, O, O, O, trivial⟩) ?_
 exact (aq O (fun γ => qp O O (.o (s := 7) O (by decide) .nil) (ar O O underlying35 O O sizeOf3 O) O) (aq O (fun γ => qp O O (.v 0 O O .nil) (ag O O isAgg3 (.obj 0 O O)) O) (aq O (fun γ => qm O (.o (s := 0) O (by decide) .nil) O) (aq O (fun γ => qp O O (.v 2 O O .nil) (aX O O) O) (aq O (fun γ => qp O O (.v 3 O O .nil) (ar O O underlying89 O O sizeOf3 O) O) (aq O (fun γ => qp O O (.v 4 O O .nil) (ag O O isAgg3 (.obj 2 O O)) O) (aq O (fun γ => qp O O (.v 1 O O (.v 5 O O .nil)) (iQ O O O) O) zA)))))))
 exact zA
 intro cs
 refine aa ?_
 refine bf O (fun c0 => ?_) (fun c1 => ?_)
 refine aJ ?_
 refine vm O O ?_
 refine vm O O ?_
 refine vm O O ?_
 refine vq (ar O O underlying35 O O sizeOf3 O) O ?_
 refine vq (ag O O isAgg3 (.obj 0 O O)) O ?_
 refine vq (dc O O O) O ?_
 refine vn O O ?_
 refine vq (ar O O underlying89 O O sizeOf3 O) O ?_
 refine aU (aH 2 O O O sizeOf3 O O (aM (by rfl)) O O) O O ?_
 intro _
 refine bR (H' := [obj ab 35 [.int .i64 c, .int .i64 a, .int .i64 d, .slice g b.length e], obj a8 102 [.int .i64 af, .int .i64 al, .int .i64 an, .int .i64 az, .int .i64 a0, .int .i64 a1, .int .i64 a2, .int .i64 c, .int .i64 a, .int .i64 d, .slice g b.length e], obj b0 89 [.int .i64 t, .int .i64 u, .int .i64 w, .int .i64 (IntKind.i64.wrap (a - 1)), .int .i64 a3, .slice p n.length q], Row 144 5 p n.length q a6.flatten, m, F]) (Ent.refl _) ?_
 refine vn O O ?_
 refine vq (ar O O underlying89 O O sizeOf3 O) O ?_
 refine aU (aH 2 O O O sizeOf3 O O (aM (by rfl)) O O) O O ?_
 intro _
 refine bR (H' := [obj ab 35 [.int .i64 c, .int .i64 a, .int .i64 d, .slice g b.length e], obj a8 102 [.int .i64 af, .int .i64 al, .int .i64 an, .int .i64 az, .int .i64 a0, .int .i64 a1, .int .i64 a2, .int .i64 c, .int .i64 a, .int .i64 d, .slice g b.length e], obj b0 89 [.int .i64 t, .int .i64 u, .int .i64 w, .int .i64 (IntKind.i64.wrap (a - 1)), .int .i64 0, .slice p n.length q], Row 144 5 p n.length q a6.flatten, m, F]) (Ent.refl _) ?_
 refine vn O O ?_
 refine vq (ar O O underlying89 O O sizeOf87 O) O ?_
 refine aU (aH 2 O O O sizeOf87 O O (aM (by rfl)) O O) O O ?_
 intro _
 refine bR (H' := [obj ab 35 [.int .i64 c, .int .i64 a, .int .i64 d, .slice g b.length e], obj a8 102 [.int .i64 af, .int .i64 al, .int .i64 an, .int .i64 az, .int .i64 a0, .int .i64 a1, .int .i64 a2, .int .i64 c, .int .i64 a, .int .i64 d, .slice g b.length e], obj b0 89 [.int .i64 t, .int .i64 u, .int .i64 w, .int .i64 (IntKind.i64.wrap (a - 1)), .int .i64 0, .slice none 0 0], Row 144 5 p n.length q a6.flatten, m, F]) (Ent.refl _) ?_
 refine ae ?_
 exact aF (s := (IntKind.i64.wrap (a - 1), 0, ([] : List (aG)))) (none, 0) ⟨O, O, O, trivial⟩ (.sel 0 O (.sel 1 O (.rowV_nil (.sel 2 O (.sel 2 O (.nil _))))))
 refine aC ?_
 exact aF (s := (x, a3, n)) (p, q) ⟨O, O, O, trivial⟩ (.sel 0 O (.sel 1 O (.sel' 1 O (ap.mk bt) (.sel 1 O (.sel 1 O (.nil _))))))
 intro k ad
 refine ay ?_
 refine bn 2 O (fun bc be => ?_)
 refine il 2 O (fun b5 a4 b7 b8 => ?_)
 refine cU (fun a5 => ?_)
 obtain ⟨b1, b2, a7, b9, cd, ch⟩ := jZ (lo := (0 : Int)) (hi := IntKind.i64.wrap ((IntKind.i64.wrap (a - k.1)) - 1)) (Rd.asV be b5) a4 a5
 have a9 : bx 5 (aQ (m)) ([(c, a, d, b, x2)] : List (aG)) [[.int .i64 c, .int .i64 a, .int .i64 d, .slice g b.length e, .int .i64 x2]] := ⟨⟨rfl, aM (by rfl), ⟨g, e, rfl, ⟨b4, br, bs⟩⟩⟩, trivial⟩
 refine cU (fun b6 => ?_)
 refine bb (Γ := Nat × (Option Addr × Nat)) (0, (none, 0)) [[], [], [1], [1, 2], [1, 2, 3], [], [5], [], [7], [7, 8], [7, 8, 9], [5, 6, 7, 8, 9, 10], [5, 6, 7, 8, 9, 10, 11], [1, 2, 3, 4, 5, 6, 7, 8, 9, 10, 11, 12], [], [], [14, 15], [14, 15, 16], [1, 2, 3, 4, 5, 6, 7, 8, 9, 10, 11, 12, 13, 14, 15, 16, 17], rL 19, rL 20, rL 21] [17, 18, 21] [0, 1, 2, 3, 4, 5, 6, 7, 8, 9, 10, 11, 12, 13, 14, 15, 16, 19, 20] (fun i => [[0, 1, 2], [0, 1], [0, 1], [0, 1], [0, 1], [0, 1], [0, 1], [0, 1], [0, 1], [0, 1], [0, 1], [0, 1], [0, 1], [0, 1], [0], [0], [0], [], [], [2], [2], []].getD i []) (fun i => [[], [], [], [], [], [], [], [], [], [], [], [], [], [], [], [], [], rL 17, rL 18, [], [], rL 21].getD i []) (fun γ i => [.pointer (some ⟨b0, 0, none⟩), .pointer (some ⟨b0, 0, none⟩), .pointer (some ⟨b0, 0, none⟩), .pointer (some ⟨b0, 5, none⟩), .slice ad.1 k.2.2.length ad.2, .pointer (some ⟨ab, 1, none⟩), .int .i64 a, .pointer (some ⟨b0, 0, none⟩), .pointer (some ⟨b0, 0, none⟩), .pointer (some ⟨b0, 3, none⟩), .int .i64 k.1, .int .i64 (IntKind.i64.wrap (a - k.1)), .int .i64 (IntKind.i64.wrap ((IntKind.i64.wrap (a - k.1)) - 1)), .slice b1 ((cut k.2.2 (0 : Int) (IntKind.i64.wrap ((IntKind.i64.wrap (a - k.1)) - 1))).length) b2, .agg #[.int .i64 c, .int .i64 a, .int .i64 d, .slice g b.length e], .int .i64 x2, .agg #[.int .i64 c, .int .i64 a, .int .i64 d, .slice g b.length e, .int .i64 x2], .slice (some ⟨γ.1, 0, none⟩) (([(c, a, d, b, x2)] : List (aG)).length) 1, .slice γ.2.1 (((cut k.2.2 (0 : Int) (IntKind.i64.wrap ((IntKind.i64.wrap (a - k.1)) - 1))) ++ ([(c, a, d, b, x2)] : List (aG))).length) γ.2.2, .pointer (some ⟨b0, 0, none⟩), .pointer (some ⟨b0, 5, none⟩), undef].getD i undef) (fun j γ => [[obj ab 35 [.int .i64 c, .int .i64 a, .int .i64 d, .slice g b.length e], obj b0 89 [.int .i64 t, .int .i64 u, .int .i64 w, .int .i64 k.1, .int .i64 k.2.1, .slice ad.1 k.2.2.length ad.2], Row 144 5 ad.1 k.2.2.length ad.2 bc.flatten, m, F], [Row 144 5 (some ⟨γ.1, 0, none⟩) ([(c, a, d, b, x2)] : List (aG)).length 1 [[.int .i64 c, .int .i64 a, .int .i64 d, .slice g b.length e, .int .i64 x2]].flatten, obj ab 35 [.int .i64 c, .int .i64 a, .int .i64 d, .slice g b.length e], obj b0 89 [.int .i64 t, .int .i64 u, .int .i64 w, .int .i64 k.1, .int .i64 k.2.1, .slice ad.1 k.2.2.length ad.2], Row 144 5 ad.1 k.2.2.length ad.2 bc.flatten, m, F], [Row 144 5 (some ⟨γ.1, 0, none⟩) ([(c, a, d, b, x2)] : List (aG)).length 1 [[.int .i64 c, .int .i64 a, .int .i64 d, .slice g b.length e, .int .i64 x2]].flatten, obj ab 35 [.int .i64 c, .int .i64 a, .int .i64 d, .slice g b.length e], obj b0 89 [.int .i64 t, .int .i64 u, .int .i64 w, .int .i64 k.1, .int .i64 k.2.1, .slice ad.1 k.2.2.length ad.2], ap 144 5 (aQ (m)) γ.2.1 ((cut k.2.2 (0 : Int) (IntKind.i64.wrap ((IntKind.i64.wrap (a - k.1)) - 1))) ++ ([(c, a, d, b, x2)] : List (aG))) γ.2.2, m, F], [Row 144 5 (some ⟨γ.1, 0, none⟩) ([(c, a, d, b, x2)] : List (aG)).length 1 [[.int .i64 c, .int .i64 a, .int .i64 d, .slice g b.length e, .int .i64 x2]].flatten, obj ab 35 [.int .i64 c, .int .i64 a, .int .i64 d, .slice g b.length e], obj b0 89 [.int .i64 t, .int .i64 u, .int .i64 w, .int .i64 k.1, .int .i64 k.2.1, .slice γ.2.1 (((cut k.2.2 (0 : Int) (IntKind.i64.wrap ((IntKind.i64.wrap (a - k.1)) - 1))) ++ ([(c, a, d, b, x2)] : List (aG))).length) γ.2.2], ap 144 5 (aQ (m)) γ.2.1 ((cut k.2.2 (0 : Int) (IntKind.i64.wrap ((IntKind.i64.wrap (a - k.1)) - 1))) ++ ([(c, a, d, b, x2)] : List (aG))) γ.2.2, m, F]].getD j []) (fun γ => []) mixed (by decide) (by decide) (by decide) (by decide) (by decide) (by decide) (by decide) 64 O (by decide) (by decide) (by decide) (Ent.refl _) ?_ ?_ (fun _ => trivial) ?_
 exact (ac (fun γ => (ac (qm O (.o (s := 0) O (by decide) .nil) O) (ac (qm O (.o (s := 0) O (by decide) .nil) O) (ac (qm O (.o (s := 0) O (by decide) .nil) O) zA)))) (ac (fun γ => (ac (qm O (.o (s := 0) O (by decide) .nil) O) (ac (qm O (.o (s := 0) O (by decide) .nil) O) zA))) (ac (fun γ => (ac (qp O O (.v 1 O O .nil) (aX O O) O) (ac (qp O O (.v 1 O O .nil) (aX O O) O) zA))) (ac (fun γ => (ac (qp O O (.v 2 O O .nil) (ar O O underlying89 O O sizeOf87 O) O) (ac (qp O O (.v 2 O O .nil) (ar O O underlying89 O O sizeOf87 O) O) zA))) (ac (fun γ => (ac (qp O O (.v 3 O O .nil) (ag O O isAgg87 (.obj 1 O O)) O) (ac (qp O O (.v 3 O O .nil) (ag O O isAgg87 (.obj 2 O O)) O) zA))) (ac (fun γ => (ac (qp O O (.o (s := 7) O (by decide) .nil) (ar O O underlying35 O O sizeOf3 O) O) (ac (qp O O (.o (s := 7) O (by decide) .nil) (ar O O underlying35 O O sizeOf3 O) O) zA))) (ac (fun γ => (ac (qp O O (.v 5 O O .nil) (ag O O isAgg3 (.obj 0 O O)) O) (ac (qp O O (.v 5 O O .nil) (ag O O isAgg3 (.obj 1 O O)) O) zA))) (ac (fun γ => (ac (qm O (.o (s := 0) O (by decide) .nil) O) (ac (qm O (.o (s := 0) O (by decide) .nil) O) zA))) (ac (fun γ => (ac (qp O O (.v 7 O O .nil) (aX O O) O) (ac (qp O O (.v 7 O O .nil) (aX O O) O) zA))) (ac (fun γ => (ac (qp O O (.v 8 O O .nil) (ar O O underlying89 O O sizeOf3 O) O) (ac (qp O O (.v 8 O O .nil) (ar O O underlying89 O O sizeOf3 O) O) zA))) (ac (fun γ => (ac (qp O O (.v 9 O O .nil) (ag O O isAgg3 (.obj 1 O O)) O) (ac (qp O O (.v 9 O O .nil) (ag O O isAgg3 (.obj 2 O O)) O) zA))) (ac (fun γ => (ac (qp O O (.v 6 O O (.v 10 O O .nil)) (dc O O O) O) (ac (qp O O (.v 6 O O (.v 10 O O .nil)) (dc O O O) O) zA))) (ac (fun γ => (ac (qp O O (.v 11 O O .nil) (dc O O O) O) (ac (qp O O (.v 11 O O .nil) (dc O O O) O) zA))) (ac (fun γ => (ac (qp O O (.v 4 O O (.v 12 O O .nil)) (iF (l := k.2.2) (lo' := (0 : Int)) (hi' := IntKind.i64.wrap ((IntKind.i64.wrap (a - k.1)) - 1)) O O O O underlying87 sizeOf144 (.inr ⟨_, O⟩) (.inl ⟨O, O⟩) a5 a4 a7) O) (ac (qp O O (.v 4 O O (.v 12 O O .nil)) (iF (l := k.2.2) (lo' := (0 : Int)) (hi' := IntKind.i64.wrap ((IntKind.i64.wrap (a - k.1)) - 1)) O O O O underlying87 sizeOf144 (.inr ⟨_, O⟩) (.inl ⟨O, O⟩) a5 a4 a7) O) zA))) (aq O (fun γ => qp O O (.o (s := 7) O (by decide) .nil) (bU 0 O O isAgg35 sizeOf35 O O) O) (aq O (fun γ => qm O (.o (s := 2) O (by decide) .nil) O) (aq O (fun γ => qp O O (.v 14 O O (.v 15 O O .nil)) (cx (v := .agg #[.int .i64 c, .int .i64 a, .int .i64 d, .slice g b.length e, .int .i64 x2]) O O (fun _ => by kernel_rfl)) O) (aq O (fun γ => qp O O (.v 0 O O .nil) (aX O O) O) (aq O (fun γ => qp O O (.v 19 O O .nil) (ar O O underlying89 O O sizeOf87 O) O) zA)))))))))))))))))))
 exact (ac (fun γ => eo (Z := Nat) (fun z => (z, γ.2)) O O (.v 16 O O .nil) (eB (V := (aQ (m))) (xs := ([(c, a, d, b, x2)] : List (aG))) [[.int .i64 c, .int .i64 a, .int .i64 d, .slice g b.length e, .int .i64 x2]] O O underlying87 lT O (by kernel_rfl) O a9 O O) (fun _ => ⟨O, O, O, O, O, O, O, O, O, O, O, O, O, O, O, O, O, trivial⟩) (fun _ => .inr O) (fun z => Ent.refl _)) (ac (fun γ => eo (Z := Option Addr × Nat) (fun z => (γ.1, z)) O O (.v 13 O O (.v 17 O O .nil)) (RE.ent (H1 := [Row 144 5 (some ⟨γ.1, 0, none⟩) ([(c, a, d, b, x2)] : List (aG)).length 1 [[.int .i64 c, .int .i64 a, .int .i64 d, .slice g b.length e, .int .i64 x2]].flatten, obj ab 35 [.int .i64 c, .int .i64 a, .int .i64 d, .slice g b.length e], obj b0 89 [.int .i64 t, .int .i64 u, .int .i64 w, .int .i64 k.1, .int .i64 k.2.1, .slice ad.1 k.2.2.length ad.2], ap 144 5 (aQ (m)) b1 (cut k.2.2 (0 : Int) (IntKind.i64.wrap ((IntKind.i64.wrap (a - k.1)) - 1))) b2, m, F]) (Ent.set' 3 O (fun _ h => pz be a7 a5 a4 h)) (kZ 3 O O O underlying87 lT O  (fI.row a9 0 O) b6)) (fun _ => ⟨O, O, O, O, O, O, O, O, O, O, O, O, O, O, O, O, O, O, trivial⟩) (fun _ => .inr O) (fun z => Ent.refl _)) (ac (fun γ => eo (Z := Unit) (fun z => (γ.1, γ.2)) O O (.v 18 O O (.v 20 O O .nil)) (aH 2 O O O sizeOf87 O O (aM (by rfl)) O O) (fun _ => ⟨O, O, O, O, O, O, O, O, O, O, O, O, O, O, O, O, O, O, O, O, O, trivial⟩) (fun _ => .inl O) (fun z => Ent.refl _)) zA)))
 intro b3
 refine aa (sr ?_)
 refine va O O (ae (aa (aA ?_)))
 exact aD (b3.2.1, b3.2.2, m) O O O (.pr_in (Up.refl _) (.sel 2 O (.sel 2 O (.sel 2 O (.sel 2 O (.nil _))))))
end Go.Proofs.YtndjkejhacfpdaaGreatDoor

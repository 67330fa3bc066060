/- Texts that lead to the law SnapPlays: G3. Conditions: as each says. -/
import Derived.Test.YtjkjlggbikeliaaGreatDoorM4
namespace Go.Proofs.YtjkjlggbikeliaaGreatDoor
open Go.RowKit Tryz
set_option linter.unusedVariables false
set_option linter.unusedSimpArgs false
set_option maxRecDepth 20000
set_option maxHeartbeats 20000000
def fu.f (k : Nat) (x0 : List UInt8) (z0 : List UInt8) (x1 : List UInt8) : Option (Bool) := (bn.f k x0 x1).bind fun a => ((if (a && (decide ((x0.length : Int) = (x1.length : Int)))) = true then (if 0 ≤ (0 : Int) ∧ (0 : Int) ≤ IntKind.i64.wrap ((x1.length : Int) + 1) ∧ IntKind.i64.wrap ((x1.length : Int) + 1) ≤ ((x0 ++ z0).length : Int) then (if 0 ≤ (x1.length : Int) ∧ (x1.length : Int) < ((cut (x0 ++ z0) (0 : Int) (IntKind.i64.wrap ((x1.length : Int) + 1))).length : Int) then (some (decide ((((cut (x0 ++ z0) (0 : Int) (IntKind.i64.wrap ((x1.length : Int) + 1))).getD (x1.length : Int).toNat 0).toNat : Int) = (201 : Int)))) else none) else none) else (some false)).bind fun b => (some b))
theorem fu.calls (W : World) (F : HA) (k : Nat) (a0 : Option Addr) (c0 : Nat) (x0 z0 : List UInt8) (a1 : Option Addr) (c1 : Nat) (x1 : List UInt8) (h0 : Rd F a0 (ao (x0 ++ z0))) (h : (x0 ++ z0).length ≤ c0) (u : c0 ≤ maxLen) (h1 : Rd F a1 (ao x1)) (v : x1.length ≤ c1) (w : c1 ≤ maxLen) :
    Fn Tryz.prog W 51 [.slice a0 x0.length c0, .slice a1 x1.length c1] [] F (fu.f k x0 z0 x1) (fun (r : Bool) (y : Unit) => .bool r) (fun r y => []) := by
 unfold fu.f
 refine aJ 29 Tryz.func51 O Tryz.ntmps51 O ?_
 refine sr ?_
 refine va O O (nx ?_)
 refine vm O O ?_
 refine vm O O ?_
 refine am (fun a q => ?_)
 refine ah (ar (vs := [.slice a0 x0.length c0, .slice a1 x1.length c1]) (cap := []) (A := []) (rst := [F]) O O O O O O call33 (.sel 0 O (.nil _)) (bn.calls _ _ k a0 c0 x0 a1 c1 x1 ((oq h0).lend 0 O) (wL h) u (h1.lend 0 O) v w) q) O O O ?_
 intro al
 refine va O O (nx ?_)
 refine vm O O ?_
 refine vm O O ?_
 refine az (b := a) (fun x => RQ.sub (E' := [(0, .slice a0 x0.length c0)]) ⟨O, trivial⟩ (aS O O)) O O O O O ?_
 refine az (b := a) (fun m => RQ.sub (E' := [(11, .slice a0 x0.length c0)]) ⟨aZ O m, trivial⟩ (bi O O O underlying25)) O O O O O ?_
 refine az (b := a) (fun z => RQ.sub (E' := [(1, .slice a1 x1.length c1)]) ⟨O, trivial⟩ (aS O O)) O O O O O ?_
 refine az (b := a) (fun n => RQ.sub (E' := [(13, .slice a1 x1.length c1)]) ⟨aZ O n, trivial⟩ (bi O O O underlying25)) O O O O O ?_
 refine az (b := a) (fun c => RQ.sub (E' := [(12, .int .i64 (x0.length : Int)), (14, .int .i64 (x1.length : Int))]) ⟨aZ O c, aZ O c, trivial⟩ (bD O O O)) O O O O O ?_
 refine vq (dQ O O O) O ?_
 refine vm O O ?_
 refine dk 11 (S := Bool) (Unit) (fun s y => [(28, .bool s)]) (fun s y => [F]) ?_ ?_
 refine eI (fun o => ?_) (fun p => ?_)
 rw [o]
 refine aO (aS O O) O O O O O O ?_
 refine aO (aS O O) O O O O O O ?_
 refine aO (bi O O O underlying25) O O O O O O ?_
 refine aO (bj O O O) O O O O O O ?_
 refine aQ (fun i => ?_)
 obtain ⟨an, a2, t, d, aa, ab⟩ := ex (lo := (0 : Int)) (hi := IntKind.i64.wrap ((x1.length : Int) + 1)) h0 h i
 refine aO (dU (l := (x0 ++ z0)) (lo' := (0 : Int)) (hi' := IntKind.i64.wrap ((x1.length : Int) + 1)) O O O O underlying25 sizeOf5 (.inr ⟨_, O⟩) (.inl ⟨O, O⟩) i h t) O O O O O O ?_
 refine aO (aS O O) O O O O O O ?_
 refine aO (bi O O O underlying25) O O O O O O ?_
 refine aQ (fun e => ?_)
 obtain ⟨af, ad, g⟩ := d.pos (fc (j := (x1.length : Int).toNat) (by omega))
 refine aO (el O O O g underlying25 sizeOf5 e.1 e.2) O O O O O O ?_
 refine aO (ai O O isAgg5 (d.cell 0 O g (eQ (by omega)))) O O O O O O ?_
 refine aO (bD O O O) O O O O O O ?_
 refine vq (bL O O O O O) O (ag ?_)
 exact aM (s := decide ((((cut (x0 ++ z0) (0 : Int) (IntKind.i64.wrap ((x1.length : Int) + 1))).getD (x1.length : Int).toNat 0).toNat : Int) = (201 : Int))) () ⟨O, trivial⟩ (.sel 0 O (.nil _))
 rw [p]
 refine aI O O O O O O ?_
 refine aI O O O O O O ?_
 refine aI O O O O O O ?_
 refine aI O O O O O O ?_
 refine aI O O O O O O ?_
 refine aI O O O O O O ?_
 refine aI O O O O O O ?_
 refine aI O O O O O O ?_
 refine aI O O O O O O ?_
 refine aI O O O O O O ?_
 refine vq (bL O O O O O) O (ag ?_)
 exact aM (s := false) () ⟨O, trivial⟩ (.sel 0 O (.nil _))
 intro a3 a4
 refine va O O (ag (ae (ak ?_)))
 exact av () O O O (.sel 0 O (.nil _))

def cG.f (a : Int) (b : Int) (c : List UInt8) : Option (Bool) := some (((decide (a = (0 : Int))) && (decide (b = (0 : Int)))) && (decide ((c.length : Int) = (0 : Int))))
theorem cG.calls (W : World) (F : HA) (a : Int) (c : Int) (g : Option Addr) (e : Nat) (d : List UInt8) (p : Rd F g (ao d)) (n : d.length ≤ e) (o : e ≤ maxLen) :
    Fn Tryz.prog W 91 [.agg #[.int .i64 a, .int .i64 c, .slice g d.length e]] [] F (cG.f a c d) (fun (r : Bool) (y : Unit) => .bool r) (fun r y => []) := by
 unfold cG.f
 refine aJ 17 Tryz.func91 O Tryz.ntmps91 O ?_
 refine sr ?_
 refine ah (dL O O O) O O O ?_
 intro h
 refine va O O (nx ?_)
 refine vq (aw O O underlying27 O O sizeOf3 O) O ?_
 refine vq (ai O O isAgg3 (.obj 0 O O)) O ?_
 refine vq (bD O O O) O ?_
 refine vm O O ?_
 refine az (b := decide (a = (0 : Int))) (fun q => RQ.sub (E' := [(1, .pointer (some ⟨h, 0, none⟩))]) ⟨O, trivial⟩ (aw O O underlying27 O O sizeOf3 O)) O O O O O ?_
 refine az (b := decide (a = (0 : Int))) (fun i => RQ.sub (E' := [(7, .pointer (some ⟨h, 1, none⟩))]) ⟨aZ O i, trivial⟩ (ai O O isAgg3 (.obj 0 O O))) O O O O O ?_
 refine az (b := decide (a = (0 : Int))) (fun j => RQ.sub (E' := [(8, .int .i64 c)]) ⟨aZ O j, trivial⟩ (bD O O O)) O O O O O ?_
 refine vq (dQ O O O) O ?_
 refine vm O O ?_
 refine az (b := (decide (a = (0 : Int))) && (decide (c = (0 : Int)))) (fun s => RQ.sub (E' := [(1, .pointer (some ⟨h, 0, none⟩))]) ⟨O, trivial⟩ (aw O O underlying27 O O sizeOf25 O)) O O O O O ?_
 refine az (b := (decide (a = (0 : Int))) && (decide (c = (0 : Int)))) (fun k => RQ.sub (E' := [(12, .pointer (some ⟨h, 2, none⟩))]) ⟨aZ O k, trivial⟩ (ai O O isAgg25 (.obj 0 O O))) O O O O O ?_
 refine az (b := (decide (a = (0 : Int))) && (decide (c = (0 : Int)))) (fun l => RQ.sub (E' := [(13, .slice g d.length e)]) ⟨aZ O l, trivial⟩ (bi O O O underlying25)) O O O O O ?_
 refine az (b := (decide (a = (0 : Int))) && (decide (c = (0 : Int)))) (fun m => RQ.sub (E' := [(14, .int .i64 (d.length : Int))]) ⟨aZ O m, trivial⟩ (bD O O O)) O O O O O ?_
 refine vq (dQ O O O) O ?_
 refine va O O (ag (ae (ak ?_)))
 exact av () O O O (.sel 1 O (.nil _))
def cG.v (a : Int) (b : Int) (c : List UInt8) : Bool := (cG.f a b c).getD false
theorem cG.tot (a : Int) (b : Int) (c : List UInt8) : cG.f a b c = some (cG.v a b c) := by
  have h : ∃ r, cG.f a b c = some r := by
    unfold cG.f
    repeat' (first | exact ⟨_, rfl⟩ | split | simp only [Option.bind_some])
  obtain ⟨r, h⟩ := h
  unfold cG.v
  rw [h]; rfl

def ci.f (x0 : Int) (x1 : Int) (x2 : Int) : Option (Bool) := some ((decide (x1 ≤ x0)) && (decide (x0 ≤ x2)))
theorem ci.calls (W : World) (F : HA) (x0 : Int) (x1 : Int) (x2 : Int)  :
    Fn Tryz.prog W 149 [.int .i64 x0, .int .i64 x1, .int .i64 x2] [] F (ci.f x0 x1 x2) (fun (r : Bool) (y : Unit) => .bool r) (fun r y => []) := by
 unfold ci.f
 refine aJ 15 Tryz.func149 O Tryz.ntmps149 O ?_
 refine sr ?_
 refine va O O (nx ?_)
 refine vm O O ?_
 refine vm O O ?_
 refine vq (gP O O O) O ?_
 refine vm O O ?_
 refine az (b := decide (x1 ≤ x0)) (fun c => RQ.sub (E' := [(0, .int .i64 x0)]) ⟨O, trivial⟩ (aS O O)) O O O O O ?_
 refine az (b := decide (x1 ≤ x0)) (fun d => RQ.sub (E' := [(2, .int .i64 x2)]) ⟨O, trivial⟩ (aS O O)) O O O O O ?_
 refine az (b := decide (x1 ≤ x0)) (fun a => RQ.sub (E' := [(11, .int .i64 x0), (12, .int .i64 x2)]) ⟨aZ O a, aZ O a, trivial⟩ (nu O O O)) O O O O O ?_
 refine vq (dQ O O O) O ?_
 refine va O O (ag (ae (ak ?_)))
 exact av () O O O (.sel 0 O (.nil _))
def ci.v (x0 : Int) (x1 : Int) (x2 : Int) : Bool := (ci.f x0 x1 x2).getD false
theorem ci.tot (x0 : Int) (x1 : Int) (x2 : Int) : ci.f x0 x1 x2 = some (ci.v x0 x1 x2) := by
  have h : ∃ r, ci.f x0 x1 x2 = some r := by
    unfold ci.f
    repeat' (first | exact ⟨_, rfl⟩ | split | simp only [Option.bind_some])
  obtain ⟨r, h⟩ := h
  unfold ci.v
  rw [h]; rfl

def dC.f (a : Int) (b : Int) (c : List UInt8) : Option (Int) := (cG.f a b c).bind fun g => (if g = true then (some 0) else ((ci.f a (1 : Int) (4611686018427387904 : Int)).bind fun h => ((if (!h) = true then (some true) else ((ci.f b (1 : Int) (4611686018427387904 : Int)).bind fun d => (some (!d)))).bind fun e => (if e = true then (some 1) else (if (524288 : Int) < (c.length : Int) then (some 3) else (some 0))))))
theorem dC.calls (W : World) (F : HA) (a : Int) (b : Int) (e : Option Addr) (d : Nat) (c : List UInt8) (m : Rd F e (ao c)) (h : c.length ≤ d) (i : d ≤ maxLen) :
    Fn Tryz.prog W 104 [.agg #[.int .i64 a, .int .i64 b, .slice e c.length d]] [] F (dC.f a b c) (fun (r : Int) (y : Unit) => .int .i64 r) (fun r y => []) := by
 unfold dC.f
 refine aJ 19 Tryz.func104 O Tryz.ntmps104 O ?_
 refine sr ?_
 refine ah (dL O O O) O O O ?_
 intro g
 refine va O O (ag (ae (ap (sr ?_))))
 refine vq (du 0 O O isAgg27 sizeOf27 O O) O ?_
 refine am (fun aa n => ?_)
 refine ah (ar (vs := [.agg #[.int .i64 a, .int .i64 b, .slice e c.length d]]) (cap := []) (A := []) (rst := [obj g 27 [.int .i64 a, .int .i64 b, .slice e c.length d], F]) O O O O O O call91 (.sel 0 O (.sel 0 O (.nil _))) (cG.calls _ _ a b e d c (m.lend 1 O) h i) n) O O O ?_
 intro ab
 refine ag (ae ?_)
 refine aT O (fun ad => ?_) (fun af => ?_)
 refine sr ?_
 refine va O O (ag (ae (ak ?_)))
 refine ax ?_
 exact av () O O O (.sel 1 O (.nil _))
 refine au ?_
 refine ae (ap (sr ?_))
 refine vq (aw O O underlying27 O O sizeOf3 O) O ?_
 refine vq (ai O O isAgg3 (.obj 0 O O)) O ?_
 refine am (fun al o => ?_)
 refine ah (ar (vs := [.int .i64 a, .int .i64 1, .int .i64 4611686018427387904]) (cap := []) (A := []) (rst := [obj g 27 [.int .i64 a, .int .i64 b, .slice e c.length d], F]) O O O O O O call149 (.sel 0 O (.sel 0 O (.nil _))) (ci.calls _ _ a (1 : Int) (4611686018427387904 : Int) ) o) O O O ?_
 intro an
 refine vq (fE O O) O ?_
 refine vm O O ?_
 refine dk 5 (S := Bool) (Unit) (fun s y => [(1, .pointer (some ⟨g, 0, none⟩)), (14, .bool s)]) (fun s y => [obj g 27 [.int .i64 a, .int .i64 b, .slice e c.length d], F]) ?_ ?_
 refine eI (fun j => ?_) (fun k => ?_)
 rw [j]
 refine aI O O O O O O ?_
 refine aI O O O O O O ?_
 refine aI O O O O O O ?_
 refine aI O O O O O O ?_
 refine vq (bL O O O O O) O (ag ?_)
 exact aM (s := true) () ⟨O, O, trivial⟩ (.sel 0 O (.sel 0 O (.nil _)))
 rw [k]
 refine aO (aw O O underlying27 O O sizeOf3 O) O O O O O O ?_
 refine aO (ai O O isAgg3 (.obj 0 O O)) O O O O O O ?_
 refine am (fun p l => ?_)
 refine fk (ar (vs := [.int .i64 b, .int .i64 1, .int .i64 4611686018427387904]) (cap := []) (A := []) (rst := [obj g 27 [.int .i64 a, .int .i64 b, .slice e c.length d], F]) O O O O O O call149 (.sel 0 O (.sel 0 O (.nil _))) (ci.calls _ _ b (1 : Int) (4611686018427387904 : Int) ) l) O O O O O O ?_
 intro q
 refine aO (fE O O) O O O O O O ?_
 refine vq (bL O O O O O) O (ag ?_)
 exact aM (s := !p) () ⟨O, O, trivial⟩ (.sel 0 O (.sel 0 O (.nil _)))
 intro t u
 refine ag (ae ?_)
 refine aT O (fun v => ?_) (fun w => ?_)
 refine sr ?_
 refine va O O (ag (ae (ak ?_)))
 refine ax ?_
 exact av () O O O (.sel 1 O (.nil _))
 refine au ?_
 refine ae (ap (sr ?_))
 refine vq (aw O O underlying27 O O sizeOf25 O) O ?_
 refine vq (ai O O isAgg25 (.obj 0 O O)) O ?_
 refine vq (bi O O O underlying25) O ?_
 refine vq (dw O O O) O (ag (ae ?_))
 refine aL O (fun x => ?_) (fun z => ?_)
 refine sr ?_
 refine va O O (ag (ae (ak ?_)))
 refine ax ?_
 exact av () O O O (.sel 1 O (.nil _))
 refine au ?_
 refine ae (sr ?_)
 refine va O O (ag (ae (ak ?_)))
 exact av () O O O (.sel 1 O (.nil _))

def cX.l0 : Nat → Int → Int → Option (Int)
  | 0, _, _ => none
  | k + 1, a, b => if (128 : Int) ≤ a then (cX.l0 k (IntKind.i64.wrap (Int.tdiv a 128)) (IntKind.i64.wrap (b + 1))) else (some b)
def cX.f (k : Nat) (x0 : Int) : Option (Int) := if ((decide (x0 < (0 : Int))) || (decide ((4611686018427387904 : Int) < x0))) = true then (some 0) else ((cX.l0 k x0 1).bind fun a => (some a))
theorem cX.calls (W : World) (F : HA) (k : Nat) (x0 : Int)  :
    Fn Tryz.prog W 198 [.int .i64 x0] [] F (cX.f k x0) (fun (r : Int) (y : Unit) => .int .i64 r) (fun r y => []) := by
 unfold cX.f
 refine aJ 17 Tryz.func198 O Tryz.ntmps198 O ?_
 refine sr ?_
 refine va O O (ag (ae (ap (sr ?_))))
 refine vm O O ?_
 refine vq (bN O O O) O ?_
 refine vm O O ?_
 refine az (b := decide (x0 < (0 : Int))) (fun d => RQ.sub (E' := [(0, .int .i64 x0)]) ⟨O, trivial⟩ (aS O O)) O O O O O ?_
 refine az (b := decide (x0 < (0 : Int))) (fun c => RQ.sub (E' := [(7, .int .i64 x0)]) ⟨aZ O c, trivial⟩ (dw O O O)) O O O O O ?_
 refine vq (hP O O O) O (ag (ae ?_))
 refine aT O (fun g => ?_) (fun h => ?_)
 refine sr ?_
 refine va O O (ag (ae (ak ?_)))
 refine ax ?_
 exact av () O O O (.sel 0 O (.nil _))
 refine au ?_
 refine ae (sr ?_)
 refine va O O (ag (ae ?_))
 refine bO (S := Int) (Unit) (fun s y => [(3, .int .i64 s)]) (fun s y => [F]) ?_ ?_
 refine aK ?_
 refine bX (S := Int × Int) (Unit) (fun k s => cX.l0 k s.1 s.2) (fun s y => [(0, .int .i64 s.1), (3, .int .i64 s.2)]) (fun s y => [F]) (fun _ => by rw [cX.l0]) ?_ k (x0, 1) () ⟨O, O, trivial⟩ (.sel 0 O (.nil _))
 intro k a i
 refine cL (by rw [cX.l0]) ?_
 refine ap (sr ?_)
 refine vm O O ?_
 refine vq (gP O O O) O (ag (ae ?_))
 refine aL O (fun j => ?_) (fun e => ?_)
 refine au ?_
 refine ae ?_
 refine aK ?_
 refine sr ?_
 refine vm O O ?_
 refine vq (mp O O O (by decide)) O ?_
 refine va O O (ny ?_)
 refine vm O O ?_
 refine vq (bj O O O) O ?_
 refine va O O (ag (bb ?_))
 exact bu (s := (IntKind.i64.wrap (Int.tdiv a.1 128), IntKind.i64.wrap (a.2 + 1))) () ⟨O, O, trivial⟩ (.sel 0 O (.nil _))
 refine ck ?_
 refine bQ ?_
 refine bY ?_
 refine bR ?_
 exact aM (s := a.2) () ⟨O, trivial⟩ (.sel 0 O (.nil _))
 intro l m
 refine sr ?_
 refine vm O O ?_
 refine va O O (ag (ae (ak ?_)))
 exact av () O O O (.sel 0 O (.nil _))

def cE.l0 : Nat → Int → List UInt8 → Option (Int × List UInt8)
  | 0, _, _ => none
  | k + 1, a, b => if (128 : Int) ≤ a then (if 0 ≤ IntKind.u8.wrap (IntKind.i64.wrap ((Int.tmod a 128) + 128)) ∧ IntKind.u8.wrap (IntKind.i64.wrap ((Int.tmod a 128) + 128)) < 256 then (if (b.length + ([(cS (IntKind.u8.wrap (IntKind.i64.wrap ((Int.tmod a 128) + 128))))] : List UInt8).length) * 1 ≤ 140737488355328 then (cE.l0 k (IntKind.i64.wrap (Int.tdiv a 128)) (b ++ ([(cS (IntKind.u8.wrap (IntKind.i64.wrap ((Int.tmod a 128) + 128))))] : List UInt8))) else none) else none) else (some (a, b))
def cE.f (k : Nat) (x0 : Int) : Option (List UInt8 × Int) := (cX.f k x0).bind fun b => (if b = (0 : Int) then (some (([] : List UInt8), 1)) else ((cE.l0 k x0 ([] : List UInt8)).bind fun a => (if 0 ≤ IntKind.u8.wrap a.1 ∧ IntKind.u8.wrap a.1 < 256 then (if (a.2.length + ([(cS (IntKind.u8.wrap a.1))] : List UInt8).length) * 1 ≤ 140737488355328 then (some (a.2 ++ ([(cS (IntKind.u8.wrap a.1))] : List UInt8), 0)) else none) else none)))
theorem cE.calls (W : World) (F : HA) (k : Nat) (x0 : Int)  :
    Fn Tryz.prog W 174 [.int .i64 x0] [] F (cE.f k x0) (fun (r : List UInt8 × Int) (y : Option Addr × Nat) => .tuple #[.slice y.1 r.1.length y.2, .int .i64 r.2]) (fun r y => [Row 5 1 y.1 r.1.length y.2 (ao r.1)]) := by
 unfold cE.f
 refine aJ 24 Tryz.func174 O Tryz.ntmps174 O ?_
 refine sr ?_
 refine va O O ?_
 refine va O O (ag (ae (ap (sr ?_))))
 refine vm O O ?_
 refine am (fun q l => ?_)
 refine ah (ar (vs := [.int .i64 x0]) (cap := []) (A := []) (rst := [F]) O O O O O O call198 (.sel 0 O (.nil _)) (cX.calls _ _ k x0 ) l) O O O ?_
 intro t
 refine vq (bD O O O) O (ag (ae ?_))
 refine aL O (fun u => ?_) (fun v => ?_)
 refine sr ?_
 refine va O O ?_
 refine va O O (ag (ae (ak ?_)))
 refine ax ?_
 exact av (none, 0) O O O (.row_nil (.sel 0 O (.nil _)))
 refine au ?_
 refine ae (sr ?_)
 refine va O O (ag (ae ?_))
 refine bO (S := Int × List UInt8) (Option Addr × Nat) (fun s y => [(0, .int .i64 s.1), (4, .slice y.1 s.2.length y.2)]) (fun s y => [Row 5 1 y.1 s.2.length y.2 (ao s.2), F]) ?_ ?_
 refine aK ?_
 refine bX (S := Int × List UInt8) (Option Addr × Nat) (fun k s => cE.l0 k s.1 s.2) (fun s y => [(0, .int .i64 s.1), (4, .slice y.1 s.2.length y.2)]) (fun s y => [Row 5 1 y.1 s.2.length y.2 (ao s.2), F]) (fun _ => by rw [cE.l0]) ?_ k (x0, ([] : List UInt8)) (none, 0) ⟨O, O, trivial⟩ (.row_nil (.sel 0 O (.nil _)))
 intro k a i
 refine cL (by rw [cE.l0]) ?_
 refine ap (sr ?_)
 refine vm O O ?_
 refine vq (gP O O O) O (ag (ae ?_))
 refine aL O (fun m => ?_) (fun n => ?_)
 refine au ?_
 refine ae ?_
 refine aK ?_
 refine sr ?_
 refine vm O O ?_
 refine vm O O ?_
 refine vq (rc O O O (by decide)) O ?_
 refine vq (bj O O O) O ?_
 refine vq (dy O O underlying3 underlying5) O ?_
 refine aQ (fun d => ?_)
 refine ah (jD (cs := [.int .u8 (IntKind.u8.wrap (IntKind.i64.wrap ((Int.tmod a.1 128) + 128)))]) ([(cS (IntKind.u8.wrap (IntKind.i64.wrap ((Int.tmod a.1 128) + 128))))] : List UInt8) O O underlying25 eP O (by kernel_rfl) O O (mL d)) O O O ?_
 intro o
 refine aQ (fun e => ?_)
 refine ah (dd 1 O O O underlying25 eP O (Rds.row 0 O) e) O O O ?_
 intro b
 refine va O O (ny ?_)
 refine vm O O ?_
 refine vq (mp O O O (by decide)) O ?_
 refine va O O (ag (bb ?_))
 exact bu (s := (IntKind.i64.wrap (Int.tdiv a.1 128), a.2 ++ ([(cS (IntKind.u8.wrap (IntKind.i64.wrap ((Int.tmod a.1 128) + 128))))] : List UInt8))) (b.1, b.2) ⟨O, O, trivial⟩ (.sel 1 O (.sel 1 O (.nil _)))
 refine ck ?_
 refine bQ ?_
 refine bY ?_
 refine bR ?_
 exact aM (s := (a.1, a.2)) (i.1, i.2) ⟨O, O, trivial⟩ (.sel 0 O (.sel 0 O (.nil _)))
 intro j w
 refine sr ?_
 refine vm O O ?_
 refine vm O O ?_
 refine vq (dy O O underlying3 underlying5) O ?_
 refine aQ (fun g => ?_)
 refine ah (jD (cs := [.int .u8 (IntKind.u8.wrap j.1)]) ([(cS (IntKind.u8.wrap j.1))] : List UInt8) O O underlying25 eP O (by kernel_rfl) O O (mL g)) O O O ?_
 intro p
 refine aQ (fun h => ?_)
 refine ah (dd 1 O O O underlying25 eP O (Rds.row 0 O) h) O O O ?_
 intro c
 refine va O O ?_
 refine va O O (ag (ae (ak ?_)))
 exact av (c.1, c.2) O O O (.sel 1 O (.sel 1 O (.nil _)))

def cA.f (k : Nat) (a : List UInt8) (b : Int) (x1 : Int) : Option (List UInt8 × Int) := if b = (0 : Int) then ((cE.f k x1).bind fun c => (if (a.length + c.1.length) * 1 ≤ 140737488355328 then (some (a ++ c.1, c.2)) else none)) else (some (a, b))
theorem cA.calls (W : World) (F : HA) (k : Nat) (b0 : Nat) (b : Option Addr) (c : Nat) (a : List UInt8) (d : Int) (x1 : Int)  :
    Fn Tryz.prog W 137 [.pointer (some ⟨b0, 0, none⟩), .int .i64 x1] [obj b0 188 [.slice b a.length c, .int .i64 d], Row 5 1 b a.length c (ao a)] F (cA.f k a d x1) (fun (r : List UInt8 × Int) (y : Option Addr × Nat) => .tuple #[]) (fun r y => [obj b0 188 [.slice y.1 r.1.length y.2, .int .i64 r.2], Row 5 1 y.1 r.1.length y.2 (ao r.1)]) := by
 unfold cA.f
 refine aJ 29 Tryz.func137 O Tryz.ntmps137 O ?_
 refine ap (sr ?_)
 refine vm O O ?_
 refine vn O O ?_
 refine vq (aw O O underlying188 O O sizeOf3 O) O ?_
 refine vq (ai O O isAgg3 (.obj 0 O O)) O ?_
 refine vq (cz O O O) O (ag (ae ?_))
 refine br O (fun i => ?_) (fun j => ?_)
 refine au ?_
 refine ae (sr ?_)
 refine vm O O ?_
 refine am (fun l g => ?_)
 refine ah (ar (vs := [.int .i64 x1]) (cap := []) (A := []) (rst := [obj b0 188 [.slice b a.length c, .int .i64 d], Row 5 1 b a.length c (ao a), F]) O O O O O O call174 (.sel 0 O (.sel 0 O (.sel 0 O (.nil _)))) (cE.calls _ _ k x1 ) g) O O O ?_
 intro m
 refine vm O O ?_
 refine vq (bh O O O) O ?_
 refine vq (bh O O O) O ?_
 refine va O O ?_
 refine va O O (nx ?_)
 refine vm O O ?_
 refine vm O O ?_
 refine vn O O ?_
 refine vq (aw O O underlying188 O O sizeOf3 O) O ?_
 refine aX (aV 1 O O O sizeOf3 O O (aY (by rfl)) O O) O O ?_
 intro _
 refine ny ?_
 refine vm O O ?_
 refine vm O O ?_
 refine vn O O ?_
 refine vq (aw O O underlying188 O O sizeOf25 O) O ?_
 refine vq (ai O O isAgg25 (.obj 1 O O)) O ?_
 refine vm O O ?_
 refine aQ (fun h => ?_)
 refine ah (dd 2 O O O underlying25 eP O (Rds.row 0 O) h) O O O ?_
 intro e
 refine vn O O ?_
 refine vq (aw O O underlying188 O O sizeOf25 O) O ?_
 refine aX (aV 1 O O O sizeOf25 O O (aY (by rfl)) O O) O O ?_
 intro _
 refine ag ?_
 exact jL (e.1, e.2) O O O (.sel 1 O (.sel 1 O (.sel 1 O (.nil _))))
 refine ak ?_
 refine ax ?_
 exact av (b, c) O O O (.sel 0 O (.sel 0 O (.sel 0 O (.nil _))))

def dt.f (k : Nat) (a : List UInt8) (b : Int) (x1 : List UInt8) (x2 : Int) : Option (List UInt8 × Int) := if b = (0 : Int) then (if max x2 (0 : Int) < (x1.length : Int) then (some (a, 3)) else ((cA.f k a b (x1.length : Int)).bind fun c => (if (c.1.length + x1.length) * 1 ≤ 140737488355328 then (some (c.1 ++ x1, c.2)) else none))) else (some (a, b))
theorem dt.calls (W : World) (F : HA) (k : Nat) (b0 : Nat) (b : Option Addr) (c : Nat) (a : List UInt8) (d : Int) (a1 : Option Addr) (c1 : Nat) (x1 : List UInt8) (x2 : Int) (h1 : Rd F a1 (ao x1)) (i : x1.length ≤ c1) (j : c1 ≤ maxLen) :
    Fn Tryz.prog W 138 [.pointer (some ⟨b0, 0, none⟩), .slice a1 x1.length c1, .int .i64 x2] [obj b0 188 [.slice b a.length c, .int .i64 d], Row 5 1 b a.length c (ao a)] F (dt.f k a d x1 x2) (fun (r : List UInt8 × Int) (y : Option Addr × Nat) => .tuple #[]) (fun r y => [obj b0 188 [.slice y.1 r.1.length y.2, .int .i64 r.2], Row 5 1 y.1 r.1.length y.2 (ao r.1)]) := by
 unfold dt.f
 refine aJ 32 Tryz.func138 O Tryz.ntmps138 O ?_
 refine ap (sr ?_)
 refine vm O O ?_
 refine vn O O ?_
 refine vq (aw O O underlying188 O O sizeOf3 O) O ?_
 refine vq (ai O O isAgg3 (.obj 0 O O)) O ?_
 refine vq (cz O O O) O (ag (ae ?_))
 refine br O (fun l => ?_) (fun m => ?_)
 refine au ?_
 refine ae (ap (sr ?_))
 refine vm O O ?_
 refine vq (bi O O O underlying25) O ?_
 refine vm O O ?_
 refine vq (kM O O O) O ?_
 refine vq (dw O O O) O (ag (ae ?_))
 refine aL O (fun n => ?_) (fun o => ?_)
 refine sr ?_
 refine vm O O ?_
 refine vn O O ?_
 refine vq (aw O O underlying188 O O sizeOf3 O) O ?_
 refine aX (aV 0 O O O sizeOf3 O O (aY (by rfl)) O O) O O ?_
 intro _
 refine ag (ae (ak ?_))
 refine ax ?_
 exact av (b, c) O O O (.sel 0 O (.sel 0 O (.sel 0 O (.nil _))))
 refine au ?_
 refine ae (sr ?_)
 refine vm O O ?_
 refine vm O O ?_
 refine vq (bi O O O underlying25) O ?_
 refine am (fun p g => ?_)
 refine ah (ar (vs := [.pointer (some ⟨b0, 0, none⟩), .int .i64 (x1.length : Int)]) (cap := []) (A := [obj b0 188 [.slice b a.length c, .int .i64 d], Row 5 1 b a.length c (ao a)]) (rst := [F]) O O O O O O call137 (.sel 0 O (.sel 0 O (.sel 0 O (.nil _)))) (cA.calls _ _ k b0 b c a d (x1.length : Int) ) g) O O O ?_
 intro q
 refine ny ?_
 refine vm O O ?_
 refine vm O O ?_
 refine vn O O ?_
 refine vq (aw O O underlying188 O O sizeOf25 O) O ?_
 refine vq (ai O O isAgg25 (.obj 0 O O)) O ?_
 refine vm O O ?_
 refine aQ (fun h => ?_)
 refine ah (dd 1 O O O underlying25 eP O (h1.rds 1 O) h) O O O ?_
 intro e
 refine vn O O ?_
 refine vq (aw O O underlying188 O O sizeOf25 O) O ?_
 refine aX (aV 0 O O O sizeOf25 O O (aY (by rfl)) O O) O O ?_
 intro _
 refine ag ?_
 exact jL (e.1, e.2) O O O (.sel 0 O (.sel 0 O (.sel 0 O (.nil _))))
 refine ak ?_
 refine ax ?_
 exact av (b, c) O O O (.sel 0 O (.sel 0 O (.sel 0 O (.nil _))))

def iu.f (b : List UInt8) (a : Int) : Option (List UInt8 × Int) := if a = (0 : Int) then (some (b, 0)) else (some (([] : List UInt8), a))
theorem iu.calls (W : World) (F : HA) (G : HA) (hG : Up G F) (b0 : Nat) (d : Option Addr) (b : Nat) (c : List UInt8) (a : Int) (h : Rd G d (ao c)) (e : c.length ≤ b) (g : b ≤ maxLen) :
    Fn Tryz.prog W 139 [.pointer (some ⟨b0, 0, none⟩)] [obj b0 188 [.slice d c.length b, .int .i64 a]] F (iu.f c a) (fun (r : List UInt8 × Int) (y : Option Addr × Nat) => .tuple #[.slice y.1 r.1.length y.2, .int .i64 r.2]) (fun r y => [pr (Rd (G) y.1 (ao r.1) ∧ r.1.length ≤ y.2 ∧ y.2 ≤ maxLen), obj b0 188 [.slice d c.length b, .int .i64 a]]) := by
 unfold iu.f
 refine aJ 17 Tryz.func139 O Tryz.ntmps139 O ?_
 refine sr ?_
 refine va O O ?_
 refine va O O (ag (ae (ap (sr ?_))))
 refine vm O O ?_
 refine vn O O ?_
 refine vq (aw O O underlying188 O O sizeOf3 O) O ?_
 refine vq (ai O O isAgg3 (.obj 0 O O)) O ?_
 refine vq (cz O O O) O (ag (ae ?_))
 refine br O (fun k => ?_) (fun l => ?_)
 refine au ?_
 refine ae (sr ?_)
 refine vm O O ?_
 refine vn O O ?_
 refine vq (aw O O underlying188 O O sizeOf25 O) O ?_
 refine vq (ai O O isAgg25 (.obj 0 O O)) O ?_
 refine va O O ?_
 refine va O O (ag (ae (ak ?_)))
 exact av (d, b) O O O (.pr_in ⟨h, e, g⟩ (.sel 0 O (.sel 0 O (.nil _))))
 refine ap ?_
 refine bp (Γ := Unit) () [[], [0], [0, 1], [0, 1, 2], [], rL 5] [] [0, 1, 2, 3, 4, 5] (fun i => [[0], [0], [0], [0], [0], [0]].getD i []) (fun i => [[], [], [], [], [], []].getD i []) (fun γ i => [.pointer (some ⟨b0, 0, none⟩), .pointer (some ⟨b0, 0, none⟩), .pointer (some ⟨b0, 1, none⟩), .int .i64 a, .slice none 0 0, .int .i64 a].getD i undef) (fun j γ => [[obj b0 188 [.slice d c.length b, .int .i64 a], F]].getD j []) (fun γ => [(2, .slice none 0 0), (3, .int .i64 a)]) mixed (by decide) (by decide) (by decide) (by decide) (by decide) (by decide) (by decide) 17 O (by decide) (by decide) (by decide) (Ent.refl _) ?_ ?_ (fun _ => ⟨O, O, trivial⟩) ?_
 exact (aq O (fun γ => qm O (.o (s := 0) O (by decide) .nil) O) (aq O (fun γ => qp O O (.v 0 O O .nil) (cj O O) O) (aq O (fun γ => qp O O (.v 1 O O .nil) (aw O O underlying188 O O sizeOf3 O) O) (aq O (fun γ => qp O O (.v 2 O O .nil) (ai O O isAgg3 (.obj 0 O O)) O) (aq O (fun γ => qp O O .nil (dA O O) O) (aq O (fun γ => qp O O (.v 3 O O .nil) (dA O O) O) zA))))))
 exact zA
 intro m
 refine ae (ak ?_)
 refine ax ?_
 exact av (none, 0) O O O (.pr_in ⟨Rd.nil _ _, Nat.le_refl _, Nat.zero_le _⟩ (.sel 0 O (.sel 0 O (.nil _))))

def gE.f (b : List UInt8) (a : Int) : Option (List UInt8 × Int) := if a = (0 : Int) then (some (b, 0)) else (some (([] : List UInt8), a))
theorem gE.calls (W : World) (F : HA) (G : HA) (hG : Up G F) (e : Nat) (d : Option Addr) (b : Nat) (c : List UInt8) (a : Int) (k : Rd G d (ao c)) (g : c.length ≤ b) (h : b ≤ maxLen) :
    Fn Tryz.prog W 139 [.pointer (some ⟨e, 0, none⟩)] [obj e 188 [.slice d c.length b, .int .i64 a]] F (gE.f c a) (fun (r : List UInt8 × Int) (y : Option Addr × Nat) => .tuple #[.slice y.1 r.1.length y.2, .int .i64 r.2]) (fun r y => [pr (Rd (G) y.1 (ao r.1) ∧ r.1.length ≤ y.2 ∧ y.2 ≤ maxLen), obj e 188 [.slice d c.length b, .int .i64 a]]) := by
 unfold gE.f
 refine aJ 17 Tryz.func139 O Tryz.ntmps139 O ?_
 refine sr ?_
 refine va O O ?_
 refine va O O (ag (ae (ap (sr ?_))))
 refine vm O O ?_
 refine vn O O ?_
 refine vq (aw O O underlying188 O O sizeOf3 O) O ?_
 refine vq (ai O O isAgg3 (.obj 0 O O)) O ?_
 refine vq (cz O O O) O (ag (ae ?_))
 refine br O (fun l => ?_) (fun m => ?_)
 refine au ?_
 refine ae (sr ?_)
 refine vm O O ?_
 refine vn O O ?_
 refine vq (aw O O underlying188 O O sizeOf25 O) O ?_
 refine vq (ai O O isAgg25 (.obj 0 O O)) O ?_
 refine va O O ?_
 refine va O O (ag (ae (ak ?_)))
 exact av (d, b) O O O (.pr_in ⟨k, g, h⟩ (.sel 0 O (.sel 0 O (.nil _))))
 refine ap ?_
 refine bp (Γ := Unit) () [[], [0], [0, 1], [0, 1, 2], [], rL 5] [] [0, 1, 2, 3, 4, 5] (fun i => [[0], [0], [0], [0], [0], [0]].getD i []) (fun i => [[], [], [], [], [], []].getD i []) (fun γ i => [.pointer (some ⟨e, 0, none⟩), .pointer (some ⟨e, 0, none⟩), .pointer (some ⟨e, 1, none⟩), .int .i64 a, .slice none 0 0, .int .i64 a].getD i undef) (fun j γ => [[obj e 188 [.slice d c.length b, .int .i64 a], F]].getD j []) (fun γ => [(2, .slice none 0 0), (3, .int .i64 a)]) mixed (by decide) (by decide) (by decide) (by decide) (by decide) (by decide) (by decide) 17 O (by decide) (by decide) (by decide) (Ent.refl _) ?_ ?_ (fun _ => ⟨O, O, trivial⟩) ?_
 exact (aq O (fun γ => qm O (.o (s := 0) O (by decide) .nil) O) (aq O (fun γ => qp O O (.v 0 O O .nil) (cj O O) O) (aq O (fun γ => qp O O (.v 1 O O .nil) (aw O O underlying188 O O sizeOf3 O) O) (aq O (fun γ => qp O O (.v 2 O O .nil) (ai O O isAgg3 (.obj 0 O O)) O) (aq O (fun γ => qp O O .nil (dA O O) O) (aq O (fun γ => qp O O (.v 3 O O .nil) (dA O O) O) zA))))))
 exact zA
 intro n
 refine ae (ak ?_)
 refine ax ?_
 exact av (none, 0) O O O (.pr_in ⟨Rd.nil _ _, Nat.le_refl _, Nat.zero_le _⟩ (.sel 0 O (.sel 0 O (.nil _))))

def cJ.f (b : List UInt8) (a : Int) : Option (List UInt8 × Int) := if a = (0 : Int) then (some (b, 0)) else (some (([] : List UInt8), a))
theorem cJ.calls (W : World) (F : HA) (e : Nat) (c : Option Addr) (d : Nat) (a : List UInt8) (b : Int)  :
    Fn Tryz.prog W 139 [.pointer (some ⟨e, 0, none⟩)] [obj e 188 [.slice c a.length d, .int .i64 b], Row 5 1 c a.length d (ao a)] F (cJ.f a b) (fun (r : List UInt8 × Int) (y : Option Addr × Nat) => .tuple #[.slice y.1 r.1.length y.2, .int .i64 r.2]) (fun r y => [Row 5 1 y.1 r.1.length y.2 (ao r.1)]) := by
 unfold cJ.f
 refine aJ 17 Tryz.func139 O Tryz.ntmps139 O ?_
 refine sr ?_
 refine va O O ?_
 refine va O O (ag (ae (ap (sr ?_))))
 refine vm O O ?_
 refine vn O O ?_
 refine vq (aw O O underlying188 O O sizeOf3 O) O ?_
 refine vq (ai O O isAgg3 (.obj 0 O O)) O ?_
 refine vq (cz O O O) O (ag (ae ?_))
 refine br O (fun g => ?_) (fun h => ?_)
 refine au ?_
 refine ae (sr ?_)
 refine vm O O ?_
 refine vn O O ?_
 refine vq (aw O O underlying188 O O sizeOf25 O) O ?_
 refine vq (ai O O isAgg25 (.obj 0 O O)) O ?_
 refine va O O ?_
 refine va O O (ag (ae (ak ?_)))
 exact av (c, d) O O O (.sel 1 O (.sel 1 O (.nil _)))
 refine ap ?_
 refine bp (Γ := Unit) () [[], [0], [0, 1], [0, 1, 2], [], rL 5] [] [0, 1, 2, 3, 4, 5] (fun i => [[0], [0], [0], [0], [0], [0]].getD i []) (fun i => [[], [], [], [], [], []].getD i []) (fun γ i => [.pointer (some ⟨e, 0, none⟩), .pointer (some ⟨e, 0, none⟩), .pointer (some ⟨e, 1, none⟩), .int .i64 b, .slice none 0 0, .int .i64 b].getD i undef) (fun j γ => [[obj e 188 [.slice c a.length d, .int .i64 b], Row 5 1 c a.length d (ao a), F]].getD j []) (fun γ => [(2, .slice none 0 0), (3, .int .i64 b)]) mixed (by decide) (by decide) (by decide) (by decide) (by decide) (by decide) (by decide) 17 O (by decide) (by decide) (by decide) (Ent.refl _) ?_ ?_ (fun _ => ⟨O, O, trivial⟩) ?_
 exact (aq O (fun γ => qm O (.o (s := 0) O (by decide) .nil) O) (aq O (fun γ => qp O O (.v 0 O O .nil) (cj O O) O) (aq O (fun γ => qp O O (.v 1 O O .nil) (aw O O underlying188 O O sizeOf3 O) O) (aq O (fun γ => qp O O (.v 2 O O .nil) (ai O O isAgg3 (.obj 0 O O)) O) (aq O (fun γ => qp O O .nil (dA O O) O) (aq O (fun γ => qp O O (.v 3 O O .nil) (dA O O) O) zA))))))
 exact zA
 intro k
 refine ae (ak ?_)
 refine ax ?_
 exact av (none, 0) O O O (.row_nil (.sel 2 O (.nil _)))

def dS.f (k : Nat) (a : Int) (b : Int) (c : List UInt8) : Option (List UInt8 × Int) := (dC.f a b c).bind fun h => (if h = (0 : Int) then ((cA.f k ([] : List UInt8) (0 : Int) a).bind fun i => ((cA.f k i.1 i.2 b).bind fun d => ((dt.f k d.1 d.2 c (524288 : Int)).bind fun e => ((cJ.f e.1 e.2).bind fun g => (some (g.1, g.2)))))) else (some (([] : List UInt8), h)))
theorem dS.calls (W : World) (F : HA) (k : Nat) (c : Int) (d : Int) (e : Option Addr) (b : Nat) (a : List UInt8) (s : Rd F e (ao a)) (p : a.length ≤ b) (q : b ≤ maxLen) :
    Fn Tryz.prog W 90 [.agg #[.int .i64 c, .int .i64 d, .slice e a.length b]] [] F (dS.f k c d a) (fun (r : List UInt8 × Int) (y : Option Addr × Nat) => .tuple #[.slice y.1 r.1.length y.2, .int .i64 r.2]) (fun r y => [Row 5 1 y.1 r.1.length y.2 (ao r.1)]) := by
 unfold dS.f
 refine aJ 29 Tryz.func90 O Tryz.ntmps90 O ?_
 refine sr ?_
 refine ah (dL O O O) O O O ?_
 intro o
 refine va O O ?_
 refine va O O (nx ?_)
 refine vq (du 0 O O isAgg27 sizeOf27 O O) O ?_
 refine am (fun ad z => ?_)
 refine ah (ar (vs := [.agg #[.int .i64 c, .int .i64 d, .slice e a.length b]]) (cap := []) (A := []) (rst := [obj o 27 [.int .i64 c, .int .i64 d, .slice e a.length b], F]) O O O O O O call104 (.sel 0 O (.sel 0 O (.nil _))) (dC.calls _ _ c d e b a (s.lend 1 O) p q) z) O O O ?_
 intro af
 refine va O O (ag (ae (ap (sr ?_))))
 refine vm O O ?_
 refine vq (cz O O O) O (ag (ae ?_))
 refine br O (fun al => ?_) (fun an => ?_)
 refine au ?_
 refine ae (sr ?_)
 refine vq (eb (v := .agg #[.slice none 0 0, .int .i64 0]) O O (fun _ => by kernel_rfl)) O ?_
 refine ah (dL O O O) O O O ?_
 intro g
 refine va O O (nx ?_)
 refine vm O O ?_
 refine vq (aw O O underlying27 O O sizeOf3 O) O ?_
 refine vq (ai O O isAgg3 (.obj 1 O O)) O ?_
 refine am (fun n aa => ?_)
 refine ah (ar (vs := [.pointer (some ⟨g, 0, none⟩), .int .i64 c]) (cap := []) (A := [obj g 188 [.slice none 0 0, .int .i64 0], Row 5 1 none ([] : List UInt8).length 0 (ao ([] : List UInt8))]) (rst := [obj o 27 [.int .i64 c, .int .i64 d, .slice e a.length b], F]) O O O O O O call137 (.sel 0 O (.row_nil (.sel 0 O (.sel 0 O (.nil _))))) (cA.calls _ _ k g none 0 ([] : List UInt8) (0 : Int) c ) aa) O O O ?_
 intro h
 refine nx ?_
 refine vm O O ?_
 refine vq (aw O O underlying27 O O sizeOf3 O) O ?_
 refine vq (ai O O isAgg3 (.obj 2 O O)) O ?_
 refine am (fun i u => ?_)
 refine ah (ar (vs := [.pointer (some ⟨g, 0, none⟩), .int .i64 d]) (cap := []) (A := [obj g 188 [.slice h.1 n.1.length h.2, .int .i64 n.2], Row 5 1 h.1 n.1.length h.2 (ao n.1)]) (rst := [obj o 27 [.int .i64 c, .int .i64 d, .slice e a.length b], F]) O O O O O O call137 (.sel 0 O (.sel 0 O (.sel 0 O (.sel 0 O (.nil _))))) (cA.calls _ _ k g h.1 h.2 n.1 n.2 d ) u) O O O ?_
 intro j
 refine nx ?_
 refine vm O O ?_
 refine vq (aw O O underlying27 O O sizeOf25 O) O ?_
 refine vq (ai O O isAgg25 (.obj 2 O O)) O ?_
 refine am (fun l w => ?_)
 refine ah (ar (vs := [.pointer (some ⟨g, 0, none⟩), .slice e a.length b, .int .i64 524288]) (cap := []) (A := [obj g 188 [.slice j.1 i.1.length j.2, .int .i64 i.2], Row 5 1 j.1 i.1.length j.2 (ao i.1)]) (rst := [obj o 27 [.int .i64 c, .int .i64 d, .slice e a.length b], F]) O O O O O O call138 (.sel 0 O (.sel 0 O (.sel 0 O (.sel 0 O (.nil _))))) (dt.calls _ _ k g j.1 j.2 i.1 i.2 e b a (524288 : Int) (s.lend 1 O) p q) w) O O O ?_
 intro m
 refine nx ?_
 refine vm O O ?_
 refine am (fun ab x => ?_)
 refine ah (ar (vs := [.pointer (some ⟨g, 0, none⟩)]) (cap := []) (A := [obj g 188 [.slice m.1 l.1.length m.2, .int .i64 l.2], Row 5 1 m.1 l.1.length m.2 (ao l.1)]) (rst := [obj o 27 [.int .i64 c, .int .i64 d, .slice e a.length b], F]) O O O O O O call139 (.sel 0 O (.sel 0 O (.sel 0 O (.sel 0 O (.nil _))))) (cJ.calls _ _ g m.1 m.2 l.1 l.2 ) x) O O O ?_
 intro t
 refine vq (bh O O O) O ?_
 refine vq (bh O O O) O ?_
 refine va O O ?_
 refine va O O (ag (ae (ak ?_)))
 exact av (t.1, t.2) O O O (.sel 0 O (.sel 1 O (.nil _)))
 refine sr ?_
 refine vm O O ?_
 refine va O O ?_
 refine va O O (ag (ae (ak ?_)))
 refine ax ?_
 exact av (none, 0) O O O (.row_nil (.sel 1 O (.nil _)))

def eY.f (x0 : Int) : Option (List UInt8) := if 0 ≤ IntKind.u8.wrap x0 ∧ IntKind.u8.wrap x0 < 256 then (if 0 ≤ IntKind.u8.wrap (Int.fdiv x0 (2 ^ (min (8 : Int).toNat IntKind.u32.bits))) ∧ IntKind.u8.wrap (Int.fdiv x0 (2 ^ (min (8 : Int).toNat IntKind.u32.bits))) < 256 then (if 0 ≤ IntKind.u8.wrap (Int.fdiv x0 (2 ^ (min (16 : Int).toNat IntKind.u32.bits))) ∧ IntKind.u8.wrap (Int.fdiv x0 (2 ^ (min (16 : Int).toNat IntKind.u32.bits))) < 256 then (if 0 ≤ IntKind.u8.wrap (Int.fdiv x0 (2 ^ (min (24 : Int).toNat IntKind.u32.bits))) ∧ IntKind.u8.wrap (Int.fdiv x0 (2 ^ (min (24 : Int).toNat IntKind.u32.bits))) < 256 then (some ([(cS (IntKind.u8.wrap x0)), (cS (IntKind.u8.wrap (Int.fdiv x0 (2 ^ (min (8 : Int).toNat IntKind.u32.bits))))), (cS (IntKind.u8.wrap (Int.fdiv x0 (2 ^ (min (16 : Int).toNat IntKind.u32.bits))))), (cS (IntKind.u8.wrap (Int.fdiv x0 (2 ^ (min (24 : Int).toNat IntKind.u32.bits)))))] : List UInt8)) else none) else none) else none) else none
theorem eY.calls (W : World) (F : HA) (x0 : Int)  :
    Fn Tryz.prog W 140 [.int .u32 x0] [] F (eY.f x0) (fun (r : List UInt8) (y : Option Addr × Nat) => .slice y.1 r.length y.2) (fun r y => [Row 5 1 y.1 r.length y.2 (ao r)]) := by
 unfold eY.f
 refine aJ 15 Tryz.func140 O Tryz.ntmps140 O ?_
 refine sr ?_
 refine va O O (nx ?_)
 refine vm O O ?_
 refine vq (dy O O underlying170 underlying5) O ?_
 refine vm O O ?_
 refine vq (kL O O O (by decide)) O ?_
 refine vq (dy O O underlying170 underlying5) O ?_
 refine vm O O ?_
 refine vq (kL O O O (by decide)) O ?_
 refine vq (dy O O underlying170 underlying5) O ?_
 refine vm O O ?_
 refine vq (kL O O O (by decide)) O ?_
 refine vq (dy O O underlying170 underlying5) O ?_
 refine aQ (fun a => ?_)
 refine aQ (fun b => ?_)
 refine aQ (fun c => ?_)
 refine aQ (fun d => ?_)
 refine ah (jD (cs := [.int .u8 (IntKind.u8.wrap x0), .int .u8 (IntKind.u8.wrap (Int.fdiv x0 (2 ^ (min (8 : Int).toNat IntKind.u32.bits)))), .int .u8 (IntKind.u8.wrap (Int.fdiv x0 (2 ^ (min (16 : Int).toNat IntKind.u32.bits)))), .int .u8 (IntKind.u8.wrap (Int.fdiv x0 (2 ^ (min (24 : Int).toNat IntKind.u32.bits))))]) ([(cS (IntKind.u8.wrap x0)), (cS (IntKind.u8.wrap (Int.fdiv x0 (2 ^ (min (8 : Int).toNat IntKind.u32.bits))))), (cS (IntKind.u8.wrap (Int.fdiv x0 (2 ^ (min (16 : Int).toNat IntKind.u32.bits))))), (cS (IntKind.u8.wrap (Int.fdiv x0 (2 ^ (min (24 : Int).toNat IntKind.u32.bits)))))] : List UInt8) O O underlying25 eP O (by kernel_rfl) O O (iV (gl a.1 a.2) (iV (gl b.1 b.2) (iV (gl c.1 c.2) (iV (gl d.1 d.2) tW))))) O O O ?_
 intro e
 refine va O O (ag (ae (ak ?_)))
 exact av ((some ⟨e, 0, none⟩), 4) O O O (.sel 0 O (.sel 0 O (.nil _)))

def cW.l0 : Nat → Int → Int → Option (Int)
  | 0, _, _ => none
  | k + 1, a, b => if b < (8 : Int) then (if Int.tmod a 2 = (1 : Int) then (cW.l0 k (bC .xor .u32 (IntKind.u32.wrap (Int.tdiv a 2)) 2197175160) (IntKind.i64.wrap (b + 1))) else (cW.l0 k (IntKind.u32.wrap (Int.tdiv a 2)) (IntKind.i64.wrap (b + 1)))) else (some a)
def cW.f (k : Nat) (x0 : Int) (x1 : Int) : Option (Int) := (cW.l0 k (bC .xor .u32 x0 (IntKind.u32.wrap x1)) 0).bind fun a => (some a)
theorem cW.calls (W : World) (F : HA) (k : Nat) (x0 : Int) (x1 : Int)  :
    Fn Tryz.prog W 175 [.int .u32 x0, .int .u8 x1] [] F (cW.f k x0 x1) (fun (r : Int) (y : Unit) => .int .u32 r) (fun r y => []) := by
 unfold cW.f
 refine aJ 24 Tryz.func175 O Tryz.ntmps175 O ?_
 refine sr ?_
 refine va O O (nx ?_)
 refine vm O O ?_
 refine vm O O ?_
 refine vq (dy O O underlying5 underlying170) O ?_
 refine vq (pd O O O) O ?_
 refine va O O (ag (ae ?_))
 refine bO (S := Int) (Unit) (fun s y => [(0, .int .u32 s)]) (fun s y => [F]) ?_ ?_
 refine sr ?_
 refine va O O (ag (ae ?_))
 refine aK ?_
 refine bX (S := Int × Int) (Unit) (fun k s => cW.l0 k s.1 s.2) (fun s y => [(0, .int .u32 s.1), (5, .int .i64 s.2)]) (fun s y => [F]) (fun _ => by rw [cW.l0]) ?_ k (bC .xor .u32 x0 (IntKind.u32.wrap x1), 0) () ⟨O, O, trivial⟩ (.sel 0 O (.nil _))
 intro k a d
 refine cL (by rw [cW.l0]) ?_
 refine ap (sr ?_)
 refine vm O O ?_
 refine vq (bN O O O) O (ag (ae ?_))
 refine aL O (fun e => ?_) (fun g => ?_)
 refine au ?_
 refine ae (ap ?_)
 refine aK ?_
 refine sr ?_
 refine vm O O ?_
 refine vq (rc O O O (by decide)) O ?_
 refine vq (bD O O O) O ?_
 refine va O O (nx ?_)
 refine vm O O ?_
 refine vq (mp O O O (by decide)) O ?_
 refine va O O (nx ?_)
 refine vm O O (ag (ae ?_))
 refine aL O (fun b => ?_) (fun c => ?_)
 refine aE ?_
 refine vm O O ?_
 refine vq (pd O O O) O ?_
 refine va O O (ag (bb (ae (aE ?_))))
 refine vm O O ?_
 refine vq (bj O O O) O ?_
 refine va O O (ag ?_)
 exact bu (s := (bC .xor .u32 (IntKind.u32.wrap (Int.tdiv a.1 2)) 2197175160, IntKind.i64.wrap (a.2 + 1))) () ⟨O, O, trivial⟩ (.sel 0 O (.nil _))
 refine au ?_
 refine bb (ae (aE ?_))
 refine vm O O ?_
 refine vq (bj O O O) O ?_
 refine va O O (ag ?_)
 exact bu (s := (IntKind.u32.wrap (Int.tdiv a.1 2), IntKind.i64.wrap (a.2 + 1))) () ⟨O, O, trivial⟩ (.sel 0 O (.nil _))
 refine ck ?_
 refine bQ ?_
 refine bY ?_
 refine bR ?_
 exact aM (s := a.1) () ⟨O, trivial⟩ (.sel 0 O (.nil _))
 intro h i
 refine sr ?_
 refine vm O O ?_
 refine va O O (ag (ae (ak ?_)))
 exact av () O O O (.sel 0 O (.nil _))

def cO.l0 (x0 : List UInt8) : Nat → Int → Int → Option (Int)
  | 0, _, _ => none
  | k + 1, b, a => if a < (x0.length : Int) then (if 0 ≤ a ∧ a < (x0.length : Int) then ((cW.f k b ((x0.getD a.toNat 0).toNat : Int)).bind fun c => (cO.l0 x0 k c (IntKind.i64.wrap (a + 1)))) else none) else (some b)
def cO.f (k : Nat) (x0 : List UInt8) : Option (Int) := (cO.l0 x0 k 4294967295 0).bind fun a => (some (bC .xor .u32 (if IntKind.u32.signed then -1 else IntKind.u32.max) a))
theorem cO.calls (W : World) (F : HA) (k : Nat) (a0 : Option Addr) (c0 : Nat) (x0 : List UInt8) (h0 : Rd F a0 (ao x0)) (l : x0.length ≤ c0) (m : c0 ≤ maxLen) :
    Fn Tryz.prog W 141 [.slice a0 x0.length c0] [] F (cO.f k x0) (fun (r : Int) (y : Unit) => .int .u32 r) (fun r y => []) := by
 unfold cO.f
 refine aJ 19 Tryz.func141 O Tryz.ntmps141 O ?_
 refine sr ?_
 refine va O O (nx ?_)
 refine va O O (ag (ae ?_))
 refine bO (S := Int) (Unit) (fun s y => [(3, .int .u32 s)]) (fun s y => [F]) ?_ ?_
 refine sr ?_
 refine va O O (ag (ae ?_))
 refine aK ?_
 refine bX (S := Int × Int) (Unit) (fun k s => cO.l0 x0 k s.1 s.2) (fun s y => [(0, .slice a0 x0.length c0), (3, .int .u32 s.1), (4, .int .i64 s.2)]) (fun s y => [F]) (fun _ => by rw [cO.l0]) ?_ k (4294967295, 0) () ⟨O, O, O, trivial⟩ (.sel 0 O (.nil _))
 intro k a n
 refine cL (by rw [cO.l0]) ?_
 refine ap (sr ?_)
 refine vm O O ?_
 refine vm O O ?_
 refine vq (bi O O O underlying25) O ?_
 refine vq (bN O O O) O (ag (ae ?_))
 refine aL O (fun o => ?_) (fun p => ?_)
 refine au ?_
 refine ae (ap ?_)
 refine aK ?_
 refine aE ?_
 refine vm O O ?_
 refine vm O O ?_
 refine vm O O ?_
 refine aQ (fun c => ?_)
 obtain ⟨h, g, b⟩ := h0.pos (fc (j := a.2.toNat) (by omega))
 refine vq (el O O O b underlying25 sizeOf5 c.1 c.2) O ?_
 refine vq (ai O O isAgg5 (h0.cell 0 O b (eQ (by omega)))) O ?_
 refine am (fun e d => ?_)
 refine ah (ar (vs := [.int .u32 a.1, .int .u8 ((x0.getD a.2.toNat 0).toNat : Int)]) (cap := []) (A := []) (rst := [F]) O O O O O O call175 (.sel 0 O (.nil _)) (cW.calls _ _ k a.1 ((x0.getD a.2.toNat 0).toNat : Int) ) d) O O O ?_
 intro i
 refine va O O (ag (bb (ae (aE ?_))))
 refine vm O O ?_
 refine vq (bj O O O) O ?_
 refine va O O (ag ?_)
 exact bu (s := (e, IntKind.i64.wrap (a.2 + 1))) () ⟨O, O, O, trivial⟩ (.sel 0 O (.nil _))
 refine ck ?_
 refine bQ ?_
 refine bY ?_
 refine bR ?_
 exact aM (s := a.1) () ⟨O, trivial⟩ (.sel 0 O (.nil _))
 intro q t
 refine sr ?_
 refine vm O O ?_
 refine vq (rb O O) O ?_
 refine va O O (ag (ae (ak ?_)))
 exact av () O O O (.sel 0 O (.nil _))

def fV.f (k : Nat) (x0 : List UInt8) : Option (List UInt8 × Int) := if (1048576 : Int) < (x0.length : Int) then (some (([] : List UInt8), 3)) else ((eY.f (IntKind.u32.wrap (x0.length : Int))).bind fun b => ((bl.f b).bind fun c => (if (c.length + x0.length) * 1 ≤ 140737488355328 then ((cO.f k (c ++ x0)).bind fun d => ((eY.f d).bind fun a => (if (b.length + a.length) * 1 ≤ 140737488355328 then (if ((b ++ a).length + x0.length) * 1 ≤ 140737488355328 then (some ((b ++ a) ++ x0, 0)) else none) else none))) else none)))
theorem fV.calls (W : World) (F : HA) (k : Nat) (a0 : Option Addr) (c0 : Nat) (x0 : List UInt8) (h0 : Rd F a0 (ao x0)) (al : x0.length ≤ c0) (an : c0 ≤ maxLen) :
    Fn Tryz.prog W 92 [.slice a0 x0.length c0] [] F (fV.f k x0) (fun (r : List UInt8 × Int) (y : Option Addr × Nat) => .tuple #[.slice y.1 r.1.length y.2, .int .i64 r.2]) (fun r y => [Row 5 1 y.1 r.1.length y.2 (ao r.1)]) := by
 unfold fV.f
 refine aJ 24 Tryz.func92 O Tryz.ntmps92 O ?_
 refine sr ?_
 refine va O O ?_
 refine va O O (ag (ae (ap (sr ?_))))
 refine vm O O ?_
 refine vq (bi O O O underlying25) O ?_
 refine vq (dw O O O) O (ag (ae ?_))
 refine aL O (fun a1 => ?_) (fun a2 => ?_)
 refine sr ?_
 refine va O O ?_
 refine va O O (ag (ae (ak ?_)))
 refine ax ?_
 exact av (none, 0) O O O (.row_nil (.sel 0 O (.nil _)))
 refine au ?_
 refine ae (sr ?_)
 refine vm O O ?_
 refine vq (bi O O O underlying25) O ?_
 refine vq (dy O O underlying3 underlying170) O ?_
 refine am (fun d s => ?_)
 refine ah (ar (vs := [.int .u32 (IntKind.u32.wrap (x0.length : Int))]) (cap := []) (A := []) (rst := [F]) O O O O O O call140 (.sel 0 O (.nil _)) (eY.calls _ _ (IntKind.u32.wrap (x0.length : Int)) ) s) O O O ?_
 intro b
 refine va O O (nx ?_)
 refine vm O O ?_
 refine am (fun c h => ?_)
 refine bf 0 O (fun t u v x => ?_)
 refine ah (ar (vs := [.slice b.1 d.length b.2]) (cap := []) (A := []) (rst := [Row 5 1 b.1 d.length b.2 (ao d), F]) O O O O O O call89 (.sel 0 O (.sel 0 O (.nil _))) (bl.calls _ _ b.1 b.2 d (t.lend 0 O) u v) h) O O O ?_
 intro z
 refine vm O O ?_
 refine aQ (fun i => ?_)
 refine ah (dd 0 O O O underlying25 eP O (h0.rds 1 O) i) O O O ?_
 intro a
 refine am (fun e j => ?_)
 refine bf 0 O (fun l m n w => ?_)
 refine ah (ar (vs := [.slice a.1 ((c ++ x0).length) a.2]) (cap := []) (A := []) (rst := [Row 5 1 a.1 (c ++ x0).length a.2 (ao (c ++ x0)), Row 5 1 b.1 d.length b.2 (ao d), F]) O O O O O O call141 (.sel 0 O (.sel 0 O (.sel 0 O (.nil _)))) (cO.calls _ _ k a.1 a.2 (c ++ x0) (l.lend 0 O) m n) j) O O O ?_
 intro aa
 refine am (fun ab o => ?_)
 refine ah (ar (vs := [.int .u32 e]) (cap := []) (A := []) (rst := [Row 5 1 a.1 (c ++ x0).length a.2 (ao (c ++ x0)), Row 5 1 b.1 d.length b.2 (ao d), F]) O O O O O O call140 (.sel 0 O (.sel 0 O (.sel 0 O (.nil _)))) (eY.calls _ _ e ) o) O O O ?_
 intro ad
 refine va O O (nx ?_)
 refine vm O O ?_
 refine vm O O ?_
 refine aQ (fun p => ?_)
 refine ah (dd 2 O O O underlying25 eP O (Rds.row 0 O) p) O O O ?_
 intro af
 refine vm O O ?_
 refine aQ (fun q => ?_)
 refine ah (dd 2 O O O underlying25 eP O (h0.rds 2 O) q) O O O ?_
 intro g
 refine va O O ?_
 refine va O O (ag (ae (ak ?_)))
 exact av (g.1, g.2) O O O (.sel 2 O (.sel 2 O (.nil _)))

def aU.l0 (b : List (ba)) (x1 : List UInt8) : Nat → Int → Option ((Unit) ⊕ (Int))
  | 0, _ => none
  | k + 1, a => if a < (b.length : Int) then (if 0 ≤ a ∧ a < (b.length : Int) then (if ((b.getD a.toNat aj).1) = x1 then (some (.inr a)) else (aU.l0 b x1 k (IntKind.i64.wrap (a + 1)))) else none) else (some (.inl ()))
def aU.f (k : Nat) (a : List (ba)) (b : Int) (c : Bool) (d : List UInt8) (x1 : List UInt8) : Option (Int) := orR (aU.l0 a x1 k 0) fun e => (some (-1))
theorem aU.calls (W : World) (F : HA) (k : Nat) (b0 : Nat) (c : Option Addr) (b : Nat) (a : List (ba)) (d : Int) (e : Bool) (g : List UInt8) (x1 : List UInt8) (n : RdV F 3 (V71 F) c a) (p : a.length ≤ b) (q : b ≤ maxLen) :
    Fn Tryz.prog W 99 [.pointer (some ⟨b0, 0, none⟩), str x1] [obj b0 49 [.slice c a.length b, .int .i64 d, .bool e, str g]] F (aU.f k a d e g x1) (fun (r : Int) (y : Unit) => .int .i64 r) (fun r y => [obj b0 49 [.slice c a.length b, .int .i64 d, .bool e, str g]]) := by
 unfold aU.f
 refine aJ 26 Tryz.func99 O Tryz.ntmps99 O ?_
 refine sr ?_
 refine va O O (ag (ae ?_))
 refine fx (S := Unit) (Unit) (fun s y => []) (fun s y => [obj b0 49 [.slice c a.length b, .int .i64 d, .bool e, str g], F]) ?_ ?_
 refine sr ?_
 refine va O O (ag (ae ?_))
 refine aK ?_
 refine bX (S := Int) (Unit) (fun k s => aU.l0 a x1 k s) (fun s y => [(0, .pointer (some ⟨b0, 0, none⟩)), (1, str x1), (5, .int .i64 s)]) (fun s y => [obj b0 49 [.slice c a.length b, .int .i64 d, .bool e, str g], F]) (fun _ => by rw [aU.l0]) ?_ k 0 () ⟨O, O, O, trivial⟩ (.sel 0 O (.sel 0 O (.nil _)))
 intro k m af
 refine cL (by rw [aU.l0]) ?_
 refine ap (sr ?_)
 refine vm O O ?_
 refine vm O O ?_
 refine vn O O ?_
 refine vq (aw O O underlying49 O O sizeOf47 O) O ?_
 refine vq (ai O O isAgg47 (.obj 0 O O)) O ?_
 refine vq (bi O O O underlying47) O ?_
 refine vq (bN O O O) O (ag (ae ?_))
 refine aL O (fun al => ?_) (fun an => ?_)
 refine au ?_
 refine ae (ap ?_)
 refine aK ?_
 refine sr ?_
 refine vm O O ?_
 refine vn O O ?_
 refine vq (aw O O underlying49 O O sizeOf47 O) O ?_
 refine vq (ai O O isAgg47 (.obj 0 O O)) O ?_
 refine vm O O ?_
 refine aQ (fun h => ?_)
 obtain ⟨a0, w, x, j, l, o, hcell15v⟩ := RdV.pos n (Up.refl _) rfl (i := m.toNat) (by omega) aj
 obtain ⟨z, aa, rfl, ⟨t, u, v⟩⟩ := l
 refine vq (ct O O O j underlying47 sizeOf71 h.1 h.2) O ?_
 refine vq (aw O O underlying71 O O sizeOf9 O) O ?_
 refine vq (ai O O isAgg9 (hcell15v 1 O 0 _ O)) O ?_
 refine vm O O ?_
 refine vq (js O O O) O (ag (ae ?_))
 refine aL O (fun ab => ?_) (fun ad => ?_)
 refine sr ?_
 refine vm O O ?_
 refine va O O (ag (ae (ak ?_)))
 refine aP ?_
 refine ax ?_
 refine eS ?_
 refine aP ?_
 refine eG ?_
 exact av () O O O (.sel 0 O (.sel 0 O (.nil _)))
 refine au ?_
 refine bb (ae (aE ?_))
 refine vm O O ?_
 refine vq (bj O O O) O ?_
 refine va O O (ag ?_)
 exact bu (s := IntKind.i64.wrap (m + 1)) () ⟨O, O, O, trivial⟩ (.sel 0 O (.sel 0 O (.nil _)))
 refine ck ?_
 refine bQ ?_
 refine bY ?_
 refine bR ?_
 exact fg (s := ()) () trivial (.sel 0 O (.sel 0 O (.nil _)))
 intro a1 a2
 refine sr ?_
 refine va O O (ag (ae (ak ?_)))
 exact av () O O O (.sel 0 O (.sel 0 O (.nil _)))

def co.f (k : Nat) (a : List (ba)) (c : Int) (d : Bool) (e : List UInt8) (x1 : List UInt8) : Option (List UInt8 × Int) := (aU.f k a c d e x1).bind fun b => (if b < (0 : Int) then (some (([] : List UInt8), 8)) else (if 0 ≤ b ∧ b < (a.length : Int) then ((bl.f ((a.getD b.toNat aj).2.1)).bind fun g => (some (g, 0))) else none))
theorem co.calls (W : World) (F : HA) (k : Nat) (b0 : Nat) (c : Option Addr) (b : Nat) (a : List (ba)) (d : Int) (e : Bool) (g : List UInt8) (x1 : List UInt8) (h : RdV F 3 (V71 F) c a) (p : a.length ≤ b) (q : b ≤ maxLen) :
    Fn Tryz.prog W 56 [.pointer (some ⟨b0, 0, none⟩), str x1] [obj b0 49 [.slice c a.length b, .int .i64 d, .bool e, str g]] F (co.f k a d e g x1) (fun (r : List UInt8 × Int) (y : Option Addr × Nat) => .tuple #[.slice y.1 r.1.length y.2, .int .i64 r.2]) (fun r y => [Row 5 1 y.1 r.1.length y.2 (ao r.1), obj b0 49 [.slice c a.length b, .int .i64 d, .bool e, str g]]) := by
 unfold co.f
 refine aJ 21 Tryz.func56 O Tryz.ntmps56 O ?_
 refine sr ?_
 refine va O O ?_
 refine va O O (nx ?_)
 refine vm O O ?_
 refine vm O O ?_
 refine am (fun j x => ?_)
 refine ah (ar (vs := [.pointer (some ⟨b0, 0, none⟩), str x1]) (cap := []) (A := [obj b0 49 [.slice c a.length b, .int .i64 d, .bool e, str g]]) (rst := [F]) O O O O O O call99 (.sel 0 O (.sel 0 O (.nil _))) (aU.calls _ _ k b0 c b a d e g x1 (h.up (Up.lend 0 O) (V71.up (Up.lend 0 O))) p q) x) O O O ?_
 intro al
 refine va O O (ag (ae (ap (sr ?_))))
 refine vm O O ?_
 refine vq (bN O O O) O (ag (ae ?_))
 refine aL O (fun an => ?_) (fun a0 => ?_)
 refine sr ?_
 refine va O O ?_
 refine va O O (ag (ae (ak ?_)))
 refine ax ?_
 exact av (none, 0) O O O (.row_nil (.sel 0 O (.sel 0 O (.nil _))))
 refine au ?_
 refine ae (sr ?_)
 refine vm O O ?_
 refine vn O O ?_
 refine vq (aw O O underlying49 O O sizeOf47 O) O ?_
 refine vq (ai O O isAgg47 (.obj 0 O O)) O ?_
 refine vm O O ?_
 refine aQ (fun l => ?_)
 obtain ⟨a1, ab, ad, z, s, aa, hcell13v⟩ := RdV.pos h (Up.refl _) rfl (i := j.toNat) (by omega) aj
 obtain ⟨m, n, rfl, ⟨t, u, v⟩⟩ := s
 refine vq (ct O O O z underlying47 sizeOf71 l.1 l.2) O ?_
 refine vq (aw O O underlying71 O O sizeOf25 O) O ?_
 refine vq (ai O O isAgg25 (hcell13v 1 O 1 _ O)) O ?_
 refine am (fun af w => ?_)
 refine ah (ar (vs := [.slice m (((a.getD j.toNat aj).2.1).length) n]) (cap := []) (A := []) (rst := [obj b0 49 [.slice c a.length b, .int .i64 d, .bool e, str g], F]) O O O O O O call89 (.sel 0 O (.sel 0 O (.nil _))) (bl.calls _ _ m n ((a.getD j.toNat aj).2.1) (t.lend 1 O) u v) w) O O O ?_
 intro o
 refine va O O ?_
 refine va O O (ag (ae (ak ?_)))
 exact av (o.1, o.2) O O O (.sel 0 O (.sel 0 O (.sel 0 O (.nil _))))

def bI.f (d : List (ba)) (a : Int) (c : Bool) (b : List UInt8) : Option (Bool × Int × Bool × List UInt8) := if a < (1 : Int) then (some (false, a, c, b)) else (some (decide (IntKind.i64.wrap (a - 1) = (0 : Int)), IntKind.i64.wrap (a - 1), decide (IntKind.i64.wrap (a - 1) = (0 : Int)), b))
theorem bI.calls (W : World) (F : HA) (b0 : Nat) (c : Option Addr) (b : Nat) (a : List (ba)) (d : Int) (e : Bool) (g : List UInt8) (j : RdV F 3 (V71 F) c a) (h : a.length ≤ b) (i : b ≤ maxLen) :
    Fn Tryz.prog W 142 [.pointer (some ⟨b0, 0, none⟩)] [obj b0 49 [.slice c a.length b, .int .i64 d, .bool e, str g]] F (bI.f a d e g) (fun (r : Bool × Int × Bool × List UInt8) (y : Unit) => .bool r.1) (fun r y => [obj b0 49 [.slice c a.length b, .int .i64 r.2.1, .bool r.2.2.1, str r.2.2.2]]) := by
 unfold bI.f
 refine aJ 28 Tryz.func142 O Tryz.ntmps142 O ?_
 refine sr ?_
 refine va O O (ag (ae (ap (sr ?_))))
 refine vm O O ?_
 refine vn O O ?_
 refine vq (aw O O underlying49 O O sizeOf3 O) O ?_
 refine vq (ai O O isAgg3 (.obj 0 O O)) O ?_
 refine vq (bN O O O) O (ag (ae ?_))
 refine aL O (fun k => ?_) (fun l => ?_)
 refine sr ?_
 refine va O O (ag (ae (ak ?_)))
 refine ax ?_
 exact av () O O O (.sel 0 O (.sel 0 O (.nil _)))
 refine au ?_
 refine ae (sr ?_)
 refine vm O O ?_
 refine vm O O ?_
 refine vn O O ?_
 refine vq (aw O O underlying49 O O sizeOf3 O) O ?_
 refine vq (ai O O isAgg3 (.obj 0 O O)) O ?_
 refine vq (ft O O O) O ?_
 refine vn O O ?_
 refine vq (aw O O underlying49 O O sizeOf3 O) O ?_
 refine aX (aV 0 O O O sizeOf3 O O (aY (by rfl)) O O) O O ?_
 intro _
 refine nx ?_
 refine vm O O ?_
 refine vm O O ?_
 refine vn O O ?_
 refine vq (aw O O underlying49 O O sizeOf3 O) O ?_
 refine vq (ai O O isAgg3 (.obj 0 O O)) O ?_
 refine vq (bD O O O) O ?_
 refine vn O O ?_
 refine vq (aw O O underlying49 O O sizeOf4 O) O ?_
 refine aX (aV 0 O O O sizeOf4 O O (aY (by rfl)) O O) O O ?_
 intro _
 refine nx ?_
 refine vm O O ?_
 refine vn O O ?_
 refine vq (aw O O underlying49 O O sizeOf4 O) O ?_
 refine vq (ai O O isAgg4 (.obj 0 O O)) O ?_
 refine va O O (ag (ae (ak ?_)))
 exact av () O O O (.sel 0 O (.sel 0 O (.nil _)))

def cV.f (a : List (ba)) (b : Int) (c : Bool) (d : List UInt8) (x1 : Int) : Option (List UInt8 × List UInt8 × Int × (List (ba)) × Int × Bool × List UInt8) := if 0 ≤ x1 ∧ x1 < (a.length : Int) then (if 0 ≤ (0 : Int) ∧ (0 : Int) ≤ x1 ∧ x1 ≤ (a.length : Int) then (if (([] : List (ba)).length + (cut a (0 : Int) x1).length) * 48 ≤ 140737488355328 then (if 0 ≤ IntKind.i64.wrap (x1 + 1) ∧ IntKind.i64.wrap (x1 + 1) ≤ (a.length : Int) ∧ (a.length : Int) ≤ (a.length : Int) then (if ((([] : List (ba)) ++ (cut a (0 : Int) x1)).length + (cut a (IntKind.i64.wrap (x1 + 1)) (a.length : Int)).length) * 48 ≤ 140737488355328 then (some ((a.getD x1.toNat aj).1, (a.getD x1.toNat aj).2.1, (a.getD x1.toNat aj).2.2, (([] : List (ba)) ++ (cut a (0 : Int) x1)) ++ (cut a (IntKind.i64.wrap (x1 + 1)) (a.length : Int)), b, c, d)) else none) else none) else none) else none) else none
theorem cV.calls (W : World) (F : HA) (b0 : Nat) (b : Option Addr) (c : Nat) (a : List (ba)) (e : HA) (k : Int) (n : Bool) (o : List UInt8) (x1 : Int)  :
    Fn Tryz.prog W 143 [.pointer (some ⟨b0, 0, none⟩), .int .i64 x1] [obj b0 49 [.slice b a.length c, .int .i64 k, .bool n, str o], aC 71 3 (V71 e) b a c, e] F (cV.f a k n o x1) (fun (r : List UInt8 × List UInt8 × Int × (List (ba)) × Int × Bool × List UInt8) (y : Option Addr × Nat × Option Addr × Nat × HA) => .agg #[str r.1, .slice y.1 r.2.1.length y.2.1, .int .i64 r.2.2.1]) (fun r y => [pr (Rd (y.2.2.2.2) y.1 (ao r.2.1) ∧ r.2.1.length ≤ y.2.1 ∧ y.2.1 ≤ maxLen), pr (Up e y.2.2.2.2), obj b0 49 [.slice y.2.2.1 r.2.2.2.1.length y.2.2.2.1, .int .i64 r.2.2.2.2.1, .bool r.2.2.2.2.2.1, str r.2.2.2.2.2.2], aC 71 3 (V71 (y.2.2.2.2)) y.2.2.1 r.2.2.2.1 y.2.2.2.1, y.2.2.2.2]) := by
 unfold cV.f
 refine aJ 35 Tryz.func143 O Tryz.ntmps143 O ?_
 refine sr ?_
 refine ah (df O zeroValue71 O) O O O ?_
 intro w
 refine nx ?_
 refine vm O O ?_
 refine vn O O ?_
 refine vq (aw O O underlying49 O O sizeOf47 O) O ?_
 refine vq (ai O O isAgg47 (.obj 1 O O)) O ?_
 refine vm O O ?_
 refine bd 2 O (fun d s => ?_)
 refine aQ (fun ab => ?_)
 refine dP 2 O s O (i := x1.toNat) (by omega) aj (fun c2 b9 c3 a9 bc be hcell9v => ?_)
 obtain ⟨p, q, rfl, ⟨af, al, an⟩⟩ := bc
 refine vq (ct O O O a9 underlying47 sizeOf71 ab.1 ab.2) O ?_
 refine vq (lL O O isAgg71 sizeOf71 O (fun j v hj => hcell9v 2 O j v hj)) O ?_
 refine ah (df O zeroValue71 O) O O O ?_
 intro t
 refine aX (aV 0 O O O sizeOf71 O O (aY (by rfl)) O O) O O ?_
 intro _
 refine nx ?_
 refine ah (rE (α := List UInt8 × List UInt8 × Int) (V := (V71 F)) O underlying47 ki) O O O ?_
 intro u
 refine vm O O ?_
 refine vn O O ?_
 refine vq (aw O O underlying49 O O sizeOf47 O) O ?_
 refine vq (ai O O isAgg47 (.obj 3 O O)) O ?_
 refine vm O O ?_
 refine bf 4 O (fun x g bs b1 => ?_)
 refine gZ (H' := [aN [Row 71 3 b a.length c d.flatten, e], aC 71 3 (V71 F) (some ⟨u, 0, none⟩) ([] : List (ba)) 0, obj t 71 [str ((a.getD x1.toNat aj).1), .slice p (((a.getD x1.toNat aj).2.1).length) q, .int .i64 ((a.getD x1.toNat aj).2.2)], obj w 71 [str ([] : List UInt8), .slice none 0 0, .int .i64 0], obj b0 49 [.slice b a.length c, .int .i64 k, .bool n, str o], F]) (Ent.trans (m := [Row 71 3 b a.length c d.flatten, e, aC 71 3 (V71 F) (some ⟨u, 0, none⟩) ([] : List (ba)) 0, obj t 71 [str ((a.getD x1.toNat aj).1), .slice p (((a.getD x1.toNat aj).2.1).length) q, .int .i64 ((a.getD x1.toNat aj).2.2)], obj w 71 [str ([] : List UInt8), .slice none 0 0, .int .i64 0], obj b0 49 [.slice b a.length c, .int .i64 k, .bool n, str o], F]) (.sel 4 O (.sel 4 O (.sel 0 O (.sel 0 O (.sel 0 O (.sel 0 O (.sel 0 O (.nil _)))))))) (jy [Row 71 3 b a.length c d.flatten, e] _)) ?_
 refine aQ (fun z => ?_)
 obtain ⟨cd, ch, a0, a1, b2, b3⟩ := jJ (lo := (0 : Int)) (hi := x1) (Rd.asV (s.mono (V71.up (Up.lend (l := [Row 71 3 b a.length c d.flatten, e]) 1 rfl))) (Rd.lend (l := [Row 71 3 b a.length c d.flatten, e]) x 0 rfl)) g z
 refine vq (kv (l := a) (lo' := (0 : Int)) (hi' := x1) O O O O underlying47 sizeOf71 (.inr ⟨_, O⟩) (.inl ⟨O, O⟩) z g a0) O ?_
 refine bd 1 O (fun b4 a2 => ?_)
 refine gZ (H' := [aN [Row 71 3 b a.length c d.flatten, e], aC 71 3 (V71 (aN [Row 71 3 b a.length c d.flatten, e])) (some ⟨u, 0, none⟩) ([] : List (ba)) 0, obj t 71 [str ((a.getD x1.toNat aj).1), .slice p (((a.getD x1.toNat aj).2.1).length) q, .int .i64 ((a.getD x1.toNat aj).2.2)], obj w 71 [str ([] : List UInt8), .slice none 0 0, .int .i64 0], obj b0 49 [.slice b a.length c, .int .i64 k, .bool n, str o], F]) (Ent.set' 1 O (fun _ h => aC.empty (aC.mk a2 _ h))) ?_
 refine bd 1 O (fun b5 a3 => ?_)
 refine aQ (fun a4 => ?_)
 refine ah (gM 1 O O O underlying47 ki O a3 (a1.rds 0 O) a4) O O O ?_
 intro cs
 refine va O O (nx ?_)
 refine vm O O ?_
 refine vm O O ?_
 refine vm O O ?_
 refine vn O O ?_
 refine vq (aw O O underlying49 O O sizeOf47 O) O ?_
 refine vq (ai O O isAgg47 (.obj 4 O O)) O ?_
 refine vm O O ?_
 refine vq (bj O O O) O ?_
 refine aQ (fun aa => ?_)
 obtain ⟨c0, c1, a5, a6, b6, b7⟩ := jJ (lo := IntKind.i64.wrap (x1 + 1)) (hi := (a.length : Int)) (Rd.asV (s.mono (V71.up (Up.lend (l := [Row 71 3 b a.length c d.flatten, e]) 1 rfl))) (Rd.lend (l := [Row 71 3 b a.length c d.flatten, e]) x 0 rfl)) g aa
 refine vq (kv (l := a) (lo' := IntKind.i64.wrap (x1 + 1)) (hi' := (a.length : Int)) O O O O underlying47 sizeOf71 (.inl ⟨O, O⟩) (.inr ⟨_, O⟩) aa g a5) O ?_
 refine bd 1 O (fun b8 a7 => ?_)
 refine aQ (fun a8 => ?_)
 refine ah (gM 1 O O O underlying47 ki O a7 (a6.rds 0 O) a8) O O O ?_
 intro ad
 refine vn O O ?_
 refine vq (aw O O underlying49 O O sizeOf47 O) O ?_
 refine aX (aV 4 O O O sizeOf47 O O (aY (by rfl)) O O) O O ?_
 intro _
 refine nx ?_
 refine vq (du 2 O O isAgg71 sizeOf71 O O) O ?_
 refine aX (aV 3 O O O sizeOf71 O O (aY (by rfl)) O O) O O ?_
 intro _
 refine ag (ae (ak ?_))
 exact gi (vs := [.agg #[str ((a.getD x1.toNat aj).1), .slice p (((a.getD x1.toNat aj).2.1).length) q, .int .i64 ((a.getD x1.toNat aj).2.2)]]) (p, q, ad.1, ad.2, aN [Row 71 3 b a.length c d.flatten, e]) O ⟨⟨w, O, fy 3 isAgg71 sizeOf71 O O⟩, trivial⟩ O (.pr_in ⟨(af.up (Up.lend (l := [Row 71 3 b a.length c d.flatten, e]) 1 O)), al, an⟩ (.pr_in (Up.lend (l := [Row 71 3 b a.length c d.flatten, e]) 1 O) (.sel 4 O (.sel 1 O (.sel 0 O (.sel 2 O (.nil _)))))))

def bV.f (k : Nat) (b : List (ba)) (e : Int) (c : Bool) (g : List UInt8) (x1 : List UInt8) : Option (Int × (List (ba)) × Int × Bool × List UInt8) := if c = true then (some (11, b, e, c, g)) else ((aU.f k b e c g x1).bind fun h => (if h < (0 : Int) then (some (8, b, e, c, g)) else ((bI.f b e c g).bind fun a => (if a.1 = true then (some (11, b, a.2.1, a.2.2.1, a.2.2.2)) else ((cV.f b a.2.1 a.2.2.1 a.2.2.2 h).bind fun d => ((if d.2.2.2.2.2.2 = x1 then (some ([] : List UInt8)) else (some d.2.2.2.2.2.2)).bind fun i => (some (0, d.2.2.2.1, d.2.2.2.2.1, d.2.2.2.2.2.1, i))))))))
theorem bV.calls (W : World) (F : HA) (k : Nat) (b0 : Nat) (a : Option Addr) (b : Nat) (c : List (ba)) (d : HA) (g : Int) (h : Bool) (i : List UInt8) (x1 : List UInt8)  :
    Fn Tryz.prog W 93 [.pointer (some ⟨b0, 0, none⟩), str x1] [obj b0 49 [.slice a c.length b, .int .i64 g, .bool h, str i], aC 71 3 (V71 d) a c b, d] F (bV.f k c g h i x1) (fun (r : Int × (List (ba)) × Int × Bool × List UInt8) (y : Option Addr × Nat × HA) => .int .i64 r.1) (fun r y => [obj b0 49 [.slice y.1 r.2.1.length y.2.1, .int .i64 r.2.2.1, .bool r.2.2.2.1, str r.2.2.2.2], aC 71 3 (V71 (y.2.2)) y.1 r.2.1 y.2.1, y.2.2]) := by
 unfold bV.f
 refine aJ 29 Tryz.func93 O Tryz.ntmps93 O ?_
 refine sr ?_
 refine va O O (ag (ae (ap (sr ?_))))
 refine vm O O ?_
 refine vn O O ?_
 refine vq (aw O O underlying49 O O sizeOf4 O) O ?_
 refine vq (ai O O isAgg4 (.obj 0 O O)) O (ag (ae ?_))
 refine aT O (fun a9 => ?_) (fun bc => ?_)
 refine sr ?_
 refine va O O (ag (ae (ak ?_)))
 refine ax ?_
 exact av (a, b, d) O O O (.sel 0 O (.sel 0 O (.sel 0 O (.sel 0 O (.nil _)))))
 refine au ?_
 refine ae (sr ?_)
 refine vm O O ?_
 refine vm O O ?_
 refine bd 1 O (fun n l => ?_)
 refine am (fun w o => ?_)
 refine bf 1 O (fun x z aa al => ?_)
 refine ah (ar (vs := [.pointer (some ⟨b0, 0, none⟩), str x1]) (cap := []) (A := [obj b0 49 [.slice a c.length b, .int .i64 g, .bool h, str i]]) (rst := [Row 71 3 a c.length b n.flatten, d, F]) O O O O O O call99 (.sel 0 O (.sel 0 O (.sel 0 O (.sel 0 O (.nil _))))) (aU.calls _ _ k b0 a b c g h i x1 ((Rd.asV l x).up (Up.lend 0 O) (V71.up (Up.lend 1 O))) z aa) o) O O O ?_
 intro an
 refine va O O (ag (ae (ap (sr ?_))))
 refine vm O O ?_
 refine vq (bN O O O) O (ag (ae ?_))
 refine aL O (fun a0 => ?_) (fun a1 => ?_)
 refine sr ?_
 refine va O O (ag (ae (ak ?_)))
 refine ax ?_
 exact av (a, b, d) O O O (.sel 0 O (.sel' 0 O (aC.mk l) (.sel 0 O (.sel 0 O (.nil _)))))
 refine au ?_
 refine ae (ap (sr ?_))
 refine vm O O ?_
 refine am (fun j p => ?_)
 refine bf 1 O (fun q t u ab => ?_)
 refine ah (ar (vs := [.pointer (some ⟨b0, 0, none⟩)]) (cap := []) (A := [obj b0 49 [.slice a c.length b, .int .i64 g, .bool h, str i]]) (rst := [Row 71 3 a c.length b n.flatten, d, F]) O O O O O O call142 (.sel 0 O (.sel 0 O (.sel 0 O (.sel 0 O (.nil _))))) (bI.calls _ _ b0 a b c g h i ((Rd.asV l q).up (Up.lend 0 O) (V71.up (Up.lend 1 O))) t u) p) O O O ?_
 intro a2
 refine ag (ae ?_)
 refine aT O (fun a3 => ?_) (fun a4 => ?_)
 refine sr ?_
 refine va O O (ag (ae (ak ?_)))
 refine ax ?_
 exact av (a, b, d) O O O (.sel 0 O (.sel' 0 O (aC.mk l) (.sel 0 O (.sel 0 O (.nil _)))))
 refine au ?_
 refine ae (sr ?_)
 refine vm O O ?_
 refine vm O O ?_
 refine am (fun m v => ?_)
 refine ah (ar (vs := [.pointer (some ⟨b0, 0, none⟩), .int .i64 w]) (cap := []) (A := [obj b0 49 [.slice a c.length b, .int .i64 j.2.1, .bool j.2.2.1, str j.2.2.2], aC 71 3 (V71 d) a c b, d]) (rst := [F]) O O O O O O call143 (.sel 0 O (.sel' 0 O (aC.mk l) (.sel 0 O (.sel 0 O (.nil _))))) (cV.calls _ _ b0 a b c d j.2.1 j.2.2.1 j.2.2.2 w ) v) O O O ?_
 intro e
 refine jF (fun ad => ?_)
 refine jF (fun af => ?_)
 refine ag (ae ?_)
 refine bO (S := List UInt8) (Unit) (fun s y => []) (fun s y => [obj b0 49 [.slice e.2.2.1 m.2.2.2.1.length e.2.2.2.1, .int .i64 m.2.2.2.2.1, .bool m.2.2.2.2.2.1, str s], aC 71 3 (V71 (e.2.2.2.2)) e.2.2.1 m.2.2.2.1 e.2.2.2.1, e.2.2.2.2, F]) ?_ ?_
 refine sr ?_
 refine vm O O ?_
 refine vn O O ?_
 refine vq (aw O O underlying49 O O sizeOf9 O) O ?_
 refine vq (ai O O isAgg9 (.obj 0 O O)) O ?_
 refine vm O O ?_
 refine vq (js O O O) O (ag (ae ?_))
 refine aL O (fun a5 => ?_) (fun a6 => ?_)
 refine aE ?_
 refine vm O O ?_
 refine vn O O ?_
 refine vq (aw O O underlying49 O O sizeOf9 O) O ?_
 refine aX (aV 0 O O O sizeOf9 O O (aY (by rfl)) O O) O O ?_
 intro _
 refine ag ?_
 exact aM (s := ([] : List UInt8)) () trivial (.sel 0 O (.sel 0 O (.sel 0 O (.sel 0 O (.nil _)))))
 refine au ?_
 exact aM (s := m.2.2.2.2.2.2) () trivial (.sel 0 O (.sel 0 O (.sel 0 O (.sel 0 O (.nil _)))))
 intro a7 a8
 refine sr ?_
 refine va O O (ag (ae (ak ?_)))
 exact av (e.2.2.1, e.2.2.2.1, e.2.2.2.2) O O O (.sel 0 O (.sel 0 O (.sel 0 O (.sel 0 O (.nil _)))))

def cy.l0 (x0 : List UInt8) : Nat → Int → Option ((Unit) ⊕ (Bool))
  | 0, _ => none
  | k + 1, a => if a < (x0.length : Int) then (if 0 ≤ a ∧ a < (x0.length : Int) then ((if ((decide (((x0.getD a.toNat 0).toNat : Int) < (97 : Int))) || (decide ((122 : Int) < ((x0.getD a.toNat 0).toNat : Int)))) = true then (some ((decide (((x0.getD a.toNat 0).toNat : Int) < (48 : Int))) || (decide ((57 : Int) < ((x0.getD a.toNat 0).toNat : Int))))) else (some false)).bind fun b => (if ((b && (!decide (((x0.getD a.toNat 0).toNat : Int) = (45 : Int)))) && (!decide (((x0.getD a.toNat 0).toNat : Int) = (46 : Int)))) = true then (some (.inr false)) else (cy.l0 x0 k (IntKind.i64.wrap (a + 1))))) else none) else (some (.inl ()))
def cy.f (k : Nat) (x0 : List UInt8) : Option (Bool) := orR (cy.l0 x0 k 0) fun a => (some ((decide ((1 : Int) ≤ (x0.length : Int))) && (decide ((x0.length : Int) ≤ (32 : Int)))))
theorem cy.calls (W : World) (F : HA) (k : Nat) (x0 : List UInt8)  :
    Fn Tryz.prog W 144 [str x0] [] F (cy.f k x0) (fun (r : Bool) (y : Unit) => .bool r) (fun r y => []) := by
 unfold cy.f
 refine aJ 44 Tryz.func144 O Tryz.ntmps144 O ?_
 refine sr ?_
 refine va O O (ag (ae ?_))
 refine fx (S := Unit) (Unit) (fun s y => [(0, str x0)]) (fun s y => [F]) ?_ ?_
 refine sr ?_
 refine va O O (ag (ae ?_))
 refine aK ?_
 refine bX (S := Int) (Unit) (fun k s => cy.l0 x0 k s) (fun s y => [(0, str x0), (3, .int .i64 s)]) (fun s y => [F]) (fun _ => by rw [cy.l0]) ?_ k 0 () ⟨O, O, trivial⟩ (.sel 0 O (.nil _))
 intro k a z
 refine cL (by rw [cy.l0]) ?_
 refine ap (sr ?_)
 refine vm O O ?_
 refine vm O O ?_
 refine vq (iK O O O underlying9) O ?_
 refine vq (bN O O O) O (ag (ae ?_))
 refine aL O (fun aa => ?_) (fun ab => ?_)
 refine au ?_
 refine ae (ap ?_)
 refine aK ?_
 refine sr ?_
 refine vm O O ?_
 refine vm O O ?_
 refine aQ (fun d => ?_)
 refine vq (mO O O O underlying9 d.1 d.2) O ?_
 refine va O O (nx ?_)
 refine vm O O ?_
 refine vq (bN O O O) O ?_
 refine vm O O ?_
 refine az (b := decide (((x0.getD a.toNat 0).toNat : Int) < (97 : Int))) (fun o => RQ.sub (E' := [(4, .int .u8 ((x0.getD a.toNat 0).toNat : Int))]) ⟨O, trivial⟩ (aS O O)) O O O O O ?_
 refine az (b := decide (((x0.getD a.toNat 0).toNat : Int) < (97 : Int))) (fun e => RQ.sub (E' := [(17, .int .u8 ((x0.getD a.toNat 0).toNat : Int))]) ⟨aZ O e, trivial⟩ (dw O O O)) O O O O O ?_
 refine vq (hP O O O) O ?_
 refine vm O O ?_
 refine dk 7 (S := Bool) (Unit) (fun s y => [(0, str x0), (3, .int .i64 a), (4, .int .u8 ((x0.getD a.toNat 0).toNat : Int)), (27, .bool s)]) (fun s y => [F]) ?_ ?_
 refine eI (fun g => ?_) (fun h => ?_)
 rw [g]
 refine aO (aS O O) O O O O O O ?_
 refine aO (bN O O O) O O O O O O ?_
 refine aO (aS O O) O O O O O O ?_
 refine az (b := decide (((x0.getD a.toNat 0).toNat : Int) < (48 : Int))) (fun p => RQ.sub (E' := [(4, .int .u8 ((x0.getD a.toNat 0).toNat : Int))]) ⟨O, trivial⟩ (aS O O)) O O O O O ?_
 refine az (b := decide (((x0.getD a.toNat 0).toNat : Int) < (48 : Int))) (fun i => RQ.sub (E' := [(24, .int .u8 ((x0.getD a.toNat 0).toNat : Int))]) ⟨aZ O i, trivial⟩ (dw O O O)) O O O O O ?_
 refine aO (hP O O O) O O O O O O ?_
 refine vq (bL O O O O O) O (ag ?_)
 exact aM (s := (decide (((x0.getD a.toNat 0).toNat : Int) < (48 : Int))) || (decide ((57 : Int) < ((x0.getD a.toNat 0).toNat : Int)))) () ⟨O, O, O, O, trivial⟩ (.sel 0 O (.nil _))
 rw [h]
 refine aI O O O O O O ?_
 refine aI O O O O O O ?_
 refine aI O O O O O O ?_
 refine kT O O O O O ?_
 refine kT O O O O O ?_
 refine aI O O O O O O ?_
 refine vq (bL O O O O O) O (ag ?_)
 exact aM (s := false) () ⟨O, O, O, O, trivial⟩ (.sel 0 O (.nil _))
 intro c v
 refine vm O O ?_
 refine az (b := c) (fun q => RQ.sub (E' := [(4, .int .u8 ((x0.getD a.toNat 0).toNat : Int))]) ⟨O, trivial⟩ (aS O O)) O O O O O ?_
 refine az (b := c) (fun j => RQ.sub (E' := [(29, .int .u8 ((x0.getD a.toNat 0).toNat : Int))]) ⟨aZ O j, trivial⟩ (cz O O O)) O O O O O ?_
 refine vq (dQ O O O) O ?_
 refine vm O O ?_
 refine az (b := c && (!decide (((x0.getD a.toNat 0).toNat : Int) = (45 : Int)))) (fun t => RQ.sub (E' := [(4, .int .u8 ((x0.getD a.toNat 0).toNat : Int))]) ⟨O, trivial⟩ (aS O O)) O O O O O ?_
 refine az (b := c && (!decide (((x0.getD a.toNat 0).toNat : Int) = (45 : Int)))) (fun l => RQ.sub (E' := [(33, .int .u8 ((x0.getD a.toNat 0).toNat : Int))]) ⟨aZ O l, trivial⟩ (cz O O O)) O O O O O ?_
 refine vq (dQ O O O) O (ag (ae ?_))
 refine aT O (fun w => ?_) (fun x => ?_)
 refine sr ?_
 refine va O O (ag (ae (ak ?_)))
 refine aP ?_
 refine ax ?_
 refine eS ?_
 refine aP ?_
 refine eG ?_
 exact av () O O O (.sel 0 O (.nil _))
 refine au ?_
 refine bb (ae (aE ?_))
 refine vm O O ?_
 refine vq (bj O O O) O ?_
 refine va O O (ag ?_)
 exact bu (s := IntKind.i64.wrap (a + 1)) () ⟨O, O, trivial⟩ (.sel 0 O (.nil _))
 refine ck ?_
 refine bQ ?_
 refine bY ?_
 refine bR ?_
 exact fg (s := ()) () ⟨O, trivial⟩ (.sel 0 O (.nil _))
 intro ad af
 refine sr ?_
 refine vm O O ?_
 refine vq (iK O O O underlying9) O ?_
 refine vq (gP O O O) O ?_
 refine vm O O ?_
 refine az (b := decide ((1 : Int) ≤ (x0.length : Int))) (fun u => RQ.sub (E' := [(0, str x0)]) ⟨O, trivial⟩ (aS O O)) O O O O O ?_
 refine az (b := decide ((1 : Int) ≤ (x0.length : Int))) (fun m => RQ.sub (E' := [(40, str x0)]) ⟨aZ O m, trivial⟩ (iK O O O underlying9)) O O O O O ?_
 refine az (b := decide ((1 : Int) ≤ (x0.length : Int))) (fun n => RQ.sub (E' := [(41, .int .i64 (x0.length : Int))]) ⟨aZ O n, trivial⟩ (nu O O O)) O O O O O ?_
 refine vq (dQ O O O) O ?_
 refine va O O (ag (ae (ak ?_)))
 exact av () O O O (.sel 0 O (.nil _))

def bJ.l0 (b : List (ba)) (c : List UInt8) : Nat → Int → Option (Int)
  | 0, _ => none
  | k + 1, a => (if a < (b.length : Int) then (if 0 ≤ a ∧ a < (b.length : Int) then (some (Op.bytesLess ((b.getD a.toNat aj).1) c)) else none) else (some false)).bind fun d => (if d = true then (bJ.l0 b c k (IntKind.i64.wrap (a + 1))) else (some a))
def bJ.f (k : Nat) (a : List (ba)) (g : Int) (h : Bool) (i : List UInt8) (c : List UInt8) (d : List UInt8) (e : Int) : Option ((List (ba)) × Int × Bool × List UInt8) := (bJ.l0 a c k 0).bind fun b => (if 0 ≤ (0 : Int) ∧ (0 : Int) ≤ b ∧ b ≤ (a.length : Int) then (if (([] : List (ba)).length + (cut a (0 : Int) b).length) * 48 ≤ 140737488355328 then (if ((([] : List (ba)) ++ (cut a (0 : Int) b)).length + ([(c, d, e)] : List (ba)).length) * 48 ≤ 140737488355328 then (if 0 ≤ b ∧ b ≤ (a.length : Int) ∧ (a.length : Int) ≤ (a.length : Int) then (if (((([] : List (ba)) ++ (cut a (0 : Int) b)) ++ ([(c, d, e)] : List (ba))).length + (cut a b (a.length : Int)).length) * 48 ≤ 140737488355328 then (some (((([] : List (ba)) ++ (cut a (0 : Int) b)) ++ ([(c, d, e)] : List (ba))) ++ (cut a b (a.length : Int)), g, h, i)) else none) else none) else none) else none) else none)
theorem bJ.calls (W : World) (F : HA) (k : Nat) (b0 : Nat) (b : Option Addr) (c : Nat) (a : List (ba)) (e : HA) (z : Int) (aa : Bool) (ab : List UInt8) (g : List UInt8) (w : Option Addr) (t : Nat) (q : List UInt8) (u : Int) (c0 : Rd e w (ao q)) (bc : q.length ≤ t) (be : t ≤ maxLen) :
    Fn Tryz.prog W 145 [.pointer (some ⟨b0, 0, none⟩), .agg #[str g, .slice w q.length t, .int .i64 u]] [obj b0 49 [.slice b a.length c, .int .i64 z, .bool aa, str ab], aC 71 3 (V71 e) b a c, e] F (bJ.f k a z aa ab g q u) (fun (r : (List (ba)) × Int × Bool × List UInt8) (y : Option Addr × Nat × HA) => .tuple #[]) (fun r y => [obj b0 49 [.slice y.1 r.1.length y.2.1, .int .i64 r.2.1, .bool r.2.2.1, str r.2.2.2], aC 71 3 (V71 (y.2.2)) y.1 r.1 y.2.1, y.2.2]) := by
 unfold bJ.f
 refine aJ 51 Tryz.func145 O Tryz.ntmps145 O ?_
 refine sr ?_
 refine ah (dL O O O) O O O ?_
 intro x
 refine nx ?_
 refine va O O (ag (ae ?_))
 refine bO (S := Int) (Unit) (fun s y => [(0, .pointer (some ⟨b0, 0, none⟩)), (3, .pointer (some ⟨x, 0, none⟩)), (4, .int .i64 s)]) (fun s y => [obj x 71 [str g, .slice w q.length t, .int .i64 u], obj b0 49 [.slice b a.length c, .int .i64 z, .bool aa, str ab], aC 71 3 (V71 (e)) b a c, e, F]) ?_ ?_
 refine aK ?_
 refine bX (S := Int) (Unit) (fun k s => bJ.l0 a g k s) (fun s y => [(0, .pointer (some ⟨b0, 0, none⟩)), (3, .pointer (some ⟨x, 0, none⟩)), (4, .int .i64 s)]) (fun s y => [obj x 71 [str g, .slice w q.length t, .int .i64 u], obj b0 49 [.slice b a.length c, .int .i64 z, .bool aa, str ab], aC 71 3 (V71 (e)) b a c, e, F]) (fun _ => by rw [bJ.l0]) ?_ k 0 () ⟨O, O, O, trivial⟩ (.sel 0 O (.sel 0 O (.sel 0 O (.sel 0 O (.sel 0 O (.nil _))))))
 intro k n er
 refine cL (by rw [bJ.l0]) ?_
 refine ap ?_
 refine bO (S := Bool) (Unit) (fun s y => [(0, .pointer (some ⟨b0, 0, none⟩)), (3, .pointer (some ⟨x, 0, none⟩)), (4, .int .i64 n), (25, .bool s)]) (fun s y => [obj x 71 [str g, .slice w q.length t, .int .i64 u], obj b0 49 [.slice b a.length c, .int .i64 z, .bool aa, str ab], aC 71 3 (V71 (e)) b a c, e, F]) ?_ ?_
 refine fB 2 O (fun a8 al => ?_)
 refine iq (fun d => ?_) (fun d => ?_)
 refine bv (fun a2 => ?_)
 refine fA 2 O al O (i := n.toNat) (by omega) aj (fun an ad d4 bs b1 c1 hcell19v => ?_)
 obtain ⟨d5, d6, rfl, ⟨c2, c3, c4⟩⟩ := b1
 refine bp (Γ := Unit) () [[], [], [1], [1, 2], [1, 2, 3], [1, 2, 3, 4], rL 6, rL 7, rL 8, rL 9, rL 10, rL 11, rL 8, rL 13, rL 14, rL 15, rL 8, [0, 1, 2, 3, 4, 5, 6, 7, 16], rL 18, rL 19] [] [0, 1, 2, 3, 4, 5, 6, 7, 8, 9, 10, 11, 12, 13, 14, 15, 16, 17, 18, 19] (fun i => [[0], [0], [0], [0], [0], [0], [0], [0], [0], [0], [0], [0], [0], [0], [0], [0], [0], [0], [0], [0]].getD i []) (fun i => [[], [], [], [], [], [], [], [], [], [], [], [], [], [], [], [], [], [], [], []].getD i []) (fun γ i => [.int .i64 n, .pointer (some ⟨b0, 0, none⟩), .pointer (some ⟨b0, 0, none⟩), .pointer (some ⟨b0, 0, none⟩), .slice b a.length c, .int .i64 (a.length : Int), .bool (decide (n < (a.length : Int))), .bool (decide (n < (a.length : Int))), .pointer (some ⟨b0, 0, none⟩), .pointer (some ⟨b0, 0, none⟩), .pointer (some ⟨b0, 0, none⟩), .slice b a.length c, .int .i64 n, .pointer (some ⟨an, ad + n.toNat * 3, none⟩), .pointer (some ⟨an, ad + n.toNat * 3 + 0, none⟩), str ((a.getD n.toNat aj).1), .pointer (some ⟨x, 0, none⟩), str g, .bool (Op.bytesLess ((a.getD n.toNat aj).1) g), .bool (Op.bytesLess ((a.getD n.toNat aj).1) g)].getD i undef) (fun j γ => [[obj x 71 [str g, .slice w q.length t, .int .i64 u], obj b0 49 [.slice b a.length c, .int .i64 z, .bool aa, str ab], Row 71 3 b a.length c a8.flatten, e, F]].getD j []) (fun γ => [(0, .pointer (some ⟨b0, 0, none⟩)), (3, .pointer (some ⟨x, 0, none⟩)), (4, .int .i64 n), (14, .pointer (some ⟨b0, 0, none⟩)), (15, .pointer (some ⟨b0, 0, none⟩)), (16, .pointer (some ⟨b0, 0, none⟩)), (17, .slice b a.length c), (18, .int .i64 n), (19, .pointer (some ⟨an, ad + n.toNat * 3, none⟩)), (20, .pointer (some ⟨an, ad + n.toNat * 3 + 0, none⟩)), (21, str ((a.getD n.toNat aj).1)), (22, .pointer (some ⟨x, 0, none⟩)), (23, str g), (24, .bool (Op.bytesLess ((a.getD n.toNat aj).1) g)), (25, .bool (Op.bytesLess ((a.getD n.toNat aj).1) g))]) mixed (by decide) (by decide) (by decide) (by decide) (by decide) (by decide) (by decide) 51 O (by decide) (by decide) (by decide) (Ent.refl _) ?_ ?_ (fun _ => ⟨O, O, O, O, O, O, O, O, O, O, O, O, O, O, O, trivial⟩) ?_
 exact (aq O (fun γ => qm O (.o (s := 4) O (by decide) .nil) O) (aq O (fun γ => qm O (.o (s := 0) O (by decide) .nil) O) (aq O (fun γ => qp O O (.v 1 O O .nil) (cj O O) O) (aq O (fun γ => qp O O (.v 2 O O .nil) (aw O O underlying49 O O sizeOf47 O) O) (aq O (fun γ => qp O O (.v 3 O O .nil) (ai O O isAgg47 (.obj 1 O O)) O) (aq O (fun γ => qp O O (.v 4 O O .nil) (bi O O O underlying47) O) (aq O (fun γ => qp O O (.v 0 O O (.v 5 O O .nil)) (bN O O O) O) (aq O (fun γ => qm O (.v 6 O O .nil) O) (aq O (fun γ => qy O O (.o (s := 0) O (by decide) (.v 7 O O .nil)) O O (dH (decide_eq_true d)) (aS O O) O) (aq O (fun γ => qy O O (.v 7 O O (.v 8 O O .nil)) O O (dH (decide_eq_true d)) (cj O O) O) (aq O (fun γ => qy O O (.v 7 O O (.v 9 O O .nil)) O O (dH (decide_eq_true d)) (aw O O underlying49 O O sizeOf47 O) O) (aq O (fun γ => qy O O (.v 7 O O (.v 10 O O .nil)) O O (dH (decide_eq_true d)) (ai O O isAgg47 (.obj 1 O O)) O) (aq O (fun γ => qy O O (.o (s := 4) O (by decide) (.v 7 O O .nil)) O O (dH (decide_eq_true d)) (aS O O) O) (aq O (fun γ => qy O O (.v 7 O O (.v 11 O O (.v 12 O O .nil))) O O (dH (decide_eq_true d)) (ct O O O bs underlying47 sizeOf71 a2.1 a2.2) O) (aq O (fun γ => qy O O (.v 7 O O (.v 13 O O .nil)) O O (dH (decide_eq_true d)) (aw O O underlying71 O O sizeOf9 O) O) (aq O (fun γ => qy O O (.v 7 O O (.v 14 O O .nil)) O O (dH (decide_eq_true d)) (ai O O isAgg9 (hcell19v 2 O 0 _ O)) O) (aq O (fun γ => qy O O (.o (s := 3) O (by decide) (.v 7 O O .nil)) O O (dH (decide_eq_true d)) (aw O O underlying71 O O sizeOf9 O) O) (aq O (fun γ => qy O O (.v 7 O O (.v 16 O O .nil)) O O (dH (decide_eq_true d)) (ai O O isAgg9 (.obj 0 O O)) O) (aq O (fun γ => qy O O (.v 7 O O (.v 15 O O (.v 17 O O .nil))) O O (dH (decide_eq_true d)) (zV O O O) O) (aq O (fun γ => qp O O (.v 7 O O (.v 18 O O .nil)) (bL O O O O (lM (decide_eq_true d) _ _)) O) zA))))))))))))))))))))
 exact zA
 intro d7
 exact aM (s := Op.bytesLess ((a.getD n.toNat aj).1) g) () ⟨O, O, O, O, trivial⟩ (.sel 0 O (.sel 0 O (.sel' 0 O (aC.mk al) (.sel 0 O (.sel 0 O (.nil _))))))
 refine bp (Γ := Unit) () [[], [], [1], [1, 2], [1, 2, 3], [1, 2, 3, 4], rL 6, rL 7, rL 8, rL 9, rL 10, rL 11, rL 8, rL 13, rL 14, rL 15, rL 8, [0, 1, 2, 3, 4, 5, 6, 7, 16], rL 18, rL 19] [] [0, 1, 2, 3, 4, 5, 6, 7, 8, 9, 10, 11, 12, 13, 14, 15, 16, 17, 18, 19] (fun i => [[0], [0], [0], [0], [0], [0], [0], [0], [0], [0], [0], [0], [0], [0], [0], [0], [0], [0], [0], [0]].getD i []) (fun i => [[], [], [], [], [], [], [], [], [], [], [], [], [], [], [], [], [], [], [], []].getD i []) (fun γ i => [.int .i64 n, .pointer (some ⟨b0, 0, none⟩), .pointer (some ⟨b0, 0, none⟩), .pointer (some ⟨b0, 0, none⟩), .slice b a.length c, .int .i64 (a.length : Int), .bool (decide (n < (a.length : Int))), .bool (decide (n < (a.length : Int))), undef, undef, undef, undef, undef, undef, undef, undef, undef, undef, undef, .bool false].getD i undef) (fun j γ => [[obj x 71 [str g, .slice w q.length t, .int .i64 u], obj b0 49 [.slice b a.length c, .int .i64 z, .bool aa, str ab], Row 71 3 b a.length c a8.flatten, e, F]].getD j []) (fun γ => [(0, .pointer (some ⟨b0, 0, none⟩)), (3, .pointer (some ⟨x, 0, none⟩)), (4, .int .i64 n), (14, undef), (15, undef), (16, undef), (17, undef), (18, undef), (19, undef), (20, undef), (21, undef), (22, undef), (23, undef), (24, undef), (25, .bool false)]) mixed (by decide) (by decide) (by decide) (by decide) (by decide) (by decide) (by decide) 51 O (by decide) (by decide) (by decide) (Ent.refl _) ?_ ?_ (fun _ => ⟨O, O, O, O, O, O, O, O, O, O, O, O, O, O, O, trivial⟩) ?_
 exact (aq O (fun γ => qm O (.o (s := 4) O (by decide) .nil) O) (aq O (fun γ => qm O (.o (s := 0) O (by decide) .nil) O) (aq O (fun γ => qp O O (.v 1 O O .nil) (cj O O) O) (aq O (fun γ => qp O O (.v 2 O O .nil) (aw O O underlying49 O O sizeOf47 O) O) (aq O (fun γ => qp O O (.v 3 O O .nil) (ai O O isAgg47 (.obj 1 O O)) O) (aq O (fun γ => qp O O (.v 4 O O .nil) (bi O O O underlying47) O) (aq O (fun γ => qp O O (.v 0 O O (.v 5 O O .nil)) (bN O O O) O) (aq O (fun γ => qm O (.v 6 O O .nil) O) (aq O (fun γ => qn O O (.o (s := 0) O (by decide) (.v 7 O O .nil)) O O (dI (decide_eq_false d)) O) (aq O (fun γ => qn O O (.v 7 O O (.v 8 O O .nil)) O O (dI (decide_eq_false d)) O) (aq O (fun γ => qn O O (.v 7 O O (.v 9 O O .nil)) O O (dI (decide_eq_false d)) O) (aq O (fun γ => qn O O (.v 7 O O (.v 10 O O .nil)) O O (dI (decide_eq_false d)) O) (aq O (fun γ => qn O O (.o (s := 4) O (by decide) (.v 7 O O .nil)) O O (dI (decide_eq_false d)) O) (aq O (fun γ => qn O O (.v 7 O O (.v 11 O O (.v 12 O O .nil))) O O (dI (decide_eq_false d)) O) (aq O (fun γ => qn O O (.v 7 O O (.v 13 O O .nil)) O O (dI (decide_eq_false d)) O) (aq O (fun γ => qn O O (.v 7 O O (.v 14 O O .nil)) O O (dI (decide_eq_false d)) O) (aq O (fun γ => qn O O (.o (s := 3) O (by decide) (.v 7 O O .nil)) O O (dI (decide_eq_false d)) O) (aq O (fun γ => qn O O (.v 7 O O (.v 16 O O .nil)) O O (dI (decide_eq_false d)) O) (aq O (fun γ => qn O O (.v 7 O O (.v 15 O O (.v 17 O O .nil))) O O (dI (decide_eq_false d)) O) (aq O (fun γ => qp O O (.v 7 O O (.v 18 O O .nil)) (bL O O O O (lN (decide_eq_false d) _ _)) O) zA))))))))))))))))))))
 exact zA
 intro d8
 exact aM (s := false) () ⟨O, O, O, O, trivial⟩ (.sel 0 O (.sel 0 O (.sel' 0 O (aC.mk al) (.sel 0 O (.sel 0 O (.nil _))))))
 intro es et
 refine aT O (fun d9 => ?_) (fun ec => ?_)
 refine au ?_
 refine ae ?_
 refine aK ?_
 refine aE ?_
 refine vm O O ?_
 refine vq (bj O O O) O ?_
 refine va O O (ag (bb ?_))
 exact bu (s := IntKind.i64.wrap (n + 1)) () ⟨O, O, O, trivial⟩ (.sel 0 O (.sel 0 O (.sel 0 O (.sel 0 O (.sel 0 O (.nil _))))))
 refine ck ?_
 refine bQ ?_
 refine bY ?_
 refine bR ?_
 exact aM (s := n) () ⟨O, O, O, trivial⟩ (.sel 0 O (.sel 0 O (.sel 0 O (.sel 0 O (.sel 0 O (.nil _))))))
 intro a3 ez
 refine sr ?_
 refine ah (rE (α := List UInt8 × List UInt8 × Int) (V := (V71 F)) O underlying47 ki) O O O ?_
 intro a1
 refine vm O O ?_
 refine vn O O ?_
 refine vq (aw O O underlying49 O O sizeOf47 O) O ?_
 refine vq (ai O O isAgg47 (.obj 2 O O)) O ?_
 refine vm O O ?_
 refine bd 3 O (fun p a4 => ?_)
 refine bf 3 O (fun a5 af c5 c6 => ?_)
 refine gZ (H' := [aN [Row 71 3 b a.length c p.flatten, e], aC 71 3 (V71 F) (some ⟨a1, 0, none⟩) ([] : List (ba)) 0, obj x 71 [str g, .slice w q.length t, .int .i64 u], obj b0 49 [.slice b a.length c, .int .i64 z, .bool aa, str ab], F]) (Ent.trans (m := [Row 71 3 b a.length c p.flatten, e, aC 71 3 (V71 F) (some ⟨a1, 0, none⟩) ([] : List (ba)) 0, obj x 71 [str g, .slice w q.length t, .int .i64 u], obj b0 49 [.slice b a.length c, .int .i64 z, .bool aa, str ab], F]) (.sel 3 O (.sel 3 O (.sel 0 O (.sel 0 O (.sel 0 O (.sel 0 O (.nil _))))))) (jy [Row 71 3 b a.length c p.flatten, e] _)) ?_
 refine aQ (fun a6 => ?_)
 obtain ⟨ed, ef, b2, b3, c7, c8⟩ := jJ (lo := (0 : Int)) (hi := a3) (Rd.asV (a4.mono (V71.up (Up.lend (l := [Row 71 3 b a.length c p.flatten, e]) 1 rfl))) (Rd.lend (l := [Row 71 3 b a.length c p.flatten, e]) a5 0 rfl)) af a6
 refine vq (kv (l := a) (lo' := (0 : Int)) (hi' := a3) O O O O underlying47 sizeOf71 (.inr ⟨_, O⟩) (.inl ⟨O, O⟩) a6 af b2) O ?_
 refine bd 1 O (fun c9 b4 => ?_)
 refine gZ (H' := [aN [Row 71 3 b a.length c p.flatten, e], aC 71 3 (V71 (aN [Row 71 3 b a.length c p.flatten, e])) (some ⟨a1, 0, none⟩) ([] : List (ba)) 0, obj x 71 [str g, .slice w q.length t, .int .i64 u], obj b0 49 [.slice b a.length c, .int .i64 z, .bool aa, str ab], F]) (Ent.set' 1 O (fun _ h => aC.empty (aC.mk b4 _ h))) ?_
 refine bd 1 O (fun dl b5 => ?_)
 refine aQ (fun b6 => ?_)
 refine ah (gM 1 O O O underlying47 ki O b5 (b3.rds 0 O) b6) O O O ?_
 intro eg
 refine va O O (nx ?_)
 refine vm O O ?_
 refine vq (du 2 O O isAgg71 sizeOf71 O O) O ?_
 have a0 : bE 3 (V71 (aN [Row 71 3 b a.length c p.flatten, e])) ([(g, q, u)] : List (ba)) [[str g, .slice w q.length t, .int .i64 u]] := ⟨⟨rfl, aY (by rfl), ⟨w, t, rfl, ⟨(c0.up (Up.lend (l := [Row 71 3 b a.length c p.flatten, e]) 1 rfl)), bc, be⟩⟩⟩, trivial⟩
 refine ah (lK (V := (V71 (aN [Row 71 3 b a.length c p.flatten, e]))) (xs := ([(g, q, u)] : List (ba))) [[str g, .slice w q.length t, .int .i64 u]] O O underlying47 ki O (by kernel_rfl) O a0 O O) O O O ?_
 intro ek
 refine bd 2 O (fun ds b7 => ?_)
 refine aQ (fun b8 => ?_)
 refine ah (gM 2 O O O underlying47 ki O b7 (lb.row a0 0 O) b8) O O O ?_
 intro em
 refine va O O (ny ?_)
 refine vm O O ?_
 refine vm O O ?_
 refine vm O O ?_
 refine vn O O ?_
 refine vq (aw O O underlying49 O O sizeOf47 O) O ?_
 refine vq (ai O O isAgg47 (.obj 4 O O)) O ?_
 refine vm O O ?_
 refine aQ (fun a7 => ?_)
 obtain ⟨en, ep, b9, cd, d1, d2⟩ := jJ (lo := a3) (hi := (a.length : Int)) (Rd.asV (a4.mono (V71.up (Up.lend (l := [Row 71 3 b a.length c p.flatten, e]) 1 rfl))) (Rd.lend (l := [Row 71 3 b a.length c p.flatten, e]) a5 0 rfl)) af a7
 refine vq (kv (l := a) (lo' := a3) (hi' := (a.length : Int)) O O O O underlying47 sizeOf71 (.inl ⟨O, O⟩) (.inr ⟨_, O⟩) a7 af b9) O ?_
 refine bd 2 O (fun d3 ch => ?_)
 refine aQ (fun cs => ?_)
 refine ah (gM 2 O O O underlying47 ki O ch (cd.rds 1 O) cs) O O O ?_
 intro a9
 refine vn O O ?_
 refine vq (aw O O underlying49 O O sizeOf47 O) O ?_
 refine aX (aV 4 O O O sizeOf47 O O (aY (by rfl)) O O) O O ?_
 intro _
 refine ag ?_
 exact jL (a9.1, a9.2, aN [Row 71 3 b a.length c p.flatten, e]) O O O (.sel 4 O (.sel 2 O (.sel 1 O (.sel 2 O (.nil _)))))

def db.f (k : Nat) (a : List (ba)) (d : Int) (b : Bool) (e : List UInt8) (x1 : List UInt8) : Option (Int × (List (ba)) × Int × Bool × List UInt8) := if b = true then (some (11, a, d, b, e)) else ((cy.f k x1).bind fun i => (if (!i) = true then (some (7, a, d, b, e)) else ((aU.f k a d b e x1).bind fun h => (if (0 : Int) ≤ h then (some (9, a, d, b, e)) else (if (256 : Int) ≤ (a.length : Int) then (some (10, a, d, b, e)) else ((bI.f a d b e).bind fun c => (if c.1 = true then (some (11, a, c.2.1, c.2.2.1, c.2.2.2)) else ((bJ.f k a c.2.1 c.2.2.1 c.2.2.2 x1 ([] : List UInt8) (0 : Int)).bind fun g => (some (0, g.1, g.2.1, g.2.2.1, g.2.2.2))))))))))
theorem db.calls (W : World) (F : HA) (k : Nat) (b0 : Nat) (a : Option Addr) (b : Nat) (c : List (ba)) (d : HA) (e : Int) (g : Bool) (h : List UInt8) (x1 : List UInt8)  :
    Fn Tryz.prog W 94 [.pointer (some ⟨b0, 0, none⟩), str x1] [obj b0 49 [.slice a c.length b, .int .i64 e, .bool g, str h], aC 71 3 (V71 d) a c b, d] F (db.f k c e g h x1) (fun (r : Int × (List (ba)) × Int × Bool × List UInt8) (y : Option Addr × Nat × HA) => .int .i64 r.1) (fun r y => [obj b0 49 [.slice y.1 r.2.1.length y.2.1, .int .i64 r.2.2.1, .bool r.2.2.2.1, str r.2.2.2.2], aC 71 3 (V71 (y.2.2)) y.1 r.2.1 y.2.1, y.2.2]) := by
 unfold db.f
 refine aJ 30 Tryz.func94 O Tryz.ntmps94 O ?_
 refine sr ?_
 refine va O O (ag (ae (ap (sr ?_))))
 refine vm O O ?_
 refine vn O O ?_
 refine vq (aw O O underlying49 O O sizeOf4 O) O ?_
 refine vq (ai O O isAgg4 (.obj 0 O O)) O (ag (ae ?_))
 refine aT O (fun a6 => ?_) (fun a7 => ?_)
 refine sr ?_
 refine va O O (ag (ae (ak ?_)))
 refine ax ?_
 exact av (a, b, d) O O O (.sel 0 O (.sel 0 O (.sel 0 O (.sel 0 O (.nil _)))))
 refine au ?_
 refine ae (sr ?_)
 refine vm O O ?_
 refine am (fun a8 z => ?_)
 refine ah (ar (vs := [str x1]) (cap := []) (A := []) (rst := [obj b0 49 [.slice a c.length b, .int .i64 e, .bool g, str h], aC 71 3 (V71 d) a c b, d, F]) O O O O O O call144 (.sel 0 O (.sel 0 O (.sel 0 O (.sel 0 O (.nil _))))) (cy.calls _ _ k x1 ) z) O O O ?_
 intro a9
 refine va O O (ag (ae (ap (sr ?_))))
 refine vm O O ?_
 refine vq (fE O O) O (ag (ae ?_))
 refine aT O (fun bc => ?_) (fun be => ?_)
 refine sr ?_
 refine va O O (ag (ae (ak ?_)))
 refine ax ?_
 exact av (a, b, d) O O O (.sel 0 O (.sel 0 O (.sel 0 O (.sel 0 O (.nil _)))))
 refine au ?_
 refine ae (ap (sr ?_))
 refine vm O O ?_
 refine vm O O ?_
 refine bd 1 O (fun m i => ?_)
 refine am (fun ad n => ?_)
 refine bf 1 O (fun o p q aa => ?_)
 refine ah (ar (vs := [.pointer (some ⟨b0, 0, none⟩), str x1]) (cap := []) (A := [obj b0 49 [.slice a c.length b, .int .i64 e, .bool g, str h]]) (rst := [Row 71 3 a c.length b m.flatten, d, F]) O O O O O O call99 (.sel 0 O (.sel 0 O (.sel 0 O (.sel 0 O (.nil _))))) (aU.calls _ _ k b0 a b c e g h x1 ((Rd.asV i o).up (Up.lend 0 O) (V71.up (Up.lend 1 O))) p q) n) O O O ?_
 intro af
 refine vq (gP O O O) O (ag (ae ?_))
 refine aL O (fun al => ?_) (fun an => ?_)
 refine sr ?_
 refine va O O (ag (ae (ak ?_)))
 refine ax ?_
 exact av (a, b, d) O O O (.sel 0 O (.sel' 0 O (aC.mk i) (.sel 0 O (.sel 0 O (.nil _)))))
 refine au ?_
 refine ae (ap (sr ?_))
 refine vm O O ?_
 refine vn O O ?_
 refine vq (aw O O underlying49 O O sizeOf47 O) O ?_
 refine vq (ai O O isAgg47 (.obj 0 O O)) O ?_
 refine vq (bi O O O underlying47) O ?_
 refine vq (gP O O O) O (ag (ae ?_))
 refine aL O (fun a0 => ?_) (fun a1 => ?_)
 refine sr ?_
 refine va O O (ag (ae (ak ?_)))
 refine ax ?_
 exact av (a, b, d) O O O (.sel 0 O (.sel' 0 O (aC.mk i) (.sel 0 O (.sel 0 O (.nil _)))))
 refine au ?_
 refine ae (ap (sr ?_))
 refine vm O O ?_
 refine am (fun j s => ?_)
 refine bf 1 O (fun t u w ab => ?_)
 refine ah (ar (vs := [.pointer (some ⟨b0, 0, none⟩)]) (cap := []) (A := [obj b0 49 [.slice a c.length b, .int .i64 e, .bool g, str h]]) (rst := [Row 71 3 a c.length b m.flatten, d, F]) O O O O O O call142 (.sel 0 O (.sel 0 O (.sel 0 O (.sel 0 O (.nil _))))) (bI.calls _ _ b0 a b c e g h ((Rd.asV i t).up (Up.lend 0 O) (V71.up (Up.lend 1 O))) u w) s) O O O ?_
 intro a2
 refine ag (ae ?_)
 refine aT O (fun a3 => ?_) (fun a4 => ?_)
 refine sr ?_
 refine va O O (ag (ae (ak ?_)))
 refine ax ?_
 exact av (a, b, d) O O O (.sel 0 O (.sel' 0 O (aC.mk i) (.sel 0 O (.sel 0 O (.nil _)))))
 refine au ?_
 refine ae (sr ?_)
 refine vm O O ?_
 refine vm O O ?_
 refine vq (eb (v := .agg #[str x1, .slice none 0 0, .int .i64 0]) O O (fun _ => by kernel_rfl)) O ?_
 refine am (fun a5 x => ?_)
 refine ah (ar (vs := [.pointer (some ⟨b0, 0, none⟩), .agg #[str x1, .slice none 0 0, .int .i64 0]]) (cap := []) (A := [obj b0 49 [.slice a c.length b, .int .i64 j.2.1, .bool j.2.2.1, str j.2.2.2], aC 71 3 (V71 d) a c b, d]) (rst := [F]) O O O O O O call145 (.sel 0 O (.sel' 0 O (aC.mk i) (.sel 0 O (.sel 0 O (.nil _))))) (bJ.calls _ _ k b0 a b c d j.2.1 j.2.2.1 j.2.2.2 x1 none 0 ([] : List UInt8) (0 : Int) (Rd.nil _ _) (Nat.le_refl _) (Nat.zero_le _)) x) O O O ?_
 intro l
 refine nx ?_
 refine va O O (ag (ae (ak ?_)))
 exact av (l.1, l.2.1, l.2.2) O O O (.sel 0 O (.sel 0 O (.sel 0 O (.sel 0 O (.nil _)))))

def bx.l0 (a : List (ba)) : Nat → Int → Int → Option (Int)
  | 0, _, _ => none
  | k + 1, c, b => if b < (a.length : Int) then (if 0 ≤ b ∧ b < (a.length : Int) then (bx.l0 a k (IntKind.i64.wrap (c + (((a.getD b.toNat aj).2.1).length : Int))) (IntKind.i64.wrap (b + 1))) else none) else (some c)
def bx.f (k : Nat) (a : List (ba)) (c : Int) (d : Bool) (e : List UInt8) : Option (Int) := (bx.l0 a k 0 0).bind fun b => (some b)
theorem bx.calls (W : World) (F : HA) (k : Nat) (b0 : Nat) (c : Option Addr) (b : Nat) (a : List (ba)) (d : Int) (e : Bool) (g : List UInt8) (n : RdV F 3 (V71 F) c a) (p : a.length ≤ b) (q : b ≤ maxLen) :
    Fn Tryz.prog W 63 [.pointer (some ⟨b0, 0, none⟩)] [obj b0 49 [.slice c a.length b, .int .i64 d, .bool e, str g]] F (bx.f k a d e g) (fun (r : Int) (y : Unit) => .int .i64 r) (fun r y => [obj b0 49 [.slice c a.length b, .int .i64 d, .bool e, str g]]) := by
 unfold bx.f
 refine aJ 26 Tryz.func63 O Tryz.ntmps63 O ?_
 refine sr ?_
 refine va O O (nx ?_)
 refine va O O (ag (ae ?_))
 refine bO (S := Int) (Unit) (fun s y => [(3, .int .i64 s)]) (fun s y => [obj b0 49 [.slice c a.length b, .int .i64 d, .bool e, str g], F]) ?_ ?_
 refine sr ?_
 refine va O O (ag (ae ?_))
 refine aK ?_
 refine bX (S := Int × Int) (Unit) (fun k s => bx.l0 a k s.1 s.2) (fun s y => [(0, .pointer (some ⟨b0, 0, none⟩)), (3, .int .i64 s.1), (4, .int .i64 s.2)]) (fun s y => [obj b0 49 [.slice c a.length b, .int .i64 d, .bool e, str g], F]) (fun _ => by rw [bx.l0]) ?_ k (0, 0) () ⟨O, O, O, trivial⟩ (.sel 0 O (.sel 0 O (.nil _)))
 intro k h ad
 refine cL (by rw [bx.l0]) ?_
 refine ap (sr ?_)
 refine vm O O ?_
 refine vm O O ?_
 refine vn O O ?_
 refine vq (aw O O underlying49 O O sizeOf47 O) O ?_
 refine vq (ai O O isAgg47 (.obj 0 O O)) O ?_
 refine vq (bi O O O underlying47) O ?_
 refine vq (bN O O O) O (ag (ae ?_))
 refine aL O (fun af => ?_) (fun al => ?_)
 refine au ?_
 refine ae (ap ?_)
 refine aK ?_
 refine aE ?_
 refine vm O O ?_
 refine vm O O ?_
 refine vn O O ?_
 refine vq (aw O O underlying49 O O sizeOf47 O) O ?_
 refine vq (ai O O isAgg47 (.obj 0 O O)) O ?_
 refine vm O O ?_
 refine aQ (fun j => ?_)
 obtain ⟨x, t, z, l, m, o, hcell16v⟩ := RdV.pos n (Up.refl _) rfl (i := h.2.toNat) (by omega) aj
 obtain ⟨aa, ab, rfl, ⟨u, v, w⟩⟩ := m
 refine vq (ct O O O l underlying47 sizeOf71 j.1 j.2) O ?_
 refine vq (aw O O underlying71 O O sizeOf25 O) O ?_
 refine vq (ai O O isAgg25 (hcell16v 1 O 1 _ O)) O ?_
 refine vq (bi O O O underlying25) O ?_
 refine vq (bj O O O) O ?_
 refine va O O (ag (bb (ae (aE ?_))))
 refine vm O O ?_
 refine vq (bj O O O) O ?_
 refine va O O (ag ?_)
 exact bu (s := (IntKind.i64.wrap (h.1 + (((a.getD h.2.toNat aj).2.1).length : Int)), IntKind.i64.wrap (h.2 + 1))) () ⟨O, O, O, trivial⟩ (.sel 0 O (.sel 0 O (.nil _)))
 refine ck ?_
 refine bQ ?_
 refine bY ?_
 refine bR ?_
 exact aM (s := h.1) () ⟨O, trivial⟩ (.sel 0 O (.sel 0 O (.nil _)))
 intro an a0
 refine sr ?_
 refine vm O O ?_
 refine va O O (ag (ae (ak ?_)))
 exact av () O O O (.sel 0 O (.sel 0 O (.nil _)))

def dc.f (k : Nat) (a : List (ba)) (e : Int) (c : Bool) (g : List UInt8) (x1 : List UInt8) (x2 : List UInt8) : Option (Int × (List (ba)) × Int × Bool × List UInt8) := if c = true then (some (11, a, e, c, g)) else ((aU.f k a e c g x1).bind fun b => (if b < (0 : Int) then (some (8, a, e, c, g)) else ((bx.f k a e c g).bind fun j => (if IntKind.i64.wrap (16777216 - j) < (x2.length : Int) then (some (10, a, e, c, g)) else ((bI.f a e c x1).bind fun d => (if d.1 = true then (if 0 ≤ b ∧ b < (a.length : Int) then ((bl.f ((a.getD b.toNat aj).2.1)).bind fun h => (if 0 ≤ (0 : Int) ∧ (0 : Int) ≤ IntKind.i64.wrap (Int.tdiv (x2.length : Int) 2) ∧ IntKind.i64.wrap (Int.tdiv (x2.length : Int) 2) ≤ (x2.length : Int) then (if (h.length + (cut x2 (0 : Int) (IntKind.i64.wrap (Int.tdiv (x2.length : Int) 2))).length) * 1 ≤ 140737488355328 then (if 0 ≤ b ∧ b < (a.length : Int) then (some (11, a.set b.toNat ((a.getD b.toNat aj).1, h ++ (cut x2 (0 : Int) (IntKind.i64.wrap (Int.tdiv (x2.length : Int) 2))), (a.getD b.toNat aj).2.2), d.2.1, d.2.2.1, d.2.2.2)) else none) else none) else none)) else none) else (if 0 ≤ b ∧ b < (a.length : Int) then ((bl.f ((a.getD b.toNat aj).2.1)).bind fun i => (if (i.length + x2.length) * 1 ≤ 140737488355328 then (if 0 ≤ b ∧ b < (a.length : Int) then (some (0, a.set b.toNat ((a.getD b.toNat aj).1, i ++ x2, (a.getD b.toNat aj).2.2), d.2.1, d.2.2.1, d.2.2.2)) else none) else none)) else none)))))))
theorem dc.calls (W : World) (F : HA) (k : Nat) (b0 : Nat) (b : Option Addr) (c : Nat) (a : List (ba)) (g : HA) (t : Int) (u : Bool) (w : List UInt8) (x1 : List UInt8) (a2 : Option Addr) (c2 : Nat) (x2 : List UInt8) (h2 : Rd F a2 (ao x2)) (be : x2.length ≤ c2) (hc : c2 ≤ maxLen) :
    Fn Tryz.prog W 95 [.pointer (some ⟨b0, 0, none⟩), str x1, .slice a2 x2.length c2] [obj b0 49 [.slice b a.length c, .int .i64 t, .bool u, str w], aC 71 3 (V71 g) b a c, g] F (dc.f k a t u w x1 x2) (fun (r : Int × (List (ba)) × Int × Bool × List UInt8) (y : Option Addr × Nat × HA) => .int .i64 r.1) (fun r y => [obj b0 49 [.slice y.1 r.2.1.length y.2.1, .int .i64 r.2.2.1, .bool r.2.2.2.1, str r.2.2.2.2], aC 71 3 (V71 (y.2.2)) y.1 r.2.1 y.2.1, y.2.2]) := by
 unfold dc.f
 refine aJ 69 Tryz.func95 O Tryz.ntmps95 O ?_
 refine sr ?_
 refine va O O (ag (ae (ap (sr ?_))))
 refine vm O O ?_
 refine vn O O ?_
 refine vq (aw O O underlying49 O O sizeOf4 O) O ?_
 refine vq (ai O O isAgg4 (.obj 0 O O)) O (ag (ae ?_))
 refine aT O (fun he => ?_) (fun hf => ?_)
 refine sr ?_
 refine va O O (ag (ae (ak ?_)))
 refine ax ?_
 exact av (b, c, g) O O O (.sel 0 O (.sel 0 O (.sel 0 O (.sel 0 O (.nil _)))))
 refine au ?_
 refine ae (sr ?_)
 refine vm O O ?_
 refine vm O O ?_
 refine bd 1 O (fun p q => ?_)
 refine am (fun e b8 => ?_)
 refine bf 1 O (fun ek em en fw => ?_)
 refine ah (ar (vs := [.pointer (some ⟨b0, 0, none⟩), str x1]) (cap := []) (A := [obj b0 49 [.slice b a.length c, .int .i64 t, .bool u, str w]]) (rst := [Row 71 3 b a.length c p.flatten, g, F]) O O O O O O call99 (.sel 0 O (.sel 0 O (.sel 0 O (.sel 0 O (.nil _))))) (aU.calls _ _ k b0 b c a t u w x1 ((Rd.asV q ek).up (Up.lend 0 O) (V71.up (Up.lend 1 O))) em en) b8) O O O ?_
 intro fz
 refine va O O (ag (ae (ap (sr ?_))))
 refine vm O O ?_
 refine vq (bN O O O) O (ag (ae ?_))
 refine aL O (fun go => ?_) (fun gs => ?_)
 refine sr ?_
 refine va O O (ag (ae (ak ?_)))
 refine ax ?_
 exact av (b, c, g) O O O (.sel 0 O (.sel' 0 O (aC.mk q) (.sel 0 O (.sel 0 O (.nil _)))))
 refine au ?_
 refine ae (ap (sr ?_))
 refine vm O O ?_
 refine vq (bi O O O underlying25) O ?_
 refine vm O O ?_
 refine am (fun gy b9 => ?_)
 refine bf 1 O (fun cd ch cs e3 => ?_)
 refine ah (ar (vs := [.pointer (some ⟨b0, 0, none⟩)]) (cap := []) (A := [obj b0 49 [.slice b a.length c, .int .i64 t, .bool u, str w]]) (rst := [Row 71 3 b a.length c p.flatten, g, F]) O O O O O O call63 (.sel 0 O (.sel 0 O (.sel 0 O (.sel 0 O (.nil _))))) (bx.calls _ _ k b0 b c a t u w ((Rd.asV q cd).up (Up.lend 0 O) (V71.up (Up.lend 1 O))) ch cs) b9) O O O ?_
 intro g0
 refine vq (ft O O O) O ?_
 refine vq (dw O O O) O (ag (ae ?_))
 refine aL O (fun g1 => ?_) (fun g2 => ?_)
 refine sr ?_
 refine va O O (ag (ae (ak ?_)))
 refine ax ?_
 exact av (b, c, g) O O O (.sel 0 O (.sel' 0 O (aC.mk q) (.sel 0 O (.sel 0 O (.nil _)))))
 refine au ?_
 refine ae (sr ?_)
 refine vm O O ?_
 refine vm O O ?_
 refine vn O O ?_
 refine vq (aw O O underlying49 O O sizeOf9 O) O ?_
 refine aX (aV 0 O O O sizeOf9 O O (aY (by rfl)) O O) O O ?_
 intro _
 refine ag (ae (ap (sr ?_)))
 refine vm O O ?_
 refine am (fun d c0 => ?_)
 refine bf 1 O (fun c1 c3 c4 e4 => ?_)
 refine ah (ar (vs := [.pointer (some ⟨b0, 0, none⟩)]) (cap := []) (A := [obj b0 49 [.slice b a.length c, .int .i64 t, .bool u, str x1]]) (rst := [Row 71 3 b a.length c p.flatten, g, F]) O O O O O O call142 (.sel 0 O (.sel 0 O (.sel 0 O (.sel 0 O (.nil _))))) (bI.calls _ _ b0 b c a t u x1 ((Rd.asV q c1).up (Up.lend 0 O) (V71.up (Up.lend 1 O))) c3 c4) c0) O O O ?_
 intro g3
 refine ag (ae ?_)
 refine aT O (fun g4 => ?_) (fun g5 => ?_)
 refine ap ?_
 refine bv (fun al => ?_)
 refine fA 1 O q O (i := e.toNat) (by omega) aj (fun bs an g6 c5 c6 et hcell39v => ?_)
 obtain ⟨aa, ab, rfl, ⟨c7, c8, c9⟩⟩ := c6
 refine cu (fun h dl => ?_)
 refine bv (fun x => ?_)
 obtain ⟨ep, er, a0, ds, e5, e6⟩ := ex (lo := (0 : Int)) (hi := IntKind.i64.wrap (Int.tdiv (x2.length : Int) 2)) h2 be x
 refine bv (fun d1 => ?_)
 refine bv (fun a1 => ?_)
 refine fA 1 O q O (i := e.toNat) (by omega) aj (fun b1 a3 g7 a4 d2 ez hcell65v => ?_)
 obtain ⟨g8, g9, rfl, ⟨e7, e8, e9⟩⟩ := d2
 refine bp (Γ := (Option Addr × Nat) × (Option Addr × Nat)) ((none, 0), (none, 0)) [[], [0], [0, 1], [0, 1, 2], [], [], [5], [5, 6], [5, 6, 7], [], [5, 6, 7, 8, 9], [5, 6, 7, 8, 9, 10], [5, 6, 7, 8, 9, 10, 11], [5, 6, 7, 8, 9, 10, 11, 12], [], [], [15], [15, 16], [14, 15, 16, 17], [5, 6, 7, 8, 9, 10, 11, 12, 13, 14, 15, 16, 17, 18], rL 20, rL 21, rL 22] [13, 19, 22] [0, 1, 2, 3, 4, 5, 6, 7, 8, 9, 10, 11, 12, 14, 15, 16, 17, 18, 20, 21] (fun i => [[0, 1, 2], [0, 1, 2], [0, 1, 2], [0, 1, 2], [0, 1, 2], [0], [0], [0], [0], [0], [0], [0], [0], [], [0, 1], [0, 1], [0, 1], [0, 1], [0, 1], [], [2], [2], []].getD i []) (fun i => [[], [], [], [], [], [], [], [], [], [], [], [], [], [0, 1, 2, 3, 4, 5, 6, 7, 8, 9, 10, 11, 12, 14, 15, 16, 17, 18], [], [], [], [], [], rL 19, [], [], rL 22].getD i []) (fun γ i => [.pointer (some ⟨b0, 0, none⟩), .pointer (some ⟨b0, 0, none⟩), .pointer (some ⟨b0, 0, none⟩), .slice b a.length c, .int .i64 e, .pointer (some ⟨b0, 0, none⟩), .pointer (some ⟨b0, 0, none⟩), .pointer (some ⟨b0, 0, none⟩), .slice b a.length c, .int .i64 e, .pointer (some ⟨bs, an + e.toNat * 3, none⟩), .pointer (some ⟨bs, an + e.toNat * 3 + 1, none⟩), .slice aa (((a.getD e.toNat aj).2.1).length) ab, .slice γ.1.1 h.length γ.1.2, .slice a2 x2.length c2, .slice a2 x2.length c2, .int .i64 (x2.length : Int), .int .i64 (IntKind.i64.wrap (Int.tdiv (x2.length : Int) 2)), .slice ep ((cut x2 (0 : Int) (IntKind.i64.wrap (Int.tdiv (x2.length : Int) 2))).length) er, .slice γ.2.1 ((h ++ (cut x2 (0 : Int) (IntKind.i64.wrap (Int.tdiv (x2.length : Int) 2)))).length) γ.2.2, .pointer (some ⟨b1, a3 + e.toNat * 3, none⟩), .pointer (some ⟨b1, a3 + e.toNat * 3 + 1, none⟩), undef].getD i undef) (fun j γ => [[obj b0 49 [.slice b a.length c, .int .i64 d.2.1, .bool d.2.2.1, str d.2.2.2], Row 71 3 b a.length c p.flatten, g, F], [Row 5 1 γ.1.1 h.length γ.1.2 (ao h), obj b0 49 [.slice b a.length c, .int .i64 d.2.1, .bool d.2.2.1, str d.2.2.2], Row 71 3 b a.length c p.flatten, g, F], [Row 5 1 γ.2.1 (h ++ (cut x2 (0 : Int) (IntKind.i64.wrap (Int.tdiv (x2.length : Int) 2)))).length γ.2.2 (ao (h ++ (cut x2 (0 : Int) (IntKind.i64.wrap (Int.tdiv (x2.length : Int) 2))))), obj b0 49 [.slice b a.length c, .int .i64 d.2.1, .bool d.2.2.1, str d.2.2.2], Row 71 3 b a.length c p.flatten, g, F], [aN [Row 5 1 γ.2.1 (h ++ (cut x2 (0 : Int) (IntKind.i64.wrap (Int.tdiv (x2.length : Int) 2)))).length γ.2.2 (ao (h ++ (cut x2 (0 : Int) (IntKind.i64.wrap (Int.tdiv (x2.length : Int) 2))))), g], obj b0 49 [.slice b ((a.set e.toNat ((a.getD e.toNat aj).1, h ++ (cut x2 (0 : Int) (IntKind.i64.wrap (Int.tdiv (x2.length : Int) 2))), (a.getD e.toNat aj).2.2)).length) c, .int .i64 d.2.1, .bool d.2.2.1, str d.2.2.2], aC 71 3 (V71 (aN [Row 5 1 γ.2.1 (h ++ (cut x2 (0 : Int) (IntKind.i64.wrap (Int.tdiv (x2.length : Int) 2)))).length γ.2.2 (ao (h ++ (cut x2 (0 : Int) (IntKind.i64.wrap (Int.tdiv (x2.length : Int) 2))))), g])) b (a.set e.toNat ((a.getD e.toNat aj).1, h ++ (cut x2 (0 : Int) (IntKind.i64.wrap (Int.tdiv (x2.length : Int) 2))), (a.getD e.toNat aj).2.2)) c, F]].getD j []) (fun γ => []) mixed (by decide) (by decide) (by decide) (by decide) (by decide) (by decide) (by decide) 69 O (by decide) (by decide) (by decide) (Ent.refl _) ?_ ?_ (fun _ => trivial) ?_
 exact (ac (fun γ => (ac (qm O (.o (s := 0) O (by decide) .nil) O) (ac (qm O (.o (s := 0) O (by decide) .nil) O) (ac (qm O (.o (s := 0) O (by decide) .nil) O) zA)))) (ac (fun γ => (ac (qp O O (.v 0 O O .nil) (cj O O) O) (ac (qp O O (.v 0 O O .nil) (cj O O) O) (ac (qp O O (.v 0 O O .nil) (cj O O) O) zA)))) (ac (fun γ => (ac (qp O O (.v 1 O O .nil) (aw O O underlying49 O O sizeOf47 O) O) (ac (qp O O (.v 1 O O .nil) (aw O O underlying49 O O sizeOf47 O) O) (ac (qp O O (.v 1 O O .nil) (aw O O underlying49 O O sizeOf47 O) O) zA)))) (ac (fun γ => (ac (qp O O (.v 2 O O .nil) (ai O O isAgg47 (.obj 0 O O)) O) (ac (qp O O (.v 2 O O .nil) (ai O O isAgg47 (.obj 1 O O)) O) (ac (qp O O (.v 2 O O .nil) (ai O O isAgg47 (.obj 1 O O)) O) zA)))) (ac (fun γ => (ac (qm O (.o (s := 7) O (by decide) .nil) O) (ac (qm O (.o (s := 7) O (by decide) .nil) O) (ac (qm O (.o (s := 7) O (by decide) .nil) O) zA)))) (aq O (fun γ => qm O (.o (s := 0) O (by decide) .nil) O) (aq O (fun γ => qp O O (.v 5 O O .nil) (cj O O) O) (aq O (fun γ => qp O O (.v 6 O O .nil) (aw O O underlying49 O O sizeOf47 O) O) (aq O (fun γ => qp O O (.v 7 O O .nil) (ai O O isAgg47 (.obj 0 O O)) O) (aq O (fun γ => qm O (.o (s := 7) O (by decide) .nil) O) (aq O (fun γ => qp O O (.v 8 O O (.v 9 O O .nil)) (ct O O O c5 underlying47 sizeOf71 al.1 al.2) O) (aq O (fun γ => qp O O (.v 10 O O .nil) (aw O O underlying71 O O sizeOf25 O) O) (aq O (fun γ => qp O O (.v 11 O O .nil) (ai O O isAgg25 (hcell39v 1 O 1 _ O)) O) (ac (fun γ => (ac (qm O (.o (s := 2) O (by decide) .nil) O) (ac (qm O (.o (s := 2) O (by decide) .nil) O) zA))) (ac (fun γ => (ac (qm O (.o (s := 2) O (by decide) .nil) O) (ac (qm O (.o (s := 2) O (by decide) .nil) O) zA))) (ac (fun γ => (ac (qp O O (.v 15 O O .nil) (bi O O O underlying25) O) (ac (qp O O (.v 15 O O .nil) (bi O O O underlying25) O) zA))) (ac (fun γ => (ac (qp O O (.v 16 O O .nil) (mp O O O (by decide)) O) (ac (qp O O (.v 16 O O .nil) (mp O O O (by decide)) O) zA))) (ac (fun γ => (ac (qp O O (.v 14 O O (.v 17 O O .nil)) (dU (l := x2) (lo' := (0 : Int)) (hi' := IntKind.i64.wrap (Int.tdiv (x2.length : Int) 2)) O O O O underlying25 sizeOf5 (.inr ⟨_, O⟩) (.inl ⟨O, O⟩) x be a0) O) (ac (qp O O (.v 14 O O (.v 17 O O .nil)) (dU (l := x2) (lo' := (0 : Int)) (hi' := IntKind.i64.wrap (Int.tdiv (x2.length : Int) 2)) O O O O underlying25 sizeOf5 (.inr ⟨_, O⟩) (.inl ⟨O, O⟩) x be a0) O) zA))) (aq O (fun γ => qp O O (.v 3 O O (.v 4 O O .nil)) (ct O O O a4 underlying47 sizeOf71 a1.1 a1.2) O) (aq O (fun γ => qp O O (.v 20 O O .nil) (aw O O underlying71 O O sizeOf25 O) O) zA))))))))))))))))))))
 exact (ac (fun γ => eo (Z := Option Addr × Nat) (fun z => (z, γ.2)) rfl rfl (.v 12 rfl rfl .nil) (ar (vs := [.slice aa (((a.getD e.toNat aj).2.1).length) ab]) (cap := []) (A := []) (rst := [obj b0 49 [.slice b a.length c, .int .i64 d.2.1, .bool d.2.2.1, str d.2.2.2], Row 71 3 b a.length c p.flatten, g, F]) rfl rfl rfl rfl rfl rfl call89 (.sel 0 rfl (.sel 0 rfl (.sel 0 rfl (.sel 0 rfl (.nil _))))) (bl.calls _ _ aa ab ((a.getD e.toNat aj).2.1) (c7.lend 2 rfl) c8 c9) dl) (fun _ => ⟨rfl, rfl, rfl, rfl, rfl, rfl, rfl, rfl, rfl, rfl, rfl, rfl, rfl, rfl, rfl, rfl, rfl, rfl, trivial⟩) (fun _ => .inr rfl) (fun z => Ent.refl _)) (ac (fun γ => eo (Z := Option Addr × Nat) (fun z => (γ.1, z)) rfl rfl (.v 13 rfl rfl (.v 18 rfl rfl .nil)) (dd 0 rfl rfl rfl underlying25 eP rfl (ds.rds 3 rfl) d1) (fun _ => ⟨rfl, rfl, rfl, rfl, rfl, rfl, rfl, rfl, rfl, rfl, rfl, rfl, rfl, rfl, rfl, rfl, rfl, rfl, rfl, trivial⟩) (fun _ => .inr rfl) (fun z => Ent.refl _)) (ac (fun γ => eo (Z := Unit) (fun z => (γ.1, γ.2)) rfl rfl (.v 19 rfl rfl (.v 21 rfl rfl .nil)) (RE.lend 0 rfl (fun d3 d4 d5 fn => RE.ent (H1 := [aN [Row 5 1 γ.2.1 (h ++ (cut x2 (0 : Int) (IntKind.i64.wrap (Int.tdiv (x2.length : Int) 2)))).length γ.2.2 (ao (h ++ (cut x2 (0 : Int) (IntKind.i64.wrap (Int.tdiv (x2.length : Int) 2))))), g], obj b0 49 [.slice b a.length c, .int .i64 d.2.1, .bool d.2.2.1, str d.2.2.2], Row 71 3 b a.length c p.flatten, F]) (Ent.trans (m := [Row 5 1 γ.2.1 (h ++ (cut x2 (0 : Int) (IntKind.i64.wrap (Int.tdiv (x2.length : Int) 2)))).length γ.2.2 (ao (h ++ (cut x2 (0 : Int) (IntKind.i64.wrap (Int.tdiv (x2.length : Int) 2))))), g, obj b0 49 [.slice b a.length c, .int .i64 d.2.1, .bool d.2.2.1, str d.2.2.2], Row 71 3 b a.length c p.flatten, F]) (.sel 0 rfl (.sel 2 rfl (.sel 0 rfl (.sel 0 rfl (.sel 0 rfl (.nil _)))))) (jy [Row 5 1 γ.2.1 (h ++ (cut x2 (0 : Int) (IntKind.i64.wrap (Int.tdiv (x2.length : Int) 2)))).length γ.2.2 (ao (h ++ (cut x2 (0 : Int) (IntKind.i64.wrap (Int.tdiv (x2.length : Int) 2))))), g] _)) (hZ (V := (V71 (aN [Row 5 1 γ.2.1 (h ++ (cut x2 (0 : Int) (IntKind.i64.wrap (Int.tdiv (x2.length : Int) 2)))).length γ.2.2 (ao (h ++ (cut x2 (0 : Int) (IntKind.i64.wrap (Int.tdiv (x2.length : Int) 2))))), g]))) ((a.getD e.toNat aj).1, h ++ (cut x2 (0 : Int) (IntKind.i64.wrap (Int.tdiv (x2.length : Int) 2))), (a.getD e.toNat aj).2.2) 1 aj 2 rfl rfl rfl sizeOf25 rfl rfl (aY (by rfl)) rfl (q.mono (V71.up (Up.lend (l := [Row 5 1 γ.2.1 (h ++ (cut x2 (0 : Int) (IntKind.i64.wrap (Int.tdiv (x2.length : Int) 2)))).length γ.2.2 (ao (h ++ (cut x2 (0 : Int) (IntKind.i64.wrap (Int.tdiv (x2.length : Int) 2))))), g]) 1 rfl))) a4 (by omega) rfl (fun r hr _ _ => by obtain ⟨a1', c1', rfl, h1'⟩ := hr; exact ⟨γ.2.1, γ.2.2, rfl, ⟨(Rd.lend (l := [Row 5 1 γ.2.1 (h ++ (cut x2 (0 : Int) (IntKind.i64.wrap (Int.tdiv (x2.length : Int) 2)))).length γ.2.2 (ao (h ++ (cut x2 (0 : Int) (IntKind.i64.wrap (Int.tdiv (x2.length : Int) 2))))), g]) d3 0 rfl), d4, d5⟩⟩)))) (fun _ => ⟨rfl, rfl, rfl, rfl, rfl, rfl, rfl, rfl, rfl, rfl, rfl, rfl, rfl, rfl, rfl, rfl, rfl, rfl, rfl, rfl, rfl, rfl, trivial⟩) (fun _ => .inl rfl) (fun z => lc ((rfl : _ = [aN [Row 5 1 γ.2.1 (h ++ (cut x2 (0 : Int) (IntKind.i64.wrap (Int.tdiv (x2.length : Int) 2)))).length γ.2.2 (ao (h ++ (cut x2 (0 : Int) (IntKind.i64.wrap (Int.tdiv (x2.length : Int) 2))))), g], obj b0 49 [.slice b a.length c, .int .i64 d.2.1, .bool d.2.2.1, str d.2.2.2], aC 71 3 (V71 (aN [Row 5 1 γ.2.1 (h ++ (cut x2 (0 : Int) (IntKind.i64.wrap (Int.tdiv (x2.length : Int) 2)))).length γ.2.2 (ao (h ++ (cut x2 (0 : Int) (IntKind.i64.wrap (Int.tdiv (x2.length : Int) 2))))), g])) b (a.set e.toNat ((a.getD e.toNat aj).1, h ++ (cut x2 (0 : Int) (IntKind.i64.wrap (Int.tdiv (x2.length : Int) 2))), (a.getD e.toNat aj).2.2)) c, F]).trans ((by simp only [List.length_set, eR] : [aN [Row 5 1 γ.2.1 (h ++ (cut x2 (0 : Int) (IntKind.i64.wrap (Int.tdiv (x2.length : Int) 2)))).length γ.2.2 (ao (h ++ (cut x2 (0 : Int) (IntKind.i64.wrap (Int.tdiv (x2.length : Int) 2))))), g], obj b0 49 [.slice b a.length c, .int .i64 d.2.1, .bool d.2.2.1, str d.2.2.2], aC 71 3 (V71 (aN [Row 5 1 γ.2.1 (h ++ (cut x2 (0 : Int) (IntKind.i64.wrap (Int.tdiv (x2.length : Int) 2)))).length γ.2.2 (ao (h ++ (cut x2 (0 : Int) (IntKind.i64.wrap (Int.tdiv (x2.length : Int) 2))))), g])) b (a.set e.toNat ((a.getD e.toNat aj).1, h ++ (cut x2 (0 : Int) (IntKind.i64.wrap (Int.tdiv (x2.length : Int) 2))), (a.getD e.toNat aj).2.2)) c, F] = [aN [Row 5 1 γ.2.1 (h ++ (cut x2 (0 : Int) (IntKind.i64.wrap (Int.tdiv (x2.length : Int) 2)))).length γ.2.2 (ao (h ++ (cut x2 (0 : Int) (IntKind.i64.wrap (Int.tdiv (x2.length : Int) 2))))), g], obj b0 49 [.slice b ((a.set e.toNat ((a.getD e.toNat aj).1, h ++ (cut x2 (0 : Int) (IntKind.i64.wrap (Int.tdiv (x2.length : Int) 2))), (a.getD e.toNat aj).2.2)).length) c, .int .i64 d.2.1, .bool d.2.2.1, str d.2.2.2], aC 71 3 (V71 (aN [Row 5 1 γ.2.1 (h ++ (cut x2 (0 : Int) (IntKind.i64.wrap (Int.tdiv (x2.length : Int) 2)))).length γ.2.2 (ao (h ++ (cut x2 (0 : Int) (IntKind.i64.wrap (Int.tdiv (x2.length : Int) 2))))), g])) b (a.set e.toNat ((a.getD e.toNat aj).1, h ++ (cut x2 (0 : Int) (IntKind.i64.wrap (Int.tdiv (x2.length : Int) 2))), (a.getD e.toNat aj).2.2)) c, F]).trans rfl)))) zA)))
 intro b2
 refine ae (sr ?_)
 refine va O O (ag (ae (ak ?_)))
 refine ax ?_
 exact av (b, c, aN [Row 5 1 b2.2.1 (h ++ (cut x2 (0 : Int) (IntKind.i64.wrap (Int.tdiv (x2.length : Int) 2)))).length b2.2.2 (ao (h ++ (cut x2 (0 : Int) (IntKind.i64.wrap (Int.tdiv (x2.length : Int) 2))))), g]) O O O (.sel 1 O (.sel 1 O (.sel 0 O (.sel 0 O (.nil _)))))
 refine au ?_
 refine ae (ap ?_)
 refine bv (fun a5 => ?_)
 refine fA 1 O q O (i := e.toNat) (by omega) aj (fun b3 a6 ha d6 d7 eA hcell83v => ?_)
 obtain ⟨ad, af, rfl, ⟨d8, d9, ec⟩⟩ := d7
 refine cu (fun n ed => ?_)
 refine bv (fun ef => ?_)
 refine bv (fun a7 => ?_)
 refine fA 1 O q O (i := e.toNat) (by omega) aj (fun b4 a8 hb a9 eg es hcell101v => ?_)
 obtain ⟨fp, fs, rfl, ⟨eF, e0, e1⟩⟩ := eg
 refine bp (Γ := (Option Addr × Nat) × (Option Addr × Nat)) ((none, 0), (none, 0)) [[], [0], [0, 1], [0, 1, 2], [], [], [5], [5, 6], [5, 6, 7], [], [5, 6, 7, 8, 9], [5, 6, 7, 8, 9, 10], [5, 6, 7, 8, 9, 10, 11], [5, 6, 7, 8, 9, 10, 11, 12], [], [5, 6, 7, 8, 9, 10, 11, 12, 13, 14], rL 16, rL 17, rL 18] [13, 15, 18] [0, 1, 2, 3, 4, 5, 6, 7, 8, 9, 10, 11, 12, 14, 16, 17] (fun i => [[0, 1, 2], [0, 1, 2], [0, 1, 2], [0, 1, 2], [0, 1, 2], [0], [0], [0], [0], [0], [0], [0], [0], [], [0, 1], [], [2], [2], []].getD i []) (fun i => [[], [], [], [], [], [], [], [], [], [], [], [], [], [0, 1, 2, 3, 4, 5, 6, 7, 8, 9, 10, 11, 12, 14], [], rL 15, [], [], rL 18].getD i []) (fun γ i => [.pointer (some ⟨b0, 0, none⟩), .pointer (some ⟨b0, 0, none⟩), .pointer (some ⟨b0, 0, none⟩), .slice b a.length c, .int .i64 e, .pointer (some ⟨b0, 0, none⟩), .pointer (some ⟨b0, 0, none⟩), .pointer (some ⟨b0, 0, none⟩), .slice b a.length c, .int .i64 e, .pointer (some ⟨b3, a6 + e.toNat * 3, none⟩), .pointer (some ⟨b3, a6 + e.toNat * 3 + 1, none⟩), .slice ad (((a.getD e.toNat aj).2.1).length) af, .slice γ.1.1 n.length γ.1.2, .slice a2 x2.length c2, .slice γ.2.1 ((n ++ x2).length) γ.2.2, .pointer (some ⟨b4, a8 + e.toNat * 3, none⟩), .pointer (some ⟨b4, a8 + e.toNat * 3 + 1, none⟩), undef].getD i undef) (fun j γ => [[obj b0 49 [.slice b a.length c, .int .i64 d.2.1, .bool d.2.2.1, str d.2.2.2], Row 71 3 b a.length c p.flatten, g, F], [Row 5 1 γ.1.1 n.length γ.1.2 (ao n), obj b0 49 [.slice b a.length c, .int .i64 d.2.1, .bool d.2.2.1, str d.2.2.2], Row 71 3 b a.length c p.flatten, g, F], [Row 5 1 γ.2.1 (n ++ x2).length γ.2.2 (ao (n ++ x2)), obj b0 49 [.slice b a.length c, .int .i64 d.2.1, .bool d.2.2.1, str d.2.2.2], Row 71 3 b a.length c p.flatten, g, F], [aN [Row 5 1 γ.2.1 (n ++ x2).length γ.2.2 (ao (n ++ x2)), g], obj b0 49 [.slice b ((a.set e.toNat ((a.getD e.toNat aj).1, n ++ x2, (a.getD e.toNat aj).2.2)).length) c, .int .i64 d.2.1, .bool d.2.2.1, str d.2.2.2], aC 71 3 (V71 (aN [Row 5 1 γ.2.1 (n ++ x2).length γ.2.2 (ao (n ++ x2)), g])) b (a.set e.toNat ((a.getD e.toNat aj).1, n ++ x2, (a.getD e.toNat aj).2.2)) c, F]].getD j []) (fun γ => []) mixed (by decide) (by decide) (by decide) (by decide) (by decide) (by decide) (by decide) 69 O (by decide) (by decide) (by decide) (Ent.refl _) ?_ ?_ (fun _ => trivial) ?_
 exact (ac (fun γ => (ac (qm O (.o (s := 0) O (by decide) .nil) O) (ac (qm O (.o (s := 0) O (by decide) .nil) O) (ac (qm O (.o (s := 0) O (by decide) .nil) O) zA)))) (ac (fun γ => (ac (qp O O (.v 0 O O .nil) (cj O O) O) (ac (qp O O (.v 0 O O .nil) (cj O O) O) (ac (qp O O (.v 0 O O .nil) (cj O O) O) zA)))) (ac (fun γ => (ac (qp O O (.v 1 O O .nil) (aw O O underlying49 O O sizeOf47 O) O) (ac (qp O O (.v 1 O O .nil) (aw O O underlying49 O O sizeOf47 O) O) (ac (qp O O (.v 1 O O .nil) (aw O O underlying49 O O sizeOf47 O) O) zA)))) (ac (fun γ => (ac (qp O O (.v 2 O O .nil) (ai O O isAgg47 (.obj 0 O O)) O) (ac (qp O O (.v 2 O O .nil) (ai O O isAgg47 (.obj 1 O O)) O) (ac (qp O O (.v 2 O O .nil) (ai O O isAgg47 (.obj 1 O O)) O) zA)))) (ac (fun γ => (ac (qm O (.o (s := 7) O (by decide) .nil) O) (ac (qm O (.o (s := 7) O (by decide) .nil) O) (ac (qm O (.o (s := 7) O (by decide) .nil) O) zA)))) (aq O (fun γ => qm O (.o (s := 0) O (by decide) .nil) O) (aq O (fun γ => qp O O (.v 5 O O .nil) (cj O O) O) (aq O (fun γ => qp O O (.v 6 O O .nil) (aw O O underlying49 O O sizeOf47 O) O) (aq O (fun γ => qp O O (.v 7 O O .nil) (ai O O isAgg47 (.obj 0 O O)) O) (aq O (fun γ => qm O (.o (s := 7) O (by decide) .nil) O) (aq O (fun γ => qp O O (.v 8 O O (.v 9 O O .nil)) (ct O O O d6 underlying47 sizeOf71 a5.1 a5.2) O) (aq O (fun γ => qp O O (.v 10 O O .nil) (aw O O underlying71 O O sizeOf25 O) O) (aq O (fun γ => qp O O (.v 11 O O .nil) (ai O O isAgg25 (hcell83v 1 O 1 _ O)) O) (ac (fun γ => (ac (qm O (.o (s := 2) O (by decide) .nil) O) (ac (qm O (.o (s := 2) O (by decide) .nil) O) zA))) (aq O (fun γ => qp O O (.v 3 O O (.v 4 O O .nil)) (ct O O O a9 underlying47 sizeOf71 a7.1 a7.2) O) (aq O (fun γ => qp O O (.v 16 O O .nil) (aw O O underlying71 O O sizeOf25 O) O) zA))))))))))))))))
 exact (ac (fun γ => eo (Z := Option Addr × Nat) (fun z => (z, γ.2)) rfl rfl (.v 12 rfl rfl .nil) (ar (vs := [.slice ad (((a.getD e.toNat aj).2.1).length) af]) (cap := []) (A := []) (rst := [obj b0 49 [.slice b a.length c, .int .i64 d.2.1, .bool d.2.2.1, str d.2.2.2], Row 71 3 b a.length c p.flatten, g, F]) rfl rfl rfl rfl rfl rfl call89 (.sel 0 rfl (.sel 0 rfl (.sel 0 rfl (.sel 0 rfl (.nil _))))) (bl.calls _ _ ad af ((a.getD e.toNat aj).2.1) (d8.lend 2 rfl) d9 ec) ed) (fun _ => ⟨rfl, rfl, rfl, rfl, rfl, rfl, rfl, rfl, rfl, rfl, rfl, rfl, rfl, rfl, trivial⟩) (fun _ => .inr rfl) (fun z => Ent.refl _)) (ac (fun γ => eo (Z := Option Addr × Nat) (fun z => (γ.1, z)) rfl rfl (.v 13 rfl rfl (.v 14 rfl rfl .nil)) (dd 0 rfl rfl rfl underlying25 eP rfl (h2.rds 3 rfl) ef) (fun _ => ⟨rfl, rfl, rfl, rfl, rfl, rfl, rfl, rfl, rfl, rfl, rfl, rfl, rfl, rfl, rfl, trivial⟩) (fun _ => .inr rfl) (fun z => Ent.refl _)) (ac (fun γ => eo (Z := Unit) (fun z => (γ.1, γ.2)) rfl rfl (.v 15 rfl rfl (.v 17 rfl rfl .nil)) (RE.lend 0 rfl (fun b5 b6 b7 e2 => RE.ent (H1 := [aN [Row 5 1 γ.2.1 (n ++ x2).length γ.2.2 (ao (n ++ x2)), g], obj b0 49 [.slice b a.length c, .int .i64 d.2.1, .bool d.2.2.1, str d.2.2.2], Row 71 3 b a.length c p.flatten, F]) (Ent.trans (m := [Row 5 1 γ.2.1 (n ++ x2).length γ.2.2 (ao (n ++ x2)), g, obj b0 49 [.slice b a.length c, .int .i64 d.2.1, .bool d.2.2.1, str d.2.2.2], Row 71 3 b a.length c p.flatten, F]) (.sel 0 rfl (.sel 2 rfl (.sel 0 rfl (.sel 0 rfl (.sel 0 rfl (.nil _)))))) (jy [Row 5 1 γ.2.1 (n ++ x2).length γ.2.2 (ao (n ++ x2)), g] _)) (hZ (V := (V71 (aN [Row 5 1 γ.2.1 (n ++ x2).length γ.2.2 (ao (n ++ x2)), g]))) ((a.getD e.toNat aj).1, n ++ x2, (a.getD e.toNat aj).2.2) 1 aj 2 rfl rfl rfl sizeOf25 rfl rfl (aY (by rfl)) rfl (q.mono (V71.up (Up.lend (l := [Row 5 1 γ.2.1 (n ++ x2).length γ.2.2 (ao (n ++ x2)), g]) 1 rfl))) a9 (by omega) rfl (fun r hr _ _ => by obtain ⟨a1', c1', rfl, h1'⟩ := hr; exact ⟨γ.2.1, γ.2.2, rfl, ⟨(Rd.lend (l := [Row 5 1 γ.2.1 (n ++ x2).length γ.2.2 (ao (n ++ x2)), g]) b5 0 rfl), b6, b7⟩⟩)))) (fun _ => ⟨rfl, rfl, rfl, rfl, rfl, rfl, rfl, rfl, rfl, rfl, rfl, rfl, rfl, rfl, rfl, rfl, rfl, rfl, trivial⟩) (fun _ => .inl rfl) (fun z => lc ((rfl : _ = [aN [Row 5 1 γ.2.1 (n ++ x2).length γ.2.2 (ao (n ++ x2)), g], obj b0 49 [.slice b a.length c, .int .i64 d.2.1, .bool d.2.2.1, str d.2.2.2], aC 71 3 (V71 (aN [Row 5 1 γ.2.1 (n ++ x2).length γ.2.2 (ao (n ++ x2)), g])) b (a.set e.toNat ((a.getD e.toNat aj).1, n ++ x2, (a.getD e.toNat aj).2.2)) c, F]).trans ((by simp only [List.length_set, eR] : [aN [Row 5 1 γ.2.1 (n ++ x2).length γ.2.2 (ao (n ++ x2)), g], obj b0 49 [.slice b a.length c, .int .i64 d.2.1, .bool d.2.2.1, str d.2.2.2], aC 71 3 (V71 (aN [Row 5 1 γ.2.1 (n ++ x2).length γ.2.2 (ao (n ++ x2)), g])) b (a.set e.toNat ((a.getD e.toNat aj).1, n ++ x2, (a.getD e.toNat aj).2.2)) c, F] = [aN [Row 5 1 γ.2.1 (n ++ x2).length γ.2.2 (ao (n ++ x2)), g], obj b0 49 [.slice b ((a.set e.toNat ((a.getD e.toNat aj).1, n ++ x2, (a.getD e.toNat aj).2.2)).length) c, .int .i64 d.2.1, .bool d.2.2.1, str d.2.2.2], aC 71 3 (V71 (aN [Row 5 1 γ.2.1 (n ++ x2).length γ.2.2 (ao (n ++ x2)), g])) b (a.set e.toNat ((a.getD e.toNat aj).1, n ++ x2, (a.getD e.toNat aj).2.2)) c, F]).trans rfl)))) zA)))
 intro bc
 refine ae (sr ?_)
 refine va O O (ag (ae (ak ?_)))
 exact av (b, c, aN [Row 5 1 bc.2.1 (n ++ x2).length bc.2.2 (ao (n ++ x2)), g]) O O O (.sel 1 O (.sel 1 O (.sel 0 O (.sel 0 O (.nil _)))))

def dB.f (k : Nat) (a : List (ba)) (e : Int) (d : Bool) (g : List UInt8) (x1 : List UInt8) : Option (Int × (List (ba)) × Int × Bool × List UInt8) := if d = true then (some (11, a, e, d, g)) else ((aU.f k a e d g x1).bind fun c => (if c < (0 : Int) then (some (8, a, e, d, g)) else ((bI.f a e d g).bind fun b => (if b.1 = true then (some (11, a, b.2.1, b.2.2.1, b.2.2.2)) else (if 0 ≤ c ∧ c < (a.length : Int) then (if 0 ≤ c ∧ c < (a.length : Int) then (some (0, a.set c.toNat ((a.getD c.toNat aj).1, (a.getD c.toNat aj).2.1, (((a.getD c.toNat aj).2.1).length : Int)), b.2.1, b.2.2.1, b.2.2.2)) else none) else none)))))
theorem dB.calls (W : World) (F : HA) (k : Nat) (b0 : Nat) (c : Option Addr) (d : Nat) (a : List (ba)) (e : HA) (l : Int) (m : Bool) (n : List UInt8) (x1 : List UInt8)  :
    Fn Tryz.prog W 96 [.pointer (some ⟨b0, 0, none⟩), str x1] [obj b0 49 [.slice c a.length d, .int .i64 l, .bool m, str n], aC 71 3 (V71 e) c a d, e] F (dB.f k a l m n x1) (fun (r : Int × (List (ba)) × Int × Bool × List UInt8) (y : Option Addr × Nat × HA) => .int .i64 r.1) (fun r y => [obj b0 49 [.slice y.1 r.2.1.length y.2.1, .int .i64 r.2.2.1, .bool r.2.2.2.1, str r.2.2.2.2], aC 71 3 (V71 (y.2.2)) y.1 r.2.1 y.2.1, y.2.2]) := by
 unfold dB.f
 refine aJ 33 Tryz.func96 O Tryz.ntmps96 O ?_
 refine sr ?_
 refine va O O (ag (ae (ap (sr ?_))))
 refine vm O O ?_
 refine vn O O ?_
 refine vq (aw O O underlying49 O O sizeOf4 O) O ?_
 refine vq (ai O O isAgg4 (.obj 0 O O)) O (ag (ae ?_))
 refine aT O (fun c5 => ?_) (fun c6 => ?_)
 refine sr ?_
 refine va O O (ag (ae (ak ?_)))
 refine ax ?_
 exact av (c, d, e) O O O (.sel 0 O (.sel 0 O (.sel 0 O (.sel 0 O (.nil _)))))
 refine au ?_
 refine ae (sr ?_)
 refine vm O O ?_
 refine vm O O ?_
 refine bd 1 O (fun p h => ?_)
 refine am (fun b ad => ?_)
 refine bf 1 O (fun a4 a5 a6 b6 => ?_)
 refine ah (ar (vs := [.pointer (some ⟨b0, 0, none⟩), str x1]) (cap := []) (A := [obj b0 49 [.slice c a.length d, .int .i64 l, .bool m, str n]]) (rst := [Row 71 3 c a.length d p.flatten, e, F]) O O O O O O call99 (.sel 0 O (.sel 0 O (.sel 0 O (.sel 0 O (.nil _))))) (aU.calls _ _ k b0 c d a l m n x1 ((Rd.asV h a4).up (Up.lend 0 O) (V71.up (Up.lend 1 O))) a5 a6) ad) O O O ?_
 intro b7
 refine va O O (ag (ae (ap (sr ?_))))
 refine vm O O ?_
 refine vq (bN O O O) O (ag (ae ?_))
 refine aL O (fun b8 => ?_) (fun b9 => ?_)
 refine sr ?_
 refine va O O (ag (ae (ak ?_)))
 refine ax ?_
 exact av (c, d, e) O O O (.sel 0 O (.sel' 0 O (aC.mk h) (.sel 0 O (.sel 0 O (.nil _)))))
 refine au ?_
 refine ae (ap (sr ?_))
 refine vm O O ?_
 refine am (fun g af => ?_)
 refine bf 1 O (fun al an a0 be => ?_)
 refine ah (ar (vs := [.pointer (some ⟨b0, 0, none⟩)]) (cap := []) (A := [obj b0 49 [.slice c a.length d, .int .i64 l, .bool m, str n]]) (rst := [Row 71 3 c a.length d p.flatten, e, F]) O O O O O O call142 (.sel 0 O (.sel 0 O (.sel 0 O (.sel 0 O (.nil _))))) (bI.calls _ _ b0 c d a l m n ((Rd.asV h al).up (Up.lend 0 O) (V71.up (Up.lend 1 O))) an a0) af) O O O ?_
 intro cd
 refine ag (ae ?_)
 refine aT O (fun ch => ?_) (fun cs => ?_)
 refine sr ?_
 refine va O O (ag (ae (ak ?_)))
 refine ax ?_
 exact av (c, d, e) O O O (.sel 0 O (.sel' 0 O (aC.mk h) (.sel 0 O (.sel 0 O (.nil _)))))
 refine au ?_
 refine ae (ap ?_)
 refine bv (fun q => ?_)
 refine fA 1 O h O (i := b.toNat) (by omega) aj (fun aa t c0 a1 a2 a9 hcell30v => ?_)
 obtain ⟨a7, a8, rfl, ⟨bs, b1, b2⟩⟩ := a2
 refine bv (fun u => ?_)
 refine fA 1 O h O (i := b.toNat) (by omega) aj (fun ab w c1 x a3 bc hcell43v => ?_)
 obtain ⟨c2, c3, rfl, ⟨b3, b4, b5⟩⟩ := a3
 refine bp (Γ := Unit) () [[], [0], [0, 1], [0, 1, 2], [], [], [5], [5, 6], [5, 6, 7], [], [5, 6, 7, 8, 9], [5, 6, 7, 8, 9, 10], [5, 6, 7, 8, 9, 10, 11], [5, 6, 7, 8, 9, 10, 11, 12], rL 14, rL 15, rL 16] [16] [0, 1, 2, 3, 4, 5, 6, 7, 8, 9, 10, 11, 12, 13, 14, 15] (fun i => [[0], [0], [0], [0], [0], [0], [0], [0], [0], [0], [0], [0], [0], [0], [0], [0], []].getD i []) (fun i => [[], [], [], [], [], [], [], [], [], [], [], [], [], [], [], [], rL 16].getD i []) (fun γ i => [.pointer (some ⟨b0, 0, none⟩), .pointer (some ⟨b0, 0, none⟩), .pointer (some ⟨b0, 0, none⟩), .slice c a.length d, .int .i64 b, .pointer (some ⟨b0, 0, none⟩), .pointer (some ⟨b0, 0, none⟩), .pointer (some ⟨b0, 0, none⟩), .slice c a.length d, .int .i64 b, .pointer (some ⟨aa, t + b.toNat * 3, none⟩), .pointer (some ⟨aa, t + b.toNat * 3 + 1, none⟩), .slice a7 (((a.getD b.toNat aj).2.1).length) a8, .int .i64 (((a.getD b.toNat aj).2.1).length : Int), .pointer (some ⟨ab, w + b.toNat * 3, none⟩), .pointer (some ⟨ab, w + b.toNat * 3 + 2, none⟩), undef].getD i undef) (fun j γ => [[obj b0 49 [.slice c a.length d, .int .i64 g.2.1, .bool g.2.2.1, str g.2.2.2], Row 71 3 c a.length d p.flatten, e, F], [obj b0 49 [.slice c ((a.set b.toNat ((a.getD b.toNat aj).1, (a.getD b.toNat aj).2.1, (((a.getD b.toNat aj).2.1).length : Int))).length) d, .int .i64 g.2.1, .bool g.2.2.1, str g.2.2.2], aC 71 3 (V71 e) c (a.set b.toNat ((a.getD b.toNat aj).1, (a.getD b.toNat aj).2.1, (((a.getD b.toNat aj).2.1).length : Int))) d, e, F]].getD j []) (fun γ => []) mixed (by decide) (by decide) (by decide) (by decide) (by decide) (by decide) (by decide) 33 O (by decide) (by decide) (by decide) (Ent.refl _) ?_ ?_ (fun _ => trivial) ?_
 exact (aq O (fun γ => qm O (.o (s := 0) O (by decide) .nil) O) (aq O (fun γ => qp O O (.v 0 O O .nil) (cj O O) O) (aq O (fun γ => qp O O (.v 1 O O .nil) (aw O O underlying49 O O sizeOf47 O) O) (aq O (fun γ => qp O O (.v 2 O O .nil) (ai O O isAgg47 (.obj 0 O O)) O) (aq O (fun γ => qm O (.o (s := 5) O (by decide) .nil) O) (aq O (fun γ => qm O (.o (s := 0) O (by decide) .nil) O) (aq O (fun γ => qp O O (.v 5 O O .nil) (cj O O) O) (aq O (fun γ => qp O O (.v 6 O O .nil) (aw O O underlying49 O O sizeOf47 O) O) (aq O (fun γ => qp O O (.v 7 O O .nil) (ai O O isAgg47 (.obj 0 O O)) O) (aq O (fun γ => qm O (.o (s := 5) O (by decide) .nil) O) (aq O (fun γ => qp O O (.v 8 O O (.v 9 O O .nil)) (ct O O O a1 underlying47 sizeOf71 q.1 q.2) O) (aq O (fun γ => qp O O (.v 10 O O .nil) (aw O O underlying71 O O sizeOf25 O) O) (aq O (fun γ => qp O O (.v 11 O O .nil) (ai O O isAgg25 (hcell30v 1 O 1 _ O)) O) (aq O (fun γ => qp O O (.v 12 O O .nil) (bi O O O underlying25) O) (aq O (fun γ => qp O O (.v 3 O O (.v 4 O O .nil)) (ct O O O x underlying47 sizeOf71 u.1 u.2) O) (aq O (fun γ => qp O O (.v 14 O O .nil) (aw O O underlying71 O O sizeOf3 O) O) zA))))))))))))))))
 exact (ac (fun γ => eo (Z := Unit) (fun z => ()) rfl rfl (.v 13 rfl rfl (.v 15 rfl rfl .nil)) (hZ (V := (V71 e)) ((a.getD b.toNat aj).1, (a.getD b.toNat aj).2.1, (((a.getD b.toNat aj).2.1).length : Int)) 2 aj 1 rfl rfl rfl sizeOf3 rfl rfl (aY (by rfl)) rfl h x (by omega) rfl (fun r hr _ _ => by obtain ⟨a1', c1', rfl, h1'⟩ := hr; exact ⟨a1', c1', rfl, h1'⟩)) (fun _ => ⟨rfl, rfl, rfl, rfl, rfl, rfl, rfl, rfl, rfl, rfl, rfl, rfl, rfl, rfl, rfl, rfl, trivial⟩) (fun _ => .inl rfl) (fun z => lc ((rfl : _ = [obj b0 49 [.slice c a.length d, .int .i64 g.2.1, .bool g.2.2.1, str g.2.2.2], aC 71 3 (V71 e) c (a.set b.toNat ((a.getD b.toNat aj).1, (a.getD b.toNat aj).2.1, (((a.getD b.toNat aj).2.1).length : Int))) d, e, F]).trans ((by simp only [List.length_set, eR] : [obj b0 49 [.slice c a.length d, .int .i64 g.2.1, .bool g.2.2.1, str g.2.2.2], aC 71 3 (V71 e) c (a.set b.toNat ((a.getD b.toNat aj).1, (a.getD b.toNat aj).2.1, (((a.getD b.toNat aj).2.1).length : Int))) d, e, F] = [obj b0 49 [.slice c ((a.set b.toNat ((a.getD b.toNat aj).1, (a.getD b.toNat aj).2.1, (((a.getD b.toNat aj).2.1).length : Int))).length) d, .int .i64 g.2.1, .bool g.2.2.1, str g.2.2.2], aC 71 3 (V71 e) c (a.set b.toNat ((a.getD b.toNat aj).1, (a.getD b.toNat aj).2.1, (((a.getD b.toNat aj).2.1).length : Int))) d, e, F]).trans rfl)))) zA)
 intro c4
 refine ae (sr ?_)
 refine va O O (ag (ae (ak ?_)))
 exact av (c, d, e) O O O (.sel 0 O (.sel 0 O (.sel 0 O (.sel 0 O (.nil _)))))

def cq.l0 : Nat → Int → List UInt8 → Int → Option (List UInt8)
  | 0, _, _, _ => none
  | k + 1, a, b, c => if c < (19 : Int) then (if (mj (IntKind.i32.wrap (IntKind.i64.wrap (48 + (Int.tmod a 10))))).length + b.length ≤ 9223372036854775807 then (cq.l0 k (IntKind.i64.wrap (Int.tdiv a 10)) ((mj (IntKind.i32.wrap (IntKind.i64.wrap (48 + (Int.tmod a 10))))) ++ b) (IntKind.i64.wrap (c + 1))) else none) else (some b)
def cq.f (k : Nat) (x0 : Int) : Option (List UInt8) := (cq.l0 k x0 ([] : List UInt8) 0).bind fun a => (if ([115, 110, 97, 112, 45] : List UInt8).length + a.length ≤ 9223372036854775807 then (some (([115, 110, 97, 112, 45] : List UInt8) ++ a)) else none)
theorem cq.calls (W : World) (F : HA) (k : Nat) (x0 : Int)  :
    Fn Tryz.prog W 26 [.int .i64 x0] [] F (cq.f k x0) (fun (r : List UInt8) (y : Unit) => str r) (fun r y => []) := by
 unfold cq.f
 refine aJ 20 Tryz.func26 O Tryz.ntmps26 O ?_
 refine sr ?_
 refine va O O (nx ?_)
 refine va O O (ag (ae ?_))
 refine bO (S := List UInt8) (Unit) (fun s y => [(3, str s)]) (fun s y => [F]) ?_ ?_
 refine sr ?_
 refine va O O (ag (ae ?_))
 refine aK ?_
 refine bX (S := Int × List UInt8 × Int) (Unit) (fun k s => cq.l0 k s.1 s.2.1 s.2.2) (fun s y => [(0, .int .i64 s.1), (3, str s.2.1), (4, .int .i64 s.2.2)]) (fun s y => [F]) (fun _ => by rw [cq.l0]) ?_ k (x0, ([] : List UInt8), 0) () ⟨O, O, O, trivial⟩ (.sel 0 O (.nil _))
 intro k a d
 refine cL (by rw [cq.l0]) ?_
 refine ap (sr ?_)
 refine vm O O ?_
 refine vq (bN O O O) O (ag (ae ?_))
 refine aL O (fun e => ?_) (fun g => ?_)
 refine au ?_
 refine ae (ap ?_)
 refine aK ?_
 refine sr ?_
 refine vm O O ?_
 refine vq (rc O O O (by decide)) O ?_
 refine vq (bj O O O) O ?_
 refine vq (dy O O underlying3 underlying21) O ?_
 refine vq (zg O O underlying21 underlying9) O ?_
 refine vm O O ?_
 refine aQ (fun b => ?_)
 refine vq (qZ O O O b) O ?_
 refine va O O (ny ?_)
 refine vm O O ?_
 refine vq (mp O O O (by decide)) O ?_
 refine va O O (ag (bb (ae (aE ?_))))
 refine vm O O ?_
 refine vq (bj O O O) O ?_
 refine va O O (ag ?_)
 exact bu (s := (IntKind.i64.wrap (Int.tdiv a.1 10), (mj (IntKind.i32.wrap (IntKind.i64.wrap (48 + (Int.tmod a.1 10))))) ++ a.2.1, IntKind.i64.wrap (a.2.2 + 1))) () ⟨O, O, O, trivial⟩ (.sel 0 O (.nil _))
 refine ck ?_
 refine bQ ?_
 refine bY ?_
 refine bR ?_
 exact aM (s := a.2.1) () ⟨O, trivial⟩ (.sel 0 O (.nil _))
 intro h i
 refine sr ?_
 refine vm O O ?_
 refine aQ (fun c => ?_)
 refine vq (qZ O O O c) O ?_
 refine va O O (ag (ae (ak ?_)))
 exact av () O O O (.sel 0 O (.nil _))
end Go.Proofs.YtjkjlggbikeliaaGreatDoor

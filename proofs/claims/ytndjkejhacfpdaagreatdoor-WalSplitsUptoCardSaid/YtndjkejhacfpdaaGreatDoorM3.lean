/- Texts that lead to the law WalSplits: G1. Conditions: as each says. -/
import Derived.Test.YtndjkejhacfpdaaGreatDoorM2
import Derived.Test.YtndjkejhacfpdaaGreatDoorProg
namespace Go.Proofs.YtndjkejhacfpdaaGreatDoor
open Go.RowKit _root_.Go.Proofs.Tryz
set_option linter.unusedVariables false
set_option linter.unusedSimpArgs false
set_option maxRecDepth 20000
set_option maxHeartbeats 20000000
theorem fV : Elt Tryz.prog 5 1 1 [.int .u8 0] := .of (.int .u8 0) (by kernel_rfl) rfl rfl rfl rfl
abbrev aG : Type := Int × Int × Int × List UInt8 × Int
abbrev aB : aG := ((0 : Int), (0 : Int), (0 : Int), ([] : List UInt8), (0 : Int))
abbrev bz : Type := Int × Int × Int × List UInt8
abbrev aL : bz := ((0 : Int), (0 : Int), (0 : Int), ([] : List UInt8))
abbrev cV : Type := Int × Int × Int × Int × Int × Int × Int × Int × Int × Int × List UInt8
abbrev aI : cV := ((0 : Int), (0 : Int), (0 : Int), (0 : Int), (0 : Int), (0 : Int), (0 : Int), (0 : Int), (0 : Int), (0 : Int), ([] : List UInt8))
abbrev ao (x : List UInt8) : Value := str x
abbrev eg (x : Int) : Value := .int .i64 x
abbrev dh (x : Option Nat) : Value := match x with
  | none => .nilFunc
  | some f => .func (.func f) #[] #[]
theorem iM : hP Tryz.prog 9 ao := rO underlying9
theorem jS : hP Tryz.prog 3 eg := rM underlying3
abbrev ai (p : Nat) (x : List UInt8 × Int) (y : Option Addr × Nat) : List HA := [obj p 109 [.slice y.1 x.1.length y.2, .int .i64 x.2], Row 5 1 y.1 x.1.length y.2 (ax x.1)]
theorem tU : Elt Tryz.prog 9 1 16 [str ([] : List UInt8)] := .of (str ([] : List UInt8)) (by kernel_rfl) rfl rfl rfl rfl
theorem lT : Elt Tryz.prog 144 5 56 [.int .i64 0, .int .i64 0, .int .i64 0, .slice none 0 0, .int .i64 0] := .of (.agg #[.int .i64 0, .int .i64 0, .int .i64 0, .slice none 0 0, .int .i64 0]) (by kernel_rfl) rfl rfl rfl rfl
theorem mv : Elt Tryz.prog 3 1 8 [.int .i64 0] := .of (.int .i64 0) (by kernel_rfl) rfl rfl rfl rfl
theorem sA : Elt Tryz.prog 33 1 24 [.slice none 0 0] := .of (.slice none 0 0) (by kernel_rfl) rfl rfl rfl rfl
theorem jV : Elt Tryz.prog 35 4 48 [.int .i64 0, .int .i64 0, .int .i64 0, .slice none 0 0] := .of (.agg #[.int .i64 0, .int .i64 0, .int .i64 0, .slice none 0 0]) (by kernel_rfl) rfl rfl rfl rfl
theorem iz : Elt Tryz.prog 102 11 104 [.int .i64 0, .int .i64 0, .int .i64 0, .int .i64 0, .int .i64 0, .int .i64 0, .int .i64 0, .int .i64 0, .int .i64 0, .int .i64 0, .slice none 0 0] := .of (.agg #[.int .i64 0, .int .i64 0, .int .i64 0, .int .i64 0, .int .i64 0, .int .i64 0, .int .i64 0, .int .i64 0, .int .i64 0, .int .i64 0, .slice none 0 0]) (by kernel_rfl) rfl rfl rfl rfl
def V9 (_ : HA) (x : List UInt8) (r : List Value) : Prop := r = [str x]
theorem V9.up {G F : HA} (_ : Up G F) : ∀ x r, V9 G x r → V9 F x r := fun _ _ h => h
def aQ (F : HA) (x : Int × Int × Int × List UInt8 × Int) (r : List Value) : Prop := ∃ (a3 : Option Addr) (c3 : Nat), r = [.int .i64 x.1, .int .i64 x.2.1, .int .i64 x.2.2.1, .slice a3 x.2.2.2.1.length c3, .int .i64 x.2.2.2.2] ∧ (Rd F a3 (ax x.2.2.2.1) ∧ x.2.2.2.1.length ≤ c3 ∧ c3 ≤ maxLen)
theorem aQ.up {G F : HA} (u : Up G F) : ∀ x r, aQ G x r → aQ F x r := by
  rintro x r ⟨a3, c3, e, ⟨h3, k3, m3⟩⟩
  exact ⟨a3, c3, e, ⟨h3.up u, k3, m3⟩⟩
def V3 (_ : HA) (x : Int) (r : List Value) : Prop := r = [.int .i64 x]
theorem V3.up {G F : HA} (_ : Up G F) : ∀ x r, V3 G x r → V3 F x r := fun _ _ h => h
def V33 (F : HA) (x : List UInt8) (r : List Value) : Prop := ∃ (a0 : Option Addr) (c0 : Nat), r = [.slice a0 x.length c0] ∧ (Rd F a0 (ax x) ∧ x.length ≤ c0 ∧ c0 ≤ maxLen)
theorem V33.up {G F : HA} (u : Up G F) : ∀ x r, V33 G x r → V33 F x r := by
  rintro x r ⟨a0, c0, e, ⟨h0, k0, m0⟩⟩
  exact ⟨a0, c0, e, ⟨h0.up u, k0, m0⟩⟩
def V35 (F : HA) (x : Int × Int × Int × List UInt8) (r : List Value) : Prop := ∃ (a3 : Option Addr) (c3 : Nat), r = [.int .i64 x.1, .int .i64 x.2.1, .int .i64 x.2.2.1, .slice a3 x.2.2.2.length c3] ∧ (Rd F a3 (ax x.2.2.2) ∧ x.2.2.2.length ≤ c3 ∧ c3 ≤ maxLen)
theorem V35.up {G F : HA} (u : Up G F) : ∀ x r, V35 G x r → V35 F x r := by
  rintro x r ⟨a3, c3, e, ⟨h3, k3, m3⟩⟩
  exact ⟨a3, c3, e, ⟨h3.up u, k3, m3⟩⟩
def uy (x : Int × Int × Int × List UInt8) : Prop := okI .i64 x.1 ∧ okI .i64 x.2.1 ∧ okI .i64 x.2.2.1 ∧ x.2.2.2.length ≤ 140737488351232
def dT (F : HA) (x : Int × Int × Int × Int × Int × Int × Int × Int × Int × Int × List UInt8) (r : List Value) : Prop := ∃ (b : Option Addr) (a : Nat), r = [.int .i64 x.1, .int .i64 x.2.1, .int .i64 x.2.2.1, .int .i64 x.2.2.2.1, .int .i64 x.2.2.2.2.1, .int .i64 x.2.2.2.2.2.1, .int .i64 x.2.2.2.2.2.2.1, .int .i64 x.2.2.2.2.2.2.2.1, .int .i64 x.2.2.2.2.2.2.2.2.1, .int .i64 x.2.2.2.2.2.2.2.2.2.1, .slice b x.2.2.2.2.2.2.2.2.2.2.length a] ∧ (Rd F b (ax x.2.2.2.2.2.2.2.2.2.2) ∧ x.2.2.2.2.2.2.2.2.2.2.length ≤ a ∧ a ≤ maxLen)
theorem dT.up {G F : HA} (u : Up G F) : ∀ x r, dT G x r → dT F x r := by
  rintro x r ⟨a, b, e, ⟨c, d, f⟩⟩
  exact ⟨a, b, e, ⟨c.up u, d, f⟩⟩
theorem mixed : Tryz.prog.follows .mixedOrders = true := by kernel_rfl
def eL.f  : Option ((List ((List UInt8) × (List UInt8 × Int))) × List UInt8 × Int × Bool) := some (([] : List ((List UInt8) × (List UInt8 × Int))), ([] : List UInt8), 0, false)
theorem eL.calls (W : World) (F : HA)   :
    Fn Tryz.prog W 16 [] [] F (eL.f ) (fun (r : (List ((List UInt8) × (List UInt8 × Int))) × List UInt8 × Int × Bool) (y : Nat × Nat × Kps) => .pointer (some ⟨y.1, 0, none⟩)) (fun r y => [obj y.1 97 [.map (some y.2.1), str r.2.1, .int .i64 r.2.2.1, .bool r.2.2.2], am (aj y.2.1 ao ak y.2.2) ai y.2.2 r.1]) := by
 unfold eL.f
 refine aN 4 Tryz.func16 O Tryz.ntmps16 O ?_
 refine sr ?_
 refine va O O (nx ?_)
 refine ah (ra (ek := ao) (fp := ai) O) O O O ?_
 intro a
 refine vq (cx (v := .agg #[.map (some a), str ([] : List UInt8), .int .i64 0, .bool false]) O O (fun _ => by kernel_rfl)) O ?_
 refine ah (cy O O O) O O O ?_
 intro b
 refine va O O (ae (aa (aA ?_)))
 exact aD (b, a, ([] : Kps)) O O O (.sel 0 O (.sel 0 O (.sel 0 O (.nil _))))

def eW.f  : Option (Unit) := some ()
theorem eW.calls (W : World) (F : HA) (m0 : Nat)  :
    Fn Tryz.prog W 70 [.map (some m0)] [] F (eW.f ) (fun (r : Unit) (y : Nat) => .func (.func 98) #[] #[.pointer (some ⟨y, 0, none⟩)]) (fun r y => [obj y 95 [.map (some m0)]]) := by
 unfold eW.f
 refine aN 4 Tryz.func70 O Tryz.ntmps70 O ?_
 refine sr ?_
 refine ah (cy O O O) O O O ?_
 intro a
 refine va O O (nx ?_)
 refine vq (hD O O O) O ?_
 refine va O O (ae (aa (aA ?_)))
 exact aD a O O O (.sel 0 O (.sel 0 O (.nil _)))

def cc.f (a : List ((List UInt8) × (List UInt8 × Int))) : Option (List (List UInt8)) := if (a.map (·.1)).Nodup ∧ a.length * 16 ≤ 140737488355328 ∧ ∀ p ∈ a, p.1.length ≤ 140737488351232 then some (dS a) else none
theorem cc.calls (W : World) (F : HA) (d : Nat) (a : Nat) (b : Kps) (c : List ((List UInt8) × (List UInt8 × Int))) :
    Fn Tryz.prog W 69 [.func (.func 98) #[] #[.pointer (some ⟨d, 0, none⟩)]] [obj d 95 [.map (some a)], am (aj a ao ak b) ai b c] F (cc.f c) (fun (r : List (List UInt8)) (y : Option Addr × Nat) => .slice y.1 r.length y.2) (fun r y => [ap 9 1 (V9 tt) y.1 r y.2, obj d 95 [.map (some a)], am (aj a ao ak b) ai b c]) := by
  unfold cc.f
  exact pv fun F => qC (V := (V9 tt)) (fun _ => O) underlying9 (fun w D0 nn => mb w D0 nn a d)

def eA.f (a : List ((List UInt8) × (List UInt8 × Int))) (c : List UInt8) (d : Int) (e : Bool) : Option (List (List UInt8)) := (eW.f).bind fun g => ((cc.f a).bind fun b => (some b))
theorem eA.calls (W : World) (F : HA) (b0 : Nat) (a : Nat) (b : Kps) (c : List ((List UInt8) × (List UInt8 × Int))) (d : List UInt8) (e : Int) (g : Bool)  :
    Fn Tryz.prog W 29 [.pointer (some ⟨b0, 0, none⟩)] [obj b0 97 [.map (some a), str d, .int .i64 e, .bool g], am (aj a ao ak b) ai b c] F (eA.f c d e g) (fun (r : List (List UInt8)) (y : Option Addr × Nat) => .slice y.1 r.length y.2) (fun r y => [ap 9 1 (V9 tt) y.1 r y.2, obj b0 97 [.map (some a), str d, .int .i64 e, .bool g], am (aj a ao ak b) ai b c]) := by
 unfold eA.f
 refine aN 9 Tryz.func29 O Tryz.ntmps29 O ?_
 refine sr ?_
 refine va O O (nx ?_)
 refine vm O O ?_
 refine vn O O ?_
 refine vq (ar O O underlying97 O O sizeOf95 O) O ?_
 refine vq (ag O O isAgg95 (.obj 0 O O)) O ?_
 refine aw (fun l j => ?_)
 refine ah (av (vs := [.map (some a)]) (cap := []) (A := []) (rst := [obj b0 97 [.map (some a), str d, .int .i64 e, .bool g], am (aj a ao ak b) ai b c, F]) O O O O O O call70 (.sel 0 O (.sel 0 O (.sel 0 O (.nil _)))) (eW.calls _ _ a ) j) O O O ?_
 intro h
 refine aw (fun m k => ?_)
 refine ah (av (vs := [.func (.func 98) #[] #[.pointer (some ⟨h, 0, none⟩)]]) (cap := []) (A := [obj h 95 [.map (some a)], am (aj a ao ak b) ai b c]) (rst := [obj b0 97 [.map (some a), str d, .int .i64 e, .bool g], F]) O O O O O O call69 (.sel 0 O (.sel 1 O (.sel 0 O (.sel 0 O (.nil _))))) (cc.calls _ _ h a b c ) k) O O O ?_
 intro i
 refine va O O (ae (aa (aA ?_)))
 exact aD (i.1, i.2) O O O (.sel 0 O (.sel 2 O (.sel 1 O (.sel 1 O (.nil _)))))

def dz.l0 (x0 : List UInt8) : Nat → Int → Int → Option ((Int) ⊕ (Int × Bool))
  | 0, _, _ => none
  | k + 1, b, a => if a < ((cut x0 (4 : Int) (x0.length : Int)).length : Int) then (if 0 ≤ a ∧ a < ((cut x0 (4 : Int) (x0.length : Int)).length : Int) then (if ((decide ((((cut x0 (4 : Int) (x0.length : Int)).getD a.toNat 0).toNat : Int) < (48 : Int))) || (decide ((57 : Int) < (((cut x0 (4 : Int) (x0.length : Int)).getD a.toNat 0).toNat : Int)))) = true then (some (.inr (0, false))) else (dz.l0 x0 k (IntKind.i64.wrap ((IntKind.i64.wrap (10 * b)) + (IntKind.i64.wrap (IntKind.u8.wrap ((((cut x0 (4 : Int) (x0.length : Int)).getD a.toNat 0).toNat : Int) - 48))))) (IntKind.i64.wrap (a + 1)))) else none) else (some (.inl b))
def dz.f (k : Nat) (x0 : List UInt8) : Option (Int × Bool) := (if (x0.length : Int) = (12 : Int) then (if 0 ≤ (0 : Int) ∧ (0 : Int) ≤ (4 : Int) ∧ (4 : Int) ≤ (x0.length : Int) then (some (!decide ((cut x0 (0 : Int) (4 : Int)) = ([119, 97, 108, 45] : List UInt8)))) else none) else (some true)).bind fun b => (if b = true then (some (0, false)) else (orR (if 0 ≤ (4 : Int) ∧ (4 : Int) ≤ (x0.length : Int) ∧ (x0.length : Int) ≤ (x0.length : Int) then (if (cut x0 (4 : Int) (x0.length : Int)).length ≤ 140737488355328 then (dz.l0 x0 k 0 0) else none) else none) fun a => (some (a, decide ((0 : Int) < a)))))
theorem dz.calls (W : World) (F : HA) (k : Nat) (x0 : List UInt8)  :
    Fn Tryz.prog W 11 [str x0] [] F (dz.f k x0) (fun (r : Int × Bool) (y : Unit) => .tuple #[.int .i64 r.1, .bool r.2]) (fun r y => []) := by
 unfold dz.f
 refine aN 39 Tryz.func11 O Tryz.ntmps11 O ?_
 refine sr ?_
 refine va O O ?_
 refine va O O (ae (aa (ay (sr ?_))))
 refine vm O O ?_
 refine vq (kw O O O underlying9) O ?_
 refine vq (cZ O O O) O ?_
 refine vm O O ?_
 refine dG 4 (S := Bool) (Unit) (fun s y => [(0, str x0), (14, .bool s)]) (fun s y => [F]) ?_ ?_
 refine lS (fun l => ?_) (fun m => ?_)
 rw [l]
 refine aO O O O O O O ?_
 refine aO O O O O O O ?_
 refine aO O O O O O O ?_
 refine vq (bW O O O O O) O (ae ?_)
 exact aF (s := true) () ⟨O, O, trivial⟩ (.sel 0 O (.nil _))
 rw [m]
 refine aZ (ba O O) O O O O O O ?_
 refine bh (fun n => ?_)
 refine aZ (rA (lo' := (0 : Int)) (hi' := (4 : Int)) O O O O underlying9 (.inr ⟨_, O⟩) (.inl ⟨O, O⟩) n) O O O O O O ?_
 refine aZ (ue O O O) O O O O O O ?_
 refine vq (bW O O O O O) O (ae ?_)
 exact aF (s := !decide ((cut x0 (0 : Int) (4 : Int)) = ([119, 97, 108, 45] : List UInt8))) () ⟨O, O, trivial⟩ (.sel 0 O (.nil _))
 intro z ab
 refine ae (aa ?_)
 refine aY O (fun ad => ?_) (fun af => ?_)
 refine sr ?_
 refine va O O ?_
 refine va O O (ae (aa (aA ?_)))
 refine aK ?_
 exact aD () O O O (.sel 0 O (.nil _))
 refine aC ?_
 refine aa (sr ?_)
 refine va O O (ae (aa ?_))
 refine gp (S := Int) (Unit) (fun s y => [(4, .int .i64 s)]) (fun s y => [F]) ?_ ?_
 refine sr ?_
 refine vm O O ?_
 refine bh (fun g => ?_)
 refine vq (rA (lo' := (4 : Int)) (hi' := (x0.length : Int)) O O O O underlying9 (.inl ⟨O, O⟩) (.inr ⟨_, O⟩) g) O ?_
 refine bh (fun h => ?_)
 refine ah (pV O O underlying9 underlying33 underlying5 h) O O O ?_
 intro c
 refine vq (bD O O O underlying33) O ?_
 refine vm O O (ae (aa ?_))
 refine aT ?_
 refine cC (S := Int × Int) (Unit) (fun k s => dz.l0 x0 k s.1 s.2) (fun s y => [(4, .int .i64 s.1), (17, .slice (some ⟨c.1, 0, none⟩) ((cut x0 (4 : Int) (x0.length : Int)).length) c.2), (18, .int .i64 ((cut x0 (4 : Int) (x0.length : Int)).length : Int)), (19, .int .i64 s.2)]) (fun s y => [Row 5 1 (some ⟨c.1, 0, none⟩) (cut x0 (4 : Int) (x0.length : Int)).length c.2 (ax (cut x0 (4 : Int) (x0.length : Int))), F]) (fun _ => by rw [dz.l0]) ?_ k (0, 0) () ⟨O, O, O, O, trivial⟩ (.sel 0 O (.sel 0 O (.nil _)))
 intro k a q
 refine df (by rw [dz.l0]) ?_
 refine sr ?_
 refine vq (cH O O O) O (ae (aa (ay ?_)))
 refine bf O (fun t => ?_) (fun u => ?_)
 refine aC ?_
 refine aa (ay ?_)
 refine aT ?_
 refine sr ?_
 refine bh (fun d => ?_)
 refine oL 0 O (gA (j := a.2.toNat) (by omega)) (fun v o e => ?_)
 refine vq (hJ O O O e underlying33 sizeOf5 d.1 d.2) O ?_
 refine vq (ag O O isAgg5 (.row' 0 O e (fQ (by omega)))) O ?_
 refine va O O (ae (aa (ay (sr ?_))))
 refine vm O O ?_
 refine vq (cH O O O) O ?_
 refine vm O O ?_
 refine au (b := decide ((((cut x0 (4 : Int) (x0.length : Int)).getD a.2.toNat 0).toNat : Int) < (48 : Int))) (fun p => RQ.sub (E' := [(6, .int .u8 (((cut x0 (4 : Int) (x0.length : Int)).getD a.2.toNat 0).toNat : Int))]) ⟨O, trivial⟩ (ba O O)) O O O O O ?_
 refine au (b := decide ((((cut x0 (4 : Int) (x0.length : Int)).getD a.2.toNat 0).toNat : Int) < (48 : Int))) (fun i => RQ.sub (E' := [(26, .int .u8 (((cut x0 (4 : Int) (x0.length : Int)).getD a.2.toNat 0).toNat : Int))]) ⟨aE O i, trivial⟩ (cI O O O)) O O O O O ?_
 refine vq (ex O O O) O (ae (aa ?_))
 refine aY O (fun w => ?_) (fun x => ?_)
 refine sr ?_
 refine va O O ?_
 refine va O O (ae (aa (aA ?_)))
 refine aK ?_
 refine bi ?_
 refine aK ?_
 refine fb ?_
 refine bi ?_
 refine fa ?_
 exact aD () O O O (.sel 1 O (.nil _))
 refine aC ?_
 refine aa (aJ ?_)
 refine vm O O ?_
 refine vq (su O O O) O ?_
 refine vm O O ?_
 refine vq (dc O O O) O ?_
 refine vq (eX O O underlying5 underlying3) O ?_
 refine vq (cb O O O) O ?_
 refine va O O (ae (bv (aa (aJ ?_))))
 refine vq (cb O O O) O ?_
 refine vm O O (ae ?_)
 exact bV (s := (IntKind.i64.wrap ((IntKind.i64.wrap (10 * a.1)) + (IntKind.i64.wrap (IntKind.u8.wrap ((((cut x0 (4 : Int) (x0.length : Int)).getD a.2.toNat 0).toNat : Int) - 48)))), IntKind.i64.wrap (a.2 + 1))) () ⟨O, O, O, O, trivial⟩ (.sel 0 O (.sel 0 O (.nil _)))
 refine cN ?_
 refine ct ?_
 refine cD ?_
 refine cu ?_
 exact fW (s := a.1) () ⟨O, trivial⟩ (.sel 1 O (.nil _))
 intro al an
 refine sr ?_
 refine vm O O ?_
 refine vm O O ?_
 refine vq (cI O O O) O ?_
 refine va O O ?_
 refine va O O (ae (aa (aA ?_)))
 exact aD () O O O (.sel 0 O (.nil _))

def fL.f (x0 : Int) : Option (List UInt8) := if -9223372036854775808 ≤ x0 ∧ x0 ≤ 9223372036854775807 then some (Lib.itoa x0) else none
theorem fL.calls (W : World) (F : HA) (x0 : Int) (hgl : Glb Tryz.prog F) :
    Fn Tryz.prog W 39 [.int .i64 x0] [] F (fL.f x0) (fun (r : List UInt8) (y : Unit) => str r) (fun r y => []) := by
  unfold fL.f
  exact ub (fun h => tk hgl (fun w ht => Any.strconv_Itoa tW x0 h.1 h.2 w ht))

def dV.l0 : Nat → List UInt8 → Option (List UInt8)
  | 0, _ => none
  | k + 1, a => if (a.length : Int) < (8 : Int) then (if ([48] : List UInt8).length + a.length ≤ 9223372036854775807 then (dV.l0 k (([48] : List UInt8) ++ a)) else none) else (some a)
def dV.f (k : Nat) (x0 : Int) : Option (List UInt8 × Int) := if ((decide (x0 < (1 : Int))) || (decide ((99999999 : Int) < x0))) = true then (some (([] : List UInt8), 1)) else ((fL.f x0).bind fun b => ((dV.l0 k b).bind fun a => (if ([119, 97, 108, 45] : List UInt8).length + a.length ≤ 9223372036854775807 then (some (([119, 97, 108, 45] : List UInt8) ++ a, 0)) else none)))
theorem dV.calls (W : World) (F : HA) (k : Nat) (x0 : Int) (hgl : Glb Tryz.prog F) :
    Fn Tryz.prog W 10 [.int .i64 x0] [] F (dV.f k x0) (fun (r : List UInt8 × Int) (y : Unit) => .tuple #[str r.1, .int .i64 r.2]) (fun r y => []) := by
 unfold dV.f
 refine aN 20 Tryz.func10 O Tryz.ntmps10 O ?_
 refine sr ?_
 refine va O O ?_
 refine va O O (ae (aa (ay (sr ?_))))
 refine vm O O ?_
 refine vq (cH O O O) O ?_
 refine vm O O ?_
 refine au (b := decide (x0 < (1 : Int))) (fun i => RQ.sub (E' := [(0, .int .i64 x0)]) ⟨O, trivial⟩ (ba O O)) O O O O O ?_
 refine au (b := decide (x0 < (1 : Int))) (fun a => RQ.sub (E' := [(8, .int .i64 x0)]) ⟨aE O a, trivial⟩ (cI O O O)) O O O O O ?_
 refine vq (ex O O O) O (ae (aa ?_))
 refine aY O (fun m => ?_) (fun n => ?_)
 refine sr ?_
 refine va O O ?_
 refine va O O (ae (aa (aA ?_)))
 refine aK ?_
 exact aD () O O O (.sel 0 O (.nil _))
 refine aC ?_
 refine aa (sr ?_)
 refine vm O O ?_
 refine aw (fun h g => ?_)
 refine ah (av (vs := [.int .i64 x0]) (cap := []) (A := []) (rst := [F]) O O O O O O call39 (.sel 0 O (.nil _)) (fL.calls _ _ x0 (hgl.lend 0 O)) g) O O O ?_
 intro o
 refine va O O (ae (aa ?_))
 refine bE (S := List UInt8) (Unit) (fun s y => [(4, str s)]) (fun s y => [F]) ?_ ?_
 refine aT ?_
 refine cC (S := List UInt8) (Unit) (fun k s => dV.l0 k s) (fun s y => [(4, str s)]) (fun s y => [F]) (fun _ => by rw [dV.l0]) ?_ k h () ⟨O, trivial⟩ (.sel 0 O (.nil _))
 intro k e p
 refine df (by rw [dV.l0]) ?_
 refine ay (sr ?_)
 refine vm O O ?_
 refine vq (kw O O O underlying9) O ?_
 refine vq (cH O O O) O (ae (aa ?_))
 refine bf O (fun j => ?_) (fun l => ?_)
 refine aC ?_
 refine aa ?_
 refine aT ?_
 refine aJ ?_
 refine vm O O ?_
 refine bh (fun c => ?_)
 refine vq (sq O O O c) O ?_
 refine va O O (ae (bv ?_))
 exact bV (s := ([48] : List UInt8) ++ e) () ⟨O, trivial⟩ (.sel 0 O (.nil _))
 refine cN ?_
 refine ct ?_
 refine cD ?_
 refine cu ?_
 exact aF (s := e) () ⟨O, trivial⟩ (.sel 0 O (.nil _))
 intro q t
 refine sr ?_
 refine vm O O ?_
 refine bh (fun d => ?_)
 refine vq (sq O O O d) O ?_
 refine va O O ?_
 refine va O O (ae (aa (aA ?_)))
 exact aD () O O O (.sel 0 O (.nil _))

def bw.f (x0 : Int) : Option (Unit) := if x0 = (0 : Int) then (some ()) else (none)
theorem bw.calls (W : World) (F : HA) (x0 : Int)  :
    Fn Tryz.prog W 43 [.int .i64 x0] [] F (bw.f x0) (fun (r : Unit) (y : Unit) => .tuple #[]) (fun r y => []) := by
 unfold bw.f
 refine aN 7 Tryz.func43 O Tryz.ntmps43 O ?_
 refine sr ?_
 refine vm O O ?_
 refine vq (cZ O O O) O (ae (aa ?_))
 refine cS O (fun a => ?_) (fun b => ?_)
 refine aC ?_
 exact gb () O O O (.sel 0 O (.nil _))
 exact gN

def cr.f (k : Nat) (x0 : Int) : Option (List UInt8) := (dV.f k x0).bind fun a => ((bw.f a.2).bind fun b => (some a.1))
theorem cr.calls (W : World) (F : HA) (k : Nat) (x0 : Int) (hgl : Glb Tryz.prog F) :
    Fn Tryz.prog W 47 [.int .i64 x0] [] F (cr.f k x0) (fun (r : List UInt8) (y : Unit) => str r) (fun r y => []) := by
 unfold cr.f
 refine aN 13 Tryz.func47 O Tryz.ntmps47 O ?_
 refine sr ?_
 refine va O O (nx ?_)
 refine vm O O ?_
 refine aw (fun a b => ?_)
 refine ah (av (vs := [.int .i64 x0]) (cap := []) (A := []) (rst := [F]) O O O O O O call10 (.sel 0 O (.nil _)) (dV.calls _ _ k x0 (hgl.lend 0 O)) b) O O O ?_
 intro d
 refine vm O O ?_
 refine vq (bu O O O) O ?_
 refine vq (bu O O O) O ?_
 refine va O O ?_
 refine va O O (nx ?_)
 refine vm O O ?_
 refine aw (fun e c => ?_)
 refine ah (av (vs := [.int .i64 a.2]) (cap := []) (A := []) (rst := [F]) O O O O O O call43 (.sel 0 O (.nil _)) (bw.calls _ _ a.2 ) c) O O O ?_
 intro g
 refine nx ?_
 refine vm O O ?_
 refine va O O (ae (aa (aA ?_)))
 exact aD () O O O (.sel 0 O (.nil _))

def dp.l0 (x0 : List UInt8) : Nat → Int → Option ((Unit) ⊕ (Bool))
  | 0, _ => none
  | k + 1, a => if a < (x0.length : Int) then (if 0 ≤ a ∧ a < (x0.length : Int) then ((if ((decide (((x0.getD a.toNat 0).toNat : Int) < (97 : Int))) || (decide ((122 : Int) < ((x0.getD a.toNat 0).toNat : Int)))) = true then (some ((decide (((x0.getD a.toNat 0).toNat : Int) < (48 : Int))) || (decide ((57 : Int) < ((x0.getD a.toNat 0).toNat : Int))))) else (some false)).bind fun b => (if ((b && (!decide (((x0.getD a.toNat 0).toNat : Int) = (45 : Int)))) && (!decide (((x0.getD a.toNat 0).toNat : Int) = (46 : Int)))) = true then (some (.inr false)) else (dp.l0 x0 k (IntKind.i64.wrap (a + 1))))) else none) else (some (.inl ()))
def dp.f (k : Nat) (x0 : List UInt8) : Option (Bool) := orR (dp.l0 x0 k 0) fun a => (some ((decide ((0 : Int) < (x0.length : Int))) && (decide ((x0.length : Int) ≤ (32 : Int)))))
theorem dp.calls (W : World) (F : HA) (k : Nat) (x0 : List UInt8)  :
    Fn Tryz.prog W 56 [str x0] [] F (dp.f k x0) (fun (r : Bool) (y : Unit) => .bool r) (fun r y => []) := by
 unfold dp.f
 refine aN 44 Tryz.func56 O Tryz.ntmps56 O ?_
 refine sr ?_
 refine va O O (ae (aa ?_))
 refine gp (S := Unit) (Unit) (fun s y => [(0, str x0)]) (fun s y => [F]) ?_ ?_
 refine sr ?_
 refine va O O (ae (aa ?_))
 refine aT ?_
 refine cC (S := Int) (Unit) (fun k s => dp.l0 x0 k s) (fun s y => [(0, str x0), (3, .int .i64 s)]) (fun s y => [F]) (fun _ => by rw [dp.l0]) ?_ k 0 () ⟨O, O, trivial⟩ (.sel 0 O (.nil _))
 intro k a z
 refine df (by rw [dp.l0]) ?_
 refine ay (sr ?_)
 refine vm O O ?_
 refine vm O O ?_
 refine vq (kw O O O underlying9) O ?_
 refine vq (cH O O O) O (ae (aa ?_))
 refine bf O (fun ab => ?_) (fun ad => ?_)
 refine aC ?_
 refine aa (ay ?_)
 refine aT ?_
 refine sr ?_
 refine vm O O ?_
 refine vm O O ?_
 refine bh (fun d => ?_)
 refine vq (tH O O O underlying9 d.1 d.2) O ?_
 refine va O O (nx ?_)
 refine vm O O ?_
 refine vq (cH O O O) O ?_
 refine vm O O ?_
 refine au (b := decide (((x0.getD a.toNat 0).toNat : Int) < (97 : Int))) (fun o => RQ.sub (E' := [(4, .int .u8 ((x0.getD a.toNat 0).toNat : Int))]) ⟨O, trivial⟩ (ba O O)) O O O O O ?_
 refine au (b := decide (((x0.getD a.toNat 0).toNat : Int) < (97 : Int))) (fun e => RQ.sub (E' := [(17, .int .u8 ((x0.getD a.toNat 0).toNat : Int))]) ⟨aE O e, trivial⟩ (cI O O O)) O O O O O ?_
 refine vq (ex O O O) O ?_
 refine vm O O ?_
 refine dG 7 (S := Bool) (Unit) (fun s y => [(0, str x0), (3, .int .i64 a), (4, .int .u8 ((x0.getD a.toNat 0).toNat : Int)), (27, .bool s)]) (fun s y => [F]) ?_ ?_
 refine eS (fun g => ?_) (fun h => ?_)
 rw [g]
 refine aZ (ba O O) O O O O O O ?_
 refine aZ (cH O O O) O O O O O O ?_
 refine aZ (ba O O) O O O O O O ?_
 refine au (b := decide (((x0.getD a.toNat 0).toNat : Int) < (48 : Int))) (fun p => RQ.sub (E' := [(4, .int .u8 ((x0.getD a.toNat 0).toNat : Int))]) ⟨O, trivial⟩ (ba O O)) O O O O O ?_
 refine au (b := decide (((x0.getD a.toNat 0).toNat : Int) < (48 : Int))) (fun i => RQ.sub (E' := [(24, .int .u8 ((x0.getD a.toNat 0).toNat : Int))]) ⟨aE O i, trivial⟩ (cI O O O)) O O O O O ?_
 refine aZ (ex O O O) O O O O O O ?_
 refine vq (bW O O O O O) O (ae ?_)
 exact aF (s := (decide (((x0.getD a.toNat 0).toNat : Int) < (48 : Int))) || (decide ((57 : Int) < ((x0.getD a.toNat 0).toNat : Int)))) () ⟨O, O, O, O, trivial⟩ (.sel 0 O (.nil _))
 rw [h]
 refine aO O O O O O O ?_
 refine aO O O O O O O ?_
 refine aO O O O O O O ?_
 refine cO O O O O O ?_
 refine cO O O O O O ?_
 refine aO O O O O O O ?_
 refine vq (bW O O O O O) O (ae ?_)
 exact aF (s := false) () ⟨O, O, O, O, trivial⟩ (.sel 0 O (.nil _))
 intro c v
 refine vm O O ?_
 refine au (b := c) (fun q => RQ.sub (E' := [(4, .int .u8 ((x0.getD a.toNat 0).toNat : Int))]) ⟨O, trivial⟩ (ba O O)) O O O O O ?_
 refine au (b := c) (fun j => RQ.sub (E' := [(29, .int .u8 ((x0.getD a.toNat 0).toNat : Int))]) ⟨aE O j, trivial⟩ (cZ O O O)) O O O O O ?_
 refine vq (db O O O) O ?_
 refine vm O O ?_
 refine au (b := c && (!decide (((x0.getD a.toNat 0).toNat : Int) = (45 : Int)))) (fun t => RQ.sub (E' := [(4, .int .u8 ((x0.getD a.toNat 0).toNat : Int))]) ⟨O, trivial⟩ (ba O O)) O O O O O ?_
 refine au (b := c && (!decide (((x0.getD a.toNat 0).toNat : Int) = (45 : Int)))) (fun l => RQ.sub (E' := [(33, .int .u8 ((x0.getD a.toNat 0).toNat : Int))]) ⟨aE O l, trivial⟩ (cZ O O O)) O O O O O ?_
 refine vq (db O O O) O (ae (aa ?_))
 refine aY O (fun w => ?_) (fun x => ?_)
 refine sr ?_
 refine va O O (ae (aa (aA ?_)))
 refine bi ?_
 refine aK ?_
 refine fb ?_
 refine bi ?_
 refine fa ?_
 exact aD () O O O (.sel 0 O (.nil _))
 refine aC ?_
 refine bv (aa (aJ ?_))
 refine vm O O ?_
 refine vq (cb O O O) O ?_
 refine va O O (ae ?_)
 exact bV (s := IntKind.i64.wrap (a + 1)) () ⟨O, O, trivial⟩ (.sel 0 O (.nil _))
 refine cN ?_
 refine ct ?_
 refine cD ?_
 refine cu ?_
 exact fW (s := ()) () ⟨O, trivial⟩ (.sel 0 O (.nil _))
 intro af al
 refine sr ?_
 refine vm O O ?_
 refine vq (kw O O O underlying9) O ?_
 refine vq (cI O O O) O ?_
 refine vm O O ?_
 refine au (b := decide ((0 : Int) < (x0.length : Int))) (fun u => RQ.sub (E' := [(0, str x0)]) ⟨O, trivial⟩ (ba O O)) O O O O O ?_
 refine au (b := decide ((0 : Int) < (x0.length : Int))) (fun m => RQ.sub (E' := [(40, str x0)]) ⟨aE O m, trivial⟩ (kw O O O underlying9)) O O O O O ?_
 refine au (b := decide ((0 : Int) < (x0.length : Int))) (fun n => RQ.sub (E' := [(41, .int .i64 (x0.length : Int))]) ⟨aE O n, trivial⟩ (iQ O O O)) O O O O O ?_
 refine vq (db O O O) O ?_
 refine va O O (ae (aa (aA ?_)))
 exact aD () O O O (.sel 0 O (.nil _))

def co.f (a : List ((List UInt8) × (List UInt8 × Int))) (b : List UInt8) (c : Int) (d : Bool) (x1 : List UInt8) : Option (Bool) := if (aR a x1).isSome = true then (some true) else (some false)
theorem co.calls (W : World) (F : HA) (b0 : Nat) (b : Nat) (a : Kps) (c : List ((List UInt8) × (List UInt8 × Int))) (d : List UInt8) (e : Int) (g : Bool) (x1 : List UInt8)  :
    Fn Tryz.prog W 57 [.pointer (some ⟨b0, 0, none⟩), str x1] [obj b0 97 [.map (some b), str d, .int .i64 e, .bool g], am (aj b ao ak a) ai a c] F (co.f c d e g x1) (fun (r : Bool) (y : Unit) => .bool r) (fun r y => [obj b0 97 [.map (some b), str d, .int .i64 e, .bool g], am (aj b ao ak a) ai a c]) := by
 unfold co.f
 refine aN 12 Tryz.func57 O Tryz.ntmps57 O ?_
 refine sr ?_
 refine va O O (ae (aa (ay ?_)))
 refine fd (fun h => ?_) (fun h => ?_)
 refine aJ ?_
 refine vm O O ?_
 refine vn O O ?_
 refine vq (ar O O underlying97 O O sizeOf95 O) O ?_
 refine vq (ag O O isAgg95 (.obj 0 O O)) O ?_
 refine vm O O ?_
 refine vq ((jk (ek := ao) x1 (gv 1 O) h O O O underlying95 iM : RQ _ _ _ _ (.pointer (some ⟨(cw a x1), 0, none⟩)))) O ?_
 refine vq (ur O O O underlying107) O ?_
 refine va O O (ae (aa (aA ?_)))
 exact aD () O O O (.sel 0 O (.sel 0 O (.sel 0 O (.nil _))))
 refine aJ ?_
 refine vm O O ?_
 refine vn O O ?_
 refine vq (ar O O underlying97 O O sizeOf95 O) O ?_
 refine vq (ag O O isAgg95 (.obj 0 O O)) O ?_
 refine vm O O ?_
 refine vq (jl (ek := ao) x1 (gv 1 O) (gW h) O O O underlying95 iM zeroValue107) O ?_
 refine vq (tY O O O underlying107) O ?_
 refine va O O (ae (aa (aA ?_)))
 exact aD () O O O (.sel 0 O (.sel 0 O (.sel 0 O (.nil _))))
def co.v (a : List ((List UInt8) × (List UInt8 × Int))) (b : List UInt8) (c : Int) (d : Bool) (x1 : List UInt8) : Bool := (co.f a b c d x1).getD false
theorem co.tot (a : List ((List UInt8) × (List UInt8 × Int))) (b : List UInt8) (c : Int) (d : Bool) (x1 : List UInt8) : co.f a b c d x1 = some (co.v a b c d x1) := by
  have h : ∃ r, co.f a b c d x1 = some r := by
    unfold co.f
    repeat' (first | exact ⟨_, rfl⟩ | split | simp only [Option.bind_some])
  obtain ⟨r, h⟩ := h
  unfold co.v
  rw [h]; rfl

def bF.f (d : List ((List UInt8) × (List UInt8 × Int))) (b : List UInt8) (a : Int) (c : Bool) : Option (Bool × List UInt8 × Int × Bool) := if a = (0 : Int) then (some (false, b, a, c)) else (some (decide (IntKind.i64.wrap (a - 1) = (0 : Int)), b, IntKind.i64.wrap (a - 1), decide (IntKind.i64.wrap (a - 1) = (0 : Int))))
theorem bF.calls (W : World) (F : HA) (b0 : Nat) (a : Nat) (b : Kps) (c : List ((List UInt8) × (List UInt8 × Int))) (d : List UInt8) (e : Int) (g : Bool)  :
    Fn Tryz.prog W 58 [.pointer (some ⟨b0, 0, none⟩)] [obj b0 97 [.map (some a), str d, .int .i64 e, .bool g], am (aj a ao ak b) ai b c] F (bF.f c d e g) (fun (r : Bool × List UInt8 × Int × Bool) (y : Unit) => .bool r.1) (fun r y => [obj b0 97 [.map (some a), str r.2.1, .int .i64 r.2.2.1, .bool r.2.2.2], am (aj a ao ak b) ai b c]) := by
 unfold bF.f
 refine aN 27 Tryz.func58 O Tryz.ntmps58 O ?_
 refine sr ?_
 refine va O O (ae (aa (ay (sr ?_))))
 refine vm O O ?_
 refine vn O O ?_
 refine vq (ar O O underlying97 O O sizeOf3 O) O ?_
 refine vq (ag O O isAgg3 (.obj 0 O O)) O ?_
 refine vq (bI O O O) O (ae (aa ?_))
 refine bf O (fun h => ?_) (fun i => ?_)
 refine sr ?_
 refine va O O (ae (aa (aA ?_)))
 refine aK ?_
 exact aD () O O O (.sel 0 O (.sel 0 O (.sel 0 O (.nil _))))
 refine aC ?_
 refine aa (sr ?_)
 refine vm O O ?_
 refine vn O O ?_
 refine vq (ar O O underlying97 O O sizeOf3 O) O ?_
 refine vq (ag O O isAgg3 (.obj 0 O O)) O ?_
 refine vq (dc O O O) O ?_
 refine vn O O ?_
 refine vq (ar O O underlying97 O O sizeOf3 O) O ?_
 refine aU (aH 0 O O O sizeOf3 O O (aM (by rfl)) O O) O O ?_
 intro _
 refine nx ?_
 refine vm O O ?_
 refine vm O O ?_
 refine vn O O ?_
 refine vq (ar O O underlying97 O O sizeOf3 O) O ?_
 refine vq (ag O O isAgg3 (.obj 0 O O)) O ?_
 refine vq (bI O O O) O ?_
 refine vn O O ?_
 refine vq (ar O O underlying97 O O sizeOf4 O) O ?_
 refine aU (aH 0 O O O sizeOf4 O O (aM (by rfl)) O O) O O ?_
 intro _
 refine nx ?_
 refine vm O O ?_
 refine vn O O ?_
 refine vq (ar O O underlying97 O O sizeOf4 O) O ?_
 refine vq (ag O O isAgg4 (.obj 0 O O)) O ?_
 refine va O O (ae (aa (aA ?_)))
 exact aD () O O O (.sel 0 O (.sel 0 O (.sel 0 O (.nil _))))
def bF.v (a : List ((List UInt8) × (List UInt8 × Int))) (b : List UInt8) (c : Int) (d : Bool) : Bool × List UInt8 × Int × Bool := (bF.f a b c d).getD (false, [], 0, false)
theorem bF.tot (a : List ((List UInt8) × (List UInt8 × Int))) (b : List UInt8) (c : Int) (d : Bool) : bF.f a b c d = some (bF.v a b c d) := by
  have h : ∃ r, bF.f a b c d = some r := by
    unfold bF.f
    repeat' (first | exact ⟨_, rfl⟩ | split | simp only [Option.bind_some])
  obtain ⟨r, h⟩ := h
  unfold bF.v
  rw [h]; rfl

def dW.f (k : Nat) (a : List ((List UInt8) × (List UInt8 × Int))) (d : List UInt8) (e : Int) (b : Bool) (x1 : List UInt8) : Option (Int × (List ((List UInt8) × (List UInt8 × Int))) × List UInt8 × Int × Bool) := if b = true then (some (11, a, d, e, b)) else ((dp.f k x1).bind fun g => (if (!g) = true then (some (7, a, d, e, b)) else ((co.f a d e b x1).bind fun h => (if h = true then (some (9, a, d, e, b)) else (if (256 : Int) ≤ (a.length : Int) then (some (10, a, d, e, b)) else ((bF.f a d e b).bind fun c => (if c.1 = true then (some (11, a, c.2.1, c.2.2.1, c.2.2.2)) else (some (0, aV a x1 (([] : List UInt8), (0 : Int)), c.2.1, c.2.2.1, c.2.2.2)))))))))
theorem dW.calls (W : World) (F : HA) (k : Nat) (b0 : Nat) (a : Nat) (b : Kps) (c : List ((List UInt8) × (List UInt8 × Int))) (d : List UInt8) (e : Int) (g : Bool) (x1 : List UInt8)  :
    Fn Tryz.prog W 21 [.pointer (some ⟨b0, 0, none⟩), str x1] [obj b0 97 [.map (some a), str d, .int .i64 e, .bool g], am (aj a ao ak b) ai b c] F (dW.f k c d e g x1) (fun (r : Int × (List ((List UInt8) × (List UInt8 × Int))) × List UInt8 × Int × Bool) (y : Nat × Kps) => .int .i64 r.1) (fun r y => [obj b0 97 [.map (some y.1), str r.2.2.1, .int .i64 r.2.2.2.1, .bool r.2.2.2.2], am (aj y.1 ao ak y.2) ai y.2 r.2.1]) := by
 unfold dW.f
 refine aN 35 Tryz.func21 O Tryz.ntmps21 O ?_
 refine sr ?_
 refine va O O (ae (aa (ay ?_)))
 refine aT ?_
 refine sr ?_
 refine vm O O ?_
 refine vn O O ?_
 refine vq (ar O O underlying97 O O sizeOf4 O) O ?_
 refine vq (ag O O isAgg4 (.obj 0 O O)) O ?_
 refine va O O (ae (aa ?_))
 refine aY O (fun ab => ?_) (fun ad => ?_)
 refine sr ?_
 refine va O O (ae (aa (aA ?_)))
 refine bi ?_
 refine aK ?_
 exact aD (a, b) O O O (.sel 0 O (.sel 0 O (.sel 0 O (.nil _))))
 refine sr ?_
 refine vm O O ?_
 refine aw (fun af l => ?_)
 refine ah (av (vs := [str x1]) (cap := []) (A := []) (rst := [obj b0 97 [.map (some a), str d, .int .i64 e, .bool g], am (aj a ao ak b) ai b c, F]) O O O O O O call56 (.sel 0 O (.sel 0 O (.sel 0 O (.nil _)))) (dp.calls _ _ k x1 ) l) O O O ?_
 intro al
 refine vq (eP O O) O ?_
 refine va O O (ae (aa ?_))
 refine aY O (fun an => ?_) (fun az => ?_)
 refine sr ?_
 refine va O O (ae (aa (aA ?_)))
 refine bi ?_
 refine aK ?_
 exact aD (a, b) O O O (.sel 0 O (.sel 0 O (.sel 0 O (.nil _))))
 refine sr ?_
 refine vm O O ?_
 refine vm O O ?_
 refine aw (fun a0 m => ?_)
 refine ah (av (vs := [.pointer (some ⟨b0, 0, none⟩), str x1]) (cap := []) (A := [obj b0 97 [.map (some a), str d, .int .i64 e, .bool g], am (aj a ao ak b) ai b c]) (rst := [F]) O O O O O O call57 (.sel 0 O (.sel 0 O (.sel 0 O (.nil _)))) (co.calls _ _ b0 a b c d e g x1 ) m) O O O ?_
 intro n
 refine va O O (ae (aa ?_))
 refine aY O (fun o => ?_) (fun q => ?_)
 refine sr ?_
 refine va O O (ae (aa (aA ?_)))
 refine bi ?_
 refine aK ?_
 exact aD (a, b) O O O (.sel 0 O (.sel 0 O (.sel 0 O (.nil _))))
 refine sr ?_
 refine vm O O ?_
 refine vn O O ?_
 refine vq (ar O O underlying97 O O sizeOf95 O) O ?_
 refine vq (ag O O isAgg95 (.obj 0 O O)) O ?_
 refine vq (sV (gv 1 O) O O O underlying95) O ?_
 refine vq (jo O O O) O ?_
 refine va O O (ae (aa ?_))
 refine bf O (fun s => ?_) (fun t => ?_)
 refine sr ?_
 refine va O O (ae (aa (aA ?_)))
 refine bi ?_
 refine aK ?_
 exact aD (a, b) O O O (.sel 0 O (.sel 0 O (.sel 0 O (.nil _))))
 refine sr ?_
 refine vm O O ?_
 refine aw (fun i j => ?_)
 refine ah (av (vs := [.pointer (some ⟨b0, 0, none⟩)]) (cap := []) (A := [obj b0 97 [.map (some a), str d, .int .i64 e, .bool g], am (aj a ao ak b) ai b c]) (rst := [F]) O O O O O O call58 (.sel 0 O (.sel 0 O (.sel 0 O (.nil _)))) (bF.calls _ _ b0 a b c d e g ) j) O O O ?_
 intro u
 refine va O O (ae (aa ?_))
 refine aY O (fun w => ?_) (fun z => ?_)
 refine sr ?_
 refine va O O (ae (aa (aA ?_)))
 refine bi ?_
 refine aK ?_
 exact aD (a, b) O O O (.sel 0 O (.sel 0 O (.sel 0 O (.nil _))))
 refine aC ?_
 refine bv (aa (sr ?_))
 refine vm O O ?_
 refine vn O O ?_
 refine vq (ar O O underlying97 O O sizeOf95 O) O ?_
 refine vq (ag O O isAgg95 (.obj 0 O O)) O ?_
 refine vm O O ?_
 refine vq (cx (v := .agg #[.slice none 0 0, .int .i64 0]) O O (fun _ => by kernel_rfl)) O ?_
 refine ah (cy O O O) O O O ?_
 intro h
 refine aU (rS (ek := ao) 2 x1 h O O O O underlying95 iM O) O O ?_
 intro _
 refine bR (H' := [obj b0 97 [.map (some a), str i.2.1, .int .i64 i.2.2.1, .bool i.2.2.2], am (aj a ao ak (aV b x1 h)) ai (aV b x1 h) (aV c x1 (([] : List UInt8), (0 : Int))), F]) ((.sel 1 O (.foldU (x := x1) (p := h) (v := (([] : List UInt8), (0 : Int))) (none, 0) (.sel 1 O (.sel 0 O (.row_nil (.sel 0 O (.nil _)))))))) ?_
 refine nx ?_
 refine va O O (ae (aa (aA ?_)))
 exact aD (a, aV b x1 h) O O O (.sel 0 O (.sel 0 O (.sel 0 O (.nil _))))

def ip.f (d : Int) (e : Int) (g : Int) (b : Int) (c : Int) (a : List (aG)) : Option (Int × Int) := if (0 : Int) < (a.length : Int) then (if 0 ≤ IntKind.i64.wrap ((a.length : Int) - 1) ∧ IntKind.i64.wrap ((a.length : Int) - 1) < (a.length : Int) then (some ((a.getD (IntKind.i64.wrap ((a.length : Int) - 1)).toNat aB).2.1, (a.getD (IntKind.i64.wrap ((a.length : Int) - 1)).toNat aB).1)) else none) else (some (b, c))
theorem ip.calls (W : World) (F : HA) (b0 : Nat) (e : Int) (g : Int) (h : Int) (b : Int) (c : Int) (k : Option Addr) (d : Nat) (a : List (aG)) (q : RdV F 5 (aQ F) k a) (w : a.length ≤ d) (x : d ≤ maxLen) :
    Fn Tryz.prog W 61 [.pointer (some ⟨b0, 0, none⟩)] [obj b0 89 [.int .i64 e, .int .i64 g, .int .i64 h, .int .i64 b, .int .i64 c, .slice k a.length d]] F (ip.f e g h b c a) (fun (r : Int × Int) (y : Unit) => .tuple #[.int .i64 r.1, .int .i64 r.2]) (fun r y => [obj b0 89 [.int .i64 e, .int .i64 g, .int .i64 h, .int .i64 b, .int .i64 c, .slice k a.length d]]) := by
 unfold ip.f
 refine aN 34 Tryz.func61 O Tryz.ntmps61 O ?_
 refine sr ?_
 refine va O O ?_
 refine va O O (ae (aa (ay (sr ?_))))
 refine vm O O ?_
 refine vn O O ?_
 refine vq (ar O O underlying89 O O sizeOf87 O) O ?_
 refine vq (ag O O isAgg87 (.obj 0 O O)) O ?_
 refine vq (bD O O O underlying87) O ?_
 refine va O O (nx ?_)
 refine vm O O ?_
 refine vq (cI O O O) O (ae (aa ?_))
 refine bf O (fun a0 => ?_) (fun a1 => ?_)
 refine sr ?_
 refine vm O O ?_
 refine vn O O ?_
 refine vq (ar O O underlying89 O O sizeOf87 O) O ?_
 refine vq (ag O O isAgg87 (.obj 0 O O)) O ?_
 refine vm O O ?_
 refine vq (dc O O O) O ?_
 refine bh (fun m => ?_)
 obtain ⟨a2, al, a3, t, u, z, hcell10v⟩ := RdV.pos q (Up.refl _) rfl (i := (IntKind.i64.wrap ((a.length : Int) - 1)).toNat) (by omega) aB
 obtain ⟨n, p, rfl, ⟨ab, ad, af⟩⟩ := u
 refine vq (dC O O O t underlying87 sizeOf144 m.1 m.2) O ?_
 refine vq (ar O O underlying144 O O sizeOf35 O) O ?_
 refine vq (cf (vs := [.int .i64 ((a.getD (IntKind.i64.wrap ((a.length : Int) - 1)).toNat aB).1), .int .i64 ((a.getD (IntKind.i64.wrap ((a.length : Int) - 1)).toNat aB).2.1), .int .i64 ((a.getD (IntKind.i64.wrap ((a.length : Int) - 1)).toNat aB).2.2.1), .slice n (((a.getD (IntKind.i64.wrap ((a.length : Int) - 1)).toNat aB).2.2.2.1).length) p]) O O isAgg35 sizeOf35 O (fun j v hj => me (hcell10v 1 O (0 + j) v (cz (off := 0) O j v hj)))) O ?_
 refine ah (bL O zeroValue35 O) O O O ?_
 intro l
 refine aU (aH 0 O O O sizeOf35 O O (aM (by rfl)) O O) O O ?_
 intro _
 refine ae (aa (ay ?_))
 refine bb (Γ := Unit) () [[], [0], [], [2], [0, 1], rL 5] [] [0, 1, 2, 3, 4, 5] (fun i => [[0], [0], [0], [0], [0], [0]].getD i []) (fun i => [[], [], [], [], [], []].getD i []) (fun γ i => [.pointer (some ⟨l, 1, none⟩), .int .i64 ((a.getD (IntKind.i64.wrap ((a.length : Int) - 1)).toNat aB).2.1), .pointer (some ⟨l, 0, none⟩), .int .i64 ((a.getD (IntKind.i64.wrap ((a.length : Int) - 1)).toNat aB).1), .int .i64 ((a.getD (IntKind.i64.wrap ((a.length : Int) - 1)).toNat aB).2.1), .int .i64 ((a.getD (IntKind.i64.wrap ((a.length : Int) - 1)).toNat aB).1)].getD i undef) (fun j γ => [[obj l 35 [.int .i64 ((a.getD (IntKind.i64.wrap ((a.length : Int) - 1)).toNat aB).1), .int .i64 ((a.getD (IntKind.i64.wrap ((a.length : Int) - 1)).toNat aB).2.1), .int .i64 ((a.getD (IntKind.i64.wrap ((a.length : Int) - 1)).toNat aB).2.2.1), .slice n (((a.getD (IntKind.i64.wrap ((a.length : Int) - 1)).toNat aB).2.2.2.1).length) p], obj b0 89 [.int .i64 e, .int .i64 g, .int .i64 h, .int .i64 b, .int .i64 c, .slice k a.length d], F]].getD j []) (fun γ => [(2, .int .i64 ((a.getD (IntKind.i64.wrap ((a.length : Int) - 1)).toNat aB).2.1)), (3, .int .i64 ((a.getD (IntKind.i64.wrap ((a.length : Int) - 1)).toNat aB).1))]) mixed (by decide) (by decide) (by decide) (by decide) (by decide) (by decide) (by decide) 34 O (by decide) (by decide) (by decide) (Ent.refl _) ?_ ?_ (fun _ => ⟨O, O, trivial⟩) ?_
 exact (aq O (fun γ => qp O O (.o (s := 5) O (by decide) .nil) (ar O O underlying35 O O sizeOf3 O) O) (aq O (fun γ => qp O O (.v 0 O O .nil) (ag O O isAgg3 (.obj 0 O O)) O) (aq O (fun γ => qp O O (.o (s := 5) O (by decide) .nil) (ar O O underlying35 O O sizeOf3 O) O) (aq O (fun γ => qp O O (.v 2 O O .nil) (ag O O isAgg3 (.obj 0 O O)) O) (aq O (fun γ => qp O O (.v 1 O O .nil) (ci O O) O) (aq O (fun γ => qp O O (.v 3 O O .nil) (ci O O) O) zA))))))
 exact zA
 intro an
 refine aa (aA ?_)
 refine aK ?_
 exact aD () O O O (.sel 1 O (.sel 1 O (.nil _)))
 refine aC ?_
 refine aa (ay ?_)
 refine bb (Γ := Unit) () [[], [0], [0, 1], [0, 1, 2], [], [4], [4, 5], [4, 5, 6], rL 4, rL 9] [] [0, 1, 2, 3, 4, 5, 6, 7, 8, 9] (fun i => [[0], [0], [0], [0], [0], [0], [0], [0], [0], [0]].getD i []) (fun i => [[], [], [], [], [], [], [], [], [], []].getD i []) (fun γ i => [.pointer (some ⟨b0, 0, none⟩), .pointer (some ⟨b0, 0, none⟩), .pointer (some ⟨b0, 3, none⟩), .int .i64 b, .pointer (some ⟨b0, 0, none⟩), .pointer (some ⟨b0, 0, none⟩), .pointer (some ⟨b0, 4, none⟩), .int .i64 c, .int .i64 b, .int .i64 c].getD i undef) (fun j γ => [[obj b0 89 [.int .i64 e, .int .i64 g, .int .i64 h, .int .i64 b, .int .i64 c, .slice k a.length d], F]].getD j []) (fun γ => [(2, .int .i64 b), (3, .int .i64 c)]) mixed (by decide) (by decide) (by decide) (by decide) (by decide) (by decide) (by decide) 34 O (by decide) (by decide) (by decide) (Ent.refl _) ?_ ?_ (fun _ => ⟨O, O, trivial⟩) ?_
 exact (aq O (fun γ => qm O (.o (s := 0) O (by decide) .nil) O) (aq O (fun γ => qp O O (.v 0 O O .nil) (aX O O) O) (aq O (fun γ => qp O O (.v 1 O O .nil) (ar O O underlying89 O O sizeOf3 O) O) (aq O (fun γ => qp O O (.v 2 O O .nil) (ag O O isAgg3 (.obj 0 O O)) O) (aq O (fun γ => qm O (.o (s := 0) O (by decide) .nil) O) (aq O (fun γ => qp O O (.v 4 O O .nil) (aX O O) O) (aq O (fun γ => qp O O (.v 5 O O .nil) (ar O O underlying89 O O sizeOf3 O) O) (aq O (fun γ => qp O O (.v 6 O O .nil) (ag O O isAgg3 (.obj 0 O O)) O) (aq O (fun γ => qp O O (.v 3 O O .nil) (ci O O) O) (aq O (fun γ => qp O O (.v 7 O O .nil) (ci O O) O) zA))))))))))
 exact zA
 intro az
 refine aa (aA ?_)
 exact aD () O O O (.sel 0 O (.sel 0 O (.nil _)))

def dJ.f  : Option (List UInt8 × Int) := some (([] : List UInt8), 0)
theorem dJ.calls (W : World) (F : HA)   :
    Fn Tryz.prog W 83 [] [] F (dJ.f ) (fun (r : List UInt8 × Int) (y : Nat × Option Addr × Nat) => .pointer (some ⟨y.1, 0, none⟩)) (fun r y => [obj y.1 160 [.slice y.2.1 r.1.length y.2.2, .int .i64 r.2], Row 5 1 y.2.1 r.1.length y.2.2 (ax r.1)]) := by
 unfold dJ.f
 refine aN 3 Tryz.func83 O Tryz.ntmps83 O ?_
 refine sr ?_
 refine va O O (nx ?_)
 refine vq (cx (v := .agg #[.slice none 0 0, .int .i64 0]) O O (fun _ => by kernel_rfl)) O ?_
 refine ah (cy O O O) O O O ?_
 intro a
 refine va O O (ae (aa (aA ?_)))
 exact aD (a, none, 0) O O O (.sel 0 O (.row_nil (.sel 0 O (.nil _))))

def dI.l0 : Nat → Int → Int → Option (Int)
  | 0, _, _ => none
  | k + 1, a, b => if (128 : Int) ≤ a then (dI.l0 k (Int.fdiv a (2 ^ (min (7 : Int).toNat IntKind.i64.bits))) (IntKind.i64.wrap (b + 1))) else (some b)
def dI.f (k : Nat) (x0 : Int) : Option (Int) := if ((decide (x0 < (0 : Int))) || (decide ((4611686018427387904 : Int) < x0))) = true then (some 0) else ((dI.l0 k x0 1).bind fun a => (some a))
theorem dI.calls (W : World) (F : HA) (k : Nat) (x0 : Int)  :
    Fn Tryz.prog W 106 [.int .i64 x0] [] F (dI.f k x0) (fun (r : Int) (y : Unit) => .int .i64 r) (fun r y => []) := by
 unfold dI.f
 refine aN 17 Tryz.func106 O Tryz.ntmps106 O ?_
 refine sr ?_
 refine va O O (ae (aa (ay (sr ?_))))
 refine vm O O ?_
 refine vq (cH O O O) O ?_
 refine vm O O ?_
 refine au (b := decide (x0 < (0 : Int))) (fun d => RQ.sub (E' := [(0, .int .i64 x0)]) ⟨O, trivial⟩ (ba O O)) O O O O O ?_
 refine au (b := decide (x0 < (0 : Int))) (fun c => RQ.sub (E' := [(7, .int .i64 x0)]) ⟨aE O c, trivial⟩ (cI O O O)) O O O O O ?_
 refine vq (ex O O O) O (ae (aa ?_))
 refine aY O (fun g => ?_) (fun h => ?_)
 refine sr ?_
 refine va O O (ae (aa (aA ?_)))
 refine aK ?_
 exact aD () O O O (.sel 0 O (.nil _))
 refine aC ?_
 refine aa (sr ?_)
 refine va O O (ae (aa ?_))
 refine bE (S := Int) (Unit) (fun s y => [(3, .int .i64 s)]) (fun s y => [F]) ?_ ?_
 refine aT ?_
 refine cC (S := Int × Int) (Unit) (fun k s => dI.l0 k s.1 s.2) (fun s y => [(0, .int .i64 s.1), (3, .int .i64 s.2)]) (fun s y => [F]) (fun _ => by rw [dI.l0]) ?_ k (x0, 1) () ⟨O, O, trivial⟩ (.sel 0 O (.nil _))
 intro k a i
 refine df (by rw [dI.l0]) ?_
 refine ay (sr ?_)
 refine vm O O ?_
 refine vq (jo O O O) O (ae (aa ?_))
 refine bf O (fun j => ?_) (fun e => ?_)
 refine aC ?_
 refine aa ?_
 refine aT ?_
 refine sr ?_
 refine vm O O ?_
 refine vq (kJ O O O (by decide)) O ?_
 refine va O O (ny ?_)
 refine vm O O ?_
 refine vq (cb O O O) O ?_
 refine va O O (ae (bv ?_))
 exact bV (s := (Int.fdiv a.1 (2 ^ (min (7 : Int).toNat IntKind.i64.bits)), IntKind.i64.wrap (a.2 + 1))) () ⟨O, O, trivial⟩ (.sel 0 O (.nil _))
 refine cN ?_
 refine ct ?_
 refine cD ?_
 refine cu ?_
 exact aF (s := a.2) () ⟨O, trivial⟩ (.sel 0 O (.nil _))
 intro l m
 refine sr ?_
 refine vm O O ?_
 refine va O O (ae (aa (aA ?_)))
 exact aD () O O O (.sel 0 O (.nil _))

def cp.l0 {S : Type} (step : S → Int → Option S) : Nat → Int → S → Option (Int × S)
  | 0, _, _ => none
  | k + 1, a, b => if (128 : Int) ≤ a then ((step b (IntKind.u8.wrap (bS .or .i64 (bS .and .i64 a 127) 128))).bind fun c => (cp.l0 step k (Int.fdiv a (2 ^ (min (7 : Int).toNat IntKind.i64.bits))) c)) else (some (a, b))
def cp.f {S : Type} (k : Nat) (step : S → Int → Option S) (s0 : S) (b : Int) : Option (S) := (cp.l0 step k b s0).bind fun a => ((step a.2 (IntKind.u8.wrap a.1)).bind fun c => (some c))
theorem cp.calls (W : World) (F : HA) (k : Nat) (S Y : Type) (l : Nat) (step : S → Int → Option S) (A : S → Y → HA) (s0 : S) (y0 : Y) (b1 : Nat) (a : Int) (hY : kT Tryz.prog W l (fun (x : Int) => [.int .u8 x]) step A) :
    Fn Tryz.prog W 126 [.func (.yield l) #[] #[], .pointer (some ⟨b1, 0, none⟩)] [A s0 y0, obj b1 3 [.int .i64 a]] F (cp.f k step s0 a) (fun (r : S) (y : Y) => .tuple #[]) (fun r y => [A r y, obj b1 3 [.int .i64 a]]) := by
 unfold cp.f
 refine aN 20 Tryz.func126 O Tryz.ntmps126 O ?_
 refine sr ?_
 refine vq (ag O O isAgg3 (.obj 1 O O)) O ?_
 refine va O O (ae (aa ?_))
 refine bE (S := Int × S) (Y) (fun s y => [(0, .func (.yield l) #[] #[]), (3, .int .i64 s.1)]) (fun s y => [obj b1 3 [.int .i64 a], A s.2 y, F]) ?_ ?_
 refine aT ?_
 refine cC (S := Int × S) (Y) (fun k s => cp.l0 step k s.1 s.2) (fun s y => [(0, .func (.yield l) #[] #[]), (3, .int .i64 s.1)]) (fun s y => [obj b1 3 [.int .i64 a], A s.2 y, F]) (fun _ => by rw [cp.l0]) ?_ k (a, s0) y0 ⟨O, O, trivial⟩ (.sel 1 O (.sel 0 O (.sel 0 O (.nil _))))
 intro k b h
 refine df (by rw [cp.l0]) ?_
 refine ay (sr ?_)
 refine vm O O ?_
 refine vq (jo O O O) O (ae (aa ?_))
 refine bf O (fun n => ?_) (fun o => ?_)
 refine aC ?_
 refine aa ?_
 refine aT ?_
 refine ay (sr ?_)
 refine vm O O ?_
 refine vm O O ?_
 refine vq (nL O O O) O ?_
 refine vq (lF O O O) O ?_
 refine vq (eX O O underlying3 underlying5) O ?_
 refine aw (fun i c => ?_)
 refine ah (oK (IntKind.u8.wrap (bS .or .i64 (bS .and .i64 b.1 127) 128)) 1 O O O O O O hY O c) O O O ?_
 intro e
 refine vq (eP O O) O (ae (aa ?_))
 refine fx O ?_
 refine aC ?_
 refine aa (aJ ?_)
 refine vm O O ?_
 refine vq (kJ O O O (by decide)) O ?_
 refine va O O (ae (bv ?_))
 exact bV (s := (Int.fdiv b.1 (2 ^ (min (7 : Int).toNat IntKind.i64.bits)), i)) e ⟨O, O, trivial⟩ (.sel 0 O (.sel 0 O (.sel 0 O (.nil _))))
 refine cN ?_
 refine ct ?_
 refine cD ?_
 refine cu ?_
 exact aF (s := (b.1, b.2)) h ⟨O, O, trivial⟩ (.sel 0 O (.sel 0 O (.sel 0 O (.nil _))))
 intro j p
 refine aJ ?_
 refine vm O O ?_
 refine vm O O ?_
 refine vq (eX O O underlying3 underlying5) O ?_
 refine aw (fun m d => ?_)
 refine ah (oK (IntKind.u8.wrap j.1) 1 O O O O O O hY O d) O O O ?_
 intro g
 refine ae ?_
 exact gb g O O O (.sel 1 O (.sel 0 O (.sel 0 O (.nil _))))

def gK.f (x0 : Int) : Option (Int) := some x0
theorem gK.calls (W : World) (F : HA) (x0 : Int)  :
    Fn Tryz.prog W 107 [.int .i64 x0] [] F (gK.f x0) (fun (r : Int) (y : Nat) => .func (.func 126) #[] #[.pointer (some ⟨y, 0, none⟩)]) (fun r y => [obj y 3 [.int .i64 r]]) := by
 unfold gK.f
 refine aN 4 Tryz.func107 O Tryz.ntmps107 O ?_
 refine sr ?_
 refine ah (cy O O O) O O O ?_
 intro a
 refine va O O (nx ?_)
 refine vq (hD O O O) O ?_
 refine va O O (ae (aa (aA ?_)))
 exact aD a O O O (.sel 0 O (.sel 0 O (.nil _)))

def bl.f (k : Nat) (b : List UInt8) (c : Int) (x1 : Int) : Option (List UInt8 × Int) := if c = (0 : Int) then ((dI.f k x1).bind fun g => (if g = (0 : Int) then (some (b, 1)) else ((gK.f x1).bind fun h => ((cp.f k (fun (d : List UInt8) (a : Int) => if 0 ≤ a ∧ a < 256 then (if (d.length + ([(du a)] : List UInt8).length) * 1 ≤ 140737488355328 then (some (d ++ ([(du a)] : List UInt8))) else none) else none) b h).bind fun e => (some (e, c)))))) else (some (b, c))
theorem bl.calls (W : World) (F : HA) (k : Nat) (b0 : Nat) (g : Option Addr) (h : Nat) (d : List UInt8) (e : Int) (x1 : Int)  :
    Fn Tryz.prog W 84 [.pointer (some ⟨b0, 0, none⟩), .int .i64 x1] [obj b0 160 [.slice g d.length h, .int .i64 e], Row 5 1 g d.length h (ax d)] F (bl.f k d e x1) (fun (r : List UInt8 × Int) (y : Option Addr × Nat) => .tuple #[]) (fun r y => [obj b0 160 [.slice y.1 r.1.length y.2, .int .i64 r.2], Row 5 1 y.1 r.1.length y.2 (ax r.1)]) := by
 unfold bl.f
 refine na 29 Tryz.func84 O Tryz.ntmps84 O ?_
 refine sr ?_
 refine ah (cy O O O) O O O ?_
 intro m
 refine ae (aa (ay (sr ?_)))
 refine vq (ag O O isAgg133 (.obj 0 O O)) O ?_
 refine vn O O ?_
 refine vq (ar O O underlying160 O O sizeOf23 O) O ?_
 refine vq (ag O O isAgg23 (.obj 1 O O)) O ?_
 refine vq (cZ O O O) O (ae (aa ?_))
 refine cS O (fun an => ?_) (fun az => ?_)
 refine aC ?_
 refine aa (ay (sr ?_))
 refine vm O O ?_
 refine aw (fun a0 al => ?_)
 refine ah (av (vs := [.int .i64 x1]) (cap := []) (A := []) (rst := [obj m 133 [.pointer (some ⟨b0, 0, none⟩)], obj b0 160 [.slice g d.length h, .int .i64 e], Row 5 1 g d.length h (ax d), F]) O O O O O O call106 (.sel 0 O (.sel 0 O (.sel 0 O (.sel 0 O (.nil _))))) (dI.calls _ _ k x1 ) al) O O O ?_
 intro a1
 refine vq (bI O O O) O (ae (aa ?_))
 refine bf O (fun a2 => ?_) (fun a3 => ?_)
 refine sr ?_
 refine vq (ag O O isAgg133 (.obj 0 O O)) O ?_
 refine vn O O ?_
 refine vq (ar O O underlying160 O O sizeOf23 O) O ?_
 refine aU (aH 1 O O O sizeOf23 O O (aM (by rfl)) O O) O O ?_
 intro _
 refine ae (aa (aA ?_))
 refine aK ?_
 exact kS [] (g, h) O O O (.sel 1 O (.sel 1 O (.sel 1 O (.nil _))))
 refine aC ?_
 refine aa (sr ?_)
 refine vm O O ?_
 refine aw (fun q ab => ?_)
 refine ah (av (vs := [.int .i64 x1]) (cap := []) (A := []) (rst := [obj m 133 [.pointer (some ⟨b0, 0, none⟩)], obj b0 160 [.slice g d.length h, .int .i64 e], Row 5 1 g d.length h (ax d), F]) O O O O O O call107 (.sel 0 O (.sel 0 O (.sel 0 O (.sel 0 O (.nil _))))) (gK.calls _ _ x1 ) ab) O O O ?_
 intro p
 refine ae (aa ?_)
 refine aT ?_
 refine qY (S := List UInt8) (Y := Option Addr × Nat) (R' := List UInt8) (Y' := (Option Addr × Nat)) (ps := [18]) (Cap := [obj p 3 [.int .i64 q]]) (rst := []) (CapB := fun r y => [obj p 3 [.int .i64 q]]) (enc := fun (x : Int) => [.int .u8 x]) (oN := cp.f k (fun (a : List UInt8) (b : Int) => if 0 ≤ b ∧ b < 256 then (if (a.length + ([(du b)] : List UInt8).length) * 1 ≤ 140737488355328 then (some (a ++ ([(du b)] : List UInt8))) else none) else none) d q) (fun s y => [obj m 133 [.pointer (some ⟨b0, 0, none⟩)], obj b0 160 [.slice y.1 s.length y.2, .int .i64 e], Row 5 1 y.1 s.length y.2 (ax s), F]) d (g, h) (fun a b c => [(2, .pointer (some ⟨m, 0, none⟩)), (4, .int .u8 b)]) (fun r => r) (fun r y => y) O O call126 (fun l A hY X => cp.calls _ _ k _ _ l _ A _ _ p q hY) O (fun _ => O) (.sel 1 O (.sel 1 O (.sel 1 O (.sel 1 O (.sel 0 O (.nil _)))))) ?_ ?_ ?_
 intro l a b c Fr
 refine eD (H' := [obj m 133 [.pointer (some ⟨b0, 0, none⟩)], obj b0 160 [.slice c.1 a.length c.2, .int .i64 e], Row 5 1 c.1 a.length c.2 (ax a), F, Fr]) (Ent.refl _) ?_
 refine aJ ?_
 refine va O O (ae ?_)
 exact aF () ⟨O, O, trivial⟩ (Ent.refl _)
 intro l a b c Fr
 refine eD (H' := [obj m 133 [.pointer (some ⟨b0, 0, none⟩)], obj b0 160 [.slice c.1 a.length c.2, .int .i64 e], Row 5 1 c.1 a.length c.2 (ax a), F, Fr]) (Ent.refl _) ?_
 refine aT ?_
 refine cU (fun ad => ?_)
 refine cU (fun af => ?_)
 refine bb (Γ := Nat × (Option Addr × Nat)) (0, (none, 0)) [[], [], [1], [1, 2], [1, 2, 3], [], [5], [1, 2, 3, 4, 5, 6], rL 8, rL 9, rL 10] [6, 7, 10] [0, 1, 2, 3, 4, 5, 8, 9] (fun i => [[0, 1, 2], [0, 1], [0, 1], [0, 1], [0, 1], [0], [], [], [2], [2], []].getD i []) (fun i => [[], [], [], [], [], [], rL 6, rL 7, [], [], rL 10].getD i []) (fun γ i => [.pointer (some ⟨b0, 0, none⟩), .pointer (some ⟨b0, 0, none⟩), .pointer (some ⟨b0, 0, none⟩), .pointer (some ⟨b0, 0, none⟩), .slice c.1 a.length c.2, .int .u8 b, .slice (some ⟨γ.1, 0, none⟩) (([(du b)] : List UInt8).length) 1, .slice γ.2.1 ((a ++ ([(du b)] : List UInt8)).length) γ.2.2, .pointer (some ⟨b0, 0, none⟩), .pointer (some ⟨b0, 0, none⟩), undef].getD i undef) (fun j γ => [[obj m 133 [.pointer (some ⟨b0, 0, none⟩)], obj b0 160 [.slice c.1 a.length c.2, .int .i64 e], Row 5 1 c.1 a.length c.2 (ax a), F, Fr], [Row 5 1 (some ⟨γ.1, 0, none⟩) ([(du b)] : List UInt8).length 1 (ax ([(du b)] : List UInt8)), obj m 133 [.pointer (some ⟨b0, 0, none⟩)], obj b0 160 [.slice c.1 a.length c.2, .int .i64 e], Row 5 1 c.1 a.length c.2 (ax a), F, Fr], [Row 5 1 (some ⟨γ.1, 0, none⟩) ([(du b)] : List UInt8).length 1 (ax ([(du b)] : List UInt8)), obj m 133 [.pointer (some ⟨b0, 0, none⟩)], obj b0 160 [.slice c.1 a.length c.2, .int .i64 e], Row 5 1 γ.2.1 (a ++ ([(du b)] : List UInt8)).length γ.2.2 (ax (a ++ ([(du b)] : List UInt8))), F, Fr], [Row 5 1 (some ⟨γ.1, 0, none⟩) ([(du b)] : List UInt8).length 1 (ax ([(du b)] : List UInt8)), obj m 133 [.pointer (some ⟨b0, 0, none⟩)], obj b0 160 [.slice γ.2.1 ((a ++ ([(du b)] : List UInt8)).length) γ.2.2, .int .i64 e], Row 5 1 γ.2.1 (a ++ ([(du b)] : List UInt8)).length γ.2.2 (ax (a ++ ([(du b)] : List UInt8))), F, Fr]].getD j []) (fun γ => []) mixed (by decide) (by decide) (by decide) (by decide) (by decide) (by decide) (by decide) 29 O (by decide) (by decide) (by decide) (Ent.refl _) ?_ ?_ (fun _ => trivial) ?_
 exact (ac (fun γ => (ac (qp O O (.o (s := 2) O (by decide) .nil) (ag O O isAgg133 (.obj 0 O O)) O) (ac (qp O O (.o (s := 2) O (by decide) .nil) (ag O O isAgg133 (.obj 1 O O)) O) (ac (qp O O (.o (s := 2) O (by decide) .nil) (ag O O isAgg133 (.obj 1 O O)) O) zA)))) (ac (fun γ => (ac (qp O O (.o (s := 2) O (by decide) .nil) (ag O O isAgg133 (.obj 0 O O)) O) (ac (qp O O (.o (s := 2) O (by decide) .nil) (ag O O isAgg133 (.obj 1 O O)) O) zA))) (ac (fun γ => (ac (qp O O (.v 1 O O .nil) (aX O O) O) (ac (qp O O (.v 1 O O .nil) (aX O O) O) zA))) (ac (fun γ => (ac (qp O O (.v 2 O O .nil) (ar O O underlying160 O O sizeOf33 O) O) (ac (qp O O (.v 2 O O .nil) (ar O O underlying160 O O sizeOf33 O) O) zA))) (ac (fun γ => (ac (qp O O (.v 3 O O .nil) (ag O O isAgg33 (.obj 1 O O)) O) (ac (qp O O (.v 3 O O .nil) (ag O O isAgg33 (.obj 2 O O)) O) zA))) (aq O (fun γ => qm O (.o (s := 4) O (by decide) .nil) O) (aq O (fun γ => qp O O (.v 0 O O .nil) (aX O O) O) (aq O (fun γ => qp O O (.v 8 O O .nil) (ar O O underlying160 O O sizeOf33 O) O) zA))))))))
 exact (ac (fun γ => eo (Z := Nat) (fun z => (z, γ.2)) O O (.v 5 O O .nil) (mB (cs := [.int .u8 b]) ([(du b)] : List UInt8) O O underlying33 fV O (by kernel_rfl) O O (rz ad)) (fun _ => ⟨O, O, O, O, O, O, trivial⟩) (fun _ => .inr O) (fun z => Ent.refl _)) (ac (fun γ => eo (Z := Option Addr × Nat) (fun z => (γ.1, z)) O O (.v 4 O O (.v 6 O O .nil)) (eG 3 O O O underlying33 fV O (Rds.row 0 O) af) (fun _ => ⟨O, O, O, O, O, O, O, trivial⟩) (fun _ => .inr O) (fun z => Ent.refl _)) (ac (fun γ => eo (Z := Unit) (fun z => (γ.1, γ.2)) O O (.v 7 O O (.v 9 O O .nil)) (aH 2 O O O sizeOf33 O O (aM (by rfl)) O O) (fun _ => ⟨O, O, O, O, O, O, O, O, O, O, trivial⟩) (fun _ => .inl O) (fun z => Ent.refl _)) zA)))
 intro u
 refine bv ?_
 exact aF (s := a ++ ([(du b)] : List UInt8)) (u.2.1, u.2.2) trivial (.sel 1 O (.sel 1 O (.sel 1 O (.sel 1 O (.sel 1 O (.nil _))))))
 intro w t n
 refine mx (H' := [gD w, obj m 133 [.pointer (some ⟨b0, 0, none⟩)], obj b0 160 [.slice n.1 t.length n.2, .int .i64 e], Row 5 1 n.1 t.length n.2 (ax t), F, obj p 3 [.int .i64 q]]) (Ent.refl _) ?_
 refine bv ?_
 exact sQ [w] (n.1, n.2) O O O (.sel 0 O (.sel 1 O (.sel 1 O (.sel 1 O (.nil _)))))
 refine aA ?_
 refine aK ?_
 exact kS [] (g, h) O O O (.sel 1 O (.sel 1 O (.sel 1 O (.nil _))))

def bY.f (x0 : Int) (x1 : Int) : Option (Bool) := some ((decide (x1 ≤ x0)) && (decide (x0 ≤ (4611686018427387904 : Int))))
theorem bY.calls (W : World) (F : HA) (x0 : Int) (x1 : Int)  :
    Fn Tryz.prog W 105 [.int .i64 x0, .int .i64 x1] [] F (bY.f x0 x1) (fun (r : Bool) (y : Unit) => .bool r) (fun r y => []) := by
 unfold bY.f
 refine aN 12 Tryz.func105 O Tryz.ntmps105 O ?_
 refine sr ?_
 refine va O O (nx ?_)
 refine vm O O ?_
 refine vm O O ?_
 refine vq (jo O O O) O ?_
 refine vm O O ?_
 refine au (b := decide (x1 ≤ x0)) (fun c => RQ.sub (E' := [(0, .int .i64 x0)]) ⟨O, trivial⟩ (ba O O)) O O O O O ?_
 refine au (b := decide (x1 ≤ x0)) (fun a => RQ.sub (E' := [(9, .int .i64 x0)]) ⟨aE O a, trivial⟩ (iQ O O O)) O O O O O ?_
 refine vq (db O O O) O ?_
 refine va O O (ae (aa (aA ?_)))
 exact aD () O O O (.sel 0 O (.nil _))
def bY.v (x0 : Int) (x1 : Int) : Bool := (bY.f x0 x1).getD false
theorem bY.tot (x0 : Int) (x1 : Int) : bY.f x0 x1 = some (bY.v x0 x1) := by
  have h : ∃ r, bY.f x0 x1 = some r := by
    unfold bY.f
    repeat' (first | exact ⟨_, rfl⟩ | split | simp only [Option.bind_some])
  obtain ⟨r, h⟩ := h
  unfold bY.v
  rw [h]; rfl

def bq.f (c : Int) (d : Int) (a : Int) (b : List UInt8) : Option (Int) := (bY.f c (1 : Int)).bind fun e => ((if (!e) = true then (some true) else ((bY.f d (1 : Int)).bind fun g => (some (!g)))).bind fun h => (if h = true then (some 1) else (if ((!decide (a = (0 : Int))) && (!decide (a = (1 : Int)))) = true then (some 6) else (if (4096 : Int) < (b.length : Int) then (some 3) else (if ((decide (a = (0 : Int))) && (decide ((0 : Int) < (b.length : Int)))) = true then (some 4) else (some 0))))))
theorem bq.calls (W : World) (F : HA) (d : Int) (e : Int) (a : Int) (h : Option Addr) (g : Nat) (c : List UInt8) (ad : Rd F h (ax c)) (w : c.length ≤ g) (x : g ≤ maxLen) :
    Fn Tryz.prog W 79 [.agg #[], .agg #[.int .i64 d, .int .i64 e, .int .i64 a, .slice h c.length g]] [] F (bq.f d e a c) (fun (r : Int) (y : Unit) => .int .i64 r) (fun r y => []) := by
 unfold bq.f
 refine aN 40 Tryz.func79 O Tryz.ntmps79 O ?_
 refine sr ?_
 refine ah (cy O O O) O O O ?_
 intro q
 refine ah (cy O O O) O O O ?_
 intro i
 refine va O O (ae (aa (ay ?_)))
 refine aT ?_
 refine sr ?_
 refine vq (ar O O underlying35 O O sizeOf3 O) O ?_
 refine vq (ag O O isAgg3 (.obj 0 O O)) O ?_
 refine aw (fun a5 t => ?_)
 refine ah (av (vs := [.int .i64 d, .int .i64 1]) (cap := []) (A := []) (rst := [obj i 35 [.int .i64 d, .int .i64 e, .int .i64 a, .slice h c.length g], obj q 131 [], F]) O O O O O O call105 (.sel 0 O (.sel 0 O (.sel 0 O (.nil _)))) (bY.calls _ _ d (1 : Int) ) t) O O O ?_
 intro a6
 refine vq (eP O O) O ?_
 refine vm O O ?_
 refine dG 5 (S := Bool) (Unit) (fun s y => [(3, .pointer (some ⟨i, 0, none⟩)), (15, .bool s)]) (fun s y => [obj i 35 [.int .i64 d, .int .i64 e, .int .i64 a, .slice h c.length g], F]) ?_ ?_
 refine eS (fun j => ?_) (fun k => ?_)
 rw [j]
 refine aO O O O O O O ?_
 refine aO O O O O O O ?_
 refine aO O O O O O O ?_
 refine aO O O O O O O ?_
 refine vq (bW O O O O O) O (ae ?_)
 exact aF (s := true) () ⟨O, O, trivial⟩ (.sel 0 O (.sel 1 O (.nil _)))
 rw [k]
 refine aZ (ar O O underlying35 O O sizeOf3 O) O O O O O O ?_
 refine aZ (ag O O isAgg3 (.obj 0 O O)) O O O O O O ?_
 refine aw (fun v u => ?_)
 refine fC (av (vs := [.int .i64 e, .int .i64 1]) (cap := []) (A := []) (rst := [obj i 35 [.int .i64 d, .int .i64 e, .int .i64 a, .slice h c.length g], obj q 131 [], F]) O O O O O O call105 (.sel 0 O (.sel 0 O (.sel 0 O (.nil _)))) (bY.calls _ _ e (1 : Int) ) u) O O O O O O ?_
 intro af
 refine aZ (eP O O) O O O O O O ?_
 refine vq (bW O O O O O) O (ae ?_)
 exact aF (s := !v) () ⟨O, O, trivial⟩ (.sel 0 O (.sel 1 O (.nil _)))
 intro a7 a8
 refine va O O (ae (aa ?_))
 refine aY O (fun al => ?_) (fun an => ?_)
 refine sr ?_
 refine va O O (ae (aa (aA ?_)))
 refine bi ?_
 refine aK ?_
 exact aD () O O O (.sel 1 O (.nil _))
 refine sr ?_
 refine vq (ar O O underlying35 O O sizeOf3 O) O ?_
 refine vq (ag O O isAgg3 (.obj 0 O O)) O ?_
 refine vq (cZ O O O) O ?_
 refine vm O O ?_
 refine au (b := !decide (a = (0 : Int))) (fun z => RQ.sub (E' := [(3, .pointer (some ⟨i, 0, none⟩))]) ⟨O, trivial⟩ (ar O O underlying35 O O sizeOf3 O)) O O O O O ?_
 refine au (b := !decide (a = (0 : Int))) (fun l => RQ.sub (E' := [(21, .pointer (some ⟨i, 2, none⟩))]) ⟨aE O l, trivial⟩ (ag O O isAgg3 (.obj 0 O O))) O O O O O ?_
 refine au (b := !decide (a = (0 : Int))) (fun m => RQ.sub (E' := [(22, .int .i64 a)]) ⟨aE O m, trivial⟩ (cZ O O O)) O O O O O ?_
 refine vq (db O O O) O ?_
 refine va O O (ae (aa ?_))
 refine aY O (fun az => ?_) (fun a0 => ?_)
 refine sr ?_
 refine va O O (ae (aa (aA ?_)))
 refine bi ?_
 refine aK ?_
 exact aD () O O O (.sel 1 O (.nil _))
 refine sr ?_
 refine vq (ar O O underlying35 O O sizeOf33 O) O ?_
 refine vq (ag O O isAgg33 (.obj 0 O O)) O ?_
 refine vq (bD O O O underlying33) O ?_
 refine vq (cI O O O) O ?_
 refine va O O (ae (aa ?_))
 refine bf O (fun a1 => ?_) (fun a2 => ?_)
 refine sr ?_
 refine va O O (ae (aa (aA ?_)))
 refine bi ?_
 refine aK ?_
 exact aD () O O O (.sel 1 O (.nil _))
 refine sr ?_
 refine vq (ar O O underlying35 O O sizeOf3 O) O ?_
 refine vq (ag O O isAgg3 (.obj 0 O O)) O ?_
 refine vq (bI O O O) O ?_
 refine vm O O ?_
 refine au (b := decide (a = (0 : Int))) (fun ab => RQ.sub (E' := [(3, .pointer (some ⟨i, 0, none⟩))]) ⟨O, trivial⟩ (ar O O underlying35 O O sizeOf33 O)) O O O O O ?_
 refine au (b := decide (a = (0 : Int))) (fun n => RQ.sub (E' := [(35, .pointer (some ⟨i, 3, none⟩))]) ⟨aE O n, trivial⟩ (ag O O isAgg33 (.obj 0 O O))) O O O O O ?_
 refine au (b := decide (a = (0 : Int))) (fun o => RQ.sub (E' := [(36, .slice h c.length g)]) ⟨aE O o, trivial⟩ (bD O O O underlying33)) O O O O O ?_
 refine au (b := decide (a = (0 : Int))) (fun p => RQ.sub (E' := [(37, .int .i64 (c.length : Int))]) ⟨aE O p, trivial⟩ (cI O O O)) O O O O O ?_
 refine vq (db O O O) O ?_
 refine va O O (ae (aa ?_))
 refine aY O (fun a3 => ?_) (fun a4 => ?_)
 refine sr ?_
 refine va O O (ae (aa (aA ?_)))
 refine bi ?_
 refine aK ?_
 exact aD () O O O (.sel 1 O (.nil _))
 refine aC ?_
 refine bv (aa (sr ?_))
 refine va O O (ae (aa (aA ?_)))
 exact aD () O O O (.sel 1 O (.nil _))
def bq.v (a : Int) (b : Int) (c : Int) (d : List UInt8) : Int := (bq.f a b c d).getD 0
theorem bq.tot (a : Int) (b : Int) (c : Int) (d : List UInt8) : bq.f a b c d = some (bq.v a b c d) := by
  have h : ∃ r, bq.f a b c d = some r := by
    unfold bq.f
    repeat' (first | exact ⟨_, rfl⟩ | split | simp only [Option.bind_some, bY.tot])
  obtain ⟨r, h⟩ := h
  unfold bq.v
  rw [h]; rfl

def cY.f (k : Nat) (b : List UInt8) (c : Int) (x1 : List UInt8) (x2 : Int) : Option (List UInt8 × Int) := (if ((decide (c = (0 : Int))) && (decide (max x2 (0 : Int) < (x1.length : Int)))) = true then (some 3) else (some c)).bind fun d => (if d = (0 : Int) then ((bl.f k b d (x1.length : Int)).bind fun a => (if (a.1.length + x1.length) * 1 ≤ 140737488355328 then (some (a.1 ++ x1, a.2)) else none)) else (some (b, d)))
theorem cY.calls (W : World) (F : HA) (k : Nat) (b0 : Nat) (c : Option Addr) (d : Nat) (a : List UInt8) (e : Int) (a1 : Option Addr) (c1 : Nat) (x1 : List UInt8) (x2 : Int) (h1 : Rd F a1 (ax x1)) (w : x1.length ≤ c1) (x : c1 ≤ maxLen) :
    Fn Tryz.prog W 86 [.pointer (some ⟨b0, 0, none⟩), .slice a1 x1.length c1, .int .i64 x2] [obj b0 160 [.slice c a.length d, .int .i64 e], Row 5 1 c a.length d (ax a)] F (cY.f k a e x1 x2) (fun (r : List UInt8 × Int) (y : Option Addr × Nat) => .tuple #[]) (fun r y => [obj b0 160 [.slice y.1 r.1.length y.2, .int .i64 r.2], Row 5 1 y.1 r.1.length y.2 (ax r.1)]) := by
 unfold cY.f
 refine aN 39 Tryz.func86 O Tryz.ntmps86 O ?_
 refine bE (S := Int) (Unit) (fun s y => [(0, .pointer (some ⟨b0, 0, none⟩)), (1, .slice a1 x1.length c1)]) (fun s y => [obj b0 160 [.slice c a.length d, .int .i64 s], Row 5 1 c a.length d (ax a), F]) ?_ ?_
 refine sr ?_
 refine vm O O ?_
 refine vn O O ?_
 refine vq (ar O O underlying160 O O sizeOf23 O) O ?_
 refine vq (ag O O isAgg23 (.obj 0 O O)) O ?_
 refine vq (bI O O O) O ?_
 refine vm O O ?_
 refine au (b := decide (e = (0 : Int))) (fun o => RQ.sub (E' := [(1, .slice a1 x1.length c1)]) ⟨O, trivial⟩ (ba O O)) O O O O O ?_
 refine au (b := decide (e = (0 : Int))) (fun m => RQ.sub (E' := [(12, .slice a1 x1.length c1)]) ⟨aE O m, trivial⟩ (bD O O O underlying33)) O O O O O ?_
 refine au (b := decide (e = (0 : Int))) (fun p => RQ.sub (E' := [(2, .int .i64 x2)]) ⟨O, trivial⟩ (ba O O)) O O O O O ?_
 refine au (b := decide (e = (0 : Int))) (fun n => RQ.sub (E' := [(14, .int .i64 x2)]) ⟨aE O n, trivial⟩ (sB O O O)) O O O O O ?_
 refine au (b := decide (e = (0 : Int))) (fun g => RQ.sub (E' := [(13, .int .i64 (x1.length : Int)), (15, .int .i64 (max x2 (0 : Int)))]) ⟨aE O g, aE O g, trivial⟩ (cI O O O)) O O O O O ?_
 refine vq (db O O O) O (ae (aa ?_))
 refine aY O (fun z => ?_) (fun ab => ?_)
 refine aJ ?_
 refine vm O O ?_
 refine vn O O ?_
 refine vq (ar O O underlying160 O O sizeOf23 O) O ?_
 refine aU (aH 0 O O O sizeOf23 O O (aM (by rfl)) O O) O O ?_
 intro _
 refine ae ?_
 exact aF (s := 3) () ⟨O, O, trivial⟩ (.sel 0 O (.sel 0 O (.sel 0 O (.nil _))))
 refine aC ?_
 exact aF (s := e) () ⟨O, O, trivial⟩ (.sel 0 O (.sel 0 O (.sel 0 O (.nil _))))
 intro l ad
 refine ay (sr ?_)
 refine vm O O ?_
 refine vn O O ?_
 refine vq (ar O O underlying160 O O sizeOf23 O) O ?_
 refine vq (ag O O isAgg23 (.obj 0 O O)) O ?_
 refine vq (cZ O O O) O (ae (aa ?_))
 refine cS O (fun q => ?_) (fun t => ?_)
 refine aC ?_
 refine aa (sr ?_)
 refine vm O O ?_
 refine vm O O ?_
 refine vq (bD O O O underlying33) O ?_
 refine aw (fun u i => ?_)
 refine ah (av (vs := [.pointer (some ⟨b0, 0, none⟩), .int .i64 (x1.length : Int)]) (cap := []) (A := [obj b0 160 [.slice c a.length d, .int .i64 l], Row 5 1 c a.length d (ax a)]) (rst := [F]) O O O O O O call84 (.sel 0 O (.sel 0 O (.sel 0 O (.nil _)))) (bl.calls _ _ k b0 c d a l (x1.length : Int) ) i) O O O ?_
 intro v
 refine ny ?_
 refine vm O O ?_
 refine vm O O ?_
 refine vn O O ?_
 refine vq (ar O O underlying160 O O sizeOf33 O) O ?_
 refine vq (ag O O isAgg33 (.obj 0 O O)) O ?_
 refine vm O O ?_
 refine bh (fun j => ?_)
 refine ah (eG 1 O O O underlying33 fV O (h1.rds 1 O) j) O O O ?_
 intro h
 refine vn O O ?_
 refine vq (ar O O underlying160 O O sizeOf33 O) O ?_
 refine aU (aH 0 O O O sizeOf33 O O (aM (by rfl)) O O) O O ?_
 intro _
 refine ae ?_
 exact gb (h.1, h.2) O O O (.sel 0 O (.sel 0 O (.sel 0 O (.nil _))))
 refine aA ?_
 refine aK ?_
 exact aD (c, d) O O O (.sel 0 O (.sel 0 O (.sel 0 O (.nil _))))

def dQ.f (k : Nat) (e : List UInt8) (g : Int) (h : Int) (i : Int) (j : Int) (l : List UInt8) : Option (List UInt8 × Int) := (bl.f k e g h).bind fun b => ((bl.f k b.1 b.2 i).bind fun c => ((bl.f k c.1 c.2 j).bind fun d => ((cY.f k d.1 d.2 l (4096 : Int)).bind fun a => (some (a.1, a.2)))))
theorem dQ.calls (W : World) (F : HA) (k : Nat) (b0 : Nat) (i : Option Addr) (j : Nat) (h : List UInt8) (s : Int) (b1 : Nat) (c : Int) (d : Int) (e : Int) (g : Option Addr) (b : Nat) (a : List UInt8) (x : Rd F g (ax a)) (u : a.length ≤ b) (v : b ≤ maxLen) :
    Fn Tryz.prog W 109 [.pointer (some ⟨b0, 0, none⟩), .pointer (some ⟨b1, 0, none⟩)] [obj b0 160 [.slice i h.length j, .int .i64 s], Row 5 1 i h.length j (ax h), obj b1 35 [.int .i64 c, .int .i64 d, .int .i64 e, .slice g a.length b]] F (dQ.f k h s c d e a) (fun (r : List UInt8 × Int) (y : Option Addr × Nat) => .tuple #[]) (fun r y => [obj b0 160 [.slice y.1 r.1.length y.2, .int .i64 r.2], Row 5 1 y.1 r.1.length y.2 (ax r.1), obj b1 35 [.int .i64 c, .int .i64 d, .int .i64 e, .slice g a.length b]]) := by
 unfold dQ.f
 refine aN 19 Tryz.func109 O Tryz.ntmps109 O ?_
 refine sr ?_
 refine vm O O ?_
 refine vq (ar O O underlying35 O O sizeOf3 O) O ?_
 refine vq (ag O O isAgg3 (.obj 2 O O)) O ?_
 refine aw (fun l z => ?_)
 refine ah (av (vs := [.pointer (some ⟨b0, 0, none⟩), .int .i64 c]) (cap := []) (A := [obj b0 160 [.slice i h.length j, .int .i64 s], Row 5 1 i h.length j (ax h)]) (rst := [obj b1 35 [.int .i64 c, .int .i64 d, .int .i64 e, .slice g a.length b], F]) O O O O O O call84 (.sel 0 O (.sel 0 O (.sel 0 O (.sel 0 O (.nil _))))) (bl.calls _ _ k b0 i j h s c ) z) O O O ?_
 intro m
 refine nx ?_
 refine vm O O ?_
 refine vq (ar O O underlying35 O O sizeOf3 O) O ?_
 refine vq (ag O O isAgg3 (.obj 2 O O)) O ?_
 refine aw (fun n ab => ?_)
 refine ah (av (vs := [.pointer (some ⟨b0, 0, none⟩), .int .i64 d]) (cap := []) (A := [obj b0 160 [.slice m.1 l.1.length m.2, .int .i64 l.2], Row 5 1 m.1 l.1.length m.2 (ax l.1)]) (rst := [obj b1 35 [.int .i64 c, .int .i64 d, .int .i64 e, .slice g a.length b], F]) O O O O O O call84 (.sel 0 O (.sel 0 O (.sel 0 O (.sel 0 O (.nil _))))) (bl.calls _ _ k b0 m.1 m.2 l.1 l.2 d ) ab) O O O ?_
 intro o
 refine nx ?_
 refine vm O O ?_
 refine vq (ar O O underlying35 O O sizeOf3 O) O ?_
 refine vq (ag O O isAgg3 (.obj 2 O O)) O ?_
 refine aw (fun p ad => ?_)
 refine ah (av (vs := [.pointer (some ⟨b0, 0, none⟩), .int .i64 e]) (cap := []) (A := [obj b0 160 [.slice o.1 n.1.length o.2, .int .i64 n.2], Row 5 1 o.1 n.1.length o.2 (ax n.1)]) (rst := [obj b1 35 [.int .i64 c, .int .i64 d, .int .i64 e, .slice g a.length b], F]) O O O O O O call84 (.sel 0 O (.sel 0 O (.sel 0 O (.sel 0 O (.nil _))))) (bl.calls _ _ k b0 o.1 o.2 n.1 n.2 e ) ad) O O O ?_
 intro q
 refine ny ?_
 refine vm O O ?_
 refine vq (ar O O underlying35 O O sizeOf33 O) O ?_
 refine vq (ag O O isAgg33 (.obj 2 O O)) O ?_
 refine aw (fun af w => ?_)
 refine ah (av (vs := [.pointer (some ⟨b0, 0, none⟩), .slice g a.length b, .int .i64 4096]) (cap := []) (A := [obj b0 160 [.slice q.1 p.1.length q.2, .int .i64 p.2], Row 5 1 q.1 p.1.length q.2 (ax p.1)]) (rst := [obj b1 35 [.int .i64 c, .int .i64 d, .int .i64 e, .slice g a.length b], F]) O O O O O O call86 (.sel 0 O (.sel 0 O (.sel 0 O (.sel 0 O (.nil _))))) (cY.calls _ _ k b0 q.1 q.2 p.1 p.2 g b a (4096 : Int) (x.lend 1 O) u v) w) O O O ?_
 intro t
 refine ae ?_
 exact gb (t.1, t.2) O O O (.sel 0 O (.sel 0 O (.sel 0 O (.sel 0 O (.nil _)))))

def en.f (x0 : List UInt8) : Option (List UInt8) := if 0 ≤ (x0.length : Int) ∧ (x0.length : Int) ≤ (x0.length : Int) ∧ (x0.length : Int) * 1 ≤ 140737488355328 then (some (iw (List.replicate (x0.length : Int).toNat (0 : UInt8)) x0)) else none
theorem en.calls (W : World) (F : HA) (a0 : Option Addr) (c0 : Nat) (x0 : List UInt8) (h0 : Rd F a0 (ax x0)) (c : x0.length ≤ c0) (e : c0 ≤ maxLen) :
    Fn Tryz.prog W 110 [.slice a0 x0.length c0] [] F (en.f x0) (fun (r : List UInt8) (y : Option Addr × Nat) => .slice y.1 r.length y.2) (fun r y => [Row 5 1 y.1 r.length y.2 (ax r)]) := by
 unfold en.f
 refine aN 11 Tryz.func110 O Tryz.ntmps110 O ?_
 refine sr ?_
 refine va O O (nx ?_)
 refine vm O O ?_
 refine vq (bD O O O underlying33) O ?_
 refine bh (fun a => ?_)
 refine ah (jY O O O underlying33 fV a.1 a.2.1 a.2.2) O O O ?_
 intro b
 refine va O O (nx ?_)
 refine vm O O ?_
 refine vm O O ?_
 refine ah (sj 0 O O O underlying33 fV O (h0.rds 1 O)) O O O ?_
 intro _
 refine lE (.slice (some ⟨b, 0, none⟩) ((iw (List.replicate (x0.length : Int).toNat (0 : UInt8)) x0).length) ((x0.length : Int).toNat)) (d := 6) O (mF (ib _ _).symm) ?_
 refine lE (.slice (some ⟨b, 0, none⟩) ((iw (List.replicate (x0.length : Int).toNat (0 : UInt8)) x0).length) ((x0.length : Int).toNat)) (d := 3) O (mF (ib _ _).symm) ?_
 refine lE (.slice (some ⟨b, 0, none⟩) ((iw (List.replicate (x0.length : Int).toNat (0 : UInt8)) x0).length) ((x0.length : Int).toNat)) (d := 7) O (mF (ib _ _).symm) ?_
 refine nx ?_
 refine vm O O ?_
 refine va O O (ae (aa (aA ?_)))
 exact aD ((some ⟨b, 0, none⟩), (x0.length : Int).toNat) O O O (.sel 0 O (.sel 0 O (.nil _)))

def cW.f (b : List UInt8) (a : Int) : Option (List UInt8 × Int) := if a = (0 : Int) then ((en.f b).bind fun c => (some (c, 0))) else (some (([] : List UInt8), a))
theorem cW.calls (W : World) (F : HA) (b0 : Nat) (d : Option Addr) (b : Nat) (a : List UInt8) (c : Int) (k : Rd F d (ax a)) (e : a.length ≤ b) (g : b ≤ maxLen) :
    Fn Tryz.prog W 87 [.pointer (some ⟨b0, 0, none⟩)] [obj b0 160 [.slice d a.length b, .int .i64 c]] F (cW.f a c) (fun (r : List UInt8 × Int) (y : Option Addr × Nat) => .tuple #[.slice y.1 r.1.length y.2, .int .i64 r.2]) (fun r y => [Row 5 1 y.1 r.1.length y.2 (ax r.1), obj b0 160 [.slice d a.length b, .int .i64 c]]) := by
 unfold cW.f
 refine aN 18 Tryz.func87 O Tryz.ntmps87 O ?_
 refine sr ?_
 refine va O O ?_
 refine va O O (ae (aa (ay (sr ?_))))
 refine vm O O ?_
 refine vn O O ?_
 refine vq (ar O O underlying160 O O sizeOf23 O) O ?_
 refine vq (ag O O isAgg23 (.obj 0 O O)) O ?_
 refine vq (cZ O O O) O (ae (aa ?_))
 refine cS O (fun m => ?_) (fun n => ?_)
 refine aC ?_
 refine aa (sr ?_)
 refine vm O O ?_
 refine vn O O ?_
 refine vq (ar O O underlying160 O O sizeOf33 O) O ?_
 refine vq (ag O O isAgg33 (.obj 0 O O)) O ?_
 refine aw (fun p l => ?_)
 refine ah (av (vs := [.slice d a.length b]) (cap := []) (A := []) (rst := [obj b0 160 [.slice d a.length b, .int .i64 c], F]) O O O O O O call110 (.sel 0 O (.sel 0 O (.nil _))) (en.calls _ _ d b a (k.lend 1 O) e g) l) O O O ?_
 intro h
 refine va O O ?_
 refine va O O (ae (aa (aA ?_)))
 exact aD (h.1, h.2) O O O (.sel 0 O (.sel 0 O (.sel 0 O (.nil _))))
 refine ay ?_
 refine bb (Γ := Unit) () [[], [0], [0, 1], [0, 1, 2], [], rL 5] [] [0, 1, 2, 3, 4, 5] (fun i => [[0], [0], [0], [0], [0], [0]].getD i []) (fun i => [[], [], [], [], [], []].getD i []) (fun γ i => [.pointer (some ⟨b0, 0, none⟩), .pointer (some ⟨b0, 0, none⟩), .pointer (some ⟨b0, 1, none⟩), .int .i64 c, .slice none 0 0, .int .i64 c].getD i undef) (fun j γ => [[obj b0 160 [.slice d a.length b, .int .i64 c], F]].getD j []) (fun γ => [(2, .slice none 0 0), (3, .int .i64 c)]) mixed (by decide) (by decide) (by decide) (by decide) (by decide) (by decide) (by decide) 18 O (by decide) (by decide) (by decide) (Ent.refl _) ?_ ?_ (fun _ => ⟨O, O, trivial⟩) ?_
 exact (aq O (fun γ => qm O (.o (s := 0) O (by decide) .nil) O) (aq O (fun γ => qp O O (.v 0 O O .nil) (aX O O) O) (aq O (fun γ => qp O O (.v 1 O O .nil) (ar O O underlying160 O O sizeOf23 O) O) (aq O (fun γ => qp O O (.v 2 O O .nil) (ag O O isAgg23 (.obj 0 O O)) O) (aq O (fun γ => qp O O .nil (ci O O) O) (aq O (fun γ => qp O O (.v 3 O O .nil) (ci O O) O) zA))))))
 exact zA
 intro q
 refine aa (aA ?_)
 refine aK ?_
 exact aD (none, 0) O O O (.row_nil (.sel 0 O (.sel 0 O (.nil _))))

def cL.f (k : Nat) (x0 : Int) (b : Int) (c : Int) (d : Int) (e : List UInt8) : Option (List UInt8 × Int) := if x0 = (0 : Int) then ((dJ.f).bind fun g => ((dQ.f k g.1 g.2 b c d e).bind fun h => ((cW.f h.1 h.2).bind fun a => (some (a.1, a.2))))) else (some (([] : List UInt8), x0))
theorem cL.calls (W : World) (F : HA) (k : Nat) (x0 : Int) (i : Nat) (c : Int) (d : Int) (e : Int) (g : Option Addr) (b : Nat) (a : List UInt8) (q : Rd F g (ax a)) (n : a.length ≤ b) (o : b ≤ maxLen) :
    Fn Tryz.prog W 108 [.int .i64 x0, .func (.func 109) #[] #[.pointer (some ⟨i, 0, none⟩)]] [obj i 35 [.int .i64 c, .int .i64 d, .int .i64 e, .slice g a.length b]] F (cL.f k x0 c d e a) (fun (r : List UInt8 × Int) (y : Option Addr × Nat) => .tuple #[.slice y.1 r.1.length y.2, .int .i64 r.2]) (fun r y => [Row 5 1 y.1 r.1.length y.2 (ax r.1), obj i 35 [.int .i64 c, .int .i64 d, .int .i64 e, .slice g a.length b]]) := by
 unfold cL.f
 refine aN 18 Tryz.func108 O Tryz.ntmps108 O ?_
 refine sr ?_
 refine va O O ?_
 refine va O O (ae (aa (ay (sr ?_))))
 refine vm O O ?_
 refine vq (cZ O O O) O (ae (aa ?_))
 refine cS O (fun ad => ?_) (fun af => ?_)
 refine aC ?_
 refine aa (sr ?_)
 refine aw (fun j v => ?_)
 refine ah (av (vs := []) (cap := []) (A := []) (rst := [obj i 35 [.int .i64 c, .int .i64 d, .int .i64 e, .slice g a.length b], F]) O O O O O O call83 (.sel 0 O (.sel 0 O (.nil _))) (dJ.calls _ _  ) v) O O O ?_
 intro h
 refine va O O (nx ?_)
 refine vm O O ?_
 refine vm O O ?_
 refine aw (fun l w => ?_)
 refine ah (av (vs := [.pointer (some ⟨h.1, 0, none⟩)]) (cap := [.pointer (some ⟨i, 0, none⟩)]) (A := [obj h.1 160 [.slice h.2.1 j.1.length h.2.2, .int .i64 j.2], Row 5 1 h.2.1 j.1.length h.2.2 (ax j.1), obj i 35 [.int .i64 c, .int .i64 d, .int .i64 e, .slice g a.length b]]) (rst := [F]) O O O O O O call109 (.sel 0 O (.sel 0 O (.sel 0 O (.sel 0 O (.nil _))))) (dQ.calls _ _ k h.1 h.2.1 h.2.2 j.1 j.2 i c d e g b a (q.lend 0 O) n o) w) O O O ?_
 intro m
 refine nx ?_
 refine vm O O ?_
 refine aw (fun ab s => ?_)
 refine bd 1 O (fun x t u z => ?_)
 refine ah (av (vs := [.pointer (some ⟨h.1, 0, none⟩)]) (cap := []) (A := [obj h.1 160 [.slice m.1 l.1.length m.2, .int .i64 l.2]]) (rst := [Row 5 1 m.1 l.1.length m.2 (ax l.1), obj i 35 [.int .i64 c, .int .i64 d, .int .i64 e, .slice g a.length b], F]) O O O O O O call87 (.sel 0 O (.sel 0 O (.sel 0 O (.sel 0 O (.nil _))))) (cW.calls _ _ h.1 m.1 m.2 l.1 l.2 (x.lend 0 O) t u) s) O O O ?_
 intro p
 refine vq (bu O O O) O ?_
 refine vq (bu O O O) O ?_
 refine va O O ?_
 refine va O O (ae (aa (aA ?_)))
 exact aD (p.1, p.2) O O O (.sel 0 O (.sel 2 O (.sel 2 O (.nil _))))
 refine sr ?_
 refine vm O O ?_
 refine va O O ?_
 refine va O O (ae (aa (aA ?_)))
 refine aK ?_
 exact aD (none, 0) O O O (.row_nil (.sel 0 O (.sel 0 O (.nil _))))

def dN.f (k : Nat) (a : Int) (b : Int) (c : Int) (d : List UInt8) : Option (List UInt8 × Int) := (bq.f a b c d).bind fun g => ((cL.f k g a b c d).bind fun e => (some (e.1, e.2)))
theorem dN.calls (W : World) (F : HA) (k : Nat) (c : Int) (d : Int) (e : Int) (g : Option Addr) (b : Nat) (a : List UInt8) (l : Rd F g (ax a)) (h : a.length ≤ b) (i : b ≤ maxLen) :
    Fn Tryz.prog W 85 [.agg #[], .agg #[.int .i64 c, .int .i64 d, .int .i64 e, .slice g a.length b]] [] F (dN.f k c d e a) (fun (r : List UInt8 × Int) (y : Option Addr × Nat) => .tuple #[.slice y.1 r.1.length y.2, .int .i64 r.2]) (fun r y => [Row 5 1 y.1 r.1.length y.2 (ax r.1)]) := by
 unfold dN.f
 refine aN 13 Tryz.func85 O Tryz.ntmps85 O ?_
 refine sr ?_
 refine ah (cy O O O) O O O ?_
 intro m
 refine ah (cy O O O) O O O ?_
 intro j
 refine va O O ?_
 refine va O O (nx ?_)
 refine vq (bU 1 O O isAgg131 sizeOf131 O O) O ?_
 refine vq (bU 0 O O isAgg35 sizeOf35 O O) O ?_
 refine aw (fun n p => ?_)
 refine ah (av (vs := [.agg #[], .agg #[.int .i64 c, .int .i64 d, .int .i64 e, .slice g a.length b]]) (cap := []) (A := []) (rst := [obj j 35 [.int .i64 c, .int .i64 d, .int .i64 e, .slice g a.length b], obj m 131 [], F]) O O O O O O call79 (.sel 0 O (.sel 0 O (.sel 0 O (.nil _)))) (bq.calls _ _ c d e g b a (l.lend 2 O) h i) p) O O O ?_
 intro s
 refine vq (hD O O O) O ?_
 refine aw (fun t q => ?_)
 refine ah (av (vs := [.int .i64 n, .func (.func 109) #[] #[.pointer (some ⟨j, 0, none⟩)]]) (cap := []) (A := [obj j 35 [.int .i64 c, .int .i64 d, .int .i64 e, .slice g a.length b]]) (rst := [obj m 131 [], F]) O O O O O O call108 (.sel 0 O (.sel 0 O (.sel 0 O (.nil _)))) (cL.calls _ _ k n j c d e g b a (l.lend 1 O) h i) q) O O O ?_
 intro o
 refine vq (bu O O O) O ?_
 refine vq (bu O O O) O ?_
 refine va O O ?_
 refine va O O (ae (aa (aA ?_)))
 exact aD (o.1, o.2) O O O (.sel 0 O (.sel 2 O (.nil _)))

def eT.f (x0 : Int) : Option (List UInt8) := if 0 ≤ IntKind.u8.wrap x0 ∧ IntKind.u8.wrap x0 < 256 then (if 0 ≤ IntKind.u8.wrap (Int.fdiv x0 (2 ^ (min (8 : Int).toNat IntKind.u32.bits))) ∧ IntKind.u8.wrap (Int.fdiv x0 (2 ^ (min (8 : Int).toNat IntKind.u32.bits))) < 256 then (if 0 ≤ IntKind.u8.wrap (Int.fdiv x0 (2 ^ (min (16 : Int).toNat IntKind.u32.bits))) ∧ IntKind.u8.wrap (Int.fdiv x0 (2 ^ (min (16 : Int).toNat IntKind.u32.bits))) < 256 then (if 0 ≤ IntKind.u8.wrap (Int.fdiv x0 (2 ^ (min (24 : Int).toNat IntKind.u32.bits))) ∧ IntKind.u8.wrap (Int.fdiv x0 (2 ^ (min (24 : Int).toNat IntKind.u32.bits))) < 256 then (some ([(du (IntKind.u8.wrap x0)), (du (IntKind.u8.wrap (Int.fdiv x0 (2 ^ (min (8 : Int).toNat IntKind.u32.bits))))), (du (IntKind.u8.wrap (Int.fdiv x0 (2 ^ (min (16 : Int).toNat IntKind.u32.bits))))), (du (IntKind.u8.wrap (Int.fdiv x0 (2 ^ (min (24 : Int).toNat IntKind.u32.bits)))))] : List UInt8)) else none) else none) else none) else none
theorem eT.calls (W : World) (F : HA) (x0 : Int)  :
    Fn Tryz.prog W 127 [.int .u32 x0] [] F (eT.f x0) (fun (r : List UInt8) (y : Option Addr × Nat) => .slice y.1 r.length y.2) (fun r y => [Row 5 1 y.1 r.length y.2 (ax r)]) := by
 unfold eT.f
 refine aN 15 Tryz.func127 O Tryz.ntmps127 O ?_
 refine sr ?_
 refine va O O (nx ?_)
 refine vm O O ?_
 refine vq (eX O O underlying149 underlying5) O ?_
 refine vm O O ?_
 refine vq (kJ O O O (by decide)) O ?_
 refine vq (eX O O underlying149 underlying5) O ?_
 refine vm O O ?_
 refine vq (kJ O O O (by decide)) O ?_
 refine vq (eX O O underlying149 underlying5) O ?_
 refine vm O O ?_
 refine vq (kJ O O O (by decide)) O ?_
 refine vq (eX O O underlying149 underlying5) O ?_
 refine bh (fun a => ?_)
 refine bh (fun b => ?_)
 refine bh (fun c => ?_)
 refine bh (fun d => ?_)
 refine ah (mB (cs := [.int .u8 (IntKind.u8.wrap x0), .int .u8 (IntKind.u8.wrap (Int.fdiv x0 (2 ^ (min (8 : Int).toNat IntKind.u32.bits)))), .int .u8 (IntKind.u8.wrap (Int.fdiv x0 (2 ^ (min (16 : Int).toNat IntKind.u32.bits)))), .int .u8 (IntKind.u8.wrap (Int.fdiv x0 (2 ^ (min (24 : Int).toNat IntKind.u32.bits))))]) ([(du (IntKind.u8.wrap x0)), (du (IntKind.u8.wrap (Int.fdiv x0 (2 ^ (min (8 : Int).toNat IntKind.u32.bits))))), (du (IntKind.u8.wrap (Int.fdiv x0 (2 ^ (min (16 : Int).toNat IntKind.u32.bits))))), (du (IntKind.u8.wrap (Int.fdiv x0 (2 ^ (min (24 : Int).toNat IntKind.u32.bits)))))] : List UInt8) O O underlying33 fV O (by kernel_rfl) O O (kj (gB a.1 a.2) (kj (gB b.1 b.2) (kj (gB c.1 c.2) (kj (gB d.1 d.2) tj))))) O O O ?_
 intro e
 refine va O O (ae (aa (aA ?_)))
 exact aD ((some ⟨e, 0, none⟩), 4) O O O (.sel 0 O (.sel 0 O (.nil _)))

def bN.l1 : Nat → Int → Int → Option (Int)
  | 0, _, _ => none
  | k + 1, a, b => if b < (8 : Int) then (if bS .and .u32 a 1 = (1 : Int) then (bN.l1 k (bS .xor .u32 (Int.fdiv a (2 ^ (min (1 : Int).toNat IntKind.u32.bits))) 2197175160) (IntKind.i64.wrap (b + 1))) else (bN.l1 k (Int.fdiv a (2 ^ (min (1 : Int).toNat IntKind.u32.bits))) (IntKind.i64.wrap (b + 1)))) else (some a)
def bN.l0 (x1 : List UInt8) : Nat → Int → Int → Option (Int)
  | 0, _, _ => none
  | k + 1, b, a => if a < (x1.length : Int) then ((if 0 ≤ a ∧ a < (x1.length : Int) then (bN.l1 k (bS .xor .u32 b (IntKind.u32.wrap ((x1.getD a.toNat 0).toNat : Int))) 0) else none).bind fun c => (bN.l0 x1 k c (IntKind.i64.wrap (a + 1)))) else (some b)
def bN.f (k : Nat) (x0 : Int) (x1 : List UInt8) : Option (Int) := (bN.l0 x1 k x0 0).bind fun a => (some a)
theorem bN.calls (W : World) (F : HA) (k : Nat) (x0 : Int) (a1 : Option Addr) (c1 : Nat) (x1 : List UInt8) (h1 : Rd F a1 (ax x1)) (q : x1.length ≤ c1) (t : c1 ≤ maxLen) :
    Fn Tryz.prog W 95 [.int .u32 x0, .slice a1 x1.length c1] [] F (bN.f k x0 x1) (fun (r : Int) (y : Unit) => .int .u32 r) (fun r y => []) := by
 unfold bN.f
 refine aN 31 Tryz.func95 O Tryz.ntmps95 O ?_
 refine sr ?_
 refine va O O (ae (aa ?_))
 refine bE (S := Int) (Unit) (fun s y => [(0, .int .u32 s)]) (fun s y => [F]) ?_ ?_
 refine sr ?_
 refine vm O O ?_
 refine vq (bD O O O underlying33) O ?_
 refine vm O O (ae (aa ?_))
 refine aT ?_
 refine cC (S := Int × Int) (Unit) (fun k s => bN.l0 x1 k s.1 s.2) (fun s y => [(0, .int .u32 s.1), (8, .slice a1 x1.length c1), (9, .int .i64 (x1.length : Int)), (10, .int .i64 s.2)]) (fun s y => [F]) (fun _ => by rw [bN.l0]) ?_ k (x0, 0) () ⟨O, O, O, O, trivial⟩ (.sel 0 O (.nil _))
 intro k a u
 refine df (by rw [bN.l0]) ?_
 refine sr ?_
 refine vq (cH O O O) O (ae (aa (ay ?_)))
 refine bf O (fun v => ?_) (fun w => ?_)
 refine aC ?_
 refine aa ?_
 refine bE (S := Int) (Unit) (fun s y => [(0, .int .u32 s), (8, .slice a1 x1.length c1), (9, .int .i64 (x1.length : Int)), (10, .int .i64 a.2)]) (fun s y => [F]) ?_ ?_
 refine aT ?_
 refine sr ?_
 refine bh (fun c => ?_)
 obtain ⟨h, g, d⟩ := h1.pos (gA (j := a.2.toNat) (by omega))
 refine vq (hJ O O O d underlying33 sizeOf5 c.1 c.2) O ?_
 refine vq (ag O O isAgg5 (h1.cell 0 O d (fQ (by omega)))) O ?_
 refine va O O (nx ?_)
 refine vm O O ?_
 refine vm O O ?_
 refine vq (eX O O underlying5 underlying149) O ?_
 refine vq (qG O O O) O ?_
 refine va O O (nx ?_)
 refine vm O O (ae (aa ?_))
 refine aT ?_
 refine cC (S := Int × Int) (Unit) (fun k s => bN.l1 k s.1 s.2) (fun s y => [(0, .int .u32 s.1), (8, .slice a1 x1.length c1), (9, .int .i64 (x1.length : Int)), (10, .int .i64 a.2), (18, .int .i64 s.2)]) (fun s y => [F]) (fun _ => by rw [bN.l1]) ?_ k (bS .xor .u32 a.1 (IntKind.u32.wrap ((x1.getD a.2.toNat 0).toNat : Int)), 0) () ⟨O, O, O, O, O, trivial⟩ (.sel 0 O (.nil _))
 intro k b i
 refine df (by rw [bN.l1]) ?_
 refine sr ?_
 refine vq (cH O O O) O (ae (aa (ay ?_)))
 refine bf O (fun l => ?_) (fun m => ?_)
 refine aC ?_
 refine aa (ay ?_)
 refine aT ?_
 refine sr ?_
 refine vm O O ?_
 refine vq (nL O O O) O ?_
 refine va O O (nx ?_)
 refine vm O O ?_
 refine vq (kJ O O O (by decide)) O ?_
 refine va O O (nx ?_)
 refine vm O O ?_
 refine vq (bI O O O) O (ae (aa ?_))
 refine bf O (fun n => ?_) (fun o => ?_)
 refine aJ ?_
 refine vm O O ?_
 refine vq (qG O O O) O ?_
 refine va O O (ae (bv (aa (aJ ?_))))
 refine vq (cb O O O) O ?_
 refine vm O O (ae ?_)
 exact bV (s := (bS .xor .u32 (Int.fdiv b.1 (2 ^ (min (1 : Int).toNat IntKind.u32.bits))) 2197175160, IntKind.i64.wrap (b.2 + 1))) () ⟨O, O, O, O, O, trivial⟩ (.sel 0 O (.nil _))
 refine aC ?_
 refine bv (aa (aJ ?_))
 refine vq (cb O O O) O ?_
 refine vm O O (ae ?_)
 exact bV (s := (Int.fdiv b.1 (2 ^ (min (1 : Int).toNat IntKind.u32.bits)), IntKind.i64.wrap (b.2 + 1))) () ⟨O, O, O, O, O, trivial⟩ (.sel 0 O (.nil _))
 refine cN ?_
 refine ct ?_
 refine cD ?_
 refine cu ?_
 refine bv ?_
 exact aF (s := b.1) () ⟨O, O, O, O, trivial⟩ (.sel 0 O (.nil _))
 intro e p
 refine aJ ?_
 refine vq (cb O O O) O ?_
 refine vm O O (ae ?_)
 exact bV (s := (e, IntKind.i64.wrap (a.2 + 1))) () ⟨O, O, O, O, trivial⟩ (.sel 0 O (.nil _))
 refine cN ?_
 refine ct ?_
 refine cD ?_
 refine cu ?_
 exact aF (s := a.1) () ⟨O, trivial⟩ (.sel 0 O (.nil _))
 intro x z
 refine sr ?_
 refine vm O O ?_
 refine va O O (ae (aa (aA ?_)))
 exact aD () O O O (.sel 0 O (.nil _))

def gx.f (k : Nat) (x0 : List UInt8) (x1 : List UInt8) : Option (List UInt8) := (eT.f (IntKind.u32.wrap (x1.length : Int))).bind fun a => ((bN.f k (4294967295 : Int) a).bind fun d => ((bN.f k d x1).bind fun c => (if (x0.length + a.length) * 1 ≤ 140737488355328 then ((eT.f (bS .xor .u32 (if IntKind.u32.signed then -1 else IntKind.u32.max) c)).bind fun b => (if ((x0 ++ a).length + b.length) * 1 ≤ 140737488355328 then (if (((x0 ++ a) ++ b).length + x1.length) * 1 ≤ 140737488355328 then (some (((x0 ++ a) ++ b) ++ x1)) else none) else none)) else none)))
theorem gx.calls (W : World) (F : HA) (k : Nat) (a0 : Option Addr) (c0 : Nat) (x0 : List UInt8) (a1 : Option Addr) (c1 : Nat) (x1 : List UInt8) (h1 : Rd F a1 (ax x1)) (t : x1.length ≤ c1) (u : c1 ≤ maxLen) :
    Fn Tryz.prog W 111 [.slice a0 x0.length c0, .slice a1 x1.length c1] [Row 5 1 a0 x0.length c0 (ax x0)] F (gx.f k x0 x1) (fun (r : List UInt8) (y : Option Addr × Nat) => .slice y.1 r.length y.2) (fun r y => [Row 5 1 y.1 r.length y.2 (ax r)]) := by
 unfold gx.f
 refine aN 26 Tryz.func111 O Tryz.ntmps111 O ?_
 refine sr ?_
 refine va O O (nx ?_)
 refine vm O O ?_
 refine vq (bD O O O underlying33) O ?_
 refine vq (eX O O underlying3 underlying149) O ?_
 refine aw (fun a n => ?_)
 refine ah (av (vs := [.int .u32 (IntKind.u32.wrap (x1.length : Int))]) (cap := []) (A := []) (rst := [Row 5 1 a0 x0.length c0 (ax x0), F]) O O O O O O call127 (.sel 0 O (.sel 0 O (.nil _))) (eT.calls _ _ (IntKind.u32.wrap (x1.length : Int)) ) n) O O O ?_
 intro b
 refine va O O (nx ?_)
 refine vm O O ?_
 refine aw (fun m o => ?_)
 refine bd 0 O (fun p q s v => ?_)
 refine ah (av (vs := [.int .u32 4294967295, .slice b.1 a.length b.2]) (cap := []) (A := []) (rst := [Row 5 1 b.1 a.length b.2 (ax a), Row 5 1 a0 x0.length c0 (ax x0), F]) O O O O O O call95 (.sel 0 O (.sel 0 O (.sel 0 O (.nil _)))) (bN.calls _ _ k (4294967295 : Int) b.1 b.2 a (p.lend 0 O) q s) o) O O O ?_
 intro w
 refine vm O O ?_
 refine aw (fun c g => ?_)
 refine ah (av (vs := [.int .u32 m, .slice a1 x1.length c1]) (cap := []) (A := []) (rst := [Row 5 1 b.1 a.length b.2 (ax a), Row 5 1 a0 x0.length c0 (ax x0), F]) O O O O O O call95 (.sel 0 O (.sel 0 O (.sel 0 O (.nil _)))) (bN.calls _ _ k m a1 c1 x1 (h1.lend 2 O) t u) g) O O O ?_
 intro x
 refine vq (pW O O) O ?_
 refine va O O (nx ?_)
 refine vm O O ?_
 refine vm O O ?_
 refine bh (fun h => ?_)
 refine ah (eG 1 O O O underlying33 fV O (Rds.row 0 O) h) O O O ?_
 intro d
 refine va O O (nx ?_)
 refine vm O O ?_
 refine vm O O ?_
 refine aw (fun z i => ?_)
 refine ah (av (vs := [.int .u32 (bS .xor .u32 (if IntKind.u32.signed then -1 else IntKind.u32.max) c)]) (cap := []) (A := []) (rst := [Row 5 1 b.1 a.length b.2 (ax a), Row 5 1 d.1 (x0 ++ a).length d.2 (ax (x0 ++ a)), F]) O O O O O O call127 (.sel 0 O (.sel 0 O (.sel 0 O (.nil _)))) (eT.calls _ _ (bS .xor .u32 (if IntKind.u32.signed then -1 else IntKind.u32.max) c) ) i) O O O ?_
 intro ab
 refine bh (fun j => ?_)
 refine ah (eG 2 O O O underlying33 fV O (Rds.row 0 O) j) O O O ?_
 intro ad
 refine va O O (nx ?_)
 refine vm O O ?_
 refine vm O O ?_
 refine bh (fun l => ?_)
 refine ah (eG 2 O O O underlying33 fV O (h1.rds 2 O) l) O O O ?_
 intro e
 refine va O O (ae (aa (aA ?_)))
 exact aD (e.1, e.2) O O O (.sel 2 O (.sel 2 O (.nil _)))

def fP.f (k : Nat) (x0 : List UInt8) : Option (List UInt8 × Int) := if (1048576 : Int) < (x0.length : Int) then (some (([] : List UInt8), 3)) else (if 0 ≤ (0 : Int) ∧ (0 : Int) ≤ IntKind.i64.wrap (8 + (x0.length : Int)) ∧ IntKind.i64.wrap (8 + (x0.length : Int)) * 1 ≤ 140737488355328 then ((gx.f k (List.replicate (0 : Int).toNat (0 : UInt8)) x0).bind fun a => (some (a, 0))) else none)
theorem fP.calls (W : World) (F : HA) (k : Nat) (a0 : Option Addr) (c0 : Nat) (x0 : List UInt8) (h0 : Rd F a0 (ax x0)) (e : x0.length ≤ c0) (g : c0 ≤ maxLen) :
    Fn Tryz.prog W 88 [.slice a0 x0.length c0] [] F (fP.f k x0) (fun (r : List UInt8 × Int) (y : Option Addr × Nat) => .tuple #[.slice y.1 r.1.length y.2, .int .i64 r.2]) (fun r y => [Row 5 1 y.1 r.1.length y.2 (ax r.1)]) := by
 unfold fP.f
 refine aN 13 Tryz.func88 O Tryz.ntmps88 O ?_
 refine sr ?_
 refine va O O ?_
 refine va O O (ae (aa (ay (sr ?_))))
 refine vm O O ?_
 refine vq (bD O O O underlying33) O ?_
 refine vq (cI O O O) O (ae (aa ?_))
 refine bf O (fun h => ?_) (fun i => ?_)
 refine sr ?_
 refine va O O ?_
 refine va O O (ae (aa (aA ?_)))
 refine aK ?_
 exact aD (none, 0) O O O (.row_nil (.sel 0 O (.nil _)))
 refine aC ?_
 refine aa (sr ?_)
 refine vm O O ?_
 refine vq (bD O O O underlying33) O ?_
 refine vq (cb O O O) O ?_
 refine bh (fun a => ?_)
 refine ah (jY O O O underlying33 fV a.1 a.2.1 a.2.2) O O O ?_
 intro b
 refine vm O O ?_
 refine aw (fun j d => ?_)
 refine ah (av (vs := [.slice (some ⟨b, 0, none⟩) ((List.replicate (0 : Int).toNat (0 : UInt8)).length) ((IntKind.i64.wrap (8 + (x0.length : Int))).toNat), .slice a0 x0.length c0]) (cap := []) (A := [Row 5 1 (some ⟨b, 0, none⟩) (List.replicate (0 : Int).toNat (0 : UInt8)).length ((IntKind.i64.wrap (8 + (x0.length : Int))).toNat) (ax (List.replicate (0 : Int).toNat (0 : UInt8)))]) (rst := [F]) O O O O O O call111 (.sel 0 O (.sel 0 O (.nil _))) (gx.calls _ _ k (some ⟨b, 0, none⟩) ((IntKind.i64.wrap (8 + (x0.length : Int))).toNat) (List.replicate (0 : Int).toNat (0 : UInt8)) a0 c0 x0 (h0.lend 0 O) e g) d) O O O ?_
 intro c
 refine va O O ?_
 refine va O O (ae (aa (aA ?_)))
 exact aD (c.1, c.2) O O O (.sel 0 O (.sel 0 O (.nil _)))

def dn.f (k : Nat) (a : Int) (u : Int) (v : Int) (w : Int) (x : Int) (y : Int) (z : Int) (ab : Int) (ad : Int) (af : Int) (s : List UInt8) : Option (List UInt8) := (dJ.f).bind fun t => ((bl.f k t.1 t.2 a).bind fun d => ((if a = (0 : Int) then ((bl.f k d.1 d.2 u).bind fun g => (some (g.1, g.2))) else (some (d.1, d.2))).bind fun e => ((if ((decide (a = (0 : Int))) || (decide (a = (1 : Int)))) = true then ((bl.f k e.1 e.2 v).bind fun h => ((bl.f k h.1 h.2 w).bind fun i => ((bl.f k i.1 i.2 x).bind fun j => (some (j.1, j.2))))) else (some (e.1, e.2))).bind fun b => ((if ((decide (a = (0 : Int))) || (decide (a = (3 : Int)))) = true then ((bl.f k b.1 b.2 y).bind fun l => ((bl.f k l.1 l.2 z).bind fun m => (some (m.1, m.2)))) else (some (b.1, b.2))).bind fun c => ((if a = (2 : Int) then ((dN.f k ab ad af s).bind fun n => ((bw.f n.2).bind fun al => ((cY.f k c.1 c.2 n.1 (8192 : Int)).bind fun o => (some (o.1, o.2))))) else (some (c.1, c.2))).bind fun p => ((cW.f p.1 p.2).bind fun q => ((bw.f q.2).bind fun an => ((fP.f k q.1).bind fun r => ((bw.f r.2).bind fun az => (some r.1))))))))))
theorem dn.calls (W : World) (F : HA) (k : Nat) (d : Int) (l : Int) (m : Int) (n : Int) (o : Int) (p : Int) (q : Int) (h : Int) (i : Int) (j : Int) (g : Option Addr) (e : Nat) (c : List UInt8) (b8 : Rd F g (ax c)) (bs : c.length ≤ e) (bt : e ≤ maxLen) :
    Fn Tryz.prog W 52 [.agg #[.int .i64 d, .int .i64 l, .int .i64 m, .int .i64 n, .int .i64 o, .int .i64 p, .int .i64 q, .int .i64 h, .int .i64 i, .int .i64 j, .slice g c.length e]] [] F (dn.f k d l m n o p q h i j c) (fun (r : List UInt8) (y : Option Addr × Nat) => .slice y.1 r.length y.2) (fun r y => [Row 5 1 y.1 r.length y.2 (ax r)]) := by
 unfold dn.f
 refine aN 90 Tryz.func52 O Tryz.ntmps52 O ?_
 refine sr ?_
 refine ah (cy O O O) O O O ?_
 intro z
 refine va O O (nx ?_)
 refine aw (fun bc eb => ?_)
 refine ah (av (vs := []) (cap := []) (A := []) (rst := [obj z 102 [.int .i64 d, .int .i64 l, .int .i64 m, .int .i64 n, .int .i64 o, .int .i64 p, .int .i64 q, .int .i64 h, .int .i64 i, .int .i64 j, .slice g c.length e], F]) O O O O O O call83 (.sel 0 O (.sel 0 O (.nil _))) (dJ.calls _ _  ) eb) O O O ?_
 intro a
 refine va O O (nx ?_)
 refine vm O O ?_
 refine vq (ar O O underlying102 O O sizeOf3 O) O ?_
 refine vq (ag O O isAgg3 (.obj 2 O O)) O ?_
 refine aw (fun a6 ec => ?_)
 refine ah (av (vs := [.pointer (some ⟨a.1, 0, none⟩), .int .i64 d]) (cap := []) (A := [obj a.1 160 [.slice a.2.1 bc.1.length a.2.2, .int .i64 bc.2], Row 5 1 a.2.1 bc.1.length a.2.2 (ax bc.1)]) (rst := [obj z 102 [.int .i64 d, .int .i64 l, .int .i64 m, .int .i64 n, .int .i64 o, .int .i64 p, .int .i64 q, .int .i64 h, .int .i64 i, .int .i64 j, .slice g c.length e], F]) O O O O O O call84 (.sel 0 O (.sel 0 O (.sel 0 O (.sel 0 O (.nil _))))) (bl.calls _ _ k a.1 a.2.1 a.2.2 bc.1 bc.2 d ) ec) O O O ?_
 intro a7
 refine ae (aa ?_)
 refine bE (S := List UInt8 × Int) (Option Addr × Nat) (fun s y => [(1, .pointer (some ⟨z, 0, none⟩)), (3, .pointer (some ⟨a.1, 0, none⟩))]) (fun s y => [obj a.1 160 [.slice y.1 s.1.length y.2, .int .i64 s.2], obj z 102 [.int .i64 d, .int .i64 l, .int .i64 m, .int .i64 n, .int .i64 o, .int .i64 p, .int .i64 q, .int .i64 h, .int .i64 i, .int .i64 j, .slice g c.length e], Row 5 1 y.1 s.1.length y.2 (ax s.1), F]) ?_ ?_
 refine sr ?_
 refine vq (ar O O underlying102 O O sizeOf3 O) O ?_
 refine vq (ag O O isAgg3 (.obj 2 O O)) O ?_
 refine vq (bI O O O) O (ae (aa ?_))
 refine bf O (fun el => ?_) (fun em => ?_)
 refine aJ ?_
 refine vm O O ?_
 refine vq (ar O O underlying102 O O sizeOf3 O) O ?_
 refine vq (ag O O isAgg3 (.obj 2 O O)) O ?_
 refine aw (fun b0 b9 => ?_)
 refine ah (av (vs := [.pointer (some ⟨a.1, 0, none⟩), .int .i64 l]) (cap := []) (A := [obj a.1 160 [.slice a7.1 a6.1.length a7.2, .int .i64 a6.2], Row 5 1 a7.1 a6.1.length a7.2 (ax a6.1)]) (rst := [obj z 102 [.int .i64 d, .int .i64 l, .int .i64 m, .int .i64 n, .int .i64 o, .int .i64 p, .int .i64 q, .int .i64 h, .int .i64 i, .int .i64 j, .slice g c.length e], F]) O O O O O O call84 (.sel 0 O (.sel 0 O (.sel 0 O (.sel 0 O (.nil _))))) (bl.calls _ _ k a.1 a7.1 a7.2 a6.1 a6.2 l ) b9) O O O ?_
 intro b1
 refine ae ?_
 exact aF (s := (b0.1, b0.2)) (b1.1, b1.2) ⟨O, O, trivial⟩ (.sel 0 O (.sel 1 O (.sel 0 O (.sel 0 O (.nil _)))))
 refine aC ?_
 exact aF (s := (a6.1, a6.2)) (a7.1, a7.2) ⟨O, O, trivial⟩ (.sel 0 O (.sel 1 O (.sel 0 O (.sel 0 O (.nil _)))))
 intro a8 a9
 refine bE (S := List UInt8 × Int) (Option Addr × Nat) (fun s y => [(1, .pointer (some ⟨z, 0, none⟩)), (3, .pointer (some ⟨a.1, 0, none⟩))]) (fun s y => [obj a.1 160 [.slice y.1 s.1.length y.2, .int .i64 s.2], obj z 102 [.int .i64 d, .int .i64 l, .int .i64 m, .int .i64 n, .int .i64 o, .int .i64 p, .int .i64 q, .int .i64 h, .int .i64 i, .int .i64 j, .slice g c.length e], Row 5 1 y.1 s.1.length y.2 (ax s.1), F]) ?_ ?_
 refine sr ?_
 refine vq (ar O O underlying102 O O sizeOf3 O) O ?_
 refine vq (ag O O isAgg3 (.obj 1 O O)) O ?_
 refine vq (bI O O O) O ?_
 refine vm O O ?_
 refine au (b := decide (d = (0 : Int))) (fun ed => RQ.sub (E' := [(1, .pointer (some ⟨z, 0, none⟩))]) ⟨O, trivial⟩ (ar O O underlying102 O O sizeOf3 O)) O O O O O ?_
 refine au (b := decide (d = (0 : Int))) (fun cd => RQ.sub (E' := [(25, .pointer (some ⟨z, 0, none⟩))]) ⟨aE O cd, trivial⟩ (ag O O isAgg3 (.obj 1 O O))) O O O O O ?_
 refine au (b := decide (d = (0 : Int))) (fun ch => RQ.sub (E' := [(26, .int .i64 d)]) ⟨aE O ch, trivial⟩ (bI O O O)) O O O O O ?_
 refine vq (ex O O O) O (ae (aa ?_))
 refine aY O (fun er => ?_) (fun es => ?_)
 refine sr ?_
 refine vm O O ?_
 refine vq (ar O O underlying102 O O sizeOf43 O) O ?_
 refine vq (ar O O underlying43 O O sizeOf3 O) O ?_
 refine vq (ag O O isAgg3 (.obj 1 O O)) O ?_
 refine aw (fun a0 cs => ?_)
 refine ah (av (vs := [.pointer (some ⟨a.1, 0, none⟩), .int .i64 m]) (cap := []) (A := [obj a.1 160 [.slice a9.1 a8.1.length a9.2, .int .i64 a8.2], Row 5 1 a9.1 a8.1.length a9.2 (ax a8.1)]) (rst := [obj z 102 [.int .i64 d, .int .i64 l, .int .i64 m, .int .i64 n, .int .i64 o, .int .i64 p, .int .i64 q, .int .i64 h, .int .i64 i, .int .i64 j, .slice g c.length e], F]) O O O O O O call84 (.sel 0 O (.sel 1 O (.sel 0 O (.sel 0 O (.nil _))))) (bl.calls _ _ k a.1 a9.1 a9.2 a8.1 a8.2 m ) cs) O O O ?_
 intro a1
 refine nx ?_
 refine vm O O ?_
 refine vq (ar O O underlying102 O O sizeOf43 O) O ?_
 refine vq (ar O O underlying43 O O sizeOf3 O) O ?_
 refine vq (ag O O isAgg3 (.obj 2 O O)) O ?_
 refine aw (fun a2 c0 => ?_)
 refine ah (av (vs := [.pointer (some ⟨a.1, 0, none⟩), .int .i64 n]) (cap := []) (A := [obj a.1 160 [.slice a1.1 a0.1.length a1.2, .int .i64 a0.2], Row 5 1 a1.1 a0.1.length a1.2 (ax a0.1)]) (rst := [obj z 102 [.int .i64 d, .int .i64 l, .int .i64 m, .int .i64 n, .int .i64 o, .int .i64 p, .int .i64 q, .int .i64 h, .int .i64 i, .int .i64 j, .slice g c.length e], F]) O O O O O O call84 (.sel 0 O (.sel 0 O (.sel 0 O (.sel 0 O (.nil _))))) (bl.calls _ _ k a.1 a1.1 a1.2 a0.1 a0.2 n ) c0) O O O ?_
 intro a3
 refine ny ?_
 refine vm O O ?_
 refine vq (ar O O underlying102 O O sizeOf43 O) O ?_
 refine vq (ar O O underlying43 O O sizeOf3 O) O ?_
 refine vq (ag O O isAgg3 (.obj 2 O O)) O ?_
 refine aw (fun b2 c1 => ?_)
 refine ah (av (vs := [.pointer (some ⟨a.1, 0, none⟩), .int .i64 o]) (cap := []) (A := [obj a.1 160 [.slice a3.1 a2.1.length a3.2, .int .i64 a2.2], Row 5 1 a3.1 a2.1.length a3.2 (ax a2.1)]) (rst := [obj z 102 [.int .i64 d, .int .i64 l, .int .i64 m, .int .i64 n, .int .i64 o, .int .i64 p, .int .i64 q, .int .i64 h, .int .i64 i, .int .i64 j, .slice g c.length e], F]) O O O O O O call84 (.sel 0 O (.sel 0 O (.sel 0 O (.sel 0 O (.nil _))))) (bl.calls _ _ k a.1 a3.1 a3.2 a2.1 a2.2 o ) c1) O O O ?_
 intro b3
 refine ae ?_
 exact aF (s := (b2.1, b2.2)) (b3.1, b3.2) ⟨O, O, trivial⟩ (.sel 0 O (.sel 1 O (.sel 0 O (.sel 0 O (.nil _)))))
 refine aC ?_
 exact aF (s := (a8.1, a8.2)) (a9.1, a9.2) ⟨O, O, trivial⟩ (.sel 0 O (.sel 0 O (.sel 0 O (.sel 0 O (.nil _)))))
 intro af al
 refine bE (S := List UInt8 × Int) (Option Addr × Nat) (fun s y => [(1, .pointer (some ⟨z, 0, none⟩)), (3, .pointer (some ⟨a.1, 0, none⟩))]) (fun s y => [obj a.1 160 [.slice y.1 s.1.length y.2, .int .i64 s.2], obj z 102 [.int .i64 d, .int .i64 l, .int .i64 m, .int .i64 n, .int .i64 o, .int .i64 p, .int .i64 q, .int .i64 h, .int .i64 i, .int .i64 j, .slice g c.length e], Row 5 1 y.1 s.1.length y.2 (ax s.1), F]) ?_ ?_
 refine sr ?_
 refine vq (ar O O underlying102 O O sizeOf3 O) O ?_
 refine vq (ag O O isAgg3 (.obj 1 O O)) O ?_
 refine vq (bI O O O) O ?_
 refine vm O O ?_
 refine au (b := decide (d = (0 : Int))) (fun ee => RQ.sub (E' := [(1, .pointer (some ⟨z, 0, none⟩))]) ⟨O, trivial⟩ (ar O O underlying102 O O sizeOf3 O)) O O O O O ?_
 refine au (b := decide (d = (0 : Int))) (fun c2 => RQ.sub (E' := [(48, .pointer (some ⟨z, 0, none⟩))]) ⟨aE O c2, trivial⟩ (ag O O isAgg3 (.obj 1 O O))) O O O O O ?_
 refine au (b := decide (d = (0 : Int))) (fun c3 => RQ.sub (E' := [(49, .int .i64 d)]) ⟨aE O c3, trivial⟩ (bI O O O)) O O O O O ?_
 refine vq (ex O O O) O (ae (aa ?_))
 refine aY O (fun et => ?_) (fun e0 => ?_)
 refine sr ?_
 refine vm O O ?_
 refine vq (ar O O underlying102 O O sizeOf3 O) O ?_
 refine vq (ag O O isAgg3 (.obj 1 O O)) O ?_
 refine aw (fun a4 c4 => ?_)
 refine ah (av (vs := [.pointer (some ⟨a.1, 0, none⟩), .int .i64 p]) (cap := []) (A := [obj a.1 160 [.slice al.1 af.1.length al.2, .int .i64 af.2], Row 5 1 al.1 af.1.length al.2 (ax af.1)]) (rst := [obj z 102 [.int .i64 d, .int .i64 l, .int .i64 m, .int .i64 n, .int .i64 o, .int .i64 p, .int .i64 q, .int .i64 h, .int .i64 i, .int .i64 j, .slice g c.length e], F]) O O O O O O call84 (.sel 0 O (.sel 1 O (.sel 0 O (.sel 0 O (.nil _))))) (bl.calls _ _ k a.1 al.1 al.2 af.1 af.2 p ) c4) O O O ?_
 intro a5
 refine ny ?_
 refine vm O O ?_
 refine vq (ar O O underlying102 O O sizeOf3 O) O ?_
 refine vq (ag O O isAgg3 (.obj 2 O O)) O ?_
 refine aw (fun b4 c5 => ?_)
 refine ah (av (vs := [.pointer (some ⟨a.1, 0, none⟩), .int .i64 q]) (cap := []) (A := [obj a.1 160 [.slice a5.1 a4.1.length a5.2, .int .i64 a4.2], Row 5 1 a5.1 a4.1.length a5.2 (ax a4.1)]) (rst := [obj z 102 [.int .i64 d, .int .i64 l, .int .i64 m, .int .i64 n, .int .i64 o, .int .i64 p, .int .i64 q, .int .i64 h, .int .i64 i, .int .i64 j, .slice g c.length e], F]) O O O O O O call84 (.sel 0 O (.sel 0 O (.sel 0 O (.sel 0 O (.nil _))))) (bl.calls _ _ k a.1 a5.1 a5.2 a4.1 a4.2 q ) c5) O O O ?_
 intro b5
 refine ae ?_
 exact aF (s := (b4.1, b4.2)) (b5.1, b5.2) ⟨O, O, trivial⟩ (.sel 0 O (.sel 1 O (.sel 0 O (.sel 0 O (.nil _)))))
 refine aC ?_
 exact aF (s := (af.1, af.2)) (al.1, al.2) ⟨O, O, trivial⟩ (.sel 0 O (.sel 0 O (.sel 0 O (.sel 0 O (.nil _)))))
 intro w x
 refine bE (S := List UInt8 × Int) (Option Addr × Nat) (fun s y => [(3, .pointer (some ⟨a.1, 0, none⟩))]) (fun s y => [obj a.1 160 [.slice y.1 s.1.length y.2, .int .i64 s.2], Row 5 1 y.1 s.1.length y.2 (ax s.1), F]) ?_ ?_
 refine sr ?_
 refine vq (ar O O underlying102 O O sizeOf3 O) O ?_
 refine vq (ag O O isAgg3 (.obj 1 O O)) O ?_
 refine vq (bI O O O) O (ae (aa ?_))
 refine bf O (fun e1 => ?_) (fun e2 => ?_)
 refine sr ?_
 refine vq (cx (v := .agg #[]) O O (fun _ => by kernel_rfl)) O ?_
 refine vq (ar O O underlying102 O O sizeOf35 O) O ?_
 refine vq (cf (vs := [.int .i64 h, .int .i64 i, .int .i64 j, .slice g c.length e]) O O isAgg35 sizeOf35 O (cM 1 O (cz O))) O ?_
 refine aw (fun an c6 => ?_)
 refine ah (av (vs := [.agg #[], .agg #[.int .i64 h, .int .i64 i, .int .i64 j, .slice g c.length e]]) (cap := []) (A := []) (rst := [obj a.1 160 [.slice x.1 w.1.length x.2, .int .i64 w.2], obj z 102 [.int .i64 d, .int .i64 l, .int .i64 m, .int .i64 n, .int .i64 o, .int .i64 p, .int .i64 q, .int .i64 h, .int .i64 i, .int .i64 j, .slice g c.length e], Row 5 1 x.1 w.1.length x.2 (ax w.1), F]) O O O O O O call85 (.sel 0 O (.sel 0 O (.sel 0 O (.sel 0 O (.nil _))))) (dN.calls _ _ k h i j g e c (b8.lend 3 O) bs bt) c6) O O O ?_
 intro az
 refine vm O O ?_
 refine vq (bu O O O) O ?_
 refine vq (bu O O O) O ?_
 refine va O O ?_
 refine va O O (nx ?_)
 refine vm O O ?_
 refine aw (fun e3 c7 => ?_)
 refine ah (av (vs := [.int .i64 an.2]) (cap := []) (A := []) (rst := [Row 5 1 az.1 an.1.length az.2 (ax an.1), obj a.1 160 [.slice x.1 w.1.length x.2, .int .i64 w.2], obj z 102 [.int .i64 d, .int .i64 l, .int .i64 m, .int .i64 n, .int .i64 o, .int .i64 p, .int .i64 q, .int .i64 h, .int .i64 i, .int .i64 j, .slice g c.length e], Row 5 1 x.1 w.1.length x.2 (ax w.1), F]) O O O O O O call43 (.sel 0 O (.sel 0 O (.sel 0 O (.sel 0 O (.sel 0 O (.nil _)))))) (bw.calls _ _ an.2 ) c7) O O O ?_
 intro e4
 refine ny ?_
 refine vm O O ?_
 refine vm O O ?_
 refine aw (fun b6 c8 => ?_)
 refine bd 0 O (fun c9 dl ds ef => ?_)
 refine ah (av (vs := [.pointer (some ⟨a.1, 0, none⟩), .slice az.1 an.1.length az.2, .int .i64 8192]) (cap := []) (A := [obj a.1 160 [.slice x.1 w.1.length x.2, .int .i64 w.2], Row 5 1 x.1 w.1.length x.2 (ax w.1)]) (rst := [Row 5 1 az.1 an.1.length az.2 (ax an.1), obj z 102 [.int .i64 d, .int .i64 l, .int .i64 m, .int .i64 n, .int .i64 o, .int .i64 p, .int .i64 q, .int .i64 h, .int .i64 i, .int .i64 j, .slice g c.length e], F]) O O O O O O call86 (.sel 1 O (.sel 2 O (.sel 0 O (.sel 0 O (.sel 0 O (.nil _)))))) (cY.calls _ _ k a.1 x.1 x.2 w.1 w.2 az.1 az.2 an.1 (8192 : Int) (c9.lend 0 O) dl ds) c8) O O O ?_
 intro b7
 refine ae ?_
 exact aF (s := (b6.1, b6.2)) (b7.1, b7.2) ⟨O, trivial⟩ (.sel 0 O (.sel 0 O (.sel 2 O (.nil _))))
 refine aC ?_
 exact aF (s := (w.1, w.2)) (x.1, x.2) ⟨O, trivial⟩ (.sel 0 O (.sel 1 O (.sel 1 O (.nil _))))
 intro t u
 refine sr ?_
 refine vm O O ?_
 refine aw (fun ab d1 => ?_)
 refine bd 1 O (fun d2 d3 d4 ei => ?_)
 refine ah (av (vs := [.pointer (some ⟨a.1, 0, none⟩)]) (cap := []) (A := [obj a.1 160 [.slice u.1 t.1.length u.2, .int .i64 t.2]]) (rst := [Row 5 1 u.1 t.1.length u.2 (ax t.1), F]) O O O O O O call87 (.sel 0 O (.sel 0 O (.sel 0 O (.nil _)))) (cW.calls _ _ a.1 u.1 u.2 t.1 t.2 (d2.lend 0 O) d3 d4) d1) O O O ?_
 intro ad
 refine vm O O ?_
 refine vq (bu O O O) O ?_
 refine vq (bu O O O) O ?_
 refine va O O ?_
 refine va O O (nx ?_)
 refine vm O O ?_
 refine aw (fun e5 d5 => ?_)
 refine ah (av (vs := [.int .i64 ab.2]) (cap := []) (A := []) (rst := [Row 5 1 ad.1 ab.1.length ad.2 (ax ab.1), obj a.1 160 [.slice u.1 t.1.length u.2, .int .i64 t.2], Row 5 1 u.1 t.1.length u.2 (ax t.1), F]) O O O O O O call43 (.sel 0 O (.sel 0 O (.sel 0 O (.sel 0 O (.nil _))))) (bw.calls _ _ ab.2 ) d5) O O O ?_
 intro e6
 refine nx ?_
 refine vm O O ?_
 refine aw (fun be d6 => ?_)
 refine bd 0 O (fun d7 d8 d9 ek => ?_)
 refine ah (av (vs := [.slice ad.1 ab.1.length ad.2]) (cap := []) (A := []) (rst := [Row 5 1 ad.1 ab.1.length ad.2 (ax ab.1), obj a.1 160 [.slice u.1 t.1.length u.2, .int .i64 t.2], Row 5 1 u.1 t.1.length u.2 (ax t.1), F]) O O O O O O call88 (.sel 0 O (.sel 0 O (.sel 0 O (.sel 0 O (.nil _))))) (fP.calls _ _ k ad.1 ad.2 ab.1 (d7.lend 0 O) d8 d9) d6) O O O ?_
 intro br
 refine vm O O ?_
 refine vq (bu O O O) O ?_
 refine vq (bu O O O) O ?_
 refine va O O ?_
 refine va O O (nx ?_)
 refine vm O O ?_
 refine aw (fun e7 ea => ?_)
 refine ah (av (vs := [.int .i64 be.2]) (cap := []) (A := []) (rst := [Row 5 1 br.1 be.1.length br.2 (ax be.1), Row 5 1 ad.1 ab.1.length ad.2 (ax ab.1), obj a.1 160 [.slice u.1 t.1.length u.2, .int .i64 t.2], Row 5 1 u.1 t.1.length u.2 (ax t.1), F]) O O O O O O call43 (.sel 0 O (.sel 0 O (.sel 0 O (.sel 0 O (.sel 0 O (.nil _)))))) (bw.calls _ _ be.2 ) ea) O O O ?_
 intro e8
 refine nx ?_
 refine vm O O ?_
 refine va O O (ae (aa (aA ?_)))
 exact aD (br.1, br.2) O O O (.sel 0 O (.sel 3 O (.nil _)))

def eF.f (b : List ((List UInt8) × (List UInt8 × Int))) (e : List UInt8) (g : Int) (h : Bool) : Option (Int) := ((kz (fun (a : Int) (i : List UInt8) (c : List UInt8 × Int) => some (IntKind.i64.wrap (a + (c.1.length : Int)))) 0 b).bind fun a => (some a)).bind fun d => (some d)
theorem eF.calls (W : World) (F : HA) (b0 : Nat) (b : Nat) (a : Kps) (k : List ((List UInt8) × (List UInt8 × Int))) (c : List UInt8) (d : Int) (g : Bool)  :
    Fn Tryz.prog W 59 [.pointer (some ⟨b0, 0, none⟩)] [obj b0 97 [.map (some b), str c, .int .i64 d, .bool g], am (aj b ao ak a) ai a k] F (eF.f k c d g) (fun (r : Int) (y : Unit) => .int .i64 r) (fun r y => [obj b0 97 [.map (some b), str c, .int .i64 d, .bool g], am (aj b ao ak a) ai a k]) := by
 unfold eF.f
 refine aN 23 Tryz.func59 O Tryz.ntmps59 O ?_
 refine sr ?_
 refine va O O (nx ?_)
 refine va O O (ae (aa ?_))
 refine bE (S := Int) (Unit) (fun s y => [(3, .int .i64 s)]) (fun s y => [obj b0 97 [.map (some b), str c, .int .i64 d, .bool g], am (aj b ao ak a) ai a k, F]) ?_ ?_
 refine sr ?_
 refine vm O O ?_
 refine vn O O ?_
 refine vq (ar O O underlying97 O O sizeOf95 O) O ?_
 refine vq (ag O O isAgg95 (.obj 0 O O)) O ?_
 refine ah (rn 1 O O underlying95 O) O O O ?_
 intro m
 refine ae (aa ?_)
 refine aT ?_
 refine qA (S := Int) (Y := Unit) (o2 := fun i => some i) (fun (i : Int) (l : List UInt8) (h : List UInt8 × Int) => some (IntKind.i64.wrap (i + (h.1.length : Int)))) (fun s y => [(3, .int .i64 s), (10, .pointer (some ⟨m, 0, none⟩))]) (fun s y => [obj b0 97 [.map (some b), str c, .int .i64 d, .bool g], F]) 0 () (fun x y e => by simpa [str] using e) (fun _ _ => O) O O (fun _ _ _ _ => ⟨O, O, trivial⟩) ⟨O, O, trivial⟩ ((.sel 1 O (.sel 0 O (.sel 0 O (.nil _))))) ?_ ?_
 intro n o i t l h q
 refine df (o' := some (IntKind.i64.wrap (i + (h.1.length : Int)))) O ?_
 refine eD (H' := [am (itJ b m ao a o l) ai a n, obj b0 97 [.map (some b), str c, .int .i64 d, .bool g], F]) (Ent.refl _) ?_
 refine aT ?_
 refine sr ?_
 refine vq (tg O O (um 0 O)) O ?_
 refine vq (bu O O O) O ?_
 refine va O O (ae (aa ?_))
 refine gV (v := h) 0 O q (fun j => ?_)
 refine eD (H' := [obj (cw a l) 109 [.slice j.1 h.1.length j.2, .int .i64 h.2], Row 5 1 j.1 h.1.length j.2 (ax h.1), gO (itJ b m ao a o l) ai a n l, obj b0 97 [.map (some b), str c, .int .i64 d, .bool g], F]) (Ent.refl _) ?_
 refine aJ ?_
 refine vm O O ?_
 refine vm O O ?_
 refine vn O O ?_
 refine vq (ar O O underlying109 O O sizeOf33 O) O ?_
 refine vq (ag O O isAgg33 (.obj 0 O O)) O ?_
 refine vq (bD O O O underlying33) O ?_
 refine vq (cb O O O) O ?_
 refine va O O (ae (bv ?_))
 exact aF (s := IntKind.i64.wrap (i + (h.1.length : Int))) () ⟨O, O, trivial⟩ ((.foldF0 (x := l) (p := (cw a l)) (v := h) (j.1, j.2) O q (.sel 2 O (.sel 0 O (.sel 0 O (.sel 0 O (.sel 0 O (.nil _))))))))
 intro i t
 refine tF (o' := some i) O ?_
 refine mx (H' := [am (aj b ao ak a) ai a k, obj b0 97 [.map (some b), str c, .int .i64 d, .bool g], F]) (Ent.refl _) ?_
 exact aF (s := i) () ⟨O, trivial⟩ (.sel 1 O (.sel 0 O (.sel 0 O (.nil _))))
 intro u w
 refine sr ?_
 refine vm O O ?_
 refine va O O (ae (aa (aA ?_)))
 exact aD () O O O (.sel 0 O (.sel 0 O (.sel 0 O (.nil _))))

def dA.f (a : List ((List UInt8) × (List UInt8 × Int))) (d : List UInt8) (e : Int) (b : Bool) (x1 : List UInt8) (x2 : List UInt8) : Option (Int × (List ((List UInt8) × (List UInt8 × Int))) × List UInt8 × Int × Bool) := if (aR a x1).isSome = true then (if b = true then (some (11, a, d, e, b)) else ((eF.f a d e b).bind fun h => (if IntKind.i64.wrap (16777216 - h) < (x2.length : Int) then (some (10, a, d, e, b)) else (((bF.f a d e b).bind fun c => (if c.1 = true then (if 0 ≤ (0 : Int) ∧ (0 : Int) ≤ IntKind.i64.wrap (Int.tdiv (x2.length : Int) 2) ∧ IntKind.i64.wrap (Int.tdiv (x2.length : Int) 2) ≤ (x2.length : Int) then (some (cut x2 (0 : Int) (IntKind.i64.wrap (Int.tdiv (x2.length : Int) 2)), 11, c.2.1, c.2.2.1, c.2.2.2)) else none) else (some (x2, 0, c.2.1, c.2.2.1, c.2.2.2)))).bind fun g => (if ((((aR a x1).getD (([] : List UInt8), (0 : Int))).1).length + g.1.length) * 1 ≤ 140737488355328 then (some (g.2.1, aV a x1 ((((aR a x1).getD (([] : List UInt8), (0 : Int))).1) ++ g.1, ((aR a x1).getD (([] : List UInt8), (0 : Int))).2), x1, g.2.2.2.1, g.2.2.2.2)) else none))))) else (if b = true then (some (11, a, d, e, b)) else (some (8, a, d, e, b)))
theorem dA.calls (W : World) (F : HA) (b0 : Nat) (b : Nat) (a : Kps) (c : List ((List UInt8) × (List UInt8 × Int))) (d : List UInt8) (e : Int) (g : Bool) (x1 : List UInt8) (a2 : Option Addr) (c2 : Nat) (x2 : List UInt8) (h2 : Rd F a2 (ax x2)) (n : x2.length ≤ c2) (af : c2 ≤ maxLen) :
    Fn Tryz.prog W 22 [.pointer (some ⟨b0, 0, none⟩), str x1, .slice a2 x2.length c2] [obj b0 97 [.map (some b), str d, .int .i64 e, .bool g], am (aj b ao ak a) ai a c] F (dA.f c d e g x1 x2) (fun (r : Int × (List ((List UInt8) × (List UInt8 × Int))) × List UInt8 × Int × Bool) (y : Nat × Kps) => .int .i64 r.1) (fun r y => [obj b0 97 [.map (some y.1), str r.2.2.1, .int .i64 r.2.2.2.1, .bool r.2.2.2.2], am (aj y.1 ao ak y.2) ai y.2 r.2.1]) := by
 unfold dA.f
 refine aN 51 Tryz.func22 O Tryz.ntmps22 O ?_
 refine sr ?_
 refine va O O (ae (aa (ay ?_)))
 refine fd (fun i => ?_) (fun i => ?_)
 refine aJ ?_
 refine vm O O ?_
 refine vn O O ?_
 refine vq (ar O O underlying97 O O sizeOf95 O) O ?_
 refine vq (ag O O isAgg95 (.obj 0 O O)) O ?_
 refine vm O O ?_
 refine vq ((jk (ek := ao) x1 (gv 1 O) i O O O underlying95 iM : RQ _ _ _ _ (.pointer (some ⟨(cw a x1), 0, none⟩)))) O ?_
 refine va O O (ae (aa (ay ?_)))
 refine aT ?_
 refine sr ?_
 refine vm O O ?_
 refine vn O O ?_
 refine vq (ar O O underlying97 O O sizeOf4 O) O ?_
 refine vq (ag O O isAgg4 (.obj 0 O O)) O ?_
 refine va O O (ae (aa ?_))
 refine aY O (fun a7 => ?_) (fun a8 => ?_)
 refine sr ?_
 refine va O O (ae (aa (aA ?_)))
 refine bi ?_
 refine aK ?_
 exact aD (b, a) O O O (.sel 0 O (.sel 0 O (.sel 0 O (.nil _))))
 refine sr ?_
 refine vm O O ?_
 refine vq (jr O O O underlying107) O ?_
 refine va O O (ae (aa ?_))
 refine fx O ?_
 refine sr ?_
 refine vm O O ?_
 refine vq (bD O O O underlying33) O ?_
 refine vm O O ?_
 refine aw (fun a9 al => ?_)
 refine ah (av (vs := [.pointer (some ⟨b0, 0, none⟩)]) (cap := []) (A := [obj b0 97 [.map (some b), str d, .int .i64 e, .bool g], am (aj b ao ak a) ai a c]) (rst := [F]) O O O O O O call59 (.sel 0 O (.sel 0 O (.sel 0 O (.nil _)))) (eF.calls _ _ b0 b a c d e g ) al) O O O ?_
 intro bc
 refine vq (dc O O O) O ?_
 refine vq (cI O O O) O ?_
 refine va O O (ae (aa ?_))
 refine bf O (fun be => ?_) (fun br => ?_)
 refine sr ?_
 refine va O O (ae (aa (aA ?_)))
 refine bi ?_
 refine aK ?_
 exact aD (b, a) O O O (.sel 0 O (.sel 0 O (.sel 0 O (.nil _))))
 refine aC ?_
 refine bv (aa (sr ?_))
 refine va O O (ae (aa ?_))
 refine bE (S := List UInt8 × Int × List UInt8 × Int × Bool) (Option Addr × Nat) (fun s y => [(0, .pointer (some ⟨b0, 0, none⟩)), (1, str x1), (2, .slice y.1 s.1.length y.2), (7, .pointer (some ⟨(cw a x1), 0, none⟩)), (8, .int .i64 s.2.1)]) (fun s y => [pr (Rd F y.1 (ax s.1) ∧ s.1.length ≤ y.2 ∧ y.2 ≤ maxLen), obj b0 97 [.map (some b), str s.2.2.1, .int .i64 s.2.2.2.1, .bool s.2.2.2.2], am (aj b ao ak a) ai a c, F]) ?_ ?_
 refine sr ?_
 refine vm O O ?_
 refine aw (fun h q => ?_)
 refine ah (av (vs := [.pointer (some ⟨b0, 0, none⟩)]) (cap := []) (A := [obj b0 97 [.map (some b), str d, .int .i64 e, .bool g], am (aj b ao ak a) ai a c]) (rst := [F]) O O O O O O call58 (.sel 0 O (.sel 0 O (.sel 0 O (.nil _)))) (bF.calls _ _ b0 b a c d e g ) q) O O O ?_
 intro a0
 refine ae (aa ?_)
 refine aY O (fun a1 => ?_) (fun a3 => ?_)
 refine aJ ?_
 refine vm O O ?_
 refine vm O O ?_
 refine vq (bD O O O underlying33) O ?_
 refine vq (ud O O O (by decide)) O ?_
 refine bh (fun k => ?_)
 obtain ⟨an, az, t, u, w, z⟩ := gu (lo := (0 : Int)) (hi := IntKind.i64.wrap (Int.tdiv (x2.length : Int) 2)) h2 n k
 refine vq (ga (l := x2) (lo' := (0 : Int)) (hi' := IntKind.i64.wrap (Int.tdiv (x2.length : Int) 2)) O O O O underlying33 sizeOf5 (.inr ⟨_, O⟩) (.inl ⟨O, O⟩) k n t) O ?_
 refine va O O ?_
 refine va O O (ae ?_)
 exact aF (s := (cut x2 (0 : Int) (IntKind.i64.wrap (Int.tdiv (x2.length : Int) 2)), 11, h.2.1, h.2.2.1, h.2.2.2)) (an, az) ⟨O, O, O, O, O, trivial⟩ (.pr_in ⟨u, w, (Nat.le_trans z af)⟩ (.sel 0 O (.sel 0 O (.sel 0 O (.nil _)))))
 refine aC ?_
 exact aF (s := (x2, 0, h.2.1, h.2.2.1, h.2.2.2)) (a2, c2) ⟨O, O, O, O, O, trivial⟩ (.pr_in ⟨h2, n, af⟩ (.sel 0 O (.sel 0 O (.sel 0 O (.nil _)))))
 intro m a4
 refine lL (fun ab => ?_)
 refine ay ?_
 refine gV (v := ((aR c x1).getD (([] : List UInt8), (0 : Int)))) 1 O (eU i) (fun j => ?_)
 refine eD (H' := [obj (cw a x1) 109 [.slice j.1 ((((aR c x1).getD (([] : List UInt8), (0 : Int))).1).length) j.2, .int .i64 (((aR c x1).getD (([] : List UInt8), (0 : Int))).2)], Row 5 1 j.1 (((aR c x1).getD (([] : List UInt8), (0 : Int))).1).length j.2 (ax (((aR c x1).getD (([] : List UInt8), (0 : Int))).1)), gO (aj b ao ak a) ai a c x1, obj b0 97 [.map (some b), str m.2.2.1, .int .i64 m.2.2.2.1, .bool m.2.2.2.2], F]) (Ent.refl _) ?_
 refine aJ ?_
 refine vm O O ?_
 refine vm O O ?_
 refine vn O O ?_
 refine vq (ar O O underlying109 O O sizeOf33 O) O ?_
 refine vq (ag O O isAgg33 (.obj 0 O O)) O ?_
 refine vm O O ?_
 refine bh (fun ad => ?_)
 refine ah (eG 1 O O O underlying33 fV O (ab.1.rds 3 O) ad) O O O ?_
 intro o
 refine vn O O ?_
 refine vq (ar O O underlying109 O O sizeOf33 O) O ?_
 refine aU (aH 0 O O O sizeOf33 O O (aM (by rfl)) O O) O O ?_
 intro _
 refine nx ?_
 refine vm O O ?_
 refine vm O O ?_
 refine vn O O ?_
 refine vq (ar O O underlying97 O O sizeOf9 O) O ?_
 refine aU (aH 3 O O O sizeOf9 O O (aM (by rfl)) O O) O O ?_
 intro _
 refine nx ?_
 refine vm O O ?_
 refine va O O (ae (aa (aA ?_)))
 exact aD (b, a) O O O (.sel 3 O (.foldF (x := x1) (p := (cw a x1)) (v := ((((aR c x1).getD (([] : List UInt8), (0 : Int))).1) ++ m.1, ((aR c x1).getD (([] : List UInt8), (0 : Int))).2)) (o.1, o.2) O (.sel 2 O (.sel 0 O (.sel 0 O (.sel 0 O (.nil _)))))))
 refine aJ ?_
 refine vm O O ?_
 refine vn O O ?_
 refine vq (ar O O underlying97 O O sizeOf95 O) O ?_
 refine vq (ag O O isAgg95 (.obj 0 O O)) O ?_
 refine vm O O ?_
 refine vq (jl (ek := ao) x1 (gv 1 O) (gW i) O O O underlying95 iM zeroValue107) O ?_
 refine va O O (ae (aa (ay ?_)))
 refine aT ?_
 refine sr ?_
 refine vm O O ?_
 refine vn O O ?_
 refine vq (ar O O underlying97 O O sizeOf4 O) O ?_
 refine vq (ag O O isAgg4 (.obj 0 O O)) O ?_
 refine va O O (ae (aa ?_))
 refine aY O (fun a5 => ?_) (fun a6 => ?_)
 refine sr ?_
 refine va O O (ae (aa (aA ?_)))
 refine bi ?_
 refine aK ?_
 exact aD (b, a) O O O (.sel 0 O (.sel 0 O (.sel 0 O (.nil _))))
 refine sr ?_
 refine vm O O ?_
 refine vq (iE O O O underlying107) O ?_
 refine va O O (ae (aa ?_))
 refine eM O ?_
 refine sr ?_
 refine va O O (ae (aa (aA ?_)))
 refine bi ?_
 refine aK ?_
 exact aD (b, a) O O O (.sel 0 O (.sel 0 O (.sel 0 O (.nil _))))

def cK.f (a : List ((List UInt8) × (List UInt8 × Int))) (d : List UInt8) (e : Int) (b : Bool) (x1 : List UInt8) : Option (Int × (List ((List UInt8) × (List UInt8 × Int))) × List UInt8 × Int × Bool) := if (aR a x1).isSome = true then (if b = true then (some (11, a, d, e, b)) else ((bF.f a d e b).bind fun c => (if c.1 = true then (some (11, a, c.2.1, c.2.2.1, c.2.2.2)) else (some (0, aV a x1 (((aR a x1).getD (([] : List UInt8), (0 : Int))).1, ((((aR a x1).getD (([] : List UInt8), (0 : Int))).1).length : Int)), c.2.1, c.2.2.1, c.2.2.2))))) else (if b = true then (some (11, a, d, e, b)) else (some (8, a, d, e, b)))
theorem cK.calls (W : World) (F : HA) (b0 : Nat) (b : Nat) (a : Kps) (c : List ((List UInt8) × (List UInt8 × Int))) (e : List UInt8) (g : Int) (h : Bool) (x1 : List UInt8)  :
    Fn Tryz.prog W 46 [.pointer (some ⟨b0, 0, none⟩), str x1] [obj b0 97 [.map (some b), str e, .int .i64 g, .bool h], am (aj b ao ak a) ai a c] F (cK.f c e g h x1) (fun (r : Int × (List ((List UInt8) × (List UInt8 × Int))) × List UInt8 × Int × Bool) (y : Nat × Kps) => .int .i64 r.1) (fun r y => [obj b0 97 [.map (some y.1), str r.2.2.1, .int .i64 r.2.2.2.1, .bool r.2.2.2.2], am (aj y.1 ao ak y.2) ai y.2 r.2.1]) := by
 unfold cK.f
 refine aN 31 Tryz.func46 O Tryz.ntmps46 O ?_
 refine sr ?_
 refine va O O (ae (aa (ay ?_)))
 refine fd (fun i => ?_) (fun i => ?_)
 refine aJ ?_
 refine vm O O ?_
 refine vn O O ?_
 refine vq (ar O O underlying97 O O sizeOf95 O) O ?_
 refine vq (ag O O isAgg95 (.obj 0 O O)) O ?_
 refine vm O O ?_
 refine vq ((jk (ek := ao) x1 (gv 1 O) i O O O underlying95 iM : RQ _ _ _ _ (.pointer (some ⟨(cw a x1), 0, none⟩)))) O ?_
 refine va O O (ae (aa (ay ?_)))
 refine aT ?_
 refine sr ?_
 refine vm O O ?_
 refine vn O O ?_
 refine vq (ar O O underlying97 O O sizeOf4 O) O ?_
 refine vq (ag O O isAgg4 (.obj 0 O O)) O ?_
 refine va O O (ae (aa ?_))
 refine aY O (fun n => ?_) (fun o => ?_)
 refine sr ?_
 refine va O O (ae (aa (aA ?_)))
 refine bi ?_
 refine aK ?_
 exact aD (b, a) O O O (.sel 0 O (.sel 0 O (.sel 0 O (.nil _))))
 refine sr ?_
 refine vm O O ?_
 refine vq (jr O O O underlying107) O ?_
 refine va O O (ae (aa ?_))
 refine fx O ?_
 refine sr ?_
 refine vm O O ?_
 refine aw (fun j k => ?_)
 refine ah (av (vs := [.pointer (some ⟨b0, 0, none⟩)]) (cap := []) (A := [obj b0 97 [.map (some b), str e, .int .i64 g, .bool h], am (aj b ao ak a) ai a c]) (rst := [F]) O O O O O O call58 (.sel 0 O (.sel 0 O (.sel 0 O (.nil _)))) (bF.calls _ _ b0 b a c e g h ) k) O O O ?_
 intro q
 refine va O O (ae (aa ?_))
 refine aY O (fun s => ?_) (fun t => ?_)
 refine sr ?_
 refine va O O (ae (aa (aA ?_)))
 refine bi ?_
 refine aK ?_
 exact aD (b, a) O O O (.sel 0 O (.sel 0 O (.sel 0 O (.nil _))))
 refine aC ?_
 refine bv (aa (ay ?_))
 refine gV (v := ((aR c x1).getD (([] : List UInt8), (0 : Int)))) 1 O (eU i) (fun d => ?_)
 refine eD (H' := [obj (cw a x1) 109 [.slice d.1 ((((aR c x1).getD (([] : List UInt8), (0 : Int))).1).length) d.2, .int .i64 (((aR c x1).getD (([] : List UInt8), (0 : Int))).2)], Row 5 1 d.1 (((aR c x1).getD (([] : List UInt8), (0 : Int))).1).length d.2 (ax (((aR c x1).getD (([] : List UInt8), (0 : Int))).1)), gO (aj b ao ak a) ai a c x1, obj b0 97 [.map (some b), str j.2.1, .int .i64 j.2.2.1, .bool j.2.2.2], F]) (Ent.refl _) ?_
 refine aJ ?_
 refine vm O O ?_
 refine vm O O ?_
 refine vn O O ?_
 refine vq (ar O O underlying109 O O sizeOf33 O) O ?_
 refine vq (ag O O isAgg33 (.obj 0 O O)) O ?_
 refine vq (bD O O O underlying33) O ?_
 refine vn O O ?_
 refine vq (ar O O underlying109 O O sizeOf3 O) O ?_
 refine aU (aH 0 O O O sizeOf3 O O (aM (by rfl)) O O) O O ?_
 intro _
 refine nx ?_
 refine va O O (ae (aa (aA ?_)))
 exact aD (b, a) O O O (.sel 3 O (.foldF (x := x1) (p := (cw a x1)) (v := (((aR c x1).getD (([] : List UInt8), (0 : Int))).1, ((((aR c x1).getD (([] : List UInt8), (0 : Int))).1).length : Int))) (d.1, d.2) O (.sel 2 O (.sel 0 O (.sel 0 O (.sel 0 O (.nil _)))))))
 refine aJ ?_
 refine vm O O ?_
 refine vn O O ?_
 refine vq (ar O O underlying97 O O sizeOf95 O) O ?_
 refine vq (ag O O isAgg95 (.obj 0 O O)) O ?_
 refine vm O O ?_
 refine vq (jl (ek := ao) x1 (gv 1 O) (gW i) O O O underlying95 iM zeroValue107) O ?_
 refine va O O (ae (aa (ay ?_)))
 refine aT ?_
 refine sr ?_
 refine vm O O ?_
 refine vn O O ?_
 refine vq (ar O O underlying97 O O sizeOf4 O) O ?_
 refine vq (ag O O isAgg4 (.obj 0 O O)) O ?_
 refine va O O (ae (aa ?_))
 refine aY O (fun l => ?_) (fun m => ?_)
 refine sr ?_
 refine va O O (ae (aa (aA ?_)))
 refine bi ?_
 refine aK ?_
 exact aD (b, a) O O O (.sel 0 O (.sel 0 O (.sel 0 O (.nil _))))
 refine sr ?_
 refine vm O O ?_
 refine vq (iE O O O underlying107) O ?_
 refine va O O (ae (aa ?_))
 refine eM O ?_
 refine sr ?_
 refine va O O (ae (aa (aA ?_)))
 refine bi ?_
 refine aK ?_
 exact aD (b, a) O O O (.sel 0 O (.sel 0 O (.sel 0 O (.nil _))))

def dX.f (x0 : List Int) : Option (List Int) := if (([] : List Int).length + x0.length) * 8 ≤ 140737488355328 then (some (([] : List Int) ++ x0)) else none
theorem dX.calls (W : World) (F : HA) (a0 : Option Addr) (c0 : Nat) (x0 : List Int) (h0 : RdV F 1 (V3 tt) a0 x0) (e : x0.length ≤ c0) (g : c0 ≤ maxLen) :
    Fn Tryz.prog W 44 [.slice a0 x0.length c0] [] F (dX.f x0) (fun (r : List Int) (y : Option Addr × Nat) => .slice y.1 r.length y.2) (fun r y => [ap 3 1 (V3 tt) y.1 r y.2]) := by
 unfold dX.f
 refine aN 8 Tryz.func44 O Tryz.ntmps44 O ?_
 rcases a0 with _ | p0
 have hx : x0 = [] := rW rfl h0
 subst hx
 refine df (o' := some ([] : List Int)) (by simp) ?_
 refine sr ?_
 refine va O O (ae (aa (ay (sr ?_))))
 refine vm O O ?_
 refine vq (om O O underlying78) O (ae (aa ?_))
 refine eM O ?_
 refine sr ?_
 refine va O O (ae (aa (aA ?_)))
 refine aK ?_
 exact aD (none, 0) O O O (.rowV_nil (.sel 0 O (.nil _)))
 refine sr ?_
 refine va O O (ae (aa (ay (sr ?_))))
 refine vm O O ?_
 refine vq (oo O O underlying78) O (ae (aa ?_))
 refine fx O ?_
 refine aC ?_
 refine aa (sr ?_)
 refine ah (se (α := Int) (V := (V3 tt)) O underlying78 mv) O O O ?_
 intro h
 refine vm O O ?_
 refine bg 0 O (fun d b => ?_)
 refine bh (fun c => ?_)
 refine ah (ej 0 O O O underlying78 mv O b (h0.rds 0 O) c) O O O ?_
 intro a
 refine va O O (ae (aa (aA ?_)))
 exact aD (a.1, a.2) O O O (.sel 0 O (.sel 0 O (.nil _)))

def ic.f (x0 : List UInt8) : Option (List UInt8) := if 0 ≤ (0 : Int) ∧ (0 : Int) ≤ (x0.length : Int) ∧ (x0.length : Int) * 1 ≤ 140737488355328 then (if ((List.replicate (0 : Int).toNat (0 : UInt8)).length + x0.length) * 1 ≤ 140737488355328 then (some ((List.replicate (0 : Int).toNat (0 : UInt8)) ++ x0)) else none) else none
theorem ic.calls (W : World) (F : HA) (a0 : Option Addr) (c0 : Nat) (x0 : List UInt8) (h0 : Rd F a0 (ax x0)) (d : x0.length ≤ c0) (e : c0 ≤ maxLen) :
    Fn Tryz.prog W 66 [.slice a0 x0.length c0] [] F (ic.f x0) (fun (r : List UInt8) (y : Option Addr × Nat) => .slice y.1 r.length y.2) (fun r y => [Row 5 1 y.1 r.length y.2 (ax r)]) := by
 unfold ic.f
 refine aN 8 Tryz.func66 O Tryz.ntmps66 O ?_
 refine sr ?_
 refine va O O (nx ?_)
 refine vm O O ?_
 refine vq (bD O O O underlying33) O ?_
 refine bh (fun a => ?_)
 refine ah (jY O O O underlying33 fV a.1 a.2.1 a.2.2) O O O ?_
 intro g
 refine vm O O ?_
 refine bh (fun c => ?_)
 refine ah (eG 0 O O O underlying33 fV O (h0.rds 0 O) c) O O O ?_
 intro b
 refine va O O (ae (aa (aA ?_)))
 exact aD (b.1, b.2) O O O (.sel 0 O (.sel 0 O (.nil _)))

def eC.f (a : List ((List UInt8) × (List UInt8 × Int))) (c : List UInt8) (d : Int) (e : Bool) (x1 : List UInt8) : Option (List UInt8 × Int) := if (aR a x1).isSome = true then ((ic.f (((aR a x1).getD (([] : List UInt8), (0 : Int))).1)).bind fun b => (some (b, 0))) else (some (([] : List UInt8), 8))
theorem eC.calls (W : World) (F : HA) (b0 : Nat) (d : Nat) (b : Kps) (a : List ((List UInt8) × (List UInt8 × Int))) (e : List UInt8) (g : Int) (h : Bool) (x1 : List UInt8)  :
    Fn Tryz.prog W 26 [.pointer (some ⟨b0, 0, none⟩), str x1] [obj b0 97 [.map (some d), str e, .int .i64 g, .bool h], am (aj d ao ak b) ai b a] F (eC.f a e g h x1) (fun (r : List UInt8 × Int) (y : Option Addr × Nat) => .tuple #[.slice y.1 r.1.length y.2, .int .i64 r.2]) (fun r y => [Row 5 1 y.1 r.1.length y.2 (ax r.1), obj b0 97 [.map (some d), str e, .int .i64 g, .bool h], am (aj d ao ak b) ai b a]) := by
 unfold eC.f
 refine aN 20 Tryz.func26 O Tryz.ntmps26 O ?_
 refine sr ?_
 refine va O O ?_
 refine va O O (ae (aa (ay ?_)))
 refine fd (fun i => ?_) (fun i => ?_)
 refine aJ ?_
 refine vm O O ?_
 refine vn O O ?_
 refine vq (ar O O underlying97 O O sizeOf95 O) O ?_
 refine vq (ag O O isAgg95 (.obj 0 O O)) O ?_
 refine vm O O ?_
 refine vq ((jk (ek := ao) x1 (gv 1 O) i O O O underlying95 iM : RQ _ _ _ _ (.pointer (some ⟨(cw b x1), 0, none⟩)))) O ?_
 refine va O O (ae (aa (ay (sr ?_))))
 refine vm O O ?_
 refine vq (jr O O O underlying107) O (ae (aa ?_))
 refine fx O ?_
 refine aC ?_
 refine aa (ay ?_)
 refine gV (v := ((aR a x1).getD (([] : List UInt8), (0 : Int)))) 1 O (eU i) (fun c => ?_)
 refine eD (H' := [obj (cw b x1) 109 [.slice c.1 ((((aR a x1).getD (([] : List UInt8), (0 : Int))).1).length) c.2, .int .i64 (((aR a x1).getD (([] : List UInt8), (0 : Int))).2)], Row 5 1 c.1 (((aR a x1).getD (([] : List UInt8), (0 : Int))).1).length c.2 (ax (((aR a x1).getD (([] : List UInt8), (0 : Int))).1)), gO (aj d ao ak b) ai b a x1, obj b0 97 [.map (some d), str e, .int .i64 g, .bool h], F]) (Ent.refl _) ?_
 refine aJ ?_
 refine vm O O ?_
 refine vn O O ?_
 refine vq (ar O O underlying109 O O sizeOf33 O) O ?_
 refine vq (ag O O isAgg33 (.obj 0 O O)) O ?_
 refine aw (fun q k => ?_)
 refine bd 1 O (fun l m n o => ?_)
 refine ah (av (vs := [.slice c.1 ((((aR a x1).getD (([] : List UInt8), (0 : Int))).1).length) c.2]) (cap := []) (A := []) (rst := [obj (cw b x1) 109 [.slice c.1 ((((aR a x1).getD (([] : List UInt8), (0 : Int))).1).length) c.2, .int .i64 (((aR a x1).getD (([] : List UInt8), (0 : Int))).2)], Row 5 1 c.1 (((aR a x1).getD (([] : List UInt8), (0 : Int))).1).length c.2 (ax (((aR a x1).getD (([] : List UInt8), (0 : Int))).1)), gO (aj d ao ak b) ai b a x1, obj b0 97 [.map (some d), str e, .int .i64 g, .bool h], F]) O O O O O O call66 (.sel 0 O (.sel 0 O (.sel 0 O (.sel 0 O (.sel 0 O (.nil _)))))) (ic.calls _ _ c.1 c.2 (((aR a x1).getD (([] : List UInt8), (0 : Int))).1) (l.lend 1 O) m n) k) O O O ?_
 intro j
 refine va O O ?_
 refine va O O (ae (aa (aA ?_)))
 exact aD (j.1, j.2) O O O (.sel 0 O (.sel 3 O (.foldF0 (x := x1) (p := (cw b x1)) (v := ((aR a x1).getD (([] : List UInt8), (0 : Int)))) (c.1, c.2) O (eU i) (.sel 2 O (.sel 0 O (.sel 0 O (.sel 0 O (.nil _))))))))
 refine aJ ?_
 refine vm O O ?_
 refine vn O O ?_
 refine vq (ar O O underlying97 O O sizeOf95 O) O ?_
 refine vq (ag O O isAgg95 (.obj 0 O O)) O ?_
 refine vm O O ?_
 refine vq (jl (ek := ao) x1 (gv 1 O) (gW i) O O O underlying95 iM zeroValue107) O ?_
 refine va O O (ae (aa (ay (sr ?_))))
 refine vm O O ?_
 refine vq (iE O O O underlying107) O (ae (aa ?_))
 refine eM O ?_
 refine sr ?_
 refine va O O ?_
 refine va O O (ae (aa (aA ?_)))
 refine aK ?_
 exact aD (none, 0) O O O (.row_nil (.sel 0 O (.sel 0 O (.sel 0 O (.nil _)))))

def fZ.f (x0 : List UInt8) : Option (Int) := if 0 ≤ (0 : Int) ∧ (0 : Int) < (x0.length : Int) then (if 0 ≤ (1 : Int) ∧ (1 : Int) < (x0.length : Int) then (if 0 ≤ (2 : Int) ∧ (2 : Int) < (x0.length : Int) then (if 0 ≤ (3 : Int) ∧ (3 : Int) < (x0.length : Int) then (some (bS .or .u32 (bS .or .u32 (bS .or .u32 (IntKind.u32.wrap ((x0.getD (0 : Int).toNat 0).toNat : Int)) (IntKind.u32.wrap ((IntKind.u32.wrap ((x0.getD (1 : Int).toNat 0).toNat : Int)) * 2 ^ (min (8 : Int).toNat IntKind.u32.bits)))) (IntKind.u32.wrap ((IntKind.u32.wrap ((x0.getD (2 : Int).toNat 0).toNat : Int)) * 2 ^ (min (16 : Int).toNat IntKind.u32.bits)))) (IntKind.u32.wrap ((IntKind.u32.wrap ((x0.getD (3 : Int).toNat 0).toNat : Int)) * 2 ^ (min (24 : Int).toNat IntKind.u32.bits))))) else none) else none) else none) else none
theorem fZ.calls (W : World) (F : HA) (a0 : Option Addr) (c0 : Nat) (x0 : List UInt8) (h0 : Rd F a0 (ax x0)) (z : x0.length ≤ c0) (ab : c0 ≤ maxLen) :
    Fn Tryz.prog W 94 [.slice a0 x0.length c0] [] F (fZ.f x0) (fun (r : Int) (y : Unit) => .int .u32 r) (fun r y => []) := by
 unfold fZ.f
 refine aN 25 Tryz.func94 O Tryz.ntmps94 O ?_
 refine sr ?_
 refine va O O (ae (aa (ay ?_)))
 refine cU (fun d => ?_)
 obtain ⟨u, n, e⟩ := h0.pos (gA (j := (0 : Int).toNat) (by omega))
 refine cU (fun g => ?_)
 obtain ⟨w, p, h⟩ := h0.pos (gA (j := (1 : Int).toNat) (by omega))
 refine cU (fun k => ?_)
 obtain ⟨q, l, a⟩ := h0.pos (gA (j := (2 : Int).toNat) (by omega))
 refine cU (fun b => ?_)
 obtain ⟨t, m, c⟩ := h0.pos (gA (j := (3 : Int).toNat) (by omega))
 refine bb (Γ := Unit) () [[], [0], [0, 1], [0, 1, 2], [], [4], [4, 5], [4, 5, 6], [4, 5, 6, 7], rL 9, [], [10], [10, 11], [10, 11, 12], [10, 11, 12, 13], rL 15, [], [16], [16, 17], [16, 17, 18], [16, 17, 18, 19], rL 21, rL 22] [] [0, 1, 2, 3, 4, 5, 6, 7, 8, 9, 10, 11, 12, 13, 14, 15, 16, 17, 18, 19, 20, 21, 22] (fun i => [[0], [0], [0], [0], [0], [0], [0], [0], [0], [0], [0], [0], [0], [0], [0], [0], [0], [0], [0], [0], [0], [0], [0]].getD i []) (fun i => [[], [], [], [], [], [], [], [], [], [], [], [], [], [], [], [], [], [], [], [], [], [], []].getD i []) (fun γ i => [.slice a0 x0.length c0, .pointer (some ⟨u, n + (0 : Int).toNat, none⟩), .int .u8 ((x0.getD (0 : Int).toNat 0).toNat : Int), .int .u32 (IntKind.u32.wrap ((x0.getD (0 : Int).toNat 0).toNat : Int)), .slice a0 x0.length c0, .pointer (some ⟨w, p + (1 : Int).toNat, none⟩), .int .u8 ((x0.getD (1 : Int).toNat 0).toNat : Int), .int .u32 (IntKind.u32.wrap ((x0.getD (1 : Int).toNat 0).toNat : Int)), .int .u32 (IntKind.u32.wrap ((IntKind.u32.wrap ((x0.getD (1 : Int).toNat 0).toNat : Int)) * 2 ^ (min (8 : Int).toNat IntKind.u32.bits))), .int .u32 (bS .or .u32 (IntKind.u32.wrap ((x0.getD (0 : Int).toNat 0).toNat : Int)) (IntKind.u32.wrap ((IntKind.u32.wrap ((x0.getD (1 : Int).toNat 0).toNat : Int)) * 2 ^ (min (8 : Int).toNat IntKind.u32.bits)))), .slice a0 x0.length c0, .pointer (some ⟨q, l + (2 : Int).toNat, none⟩), .int .u8 ((x0.getD (2 : Int).toNat 0).toNat : Int), .int .u32 (IntKind.u32.wrap ((x0.getD (2 : Int).toNat 0).toNat : Int)), .int .u32 (IntKind.u32.wrap ((IntKind.u32.wrap ((x0.getD (2 : Int).toNat 0).toNat : Int)) * 2 ^ (min (16 : Int).toNat IntKind.u32.bits))), .int .u32 (bS .or .u32 (bS .or .u32 (IntKind.u32.wrap ((x0.getD (0 : Int).toNat 0).toNat : Int)) (IntKind.u32.wrap ((IntKind.u32.wrap ((x0.getD (1 : Int).toNat 0).toNat : Int)) * 2 ^ (min (8 : Int).toNat IntKind.u32.bits)))) (IntKind.u32.wrap ((IntKind.u32.wrap ((x0.getD (2 : Int).toNat 0).toNat : Int)) * 2 ^ (min (16 : Int).toNat IntKind.u32.bits)))), .slice a0 x0.length c0, .pointer (some ⟨t, m + (3 : Int).toNat, none⟩), .int .u8 ((x0.getD (3 : Int).toNat 0).toNat : Int), .int .u32 (IntKind.u32.wrap ((x0.getD (3 : Int).toNat 0).toNat : Int)), .int .u32 (IntKind.u32.wrap ((IntKind.u32.wrap ((x0.getD (3 : Int).toNat 0).toNat : Int)) * 2 ^ (min (24 : Int).toNat IntKind.u32.bits))), .int .u32 (bS .or .u32 (bS .or .u32 (bS .or .u32 (IntKind.u32.wrap ((x0.getD (0 : Int).toNat 0).toNat : Int)) (IntKind.u32.wrap ((IntKind.u32.wrap ((x0.getD (1 : Int).toNat 0).toNat : Int)) * 2 ^ (min (8 : Int).toNat IntKind.u32.bits)))) (IntKind.u32.wrap ((IntKind.u32.wrap ((x0.getD (2 : Int).toNat 0).toNat : Int)) * 2 ^ (min (16 : Int).toNat IntKind.u32.bits)))) (IntKind.u32.wrap ((IntKind.u32.wrap ((x0.getD (3 : Int).toNat 0).toNat : Int)) * 2 ^ (min (24 : Int).toNat IntKind.u32.bits)))), .int .u32 (bS .or .u32 (bS .or .u32 (bS .or .u32 (IntKind.u32.wrap ((x0.getD (0 : Int).toNat 0).toNat : Int)) (IntKind.u32.wrap ((IntKind.u32.wrap ((x0.getD (1 : Int).toNat 0).toNat : Int)) * 2 ^ (min (8 : Int).toNat IntKind.u32.bits)))) (IntKind.u32.wrap ((IntKind.u32.wrap ((x0.getD (2 : Int).toNat 0).toNat : Int)) * 2 ^ (min (16 : Int).toNat IntKind.u32.bits)))) (IntKind.u32.wrap ((IntKind.u32.wrap ((x0.getD (3 : Int).toNat 0).toNat : Int)) * 2 ^ (min (24 : Int).toNat IntKind.u32.bits))))].getD i undef) (fun j γ => [[F]].getD j []) (fun γ => [(2, .int .u32 (bS .or .u32 (bS .or .u32 (bS .or .u32 (IntKind.u32.wrap ((x0.getD (0 : Int).toNat 0).toNat : Int)) (IntKind.u32.wrap ((IntKind.u32.wrap ((x0.getD (1 : Int).toNat 0).toNat : Int)) * 2 ^ (min (8 : Int).toNat IntKind.u32.bits)))) (IntKind.u32.wrap ((IntKind.u32.wrap ((x0.getD (2 : Int).toNat 0).toNat : Int)) * 2 ^ (min (16 : Int).toNat IntKind.u32.bits)))) (IntKind.u32.wrap ((IntKind.u32.wrap ((x0.getD (3 : Int).toNat 0).toNat : Int)) * 2 ^ (min (24 : Int).toNat IntKind.u32.bits)))))]) mixed (by decide) (by decide) (by decide) (by decide) (by decide) (by decide) (by decide) 25 O (by decide) (by decide) (by decide) (Ent.refl _) ?_ ?_ (fun _ => ⟨O, trivial⟩) ?_
 exact (aq O (fun γ => qm O (.o (s := 0) O (by decide) .nil) O) (aq O (fun γ => qp O O (.v 0 O O .nil) (hJ O O O e underlying33 sizeOf5 d.1 d.2) O) (aq O (fun γ => qp O O (.v 1 O O .nil) (ag O O isAgg5 (h0.cell 0 O e (fQ (by omega)))) O) (aq O (fun γ => qp O O (.v 2 O O .nil) (eX O O underlying5 underlying149) O) (aq O (fun γ => qm O (.o (s := 0) O (by decide) .nil) O) (aq O (fun γ => qp O O (.v 4 O O .nil) (hJ O O O h underlying33 sizeOf5 g.1 g.2) O) (aq O (fun γ => qp O O (.v 5 O O .nil) (ag O O isAgg5 (h0.cell 0 O h (fQ (by omega)))) O) (aq O (fun γ => qp O O (.v 6 O O .nil) (eX O O underlying5 underlying149) O) (aq O (fun γ => qp O O (.v 7 O O .nil) (nA O O O (by decide)) O) (aq O (fun γ => qp O O (.v 3 O O (.v 8 O O .nil)) (lF O O O) O) (aq O (fun γ => qm O (.o (s := 0) O (by decide) .nil) O) (aq O (fun γ => qp O O (.v 10 O O .nil) (hJ O O O a underlying33 sizeOf5 k.1 k.2) O) (aq O (fun γ => qp O O (.v 11 O O .nil) (ag O O isAgg5 (h0.cell 0 O a (fQ (by omega)))) O) (aq O (fun γ => qp O O (.v 12 O O .nil) (eX O O underlying5 underlying149) O) (aq O (fun γ => qp O O (.v 13 O O .nil) (nA O O O (by decide)) O) (aq O (fun γ => qp O O (.v 9 O O (.v 14 O O .nil)) (lF O O O) O) (aq O (fun γ => qm O (.o (s := 0) O (by decide) .nil) O) (aq O (fun γ => qp O O (.v 16 O O .nil) (hJ O O O c underlying33 sizeOf5 b.1 b.2) O) (aq O (fun γ => qp O O (.v 17 O O .nil) (ag O O isAgg5 (h0.cell 0 O c (fQ (by omega)))) O) (aq O (fun γ => qp O O (.v 18 O O .nil) (eX O O underlying5 underlying149) O) (aq O (fun γ => qp O O (.v 19 O O .nil) (nA O O O (by decide)) O) (aq O (fun γ => qp O O (.v 15 O O (.v 20 O O .nil)) (lF O O O) O) (aq O (fun γ => qp O O (.v 21 O O .nil) (ci O O) O) zA)))))))))))))))))))))))
 exact zA
 intro x
 refine aa (aA ?_)
 exact aD () O O O (.sel 0 O (.nil _))
end Go.Proofs.YtndjkejhacfpdaaGreatDoor

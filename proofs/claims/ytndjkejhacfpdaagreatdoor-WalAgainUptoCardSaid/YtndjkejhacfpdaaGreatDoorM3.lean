/- Texts that lead to the law WalAgain: G1. Conditions: as each says. -/
import Derived.Test.YtndjkejhacfpdaaGreatDoorM2
import Derived.Test.YtndjkejhacfpdaaGreatDoorProg
set_option linter.unusedVariables false
set_option linter.unusedSimpArgs false
set_option linter.unusedSectionVars false
namespace Go.Proofs.YtndjkejhacfpdaaGreatDoor
open Go.RowKit _root_.Go.Proofs.Tryz
set_option maxRecDepth 20000
set_option maxHeartbeats 20000000
theorem ig : Elt Tryz.prog 5 1 1 [.int .u8 0] := .of (.int .u8 0) (by kernel_rfl) rfl rfl rfl rfl
abbrev aF : Type := Int × Int × Int × List UInt8 × Int
abbrev au : aF := ((0 : Int), (0 : Int), (0 : Int), ([] : List UInt8), (0 : Int))
abbrev bm : Type := Int × Int × Int × List UInt8
abbrev bl : bm := ((0 : Int), (0 : Int), (0 : Int), ([] : List UInt8))
abbrev dB : Type := Int × Int × Int × Int × Int × Int × Int × Int × Int × Int × List UInt8
abbrev aT : dB := ((0 : Int), (0 : Int), (0 : Int), (0 : Int), (0 : Int), (0 : Int), (0 : Int), (0 : Int), (0 : Int), (0 : Int), ([] : List UInt8))
abbrev ar (x : List UInt8) : Value := str x
abbrev fq (x : Int) : Value := .int .i64 x
abbrev dQ (x : Option Nat) : Value := match x with
  | none => .nilFunc
  | some f => .func (.func f) #[] #[]
theorem km : jx Tryz.prog 9 ar := vT underlying9
theorem lW : jx Tryz.prog 3 fq := vS underlying3
abbrev ai (p : Nat) (x : List UInt8 × Int) (y : Option Addr × Nat) : List HA := [obj p 109 [.slice y.1 x.1.length y.2, .int .i64 x.2], Row 5 1 y.1 x.1.length y.2 (aB x.1)]
theorem yr : Elt Tryz.prog 9 1 16 [str ([] : Lb)] := .of (str ([] : Lb)) (by kernel_rfl) rfl rfl rfl rfl
theorem lG : Elt Tryz.prog 144 5 56 [Iv 0, Iv 0, Iv 0, .slice none 0 0, Iv 0] := .of (.agg #[Iv 0, Iv 0, Iv 0, .slice none 0 0, Iv 0]) (by kernel_rfl) rfl rfl rfl rfl
theorem oY : Elt Tryz.prog 3 1 8 [Iv 0] := .of (Iv 0) (by kernel_rfl) rfl rfl rfl rfl
theorem wR : Elt Tryz.prog 33 1 24 [.slice none 0 0] := .of (.slice none 0 0) (by kernel_rfl) rfl rfl rfl rfl
theorem na : Elt Tryz.prog 35 4 48 [Iv 0, Iv 0, Iv 0, .slice none 0 0] := .of (.agg #[Iv 0, Iv 0, Iv 0, .slice none 0 0]) (by kernel_rfl) rfl rfl rfl rfl
theorem jZ : Elt Tryz.prog 102 11 104 [Iv 0, Iv 0, Iv 0, Iv 0, Iv 0, Iv 0, Iv 0, Iv 0, Iv 0, Iv 0, .slice none 0 0] := .of (.agg #[Iv 0, Iv 0, Iv 0, Iv 0, Iv 0, Iv 0, Iv 0, Iv 0, Iv 0, Iv 0, .slice none 0 0]) (by kernel_rfl) rfl rfl rfl rfl
def V9 (_ : HA) (x : List UInt8) (r : List Value) : Prop := r = [str x]
theorem V9.up {G F : HA} (_ : Up G F) : ∀ x r, V9 G x r → V9 F x r := fun _ _ h => h
def aQ (F : HA) (x : Int × Int × Int × List UInt8 × Int) (r : List Value) : Prop := ∃ (a3 : Option Addr) (c3 : Nat), r = [.int .i64 x.1, .int .i64 x.2.1, .int .i64 x.2.2.1, .slice a3 x.2.2.2.1.length c3, .int .i64 x.2.2.2.2] ∧ (Rd F a3 (aB x.2.2.2.1) ∧ x.2.2.2.1.length ≤ c3 ∧ c3 ≤ maxLen)
theorem aQ.up {G F : HA} (u : Up G F) : ∀ x r, aQ G x r → aQ F x r := by
  rintro x r ⟨a3, c3, e, ⟨h3, k3, m3⟩⟩
  exact ⟨a3, c3, e, ⟨h3.up u, k3, m3⟩⟩
def V3 (_ : HA) (x : Int) (r : List Value) : Prop := r = [.int .i64 x]
theorem V3.up {G F : HA} (_ : Up G F) : ∀ x r, V3 G x r → V3 F x r := fun _ _ h => h
def V33 (F : HA) (x : List UInt8) (r : List Value) : Prop := ∃ (a0 : Option Addr) (c0 : Nat), r = [.slice a0 x.length c0] ∧ (Rd F a0 (aB x) ∧ x.length ≤ c0 ∧ c0 ≤ maxLen)
theorem V33.up {G F : HA} (u : Up G F) : ∀ x r, V33 G x r → V33 F x r := by
  rintro x r ⟨a0, c0, e, ⟨h0, k0, m0⟩⟩
  exact ⟨a0, c0, e, ⟨h0.up u, k0, m0⟩⟩
def V35 (F : HA) (x : Int × Int × Int × List UInt8) (r : List Value) : Prop := ∃ (a3 : Option Addr) (c3 : Nat), r = [.int .i64 x.1, .int .i64 x.2.1, .int .i64 x.2.2.1, .slice a3 x.2.2.2.length c3] ∧ (Rd F a3 (aB x.2.2.2) ∧ x.2.2.2.length ≤ c3 ∧ c3 ≤ maxLen)
theorem V35.up {G F : HA} (u : Up G F) : ∀ x r, V35 G x r → V35 F x r := by
  rintro x r ⟨a3, c3, e, ⟨h3, k3, m3⟩⟩
  exact ⟨a3, c3, e, ⟨h3.up u, k3, m3⟩⟩
def yq (x : Int × Int × Int × List UInt8) : Prop := okI .i64 x.1 ∧ okI .i64 x.2.1 ∧ okI .i64 x.2.2.1 ∧ x.2.2.2.length ≤ 140737488351232
def fh (F : HA) (x : Int × Int × Int × Int × Int × Int × Int × Int × Int × Int × List UInt8) (r : List Value) : Prop := ∃ (b : Option Addr) (a : Nat), r = [.int .i64 x.1, .int .i64 x.2.1, .int .i64 x.2.2.1, .int .i64 x.2.2.2.1, .int .i64 x.2.2.2.2.1, .int .i64 x.2.2.2.2.2.1, .int .i64 x.2.2.2.2.2.2.1, .int .i64 x.2.2.2.2.2.2.2.1, .int .i64 x.2.2.2.2.2.2.2.2.1, .int .i64 x.2.2.2.2.2.2.2.2.2.1, .slice b x.2.2.2.2.2.2.2.2.2.2.length a] ∧ (Rd F b (aB x.2.2.2.2.2.2.2.2.2.2) ∧ x.2.2.2.2.2.2.2.2.2.2.length ≤ a ∧ a ≤ maxLen)
theorem fh.up {G F : HA} (u : Up G F) : ∀ x r, fh G x r → fh F x r := by
  rintro x r ⟨a, b, e, ⟨c, d, f⟩⟩
  exact ⟨a, b, e, ⟨c.up u, d, f⟩⟩
def V56 (F : HA) (x : Int × Int × Bool × Int × Int × Int × Int × Int × (List (Int × Int × Int × List UInt8))) (r : List Value) : Prop := ∃ (a8 : Option Addr) (c8 : Nat), r = [.int .i64 x.1, .int .i64 x.2.1, .bool x.2.2.1, .int .i64 x.2.2.2.1, .int .i64 x.2.2.2.2.1, .int .i64 x.2.2.2.2.2.1, .int .i64 x.2.2.2.2.2.2.1, .int .i64 x.2.2.2.2.2.2.2.1, .slice a8 x.2.2.2.2.2.2.2.2.length c8] ∧ (RdV F 4 (V35 F) a8 x.2.2.2.2.2.2.2.2 ∧ x.2.2.2.2.2.2.2.2.length ≤ c8 ∧ c8 ≤ maxLen)
theorem V56.up {G F : HA} (u : Up G F) : ∀ x r, V56 G x r → V56 F x r := by
  rintro x r ⟨a8, c8, e, ⟨h8, k8, m8⟩⟩
  exact ⟨a8, c8, e, ⟨h8.up u (V35.up u), k8, m8⟩⟩
def zn (x : Int × Int × Bool × Int × Int × Int × Int × Int × (List (Int × Int × Int × List UInt8))) : Prop := okI .i64 x.1 ∧ okI .i64 x.2.1 ∧ True ∧ okI .i64 x.2.2.2.1 ∧ okI .i64 x.2.2.2.2.1 ∧ okI .i64 x.2.2.2.2.2.1 ∧ okI .i64 x.2.2.2.2.2.2.1 ∧ okI .i64 x.2.2.2.2.2.2.2.1 ∧ (x.2.2.2.2.2.2.2.2.length * 48 ≤ 140737488351232 ∧ ∀ y ∈ x.2.2.2.2.2.2.2.2, yq y)
theorem mixed : Tryz.prog.follows .mixedOrders = true := by kernel_rfl
def iH.f  : Option ((List ((List UInt8) × (List UInt8 × Int))) × List UInt8 × Int × Bool) := some (([] : List ((List UInt8) × (List UInt8 × Int))), ([] : List UInt8), 0, false)
theorem iH.calls (W : World) (F : HA)   :
    Fn Tryz.prog W 16 [] [] F (iH.f ) (fun (r : (List (Lb × (Lb × Int))) × Lb × Int × Bool) (y : Nat × Nat × Kps) => Pt y.1) (fun r y => [W5 y.1 y.2.1 r.2, ao (aj y.2.1 ar ak y.2.2) ai y.2.2 r.1]) := by
 unfold iH.f
 refine aO 4 Tryz.func16 O Tryz.ntmps16 O (sr (va O O (nx (ah (uH (ek := ar) (fp := ai) O) O O O ?_))))
 intro a
 refine vq (di (v := .agg #[.map (some a), str ([] : Lb), Iv 0, .bool false]) O O (fun _ => by kernel_rfl)) O (ah (cq O O O) O O O ?_)
 intro b
 refine va O O (ae (aa (aA ?_)))
 exact aE (b, a, ([] : Kps)) O O O (.s O (.s O (.s O .n)))

def gx.f  : Option (Unit) := some ()
theorem gx.calls (W : World) (F : HA) (m0 : Nat)  :
    Fn Tryz.prog W 70 [.map (some m0)] [] F (gx.f ) (fun (r : Unit) (y : Nat) => .func (.func 98) #[] #[Pt y]) (fun r y => [obj y 95 [.map (some m0)]]) := by
 unfold gx.f
 refine aO 4 Tryz.func70 O Tryz.ntmps70 O (sr (ah (cq O O O) O O O ?_))
 intro a
 refine va O O (nx (vq (gY O O O) O (va O O (ae (aa (aA ?_))))))
 exact aE a O O O (.s O (.s O .n))

def cH.f (a : List ((List UInt8) × (List UInt8 × Int))) : Option (List (List UInt8)) := if (a.map (·.1)).Nodup ∧ a.length * 16 ≤ 140737488355328 ∧ ∀ p ∈ a, p.1.length ≤ 140737488351232 then some (ez a) else none
theorem cH.calls (W : World) (F : HA) (d : Nat) (a : Nat) (b : Kps) (c : List (Lb × (Lb × Int))) :
    Fn Tryz.prog W 69 [.func (.func 98) #[] #[Pt d]] [obj d 95 [.map (some a)], ao (aj a ar ak b) ai b c] F (cH.f c) (fun (r : List Lb) (y : Option Addr × Nat) => .slice y.1 r.length y.2) (fun r y => [am 9 1 (V9 tt) y.1 r y.2, obj d 95 [.map (some a)], ao (aj a ar ak b) ai b c]) := by
  unfold cH.f
  exact sl fun F => tS (V := (V9 tt)) (fun _ => O) underlying9 (fun w D0 nn => ow w D0 nn a d)

def fO.f (a : List ((List UInt8) × (List UInt8 × Int))) (c : List UInt8) (d : Int) (e : Bool) : Option (List (List UInt8)) := (gx.f).bind fun g => ((cH.f a).bind fun b => (some b))
theorem fO.calls (W : World) (F : HA) (b0 : Nat) (a : Nat) (b : Kps) (c : List (Lb × (Lb × Int))) (d : Lb) (e : Int) (g : Bool)  :
    Fn Tryz.prog W 29 [Pt b0] [W0 b0 a d e g, ao (aj a ar ak b) ai b c] F (fO.f c d e g) (fun (r : List Lb) (y : Option Addr × Nat) => .slice y.1 r.length y.2) (fun r y => [am 9 1 (V9 tt) y.1 r y.2, W0 b0 a d e g, ao (aj a ar ak b) ai b c]) := by
 unfold fO.f
 refine aO 9 Tryz.func29 O Tryz.ntmps29 O (sr (va O O (nx (vm O O (vn O O (vq (ap O O underlying97 O O sizeOf95 O) O (vq (ag O O isAgg95 (.obj 0 O O)) O (ax (fun l j => (ah (av (vs := [.map (some a)]) (cap := []) (A := []) (rst := [W0 b0 a d e g, ao (aj a ar ak b) ai b c, F]) O O O O O O call70 (.s O (.s O (.s O .n))) (gx.calls _ _ a ) j) O O O ?_))))))))))
 intro h
 refine ax (fun m k => (ah (av (vs := [.func (.func 98) #[] #[Pt h]]) (cap := []) (A := [obj h 95 [.map (some a)], ao (aj a ar ak b) ai b c]) (rst := [W0 b0 a d e g, F]) O O O O O O call69 (.s O (.sel 1 O (.s O (.s O .n)))) (cH.calls _ _ h a b c ) k) O O O ?_))
 intro i
 refine va O O (ae (aa (aA ?_)))
 exact aE i O O O (.s O (.sel 2 O (.sel 1 O (.sel 1 O .n))))

def eu.l0 (x0 : List UInt8) : Nat → Int → Int → Option ((Int) ⊕ (Int × Bool))
  | 0, _, _ => none
  | k + 1, b, a => if a < ((cut x0 (4 : Int) (x0.length : Int)).length : Int) then (if 0 ≤ a ∧ a < ((cut x0 (4 : Int) (x0.length : Int)).length : Int) then (if ((decide ((((cut x0 (4 : Int) (x0.length : Int)).getD a.toNat 0).toNat : Int) < (48 : Int))) || (decide ((57 : Int) < (((cut x0 (4 : Int) (x0.length : Int)).getD a.toNat 0).toNat : Int)))) = true then (some (.inr (0, false))) else (eu.l0 x0 k (IntKind.i64.wrap ((IntKind.i64.wrap (10 * b)) + (IntKind.i64.wrap (IntKind.u8.wrap ((((cut x0 (4 : Int) (x0.length : Int)).getD a.toNat 0).toNat : Int) - 48))))) (IntKind.i64.wrap (a + 1)))) else none) else (some (.inl b))
def eu.f (k : Nat) (x0 : List UInt8) : Option (Int × Bool) := (if (x0.length : Int) = (12 : Int) then (if 0 ≤ (0 : Int) ∧ (0 : Int) ≤ (4 : Int) ∧ (4 : Int) ≤ (x0.length : Int) then (some (!decide ((cut x0 (0 : Int) (4 : Int)) = ([119, 97, 108, 45] : List UInt8)))) else none) else (some true)).bind fun b => (if b = true then (some (0, false)) else (orR (if 0 ≤ (4 : Int) ∧ (4 : Int) ≤ (x0.length : Int) ∧ (x0.length : Int) ≤ (x0.length : Int) then (if (cut x0 (4 : Int) (x0.length : Int)).length ≤ 140737488355328 then (eu.l0 x0 k 0 0) else none) else none) fun a => (some (a, decide ((0 : Int) < a)))))
theorem eu.calls (W : World) (F : HA) (k : Nat) (x0 : Lb)  :
    Fn Tryz.prog W 11 [str x0] [] F (eu.f k x0) (fun (r : Int × Bool) (y : Unit) => .tuple #[Iv r.1, .bool r.2]) (fun r y => []) := by
 unfold eu.f
 refine aO 39 Tryz.func11 O Tryz.ntmps11 O (sr (va O O (va O O (ae (aa (ay (sr (vm O O (vq (mC O O O underlying9) O (vq (dp O O O) O (vm O O ?_)))))))))))
 refine dG 4 (S := Bool) Unit (fun s y => [(0, str x0), (14, .bool s)]) (fun s y => [F]) ?_ ?_
 refine ox (fun l => ?_) (fun m => ?_)
 rw [l]
 refine aD O O O O O O (aD O O O O O O (aD O O O O O O (vq (bS O O O O O) O (ae ?_))))
 exact aG (s := true) () ⟨O, O, trivial⟩ (.s O .n)
 rw [m]
 refine aL (bh O O) O O O O O O (bg (fun n => (aL (uI (lo' := (0 : Int)) (hi' := (4 : Int)) O O O O underlying9 (.inr ⟨_, O⟩) (.inl ⟨O, O⟩) n) O O O O O O (aL (wS O O O) O O O O O O (vq (bS O O O O O) O (ae ?_))))))
 exact aG (s := !decide ((cut x0 (0 : Int) (4 : Int)) = ([119, 97, 108, 45] : Lb))) () ⟨O, O, trivial⟩ (.s O .n)
 intro z ab
 refine ae (aa ?_)
 refine aZ O (fun ad => ?_) (fun af => ?_)
 refine sr (va O O (va O O (ae (aa (aA (aN ?_))))))
 exact aE () O O O (.s O .n)
 refine aC (aa (sr (va O O (ae (aa ?_)))))
 refine gi (S := Int) Unit (fun s y => [(4, Iv s)]) (fun s y => [F]) ?_ ?_
 refine sr (vm O O (bg (fun g => (vq (uI (lo' := (4 : Int)) (hi' := (x0.length : Int)) O O O O underlying9 (.inl ⟨O, O⟩) (.inr ⟨_, O⟩) g) O (bg (fun h => (ah (tT O O underlying9 underlying33 underlying5 h) O O O ?_)))))))
 intro c
 refine vq (bx O O O underlying33) O (vm O O (ae (aa (aR ?_))))
 refine ck (S := Int × Int) Unit (fun k s => eu.l0 x0 k s.1 s.2) (fun s y => [(4, Iv s.1), (17, .slice (some ⟨c.1, 0, none⟩) ((cut x0 (4 : Int) (x0.length : Int)).length) c.2), (18, Iv ((cut x0 (4 : Int) (x0.length : Int)).length : Int)), (19, Iv s.2)]) (fun s y => [Row 5 1 (some ⟨c.1, 0, none⟩) (cut x0 (4 : Int) (x0.length : Int)).length c.2 (aB (cut x0 (4 : Int) (x0.length : Int))), F]) (fun _ => by rw [eu.l0]) ?_ k (0, 0) () ⟨O, O, O, O, trivial⟩ (.s O (.s O .n))
 intro k a q
 refine cS (by rw [eu.l0]) (sr (vq (cL O O O) O (ae (aa (ay ?_)))))
 refine bn O (fun t => ?_) (fun u => ?_)
 refine aC (aa (ay (aR (sr (bg (fun d => (qu 0 O (iS (j := a.2.toNat) (by omega)) (fun v o e => (vq (jv O O O e underlying33 sizeOf5 d.1 d.2) O (vq (ag O O isAgg5 (.row' 0 O e (il (by omega)))) O (va O O (ae (aa (ay (sr (vm O O (vq (cL O O O) O (vm O O (aw (b := decide ((((cut x0 (4 : Int) (x0.length : Int)).getD a.2.toNat 0).toNat : Int) < (48 : Int))) (fun p => RQ.sub (E' := [(6, .int .u8 (((cut x0 (4 : Int) (x0.length : Int)).getD a.2.toNat 0).toNat : Int))]) ⟨O, trivial⟩ (bh O O)) O O O O O (aw (b := decide ((((cut x0 (4 : Int) (x0.length : Int)).getD a.2.toNat 0).toNat : Int) < (48 : Int))) (fun i => RQ.sub (E' := [(26, .int .u8 (((cut x0 (4 : Int) (x0.length : Int)).getD a.2.toNat 0).toNat : Int))]) ⟨aH O i, trivial⟩ (cW O O O)) O O O O O (vq (fI O O O) O (ae (aa ?_)))))))))))))))))))))))
 refine aZ O (fun w => ?_) (fun x => ?_)
 refine sr (va O O (va O O (ae (aa (aA (aN (bp (aN (fw (bp (fi ?_)))))))))))
 exact aE () O O O (.sel 1 O .n)
 refine aC (aa (aI (vm O O (vq (wT O O O) O (vm O O (vq (dC O O O) O (vq (gA O O underlying5 underlying3) O (vq (bY O O O) O (va O O (ae (bo (aa (aI (vq (bY O O O) O (vm O O (ae ?_))))))))))))))))
 exact bM (s := (IntKind.i64.wrap ((IntKind.i64.wrap (10 * a.1)) + (IntKind.i64.wrap (IntKind.u8.wrap ((((cut x0 (4 : Int) (x0.length : Int)).getD a.2.toNat 0).toNat : Int) - 48)))), IntKind.i64.wrap (a.2 + 1))) () ⟨O, O, O, O, trivial⟩ (.s O (.s O .n))
 refine cA (ce (cl (cf ?_)))
 exact fN (s := a.1) () ⟨O, trivial⟩ (.sel 1 O .n)
 intro al an
 refine sr (vm O O (vm O O (vq (cW O O O) O (va O O (va O O (ae (aa (aA ?_))))))))
 exact aE () O O O (.s O .n)

def gZ.f (x0 : Int) : Option (List UInt8) := if -9223372036854775808 ≤ x0 ∧ x0 ≤ 9223372036854775807 then some (Lib.itoa x0) else none
theorem gZ.calls (W : World) (F : HA) (x0 : Int) (hgl : Glb Tryz.prog F) :
    Fn Tryz.prog W 39 [Iv x0] [] F (gZ.f x0) (fun (r : Lb) (y : Unit) => str r) (fun r y => []) := by
  unfold gZ.f
  exact yw (fun h => xn hgl (fun w ht => Any.strconv_Itoa yx x0 h.1 h.2 w ht))

def fj.l0 : Nat → List UInt8 → Option (List UInt8)
  | 0, _ => none
  | k + 1, a => if (a.length : Int) < (8 : Int) then (if ([48] : List UInt8).length + a.length ≤ 9223372036854775807 then (fj.l0 k (([48] : List UInt8) ++ a)) else none) else (some a)
def fj.f (k : Nat) (x0 : Int) : Option (List UInt8 × Int) := if ((decide (x0 < (1 : Int))) || (decide ((99999999 : Int) < x0))) = true then (some (([] : List UInt8), 1)) else ((gZ.f x0).bind fun b => ((fj.l0 k b).bind fun a => (if ([119, 97, 108, 45] : List UInt8).length + a.length ≤ 9223372036854775807 then (some (([119, 97, 108, 45] : List UInt8) ++ a, 0)) else none)))
theorem fj.calls (W : World) (F : HA) (k : Nat) (x0 : Int) (hgl : Glb Tryz.prog F) :
    Fn Tryz.prog W 10 [Iv x0] [] F (fj.f k x0) (fun (r : Lb × Int) (y : Unit) => .tuple #[str r.1, Iv r.2]) (fun r y => []) := by
 unfold fj.f
 refine aO 20 Tryz.func10 O Tryz.ntmps10 O (sr (va O O (va O O (ae (aa (ay (sr (vm O O (vq (cL O O O) O (vm O O (aw (b := decide (x0 < (1 : Int))) (fun i => RQ.sub (E' := [(0, Iv x0)]) ⟨O, trivial⟩ (bh O O)) O O O O O (aw (b := decide (x0 < (1 : Int))) (fun a => RQ.sub (E' := [(8, Iv x0)]) ⟨aH O a, trivial⟩ (cW O O O)) O O O O O (vq (fI O O O) O (ae (aa ?_)))))))))))))))
 refine aZ O (fun m => ?_) (fun n => ?_)
 refine sr (va O O (va O O (ae (aa (aA (aN ?_))))))
 exact aE () O O O (.s O .n)
 refine aC (aa (sr (vm O O (ax (fun h g => (ah (av (vs := [Iv x0]) (cap := []) (A := []) (rst := [F]) O O O O O O call39 (.s O .n) (gZ.calls _ _ x0 (hgl.lend 0 O)) g) O O O ?_))))))
 intro o
 refine va O O (ae (aa ?_))
 refine bJ (S := Lb) Unit (fun s y => [(4, str s)]) (fun s y => [F]) ?_ ?_
 refine aR ?_
 refine ck (S := Lb) Unit (fun k s => fj.l0 k s) (fun s y => [(4, str s)]) (fun s y => [F]) (fun _ => by rw [fj.l0]) ?_ k h () ⟨O, trivial⟩ (.s O .n)
 intro k e p
 refine cS (by rw [fj.l0]) (ay (sr (vm O O (vq (mC O O O underlying9) O (vq (cL O O O) O (ae (aa ?_)))))))
 refine bn O (fun j => ?_) (fun l => ?_)
 refine aC (aa (aR (aI (vm O O (bg (fun c => (vq (wU O O O c) O (va O O (ae (bo ?_))))))))))
 exact bM (s := ([48] : Lb) ++ e) () ⟨O, trivial⟩ (.s O .n)
 refine cA (ce (cl (cf ?_)))
 exact aG (s := e) () ⟨O, trivial⟩ (.s O .n)
 intro q t
 refine sr (vm O O (bg (fun d => (vq (wU O O O d) O (va O O (va O O (ae (aa (aA ?_)))))))))
 exact aE () O O O (.s O .n)

def bH.f (x0 : Int) : Option (Unit) := if x0 = (0 : Int) then (some ()) else (none)
theorem bH.calls (W : World) (F : HA) (x0 : Int)  :
    Fn Tryz.prog W 43 [Iv x0] [] F (bH.f x0) (fun (r : Unit) (y : Unit) => .tuple #[]) (fun r y => []) := by
 unfold bH.f
 refine aO 7 Tryz.func43 O Tryz.ntmps43 O (sr (vm O O (vq (dp O O O) O (ae (aa ?_)))))
 refine dd O (fun a => ?_) (fun b => ?_)
 refine aC ?_
 exact fZ () O O O (.s O .n)
 exact jf

def cD.f (k : Nat) (x0 : Int) : Option (List UInt8) := (fj.f k x0).bind fun a => ((bH.f a.2).bind fun b => (some a.1))
theorem cD.calls (W : World) (F : HA) (k : Nat) (x0 : Int) (hgl : Glb Tryz.prog F) :
    Fn Tryz.prog W 47 [Iv x0] [] F (cD.f k x0) (fun (r : Lb) (y : Unit) => str r) (fun r y => []) := by
 unfold cD.f
 refine aO 13 Tryz.func47 O Tryz.ntmps47 O (sr (va O O (nx (vm O O (ax (fun a b => (ah (av (vs := [Iv x0]) (cap := []) (A := []) (rst := [F]) O O O O O O call10 (.s O .n) (fj.calls _ _ k x0 (hgl.lend 0 O)) b) O O O ?_)))))))
 intro d
 refine vm O O (vq (bI O O O) O (vq (bI O O O) O (va O O (va O O (nx (vm O O (ax (fun e c => (ah (av (vs := [Iv a.2]) (cap := []) (A := []) (rst := [F]) O O O O O O call43 (.s O .n) (bH.calls _ _ a.2 ) c) O O O ?_)))))))))
 intro g
 refine nx (vm O O (va O O (ae (aa (aA ?_)))))
 exact aE () O O O (.s O .n)

def dW.l0 (x0 : List UInt8) : Nat → Int → Option ((Unit) ⊕ (Bool))
  | 0, _ => none
  | k + 1, a => if a < (x0.length : Int) then (if 0 ≤ a ∧ a < (x0.length : Int) then ((if ((decide (((x0.getD a.toNat 0).toNat : Int) < (97 : Int))) || (decide ((122 : Int) < ((x0.getD a.toNat 0).toNat : Int)))) = true then (some ((decide (((x0.getD a.toNat 0).toNat : Int) < (48 : Int))) || (decide ((57 : Int) < ((x0.getD a.toNat 0).toNat : Int))))) else (some false)).bind fun b => (if ((b && (!decide (((x0.getD a.toNat 0).toNat : Int) = (45 : Int)))) && (!decide (((x0.getD a.toNat 0).toNat : Int) = (46 : Int)))) = true then (some (.inr false)) else (dW.l0 x0 k (IntKind.i64.wrap (a + 1))))) else none) else (some (.inl ()))
def dW.f (k : Nat) (x0 : List UInt8) : Option (Bool) := orR (dW.l0 x0 k 0) fun a => (some ((decide ((0 : Int) < (x0.length : Int))) && (decide ((x0.length : Int) ≤ (32 : Int)))))
theorem dW.calls (W : World) (F : HA) (k : Nat) (x0 : Lb)  :
    Fn Tryz.prog W 56 [str x0] [] F (dW.f k x0) (fun (r : Bool) (y : Unit) => .bool r) (fun r y => []) := by
 unfold dW.f
 refine aO 44 Tryz.func56 O Tryz.ntmps56 O (sr (va O O (ae (aa ?_))))
 refine gi (S := Unit) Unit (fun s y => [(0, str x0)]) (fun s y => [F]) ?_ ?_
 refine sr (va O O (ae (aa (aR ?_))))
 refine ck (S := Int) Unit (fun k s => dW.l0 x0 k s) (fun s y => [(0, str x0), (3, Iv s)]) (fun s y => [F]) (fun _ => by rw [dW.l0]) ?_ k 0 () ⟨O, O, trivial⟩ (.s O .n)
 intro k a z
 refine cS (by rw [dW.l0]) (ay (sr (vm O O (vm O O (vq (mC O O O underlying9) O (vq (cL O O O) O (ae (aa ?_))))))))
 refine bn O (fun ab => ?_) (fun ad => ?_)
 refine aC (aa (ay (aR (sr (vm O O (vm O O (bg (fun d => (vq (yn O O O underlying9 d.1 d.2) O (va O O (nx (vm O O (vq (cL O O O) O (vm O O (aw (b := decide (((x0.getD a.toNat 0).toNat : Int) < (97 : Int))) (fun o => RQ.sub (E' := [(4, .int .u8 ((x0.getD a.toNat 0).toNat : Int))]) ⟨O, trivial⟩ (bh O O)) O O O O O (aw (b := decide (((x0.getD a.toNat 0).toNat : Int) < (97 : Int))) (fun e => RQ.sub (E' := [(17, .int .u8 ((x0.getD a.toNat 0).toNat : Int))]) ⟨aH O e, trivial⟩ (cW O O O)) O O O O O (vq (fI O O O) O (vm O O ?_))))))))))))))))))
 refine dG 7 (S := Bool) Unit (fun s y => [(0, str x0), (3, Iv a), (4, .int .u8 ((x0.getD a.toNat 0).toNat : Int)), (27, .bool s)]) (fun s y => [F]) ?_ ?_
 refine fv (fun g => ?_) (fun h => ?_)
 rw [g]
 refine aL (bh O O) O O O O O O (aL (cL O O O) O O O O O O (aL (bh O O) O O O O O O (aw (b := decide (((x0.getD a.toNat 0).toNat : Int) < (48 : Int))) (fun p => RQ.sub (E' := [(4, .int .u8 ((x0.getD a.toNat 0).toNat : Int))]) ⟨O, trivial⟩ (bh O O)) O O O O O (aw (b := decide (((x0.getD a.toNat 0).toNat : Int) < (48 : Int))) (fun i => RQ.sub (E' := [(24, .int .u8 ((x0.getD a.toNat 0).toNat : Int))]) ⟨aH O i, trivial⟩ (cW O O O)) O O O O O (aL (fI O O O) O O O O O O (vq (bS O O O O O) O (ae ?_)))))))
 exact aG (s := (decide (((x0.getD a.toNat 0).toNat : Int) < (48 : Int))) || (decide ((57 : Int) < ((x0.getD a.toNat 0).toNat : Int)))) () ⟨O, O, O, O, trivial⟩ (.s O .n)
 rw [h]
 refine aD O O O O O O (aD O O O O O O (aD O O O O O O (dc O O O O O (dc O O O O O (aD O O O O O O (vq (bS O O O O O) O (ae ?_)))))))
 exact aG (s := false) () ⟨O, O, O, O, trivial⟩ (.s O .n)
 intro c v
 refine vm O O (aw (b := c) (fun q => RQ.sub (E' := [(4, .int .u8 ((x0.getD a.toNat 0).toNat : Int))]) ⟨O, trivial⟩ (bh O O)) O O O O O (aw (b := c) (fun j => RQ.sub (E' := [(29, .int .u8 ((x0.getD a.toNat 0).toNat : Int))]) ⟨aH O j, trivial⟩ (dp O O O)) O O O O O (vq (dK O O O) O (vm O O (aw (b := c && (!decide (((x0.getD a.toNat 0).toNat : Int) = (45 : Int)))) (fun t => RQ.sub (E' := [(4, .int .u8 ((x0.getD a.toNat 0).toNat : Int))]) ⟨O, trivial⟩ (bh O O)) O O O O O (aw (b := c && (!decide (((x0.getD a.toNat 0).toNat : Int) = (45 : Int)))) (fun l => RQ.sub (E' := [(33, .int .u8 ((x0.getD a.toNat 0).toNat : Int))]) ⟨aH O l, trivial⟩ (dp O O O)) O O O O O (vq (dK O O O) O (ae (aa ?_)))))))))
 refine aZ O (fun w => ?_) (fun x => ?_)
 refine sr (va O O (ae (aa (aA (bp (aN (fw (bp (fi ?_)))))))))
 exact aE () O O O (.s O .n)
 refine aC (bo (aa (aI (vm O O (vq (bY O O O) O (va O O (ae ?_)))))))
 exact bM (s := IntKind.i64.wrap (a + 1)) () ⟨O, O, trivial⟩ (.s O .n)
 refine cA (ce (cl (cf ?_)))
 exact fN (s := ()) () ⟨O, trivial⟩ (.s O .n)
 intro af al
 refine sr (vm O O (vq (mC O O O underlying9) O (vq (cW O O O) O (vm O O (aw (b := decide ((0 : Int) < (x0.length : Int))) (fun u => RQ.sub (E' := [(0, str x0)]) ⟨O, trivial⟩ (bh O O)) O O O O O (aw (b := decide ((0 : Int) < (x0.length : Int))) (fun m => RQ.sub (E' := [(40, str x0)]) ⟨aH O m, trivial⟩ (mC O O O underlying9)) O O O O O (aw (b := decide ((0 : Int) < (x0.length : Int))) (fun n => RQ.sub (E' := [(41, Iv (x0.length : Int))]) ⟨aH O n, trivial⟩ (iQ O O O)) O O O O O (vq (dK O O O) O (va O O (ae (aa (aA ?_))))))))))))
 exact aE () O O O (.s O .n)

def cY.f (a : List ((List UInt8) × (List UInt8 × Int))) (b : List UInt8) (c : Int) (d : Bool) (x1 : List UInt8) : Option (Bool) := if (aU a x1).isSome = true then (some true) else (some false)
theorem cY.calls (W : World) (F : HA) (b0 : Nat) (b : Nat) (a : Kps) (c : List (Lb × (Lb × Int))) (d : Lb) (e : Int) (g : Bool) (x1 : Lb)  :
    Fn Tryz.prog W 57 [Pt b0, str x1] [W0 b0 b d e g, ao (aj b ar ak a) ai a c] F (cY.f c d e g x1) (fun (r : Bool) (y : Unit) => .bool r) (fun r y => [W0 b0 b d e g, ao (aj b ar ak a) ai a c]) := by
 unfold cY.f
 refine aO 12 Tryz.func57 O Tryz.ntmps57 O (sr (va O O (ae (aa (ay ?_)))))
 refine gj (fun h => ?_) (fun h => ?_)
 refine aI (vm O O (vn O O (vq (ap O O underlying97 O O sizeOf95 O) O (vq (ag O O isAgg95 (.obj 0 O O)) O (vm O O (vq ((kG (ek := ar) x1 (iI 1 O) h O O O underlying95 km : RQ _ _ _ _ (.pointer (some ⟨(da a x1), 0, none⟩)))) O (vq (wV O O O underlying107) O (va O O (ae (aa (aA ?_)))))))))))
 exact aE () O O O (.s O (.s O (.s O .n)))
 refine aI (vm O O (vn O O (vq (ap O O underlying97 O O sizeOf95 O) O (vq (ag O O isAgg95 (.obj 0 O O)) O (vm O O (vq (kH (ek := ar) x1 (iI 1 O) (jl h) O O O underlying95 km zeroValue107) O (vq (uz O O O underlying107) O (va O O (ae (aa (aA ?_)))))))))))
 exact aE () O O O (.s O (.s O (.s O .n)))
def cY.v (a : List ((List UInt8) × (List UInt8 × Int))) (b : List UInt8) (c : Int) (d : Bool) (x1 : List UInt8) : Bool := (cY.f a b c d x1).getD false
theorem cY.tot (a : List (Lb × (Lb × Int))) (b : Lb) (c : Int) (d : Bool) (x1 : Lb) : cY.f a b c d x1 = some (cY.v a b c d x1) := by
  have h : ∃ r, cY.f a b c d x1 = some r := by
    unfold cY.f
    repeat' (first | exact ⟨_, rfl⟩ | split | simp only [Option.bind_some])
  obtain ⟨r, h⟩ := h
  unfold cY.v
  rw [h]; rfl

def bR.f (d : List ((List UInt8) × (List UInt8 × Int))) (b : List UInt8) (a : Int) (c : Bool) : Option (Bool × List UInt8 × Int × Bool) := if a = (0 : Int) then (some (false, b, a, c)) else (some (decide (IntKind.i64.wrap (a - 1) = (0 : Int)), b, IntKind.i64.wrap (a - 1), decide (IntKind.i64.wrap (a - 1) = (0 : Int))))
theorem bR.calls (W : World) (F : HA) (b0 : Nat) (a : Nat) (b : Kps) (c : List (Lb × (Lb × Int))) (d : Lb) (e : Int) (g : Bool)  :
    Fn Tryz.prog W 58 [Pt b0] [W0 b0 a d e g, ao (aj a ar ak b) ai b c] F (bR.f c d e g) (fun (r : Bool × Lb × Int × Bool) (y : Unit) => .bool r.1) (fun r y => [W5 b0 a r.2, ao (aj a ar ak b) ai b c]) := by
 unfold bR.f
 refine aO 27 Tryz.func58 O Tryz.ntmps58 O (sr (va O O (ae (aa (ay (sr (vm O O (vn O O (vq (ap O O underlying97 O O sizeOf3 O) O (vq (ag O O isAgg3 (.obj 0 O O)) O (vq (bW O O O) O (ae (aa ?_)))))))))))))
 refine bn O (fun h => ?_) (fun i => ?_)
 refine sr (va O O (ae (aa (aA (aN ?_)))))
 exact aE () O O O (.s O (.s O (.s O .n)))
 refine aC (aa (sr (vm O O (vn O O (vq (ap O O underlying97 O O sizeOf3 O) O (vq (ag O O isAgg3 (.obj 0 O O)) O (vq (dC O O O) O (vn O O (vq (ap O O underlying97 O O sizeOf3 O) O (aY (aJ 0 O O O sizeOf3 O O (aP (by rfl)) O O) O O ?_))))))))))
 intro _
 refine nx (vm O O (vm O O (vn O O (vq (ap O O underlying97 O O sizeOf3 O) O (vq (ag O O isAgg3 (.obj 0 O O)) O (vq (bW O O O) O (vn O O (vq (ap O O underlying97 O O sizeOf4 O) O (aY (aJ 0 O O O sizeOf4 O O (aP (by rfl)) O O) O O ?_)))))))))
 intro _
 refine nx (vm O O (vn O O (vq (ap O O underlying97 O O sizeOf4 O) O (vq (ag O O isAgg4 (.obj 0 O O)) O (va O O (ae (aa (aA ?_))))))))
 exact aE () O O O (.s O (.s O (.s O .n)))
def bR.v (a : List ((List UInt8) × (List UInt8 × Int))) (b : List UInt8) (c : Int) (d : Bool) : Bool × List UInt8 × Int × Bool := (bR.f a b c d).getD (false, [], 0, false)
theorem bR.tot (a : List (Lb × (Lb × Int))) (b : Lb) (c : Int) (d : Bool) : bR.f a b c d = some (bR.v a b c d) := by
  have h : ∃ r, bR.f a b c d = some r := by
    unfold bR.f
    repeat' (first | exact ⟨_, rfl⟩ | split | simp only [Option.bind_some])
  obtain ⟨r, h⟩ := h
  unfold bR.v
  rw [h]; rfl

def fk.f (k : Nat) (a : List ((List UInt8) × (List UInt8 × Int))) (d : List UInt8) (e : Int) (b : Bool) (x1 : List UInt8) : Option (Int × (List ((List UInt8) × (List UInt8 × Int))) × List UInt8 × Int × Bool) := if b = true then (some (11, a, d, e, b)) else ((dW.f k x1).bind fun g => (if (!g) = true then (some (7, a, d, e, b)) else ((cY.f a d e b x1).bind fun h => (if h = true then (some (9, a, d, e, b)) else (if (256 : Int) ≤ (a.length : Int) then (some (10, a, d, e, b)) else ((bR.f a d e b).bind fun c => (if c.1 = true then (some (11, a, c.2.1, c.2.2.1, c.2.2.2)) else (some (0, aX a x1 (([] : List UInt8), (0 : Int)), c.2.1, c.2.2.1, c.2.2.2)))))))))
theorem fk.calls (W : World) (F : HA) (k : Nat) (b0 : Nat) (a : Nat) (b : Kps) (c : List (Lb × (Lb × Int))) (d : Lb) (e : Int) (g : Bool) (x1 : Lb)  :
    Fn Tryz.prog W 21 [Pt b0, str x1] [W0 b0 a d e g, ao (aj a ar ak b) ai b c] F (fk.f k c d e g x1) (fun (r : Int × (List (Lb × (Lb × Int))) × Lb × Int × Bool) (y : Nat × Kps) => Iv r.1) (fun r y => [W5 b0 y.1 r.2.2, ao (aj y.1 ar ak y.2) ai y.2 r.2.1]) := by
 unfold fk.f
 refine aO 35 Tryz.func21 O Tryz.ntmps21 O (sr (va O O (ae (aa (ay (aR (sr (vm O O (vn O O (vq (ap O O underlying97 O O sizeOf4 O) O (vq (ag O O isAgg4 (.obj 0 O O)) O (va O O (ae (aa ?_))))))))))))))
 refine aZ O (fun ab => ?_) (fun ad => ?_)
 refine sr (va O O (ae (aa (aA (bp (aN ?_))))))
 exact aE (a, b) O O O (.s O (.s O (.s O .n)))
 refine sr (vm O O (ax (fun af l => (ah (av (vs := [str x1]) (cap := []) (A := []) (rst := [W0 b0 a d e g, ao (aj a ar ak b) ai b c, F]) O O O O O O call56 (.s O (.s O (.s O .n))) (dW.calls _ _ k x1 ) l) O O O ?_))))
 intro al
 refine vq (fK O O) O (va O O (ae (aa ?_)))
 refine aZ O (fun an => ?_) (fun az => ?_)
 refine sr (va O O (ae (aa (aA (bp (aN ?_))))))
 exact aE (a, b) O O O (.s O (.s O (.s O .n)))
 refine sr (vm O O (vm O O (ax (fun a0 m => (ah (av (vs := [Pt b0, str x1]) (cap := []) (A := [W0 b0 a d e g, ao (aj a ar ak b) ai b c]) (rst := [F]) O O O O O O call57 (.s O (.s O (.s O .n))) (cY.calls _ _ b0 a b c d e g x1 ) m) O O O ?_)))))
 intro n
 refine va O O (ae (aa ?_))
 refine aZ O (fun o => ?_) (fun q => ?_)
 refine sr (va O O (ae (aa (aA (bp (aN ?_))))))
 exact aE (a, b) O O O (.s O (.s O (.s O .n)))
 refine sr (vm O O (vn O O (vq (ap O O underlying97 O O sizeOf95 O) O (vq (ag O O isAgg95 (.obj 0 O O)) O (vq (xo (iI 1 O) O O O underlying95) O (vq (kq O O O) O (va O O (ae (aa ?_)))))))))
 refine bn O (fun s => ?_) (fun t => ?_)
 refine sr (va O O (ae (aa (aA (bp (aN ?_))))))
 exact aE (a, b) O O O (.s O (.s O (.s O .n)))
 refine sr (vm O O (ax (fun i j => (ah (av (vs := [Pt b0]) (cap := []) (A := [W0 b0 a d e g, ao (aj a ar ak b) ai b c]) (rst := [F]) O O O O O O call58 (.s O (.s O (.s O .n))) (bR.calls _ _ b0 a b c d e g ) j) O O O ?_))))
 intro u
 refine va O O (ae (aa ?_))
 refine aZ O (fun w => ?_) (fun z => ?_)
 refine sr (va O O (ae (aa (aA (bp (aN ?_))))))
 exact aE (a, b) O O O (.s O (.s O (.s O .n)))
 refine aC (bo (aa (sr (vm O O (vn O O (vq (ap O O underlying97 O O sizeOf95 O) O (vq (ag O O isAgg95 (.obj 0 O O)) O (vm O O (vq (di (v := .agg #[.slice none 0 0, Iv 0]) O O (fun _ => by kernel_rfl)) O (ah (cq O O O) O O O ?_))))))))))
 intro h
 refine aY (vV (ek := ar) 2 x1 h O O O O underlying95 km O) O O ?_
 intro _
 refine bX (H' := [W5 b0 a i.2, ao (aj a ar ak (aX b x1 h)) ai (aX b x1 h) (aX c x1 (([] : Lb), (0 : Int))), F]) ((.sel 1 O (.foldU (x := x1) (p := h) (v := (([] : Lb), (0 : Int))) (none, 0) (.sel 1 O (.s O (.row_nil (.s O .n))))))) (nx (va O O (ae (aa (aA ?_)))))
 exact aE (a, aX b x1 h) O O O (.s O (.s O (.s O .n)))

def jL.f (d : Int) (e : Int) (g : Int) (b : Int) (c : Int) (a : List (aF)) : Option (Int × Int) := if (0 : Int) < (a.length : Int) then (if 0 ≤ IntKind.i64.wrap ((a.length : Int) - 1) ∧ IntKind.i64.wrap ((a.length : Int) - 1) < (a.length : Int) then (some ((a.getD (IntKind.i64.wrap ((a.length : Int) - 1)).toNat au).2.1, (a.getD (IntKind.i64.wrap ((a.length : Int) - 1)).toNat au).1)) else none) else (some (b, c))
theorem jL.calls (W : World) (F : HA) (b0 : Nat) (e : Int) (g : Int) (h : Int) (b : Int) (c : Int) (k : Option Addr) (d : Nat) (a : List aF) (q : RdV F 5 (aQ F) k a) (w : a.length ≤ d) (x : d ≤ maxLen) :
    Fn Tryz.prog W 61 [Pt b0] [W11 b0 e g h b c a k d] F (jL.f e g h b c a) (fun (r : Int × Int) (y : Unit) => .tuple #[Iv r.1, Iv r.2]) (fun r y => [W11 b0 e g h b c a k d]) := by
 unfold jL.f
 refine aO 34 Tryz.func61 O Tryz.ntmps61 O (sr (va O O (va O O (ae (aa (ay (sr (vm O O (vn O O (vq (ap O O underlying89 O O sizeOf87 O) O (vq (ag O O isAgg87 (.obj 0 O O)) O (vq (bx O O O underlying87) O (va O O (nx (vm O O (vq (cW O O O) O (ae (aa ?_))))))))))))))))))
 refine bn O (fun a0 => ?_) (fun a1 => ?_)
 refine sr (vm O O (vn O O (vq (ap O O underlying89 O O sizeOf87 O) O (vq (ag O O isAgg87 (.obj 0 O O)) O (vm O O (vq (dC O O O) O (bg (fun m => ?_))))))))
 obtain ⟨a2, al, a3, t, u, z, hcell10v⟩ := RdV.pos q (Up.refl _) rfl (i := (IntKind.i64.wrap ((a.length : Int) - 1)).toNat) (by omega) au
 obtain ⟨n, p, rfl, ⟨ab, ad, af⟩⟩ := u
 refine vq (cO O O O t underlying87 sizeOf144 m.1 m.2) O (vq (ap O O underlying144 O O sizeOf35 O) O (vq (cu (vs := [Iv ((a.getD (IntKind.i64.wrap ((a.length : Int) - 1)).toNat au).1), Iv ((a.getD (IntKind.i64.wrap ((a.length : Int) - 1)).toNat au).2.1), Iv ((a.getD (IntKind.i64.wrap ((a.length : Int) - 1)).toNat au).2.2.1), .slice n (((a.getD (IntKind.i64.wrap ((a.length : Int) - 1)).toNat au).2.2.2.1).length) p]) O O isAgg35 sizeOf35 O (fun j v hj => jt (hcell10v 1 O (0 + j) v (cR (off := 0) O j v hj)))) O (ah (bT O zeroValue35 O) O O O ?_)))
 intro l
 refine aY (aJ 0 O O O sizeOf35 O O (aP (by rfl)) O O) O O ?_
 intro _
 refine ae (aa (ay ?_))
 refine bi (Γ := Unit) () [[], [0], [], [2], [0, 1], rL 5] [] [0, 1, 2, 3, 4, 5] (fun i => [[0], [0], [0], [0], [0], [0]].getD i []) (fun i => [[], [], [], [], [], []].getD i []) (fun γ i => [.pointer (some ⟨l, 1, none⟩), Iv ((a.getD (IntKind.i64.wrap ((a.length : Int) - 1)).toNat au).2.1), Pt l, Iv ((a.getD (IntKind.i64.wrap ((a.length : Int) - 1)).toNat au).1), Iv ((a.getD (IntKind.i64.wrap ((a.length : Int) - 1)).toNat au).2.1), Iv ((a.getD (IntKind.i64.wrap ((a.length : Int) - 1)).toNat au).1)].getD i undef) (fun j γ => [[W12 l (a.getD (IntKind.i64.wrap ((a.length : Int) - 1)).toNat au) n p, W11 b0 e g h b c a k d, F]].getD j []) (fun γ => [(2, Iv ((a.getD (IntKind.i64.wrap ((a.length : Int) - 1)).toNat au).2.1)), (3, Iv ((a.getD (IntKind.i64.wrap ((a.length : Int) - 1)).toNat au).1))]) mixed (by decide) (by decide) (by decide) (by decide) (by decide) (by decide) (by decide) 34 O (by decide) (by decide) (by decide) (Ent.refl _) ?_ ?_ (fun _ => ⟨O, O, trivial⟩) ?_
 exact (aq O (fun γ => qp O O (.o (s := 5) O (by decide) .nil) (ap O O underlying35 O O sizeOf3 O) O) (aq O (fun γ => qp O O (.v 0 O O .nil) (ag O O isAgg3 (.obj 0 O O)) O) (aq O (fun γ => qp O O (.o (s := 5) O (by decide) .nil) (ap O O underlying35 O O sizeOf3 O) O) (aq O (fun γ => qp O O (.v 2 O O .nil) (ag O O isAgg3 (.obj 0 O O)) O) (aq O (fun γ => qp O O (.v 1 O O .nil) (cK O O) O) (aq O (fun γ => qp O O (.v 3 O O .nil) (cK O O) O) zA))))))
 exact zA
 intro an
 refine aa (aA (aN ?_))
 exact aE () O O O (.sel 1 O (.sel 1 O .n))
 refine aC (aa (ay ?_))
 refine bi (Γ := Unit) () [[], [0], [0, 1], [0, 1, 2], [], [4], [4, 5], [4, 5, 6], rL 4, rL 9] [] [0, 1, 2, 3, 4, 5, 6, 7, 8, 9] (fun i => [[0], [0], [0], [0], [0], [0], [0], [0], [0], [0]].getD i []) (fun i => [[], [], [], [], [], [], [], [], [], []].getD i []) (fun γ i => [Pt b0, Pt b0, .pointer (some ⟨b0, 3, none⟩), Iv b, Pt b0, Pt b0, .pointer (some ⟨b0, 4, none⟩), Iv c, Iv b, Iv c].getD i undef) (fun j γ => [[W11 b0 e g h b c a k d, F]].getD j []) (fun γ => [(2, Iv b), (3, Iv c)]) mixed (by decide) (by decide) (by decide) (by decide) (by decide) (by decide) (by decide) 34 O (by decide) (by decide) (by decide) (Ent.refl _) ?_ ?_ (fun _ => ⟨O, O, trivial⟩) ?_
 exact (aq O (fun γ => qm O (.o (s := 0) O (by decide) .nil) O) (aq O (fun γ => qp O O (.v 0 O O .nil) (aW O O) O) (aq O (fun γ => qp O O (.v 1 O O .nil) (ap O O underlying89 O O sizeOf3 O) O) (aq O (fun γ => qp O O (.v 2 O O .nil) (ag O O isAgg3 (.obj 0 O O)) O) (aq O (fun γ => qm O (.o (s := 0) O (by decide) .nil) O) (aq O (fun γ => qp O O (.v 4 O O .nil) (aW O O) O) (aq O (fun γ => qp O O (.v 5 O O .nil) (ap O O underlying89 O O sizeOf3 O) O) (aq O (fun γ => qp O O (.v 6 O O .nil) (ag O O isAgg3 (.obj 0 O O)) O) (aq O (fun γ => qp O O (.v 3 O O .nil) (cK O O) O) (aq O (fun γ => qp O O (.v 7 O O .nil) (cK O O) O) zA))))))))))
 exact zA
 intro az
 refine aa (aA ?_)
 exact aE () O O O (.s O (.s O .n))

def eS.f  : Option (List UInt8 × Int) := some (([] : List UInt8), 0)
theorem eS.calls (W : World) (F : HA)   :
    Fn Tryz.prog W 83 [] [] F (eS.f ) (fun (r : Lb × Int) (y : Nat × Option Addr × Nat) => Pt y.1) (fun r y => [obj y.1 160 [.slice y.2.1 r.1.length y.2.2, Iv r.2], Row 5 1 y.2.1 r.1.length y.2.2 (aB r.1)]) := by
 unfold eS.f
 refine aO 3 Tryz.func83 O Tryz.ntmps83 O (sr (va O O (nx (vq (di (v := .agg #[.slice none 0 0, Iv 0]) O O (fun _ => by kernel_rfl)) O (ah (cq O O O) O O O ?_)))))
 intro a
 refine va O O (ae (aa (aA ?_)))
 exact aE (a, none, 0) O O O (.s O (.row_nil (.s O .n)))

def eL.l0 : Nat → Int → Int → Option (Int)
  | 0, _, _ => none
  | k + 1, a, b => if (128 : Int) ≤ a then (eL.l0 k (Int.fdiv a (2 ^ (min (7 : Int).toNat IntKind.i64.bits))) (IntKind.i64.wrap (b + 1))) else (some b)
def eL.f (k : Nat) (x0 : Int) : Option (Int) := if ((decide (x0 < (0 : Int))) || (decide ((4611686018427387904 : Int) < x0))) = true then (some 0) else ((eL.l0 k x0 1).bind fun a => (some a))
theorem eL.calls (W : World) (F : HA) (k : Nat) (x0 : Int)  :
    Fn Tryz.prog W 106 [Iv x0] [] F (eL.f k x0) (fun (r : Int) (y : Unit) => Iv r) (fun r y => []) := by
 unfold eL.f
 refine aO 17 Tryz.func106 O Tryz.ntmps106 O (sr (va O O (ae (aa (ay (sr (vm O O (vq (cL O O O) O (vm O O (aw (b := decide (x0 < (0 : Int))) (fun d => RQ.sub (E' := [(0, Iv x0)]) ⟨O, trivial⟩ (bh O O)) O O O O O (aw (b := decide (x0 < (0 : Int))) (fun c => RQ.sub (E' := [(7, Iv x0)]) ⟨aH O c, trivial⟩ (cW O O O)) O O O O O (vq (fI O O O) O (ae (aa ?_))))))))))))))
 refine aZ O (fun g => ?_) (fun h => ?_)
 refine sr (va O O (ae (aa (aA (aN ?_)))))
 exact aE () O O O (.s O .n)
 refine aC (aa (sr (va O O (ae (aa ?_)))))
 refine bJ (S := Int) Unit (fun s y => [(3, Iv s)]) (fun s y => [F]) ?_ ?_
 refine aR ?_
 refine ck (S := Int × Int) Unit (fun k s => eL.l0 k s.1 s.2) (fun s y => [(0, Iv s.1), (3, Iv s.2)]) (fun s y => [F]) (fun _ => by rw [eL.l0]) ?_ k (x0, 1) () ⟨O, O, trivial⟩ (.s O .n)
 intro k a i
 refine cS (by rw [eL.l0]) (ay (sr (vm O O (vq (kq O O O) O (ae (aa ?_))))))
 refine bn O (fun j => ?_) (fun e => ?_)
 refine aC (aa (aR (sr (vm O O (vq (ng O O O (by decide)) O (va O O (ny (vm O O (vq (bY O O O) O (va O O (ae (bo ?_))))))))))))
 exact bM (s := (Int.fdiv a.1 (2 ^ (min (7 : Int).toNat IntKind.i64.bits)), IntKind.i64.wrap (a.2 + 1))) () ⟨O, O, trivial⟩ (.s O .n)
 refine cA (ce (cl (cf ?_)))
 exact aG (s := a.2) () ⟨O, trivial⟩ (.s O .n)
 intro l m
 refine sr (vm O O (va O O (ae (aa (aA ?_)))))
 exact aE () O O O (.s O .n)

def cX.l0 {S : Type} (step : S → Int → Option S) : Nat → Int → S → Option (Int × S)
  | 0, _, _ => none
  | k + 1, a, b => if (128 : Int) ≤ a then ((step b (IntKind.u8.wrap (bU .or .i64 (bU .and .i64 a 127) 128))).bind fun c => (cX.l0 step k (Int.fdiv a (2 ^ (min (7 : Int).toNat IntKind.i64.bits))) c)) else (some (a, b))
def cX.f {S : Type} (k : Nat) (step : S → Int → Option S) (s0 : S) (b : Int) : Option (S) := (cX.l0 step k b s0).bind fun a => ((step a.2 (IntKind.u8.wrap a.1)).bind fun c => (some c))
theorem cX.calls (W : World) (F : HA) (k : Nat) (S Y : Type) (l : Nat) (step : S → Int → Option S) (A : S → Y → HA) (s0 : S) (y0 : Y) (b1 : Nat) (a : Int) (hY : nh Tryz.prog W l (fun (x : Int) => [.int .u8 x]) step A) :
    Fn Tryz.prog W 126 [.func (.yield l) #[] #[], Pt b1] [A s0 y0, obj b1 3 [Iv a]] F (cX.f k step s0 a) (fun (r : S) (y : Y) => .tuple #[]) (fun r y => [A r y, obj b1 3 [Iv a]]) := by
 unfold cX.f
 refine aO 20 Tryz.func126 O Tryz.ntmps126 O (sr (vq (ag O O isAgg3 (.obj 1 O O)) O (va O O (ae (aa ?_)))))
 refine bJ (S := Int × S) Y (fun s y => [(0, .func (.yield l) #[] #[]), (3, Iv s.1)]) (fun s y => [obj b1 3 [Iv a], A s.2 y, F]) ?_ ?_
 refine aR ?_
 refine ck (S := Int × S) Y (fun k s => cX.l0 step k s.1 s.2) (fun s y => [(0, .func (.yield l) #[] #[]), (3, Iv s.1)]) (fun s y => [obj b1 3 [Iv a], A s.2 y, F]) (fun _ => by rw [cX.l0]) ?_ k (a, s0) y0 ⟨O, O, trivial⟩ (.sel 1 O (.s O (.s O .n)))
 intro k b h
 refine cS (by rw [cX.l0]) (ay (sr (vm O O (vq (kq O O O) O (ae (aa ?_))))))
 refine bn O (fun n => ?_) (fun o => ?_)
 refine aC (aa (aR (ay (sr (vm O O (vm O O (vq (qO O O O) O (vq (oy O O O) O (vq (gA O O underlying3 underlying5) O (ax (fun i c => (ah (qP (IntKind.u8.wrap (bU .or .i64 (bU .and .i64 b.1 127) 128)) 1 O O O O O O hY O c) O O O ?_))))))))))))
 intro e
 refine vq (fK O O) O (ae (aa (gq O (aC (aa (aI (vm O O (vq (ng O O O (by decide)) O (va O O (ae (bo ?_)))))))))))
 exact bM (s := (Int.fdiv b.1 (2 ^ (min (7 : Int).toNat IntKind.i64.bits)), i)) e ⟨O, O, trivial⟩ (.s O (.s O (.s O .n)))
 refine cA (ce (cl (cf ?_)))
 exact aG (s := b) h ⟨O, O, trivial⟩ (.s O (.s O (.s O .n)))
 intro j p
 refine aI (vm O O (vm O O (vq (gA O O underlying3 underlying5) O (ax (fun m d => (ah (qP (IntKind.u8.wrap j.1) 1 O O O O O O hY O d) O O O ?_))))))
 intro g
 refine ae ?_
 exact fZ g O O O (.sel 1 O (.s O (.s O .n)))

def iZ.f (x0 : Int) : Option (Int) := some x0
theorem iZ.calls (W : World) (F : HA) (x0 : Int)  :
    Fn Tryz.prog W 107 [Iv x0] [] F (iZ.f x0) (fun (r : Int) (y : Nat) => .func (.func 126) #[] #[Pt y]) (fun r y => [obj y 3 [Iv r]]) := by
 unfold iZ.f
 refine aO 4 Tryz.func107 O Tryz.ntmps107 O (sr (ah (cq O O O) O O O ?_))
 intro a
 refine va O O (nx (vq (gY O O O) O (va O O (ae (aa (aA ?_))))))
 exact aE a O O O (.s O (.s O .n))

def bz.f (k : Nat) (b : List UInt8) (c : Int) (x1 : Int) : Option (List UInt8 × Int) := if c = (0 : Int) then ((eL.f k x1).bind fun g => (if g = (0 : Int) then (some (b, 1)) else ((iZ.f x1).bind fun h => ((cX.f k (fun (d : List UInt8) (a : Int) => if 0 ≤ a ∧ a < 256 then (if (d.length + ([(dL a)] : List UInt8).length) * 1 ≤ 140737488355328 then (some (d ++ ([(dL a)] : List UInt8))) else none) else none) b h).bind fun e => (some (e, c)))))) else (some (b, c))
theorem bz.calls (W : World) (F : HA) (k : Nat) (b0 : Nat) (g : Option Addr) (h : Nat) (d : Lb) (e : Int) (x1 : Int)  :
    Fn Tryz.prog W 84 [Pt b0, Iv x1] [obj b0 160 [.slice g d.length h, Iv e], Row 5 1 g d.length h (aB d)] F (bz.f k d e x1) (fun (r : Lb × Int) (y : Option Addr × Nat) => .tuple #[]) (fun r y => [obj b0 160 [.slice y.1 r.1.length y.2, Iv r.2], Row 5 1 y.1 r.1.length y.2 (aB r.1)]) := by
 unfold bz.f
 refine pw 29 Tryz.func84 O Tryz.ntmps84 O (sr (ah (cq O O O) O O O ?_))
 intro m
 refine ae (aa (ay (sr (vq (ag O O isAgg133 (.obj 0 O O)) O (vn O O (vq (ap O O underlying160 O O sizeOf23 O) O (vq (ag O O isAgg23 (.obj 1 O O)) O (vq (dp O O O) O (ae (aa ?_))))))))))
 refine dd O (fun an => ?_) (fun az => ?_)
 refine aC (aa (ay (sr (vm O O (ax (fun a0 al => (ah (av (vs := [Iv x1]) (cap := []) (A := []) (rst := [obj m 133 [Pt b0], obj b0 160 [.slice g d.length h, Iv e], Row 5 1 g d.length h (aB d), F]) O O O O O O call106 (.s O (.s O (.s O (.s O .n)))) (eL.calls _ _ k x1 ) al) O O O ?_)))))))
 intro a1
 refine vq (bW O O O) O (ae (aa ?_))
 refine bn O (fun a2 => ?_) (fun a3 => ?_)
 refine sr (vq (ag O O isAgg133 (.obj 0 O O)) O (vn O O (vq (ap O O underlying160 O O sizeOf23 O) O (aY (aJ 1 O O O sizeOf23 O O (aP (by rfl)) O O) O O ?_))))
 intro _
 refine ae (aa (aA (aN ?_)))
 exact ni [] (g, h) O O O (.sel 1 O (.sel 1 O (.sel 1 O .n)))
 refine aC (aa (sr (vm O O (ax (fun q ab => (ah (av (vs := [Iv x1]) (cap := []) (A := []) (rst := [obj m 133 [Pt b0], obj b0 160 [.slice g d.length h, Iv e], Row 5 1 g d.length h (aB d), F]) O O O O O O call107 (.s O (.s O (.s O (.s O .n)))) (iZ.calls _ _ x1 ) ab) O O O ?_))))))
 intro p
 refine ae (aa (aR ?_))
 refine uJ (S := Lb) (Y := Option Addr × Nat) (R' := Lb) (Y' := (Option Addr × Nat)) (ps := [18]) (Cap := [obj p 3 [Iv q]]) (rst := []) (CapB := fun r y => [obj p 3 [Iv q]]) (enc := fun (x : Int) => [.int .u8 x]) (oN := cX.f k (fun (a : Lb) (b : Int) => if 0 ≤ b ∧ b < 256 then (if (a.length + ([(dL b)] : Lb).length) * 1 ≤ 140737488355328 then (some (a ++ ([(dL b)] : Lb))) else none) else none) d q) (fun s y => [obj m 133 [Pt b0], obj b0 160 [.slice y.1 s.length y.2, Iv e], Row 5 1 y.1 s.length y.2 (aB s), F]) d (g, h) (fun a b c => [(2, Pt m), (4, .int .u8 b)]) (fun r => r) (fun r y => y) O O call126 (fun l A hY X => cX.calls _ _ k _ _ l _ A _ _ p q hY) O (fun _ => O) (.sel 1 O (.sel 1 O (.sel 1 O (.sel 1 O (.s O .n))))) ?_ ?_ ?_
 intro l a b c Fr
 refine fm (H' := [obj m 133 [Pt b0], obj b0 160 [.slice c.1 a.length c.2, Iv e], Row 5 1 c.1 a.length c.2 (aB a), F, Fr]) (Ent.refl _) (aI (va O O (ae ?_)))
 exact aG () ⟨O, O, trivial⟩ (Ent.refl _)
 intro l a b c Fr
 refine fm (H' := [obj m 133 [Pt b0], obj b0 160 [.slice c.1 a.length c.2, Iv e], Row 5 1 c.1 a.length c.2 (aB a), F, Fr]) (Ent.refl _) (aR (cG (fun ad => (cG (fun af => ?_)))))
 refine bi (Γ := Nat × (Option Addr × Nat)) (0, (none, 0)) [[], [], [1], [1, 2], [1, 2, 3], [], [5], [1, 2, 3, 4, 5, 6], rL 8, rL 9, rL 10] [6, 7, 10] [0, 1, 2, 3, 4, 5, 8, 9] (fun i => [[0, 1, 2], [0, 1], [0, 1], [0, 1], [0, 1], [0], [], [], [2], [2], []].getD i []) (fun i => [[], [], [], [], [], [], rL 6, rL 7, [], [], rL 10].getD i []) (fun γ i => [Pt b0, Pt b0, Pt b0, Pt b0, .slice c.1 a.length c.2, .int .u8 b, .slice (some ⟨γ.1, 0, none⟩) (([(dL b)] : Lb).length) 1, .slice γ.2.1 ((a ++ ([(dL b)] : Lb)).length) γ.2.2, Pt b0, Pt b0, undef].getD i undef) (fun j γ => [[obj m 133 [Pt b0], obj b0 160 [.slice c.1 a.length c.2, Iv e], Row 5 1 c.1 a.length c.2 (aB a), F, Fr], [Row 5 1 (some ⟨γ.1, 0, none⟩) ([(dL b)] : Lb).length 1 (aB ([(dL b)] : Lb)), obj m 133 [Pt b0], obj b0 160 [.slice c.1 a.length c.2, Iv e], Row 5 1 c.1 a.length c.2 (aB a), F, Fr], [Row 5 1 (some ⟨γ.1, 0, none⟩) ([(dL b)] : Lb).length 1 (aB ([(dL b)] : Lb)), obj m 133 [Pt b0], obj b0 160 [.slice c.1 a.length c.2, Iv e], Row 5 1 γ.2.1 (a ++ ([(dL b)] : Lb)).length γ.2.2 (aB (a ++ ([(dL b)] : Lb))), F, Fr], [Row 5 1 (some ⟨γ.1, 0, none⟩) ([(dL b)] : Lb).length 1 (aB ([(dL b)] : Lb)), obj m 133 [Pt b0], obj b0 160 [.slice γ.2.1 ((a ++ ([(dL b)] : Lb)).length) γ.2.2, Iv e], Row 5 1 γ.2.1 (a ++ ([(dL b)] : Lb)).length γ.2.2 (aB (a ++ ([(dL b)] : Lb))), F, Fr]].getD j []) (fun γ => []) mixed (by decide) (by decide) (by decide) (by decide) (by decide) (by decide) (by decide) 29 O (by decide) (by decide) (by decide) (Ent.refl _) ?_ ?_ (fun _ => trivial) ?_
 exact (ac (fun γ => (ac (qp O O (.o (s := 2) O (by decide) .nil) (ag O O isAgg133 (.obj 0 O O)) O) (ac (qp O O (.o (s := 2) O (by decide) .nil) (ag O O isAgg133 (.obj 1 O O)) O) (ac (qp O O (.o (s := 2) O (by decide) .nil) (ag O O isAgg133 (.obj 1 O O)) O) zA)))) (ac (fun γ => (ac (qp O O (.o (s := 2) O (by decide) .nil) (ag O O isAgg133 (.obj 0 O O)) O) (ac (qp O O (.o (s := 2) O (by decide) .nil) (ag O O isAgg133 (.obj 1 O O)) O) zA))) (ac (fun γ => (ac (qp O O (.v 1 O O .nil) (aW O O) O) (ac (qp O O (.v 1 O O .nil) (aW O O) O) zA))) (ac (fun γ => (ac (qp O O (.v 2 O O .nil) (ap O O underlying160 O O sizeOf33 O) O) (ac (qp O O (.v 2 O O .nil) (ap O O underlying160 O O sizeOf33 O) O) zA))) (ac (fun γ => (ac (qp O O (.v 3 O O .nil) (ag O O isAgg33 (.obj 1 O O)) O) (ac (qp O O (.v 3 O O .nil) (ag O O isAgg33 (.obj 2 O O)) O) zA))) (aq O (fun γ => qm O (.o (s := 4) O (by decide) .nil) O) (aq O (fun γ => qp O O (.v 0 O O .nil) (aW O O) O) (aq O (fun γ => qp O O (.v 8 O O .nil) (ap O O underlying160 O O sizeOf33 O) O) zA))))))))
 exact (ac (fun γ => eo (Z := Nat) (fun z => (z, γ.2)) O O (.v 5 O O .nil) (oV (cs := [.int .u8 b]) ([(dL b)] : Lb) O O underlying33 ig O (by kernel_rfl) O O (uK ad)) (fun _ => ⟨O, O, O, O, O, O, trivial⟩) (fun _ => .inr O) (fun z => Ent.refl _)) (ac (fun γ => eo (Z := Option Addr × Nat) (fun z => (γ.1, z)) O O (.v 4 O O (.v 6 O O .nil)) (fV 3 O O O underlying33 ig O (Rds.row 0 O) af) (fun _ => ⟨O, O, O, O, O, O, O, trivial⟩) (fun _ => .inr O) (fun z => Ent.refl _)) (ac (fun γ => eo (Z := Unit) (fun z => (γ.1, γ.2)) O O (.v 7 O O (.v 9 O O .nil)) (aJ 2 O O O sizeOf33 O O (aP (by rfl)) O O) (fun _ => ⟨O, O, O, O, O, O, O, O, O, O, trivial⟩) (fun _ => .inl O) (fun z => Ent.refl _)) zA)))
 intro u
 refine bo ?_
 exact aG (s := a ++ ([(dL b)] : Lb)) u.2 trivial (.sel 1 O (.sel 1 O (.sel 1 O (.sel 1 O (.sel 1 O .n)))))
 intro w t n
 refine oX (H' := [iT w, obj m 133 [Pt b0], obj b0 160 [.slice n.1 t.length n.2, Iv e], Row 5 1 n.1 t.length n.2 (aB t), F, obj p 3 [Iv q]]) (Ent.refl _) (bo ?_)
 exact xp [w] n O O O (.s O (.sel 1 O (.sel 1 O (.sel 1 O .n))))
 refine aA (aN ?_)
 exact ni [] (g, h) O O O (.sel 1 O (.sel 1 O (.sel 1 O .n)))

def ct.f (x0 : Int) (x1 : Int) : Option (Bool) := some ((decide (x1 ≤ x0)) && (decide (x0 ≤ (4611686018427387904 : Int))))
theorem ct.calls (W : World) (F : HA) (x0 : Int) (x1 : Int)  :
    Fn Tryz.prog W 105 [Iv x0, Iv x1] [] F (ct.f x0 x1) (fun (r : Bool) (y : Unit) => .bool r) (fun r y => []) := by
 unfold ct.f
 refine aO 12 Tryz.func105 O Tryz.ntmps105 O (sr (va O O (nx (vm O O (vm O O (vq (kq O O O) O (vm O O (aw (b := decide (x1 ≤ x0)) (fun c => RQ.sub (E' := [(0, Iv x0)]) ⟨O, trivial⟩ (bh O O)) O O O O O (aw (b := decide (x1 ≤ x0)) (fun a => RQ.sub (E' := [(9, Iv x0)]) ⟨aH O a, trivial⟩ (iQ O O O)) O O O O O (vq (dK O O O) O (va O O (ae (aa (aA ?_))))))))))))))
 exact aE () O O O (.s O .n)
def ct.v (x0 : Int) (x1 : Int) : Bool := (ct.f x0 x1).getD false
theorem ct.tot (x0 : Int) (x1 : Int) : ct.f x0 x1 = some (ct.v x0 x1) := by
  have h : ∃ r, ct.f x0 x1 = some r := by
    unfold ct.f
    repeat' (first | exact ⟨_, rfl⟩ | split | simp only [Option.bind_some])
  obtain ⟨r, h⟩ := h
  unfold ct.v
  rw [h]; rfl

def bG.f (c : Int) (d : Int) (a : Int) (b : List UInt8) : Option (Int) := (ct.f c (1 : Int)).bind fun e => ((if (!e) = true then (some true) else ((ct.f d (1 : Int)).bind fun g => (some (!g)))).bind fun h => (if h = true then (some 1) else (if ((!decide (a = (0 : Int))) && (!decide (a = (1 : Int)))) = true then (some 6) else (if (4096 : Int) < (b.length : Int) then (some 3) else (if ((decide (a = (0 : Int))) && (decide ((0 : Int) < (b.length : Int)))) = true then (some 4) else (some 0))))))
theorem bG.calls (W : World) (F : HA) (d : Int) (e : Int) (a : Int) (h : Option Addr) (g : Nat) (c : Lb) (ad : Rd F h (aB c)) (w : c.length ≤ g) (x : g ≤ maxLen) :
    Fn Tryz.prog W 79 [.agg #[], .agg #[Iv d, Iv e, Iv a, .slice h c.length g]] [] F (bG.f d e a c) (fun (r : Int) (y : Unit) => Iv r) (fun r y => []) := by
 unfold bG.f
 refine aO 40 Tryz.func79 O Tryz.ntmps79 O (sr (ah (cq O O O) O O O ?_))
 intro q
 refine ah (cq O O O) O O O ?_
 intro i
 refine va O O (ae (aa (ay (aR (sr (vq (ap O O underlying35 O O sizeOf3 O) O (vq (ag O O isAgg3 (.obj 0 O O)) O (ax (fun a5 t => (ah (av (vs := [Iv d, Iv 1]) (cap := []) (A := []) (rst := [W10 i d e a c h g, obj q 131 [], F]) O O O O O O call105 (.s O (.s O (.s O .n))) (ct.calls _ _ d (1 : Int) ) t) O O O ?_))))))))))
 intro a6
 refine vq (fK O O) O (vm O O ?_)
 refine dG 5 (S := Bool) Unit (fun s y => [(3, Pt i), (15, .bool s)]) (fun s y => [W10 i d e a c h g, F]) ?_ ?_
 refine fv (fun j => ?_) (fun k => ?_)
 rw [j]
 refine aD O O O O O O (aD O O O O O O (aD O O O O O O (aD O O O O O O (vq (bS O O O O O) O (ae ?_)))))
 exact aG (s := true) () ⟨O, O, trivial⟩ (.s O (.sel 1 O .n))
 rw [k]
 refine aL (ap O O underlying35 O O sizeOf3 O) O O O O O O (aL (ag O O isAgg3 (.obj 0 O O)) O O O O O O (ax (fun v u => (ga (av (vs := [Iv e, Iv 1]) (cap := []) (A := []) (rst := [W10 i d e a c h g, obj q 131 [], F]) O O O O O O call105 (.s O (.s O (.s O .n))) (ct.calls _ _ e (1 : Int) ) u) O O O O O O ?_))))
 intro af
 refine aL (fK O O) O O O O O O (vq (bS O O O O O) O (ae ?_))
 exact aG (s := !v) () ⟨O, O, trivial⟩ (.s O (.sel 1 O .n))
 intro a7 a8
 refine va O O (ae (aa ?_))
 refine aZ O (fun al => ?_) (fun an => ?_)
 refine sr (va O O (ae (aa (aA (bp (aN ?_))))))
 exact aE () O O O (.sel 1 O .n)
 refine sr (vq (ap O O underlying35 O O sizeOf3 O) O (vq (ag O O isAgg3 (.obj 0 O O)) O (vq (dp O O O) O (vm O O (aw (b := !decide (a = (0 : Int))) (fun z => RQ.sub (E' := [(3, Pt i)]) ⟨O, trivial⟩ (ap O O underlying35 O O sizeOf3 O)) O O O O O (aw (b := !decide (a = (0 : Int))) (fun l => RQ.sub (E' := [(21, .pointer (some ⟨i, 2, none⟩))]) ⟨aH O l, trivial⟩ (ag O O isAgg3 (.obj 0 O O))) O O O O O (aw (b := !decide (a = (0 : Int))) (fun m => RQ.sub (E' := [(22, Iv a)]) ⟨aH O m, trivial⟩ (dp O O O)) O O O O O (vq (dK O O O) O (va O O (ae (aa ?_)))))))))))
 refine aZ O (fun az => ?_) (fun a0 => ?_)
 refine sr (va O O (ae (aa (aA (bp (aN ?_))))))
 exact aE () O O O (.sel 1 O .n)
 refine sr (vq (ap O O underlying35 O O sizeOf33 O) O (vq (ag O O isAgg33 (.obj 0 O O)) O (vq (bx O O O underlying33) O (vq (cW O O O) O (va O O (ae (aa ?_)))))))
 refine bn O (fun a1 => ?_) (fun a2 => ?_)
 refine sr (va O O (ae (aa (aA (bp (aN ?_))))))
 exact aE () O O O (.sel 1 O .n)
 refine sr (vq (ap O O underlying35 O O sizeOf3 O) O (vq (ag O O isAgg3 (.obj 0 O O)) O (vq (bW O O O) O (vm O O (aw (b := decide (a = (0 : Int))) (fun ab => RQ.sub (E' := [(3, Pt i)]) ⟨O, trivial⟩ (ap O O underlying35 O O sizeOf33 O)) O O O O O (aw (b := decide (a = (0 : Int))) (fun n => RQ.sub (E' := [(35, .pointer (some ⟨i, 3, none⟩))]) ⟨aH O n, trivial⟩ (ag O O isAgg33 (.obj 0 O O))) O O O O O (aw (b := decide (a = (0 : Int))) (fun o => RQ.sub (E' := [(36, .slice h c.length g)]) ⟨aH O o, trivial⟩ (bx O O O underlying33)) O O O O O (aw (b := decide (a = (0 : Int))) (fun p => RQ.sub (E' := [(37, Iv (c.length : Int))]) ⟨aH O p, trivial⟩ (cW O O O)) O O O O O (vq (dK O O O) O (va O O (ae (aa ?_))))))))))))
 refine aZ O (fun a3 => ?_) (fun a4 => ?_)
 refine sr (va O O (ae (aa (aA (bp (aN ?_))))))
 exact aE () O O O (.sel 1 O .n)
 refine aC (bo (aa (sr (va O O (ae (aa (aA ?_)))))))
 exact aE () O O O (.sel 1 O .n)
def bG.v (a : Int) (b : Int) (c : Int) (d : List UInt8) : Int := (bG.f a b c d).getD 0
theorem bG.tot (a : Int) (b : Int) (c : Int) (d : Lb) : bG.f a b c d = some (bG.v a b c d) := by
  have h : ∃ r, bG.f a b c d = some r := by
    unfold bG.f
    repeat' (first | exact ⟨_, rfl⟩ | split | simp only [Option.bind_some, ct.tot])
  obtain ⟨r, h⟩ := h
  unfold bG.v
  rw [h]; rfl

def dJ.f (k : Nat) (b : List UInt8) (c : Int) (x1 : List UInt8) (x2 : Int) : Option (List UInt8 × Int) := (if ((decide (c = (0 : Int))) && (decide (max x2 (0 : Int) < (x1.length : Int)))) = true then (some 3) else (some c)).bind fun d => (if d = (0 : Int) then ((bz.f k b d (x1.length : Int)).bind fun a => (if (a.1.length + x1.length) * 1 ≤ 140737488355328 then (some (a.1 ++ x1, a.2)) else none)) else (some (b, d)))
theorem dJ.calls (W : World) (F : HA) (k : Nat) (b0 : Nat) (c : Option Addr) (d : Nat) (a : Lb) (e : Int) (a1 : Option Addr) (c1 : Nat) (x1 : Lb) (x2 : Int) (h1 : Rd F a1 (aB x1)) (w : x1.length ≤ c1) (x : c1 ≤ maxLen) :
    Fn Tryz.prog W 86 [Pt b0, .slice a1 x1.length c1, Iv x2] [obj b0 160 [.slice c a.length d, Iv e], Row 5 1 c a.length d (aB a)] F (dJ.f k a e x1 x2) (fun (r : Lb × Int) (y : Option Addr × Nat) => .tuple #[]) (fun r y => [obj b0 160 [.slice y.1 r.1.length y.2, Iv r.2], Row 5 1 y.1 r.1.length y.2 (aB r.1)]) := by
 unfold dJ.f
 refine aO 39 Tryz.func86 O Tryz.ntmps86 O ?_
 refine bJ (S := Int) Unit (fun s y => [(0, Pt b0), (1, .slice a1 x1.length c1)]) (fun s y => [obj b0 160 [.slice c a.length d, Iv s], Row 5 1 c a.length d (aB a), F]) ?_ ?_
 refine sr (vm O O (vn O O (vq (ap O O underlying160 O O sizeOf23 O) O (vq (ag O O isAgg23 (.obj 0 O O)) O (vq (bW O O O) O (vm O O (aw (b := decide (e = (0 : Int))) (fun o => RQ.sub (E' := [(1, .slice a1 x1.length c1)]) ⟨O, trivial⟩ (bh O O)) O O O O O (aw (b := decide (e = (0 : Int))) (fun m => RQ.sub (E' := [(12, .slice a1 x1.length c1)]) ⟨aH O m, trivial⟩ (bx O O O underlying33)) O O O O O (aw (b := decide (e = (0 : Int))) (fun p => RQ.sub (E' := [(2, Iv x2)]) ⟨O, trivial⟩ (bh O O)) O O O O O (aw (b := decide (e = (0 : Int))) (fun n => RQ.sub (E' := [(14, Iv x2)]) ⟨aH O n, trivial⟩ (tE O O O)) O O O O O (aw (b := decide (e = (0 : Int))) (fun g => RQ.sub (E' := [(13, Iv (x1.length : Int)), (15, Iv (max x2 (0 : Int)))]) ⟨aH O g, aH O g, trivial⟩ (cW O O O)) O O O O O (vq (dK O O O) O (ae (aa ?_))))))))))))))
 refine aZ O (fun z => ?_) (fun ab => ?_)
 refine aI (vm O O (vn O O (vq (ap O O underlying160 O O sizeOf23 O) O (aY (aJ 0 O O O sizeOf23 O O (aP (by rfl)) O O) O O ?_))))
 intro _
 refine ae ?_
 exact aG (s := 3) () ⟨O, O, trivial⟩ (.s O (.s O (.s O .n)))
 refine aC ?_
 exact aG (s := e) () ⟨O, O, trivial⟩ (.s O (.s O (.s O .n)))
 intro l ad
 refine ay (sr (vm O O (vn O O (vq (ap O O underlying160 O O sizeOf23 O) O (vq (ag O O isAgg23 (.obj 0 O O)) O (vq (dp O O O) O (ae (aa ?_))))))))
 refine dd O (fun q => ?_) (fun t => ?_)
 refine aC (aa (sr (vm O O (vm O O (vq (bx O O O underlying33) O (ax (fun u i => (ah (av (vs := [Pt b0, Iv (x1.length : Int)]) (cap := []) (A := [obj b0 160 [.slice c a.length d, Iv l], Row 5 1 c a.length d (aB a)]) (rst := [F]) O O O O O O call84 (.s O (.s O (.s O .n))) (bz.calls _ _ k b0 c d a l (x1.length : Int) ) i) O O O ?_))))))))
 intro v
 refine ny (vm O O (vm O O (vn O O (vq (ap O O underlying160 O O sizeOf33 O) O (vq (ag O O isAgg33 (.obj 0 O O)) O (vm O O (bg (fun j => ?_))))))))
 refine ah (fV 1 O O O underlying33 ig O (h1.rds 1 O) j) O O O ?_
 intro h
 refine vn O O (vq (ap O O underlying160 O O sizeOf33 O) O (aY (aJ 0 O O O sizeOf33 O O (aP (by rfl)) O O) O O ?_))
 intro _
 refine ae ?_
 exact fZ h O O O (.s O (.s O (.s O .n)))
 refine aA (aN ?_)
 exact aE (c, d) O O O (.s O (.s O (.s O .n)))

def fd.f (k : Nat) (e : List UInt8) (g : Int) (h : Int) (i : Int) (j : Int) (l : List UInt8) : Option (List UInt8 × Int) := (bz.f k e g h).bind fun b => ((bz.f k b.1 b.2 i).bind fun c => ((bz.f k c.1 c.2 j).bind fun d => ((dJ.f k d.1 d.2 l (4096 : Int)).bind fun a => (some (a.1, a.2)))))
theorem fd.calls (W : World) (F : HA) (k : Nat) (b0 : Nat) (i : Option Addr) (j : Nat) (h : Lb) (s : Int) (b1 : Nat) (c : Int) (d : Int) (e : Int) (g : Option Addr) (b : Nat) (a : Lb) (x : Rd F g (aB a)) (u : a.length ≤ b) (v : b ≤ maxLen) :
    Fn Tryz.prog W 109 [Pt b0, Pt b1] [obj b0 160 [.slice i h.length j, Iv s], Row 5 1 i h.length j (aB h), W10 b1 c d e a g b] F (fd.f k h s c d e a) (fun (r : Lb × Int) (y : Option Addr × Nat) => .tuple #[]) (fun r y => [obj b0 160 [.slice y.1 r.1.length y.2, Iv r.2], Row 5 1 y.1 r.1.length y.2 (aB r.1), W10 b1 c d e a g b]) := by
 unfold fd.f
 refine aO 19 Tryz.func109 O Tryz.ntmps109 O (sr (vm O O (vq (ap O O underlying35 O O sizeOf3 O) O (vq (ag O O isAgg3 (.obj 2 O O)) O (ax (fun l z => (ah (av (vs := [Pt b0, Iv c]) (cap := []) (A := [obj b0 160 [.slice i h.length j, Iv s], Row 5 1 i h.length j (aB h)]) (rst := [W10 b1 c d e a g b, F]) O O O O O O call84 (.s O (.s O (.s O (.s O .n)))) (bz.calls _ _ k b0 i j h s c ) z) O O O ?_)))))))
 intro m
 refine nx (vm O O (vq (ap O O underlying35 O O sizeOf3 O) O (vq (ag O O isAgg3 (.obj 2 O O)) O (ax (fun n ab => (ah (av (vs := [Pt b0, Iv d]) (cap := []) (A := [obj b0 160 [.slice m.1 l.1.length m.2, Iv l.2], Row 5 1 m.1 l.1.length m.2 (aB l.1)]) (rst := [W10 b1 c d e a g b, F]) O O O O O O call84 (.s O (.s O (.s O (.s O .n)))) (bz.calls _ _ k b0 m.1 m.2 l.1 l.2 d ) ab) O O O ?_))))))
 intro o
 refine nx (vm O O (vq (ap O O underlying35 O O sizeOf3 O) O (vq (ag O O isAgg3 (.obj 2 O O)) O (ax (fun p ad => (ah (av (vs := [Pt b0, Iv e]) (cap := []) (A := [obj b0 160 [.slice o.1 n.1.length o.2, Iv n.2], Row 5 1 o.1 n.1.length o.2 (aB n.1)]) (rst := [W10 b1 c d e a g b, F]) O O O O O O call84 (.s O (.s O (.s O (.s O .n)))) (bz.calls _ _ k b0 o.1 o.2 n.1 n.2 e ) ad) O O O ?_))))))
 intro q
 refine ny (vm O O (vq (ap O O underlying35 O O sizeOf33 O) O (vq (ag O O isAgg33 (.obj 2 O O)) O (ax (fun af w => (ah (av (vs := [Pt b0, .slice g a.length b, Iv 4096]) (cap := []) (A := [obj b0 160 [.slice q.1 p.1.length q.2, Iv p.2], Row 5 1 q.1 p.1.length q.2 (aB p.1)]) (rst := [W10 b1 c d e a g b, F]) O O O O O O call86 (.s O (.s O (.s O (.s O .n)))) (dJ.calls _ _ k b0 q.1 q.2 p.1 p.2 g b a (4096 : Int) (x.lend 1 O) u v) w) O O O ?_))))))
 intro t
 refine ae ?_
 exact fZ t O O O (.s O (.s O (.s O (.s O .n))))

def fx.f (x0 : List UInt8) : Option (List UInt8) := if 0 ≤ (x0.length : Int) ∧ (x0.length : Int) ≤ (x0.length : Int) ∧ (x0.length : Int) * 1 ≤ 140737488355328 then (some (jU (List.replicate (x0.length : Int).toNat (0 : UInt8)) x0)) else none
theorem fx.calls (W : World) (F : HA) (a0 : Option Addr) (c0 : Nat) (x0 : Lb) (h0 : Rd F a0 (aB x0)) (c : x0.length ≤ c0) (e : c0 ≤ maxLen) :
    Fn Tryz.prog W 110 [.slice a0 x0.length c0] [] F (fx.f x0) (fun (r : Lb) (y : Option Addr × Nat) => .slice y.1 r.length y.2) (fun r y => [Row 5 1 y.1 r.length y.2 (aB r)]) := by
 unfold fx.f
 refine aO 11 Tryz.func110 O Tryz.ntmps110 O (sr (va O O (nx (vm O O (vq (bx O O O underlying33) O (bg (fun a => (ah (lX O O O underlying33 ig a.1 a.2.1 a.2.2) O O O ?_))))))))
 intro b
 refine va O O (nx (vm O O (vm O O ?_)))
 refine ah (vW 0 O O O underlying33 ig O (h0.rds 1 O)) O O O ?_
 intro _
 refine nM (.slice (some ⟨b, 0, none⟩) ((jU (List.replicate (x0.length : Int).toNat (0 : UInt8)) x0).length) ((x0.length : Int).toNat)) (d := 6) O (pa (jy _ _).symm) (nM (.slice (some ⟨b, 0, none⟩) ((jU (List.replicate (x0.length : Int).toNat (0 : UInt8)) x0).length) ((x0.length : Int).toNat)) (d := 3) O (pa (jy _ _).symm) (nM (.slice (some ⟨b, 0, none⟩) ((jU (List.replicate (x0.length : Int).toNat (0 : UInt8)) x0).length) ((x0.length : Int).toNat)) (d := 7) O (pa (jy _ _).symm) (nx (vm O O (va O O (ae (aa (aA ?_))))))))
 exact aE ((some ⟨b, 0, none⟩), (x0.length : Int).toNat) O O O (.s O (.s O .n))

def dF.f (b : List UInt8) (a : Int) : Option (List UInt8 × Int) := if a = (0 : Int) then ((fx.f b).bind fun c => (some (c, 0))) else (some (([] : List UInt8), a))
theorem dF.calls (W : World) (F : HA) (b0 : Nat) (d : Option Addr) (b : Nat) (a : Lb) (c : Int) (k : Rd F d (aB a)) (e : a.length ≤ b) (g : b ≤ maxLen) :
    Fn Tryz.prog W 87 [Pt b0] [obj b0 160 [.slice d a.length b, Iv c]] F (dF.f a c) (fun (r : Lb × Int) (y : Option Addr × Nat) => .tuple #[.slice y.1 r.1.length y.2, Iv r.2]) (fun r y => [Row 5 1 y.1 r.1.length y.2 (aB r.1), obj b0 160 [.slice d a.length b, Iv c]]) := by
 unfold dF.f
 refine aO 18 Tryz.func87 O Tryz.ntmps87 O (sr (va O O (va O O (ae (aa (ay (sr (vm O O (vn O O (vq (ap O O underlying160 O O sizeOf23 O) O (vq (ag O O isAgg23 (.obj 0 O O)) O (vq (dp O O O) O (ae (aa ?_))))))))))))))
 refine dd O (fun m => ?_) (fun n => ?_)
 refine aC (aa (sr (vm O O (vn O O (vq (ap O O underlying160 O O sizeOf33 O) O (vq (ag O O isAgg33 (.obj 0 O O)) O (ax (fun p l => (ah (av (vs := [.slice d a.length b]) (cap := []) (A := []) (rst := [obj b0 160 [.slice d a.length b, Iv c], F]) O O O O O O call110 (.s O (.s O .n)) (fx.calls _ _ d b a (k.lend 1 O) e g) l) O O O ?_)))))))))
 intro h
 refine va O O (va O O (ae (aa (aA ?_))))
 exact aE h O O O (.s O (.s O (.s O .n)))
 refine ay ?_
 refine bi (Γ := Unit) () [[], [0], [0, 1], [0, 1, 2], [], rL 5] [] [0, 1, 2, 3, 4, 5] (fun i => [[0], [0], [0], [0], [0], [0]].getD i []) (fun i => [[], [], [], [], [], []].getD i []) (fun γ i => [Pt b0, Pt b0, .pointer (some ⟨b0, 1, none⟩), Iv c, .slice none 0 0, Iv c].getD i undef) (fun j γ => [[obj b0 160 [.slice d a.length b, Iv c], F]].getD j []) (fun γ => [(2, .slice none 0 0), (3, Iv c)]) mixed (by decide) (by decide) (by decide) (by decide) (by decide) (by decide) (by decide) 18 O (by decide) (by decide) (by decide) (Ent.refl _) ?_ ?_ (fun _ => ⟨O, O, trivial⟩) ?_
 exact (aq O (fun γ => qm O (.o (s := 0) O (by decide) .nil) O) (aq O (fun γ => qp O O (.v 0 O O .nil) (aW O O) O) (aq O (fun γ => qp O O (.v 1 O O .nil) (ap O O underlying160 O O sizeOf23 O) O) (aq O (fun γ => qp O O (.v 2 O O .nil) (ag O O isAgg23 (.obj 0 O O)) O) (aq O (fun γ => qp O O .nil (cK O O) O) (aq O (fun γ => qp O O (.v 3 O O .nil) (cK O O) O) zA))))))
 exact zA
 intro q
 refine aa (aA (aN ?_))
 exact aE (none, 0) O O O (.row_nil (.s O (.s O .n)))

def dt.f (k : Nat) (x0 : Int) (b : Int) (c : Int) (d : Int) (e : List UInt8) : Option (List UInt8 × Int) := if x0 = (0 : Int) then ((eS.f).bind fun g => ((fd.f k g.1 g.2 b c d e).bind fun h => ((dF.f h.1 h.2).bind fun a => (some (a.1, a.2))))) else (some (([] : List UInt8), x0))
theorem dt.calls (W : World) (F : HA) (k : Nat) (x0 : Int) (i : Nat) (c : Int) (d : Int) (e : Int) (g : Option Addr) (b : Nat) (a : Lb) (q : Rd F g (aB a)) (n : a.length ≤ b) (o : b ≤ maxLen) :
    Fn Tryz.prog W 108 [Iv x0, .func (.func 109) #[] #[Pt i]] [W10 i c d e a g b] F (dt.f k x0 c d e a) (fun (r : Lb × Int) (y : Option Addr × Nat) => .tuple #[.slice y.1 r.1.length y.2, Iv r.2]) (fun r y => [Row 5 1 y.1 r.1.length y.2 (aB r.1), W10 i c d e a g b]) := by
 unfold dt.f
 refine aO 18 Tryz.func108 O Tryz.ntmps108 O (sr (va O O (va O O (ae (aa (ay (sr (vm O O (vq (dp O O O) O (ae (aa ?_)))))))))))
 refine dd O (fun ad => ?_) (fun af => ?_)
 refine aC (aa (sr (ax (fun j v => (ah (av (vs := []) (cap := []) (A := []) (rst := [W10 i c d e a g b, F]) O O O O O O call83 (.s O (.s O .n)) (eS.calls _ _  ) v) O O O ?_)))))
 intro h
 refine va O O (nx (vm O O (vm O O (ax (fun l w => (ah (av (vs := [Pt h.1]) (cap := [Pt i]) (A := [obj h.1 160 [.slice h.2.1 j.1.length h.2.2, Iv j.2], Row 5 1 h.2.1 j.1.length h.2.2 (aB j.1), W10 i c d e a g b]) (rst := [F]) O O O O O O call109 (.s O (.s O (.s O (.s O .n)))) (fd.calls _ _ k h.1 h.2.1 h.2.2 j.1 j.2 i c d e g b a (q.lend 0 O) n o) w) O O O ?_))))))
 intro m
 refine nx (vm O O (ax (fun ab s => (ba 1 O (fun x t u z => (ah (av (vs := [Pt h.1]) (cap := []) (A := [obj h.1 160 [.slice m.1 l.1.length m.2, Iv l.2]]) (rst := [Row 5 1 m.1 l.1.length m.2 (aB l.1), W10 i c d e a g b, F]) O O O O O O call87 (.s O (.s O (.s O (.s O .n)))) (dF.calls _ _ h.1 m.1 m.2 l.1 l.2 (x.lend 0 O) t u) s) O O O ?_))))))
 intro p
 refine vq (bI O O O) O (vq (bI O O O) O (va O O (va O O (ae (aa (aA ?_))))))
 exact aE p O O O (.s O (.sel 2 O (.sel 2 O .n)))
 refine sr (vm O O (va O O (va O O (ae (aa (aA (aN ?_)))))))
 exact aE (none, 0) O O O (.row_nil (.s O (.s O .n)))

def eW.f (k : Nat) (a : Int) (b : Int) (c : Int) (d : List UInt8) : Option (List UInt8 × Int) := (bG.f a b c d).bind fun g => ((dt.f k g a b c d).bind fun e => (some (e.1, e.2)))
theorem eW.calls (W : World) (F : HA) (k : Nat) (c : Int) (d : Int) (e : Int) (g : Option Addr) (b : Nat) (a : Lb) (l : Rd F g (aB a)) (h : a.length ≤ b) (i : b ≤ maxLen) :
    Fn Tryz.prog W 85 [.agg #[], .agg #[Iv c, Iv d, Iv e, .slice g a.length b]] [] F (eW.f k c d e a) (fun (r : Lb × Int) (y : Option Addr × Nat) => .tuple #[.slice y.1 r.1.length y.2, Iv r.2]) (fun r y => [Row 5 1 y.1 r.1.length y.2 (aB r.1)]) := by
 unfold eW.f
 refine aO 13 Tryz.func85 O Tryz.ntmps85 O (sr (ah (cq O O O) O O O ?_))
 intro m
 refine ah (cq O O O) O O O ?_
 intro j
 refine va O O (va O O (nx (vq (co 1 O O isAgg131 sizeOf131 O O) O (vq (co 0 O O isAgg35 sizeOf35 O O) O (ax (fun n p => (ah (av (vs := [.agg #[], .agg #[Iv c, Iv d, Iv e, .slice g a.length b]]) (cap := []) (A := []) (rst := [W10 j c d e a g b, obj m 131 [], F]) O O O O O O call79 (.s O (.s O (.s O .n))) (bG.calls _ _ c d e g b a (l.lend 2 O) h i) p) O O O ?_)))))))
 intro s
 refine vq (gY O O O) O (ax (fun t q => (ah (av (vs := [Iv n, .func (.func 109) #[] #[Pt j]]) (cap := []) (A := [W10 j c d e a g b]) (rst := [obj m 131 [], F]) O O O O O O call108 (.s O (.s O (.s O .n))) (dt.calls _ _ k n j c d e g b a (l.lend 1 O) h i) q) O O O ?_)))
 intro o
 refine vq (bI O O O) O (vq (bI O O O) O (va O O (va O O (ae (aa (aA ?_))))))
 exact aE o O O O (.s O (.sel 2 O .n))

def gk.f (x0 : Int) : Option (List UInt8) := if 0 ≤ IntKind.u8.wrap x0 ∧ IntKind.u8.wrap x0 < 256 then (if 0 ≤ IntKind.u8.wrap (Int.fdiv x0 (2 ^ (min (8 : Int).toNat IntKind.u32.bits))) ∧ IntKind.u8.wrap (Int.fdiv x0 (2 ^ (min (8 : Int).toNat IntKind.u32.bits))) < 256 then (if 0 ≤ IntKind.u8.wrap (Int.fdiv x0 (2 ^ (min (16 : Int).toNat IntKind.u32.bits))) ∧ IntKind.u8.wrap (Int.fdiv x0 (2 ^ (min (16 : Int).toNat IntKind.u32.bits))) < 256 then (if 0 ≤ IntKind.u8.wrap (Int.fdiv x0 (2 ^ (min (24 : Int).toNat IntKind.u32.bits))) ∧ IntKind.u8.wrap (Int.fdiv x0 (2 ^ (min (24 : Int).toNat IntKind.u32.bits))) < 256 then (some ([(dL (IntKind.u8.wrap x0)), (dL (IntKind.u8.wrap (Int.fdiv x0 (2 ^ (min (8 : Int).toNat IntKind.u32.bits))))), (dL (IntKind.u8.wrap (Int.fdiv x0 (2 ^ (min (16 : Int).toNat IntKind.u32.bits))))), (dL (IntKind.u8.wrap (Int.fdiv x0 (2 ^ (min (24 : Int).toNat IntKind.u32.bits)))))] : List UInt8)) else none) else none) else none) else none
theorem gk.calls (W : World) (F : HA) (x0 : Int)  :
    Fn Tryz.prog W 127 [.int .u32 x0] [] F (gk.f x0) (fun (r : Lb) (y : Option Addr × Nat) => .slice y.1 r.length y.2) (fun r y => [Row 5 1 y.1 r.length y.2 (aB r)]) := by
 unfold gk.f
 refine aO 15 Tryz.func127 O Tryz.ntmps127 O (sr (va O O (nx (vm O O (vq (gA O O underlying149 underlying5) O (vm O O (vq (ng O O O (by decide)) O (vq (gA O O underlying149 underlying5) O (vm O O (vq (ng O O O (by decide)) O (vq (gA O O underlying149 underlying5) O (vm O O (vq (ng O O O (by decide)) O (vq (gA O O underlying149 underlying5) O (bg (fun a => (bg (fun b => (bg (fun c => (bg (fun d => (ah (oV (cs := [.int .u8 (IntKind.u8.wrap x0), .int .u8 (IntKind.u8.wrap (Int.fdiv x0 (2 ^ (min (8 : Int).toNat IntKind.u32.bits)))), .int .u8 (IntKind.u8.wrap (Int.fdiv x0 (2 ^ (min (16 : Int).toNat IntKind.u32.bits)))), .int .u8 (IntKind.u8.wrap (Int.fdiv x0 (2 ^ (min (24 : Int).toNat IntKind.u32.bits))))]) ([(dL (IntKind.u8.wrap x0)), (dL (IntKind.u8.wrap (Int.fdiv x0 (2 ^ (min (8 : Int).toNat IntKind.u32.bits))))), (dL (IntKind.u8.wrap (Int.fdiv x0 (2 ^ (min (16 : Int).toNat IntKind.u32.bits))))), (dL (IntKind.u8.wrap (Int.fdiv x0 (2 ^ (min (24 : Int).toNat IntKind.u32.bits)))))] : Lb) O O underlying33 ig O (by kernel_rfl) O O (lY (ik a.1 a.2) (lY (ik b.1 b.2) (lY (ik c.1 c.2) (lY (ik d.1 d.2) xq))))) O O O ?_)))))))))))))))))))))))
 intro e
 refine va O O (ae (aa (aA ?_)))
 exact aE ((some ⟨e, 0, none⟩), 4) O O O (.s O (.s O .n))

def ca.l1 : Nat → Int → Int → Option (Int)
  | 0, _, _ => none
  | k + 1, a, b => if b < (8 : Int) then (if bU .and .u32 a 1 = (1 : Int) then (ca.l1 k (bU .xor .u32 (Int.fdiv a (2 ^ (min (1 : Int).toNat IntKind.u32.bits))) 2197175160) (IntKind.i64.wrap (b + 1))) else (ca.l1 k (Int.fdiv a (2 ^ (min (1 : Int).toNat IntKind.u32.bits))) (IntKind.i64.wrap (b + 1)))) else (some a)
def ca.l0 (x1 : List UInt8) : Nat → Int → Int → Option (Int)
  | 0, _, _ => none
  | k + 1, b, a => if a < (x1.length : Int) then ((if 0 ≤ a ∧ a < (x1.length : Int) then (ca.l1 k (bU .xor .u32 b (IntKind.u32.wrap ((x1.getD a.toNat 0).toNat : Int))) 0) else none).bind fun c => (ca.l0 x1 k c (IntKind.i64.wrap (a + 1)))) else (some b)
def ca.f (k : Nat) (x0 : Int) (x1 : List UInt8) : Option (Int) := (ca.l0 x1 k x0 0).bind fun a => (some a)
theorem ca.calls (W : World) (F : HA) (k : Nat) (x0 : Int) (a1 : Option Addr) (c1 : Nat) (x1 : Lb) (h1 : Rd F a1 (aB x1)) (q : x1.length ≤ c1) (t : c1 ≤ maxLen) :
    Fn Tryz.prog W 95 [.int .u32 x0, .slice a1 x1.length c1] [] F (ca.f k x0 x1) (fun (r : Int) (y : Unit) => .int .u32 r) (fun r y => []) := by
 unfold ca.f
 refine aO 31 Tryz.func95 O Tryz.ntmps95 O (sr (va O O (ae (aa ?_))))
 refine bJ (S := Int) Unit (fun s y => [(0, .int .u32 s)]) (fun s y => [F]) ?_ ?_
 refine sr (vm O O (vq (bx O O O underlying33) O (vm O O (ae (aa (aR ?_))))))
 refine ck (S := Int × Int) Unit (fun k s => ca.l0 x1 k s.1 s.2) (fun s y => [(0, .int .u32 s.1), (8, .slice a1 x1.length c1), (9, Iv (x1.length : Int)), (10, Iv s.2)]) (fun s y => [F]) (fun _ => by rw [ca.l0]) ?_ k (x0, 0) () ⟨O, O, O, O, trivial⟩ (.s O .n)
 intro k a u
 refine cS (by rw [ca.l0]) (sr (vq (cL O O O) O (ae (aa (ay ?_)))))
 refine bn O (fun v => ?_) (fun w => ?_)
 refine aC (aa ?_)
 refine bJ (S := Int) Unit (fun s y => [(0, .int .u32 s), (8, .slice a1 x1.length c1), (9, Iv (x1.length : Int)), (10, Iv a.2)]) (fun s y => [F]) ?_ ?_
 refine aR (sr (bg (fun c => ?_)))
 obtain ⟨h, g, d⟩ := h1.pos (iS (j := a.2.toNat) (by omega))
 refine vq (jv O O O d underlying33 sizeOf5 c.1 c.2) O (vq (ag O O isAgg5 (h1.cell 0 O d (il (by omega)))) O (va O O (nx (vm O O (vm O O (vq (gA O O underlying5 underlying149) O (vq (uL O O O) O (va O O (nx (vm O O (ae (aa (aR ?_)))))))))))))
 refine ck (S := Int × Int) Unit (fun k s => ca.l1 k s.1 s.2) (fun s y => [(0, .int .u32 s.1), (8, .slice a1 x1.length c1), (9, Iv (x1.length : Int)), (10, Iv a.2), (18, Iv s.2)]) (fun s y => [F]) (fun _ => by rw [ca.l1]) ?_ k (bU .xor .u32 a.1 (IntKind.u32.wrap ((x1.getD a.2.toNat 0).toNat : Int)), 0) () ⟨O, O, O, O, O, trivial⟩ (.s O .n)
 intro k b i
 refine cS (by rw [ca.l1]) (sr (vq (cL O O O) O (ae (aa (ay ?_)))))
 refine bn O (fun l => ?_) (fun m => ?_)
 refine aC (aa (ay (aR (sr (vm O O (vq (qO O O O) O (va O O (nx (vm O O (vq (ng O O O (by decide)) O (va O O (nx (vm O O (vq (bW O O O) O (ae (aa ?_))))))))))))))))
 refine bn O (fun n => ?_) (fun o => ?_)
 refine aI (vm O O (vq (uL O O O) O (va O O (ae (bo (aa (aI (vq (bY O O O) O (vm O O (ae ?_))))))))))
 exact bM (s := (bU .xor .u32 (Int.fdiv b.1 (2 ^ (min (1 : Int).toNat IntKind.u32.bits))) 2197175160, IntKind.i64.wrap (b.2 + 1))) () ⟨O, O, O, O, O, trivial⟩ (.s O .n)
 refine aC (bo (aa (aI (vq (bY O O O) O (vm O O (ae ?_))))))
 exact bM (s := (Int.fdiv b.1 (2 ^ (min (1 : Int).toNat IntKind.u32.bits)), IntKind.i64.wrap (b.2 + 1))) () ⟨O, O, O, O, O, trivial⟩ (.s O .n)
 refine cA (ce (cl (cf (bo ?_))))
 exact aG (s := b.1) () ⟨O, O, O, O, trivial⟩ (.s O .n)
 intro e p
 refine aI (vq (bY O O O) O (vm O O (ae ?_)))
 exact bM (s := (e, IntKind.i64.wrap (a.2 + 1))) () ⟨O, O, O, O, trivial⟩ (.s O .n)
 refine cA (ce (cl (cf ?_)))
 exact aG (s := a.1) () ⟨O, trivial⟩ (.s O .n)
 intro x z
 refine sr (vm O O (va O O (ae (aa (aA ?_)))))
 exact aE () O O O (.s O .n)

def iG.f (k : Nat) (x0 : List UInt8) (x1 : List UInt8) : Option (List UInt8) := (gk.f (IntKind.u32.wrap (x1.length : Int))).bind fun a => ((ca.f k (4294967295 : Int) a).bind fun d => ((ca.f k d x1).bind fun c => (if (x0.length + a.length) * 1 ≤ 140737488355328 then ((gk.f (bU .xor .u32 (if IntKind.u32.signed then -1 else IntKind.u32.max) c)).bind fun b => (if ((x0 ++ a).length + b.length) * 1 ≤ 140737488355328 then (if (((x0 ++ a) ++ b).length + x1.length) * 1 ≤ 140737488355328 then (some (((x0 ++ a) ++ b) ++ x1)) else none) else none)) else none)))
theorem iG.calls (W : World) (F : HA) (k : Nat) (a0 : Option Addr) (c0 : Nat) (x0 : Lb) (a1 : Option Addr) (c1 : Nat) (x1 : Lb) (h1 : Rd F a1 (aB x1)) (t : x1.length ≤ c1) (u : c1 ≤ maxLen) :
    Fn Tryz.prog W 111 [.slice a0 x0.length c0, .slice a1 x1.length c1] [Row 5 1 a0 x0.length c0 (aB x0)] F (iG.f k x0 x1) (fun (r : Lb) (y : Option Addr × Nat) => .slice y.1 r.length y.2) (fun r y => [Row 5 1 y.1 r.length y.2 (aB r)]) := by
 unfold iG.f
 refine aO 26 Tryz.func111 O Tryz.ntmps111 O (sr (va O O (nx (vm O O (vq (bx O O O underlying33) O (vq (gA O O underlying3 underlying149) O (ax (fun a n => (ah (av (vs := [.int .u32 (IntKind.u32.wrap (x1.length : Int))]) (cap := []) (A := []) (rst := [Row 5 1 a0 x0.length c0 (aB x0), F]) O O O O O O call127 (.s O (.s O .n)) (gk.calls _ _ (IntKind.u32.wrap (x1.length : Int)) ) n) O O O ?_)))))))))
 intro b
 refine va O O (nx (vm O O (ax (fun m o => (ba 0 O (fun p q s v => (ah (av (vs := [.int .u32 4294967295, .slice b.1 a.length b.2]) (cap := []) (A := []) (rst := [Row 5 1 b.1 a.length b.2 (aB a), Row 5 1 a0 x0.length c0 (aB x0), F]) O O O O O O call95 (.s O (.s O (.s O .n))) (ca.calls _ _ k (4294967295 : Int) b.1 b.2 a (p.lend 0 O) q s) o) O O O ?_)))))))
 intro w
 refine vm O O (ax (fun c g => (ah (av (vs := [.int .u32 m, .slice a1 x1.length c1]) (cap := []) (A := []) (rst := [Row 5 1 b.1 a.length b.2 (aB a), Row 5 1 a0 x0.length c0 (aB x0), F]) O O O O O O call95 (.s O (.s O (.s O .n))) (ca.calls _ _ k m a1 c1 x1 (h1.lend 2 O) t u) g) O O O ?_)))
 intro x
 refine vq (tU O O) O (va O O (nx (vm O O (vm O O (bg (fun h => (ah (fV 1 O O O underlying33 ig O (Rds.row 0 O) h) O O O ?_)))))))
 intro d
 refine va O O (nx (vm O O (vm O O (ax (fun z i => (ah (av (vs := [.int .u32 (bU .xor .u32 (if IntKind.u32.signed then -1 else IntKind.u32.max) c)]) (cap := []) (A := []) (rst := [Row 5 1 b.1 a.length b.2 (aB a), Row 5 1 d.1 (x0 ++ a).length d.2 (aB (x0 ++ a)), F]) O O O O O O call127 (.s O (.s O (.s O .n))) (gk.calls _ _ (bU .xor .u32 (if IntKind.u32.signed then -1 else IntKind.u32.max) c) ) i) O O O ?_))))))
 intro ab
 refine bg (fun j => (ah (fV 2 O O O underlying33 ig O (Rds.row 0 O) j) O O O ?_))
 intro ad
 refine va O O (nx (vm O O (vm O O (bg (fun l => ?_)))))
 refine ah (fV 2 O O O underlying33 ig O (h1.rds 2 O) l) O O O ?_
 intro e
 refine va O O (ae (aa (aA ?_)))
 exact aE e O O O (.sel 2 O (.sel 2 O .n))

def ib.f (k : Nat) (x0 : List UInt8) : Option (List UInt8 × Int) := if (1048576 : Int) < (x0.length : Int) then (some (([] : List UInt8), 3)) else (if 0 ≤ (0 : Int) ∧ (0 : Int) ≤ IntKind.i64.wrap (8 + (x0.length : Int)) ∧ IntKind.i64.wrap (8 + (x0.length : Int)) * 1 ≤ 140737488355328 then ((iG.f k (List.replicate (0 : Int).toNat (0 : UInt8)) x0).bind fun a => (some (a, 0))) else none)
theorem ib.calls (W : World) (F : HA) (k : Nat) (a0 : Option Addr) (c0 : Nat) (x0 : Lb) (h0 : Rd F a0 (aB x0)) (e : x0.length ≤ c0) (g : c0 ≤ maxLen) :
    Fn Tryz.prog W 88 [.slice a0 x0.length c0] [] F (ib.f k x0) (fun (r : Lb × Int) (y : Option Addr × Nat) => .tuple #[.slice y.1 r.1.length y.2, Iv r.2]) (fun r y => [Row 5 1 y.1 r.1.length y.2 (aB r.1)]) := by
 unfold ib.f
 refine aO 13 Tryz.func88 O Tryz.ntmps88 O (sr (va O O (va O O (ae (aa (ay (sr (vm O O (vq (bx O O O underlying33) O (vq (cW O O O) O (ae (aa ?_))))))))))))
 refine bn O (fun h => ?_) (fun i => ?_)
 refine sr (va O O (va O O (ae (aa (aA (aN ?_))))))
 exact aE (none, 0) O O O (.row_nil (.s O .n))
 refine aC (aa (sr (vm O O (vq (bx O O O underlying33) O (vq (bY O O O) O (bg (fun a => (ah (lX O O O underlying33 ig a.1 a.2.1 a.2.2) O O O ?_))))))))
 intro b
 refine vm O O (ax (fun j d => (ah (av (vs := [.slice (some ⟨b, 0, none⟩) ((List.replicate (0 : Int).toNat (0 : UInt8)).length) ((IntKind.i64.wrap (8 + (x0.length : Int))).toNat), .slice a0 x0.length c0]) (cap := []) (A := [Row 5 1 (some ⟨b, 0, none⟩) (List.replicate (0 : Int).toNat (0 : UInt8)).length ((IntKind.i64.wrap (8 + (x0.length : Int))).toNat) (aB (List.replicate (0 : Int).toNat (0 : UInt8)))]) (rst := [F]) O O O O O O call111 (.s O (.s O .n)) (iG.calls _ _ k (some ⟨b, 0, none⟩) ((IntKind.i64.wrap (8 + (x0.length : Int))).toNat) (List.replicate (0 : Int).toNat (0 : UInt8)) a0 c0 x0 (h0.lend 0 O) e g) d) O O O ?_)))
 intro c
 refine va O O (va O O (ae (aa (aA ?_))))
 exact aE c O O O (.s O (.s O .n))

def dS.f (k : Nat) (a : Int) (u : Int) (v : Int) (w : Int) (x : Int) (y : Int) (z : Int) (ab : Int) (ad : Int) (af : Int) (s : List UInt8) : Option (List UInt8) := (eS.f).bind fun t => ((bz.f k t.1 t.2 a).bind fun d => ((if a = (0 : Int) then ((bz.f k d.1 d.2 u).bind fun g => (some (g.1, g.2))) else (some (d.1, d.2))).bind fun e => ((if ((decide (a = (0 : Int))) || (decide (a = (1 : Int)))) = true then ((bz.f k e.1 e.2 v).bind fun h => ((bz.f k h.1 h.2 w).bind fun i => ((bz.f k i.1 i.2 x).bind fun j => (some (j.1, j.2))))) else (some (e.1, e.2))).bind fun b => ((if ((decide (a = (0 : Int))) || (decide (a = (3 : Int)))) = true then ((bz.f k b.1 b.2 y).bind fun l => ((bz.f k l.1 l.2 z).bind fun m => (some (m.1, m.2)))) else (some (b.1, b.2))).bind fun c => ((if a = (2 : Int) then ((eW.f k ab ad af s).bind fun n => ((bH.f n.2).bind fun al => ((dJ.f k c.1 c.2 n.1 (8192 : Int)).bind fun o => (some (o.1, o.2))))) else (some (c.1, c.2))).bind fun p => ((dF.f p.1 p.2).bind fun q => ((bH.f q.2).bind fun an => ((ib.f k q.1).bind fun r => ((bH.f r.2).bind fun az => (some r.1))))))))))
theorem dS.calls (W : World) (F : HA) (k : Nat) (d : Int) (l : Int) (m : Int) (n : Int) (o : Int) (p : Int) (q : Int) (h : Int) (i : Int) (j : Int) (g : Option Addr) (e : Nat) (c : Lb) (b7 : Rd F g (aB c)) (br : c.length ≤ e) (bs : e ≤ maxLen) :
    Fn Tryz.prog W 52 [.agg #[Iv d, Iv l, Iv m, Iv n, Iv o, Iv p, Iv q, Iv h, Iv i, Iv j, .slice g c.length e]] [] F (dS.f k d l m n o p q h i j c) (fun (r : Lb) (y : Option Addr × Nat) => .slice y.1 r.length y.2) (fun r y => [Row 5 1 y.1 r.length y.2 (aB r)]) := by
 unfold dS.f
 refine aO 90 Tryz.func52 O Tryz.ntmps52 O (sr (ah (cq O O O) O O O ?_))
 intro z
 refine va O O (nx (ax (fun bc d9 => (ah (av (vs := []) (cap := []) (A := []) (rst := [W13 z d l m n o p q h i j c g e, F]) O O O O O O call83 (.s O (.s O .n)) (eS.calls _ _  ) d9) O O O ?_))))
 intro a
 refine va O O (nx (vm O O (vq (ap O O underlying102 O O sizeOf3 O) O (vq (ag O O isAgg3 (.obj 2 O O)) O (ax (fun a6 ea => (ah (av (vs := [Pt a.1, Iv d]) (cap := []) (A := [obj a.1 160 [.slice a.2.1 bc.1.length a.2.2, Iv bc.2], Row 5 1 a.2.1 bc.1.length a.2.2 (aB bc.1)]) (rst := [W13 z d l m n o p q h i j c g e, F]) O O O O O O call84 (.s O (.s O (.s O (.s O .n)))) (bz.calls _ _ k a.1 a.2.1 a.2.2 bc.1 bc.2 d ) ea) O O O ?_)))))))
 intro a7
 refine ae (aa ?_)
 refine bJ (S := Lb × Int) (Option Addr × Nat) (fun s y => [(1, Pt z), (3, Pt a.1)]) (fun s y => [obj a.1 160 [.slice y.1 s.1.length y.2, Iv s.2], W13 z d l m n o p q h i j c g e, Row 5 1 y.1 s.1.length y.2 (aB s.1), F]) ?_ ?_
 refine sr (vq (ap O O underlying102 O O sizeOf3 O) O (vq (ag O O isAgg3 (.obj 2 O O)) O (vq (bW O O O) O (ae (aa ?_)))))
 refine bn O (fun eg => ?_) (fun ei => ?_)
 refine aI (vm O O (vq (ap O O underlying102 O O sizeOf3 O) O (vq (ag O O isAgg3 (.obj 2 O O)) O (ax (fun bt b8 => (ah (av (vs := [Pt a.1, Iv l]) (cap := []) (A := [obj a.1 160 [.slice a7.1 a6.1.length a7.2, Iv a6.2], Row 5 1 a7.1 a6.1.length a7.2 (aB a6.1)]) (rst := [W13 z d l m n o p q h i j c g e, F]) O O O O O O call84 (.s O (.s O (.s O (.s O .n)))) (bz.calls _ _ k a.1 a7.1 a7.2 a6.1 a6.2 l ) b8) O O O ?_))))))
 intro b0
 refine ae ?_
 exact aG (s := bt) b0 ⟨O, O, trivial⟩ (.s O (.sel 1 O (.s O (.s O .n))))
 refine aC ?_
 exact aG (s := a6) a7 ⟨O, O, trivial⟩ (.s O (.sel 1 O (.s O (.s O .n))))
 intro a8 a9
 refine bJ (S := Lb × Int) (Option Addr × Nat) (fun s y => [(1, Pt z), (3, Pt a.1)]) (fun s y => [obj a.1 160 [.slice y.1 s.1.length y.2, Iv s.2], W13 z d l m n o p q h i j c g e, Row 5 1 y.1 s.1.length y.2 (aB s.1), F]) ?_ ?_
 refine sr (vq (ap O O underlying102 O O sizeOf3 O) O (vq (ag O O isAgg3 (.obj 1 O O)) O (vq (bW O O O) O (vm O O (aw (b := decide (d = (0 : Int))) (fun eb => RQ.sub (E' := [(1, Pt z)]) ⟨O, trivial⟩ (ap O O underlying102 O O sizeOf3 O)) O O O O O (aw (b := decide (d = (0 : Int))) (fun b9 => RQ.sub (E' := [(25, Pt z)]) ⟨aH O b9, trivial⟩ (ag O O isAgg3 (.obj 1 O O))) O O O O O (aw (b := decide (d = (0 : Int))) (fun cd => RQ.sub (E' := [(26, Iv d)]) ⟨aH O cd, trivial⟩ (bW O O O)) O O O O O (vq (fI O O O) O (ae (aa ?_))))))))))
 refine aZ O (fun ek => ?_) (fun el => ?_)
 refine sr (vm O O (vq (ap O O underlying102 O O sizeOf43 O) O (vq (ap O O underlying43 O O sizeOf3 O) O (vq (ag O O isAgg3 (.obj 1 O O)) O (ax (fun a0 ch => (ah (av (vs := [Pt a.1, Iv m]) (cap := []) (A := [obj a.1 160 [.slice a9.1 a8.1.length a9.2, Iv a8.2], Row 5 1 a9.1 a8.1.length a9.2 (aB a8.1)]) (rst := [W13 z d l m n o p q h i j c g e, F]) O O O O O O call84 (.s O (.sel 1 O (.s O (.s O .n)))) (bz.calls _ _ k a.1 a9.1 a9.2 a8.1 a8.2 m ) ch) O O O ?_)))))))
 intro a1
 refine nx (vm O O (vq (ap O O underlying102 O O sizeOf43 O) O (vq (ap O O underlying43 O O sizeOf3 O) O (vq (ag O O isAgg3 (.obj 2 O O)) O (ax (fun a2 cs => (ah (av (vs := [Pt a.1, Iv n]) (cap := []) (A := [obj a.1 160 [.slice a1.1 a0.1.length a1.2, Iv a0.2], Row 5 1 a1.1 a0.1.length a1.2 (aB a0.1)]) (rst := [W13 z d l m n o p q h i j c g e, F]) O O O O O O call84 (.s O (.s O (.s O (.s O .n)))) (bz.calls _ _ k a.1 a1.1 a1.2 a0.1 a0.2 n ) cs) O O O ?_)))))))
 intro a3
 refine ny (vm O O (vq (ap O O underlying102 O O sizeOf43 O) O (vq (ap O O underlying43 O O sizeOf3 O) O (vq (ag O O isAgg3 (.obj 2 O O)) O (ax (fun b1 c0 => (ah (av (vs := [Pt a.1, Iv o]) (cap := []) (A := [obj a.1 160 [.slice a3.1 a2.1.length a3.2, Iv a2.2], Row 5 1 a3.1 a2.1.length a3.2 (aB a2.1)]) (rst := [W13 z d l m n o p q h i j c g e, F]) O O O O O O call84 (.s O (.s O (.s O (.s O .n)))) (bz.calls _ _ k a.1 a3.1 a3.2 a2.1 a2.2 o ) c0) O O O ?_)))))))
 intro b2
 refine ae ?_
 exact aG (s := b1) b2 ⟨O, O, trivial⟩ (.s O (.sel 1 O (.s O (.s O .n))))
 refine aC ?_
 exact aG (s := a8) a9 ⟨O, O, trivial⟩ (.s O (.s O (.s O (.s O .n))))
 intro af al
 refine bJ (S := Lb × Int) (Option Addr × Nat) (fun s y => [(1, Pt z), (3, Pt a.1)]) (fun s y => [obj a.1 160 [.slice y.1 s.1.length y.2, Iv s.2], W13 z d l m n o p q h i j c g e, Row 5 1 y.1 s.1.length y.2 (aB s.1), F]) ?_ ?_
 refine sr (vq (ap O O underlying102 O O sizeOf3 O) O (vq (ag O O isAgg3 (.obj 1 O O)) O (vq (bW O O O) O (vm O O (aw (b := decide (d = (0 : Int))) (fun ec => RQ.sub (E' := [(1, Pt z)]) ⟨O, trivial⟩ (ap O O underlying102 O O sizeOf3 O)) O O O O O (aw (b := decide (d = (0 : Int))) (fun c1 => RQ.sub (E' := [(48, Pt z)]) ⟨aH O c1, trivial⟩ (ag O O isAgg3 (.obj 1 O O))) O O O O O (aw (b := decide (d = (0 : Int))) (fun c2 => RQ.sub (E' := [(49, Iv d)]) ⟨aH O c2, trivial⟩ (bW O O O)) O O O O O (vq (fI O O O) O (ae (aa ?_))))))))))
 refine aZ O (fun em => ?_) (fun en => ?_)
 refine sr (vm O O (vq (ap O O underlying102 O O sizeOf3 O) O (vq (ag O O isAgg3 (.obj 1 O O)) O (ax (fun a4 c3 => (ah (av (vs := [Pt a.1, Iv p]) (cap := []) (A := [obj a.1 160 [.slice al.1 af.1.length al.2, Iv af.2], Row 5 1 al.1 af.1.length al.2 (aB af.1)]) (rst := [W13 z d l m n o p q h i j c g e, F]) O O O O O O call84 (.s O (.sel 1 O (.s O (.s O .n)))) (bz.calls _ _ k a.1 al.1 al.2 af.1 af.2 p ) c3) O O O ?_))))))
 intro a5
 refine ny (vm O O (vq (ap O O underlying102 O O sizeOf3 O) O (vq (ag O O isAgg3 (.obj 2 O O)) O (ax (fun b3 c4 => (ah (av (vs := [Pt a.1, Iv q]) (cap := []) (A := [obj a.1 160 [.slice a5.1 a4.1.length a5.2, Iv a4.2], Row 5 1 a5.1 a4.1.length a5.2 (aB a4.1)]) (rst := [W13 z d l m n o p q h i j c g e, F]) O O O O O O call84 (.s O (.s O (.s O (.s O .n)))) (bz.calls _ _ k a.1 a5.1 a5.2 a4.1 a4.2 q ) c4) O O O ?_))))))
 intro b4
 refine ae ?_
 exact aG (s := b3) b4 ⟨O, O, trivial⟩ (.s O (.sel 1 O (.s O (.s O .n))))
 refine aC ?_
 exact aG (s := af) al ⟨O, O, trivial⟩ (.s O (.s O (.s O (.s O .n))))
 intro w x
 refine bJ (S := Lb × Int) (Option Addr × Nat) (fun s y => [(3, Pt a.1)]) (fun s y => [obj a.1 160 [.slice y.1 s.1.length y.2, Iv s.2], Row 5 1 y.1 s.1.length y.2 (aB s.1), F]) ?_ ?_
 refine sr (vq (ap O O underlying102 O O sizeOf3 O) O (vq (ag O O isAgg3 (.obj 1 O O)) O (vq (bW O O O) O (ae (aa ?_)))))
 refine bn O (fun er => ?_) (fun es => ?_)
 refine sr (vq (di (v := .agg #[]) O O (fun _ => by kernel_rfl)) O (vq (ap O O underlying102 O O sizeOf35 O) O (vq (cu (vs := [Iv h, Iv i, Iv j, .slice g c.length e]) O O isAgg35 sizeOf35 O (du 1 O (cR O))) O (ax (fun an c5 => (ah (av (vs := [.agg #[], .agg #[Iv h, Iv i, Iv j, .slice g c.length e]]) (cap := []) (A := []) (rst := [obj a.1 160 [.slice x.1 w.1.length x.2, Iv w.2], W13 z d l m n o p q h i j c g e, Row 5 1 x.1 w.1.length x.2 (aB w.1), F]) O O O O O O call85 (.s O (.s O (.s O (.s O .n)))) (eW.calls _ _ k h i j g e c (b7.lend 3 O) br bs) c5) O O O ?_))))))
 intro az
 refine vm O O (vq (bI O O O) O (vq (bI O O O) O (va O O (va O O (nx (vm O O (ax (fun et c6 => (ah (av (vs := [Iv an.2]) (cap := []) (A := []) (rst := [Row 5 1 az.1 an.1.length az.2 (aB an.1), obj a.1 160 [.slice x.1 w.1.length x.2, Iv w.2], W13 z d l m n o p q h i j c g e, Row 5 1 x.1 w.1.length x.2 (aB w.1), F]) O O O O O O call43 (.s O (.s O (.s O (.s O (.s O .n))))) (bH.calls _ _ an.2 ) c6) O O O ?_)))))))))
 intro ew
 refine ny (vm O O (vm O O (ax (fun b5 c7 => (ba 0 O (fun c8 c9 dl ed => (ah (av (vs := [Pt a.1, .slice az.1 an.1.length az.2, Iv 8192]) (cap := []) (A := [obj a.1 160 [.slice x.1 w.1.length x.2, Iv w.2], Row 5 1 x.1 w.1.length x.2 (aB w.1)]) (rst := [Row 5 1 az.1 an.1.length az.2 (aB an.1), W13 z d l m n o p q h i j c g e, F]) O O O O O O call86 (.sel 1 O (.sel 2 O (.s O (.s O (.s O .n))))) (dJ.calls _ _ k a.1 x.1 x.2 w.1 w.2 az.1 az.2 an.1 (8192 : Int) (c8.lend 0 O) c9 dl) c7) O O O ?_)))))))
 intro b6
 refine ae ?_
 exact aG (s := b5) b6 ⟨O, trivial⟩ (.s O (.s O (.sel 2 O .n)))
 refine aC ?_
 exact aG (s := w) x ⟨O, trivial⟩ (.s O (.sel 1 O (.sel 1 O .n)))
 intro t u
 refine sr (vm O O (ax (fun ab ds => (ba 1 O (fun dz d1 d2 ee => (ah (av (vs := [Pt a.1]) (cap := []) (A := [obj a.1 160 [.slice u.1 t.1.length u.2, Iv t.2]]) (rst := [Row 5 1 u.1 t.1.length u.2 (aB t.1), F]) O O O O O O call87 (.s O (.s O (.s O .n))) (dF.calls _ _ a.1 u.1 u.2 t.1 t.2 (dz.lend 0 O) d1 d2) ds) O O O ?_))))))
 intro ad
 refine vm O O (vq (bI O O O) O (vq (bI O O O) O (va O O (va O O (nx (vm O O (ax (fun ex d3 => (ah (av (vs := [Iv ab.2]) (cap := []) (A := []) (rst := [Row 5 1 ad.1 ab.1.length ad.2 (aB ab.1), obj a.1 160 [.slice u.1 t.1.length u.2, Iv t.2], Row 5 1 u.1 t.1.length u.2 (aB t.1), F]) O O O O O O call43 (.s O (.s O (.s O (.s O .n)))) (bH.calls _ _ ab.2 ) d3) O O O ?_)))))))))
 intro eA
 refine nx (vm O O (ax (fun bd d4 => (ba 0 O (fun d5 d6 d7 ef => (ah (av (vs := [.slice ad.1 ab.1.length ad.2]) (cap := []) (A := []) (rst := [Row 5 1 ad.1 ab.1.length ad.2 (aB ab.1), obj a.1 160 [.slice u.1 t.1.length u.2, Iv t.2], Row 5 1 u.1 t.1.length u.2 (aB t.1), F]) O O O O O O call88 (.s O (.s O (.s O (.s O .n)))) (ib.calls _ _ k ad.1 ad.2 ab.1 (d5.lend 0 O) d6 d7) d4) O O O ?_))))))
 intro be
 refine vm O O (vq (bI O O O) O (vq (bI O O O) O (va O O (va O O (nx (vm O O (ax (fun eB d8 => (ah (av (vs := [Iv bd.2]) (cap := []) (A := []) (rst := [Row 5 1 be.1 bd.1.length be.2 (aB bd.1), Row 5 1 ad.1 ab.1.length ad.2 (aB ab.1), obj a.1 160 [.slice u.1 t.1.length u.2, Iv t.2], Row 5 1 u.1 t.1.length u.2 (aB t.1), F]) O O O O O O call43 (.s O (.s O (.s O (.s O (.s O .n))))) (bH.calls _ _ bd.2 ) d8) O O O ?_)))))))))
 intro eD
 refine nx (vm O O (va O O (ae (aa (aA ?_)))))
 exact aE be O O O (.s O (.sel 3 O .n))

def fP.f (b : List ((List UInt8) × (List UInt8 × Int))) (e : List UInt8) (g : Int) (h : Bool) : Option (Int) := ((mH (fun (a : Int) (i : List UInt8) (c : List UInt8 × Int) => some (IntKind.i64.wrap (a + (c.1.length : Int)))) 0 b).bind fun a => (some a)).bind fun d => (some d)
theorem fP.calls (W : World) (F : HA) (b0 : Nat) (b : Nat) (a : Kps) (k : List (Lb × (Lb × Int))) (c : Lb) (d : Int) (g : Bool)  :
    Fn Tryz.prog W 59 [Pt b0] [W0 b0 b c d g, ao (aj b ar ak a) ai a k] F (fP.f k c d g) (fun (r : Int) (y : Unit) => Iv r) (fun r y => [W0 b0 b c d g, ao (aj b ar ak a) ai a k]) := by
 unfold fP.f
 refine aO 23 Tryz.func59 O Tryz.ntmps59 O (sr (va O O (nx (va O O (ae (aa ?_))))))
 refine bJ (S := Int) Unit (fun s y => [(3, Iv s)]) (fun s y => [W0 b0 b c d g, ao (aj b ar ak a) ai a k, F]) ?_ ?_
 refine sr (vm O O (vn O O (vq (ap O O underlying97 O O sizeOf95 O) O (vq (ag O O isAgg95 (.obj 0 O O)) O (ah (uM 1 O O underlying95 O) O O O ?_)))))
 intro m
 refine ae (aa (aR ?_))
 refine tV (S := Int) (Y := Unit) (o2 := fun i => some i) (fun (i : Int) (l : Lb) (h : Lb × Int) => some (IntKind.i64.wrap (i + (h.1.length : Int)))) (fun s y => [(3, Iv s), (10, Pt m)]) (fun s y => [W0 b0 b c d g, F]) 0 () (fun x y e => by simpa [str] using e) (fun _ _ => O) O O (fun _ _ _ _ => ⟨O, O, trivial⟩) ⟨O, O, trivial⟩ ((.sel 1 O (.s O (.s O .n)))) ?_ ?_
 intro n o i t l h q
 refine cS (o' := some (IntKind.i64.wrap (i + (h.1.length : Int)))) O (fm (H' := [ao (itJ b m ar a o l) ai a n, W0 b0 b c d g, F]) (Ent.refl _) (aR (sr (vq (xr O O (yX 0 O)) O (vq (bI O O O) O (va O O (ae (aa (jm (v := h) 0 O q (fun j => (fm (H' := [obj (da a l) 109 [.slice j.1 h.1.length j.2, Iv h.2], Row 5 1 j.1 h.1.length j.2 (aB h.1), jh (itJ b m ar a o l) ai a n l, W0 b0 b c d g, F]) (Ent.refl _) (aI (vm O O (vm O O (vn O O (vq (ap O O underlying109 O O sizeOf33 O) O (vq (ag O O isAgg33 (.obj 0 O O)) O (vq (bx O O O underlying33) O (vq (bY O O O) O (va O O (ae (bo ?_))))))))))))))))))))))
 exact aG (s := IntKind.i64.wrap (i + (h.1.length : Int))) () ⟨O, O, trivial⟩ ((.foldF0 (x := l) (p := (da a l)) (v := h) j O q (.sel 2 O (.s O (.s O (.s O (.s O .n)))))))
 intro i t
 refine yy (o' := some i) O (oX (H' := [ao (aj b ar ak a) ai a k, W0 b0 b c d g, F]) (Ent.refl _) ?_)
 exact aG (s := i) () ⟨O, trivial⟩ (.sel 1 O (.s O (.s O .n)))
 intro u w
 refine sr (vm O O (va O O (ae (aa (aA ?_)))))
 exact aE () O O O (.s O (.s O (.s O .n)))

def ep.f (a : List ((List UInt8) × (List UInt8 × Int))) (d : List UInt8) (e : Int) (b : Bool) (x1 : List UInt8) (x2 : List UInt8) : Option (Int × (List ((List UInt8) × (List UInt8 × Int))) × List UInt8 × Int × Bool) := if (aU a x1).isSome = true then (if b = true then (some (11, a, d, e, b)) else ((fP.f a d e b).bind fun h => (if IntKind.i64.wrap (16777216 - h) < (x2.length : Int) then (some (10, a, d, e, b)) else (((bR.f a d e b).bind fun c => (if c.1 = true then (if 0 ≤ (0 : Int) ∧ (0 : Int) ≤ IntKind.i64.wrap (Int.tdiv (x2.length : Int) 2) ∧ IntKind.i64.wrap (Int.tdiv (x2.length : Int) 2) ≤ (x2.length : Int) then (some (cut x2 (0 : Int) (IntKind.i64.wrap (Int.tdiv (x2.length : Int) 2)), 11, c.2.1, c.2.2.1, c.2.2.2)) else none) else (some (x2, 0, c.2.1, c.2.2.1, c.2.2.2)))).bind fun g => (if ((((aU a x1).getD (([] : List UInt8), (0 : Int))).1).length + g.1.length) * 1 ≤ 140737488355328 then (some (g.2.1, aX a x1 ((((aU a x1).getD (([] : List UInt8), (0 : Int))).1) ++ g.1, ((aU a x1).getD (([] : List UInt8), (0 : Int))).2), x1, g.2.2.2.1, g.2.2.2.2)) else none))))) else (if b = true then (some (11, a, d, e, b)) else (some (8, a, d, e, b)))
theorem ep.calls (W : World) (F : HA) (b0 : Nat) (b : Nat) (a : Kps) (c : List (Lb × (Lb × Int))) (d : Lb) (e : Int) (g : Bool) (x1 : Lb) (a2 : Option Addr) (c2 : Nat) (x2 : Lb) (h2 : Rd F a2 (aB x2)) (n : x2.length ≤ c2) (af : c2 ≤ maxLen) :
    Fn Tryz.prog W 22 [Pt b0, str x1, .slice a2 x2.length c2] [W0 b0 b d e g, ao (aj b ar ak a) ai a c] F (ep.f c d e g x1 x2) (fun (r : Int × (List (Lb × (Lb × Int))) × Lb × Int × Bool) (y : Nat × Kps) => Iv r.1) (fun r y => [W5 b0 y.1 r.2.2, ao (aj y.1 ar ak y.2) ai y.2 r.2.1]) := by
 unfold ep.f
 refine aO 51 Tryz.func22 O Tryz.ntmps22 O (sr (va O O (ae (aa (ay ?_)))))
 refine gj (fun i => ?_) (fun i => ?_)
 refine aI (vm O O (vn O O (vq (ap O O underlying97 O O sizeOf95 O) O (vq (ag O O isAgg95 (.obj 0 O O)) O (vm O O (vq ((kG (ek := ar) x1 (iI 1 O) i O O O underlying95 km : RQ _ _ _ _ (.pointer (some ⟨(da a x1), 0, none⟩)))) O (va O O (ae (aa (ay (aR (sr (vm O O (vn O O (vq (ap O O underlying97 O O sizeOf4 O) O (vq (ag O O isAgg4 (.obj 0 O O)) O (va O O (ae (aa ?_)))))))))))))))))))
 refine aZ O (fun a7 => ?_) (fun a8 => ?_)
 refine sr (va O O (ae (aa (aA (bp (aN ?_))))))
 exact aE (b, a) O O O (.s O (.s O (.s O .n)))
 refine sr (vm O O (vq (lR O O O underlying107) O (va O O (ae (aa (gq O (sr (vm O O (vq (bx O O O underlying33) O (vm O O (ax (fun a9 al => (ah (av (vs := [Pt b0]) (cap := []) (A := [W0 b0 b d e g, ao (aj b ar ak a) ai a c]) (rst := [F]) O O O O O O call59 (.s O (.s O (.s O .n))) (fP.calls _ _ b0 b a c d e g ) al) O O O ?_)))))))))))))
 intro bc
 refine vq (dC O O O) O (vq (cW O O O) O (va O O (ae (aa ?_))))
 refine bn O (fun bd => ?_) (fun be => ?_)
 refine sr (va O O (ae (aa (aA (bp (aN ?_))))))
 exact aE (b, a) O O O (.s O (.s O (.s O .n)))
 refine aC (bo (aa (sr (va O O (ae (aa ?_))))))
 refine bJ (S := Lb × Int × Lb × Int × Bool) (Option Addr × Nat) (fun s y => [(0, Pt b0), (1, str x1), (2, .slice y.1 s.1.length y.2), (7, .pointer (some ⟨(da a x1), 0, none⟩)), (8, Iv s.2.1)]) (fun s y => [pr (Rd F y.1 (aB s.1) ∧ s.1.length ≤ y.2 ∧ y.2 ≤ maxLen), W5 b0 b s.2.2, ao (aj b ar ak a) ai a c, F]) ?_ ?_
 refine sr (vm O O (ax (fun h q => (ah (av (vs := [Pt b0]) (cap := []) (A := [W0 b0 b d e g, ao (aj b ar ak a) ai a c]) (rst := [F]) O O O O O O call58 (.s O (.s O (.s O .n))) (bR.calls _ _ b0 b a c d e g ) q) O O O ?_))))
 intro a0
 refine ae (aa ?_)
 refine aZ O (fun a1 => ?_) (fun a3 => ?_)
 refine aI (vm O O (vm O O (vq (bx O O O underlying33) O (vq (yY O O O (by decide)) O (bg (fun k => ?_))))))
 obtain ⟨an, az, t, u, w, z⟩ := iJ (lo := (0 : Int)) (hi := IntKind.i64.wrap (Int.tdiv (x2.length : Int) 2)) h2 n k
 refine vq (im (l := x2) (lo' := (0 : Int)) (hi' := IntKind.i64.wrap (Int.tdiv (x2.length : Int) 2)) O O O O underlying33 sizeOf5 (.inr ⟨_, O⟩) (.inl ⟨O, O⟩) k n t) O (va O O (va O O (ae ?_)))
 exact aG (s := (cut x2 (0 : Int) (IntKind.i64.wrap (Int.tdiv (x2.length : Int) 2)), 11, h.2)) (an, az) ⟨O, O, O, O, O, trivial⟩ (.pr_in ⟨u, w, (Nat.le_trans z af)⟩ (.s O (.s O (.s O .n))))
 refine aC ?_
 exact aG (s := (x2, 0, h.2)) (a2, c2) ⟨O, O, O, O, O, trivial⟩ (.pr_in ⟨h2, n, af⟩ (.s O (.s O (.s O .n))))
 intro m a4
 refine oo (fun ab => (ay (jm (v := ((aU c x1).getD (([] : Lb), (0 : Int)))) 1 O (gu i) (fun j => (fm (H' := [obj (da a x1) 109 [.slice j.1 ((((aU c x1).getD (([] : Lb), (0 : Int))).1).length) j.2, Iv (((aU c x1).getD (([] : Lb), (0 : Int))).2)], Row 5 1 j.1 (((aU c x1).getD (([] : Lb), (0 : Int))).1).length j.2 (aB (((aU c x1).getD (([] : Lb), (0 : Int))).1)), jh (aj b ar ak a) ai a c x1, W5 b0 b m.2.2, F]) (Ent.refl _) (aI (vm O O (vm O O (vn O O (vq (ap O O underlying109 O O sizeOf33 O) O (vq (ag O O isAgg33 (.obj 0 O O)) O (vm O O (bg (fun ad => ?_))))))))))))))
 refine ah (fV 1 O O O underlying33 ig O (ab.1.rds 3 O) ad) O O O ?_
 intro o
 refine vn O O (vq (ap O O underlying109 O O sizeOf33 O) O (aY (aJ 0 O O O sizeOf33 O O (aP (by rfl)) O O) O O ?_))
 intro _
 refine nx (vm O O (vm O O (vn O O (vq (ap O O underlying97 O O sizeOf9 O) O (aY (aJ 3 O O O sizeOf9 O O (aP (by rfl)) O O) O O ?_)))))
 intro _
 refine nx (vm O O (va O O (ae (aa (aA ?_)))))
 exact aE (b, a) O O O (.sel 3 O (.foldF (x := x1) (p := (da a x1)) (v := ((((aU c x1).getD (([] : Lb), (0 : Int))).1) ++ m.1, ((aU c x1).getD (([] : Lb), (0 : Int))).2)) o O (.sel 2 O (.s O (.s O (.s O .n))))))
 refine aI (vm O O (vn O O (vq (ap O O underlying97 O O sizeOf95 O) O (vq (ag O O isAgg95 (.obj 0 O O)) O (vm O O (vq (kH (ek := ar) x1 (iI 1 O) (jl i) O O O underlying95 km zeroValue107) O (va O O (ae (aa (ay (aR (sr (vm O O (vn O O (vq (ap O O underlying97 O O sizeOf4 O) O (vq (ag O O isAgg4 (.obj 0 O O)) O (va O O (ae (aa ?_)))))))))))))))))))
 refine aZ O (fun a5 => ?_) (fun a6 => ?_)
 refine sr (va O O (ae (aa (aA (bp (aN ?_))))))
 exact aE (b, a) O O O (.s O (.s O (.s O .n)))
 refine sr (vm O O (vq (kE O O O underlying107) O (va O O (ae (aa (gh O (sr (va O O (ae (aa (aA (bp (aN ?_)))))))))))))
 exact aE (b, a) O O O (.s O (.s O (.s O .n)))

def cV.f (a : List ((List UInt8) × (List UInt8 × Int))) (d : List UInt8) (e : Int) (b : Bool) (x1 : List UInt8) : Option (Int × (List ((List UInt8) × (List UInt8 × Int))) × List UInt8 × Int × Bool) := if (aU a x1).isSome = true then (if b = true then (some (11, a, d, e, b)) else ((bR.f a d e b).bind fun c => (if c.1 = true then (some (11, a, c.2.1, c.2.2.1, c.2.2.2)) else (some (0, aX a x1 (((aU a x1).getD (([] : List UInt8), (0 : Int))).1, ((((aU a x1).getD (([] : List UInt8), (0 : Int))).1).length : Int)), c.2.1, c.2.2.1, c.2.2.2))))) else (if b = true then (some (11, a, d, e, b)) else (some (8, a, d, e, b)))
theorem cV.calls (W : World) (F : HA) (b0 : Nat) (b : Nat) (a : Kps) (c : List (Lb × (Lb × Int))) (e : Lb) (g : Int) (h : Bool) (x1 : Lb)  :
    Fn Tryz.prog W 46 [Pt b0, str x1] [W0 b0 b e g h, ao (aj b ar ak a) ai a c] F (cV.f c e g h x1) (fun (r : Int × (List (Lb × (Lb × Int))) × Lb × Int × Bool) (y : Nat × Kps) => Iv r.1) (fun r y => [W5 b0 y.1 r.2.2, ao (aj y.1 ar ak y.2) ai y.2 r.2.1]) := by
 unfold cV.f
 refine aO 31 Tryz.func46 O Tryz.ntmps46 O (sr (va O O (ae (aa (ay ?_)))))
 refine gj (fun i => ?_) (fun i => ?_)
 refine aI (vm O O (vn O O (vq (ap O O underlying97 O O sizeOf95 O) O (vq (ag O O isAgg95 (.obj 0 O O)) O (vm O O (vq ((kG (ek := ar) x1 (iI 1 O) i O O O underlying95 km : RQ _ _ _ _ (.pointer (some ⟨(da a x1), 0, none⟩)))) O (va O O (ae (aa (ay (aR (sr (vm O O (vn O O (vq (ap O O underlying97 O O sizeOf4 O) O (vq (ag O O isAgg4 (.obj 0 O O)) O (va O O (ae (aa ?_)))))))))))))))))))
 refine aZ O (fun n => ?_) (fun o => ?_)
 refine sr (va O O (ae (aa (aA (bp (aN ?_))))))
 exact aE (b, a) O O O (.s O (.s O (.s O .n)))
 refine sr (vm O O (vq (lR O O O underlying107) O (va O O (ae (aa (gq O (sr (vm O O (ax (fun j k => (ah (av (vs := [Pt b0]) (cap := []) (A := [W0 b0 b e g h, ao (aj b ar ak a) ai a c]) (rst := [F]) O O O O O O call58 (.s O (.s O (.s O .n))) (bR.calls _ _ b0 b a c e g h ) k) O O O ?_)))))))))))
 intro q
 refine va O O (ae (aa ?_))
 refine aZ O (fun s => ?_) (fun t => ?_)
 refine sr (va O O (ae (aa (aA (bp (aN ?_))))))
 exact aE (b, a) O O O (.s O (.s O (.s O .n)))
 refine aC (bo (aa (ay (jm (v := ((aU c x1).getD (([] : Lb), (0 : Int)))) 1 O (gu i) (fun d => (fm (H' := [obj (da a x1) 109 [.slice d.1 ((((aU c x1).getD (([] : Lb), (0 : Int))).1).length) d.2, Iv (((aU c x1).getD (([] : Lb), (0 : Int))).2)], Row 5 1 d.1 (((aU c x1).getD (([] : Lb), (0 : Int))).1).length d.2 (aB (((aU c x1).getD (([] : Lb), (0 : Int))).1)), jh (aj b ar ak a) ai a c x1, W5 b0 b j.2, F]) (Ent.refl _) (aI (vm O O (vm O O (vn O O (vq (ap O O underlying109 O O sizeOf33 O) O (vq (ag O O isAgg33 (.obj 0 O O)) O (vq (bx O O O underlying33) O (vn O O (vq (ap O O underlying109 O O sizeOf3 O) O (aY (aJ 0 O O O sizeOf3 O O (aP (by rfl)) O O) O O ?_))))))))))))))))
 intro _
 refine nx (va O O (ae (aa (aA ?_))))
 exact aE (b, a) O O O (.sel 3 O (.foldF (x := x1) (p := (da a x1)) (v := (((aU c x1).getD (([] : Lb), (0 : Int))).1, ((((aU c x1).getD (([] : Lb), (0 : Int))).1).length : Int))) d O (.sel 2 O (.s O (.s O (.s O .n))))))
 refine aI (vm O O (vn O O (vq (ap O O underlying97 O O sizeOf95 O) O (vq (ag O O isAgg95 (.obj 0 O O)) O (vm O O (vq (kH (ek := ar) x1 (iI 1 O) (jl i) O O O underlying95 km zeroValue107) O (va O O (ae (aa (ay (aR (sr (vm O O (vn O O (vq (ap O O underlying97 O O sizeOf4 O) O (vq (ag O O isAgg4 (.obj 0 O O)) O (va O O (ae (aa ?_)))))))))))))))))))
 refine aZ O (fun l => ?_) (fun m => ?_)
 refine sr (va O O (ae (aa (aA (bp (aN ?_))))))
 exact aE (b, a) O O O (.s O (.s O (.s O .n)))
 refine sr (vm O O (vq (kE O O O underlying107) O (va O O (ae (aa (gh O (sr (va O O (ae (aa (aA (bp (aN ?_)))))))))))))
 exact aE (b, a) O O O (.s O (.s O (.s O .n)))

def dZ.f (x0 : List Int) : Option (List Int) := if (([] : List Int).length + x0.length) * 8 ≤ 140737488355328 then (some (([] : List Int) ++ x0)) else none
theorem dZ.calls (W : World) (F : HA) (a0 : Option Addr) (c0 : Nat) (x0 : List Int) (h0 : RdV F 1 (V3 tt) a0 x0) (e : x0.length ≤ c0) (g : c0 ≤ maxLen) :
    Fn Tryz.prog W 44 [.slice a0 x0.length c0] [] F (dZ.f x0) (fun (r : List Int) (y : Option Addr × Nat) => .slice y.1 r.length y.2) (fun r y => [am 3 1 (V3 tt) y.1 r y.2]) := by
 unfold dZ.f
 refine aO 8 Tryz.func44 O Tryz.ntmps44 O ?_
 rcases a0 with _ | p0
 have hx : x0 = [] := qQ rfl h0
 subst hx
 refine cS (o' := some ([] : List Int)) (by simp) (sr (va O O (ae (aa (ay (sr (vm O O (vq (nJ O O underlying78) O (ae (aa (gh O (sr (va O O (ae (aa (aA (aN ?_)))))))))))))))))
 exact aE (none, 0) O O O (.rowV_nil (.s O .n))
 refine sr (va O O (ae (aa (ay (sr (vm O O (vq (nK O O underlying78) O (ae (aa (gq O (aC (aa (sr (ah (qC (α := Int) (V := (V3 tt)) O underlying78 oY) O O O ?_))))))))))))))
 intro h
 refine vm O O (bf 0 O (fun d b => (bg (fun c => ?_))))
 refine ah (fg 0 O O O underlying78 oY O b (h0.rds 0 O) c) O O O ?_
 intro a
 refine va O O (ae (aa (aA ?_)))
 exact aE a O O O (.s O (.s O .n))

def gn.f (x0 : List UInt8) : Option (List UInt8) := if 0 ≤ (0 : Int) ∧ (0 : Int) ≤ (x0.length : Int) ∧ (x0.length : Int) * 1 ≤ 140737488355328 then (if ((List.replicate (0 : Int).toNat (0 : UInt8)).length + x0.length) * 1 ≤ 140737488355328 then (some ((List.replicate (0 : Int).toNat (0 : UInt8)) ++ x0)) else none) else none
theorem gn.calls (W : World) (F : HA) (a0 : Option Addr) (c0 : Nat) (x0 : Lb) (h0 : Rd F a0 (aB x0)) (d : x0.length ≤ c0) (e : c0 ≤ maxLen) :
    Fn Tryz.prog W 66 [.slice a0 x0.length c0] [] F (gn.f x0) (fun (r : Lb) (y : Option Addr × Nat) => .slice y.1 r.length y.2) (fun r y => [Row 5 1 y.1 r.length y.2 (aB r)]) := by
 unfold gn.f
 refine aO 8 Tryz.func66 O Tryz.ntmps66 O (sr (va O O (nx (vm O O (vq (bx O O O underlying33) O (bg (fun a => (ah (lX O O O underlying33 ig a.1 a.2.1 a.2.2) O O O ?_))))))))
 intro g
 refine vm O O (bg (fun c => ?_))
 refine ah (fV 0 O O O underlying33 ig O (h0.rds 0 O) c) O O O ?_
 intro b
 refine va O O (ae (aa (aA ?_)))
 exact aE b O O O (.s O (.s O .n))

def eR.f (a : List ((List UInt8) × (List UInt8 × Int))) (c : List UInt8) (d : Int) (e : Bool) (x1 : List UInt8) : Option (List UInt8 × Int) := if (aU a x1).isSome = true then ((gn.f (((aU a x1).getD (([] : List UInt8), (0 : Int))).1)).bind fun b => (some (b, 0))) else (some (([] : List UInt8), 8))
theorem eR.calls (W : World) (F : HA) (b0 : Nat) (d : Nat) (b : Kps) (a : List (Lb × (Lb × Int))) (e : Lb) (g : Int) (h : Bool) (x1 : Lb)  :
    Fn Tryz.prog W 26 [Pt b0, str x1] [W0 b0 d e g h, ao (aj d ar ak b) ai b a] F (eR.f a e g h x1) (fun (r : Lb × Int) (y : Option Addr × Nat) => .tuple #[.slice y.1 r.1.length y.2, Iv r.2]) (fun r y => [Row 5 1 y.1 r.1.length y.2 (aB r.1), W0 b0 d e g h, ao (aj d ar ak b) ai b a]) := by
 unfold eR.f
 refine aO 20 Tryz.func26 O Tryz.ntmps26 O (sr (va O O (va O O (ae (aa (ay ?_))))))
 refine gj (fun i => ?_) (fun i => ?_)
 refine aI (vm O O (vn O O (vq (ap O O underlying97 O O sizeOf95 O) O (vq (ag O O isAgg95 (.obj 0 O O)) O (vm O O (vq ((kG (ek := ar) x1 (iI 1 O) i O O O underlying95 km : RQ _ _ _ _ (.pointer (some ⟨(da b x1), 0, none⟩)))) O (va O O (ae (aa (ay (sr (vm O O (vq (lR O O O underlying107) O (ae (aa (gq O (aC (aa (ay (jm (v := ((aU a x1).getD (([] : Lb), (0 : Int)))) 1 O (gu i) (fun c => (fm (H' := [obj (da b x1) 109 [.slice c.1 ((((aU a x1).getD (([] : Lb), (0 : Int))).1).length) c.2, Iv (((aU a x1).getD (([] : Lb), (0 : Int))).2)], Row 5 1 c.1 (((aU a x1).getD (([] : Lb), (0 : Int))).1).length c.2 (aB (((aU a x1).getD (([] : Lb), (0 : Int))).1)), jh (aj d ar ak b) ai b a x1, W0 b0 d e g h, F]) (Ent.refl _) (aI (vm O O (vn O O (vq (ap O O underlying109 O O sizeOf33 O) O (vq (ag O O isAgg33 (.obj 0 O O)) O (ax (fun q k => (ba 1 O (fun l m n o => (ah (av (vs := [.slice c.1 ((((aU a x1).getD (([] : Lb), (0 : Int))).1).length) c.2]) (cap := []) (A := []) (rst := [obj (da b x1) 109 [.slice c.1 ((((aU a x1).getD (([] : Lb), (0 : Int))).1).length) c.2, Iv (((aU a x1).getD (([] : Lb), (0 : Int))).2)], Row 5 1 c.1 (((aU a x1).getD (([] : Lb), (0 : Int))).1).length c.2 (aB (((aU a x1).getD (([] : Lb), (0 : Int))).1)), jh (aj d ar ak b) ai b a x1, W0 b0 d e g h, F]) O O O O O O call66 (.s O (.s O (.s O (.s O (.s O .n))))) (gn.calls _ _ c.1 c.2 (((aU a x1).getD (([] : Lb), (0 : Int))).1) (l.lend 1 O) m n) k) O O O ?_))))))))))))))))))))))))))))))))
 intro j
 refine va O O (va O O (ae (aa (aA ?_))))
 exact aE j O O O (.s O (.sel 3 O (.foldF0 (x := x1) (p := (da b x1)) (v := ((aU a x1).getD (([] : Lb), (0 : Int)))) c O (gu i) (.sel 2 O (.s O (.s O (.s O .n)))))))
 refine aI (vm O O (vn O O (vq (ap O O underlying97 O O sizeOf95 O) O (vq (ag O O isAgg95 (.obj 0 O O)) O (vm O O (vq (kH (ek := ar) x1 (iI 1 O) (jl i) O O O underlying95 km zeroValue107) O (va O O (ae (aa (ay (sr (vm O O (vq (kE O O O underlying107) O (ae (aa (gh O (sr (va O O (va O O (ae (aa (aA (aN ?_)))))))))))))))))))))))
 exact aE (none, 0) O O O (.row_nil (.s O (.s O (.s O .n))))

def gm.f (x0 : List UInt8) : Option (Int) := if 0 ≤ (0 : Int) ∧ (0 : Int) < (x0.length : Int) then (if 0 ≤ (1 : Int) ∧ (1 : Int) < (x0.length : Int) then (if 0 ≤ (2 : Int) ∧ (2 : Int) < (x0.length : Int) then (if 0 ≤ (3 : Int) ∧ (3 : Int) < (x0.length : Int) then (some (bU .or .u32 (bU .or .u32 (bU .or .u32 (IntKind.u32.wrap ((x0.getD (0 : Int).toNat 0).toNat : Int)) (IntKind.u32.wrap ((IntKind.u32.wrap ((x0.getD (1 : Int).toNat 0).toNat : Int)) * 2 ^ (min (8 : Int).toNat IntKind.u32.bits)))) (IntKind.u32.wrap ((IntKind.u32.wrap ((x0.getD (2 : Int).toNat 0).toNat : Int)) * 2 ^ (min (16 : Int).toNat IntKind.u32.bits)))) (IntKind.u32.wrap ((IntKind.u32.wrap ((x0.getD (3 : Int).toNat 0).toNat : Int)) * 2 ^ (min (24 : Int).toNat IntKind.u32.bits))))) else none) else none) else none) else none
theorem gm.calls (W : World) (F : HA) (a0 : Option Addr) (c0 : Nat) (x0 : Lb) (h0 : Rd F a0 (aB x0)) (z : x0.length ≤ c0) (ab : c0 ≤ maxLen) :
    Fn Tryz.prog W 94 [.slice a0 x0.length c0] [] F (gm.f x0) (fun (r : Int) (y : Unit) => .int .u32 r) (fun r y => []) := by
 unfold gm.f
 refine aO 25 Tryz.func94 O Tryz.ntmps94 O (sr (va O O (ae (aa (ay (cG (fun d => ?_)))))))
 obtain ⟨u, n, e⟩ := h0.pos (iS (j := (0 : Int).toNat) (by omega))
 refine cG (fun g => ?_)
 obtain ⟨w, p, h⟩ := h0.pos (iS (j := (1 : Int).toNat) (by omega))
 refine cG (fun k => ?_)
 obtain ⟨q, l, a⟩ := h0.pos (iS (j := (2 : Int).toNat) (by omega))
 refine cG (fun b => ?_)
 obtain ⟨t, m, c⟩ := h0.pos (iS (j := (3 : Int).toNat) (by omega))
 refine bi (Γ := Unit) () [[], [0], [0, 1], [0, 1, 2], [], [4], [4, 5], [4, 5, 6], [4, 5, 6, 7], rL 9, [], [10], [10, 11], [10, 11, 12], [10, 11, 12, 13], rL 15, [], [16], [16, 17], [16, 17, 18], [16, 17, 18, 19], rL 21, rL 22] [] [0, 1, 2, 3, 4, 5, 6, 7, 8, 9, 10, 11, 12, 13, 14, 15, 16, 17, 18, 19, 20, 21, 22] (fun i => [[0], [0], [0], [0], [0], [0], [0], [0], [0], [0], [0], [0], [0], [0], [0], [0], [0], [0], [0], [0], [0], [0], [0]].getD i []) (fun i => [[], [], [], [], [], [], [], [], [], [], [], [], [], [], [], [], [], [], [], [], [], [], []].getD i []) (fun γ i => [.slice a0 x0.length c0, .pointer (some ⟨u, n + (0 : Int).toNat, none⟩), .int .u8 ((x0.getD (0 : Int).toNat 0).toNat : Int), .int .u32 (IntKind.u32.wrap ((x0.getD (0 : Int).toNat 0).toNat : Int)), .slice a0 x0.length c0, .pointer (some ⟨w, p + (1 : Int).toNat, none⟩), .int .u8 ((x0.getD (1 : Int).toNat 0).toNat : Int), .int .u32 (IntKind.u32.wrap ((x0.getD (1 : Int).toNat 0).toNat : Int)), .int .u32 (IntKind.u32.wrap ((IntKind.u32.wrap ((x0.getD (1 : Int).toNat 0).toNat : Int)) * 2 ^ (min (8 : Int).toNat IntKind.u32.bits))), .int .u32 (bU .or .u32 (IntKind.u32.wrap ((x0.getD (0 : Int).toNat 0).toNat : Int)) (IntKind.u32.wrap ((IntKind.u32.wrap ((x0.getD (1 : Int).toNat 0).toNat : Int)) * 2 ^ (min (8 : Int).toNat IntKind.u32.bits)))), .slice a0 x0.length c0, .pointer (some ⟨q, l + (2 : Int).toNat, none⟩), .int .u8 ((x0.getD (2 : Int).toNat 0).toNat : Int), .int .u32 (IntKind.u32.wrap ((x0.getD (2 : Int).toNat 0).toNat : Int)), .int .u32 (IntKind.u32.wrap ((IntKind.u32.wrap ((x0.getD (2 : Int).toNat 0).toNat : Int)) * 2 ^ (min (16 : Int).toNat IntKind.u32.bits))), .int .u32 (bU .or .u32 (bU .or .u32 (IntKind.u32.wrap ((x0.getD (0 : Int).toNat 0).toNat : Int)) (IntKind.u32.wrap ((IntKind.u32.wrap ((x0.getD (1 : Int).toNat 0).toNat : Int)) * 2 ^ (min (8 : Int).toNat IntKind.u32.bits)))) (IntKind.u32.wrap ((IntKind.u32.wrap ((x0.getD (2 : Int).toNat 0).toNat : Int)) * 2 ^ (min (16 : Int).toNat IntKind.u32.bits)))), .slice a0 x0.length c0, .pointer (some ⟨t, m + (3 : Int).toNat, none⟩), .int .u8 ((x0.getD (3 : Int).toNat 0).toNat : Int), .int .u32 (IntKind.u32.wrap ((x0.getD (3 : Int).toNat 0).toNat : Int)), .int .u32 (IntKind.u32.wrap ((IntKind.u32.wrap ((x0.getD (3 : Int).toNat 0).toNat : Int)) * 2 ^ (min (24 : Int).toNat IntKind.u32.bits))), .int .u32 (bU .or .u32 (bU .or .u32 (bU .or .u32 (IntKind.u32.wrap ((x0.getD (0 : Int).toNat 0).toNat : Int)) (IntKind.u32.wrap ((IntKind.u32.wrap ((x0.getD (1 : Int).toNat 0).toNat : Int)) * 2 ^ (min (8 : Int).toNat IntKind.u32.bits)))) (IntKind.u32.wrap ((IntKind.u32.wrap ((x0.getD (2 : Int).toNat 0).toNat : Int)) * 2 ^ (min (16 : Int).toNat IntKind.u32.bits)))) (IntKind.u32.wrap ((IntKind.u32.wrap ((x0.getD (3 : Int).toNat 0).toNat : Int)) * 2 ^ (min (24 : Int).toNat IntKind.u32.bits)))), .int .u32 (bU .or .u32 (bU .or .u32 (bU .or .u32 (IntKind.u32.wrap ((x0.getD (0 : Int).toNat 0).toNat : Int)) (IntKind.u32.wrap ((IntKind.u32.wrap ((x0.getD (1 : Int).toNat 0).toNat : Int)) * 2 ^ (min (8 : Int).toNat IntKind.u32.bits)))) (IntKind.u32.wrap ((IntKind.u32.wrap ((x0.getD (2 : Int).toNat 0).toNat : Int)) * 2 ^ (min (16 : Int).toNat IntKind.u32.bits)))) (IntKind.u32.wrap ((IntKind.u32.wrap ((x0.getD (3 : Int).toNat 0).toNat : Int)) * 2 ^ (min (24 : Int).toNat IntKind.u32.bits))))].getD i undef) (fun j γ => [[F]].getD j []) (fun γ => [(2, .int .u32 (bU .or .u32 (bU .or .u32 (bU .or .u32 (IntKind.u32.wrap ((x0.getD (0 : Int).toNat 0).toNat : Int)) (IntKind.u32.wrap ((IntKind.u32.wrap ((x0.getD (1 : Int).toNat 0).toNat : Int)) * 2 ^ (min (8 : Int).toNat IntKind.u32.bits)))) (IntKind.u32.wrap ((IntKind.u32.wrap ((x0.getD (2 : Int).toNat 0).toNat : Int)) * 2 ^ (min (16 : Int).toNat IntKind.u32.bits)))) (IntKind.u32.wrap ((IntKind.u32.wrap ((x0.getD (3 : Int).toNat 0).toNat : Int)) * 2 ^ (min (24 : Int).toNat IntKind.u32.bits)))))]) mixed (by decide) (by decide) (by decide) (by decide) (by decide) (by decide) (by decide) 25 O (by decide) (by decide) (by decide) (Ent.refl _) ?_ ?_ (fun _ => ⟨O, trivial⟩) ?_
 exact (aq O (fun γ => qm O (.o (s := 0) O (by decide) .nil) O) (aq O (fun γ => qp O O (.v 0 O O .nil) (jv O O O e underlying33 sizeOf5 d.1 d.2) O) (aq O (fun γ => qp O O (.v 1 O O .nil) (ag O O isAgg5 (h0.cell 0 O e (il (by omega)))) O) (aq O (fun γ => qp O O (.v 2 O O .nil) (gA O O underlying5 underlying149) O) (aq O (fun γ => qm O (.o (s := 0) O (by decide) .nil) O) (aq O (fun γ => qp O O (.v 4 O O .nil) (jv O O O h underlying33 sizeOf5 g.1 g.2) O) (aq O (fun γ => qp O O (.v 5 O O .nil) (ag O O isAgg5 (h0.cell 0 O h (il (by omega)))) O) (aq O (fun γ => qp O O (.v 6 O O .nil) (gA O O underlying5 underlying149) O) (aq O (fun γ => qp O O (.v 7 O O .nil) (ql O O O (by decide)) O) (aq O (fun γ => qp O O (.v 3 O O (.v 8 O O .nil)) (oy O O O) O) (aq O (fun γ => qm O (.o (s := 0) O (by decide) .nil) O) (aq O (fun γ => qp O O (.v 10 O O .nil) (jv O O O a underlying33 sizeOf5 k.1 k.2) O) (aq O (fun γ => qp O O (.v 11 O O .nil) (ag O O isAgg5 (h0.cell 0 O a (il (by omega)))) O) (aq O (fun γ => qp O O (.v 12 O O .nil) (gA O O underlying5 underlying149) O) (aq O (fun γ => qp O O (.v 13 O O .nil) (ql O O O (by decide)) O) (aq O (fun γ => qp O O (.v 9 O O (.v 14 O O .nil)) (oy O O O) O) (aq O (fun γ => qm O (.o (s := 0) O (by decide) .nil) O) (aq O (fun γ => qp O O (.v 16 O O .nil) (jv O O O c underlying33 sizeOf5 b.1 b.2) O) (aq O (fun γ => qp O O (.v 17 O O .nil) (ag O O isAgg5 (h0.cell 0 O c (il (by omega)))) O) (aq O (fun γ => qp O O (.v 18 O O .nil) (gA O O underlying5 underlying149) O) (aq O (fun γ => qp O O (.v 19 O O .nil) (ql O O O (by decide)) O) (aq O (fun γ => qp O O (.v 15 O O (.v 20 O O .nil)) (oy O O O) O) (aq O (fun γ => qp O O (.v 21 O O .nil) (cK O O) O) zA)))))))))))))))))))))))
 exact zA
 intro x
 refine aa (aA ?_)
 exact aE () O O O (.s O .n)
end Go.Proofs.YtndjkejhacfpdaaGreatDoor

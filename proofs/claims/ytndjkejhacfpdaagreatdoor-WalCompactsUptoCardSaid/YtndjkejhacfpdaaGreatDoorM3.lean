/- Texts that lead to the law WalCompacts: G1. Conditions: as each says. -/
import Derived.Test.YtndjkejhacfpdaaGreatDoorM2
import Derived.Test.YtndjkejhacfpdaaGreatDoorProg
set_option linter.unusedVariables false
set_option linter.unusedSimpArgs false
set_option linter.unusedSectionVars false
namespace Go.Proofs.YtndjkejhacfpdaaGreatDoor
open Go.RowKit _root_.Go.Proofs.Tryz
set_option maxRecDepth 20000
set_option maxHeartbeats 20000000
theorem gA : Elt Tryz.prog 5 1 1 [.int .u8 0] := .of (.int .u8 0) (by kernel_rfl) rfl rfl rfl rfl
abbrev aF : Type := Int × Int × Int × List UInt8 × Int
abbrev av : aF := ((0 : Int), (0 : Int), (0 : Int), ([] : List UInt8), (0 : Int))
abbrev bn : Type := Int × Int × Int × List UInt8
abbrev bj : bn := ((0 : Int), (0 : Int), (0 : Int), ([] : List UInt8))
abbrev dh : Type := Int × Int × Int × Int × Int × Int × Int × Int × Int × Int × List UInt8
abbrev aO : dh := ((0 : Int), (0 : Int), (0 : Int), (0 : Int), (0 : Int), (0 : Int), (0 : Int), (0 : Int), (0 : Int), (0 : Int), ([] : List UInt8))
abbrev au (x : List UInt8) : Value := str x
abbrev eK (x : Int) : Value := .int .i64 x
abbrev dt (x : Option Nat) : Value := match x with
  | none => .nilFunc
  | some f => .func (.func f) #[] #[]
theorem jq : iE Tryz.prog 9 au := tm underlying9
theorem kE : iE Tryz.prog 3 eK := tk underlying3
abbrev ai (p : Nat) (x : List UInt8 × Int) (y : Option Addr × Nat) : List HA := [obj p 109 [.slice y.1 x.1.length y.2, .int .i64 x.2], Row 5 1 y.1 x.1.length y.2 (aB x.1)]
theorem uZ : Elt Tryz.prog 9 1 16 [str ([] : Lb)] := .of (str ([] : Lb)) (by kernel_rfl) rfl rfl rfl rfl
theorem kn : Elt Tryz.prog 144 5 56 [Iv 0, Iv 0, Iv 0, .slice none 0 0, Iv 0] := .of (.agg #[Iv 0, Iv 0, Iv 0, .slice none 0 0, Iv 0]) (by kernel_rfl) rfl rfl rfl rfl
theorem ns : Elt Tryz.prog 3 1 8 [Iv 0] := .of (Iv 0) (by kernel_rfl) rfl rfl rfl rfl
theorem tL : Elt Tryz.prog 33 1 24 [.slice none 0 0] := .of (.slice none 0 0) (by kernel_rfl) rfl rfl rfl rfl
theorem lJ : Elt Tryz.prog 35 4 48 [Iv 0, Iv 0, Iv 0, .slice none 0 0] := .of (.agg #[Iv 0, Iv 0, Iv 0, .slice none 0 0]) (by kernel_rfl) rfl rfl rfl rfl
theorem jk : Elt Tryz.prog 102 11 104 [Iv 0, Iv 0, Iv 0, Iv 0, Iv 0, Iv 0, Iv 0, Iv 0, Iv 0, Iv 0, .slice none 0 0] := .of (.agg #[Iv 0, Iv 0, Iv 0, Iv 0, Iv 0, Iv 0, Iv 0, Iv 0, Iv 0, Iv 0, .slice none 0 0]) (by kernel_rfl) rfl rfl rfl rfl
def V9 (_ : HA) (x : List UInt8) (r : List Value) : Prop := r = [str x]
theorem V9.up {G F : HA} (_ : Up G F) : ∀ x r, V9 G x r → V9 F x r := fun _ _ h => h
def aP (F : HA) (x : Int × Int × Int × List UInt8 × Int) (r : List Value) : Prop := ∃ (a3 : Option Addr) (c3 : Nat), r = [.int .i64 x.1, .int .i64 x.2.1, .int .i64 x.2.2.1, .slice a3 x.2.2.2.1.length c3, .int .i64 x.2.2.2.2] ∧ (Rd F a3 (aB x.2.2.2.1) ∧ x.2.2.2.1.length ≤ c3 ∧ c3 ≤ maxLen)
theorem aP.up {G F : HA} (u : Up G F) : ∀ x r, aP G x r → aP F x r := by
  rintro x r ⟨a3, c3, e, ⟨h3, k3, m3⟩⟩
  exact ⟨a3, c3, e, ⟨h3.up u, k3, m3⟩⟩
def V3 (_ : HA) (x : Int) (r : List Value) : Prop := r = [.int .i64 x]
theorem V3.up {G F : HA} (_ : Up G F) : ∀ x r, V3 G x r → V3 F x r := fun _ _ h => h
def V33 (F : HA) (x : List UInt8) (r : List Value) : Prop := ∃ (a0 : Option Addr) (c0 : Nat), r = [.slice a0 x.length c0] ∧ (Rd F a0 (aB x) ∧ x.length ≤ c0 ∧ c0 ≤ maxLen)
theorem V33.up {G F : HA} (u : Up G F) : ∀ x r, V33 G x r → V33 F x r := by
  rintro x r ⟨a0, c0, e, ⟨h0, k0, m0⟩⟩
  exact ⟨a0, c0, e, ⟨h0.up u, k0, m0⟩⟩
def V35 (F : HA) (x : Int × Int × Int × List UInt8) (r : List Value) : Prop := ∃ (a3 : Option Addr) (c3 : Nat), r = [.int .i64 x.1, .int .i64 x.2.1, .int .i64 x.2.2.1, .slice a3 x.2.2.2.length c3] ∧ (Rd F a3 (aB x.2.2.2) ∧ x.2.2.2.length ≤ c3 ∧ c3 ≤ maxLen)
theorem V35.up {G F : HA} (u : Up G F) : ∀ x r, V35 G x r → V35 F x r := by
  rintro x r ⟨a3, c3, e, ⟨h3, k3, m3⟩⟩
  exact ⟨a3, c3, e, ⟨h3.up u, k3, m3⟩⟩
def vp (x : Int × Int × Int × List UInt8) : Prop := okI .i64 x.1 ∧ okI .i64 x.2.1 ∧ okI .i64 x.2.2.1 ∧ x.2.2.2.length ≤ 140737488351232
def eD (F : HA) (x : Int × Int × Int × Int × Int × Int × Int × Int × Int × Int × List UInt8) (r : List Value) : Prop := ∃ (b : Option Addr) (a : Nat), r = [.int .i64 x.1, .int .i64 x.2.1, .int .i64 x.2.2.1, .int .i64 x.2.2.2.1, .int .i64 x.2.2.2.2.1, .int .i64 x.2.2.2.2.2.1, .int .i64 x.2.2.2.2.2.2.1, .int .i64 x.2.2.2.2.2.2.2.1, .int .i64 x.2.2.2.2.2.2.2.2.1, .int .i64 x.2.2.2.2.2.2.2.2.2.1, .slice b x.2.2.2.2.2.2.2.2.2.2.length a] ∧ (Rd F b (aB x.2.2.2.2.2.2.2.2.2.2) ∧ x.2.2.2.2.2.2.2.2.2.2.length ≤ a ∧ a ≤ maxLen)
theorem eD.up {G F : HA} (u : Up G F) : ∀ x r, eD G x r → eD F x r := by
  rintro x r ⟨a, b, e, ⟨c, d, f⟩⟩
  exact ⟨a, b, e, ⟨c.up u, d, f⟩⟩
def V56 (F : HA) (x : Int × Int × Bool × Int × Int × Int × Int × Int × (List (Int × Int × Int × List UInt8))) (r : List Value) : Prop := ∃ (a8 : Option Addr) (c8 : Nat), r = [.int .i64 x.1, .int .i64 x.2.1, .bool x.2.2.1, .int .i64 x.2.2.2.1, .int .i64 x.2.2.2.2.1, .int .i64 x.2.2.2.2.2.1, .int .i64 x.2.2.2.2.2.2.1, .int .i64 x.2.2.2.2.2.2.2.1, .slice a8 x.2.2.2.2.2.2.2.2.length c8] ∧ (RdV F 4 (V35 F) a8 x.2.2.2.2.2.2.2.2 ∧ x.2.2.2.2.2.2.2.2.length ≤ c8 ∧ c8 ≤ maxLen)
theorem V56.up {G F : HA} (u : Up G F) : ∀ x r, V56 G x r → V56 F x r := by
  rintro x r ⟨a8, c8, e, ⟨h8, k8, m8⟩⟩
  exact ⟨a8, c8, e, ⟨h8.up u (V35.up u), k8, m8⟩⟩
def vN (x : Int × Int × Bool × Int × Int × Int × Int × Int × (List (Int × Int × Int × List UInt8))) : Prop := okI .i64 x.1 ∧ okI .i64 x.2.1 ∧ True ∧ okI .i64 x.2.2.2.1 ∧ okI .i64 x.2.2.2.2.1 ∧ okI .i64 x.2.2.2.2.2.1 ∧ okI .i64 x.2.2.2.2.2.2.1 ∧ okI .i64 x.2.2.2.2.2.2.2.1 ∧ (x.2.2.2.2.2.2.2.2.length * 48 ≤ 140737488351232 ∧ ∀ y ∈ x.2.2.2.2.2.2.2.2, vp y)
theorem mixed : Tryz.prog.follows .mixedOrders = true := by kernel_rfl
def gO.f  : Option ((List ((List UInt8) × (List UInt8 × Int))) × List UInt8 × Int × Bool) := some (([] : List ((List UInt8) × (List UInt8 × Int))), ([] : List UInt8), 0, false)
theorem gO.calls (W : World) (F : HA)   :
    Fn Tryz.prog W 16 [] [] F (gO.f ) (fun (r : (List (Lb × (Lb × Int))) × Lb × Int × Bool) (y : Nat × Nat × Kps) => Pt y.1) (fun r y => [W5 y.1 y.2.1 r.2, ao (aj y.2.1 au am y.2.2) ai y.2.2 r.1]) := by
 unfold gO.f
 refine aL 4 Tryz.func16 O Tryz.ntmps16 O (sr (va O O (nx (ah (si (ek := au) (fp := ai) O) O O O ?_))))
 intro a
 refine vq (cS (v := .agg #[.map (some a), str ([] : Lb), Iv 0, .bool false]) O O (fun _ => by kernel_rfl)) O (ah (cl O O O) O O O ?_)
 intro b
 refine va O O (ae (aa (aA ?_)))
 exact aE (b, a, ([] : Kps)) O O O (.s O (.s O (.s O .n)))

def fF.f  : Option (Unit) := some ()
theorem fF.calls (W : World) (F : HA) (m0 : Nat)  :
    Fn Tryz.prog W 70 [.map (some m0)] [] F (fF.f ) (fun (r : Unit) (y : Nat) => .func (.func 98) #[] #[Pt y]) (fun r y => [obj y 95 [.map (some m0)]]) := by
 unfold fF.f
 refine aL 4 Tryz.func70 O Tryz.ntmps70 O (sr (ah (cl O O O) O O O ?_))
 intro a
 refine va O O (nx (vq (gl O O O) O (va O O (ae (aa (aA ?_))))))
 exact aE a O O O (.s O (.s O .n))

def cy.f (a : List ((List UInt8) × (List UInt8 × Int))) : Option (List (List UInt8)) := if (a.map (·.1)).Nodup ∧ a.length * 16 ≤ 140737488355328 ∧ ∀ p ∈ a, p.1.length ≤ 140737488351232 then some (eA a) else none
theorem cy.calls (W : World) (F : HA) (d : Nat) (a : Nat) (b : Kps) (c : List (Lb × (Lb × Int))) :
    Fn Tryz.prog W 69 [.func (.func 98) #[] #[Pt d]] [obj d 95 [.map (some a)], ao (aj a au am b) ai b c] F (cy.f c) (fun (r : List Lb) (y : Option Addr × Nat) => .slice y.1 r.length y.2) (fun r y => [ar 9 1 (V9 tt) y.1 r y.2, obj d 95 [.map (some a)], ao (aj a au am b) ai b c]) := by
  unfold cy.f
  exact qh fun F => rm (V := (V9 tt)) (fun _ => O) underlying9 (fun w D0 nn => mB w D0 nn a d)

def eW.f (a : List ((List UInt8) × (List UInt8 × Int))) (c : List UInt8) (d : Int) (e : Bool) : Option (List (List UInt8)) := (fF.f).bind fun g => ((cy.f a).bind fun b => (some b))
theorem eW.calls (W : World) (F : HA) (b0 : Nat) (a : Nat) (b : Kps) (c : List (Lb × (Lb × Int))) (d : Lb) (e : Int) (g : Bool)  :
    Fn Tryz.prog W 29 [Pt b0] [W0 b0 a d e g, ao (aj a au am b) ai b c] F (eW.f c d e g) (fun (r : List Lb) (y : Option Addr × Nat) => .slice y.1 r.length y.2) (fun r y => [ar 9 1 (V9 tt) y.1 r y.2, W0 b0 a d e g, ao (aj a au am b) ai b c]) := by
 unfold eW.f
 refine aL 9 Tryz.func29 O Tryz.ntmps29 O (sr (va O O (nx (vm O O (vn O O (vq (ap O O underlying97 O O sizeOf95 O) O (vq (ag O O isAgg95 (.obj 0 O O)) O (ax (fun l j => (ah (aw (vs := [.map (some a)]) (cap := []) (A := []) (rst := [W0 b0 a d e g, ao (aj a au am b) ai b c, F]) O O O O O O call70 (.s O (.s O (.s O .n))) (fF.calls _ _ a ) j) O O O ?_))))))))))
 intro h
 refine ax (fun m k => (ah (aw (vs := [.func (.func 98) #[] #[Pt h]]) (cap := []) (A := [obj h 95 [.map (some a)], ao (aj a au am b) ai b c]) (rst := [W0 b0 a d e g, F]) O O O O O O call69 (.s O (.sel 1 O (.s O (.s O .n)))) (cy.calls _ _ h a b c ) k) O O O ?_))
 intro i
 refine va O O (ae (aa (aA ?_)))
 exact aE i O O O (.s O (.sel 2 O (.sel 1 O (.sel 1 O .n))))

def dN.l0 (x0 : List UInt8) : Nat → Int → Int → Option ((Int) ⊕ (Int × Bool))
  | 0, _, _ => none
  | k + 1, b, a => if a < ((cut x0 (4 : Int) (x0.length : Int)).length : Int) then (if 0 ≤ a ∧ a < ((cut x0 (4 : Int) (x0.length : Int)).length : Int) then (if ((decide ((((cut x0 (4 : Int) (x0.length : Int)).getD a.toNat 0).toNat : Int) < (48 : Int))) || (decide ((57 : Int) < (((cut x0 (4 : Int) (x0.length : Int)).getD a.toNat 0).toNat : Int)))) = true then (some (.inr (0, false))) else (dN.l0 x0 k (IntKind.i64.wrap ((IntKind.i64.wrap (10 * b)) + (IntKind.i64.wrap (IntKind.u8.wrap ((((cut x0 (4 : Int) (x0.length : Int)).getD a.toNat 0).toNat : Int) - 48))))) (IntKind.i64.wrap (a + 1)))) else none) else (some (.inl b))
def dN.f (k : Nat) (x0 : List UInt8) : Option (Int × Bool) := (if (x0.length : Int) = (12 : Int) then (if 0 ≤ (0 : Int) ∧ (0 : Int) ≤ (4 : Int) ∧ (4 : Int) ≤ (x0.length : Int) then (some (!decide ((cut x0 (0 : Int) (4 : Int)) = ([119, 97, 108, 45] : List UInt8)))) else none) else (some true)).bind fun b => (if b = true then (some (0, false)) else (orR (if 0 ≤ (4 : Int) ∧ (4 : Int) ≤ (x0.length : Int) ∧ (x0.length : Int) ≤ (x0.length : Int) then (if (cut x0 (4 : Int) (x0.length : Int)).length ≤ 140737488355328 then (dN.l0 x0 k 0 0) else none) else none) fun a => (some (a, decide ((0 : Int) < a)))))
theorem dN.calls (W : World) (F : HA) (k : Nat) (x0 : Lb)  :
    Fn Tryz.prog W 11 [str x0] [] F (dN.f k x0) (fun (r : Int × Bool) (y : Unit) => .tuple #[Iv r.1, .bool r.2]) (fun r y => []) := by
 unfold dN.f
 refine aL 39 Tryz.func11 O Tryz.ntmps11 O (sr (va O O (va O O (ae (aa (ay (sr (vm O O (vq (lg O O O underlying9) O (vq (cZ O O O) O (vm O O ?_)))))))))))
 refine dH 4 (S := Bool) Unit (fun s y => [(0, str x0), (14, .bool s)]) (fun s y => [F]) ?_ ?_
 refine mS (fun l => ?_) (fun m => ?_)
 rw [l]
 refine aJ O O O O O O (aJ O O O O O O (aJ O O O O O O (vq (cf O O O O O) O (ae ?_))))
 exact aH (s := true) () ⟨O, O, trivial⟩ (.s O .n)
 rw [m]
 refine aT (aZ O O) O O O O O O (bb (fun n => (aT (sl (lo' := (0 : Int)) (hi' := (4 : Int)) O O O O underlying9 (.inr ⟨_, O⟩) (.inl ⟨O, O⟩) n) O O O O O O (aT (tJ O O O) O O O O O O (vq (cf O O O O O) O (ae ?_))))))
 exact aH (s := !decide ((cut x0 (0 : Int) (4 : Int)) = ([119, 97, 108, 45] : Lb))) () ⟨O, O, trivial⟩ (.s O .n)
 intro z ab
 refine ae (aa ?_)
 refine aW O (fun ad => ?_) (fun af => ?_)
 refine sr (va O O (va O O (ae (aa (aA (aK ?_))))))
 exact aE () O O O (.s O .n)
 refine aC (aa (sr (va O O (ae (aa ?_)))))
 refine fm (S := Int) Unit (fun s y => [(4, Iv s)]) (fun s y => [F]) ?_ ?_
 refine sr (vm O O (bb (fun g => (vq (sl (lo' := (4 : Int)) (hi' := (x0.length : Int)) O O O O underlying9 (.inl ⟨O, O⟩) (.inr ⟨_, O⟩) g) O (bb (fun h => (ah (qT O O underlying9 underlying33 underlying5 h) O O O ?_)))))))
 intro c
 refine vq (bp O O O underlying33) O (vm O O (ae (aa (aQ ?_))))
 refine cr (S := Int × Int) Unit (fun k s => dN.l0 x0 k s.1 s.2) (fun s y => [(4, Iv s.1), (17, .slice (some ⟨c.1, 0, none⟩) ((cut x0 (4 : Int) (x0.length : Int)).length) c.2), (18, Iv ((cut x0 (4 : Int) (x0.length : Int)).length : Int)), (19, Iv s.2)]) (fun s y => [Row 5 1 (some ⟨c.1, 0, none⟩) (cut x0 (4 : Int) (x0.length : Int)).length c.2 (aB (cut x0 (4 : Int) (x0.length : Int))), F]) (fun _ => by rw [dN.l0]) ?_ k (0, 0) () ⟨O, O, O, O, trivial⟩ (.s O (.s O .n))
 intro k a q
 refine cR (by rw [dN.l0]) (sr (vq (cx O O O) O (ae (aa (ay ?_)))))
 refine bk O (fun t => ?_) (fun u => ?_)
 refine aC (aa (ay (aQ (sr (bb (fun d => (ph 0 O (gV (j := a.2.toNat) (by omega)) (fun v o e => (vq (iB O O O e underlying33 sizeOf5 d.1 d.2) O (vq (ag O O isAgg5 (.row' 0 O e (gw (by omega)))) O (va O O (ae (aa (ay (sr (vm O O (vq (cx O O O) O (vm O O (ak (b := decide ((((cut x0 (4 : Int) (x0.length : Int)).getD a.2.toNat 0).toNat : Int) < (48 : Int))) (fun p => RQ.sub (E' := [(6, .int .u8 (((cut x0 (4 : Int) (x0.length : Int)).getD a.2.toNat 0).toNat : Int))]) ⟨O, trivial⟩ (aZ O O)) O O O O O (ak (b := decide ((((cut x0 (4 : Int) (x0.length : Int)).getD a.2.toNat 0).toNat : Int) < (48 : Int))) (fun i => RQ.sub (E' := [(26, .int .u8 (((cut x0 (4 : Int) (x0.length : Int)).getD a.2.toNat 0).toNat : Int))]) ⟨aD O i, trivial⟩ (cF O O O)) O O O O O (vq (dU O O O) O (ae (aa ?_)))))))))))))))))))))))
 refine aW O (fun w => ?_) (fun x => ?_)
 refine sr (va O O (va O O (ae (aa (aA (aK (bl (aK (eM (bl (eC ?_)))))))))))
 exact aE () O O O (.sel 1 O .n)
 refine aC (aa (aI (vm O O (vq (tM O O O) O (vm O O (vq (cW O O O) O (vq (fL O O underlying5 underlying3) O (vq (bU O O O) O (va O O (ae (bu (aa (aI (vq (bU O O O) O (vm O O (ae ?_))))))))))))))))
 exact bP (s := (IntKind.i64.wrap ((IntKind.i64.wrap (10 * a.1)) + (IntKind.i64.wrap (IntKind.u8.wrap ((((cut x0 (4 : Int) (x0.length : Int)).getD a.2.toNat 0).toNat : Int) - 48)))), IntKind.i64.wrap (a.2 + 1))) () ⟨O, O, O, O, trivial⟩ (.s O (.s O .n))
 refine cD (cg (cp (ci ?_)))
 exact eV (s := a.1) () ⟨O, trivial⟩ (.sel 1 O .n)
 intro al an
 refine sr (vm O O (vm O O (vq (cF O O O) O (va O O (va O O (ae (aa (aA ?_))))))))
 exact aE () O O O (.s O .n)

def gp.f (x0 : Int) : Option (List UInt8) := if -9223372036854775808 ≤ x0 ∧ x0 ≤ 9223372036854775807 then some (Lib.itoa x0) else none
theorem gp.calls (W : World) (F : HA) (x0 : Int) (hgl : Glb Tryz.prog F) :
    Fn Tryz.prog W 39 [Iv x0] [] F (gp.f x0) (fun (r : Lb) (y : Unit) => str r) (fun r y => []) := by
  unfold gp.f
  exact vg (fun h => ur hgl (fun w ht => Any.strconv_Itoa uG x0 h.1 h.2 w ht))

def eE.l0 : Nat → List UInt8 → Option (List UInt8)
  | 0, _ => none
  | k + 1, a => if (a.length : Int) < (8 : Int) then (if ([48] : List UInt8).length + a.length ≤ 9223372036854775807 then (eE.l0 k (([48] : List UInt8) ++ a)) else none) else (some a)
def eE.f (k : Nat) (x0 : Int) : Option (List UInt8 × Int) := if ((decide (x0 < (1 : Int))) || (decide ((99999999 : Int) < x0))) = true then (some (([] : List UInt8), 1)) else ((gp.f x0).bind fun b => ((eE.l0 k b).bind fun a => (if ([119, 97, 108, 45] : List UInt8).length + a.length ≤ 9223372036854775807 then (some (([119, 97, 108, 45] : List UInt8) ++ a, 0)) else none)))
theorem eE.calls (W : World) (F : HA) (k : Nat) (x0 : Int) (hgl : Glb Tryz.prog F) :
    Fn Tryz.prog W 10 [Iv x0] [] F (eE.f k x0) (fun (r : Lb × Int) (y : Unit) => .tuple #[str r.1, Iv r.2]) (fun r y => []) := by
 unfold eE.f
 refine aL 20 Tryz.func10 O Tryz.ntmps10 O (sr (va O O (va O O (ae (aa (ay (sr (vm O O (vq (cx O O O) O (vm O O (ak (b := decide (x0 < (1 : Int))) (fun i => RQ.sub (E' := [(0, Iv x0)]) ⟨O, trivial⟩ (aZ O O)) O O O O O (ak (b := decide (x0 < (1 : Int))) (fun a => RQ.sub (E' := [(8, Iv x0)]) ⟨aD O a, trivial⟩ (cF O O O)) O O O O O (vq (dU O O O) O (ae (aa ?_)))))))))))))))
 refine aW O (fun m => ?_) (fun n => ?_)
 refine sr (va O O (va O O (ae (aa (aA (aK ?_))))))
 exact aE () O O O (.s O .n)
 refine aC (aa (sr (vm O O (ax (fun h g => (ah (aw (vs := [Iv x0]) (cap := []) (A := []) (rst := [F]) O O O O O O call39 (.s O .n) (gp.calls _ _ x0 (hgl.lend 0 O)) g) O O O ?_))))))
 intro o
 refine va O O (ae (aa ?_))
 refine bF (S := Lb) Unit (fun s y => [(4, str s)]) (fun s y => [F]) ?_ ?_
 refine aQ ?_
 refine cr (S := Lb) Unit (fun k s => eE.l0 k s) (fun s y => [(4, str s)]) (fun s y => [F]) (fun _ => by rw [eE.l0]) ?_ k h () ⟨O, trivial⟩ (.s O .n)
 intro k e p
 refine cR (by rw [eE.l0]) (ay (sr (vm O O (vq (lg O O O underlying9) O (vq (cx O O O) O (ae (aa ?_)))))))
 refine bk O (fun j => ?_) (fun l => ?_)
 refine aC (aa (aQ (aI (vm O O (bb (fun c => (vq (tE O O O c) O (va O O (ae (bu ?_))))))))))
 exact bP (s := ([48] : Lb) ++ e) () ⟨O, trivial⟩ (.s O .n)
 refine cD (cg (cp (ci ?_)))
 exact aH (s := e) () ⟨O, trivial⟩ (.s O .n)
 intro q t
 refine sr (vm O O (bb (fun d => (vq (tE O O O d) O (va O O (va O O (ae (aa (aA ?_)))))))))
 exact aE () O O O (.s O .n)

def bA.f (x0 : Int) : Option (Unit) := if x0 = (0 : Int) then (some ()) else (none)
theorem bA.calls (W : World) (F : HA) (x0 : Int)  :
    Fn Tryz.prog W 43 [Iv x0] [] F (bA.f x0) (fun (r : Unit) (y : Unit) => .tuple #[]) (fun r y => []) := by
 unfold bA.f
 refine aL 7 Tryz.func43 O Tryz.ntmps43 O (sr (vm O O (vq (cZ O O O) O (ae (aa ?_)))))
 refine cT O (fun a => ?_) (fun b => ?_)
 refine aC ?_
 exact fc () O O O (.s O .n)
 exact ik

def cw.f (k : Nat) (x0 : Int) : Option (List UInt8) := (eE.f k x0).bind fun a => ((bA.f a.2).bind fun b => (some a.1))
theorem cw.calls (W : World) (F : HA) (k : Nat) (x0 : Int) (hgl : Glb Tryz.prog F) :
    Fn Tryz.prog W 47 [Iv x0] [] F (cw.f k x0) (fun (r : Lb) (y : Unit) => str r) (fun r y => []) := by
 unfold cw.f
 refine aL 13 Tryz.func47 O Tryz.ntmps47 O (sr (va O O (nx (vm O O (ax (fun a b => (ah (aw (vs := [Iv x0]) (cap := []) (A := []) (rst := [F]) O O O O O O call10 (.s O .n) (eE.calls _ _ k x0 (hgl.lend 0 O)) b) O O O ?_)))))))
 intro d
 refine vm O O (vq (bG O O O) O (vq (bG O O O) O (va O O (va O O (nx (vm O O (ax (fun e c => (ah (aw (vs := [Iv a.2]) (cap := []) (A := []) (rst := [F]) O O O O O O call43 (.s O .n) (bA.calls _ _ a.2 ) c) O O O ?_)))))))))
 intro g
 refine nx (vm O O (va O O (ae (aa (aA ?_)))))
 exact aE () O O O (.s O .n)

def dC.l0 (x0 : List UInt8) : Nat → Int → Option ((Unit) ⊕ (Bool))
  | 0, _ => none
  | k + 1, a => if a < (x0.length : Int) then (if 0 ≤ a ∧ a < (x0.length : Int) then ((if ((decide (((x0.getD a.toNat 0).toNat : Int) < (97 : Int))) || (decide ((122 : Int) < ((x0.getD a.toNat 0).toNat : Int)))) = true then (some ((decide (((x0.getD a.toNat 0).toNat : Int) < (48 : Int))) || (decide ((57 : Int) < ((x0.getD a.toNat 0).toNat : Int))))) else (some false)).bind fun b => (if ((b && (!decide (((x0.getD a.toNat 0).toNat : Int) = (45 : Int)))) && (!decide (((x0.getD a.toNat 0).toNat : Int) = (46 : Int)))) = true then (some (.inr false)) else (dC.l0 x0 k (IntKind.i64.wrap (a + 1))))) else none) else (some (.inl ()))
def dC.f (k : Nat) (x0 : List UInt8) : Option (Bool) := orR (dC.l0 x0 k 0) fun a => (some ((decide ((0 : Int) < (x0.length : Int))) && (decide ((x0.length : Int) ≤ (32 : Int)))))
theorem dC.calls (W : World) (F : HA) (k : Nat) (x0 : Lb)  :
    Fn Tryz.prog W 56 [str x0] [] F (dC.f k x0) (fun (r : Bool) (y : Unit) => .bool r) (fun r y => []) := by
 unfold dC.f
 refine aL 44 Tryz.func56 O Tryz.ntmps56 O (sr (va O O (ae (aa ?_))))
 refine fm (S := Unit) Unit (fun s y => [(0, str x0)]) (fun s y => [F]) ?_ ?_
 refine sr (va O O (ae (aa (aQ ?_))))
 refine cr (S := Int) Unit (fun k s => dC.l0 x0 k s) (fun s y => [(0, str x0), (3, Iv s)]) (fun s y => [F]) (fun _ => by rw [dC.l0]) ?_ k 0 () ⟨O, O, trivial⟩ (.s O .n)
 intro k a z
 refine cR (by rw [dC.l0]) (ay (sr (vm O O (vm O O (vq (lg O O O underlying9) O (vq (cx O O O) O (ae (aa ?_))))))))
 refine bk O (fun ab => ?_) (fun ad => ?_)
 refine aC (aa (ay (aQ (sr (vm O O (vm O O (bb (fun d => (vq (uT O O O underlying9 d.1 d.2) O (va O O (nx (vm O O (vq (cx O O O) O (vm O O (ak (b := decide (((x0.getD a.toNat 0).toNat : Int) < (97 : Int))) (fun o => RQ.sub (E' := [(4, .int .u8 ((x0.getD a.toNat 0).toNat : Int))]) ⟨O, trivial⟩ (aZ O O)) O O O O O (ak (b := decide (((x0.getD a.toNat 0).toNat : Int) < (97 : Int))) (fun e => RQ.sub (E' := [(17, .int .u8 ((x0.getD a.toNat 0).toNat : Int))]) ⟨aD O e, trivial⟩ (cF O O O)) O O O O O (vq (dU O O O) O (vm O O ?_))))))))))))))))))
 refine dH 7 (S := Bool) Unit (fun s y => [(0, str x0), (3, Iv a), (4, .int .u8 ((x0.getD a.toNat 0).toNat : Int)), (27, .bool s)]) (fun s y => [F]) ?_ ?_
 refine eZ (fun g => ?_) (fun h => ?_)
 rw [g]
 refine aT (aZ O O) O O O O O O (aT (cx O O O) O O O O O O (aT (aZ O O) O O O O O O (ak (b := decide (((x0.getD a.toNat 0).toNat : Int) < (48 : Int))) (fun p => RQ.sub (E' := [(4, .int .u8 ((x0.getD a.toNat 0).toNat : Int))]) ⟨O, trivial⟩ (aZ O O)) O O O O O (ak (b := decide (((x0.getD a.toNat 0).toNat : Int) < (48 : Int))) (fun i => RQ.sub (E' := [(24, .int .u8 ((x0.getD a.toNat 0).toNat : Int))]) ⟨aD O i, trivial⟩ (cF O O O)) O O O O O (aT (dU O O O) O O O O O O (vq (cf O O O O O) O (ae ?_)))))))
 exact aH (s := (decide (((x0.getD a.toNat 0).toNat : Int) < (48 : Int))) || (decide ((57 : Int) < ((x0.getD a.toNat 0).toNat : Int)))) () ⟨O, O, O, O, trivial⟩ (.s O .n)
 rw [h]
 refine aJ O O O O O O (aJ O O O O O O (aJ O O O O O O (da O O O O O (da O O O O O (aJ O O O O O O (vq (cf O O O O O) O (ae ?_)))))))
 exact aH (s := false) () ⟨O, O, O, O, trivial⟩ (.s O .n)
 intro c v
 refine vm O O (ak (b := c) (fun q => RQ.sub (E' := [(4, .int .u8 ((x0.getD a.toNat 0).toNat : Int))]) ⟨O, trivial⟩ (aZ O O)) O O O O O (ak (b := c) (fun j => RQ.sub (E' := [(29, .int .u8 ((x0.getD a.toNat 0).toNat : Int))]) ⟨aD O j, trivial⟩ (cZ O O O)) O O O O O (vq (dr O O O) O (vm O O (ak (b := c && (!decide (((x0.getD a.toNat 0).toNat : Int) = (45 : Int)))) (fun t => RQ.sub (E' := [(4, .int .u8 ((x0.getD a.toNat 0).toNat : Int))]) ⟨O, trivial⟩ (aZ O O)) O O O O O (ak (b := c && (!decide (((x0.getD a.toNat 0).toNat : Int) = (45 : Int)))) (fun l => RQ.sub (E' := [(33, .int .u8 ((x0.getD a.toNat 0).toNat : Int))]) ⟨aD O l, trivial⟩ (cZ O O O)) O O O O O (vq (dr O O O) O (ae (aa ?_)))))))))
 refine aW O (fun w => ?_) (fun x => ?_)
 refine sr (va O O (ae (aa (aA (bl (aK (eM (bl (eC ?_)))))))))
 exact aE () O O O (.s O .n)
 refine aC (bu (aa (aI (vm O O (vq (bU O O O) O (va O O (ae ?_)))))))
 exact bP (s := IntKind.i64.wrap (a + 1)) () ⟨O, O, trivial⟩ (.s O .n)
 refine cD (cg (cp (ci ?_)))
 exact eV (s := ()) () ⟨O, trivial⟩ (.s O .n)
 intro af al
 refine sr (vm O O (vq (lg O O O underlying9) O (vq (cF O O O) O (vm O O (ak (b := decide ((0 : Int) < (x0.length : Int))) (fun u => RQ.sub (E' := [(0, str x0)]) ⟨O, trivial⟩ (aZ O O)) O O O O O (ak (b := decide ((0 : Int) < (x0.length : Int))) (fun m => RQ.sub (E' := [(40, str x0)]) ⟨aD O m, trivial⟩ (lg O O O underlying9)) O O O O O (ak (b := decide ((0 : Int) < (x0.length : Int))) (fun n => RQ.sub (E' := [(41, Iv (x0.length : Int))]) ⟨aD O n, trivial⟩ (iC O O O)) O O O O O (vq (dr O O O) O (va O O (ae (aa (aA ?_))))))))))))
 exact aE () O O O (.s O .n)

def cM.f (a : List ((List UInt8) × (List UInt8 × Int))) (b : List UInt8) (c : Int) (d : Bool) (x1 : List UInt8) : Option (Bool) := if (aR a x1).isSome = true then (some true) else (some false)
theorem cM.calls (W : World) (F : HA) (b0 : Nat) (b : Nat) (a : Kps) (c : List (Lb × (Lb × Int))) (d : Lb) (e : Int) (g : Bool) (x1 : Lb)  :
    Fn Tryz.prog W 57 [Pt b0, str x1] [W0 b0 b d e g, ao (aj b au am a) ai a c] F (cM.f c d e g x1) (fun (r : Bool) (y : Unit) => .bool r) (fun r y => [W0 b0 b d e g, ao (aj b au am a) ai a c]) := by
 unfold cM.f
 refine aL 12 Tryz.func57 O Tryz.ntmps57 O (sr (va O O (ae (aa (ay ?_)))))
 refine fo (fun h => ?_) (fun h => ?_)
 refine aI (vm O O (vn O O (vq (ap O O underlying97 O O sizeOf95 O) O (vq (ag O O isAgg95 (.obj 0 O O)) O (vm O O (vq ((jI (ek := au) x1 (gS 1 O) h O O O underlying95 jq : RQ _ _ _ _ (.pointer (some ⟨(cN a x1), 0, none⟩)))) O (vq (vG O O O underlying107) O (va O O (ae (aa (aA ?_)))))))))))
 exact aE () O O O (.s O (.s O (.s O .n)))
 refine aI (vm O O (vn O O (vq (ap O O underlying97 O O sizeOf95 O) O (vq (ag O O isAgg95 (.obj 0 O O)) O (vm O O (vq (jJ (ek := au) x1 (gS 1 O) (iv h) O O O underlying95 jq zeroValue107) O (vq (uH O O O underlying107) O (va O O (ae (aa (aA ?_)))))))))))
 exact aE () O O O (.s O (.s O (.s O .n)))
def cM.v (a : List ((List UInt8) × (List UInt8 × Int))) (b : List UInt8) (c : Int) (d : Bool) (x1 : List UInt8) : Bool := (cM.f a b c d x1).getD false
theorem cM.tot (a : List (Lb × (Lb × Int))) (b : Lb) (c : Int) (d : Bool) (x1 : Lb) : cM.f a b c d x1 = some (cM.v a b c d x1) := by
  have h : ∃ r, cM.f a b c d x1 = some r := by
    unfold cM.f
    repeat' (first | exact ⟨_, rfl⟩ | split | simp only [Option.bind_some])
  obtain ⟨r, h⟩ := h
  unfold cM.v
  rw [h]; rfl

def bK.f (d : List ((List UInt8) × (List UInt8 × Int))) (b : List UInt8) (a : Int) (c : Bool) : Option (Bool × List UInt8 × Int × Bool) := if a = (0 : Int) then (some (false, b, a, c)) else (some (decide (IntKind.i64.wrap (a - 1) = (0 : Int)), b, IntKind.i64.wrap (a - 1), decide (IntKind.i64.wrap (a - 1) = (0 : Int))))
theorem bK.calls (W : World) (F : HA) (b0 : Nat) (a : Nat) (b : Kps) (c : List (Lb × (Lb × Int))) (d : Lb) (e : Int) (g : Bool)  :
    Fn Tryz.prog W 58 [Pt b0] [W0 b0 a d e g, ao (aj a au am b) ai b c] F (bK.f c d e g) (fun (r : Bool × Lb × Int × Bool) (y : Unit) => .bool r.1) (fun r y => [W5 b0 a r.2, ao (aj a au am b) ai b c]) := by
 unfold bK.f
 refine aL 27 Tryz.func58 O Tryz.ntmps58 O (sr (va O O (ae (aa (ay (sr (vm O O (vn O O (vq (ap O O underlying97 O O sizeOf3 O) O (vq (ag O O isAgg3 (.obj 0 O O)) O (vq (bO O O O) O (ae (aa ?_)))))))))))))
 refine bk O (fun h => ?_) (fun i => ?_)
 refine sr (va O O (ae (aa (aA (aK ?_)))))
 exact aE () O O O (.s O (.s O (.s O .n)))
 refine aC (aa (sr (vm O O (vn O O (vq (ap O O underlying97 O O sizeOf3 O) O (vq (ag O O isAgg3 (.obj 0 O O)) O (vq (cW O O O) O (vn O O (vq (ap O O underlying97 O O sizeOf3 O) O (aU (aG 0 O O O sizeOf3 O O (aM (by rfl)) O O) O O ?_))))))))))
 intro _
 refine nx (vm O O (vm O O (vn O O (vq (ap O O underlying97 O O sizeOf3 O) O (vq (ag O O isAgg3 (.obj 0 O O)) O (vq (bO O O O) O (vn O O (vq (ap O O underlying97 O O sizeOf4 O) O (aU (aG 0 O O O sizeOf4 O O (aM (by rfl)) O O) O O ?_)))))))))
 intro _
 refine nx (vm O O (vn O O (vq (ap O O underlying97 O O sizeOf4 O) O (vq (ag O O isAgg4 (.obj 0 O O)) O (va O O (ae (aa (aA ?_))))))))
 exact aE () O O O (.s O (.s O (.s O .n)))
def bK.v (a : List ((List UInt8) × (List UInt8 × Int))) (b : List UInt8) (c : Int) (d : Bool) : Bool × List UInt8 × Int × Bool := (bK.f a b c d).getD (false, [], 0, false)
theorem bK.tot (a : List (Lb × (Lb × Int))) (b : Lb) (c : Int) (d : Bool) : bK.f a b c d = some (bK.v a b c d) := by
  have h : ∃ r, bK.f a b c d = some r := by
    unfold bK.f
    repeat' (first | exact ⟨_, rfl⟩ | split | simp only [Option.bind_some])
  obtain ⟨r, h⟩ := h
  unfold bK.v
  rw [h]; rfl

def eF.f (k : Nat) (a : List ((List UInt8) × (List UInt8 × Int))) (d : List UInt8) (e : Int) (b : Bool) (x1 : List UInt8) : Option (Int × (List ((List UInt8) × (List UInt8 × Int))) × List UInt8 × Int × Bool) := if b = true then (some (11, a, d, e, b)) else ((dC.f k x1).bind fun g => (if (!g) = true then (some (7, a, d, e, b)) else ((cM.f a d e b x1).bind fun h => (if h = true then (some (9, a, d, e, b)) else (if (256 : Int) ≤ (a.length : Int) then (some (10, a, d, e, b)) else ((bK.f a d e b).bind fun c => (if c.1 = true then (some (11, a, c.2.1, c.2.2.1, c.2.2.2)) else (some (0, aX a x1 (([] : List UInt8), (0 : Int)), c.2.1, c.2.2.1, c.2.2.2)))))))))
theorem eF.calls (W : World) (F : HA) (k : Nat) (b0 : Nat) (a : Nat) (b : Kps) (c : List (Lb × (Lb × Int))) (d : Lb) (e : Int) (g : Bool) (x1 : Lb)  :
    Fn Tryz.prog W 21 [Pt b0, str x1] [W0 b0 a d e g, ao (aj a au am b) ai b c] F (eF.f k c d e g x1) (fun (r : Int × (List (Lb × (Lb × Int))) × Lb × Int × Bool) (y : Nat × Kps) => Iv r.1) (fun r y => [W5 b0 y.1 r.2.2, ao (aj y.1 au am y.2) ai y.2 r.2.1]) := by
 unfold eF.f
 refine aL 35 Tryz.func21 O Tryz.ntmps21 O (sr (va O O (ae (aa (ay (aQ (sr (vm O O (vn O O (vq (ap O O underlying97 O O sizeOf4 O) O (vq (ag O O isAgg4 (.obj 0 O O)) O (va O O (ae (aa ?_))))))))))))))
 refine aW O (fun ab => ?_) (fun ad => ?_)
 refine sr (va O O (ae (aa (aA (bl (aK ?_))))))
 exact aE (a, b) O O O (.s O (.s O (.s O .n)))
 refine sr (vm O O (ax (fun af l => (ah (aw (vs := [str x1]) (cap := []) (A := []) (rst := [W0 b0 a d e g, ao (aj a au am b) ai b c, F]) O O O O O O call56 (.s O (.s O (.s O .n))) (dC.calls _ _ k x1 ) l) O O O ?_))))
 intro al
 refine vq (eT O O) O (va O O (ae (aa ?_)))
 refine aW O (fun an => ?_) (fun az => ?_)
 refine sr (va O O (ae (aa (aA (bl (aK ?_))))))
 exact aE (a, b) O O O (.s O (.s O (.s O .n)))
 refine sr (vm O O (vm O O (ax (fun a0 m => (ah (aw (vs := [Pt b0, str x1]) (cap := []) (A := [W0 b0 a d e g, ao (aj a au am b) ai b c]) (rst := [F]) O O O O O O call57 (.s O (.s O (.s O .n))) (cM.calls _ _ b0 a b c d e g x1 ) m) O O O ?_)))))
 intro n
 refine va O O (ae (aa ?_))
 refine aW O (fun o => ?_) (fun q => ?_)
 refine sr (va O O (ae (aa (aA (bl (aK ?_))))))
 exact aE (a, b) O O O (.s O (.s O (.s O .n)))
 refine sr (vm O O (vn O O (vq (ap O O underlying97 O O sizeOf95 O) O (vq (ag O O isAgg95 (.obj 0 O O)) O (vq (ug (gS 1 O) O O O underlying95) O (vq (ju O O O) O (va O O (ae (aa ?_)))))))))
 refine bk O (fun s => ?_) (fun t => ?_)
 refine sr (va O O (ae (aa (aA (bl (aK ?_))))))
 exact aE (a, b) O O O (.s O (.s O (.s O .n)))
 refine sr (vm O O (ax (fun i j => (ah (aw (vs := [Pt b0]) (cap := []) (A := [W0 b0 a d e g, ao (aj a au am b) ai b c]) (rst := [F]) O O O O O O call58 (.s O (.s O (.s O .n))) (bK.calls _ _ b0 a b c d e g ) j) O O O ?_))))
 intro u
 refine va O O (ae (aa ?_))
 refine aW O (fun w => ?_) (fun z => ?_)
 refine sr (va O O (ae (aa (aA (bl (aK ?_))))))
 exact aE (a, b) O O O (.s O (.s O (.s O .n)))
 refine aC (bu (aa (sr (vm O O (vn O O (vq (ap O O underlying97 O O sizeOf95 O) O (vq (ag O O isAgg95 (.obj 0 O O)) O (vm O O (vq (cS (v := .agg #[.slice none 0 0, Iv 0]) O O (fun _ => by kernel_rfl)) O (ah (cl O O O) O O O ?_))))))))))
 intro h
 refine aU (td (ek := au) 2 x1 h O O O O underlying95 jq O) O O ?_
 intro _
 refine bR (H' := [W5 b0 a i.2, ao (aj a au am (aX b x1 h)) ai (aX b x1 h) (aX c x1 (([] : Lb), (0 : Int))), F]) ((.sel 1 O (.foldU (x := x1) (p := h) (v := (([] : Lb), (0 : Int))) (none, 0) (.sel 1 O (.s O (.row_nil (.s O .n))))))) (nx (va O O (ae (aa (aA ?_)))))
 exact aE (a, aX b x1 h) O O O (.s O (.s O (.s O .n)))

def iS.f (d : Int) (e : Int) (g : Int) (b : Int) (c : Int) (a : List (aF)) : Option (Int × Int) := if (0 : Int) < (a.length : Int) then (if 0 ≤ IntKind.i64.wrap ((a.length : Int) - 1) ∧ IntKind.i64.wrap ((a.length : Int) - 1) < (a.length : Int) then (some ((a.getD (IntKind.i64.wrap ((a.length : Int) - 1)).toNat av).2.1, (a.getD (IntKind.i64.wrap ((a.length : Int) - 1)).toNat av).1)) else none) else (some (b, c))
theorem iS.calls (W : World) (F : HA) (b0 : Nat) (e : Int) (g : Int) (h : Int) (b : Int) (c : Int) (k : Option Addr) (d : Nat) (a : List aF) (q : RdV F 5 (aP F) k a) (w : a.length ≤ d) (x : d ≤ maxLen) :
    Fn Tryz.prog W 61 [Pt b0] [W11 b0 e g h b c a k d] F (iS.f e g h b c a) (fun (r : Int × Int) (y : Unit) => .tuple #[Iv r.1, Iv r.2]) (fun r y => [W11 b0 e g h b c a k d]) := by
 unfold iS.f
 refine aL 34 Tryz.func61 O Tryz.ntmps61 O (sr (va O O (va O O (ae (aa (ay (sr (vm O O (vn O O (vq (ap O O underlying89 O O sizeOf87 O) O (vq (ag O O isAgg87 (.obj 0 O O)) O (vq (bp O O O underlying87) O (va O O (nx (vm O O (vq (cF O O O) O (ae (aa ?_))))))))))))))))))
 refine bk O (fun a0 => ?_) (fun a1 => ?_)
 refine sr (vm O O (vn O O (vq (ap O O underlying89 O O sizeOf87 O) O (vq (ag O O isAgg87 (.obj 0 O O)) O (vm O O (vq (cW O O O) O (bb (fun m => ?_))))))))
 obtain ⟨a2, al, a3, t, u, z, hcell10v⟩ := RdV.pos q (Up.refl _) rfl (i := (IntKind.i64.wrap ((a.length : Int) - 1)).toNat) (by omega) av
 obtain ⟨n, p, rfl, ⟨ab, ad, af⟩⟩ := u
 refine vq (cK O O O t underlying87 sizeOf144 m.1 m.2) O (vq (ap O O underlying144 O O sizeOf35 O) O (vq (cn (vs := [Iv ((a.getD (IntKind.i64.wrap ((a.length : Int) - 1)).toNat av).1), Iv ((a.getD (IntKind.i64.wrap ((a.length : Int) - 1)).toNat av).2.1), Iv ((a.getD (IntKind.i64.wrap ((a.length : Int) - 1)).toNat av).2.2.1), .slice n (((a.getD (IntKind.i64.wrap ((a.length : Int) - 1)).toNat av).2.2.2.1).length) p]) O O isAgg35 sizeOf35 O (fun j v hj => iy (hcell10v 1 O (0 + j) v (cG (off := 0) O j v hj)))) O (ah (bM O zeroValue35 O) O O O ?_)))
 intro l
 refine aU (aG 0 O O O sizeOf35 O O (aM (by rfl)) O O) O O ?_
 intro _
 refine ae (aa (ay ?_))
 refine ba (Γ := Unit) () [[], [0], [], [2], [0, 1], rL 5] [] [0, 1, 2, 3, 4, 5] (fun i => [[0], [0], [0], [0], [0], [0]].getD i []) (fun i => [[], [], [], [], [], []].getD i []) (fun γ i => [.pointer (some ⟨l, 1, none⟩), Iv ((a.getD (IntKind.i64.wrap ((a.length : Int) - 1)).toNat av).2.1), Pt l, Iv ((a.getD (IntKind.i64.wrap ((a.length : Int) - 1)).toNat av).1), Iv ((a.getD (IntKind.i64.wrap ((a.length : Int) - 1)).toNat av).2.1), Iv ((a.getD (IntKind.i64.wrap ((a.length : Int) - 1)).toNat av).1)].getD i undef) (fun j γ => [[W13 l (a.getD (IntKind.i64.wrap ((a.length : Int) - 1)).toNat av) n p, W11 b0 e g h b c a k d, F]].getD j []) (fun γ => [(2, Iv ((a.getD (IntKind.i64.wrap ((a.length : Int) - 1)).toNat av).2.1)), (3, Iv ((a.getD (IntKind.i64.wrap ((a.length : Int) - 1)).toNat av).1))]) mixed (by decide) (by decide) (by decide) (by decide) (by decide) (by decide) (by decide) 34 O (by decide) (by decide) (by decide) (Ent.refl _) ?_ ?_ (fun _ => ⟨O, O, trivial⟩) ?_
 exact (aq O (fun γ => qp O O (.o (s := 5) O (by decide) .nil) (ap O O underlying35 O O sizeOf3 O) O) (aq O (fun γ => qp O O (.v 0 O O .nil) (ag O O isAgg3 (.obj 0 O O)) O) (aq O (fun γ => qp O O (.o (s := 5) O (by decide) .nil) (ap O O underlying35 O O sizeOf3 O) O) (aq O (fun γ => qp O O (.v 2 O O .nil) (ag O O isAgg3 (.obj 0 O O)) O) (aq O (fun γ => qp O O (.v 1 O O .nil) (cz O O) O) (aq O (fun γ => qp O O (.v 3 O O .nil) (cz O O) O) zA))))))
 exact zA
 intro an
 refine aa (aA (aK ?_))
 exact aE () O O O (.sel 1 O (.sel 1 O .n))
 refine aC (aa (ay ?_))
 refine ba (Γ := Unit) () [[], [0], [0, 1], [0, 1, 2], [], [4], [4, 5], [4, 5, 6], rL 4, rL 9] [] [0, 1, 2, 3, 4, 5, 6, 7, 8, 9] (fun i => [[0], [0], [0], [0], [0], [0], [0], [0], [0], [0]].getD i []) (fun i => [[], [], [], [], [], [], [], [], [], []].getD i []) (fun γ i => [Pt b0, Pt b0, .pointer (some ⟨b0, 3, none⟩), Iv b, Pt b0, Pt b0, .pointer (some ⟨b0, 4, none⟩), Iv c, Iv b, Iv c].getD i undef) (fun j γ => [[W11 b0 e g h b c a k d, F]].getD j []) (fun γ => [(2, Iv b), (3, Iv c)]) mixed (by decide) (by decide) (by decide) (by decide) (by decide) (by decide) (by decide) 34 O (by decide) (by decide) (by decide) (Ent.refl _) ?_ ?_ (fun _ => ⟨O, O, trivial⟩) ?_
 exact (aq O (fun γ => qm O (.o (s := 0) O (by decide) .nil) O) (aq O (fun γ => qp O O (.v 0 O O .nil) (aS O O) O) (aq O (fun γ => qp O O (.v 1 O O .nil) (ap O O underlying89 O O sizeOf3 O) O) (aq O (fun γ => qp O O (.v 2 O O .nil) (ag O O isAgg3 (.obj 0 O O)) O) (aq O (fun γ => qm O (.o (s := 0) O (by decide) .nil) O) (aq O (fun γ => qp O O (.v 4 O O .nil) (aS O O) O) (aq O (fun γ => qp O O (.v 5 O O .nil) (ap O O underlying89 O O sizeOf3 O) O) (aq O (fun γ => qp O O (.v 6 O O .nil) (ag O O isAgg3 (.obj 0 O O)) O) (aq O (fun γ => qp O O (.v 3 O O .nil) (cz O O) O) (aq O (fun γ => qp O O (.v 7 O O .nil) (cz O O) O) zA))))))))))
 exact zA
 intro az
 refine aa (aA ?_)
 exact aE () O O O (.s O (.s O .n))

def dW.f  : Option (List UInt8 × Int) := some (([] : List UInt8), 0)
theorem dW.calls (W : World) (F : HA)   :
    Fn Tryz.prog W 83 [] [] F (dW.f ) (fun (r : Lb × Int) (y : Nat × Option Addr × Nat) => Pt y.1) (fun r y => [obj y.1 160 [.slice y.2.1 r.1.length y.2.2, Iv r.2], Row 5 1 y.2.1 r.1.length y.2.2 (aB r.1)]) := by
 unfold dW.f
 refine aL 3 Tryz.func83 O Tryz.ntmps83 O (sr (va O O (nx (vq (cS (v := .agg #[.slice none 0 0, Iv 0]) O O (fun _ => by kernel_rfl)) O (ah (cl O O O) O O O ?_)))))
 intro a
 refine va O O (ae (aa (aA ?_)))
 exact aE (a, none, 0) O O O (.s O (.row_nil (.s O .n)))

def dS.l0 : Nat → Int → Int → Option (Int)
  | 0, _, _ => none
  | k + 1, a, b => if (128 : Int) ≤ a then (dS.l0 k (Int.fdiv a (2 ^ (min (7 : Int).toNat IntKind.i64.bits))) (IntKind.i64.wrap (b + 1))) else (some b)
def dS.f (k : Nat) (x0 : Int) : Option (Int) := if ((decide (x0 < (0 : Int))) || (decide ((4611686018427387904 : Int) < x0))) = true then (some 0) else ((dS.l0 k x0 1).bind fun a => (some a))
theorem dS.calls (W : World) (F : HA) (k : Nat) (x0 : Int)  :
    Fn Tryz.prog W 106 [Iv x0] [] F (dS.f k x0) (fun (r : Int) (y : Unit) => Iv r) (fun r y => []) := by
 unfold dS.f
 refine aL 17 Tryz.func106 O Tryz.ntmps106 O (sr (va O O (ae (aa (ay (sr (vm O O (vq (cx O O O) O (vm O O (ak (b := decide (x0 < (0 : Int))) (fun d => RQ.sub (E' := [(0, Iv x0)]) ⟨O, trivial⟩ (aZ O O)) O O O O O (ak (b := decide (x0 < (0 : Int))) (fun c => RQ.sub (E' := [(7, Iv x0)]) ⟨aD O c, trivial⟩ (cF O O O)) O O O O O (vq (dU O O O) O (ae (aa ?_))))))))))))))
 refine aW O (fun g => ?_) (fun h => ?_)
 refine sr (va O O (ae (aa (aA (aK ?_)))))
 exact aE () O O O (.s O .n)
 refine aC (aa (sr (va O O (ae (aa ?_)))))
 refine bF (S := Int) Unit (fun s y => [(3, Iv s)]) (fun s y => [F]) ?_ ?_
 refine aQ ?_
 refine cr (S := Int × Int) Unit (fun k s => dS.l0 k s.1 s.2) (fun s y => [(0, Iv s.1), (3, Iv s.2)]) (fun s y => [F]) (fun _ => by rw [dS.l0]) ?_ k (x0, 1) () ⟨O, O, trivial⟩ (.s O .n)
 intro k a i
 refine cR (by rw [dS.l0]) (ay (sr (vm O O (vq (ju O O O) O (ae (aa ?_))))))
 refine bk O (fun j => ?_) (fun e => ?_)
 refine aC (aa (aQ (sr (vm O O (vq (lK O O O (by decide)) O (va O O (ny (vm O O (vq (bU O O O) O (va O O (ae (bu ?_))))))))))))
 exact bP (s := (Int.fdiv a.1 (2 ^ (min (7 : Int).toNat IntKind.i64.bits)), IntKind.i64.wrap (a.2 + 1))) () ⟨O, O, trivial⟩ (.s O .n)
 refine cD (cg (cp (ci ?_)))
 exact aH (s := a.2) () ⟨O, trivial⟩ (.s O .n)
 intro l m
 refine sr (vm O O (va O O (ae (aa (aA ?_)))))
 exact aE () O O O (.s O .n)

def cL.l0 {S : Type} (step : S → Int → Option S) : Nat → Int → S → Option (Int × S)
  | 0, _, _ => none
  | k + 1, a, b => if (128 : Int) ≤ a then ((step b (IntKind.u8.wrap (ca .or .i64 (ca .and .i64 a 127) 128))).bind fun c => (cL.l0 step k (Int.fdiv a (2 ^ (min (7 : Int).toNat IntKind.i64.bits))) c)) else (some (a, b))
def cL.f {S : Type} (k : Nat) (step : S → Int → Option S) (s0 : S) (b : Int) : Option (S) := (cL.l0 step k b s0).bind fun a => ((step a.2 (IntKind.u8.wrap a.1)).bind fun c => (some c))
theorem cL.calls (W : World) (F : HA) (k : Nat) (S Y : Type) (l : Nat) (step : S → Int → Option S) (A : S → Y → HA) (s0 : S) (y0 : Y) (b1 : Nat) (a : Int) (hY : lD Tryz.prog W l (fun (x : Int) => [.int .u8 x]) step A) :
    Fn Tryz.prog W 126 [.func (.yield l) #[] #[], Pt b1] [A s0 y0, obj b1 3 [Iv a]] F (cL.f k step s0 a) (fun (r : S) (y : Y) => .tuple #[]) (fun r y => [A r y, obj b1 3 [Iv a]]) := by
 unfold cL.f
 refine aL 20 Tryz.func126 O Tryz.ntmps126 O (sr (vq (ag O O isAgg3 (.obj 1 O O)) O (va O O (ae (aa ?_)))))
 refine bF (S := Int × S) Y (fun s y => [(0, .func (.yield l) #[] #[]), (3, Iv s.1)]) (fun s y => [obj b1 3 [Iv a], A s.2 y, F]) ?_ ?_
 refine aQ ?_
 refine cr (S := Int × S) Y (fun k s => cL.l0 step k s.1 s.2) (fun s y => [(0, .func (.yield l) #[] #[]), (3, Iv s.1)]) (fun s y => [obj b1 3 [Iv a], A s.2 y, F]) (fun _ => by rw [cL.l0]) ?_ k (a, s0) y0 ⟨O, O, trivial⟩ (.sel 1 O (.s O (.s O .n)))
 intro k b h
 refine cR (by rw [cL.l0]) (ay (sr (vm O O (vq (ju O O O) O (ae (aa ?_))))))
 refine bk O (fun n => ?_) (fun o => ?_)
 refine aC (aa (aQ (ay (sr (vm O O (vm O O (vq (pJ O O O) O (vq (mT O O O) O (vq (fL O O underlying3 underlying5) O (ax (fun i c => (ah (oR (IntKind.u8.wrap (ca .or .i64 (ca .and .i64 b.1 127) 128)) 1 O O O O O O hY O c) O O O ?_))))))))))))
 intro e
 refine vq (eT O O) O (ae (aa (fy O (aC (aa (aI (vm O O (vq (lK O O O (by decide)) O (va O O (ae (bu ?_)))))))))))
 exact bP (s := (Int.fdiv b.1 (2 ^ (min (7 : Int).toNat IntKind.i64.bits)), i)) e ⟨O, O, trivial⟩ (.s O (.s O (.s O .n)))
 refine cD (cg (cp (ci ?_)))
 exact aH (s := b) h ⟨O, O, trivial⟩ (.s O (.s O (.s O .n)))
 intro j p
 refine aI (vm O O (vm O O (vq (fL O O underlying3 underlying5) O (ax (fun m d => (ah (oR (IntKind.u8.wrap j.1) 1 O O O O O O hY O d) O O O ?_))))))
 intro g
 refine ae ?_
 exact fc g O O O (.sel 1 O (.s O (.s O .n)))

def ig.f (x0 : Int) : Option (Int) := some x0
theorem ig.calls (W : World) (F : HA) (x0 : Int)  :
    Fn Tryz.prog W 107 [Iv x0] [] F (ig.f x0) (fun (r : Int) (y : Nat) => .func (.func 126) #[] #[Pt y]) (fun r y => [obj y 3 [Iv r]]) := by
 unfold ig.f
 refine aL 4 Tryz.func107 O Tryz.ntmps107 O (sr (ah (cl O O O) O O O ?_))
 intro a
 refine va O O (nx (vq (gl O O O) O (va O O (ae (aa (aA ?_))))))
 exact aE a O O O (.s O (.s O .n))

def bv.f (k : Nat) (b : List UInt8) (c : Int) (x1 : Int) : Option (List UInt8 × Int) := if c = (0 : Int) then ((dS.f k x1).bind fun g => (if g = (0 : Int) then (some (b, 1)) else ((ig.f x1).bind fun h => ((cL.f k (fun (d : List UInt8) (a : Int) => if 0 ≤ a ∧ a < 256 then (if (d.length + ([(dE a)] : List UInt8).length) * 1 ≤ 140737488355328 then (some (d ++ ([(dE a)] : List UInt8))) else none) else none) b h).bind fun e => (some (e, c)))))) else (some (b, c))
theorem bv.calls (W : World) (F : HA) (k : Nat) (b0 : Nat) (g : Option Addr) (h : Nat) (d : Lb) (e : Int) (x1 : Int)  :
    Fn Tryz.prog W 84 [Pt b0, Iv x1] [obj b0 160 [.slice g d.length h, Iv e], Row 5 1 g d.length h (aB d)] F (bv.f k d e x1) (fun (r : Lb × Int) (y : Option Addr × Nat) => .tuple #[]) (fun r y => [obj b0 160 [.slice y.1 r.1.length y.2, Iv r.2], Row 5 1 y.1 r.1.length y.2 (aB r.1)]) := by
 unfold bv.f
 refine nC 29 Tryz.func84 O Tryz.ntmps84 O (sr (ah (cl O O O) O O O ?_))
 intro m
 refine ae (aa (ay (sr (vq (ag O O isAgg133 (.obj 0 O O)) O (vn O O (vq (ap O O underlying160 O O sizeOf23 O) O (vq (ag O O isAgg23 (.obj 1 O O)) O (vq (cZ O O O) O (ae (aa ?_))))))))))
 refine cT O (fun an => ?_) (fun az => ?_)
 refine aC (aa (ay (sr (vm O O (ax (fun a0 al => (ah (aw (vs := [Iv x1]) (cap := []) (A := []) (rst := [obj m 133 [Pt b0], obj b0 160 [.slice g d.length h, Iv e], Row 5 1 g d.length h (aB d), F]) O O O O O O call106 (.s O (.s O (.s O (.s O .n)))) (dS.calls _ _ k x1 ) al) O O O ?_)))))))
 intro a1
 refine vq (bO O O O) O (ae (aa ?_))
 refine bk O (fun a2 => ?_) (fun a3 => ?_)
 refine sr (vq (ag O O isAgg133 (.obj 0 O O)) O (vn O O (vq (ap O O underlying160 O O sizeOf23 O) O (aU (aG 1 O O O sizeOf23 O O (aM (by rfl)) O O) O O ?_))))
 intro _
 refine ae (aa (aA (aK ?_)))
 exact lC [] (g, h) O O O (.sel 1 O (.sel 1 O (.sel 1 O .n)))
 refine aC (aa (sr (vm O O (ax (fun q ab => (ah (aw (vs := [Iv x1]) (cap := []) (A := []) (rst := [obj m 133 [Pt b0], obj b0 160 [.slice g d.length h, Iv e], Row 5 1 g d.length h (aB d), F]) O O O O O O call107 (.s O (.s O (.s O (.s O .n)))) (ig.calls _ _ x1 ) ab) O O O ?_))))))
 intro p
 refine ae (aa (aQ ?_))
 refine rQ (S := Lb) (Y := Option Addr × Nat) (R' := Lb) (Y' := (Option Addr × Nat)) (ps := [18]) (Cap := [obj p 3 [Iv q]]) (rst := []) (CapB := fun r y => [obj p 3 [Iv q]]) (enc := fun (x : Int) => [.int .u8 x]) (oN := cL.f k (fun (a : Lb) (b : Int) => if 0 ≤ b ∧ b < 256 then (if (a.length + ([(dE b)] : Lb).length) * 1 ≤ 140737488355328 then (some (a ++ ([(dE b)] : Lb))) else none) else none) d q) (fun s y => [obj m 133 [Pt b0], obj b0 160 [.slice y.1 s.length y.2, Iv e], Row 5 1 y.1 s.length y.2 (aB s), F]) d (g, h) (fun a b c => [(2, Pt m), (4, .int .u8 b)]) (fun r => r) (fun r y => y) O O call126 (fun l A hY X => cL.calls _ _ k _ _ l _ A _ _ p q hY) O (fun _ => O) (.sel 1 O (.sel 1 O (.sel 1 O (.sel 1 O (.s O .n))))) ?_ ?_ ?_
 intro l a b c Fr
 refine eP (H' := [obj m 133 [Pt b0], obj b0 160 [.slice c.1 a.length c.2, Iv e], Row 5 1 c.1 a.length c.2 (aB a), F, Fr]) (Ent.refl _) (aI (va O O (ae ?_)))
 exact aH () ⟨O, O, trivial⟩ (Ent.refl _)
 intro l a b c Fr
 refine eP (H' := [obj m 133 [Pt b0], obj b0 160 [.slice c.1 a.length c.2, Iv e], Row 5 1 c.1 a.length c.2 (aB a), F, Fr]) (Ent.refl _) (aQ (cB (fun ad => (cB (fun af => ?_)))))
 refine ba (Γ := Nat × (Option Addr × Nat)) (0, (none, 0)) [[], [], [1], [1, 2], [1, 2, 3], [], [5], [1, 2, 3, 4, 5, 6], rL 8, rL 9, rL 10] [6, 7, 10] [0, 1, 2, 3, 4, 5, 8, 9] (fun i => [[0, 1, 2], [0, 1], [0, 1], [0, 1], [0, 1], [0], [], [], [2], [2], []].getD i []) (fun i => [[], [], [], [], [], [], rL 6, rL 7, [], [], rL 10].getD i []) (fun γ i => [Pt b0, Pt b0, Pt b0, Pt b0, .slice c.1 a.length c.2, .int .u8 b, .slice (some ⟨γ.1, 0, none⟩) (([(dE b)] : Lb).length) 1, .slice γ.2.1 ((a ++ ([(dE b)] : Lb)).length) γ.2.2, Pt b0, Pt b0, undef].getD i undef) (fun j γ => [[obj m 133 [Pt b0], obj b0 160 [.slice c.1 a.length c.2, Iv e], Row 5 1 c.1 a.length c.2 (aB a), F, Fr], [Row 5 1 (some ⟨γ.1, 0, none⟩) ([(dE b)] : Lb).length 1 (aB ([(dE b)] : Lb)), obj m 133 [Pt b0], obj b0 160 [.slice c.1 a.length c.2, Iv e], Row 5 1 c.1 a.length c.2 (aB a), F, Fr], [Row 5 1 (some ⟨γ.1, 0, none⟩) ([(dE b)] : Lb).length 1 (aB ([(dE b)] : Lb)), obj m 133 [Pt b0], obj b0 160 [.slice c.1 a.length c.2, Iv e], Row 5 1 γ.2.1 (a ++ ([(dE b)] : Lb)).length γ.2.2 (aB (a ++ ([(dE b)] : Lb))), F, Fr], [Row 5 1 (some ⟨γ.1, 0, none⟩) ([(dE b)] : Lb).length 1 (aB ([(dE b)] : Lb)), obj m 133 [Pt b0], obj b0 160 [.slice γ.2.1 ((a ++ ([(dE b)] : Lb)).length) γ.2.2, Iv e], Row 5 1 γ.2.1 (a ++ ([(dE b)] : Lb)).length γ.2.2 (aB (a ++ ([(dE b)] : Lb))), F, Fr]].getD j []) (fun γ => []) mixed (by decide) (by decide) (by decide) (by decide) (by decide) (by decide) (by decide) 29 O (by decide) (by decide) (by decide) (Ent.refl _) ?_ ?_ (fun _ => trivial) ?_
 exact (ac (fun γ => (ac (qp O O (.o (s := 2) O (by decide) .nil) (ag O O isAgg133 (.obj 0 O O)) O) (ac (qp O O (.o (s := 2) O (by decide) .nil) (ag O O isAgg133 (.obj 1 O O)) O) (ac (qp O O (.o (s := 2) O (by decide) .nil) (ag O O isAgg133 (.obj 1 O O)) O) zA)))) (ac (fun γ => (ac (qp O O (.o (s := 2) O (by decide) .nil) (ag O O isAgg133 (.obj 0 O O)) O) (ac (qp O O (.o (s := 2) O (by decide) .nil) (ag O O isAgg133 (.obj 1 O O)) O) zA))) (ac (fun γ => (ac (qp O O (.v 1 O O .nil) (aS O O) O) (ac (qp O O (.v 1 O O .nil) (aS O O) O) zA))) (ac (fun γ => (ac (qp O O (.v 2 O O .nil) (ap O O underlying160 O O sizeOf33 O) O) (ac (qp O O (.v 2 O O .nil) (ap O O underlying160 O O sizeOf33 O) O) zA))) (ac (fun γ => (ac (qp O O (.v 3 O O .nil) (ag O O isAgg33 (.obj 1 O O)) O) (ac (qp O O (.v 3 O O .nil) (ag O O isAgg33 (.obj 2 O O)) O) zA))) (aq O (fun γ => qm O (.o (s := 4) O (by decide) .nil) O) (aq O (fun γ => qp O O (.v 0 O O .nil) (aS O O) O) (aq O (fun γ => qp O O (.v 8 O O .nil) (ap O O underlying160 O O sizeOf33 O) O) zA))))))))
 exact (ac (fun γ => eo (Z := Nat) (fun z => (z, γ.2)) O O (.v 5 O O .nil) (nk (cs := [.int .u8 b]) ([(dE b)] : Lb) O O underlying33 gA O (by kernel_rfl) O O (sF ad)) (fun _ => ⟨O, O, O, O, O, O, trivial⟩) (fun _ => .inr O) (fun z => Ent.refl _)) (ac (fun γ => eo (Z := Option Addr × Nat) (fun z => (γ.1, z)) O O (.v 4 O O (.v 6 O O .nil)) (fa 3 O O O underlying33 gA O (Rds.row 0 O) af) (fun _ => ⟨O, O, O, O, O, O, O, trivial⟩) (fun _ => .inr O) (fun z => Ent.refl _)) (ac (fun γ => eo (Z := Unit) (fun z => (γ.1, γ.2)) O O (.v 7 O O (.v 9 O O .nil)) (aG 2 O O O sizeOf33 O O (aM (by rfl)) O O) (fun _ => ⟨O, O, O, O, O, O, O, O, O, O, trivial⟩) (fun _ => .inl O) (fun z => Ent.refl _)) zA)))
 intro u
 refine bu ?_
 exact aH (s := a ++ ([(dE b)] : Lb)) u.2 trivial (.sel 1 O (.sel 1 O (.sel 1 O (.sel 1 O (.sel 1 O .n)))))
 intro w t n
 refine nt (H' := [gZ w, obj m 133 [Pt b0], obj b0 160 [.slice n.1 t.length n.2, Iv e], Row 5 1 n.1 t.length n.2 (aB t), F, obj p 3 [Iv q]]) (Ent.refl _) (bu ?_)
 exact tV [w] n O O O (.s O (.sel 1 O (.sel 1 O (.sel 1 O .n))))
 refine aA (aK ?_)
 exact lC [] (g, h) O O O (.sel 1 O (.sel 1 O (.sel 1 O .n)))

def ck.f (x0 : Int) (x1 : Int) : Option (Bool) := some ((decide (x1 ≤ x0)) && (decide (x0 ≤ (4611686018427387904 : Int))))
theorem ck.calls (W : World) (F : HA) (x0 : Int) (x1 : Int)  :
    Fn Tryz.prog W 105 [Iv x0, Iv x1] [] F (ck.f x0 x1) (fun (r : Bool) (y : Unit) => .bool r) (fun r y => []) := by
 unfold ck.f
 refine aL 12 Tryz.func105 O Tryz.ntmps105 O (sr (va O O (nx (vm O O (vm O O (vq (ju O O O) O (vm O O (ak (b := decide (x1 ≤ x0)) (fun c => RQ.sub (E' := [(0, Iv x0)]) ⟨O, trivial⟩ (aZ O O)) O O O O O (ak (b := decide (x1 ≤ x0)) (fun a => RQ.sub (E' := [(9, Iv x0)]) ⟨aD O a, trivial⟩ (iC O O O)) O O O O O (vq (dr O O O) O (va O O (ae (aa (aA ?_))))))))))))))
 exact aE () O O O (.s O .n)
def ck.v (x0 : Int) (x1 : Int) : Bool := (ck.f x0 x1).getD false
theorem ck.tot (x0 : Int) (x1 : Int) : ck.f x0 x1 = some (ck.v x0 x1) := by
  have h : ∃ r, ck.f x0 x1 = some r := by
    unfold ck.f
    repeat' (first | exact ⟨_, rfl⟩ | split | simp only [Option.bind_some])
  obtain ⟨r, h⟩ := h
  unfold ck.v
  rw [h]; rfl

def bz.f (c : Int) (d : Int) (a : Int) (b : List UInt8) : Option (Int) := (ck.f c (1 : Int)).bind fun e => ((if (!e) = true then (some true) else ((ck.f d (1 : Int)).bind fun g => (some (!g)))).bind fun h => (if h = true then (some 1) else (if ((!decide (a = (0 : Int))) && (!decide (a = (1 : Int)))) = true then (some 6) else (if (4096 : Int) < (b.length : Int) then (some 3) else (if ((decide (a = (0 : Int))) && (decide ((0 : Int) < (b.length : Int)))) = true then (some 4) else (some 0))))))
theorem bz.calls (W : World) (F : HA) (d : Int) (e : Int) (a : Int) (h : Option Addr) (g : Nat) (c : Lb) (ad : Rd F h (aB c)) (w : c.length ≤ g) (x : g ≤ maxLen) :
    Fn Tryz.prog W 79 [.agg #[], .agg #[Iv d, Iv e, Iv a, .slice h c.length g]] [] F (bz.f d e a c) (fun (r : Int) (y : Unit) => Iv r) (fun r y => []) := by
 unfold bz.f
 refine aL 40 Tryz.func79 O Tryz.ntmps79 O (sr (ah (cl O O O) O O O ?_))
 intro q
 refine ah (cl O O O) O O O ?_
 intro i
 refine va O O (ae (aa (ay (aQ (sr (vq (ap O O underlying35 O O sizeOf3 O) O (vq (ag O O isAgg3 (.obj 0 O O)) O (ax (fun a5 t => (ah (aw (vs := [Iv d, Iv 1]) (cap := []) (A := []) (rst := [W15 i d e a c h g, obj q 131 [], F]) O O O O O O call105 (.s O (.s O (.s O .n))) (ck.calls _ _ d (1 : Int) ) t) O O O ?_))))))))))
 intro a6
 refine vq (eT O O) O (vm O O ?_)
 refine dH 5 (S := Bool) Unit (fun s y => [(3, Pt i), (15, .bool s)]) (fun s y => [W15 i d e a c h g, F]) ?_ ?_
 refine eZ (fun j => ?_) (fun k => ?_)
 rw [j]
 refine aJ O O O O O O (aJ O O O O O O (aJ O O O O O O (aJ O O O O O O (vq (cf O O O O O) O (ae ?_)))))
 exact aH (s := true) () ⟨O, O, trivial⟩ (.s O (.sel 1 O .n))
 rw [k]
 refine aT (ap O O underlying35 O O sizeOf3 O) O O O O O O (aT (ag O O isAgg3 (.obj 0 O O)) O O O O O O (ax (fun v u => (gc (aw (vs := [Iv e, Iv 1]) (cap := []) (A := []) (rst := [W15 i d e a c h g, obj q 131 [], F]) O O O O O O call105 (.s O (.s O (.s O .n))) (ck.calls _ _ e (1 : Int) ) u) O O O O O O ?_))))
 intro af
 refine aT (eT O O) O O O O O O (vq (cf O O O O O) O (ae ?_))
 exact aH (s := !v) () ⟨O, O, trivial⟩ (.s O (.sel 1 O .n))
 intro a7 a8
 refine va O O (ae (aa ?_))
 refine aW O (fun al => ?_) (fun an => ?_)
 refine sr (va O O (ae (aa (aA (bl (aK ?_))))))
 exact aE () O O O (.sel 1 O .n)
 refine sr (vq (ap O O underlying35 O O sizeOf3 O) O (vq (ag O O isAgg3 (.obj 0 O O)) O (vq (cZ O O O) O (vm O O (ak (b := !decide (a = (0 : Int))) (fun z => RQ.sub (E' := [(3, Pt i)]) ⟨O, trivial⟩ (ap O O underlying35 O O sizeOf3 O)) O O O O O (ak (b := !decide (a = (0 : Int))) (fun l => RQ.sub (E' := [(21, .pointer (some ⟨i, 2, none⟩))]) ⟨aD O l, trivial⟩ (ag O O isAgg3 (.obj 0 O O))) O O O O O (ak (b := !decide (a = (0 : Int))) (fun m => RQ.sub (E' := [(22, Iv a)]) ⟨aD O m, trivial⟩ (cZ O O O)) O O O O O (vq (dr O O O) O (va O O (ae (aa ?_)))))))))))
 refine aW O (fun az => ?_) (fun a0 => ?_)
 refine sr (va O O (ae (aa (aA (bl (aK ?_))))))
 exact aE () O O O (.sel 1 O .n)
 refine sr (vq (ap O O underlying35 O O sizeOf33 O) O (vq (ag O O isAgg33 (.obj 0 O O)) O (vq (bp O O O underlying33) O (vq (cF O O O) O (va O O (ae (aa ?_)))))))
 refine bk O (fun a1 => ?_) (fun a2 => ?_)
 refine sr (va O O (ae (aa (aA (bl (aK ?_))))))
 exact aE () O O O (.sel 1 O .n)
 refine sr (vq (ap O O underlying35 O O sizeOf3 O) O (vq (ag O O isAgg3 (.obj 0 O O)) O (vq (bO O O O) O (vm O O (ak (b := decide (a = (0 : Int))) (fun ab => RQ.sub (E' := [(3, Pt i)]) ⟨O, trivial⟩ (ap O O underlying35 O O sizeOf33 O)) O O O O O (ak (b := decide (a = (0 : Int))) (fun n => RQ.sub (E' := [(35, .pointer (some ⟨i, 3, none⟩))]) ⟨aD O n, trivial⟩ (ag O O isAgg33 (.obj 0 O O))) O O O O O (ak (b := decide (a = (0 : Int))) (fun o => RQ.sub (E' := [(36, .slice h c.length g)]) ⟨aD O o, trivial⟩ (bp O O O underlying33)) O O O O O (ak (b := decide (a = (0 : Int))) (fun p => RQ.sub (E' := [(37, Iv (c.length : Int))]) ⟨aD O p, trivial⟩ (cF O O O)) O O O O O (vq (dr O O O) O (va O O (ae (aa ?_))))))))))))
 refine aW O (fun a3 => ?_) (fun a4 => ?_)
 refine sr (va O O (ae (aa (aA (bl (aK ?_))))))
 exact aE () O O O (.sel 1 O .n)
 refine aC (bu (aa (sr (va O O (ae (aa (aA ?_)))))))
 exact aE () O O O (.sel 1 O .n)
def bz.v (a : Int) (b : Int) (c : Int) (d : List UInt8) : Int := (bz.f a b c d).getD 0
theorem bz.tot (a : Int) (b : Int) (c : Int) (d : Lb) : bz.f a b c d = some (bz.v a b c d) := by
  have h : ∃ r, bz.f a b c d = some r := by
    unfold bz.f
    repeat' (first | exact ⟨_, rfl⟩ | split | simp only [Option.bind_some, ck.tot])
  obtain ⟨r, h⟩ := h
  unfold bz.v
  rw [h]; rfl

def dp.f (k : Nat) (b : List UInt8) (c : Int) (x1 : List UInt8) (x2 : Int) : Option (List UInt8 × Int) := (if ((decide (c = (0 : Int))) && (decide (max x2 (0 : Int) < (x1.length : Int)))) = true then (some 3) else (some c)).bind fun d => (if d = (0 : Int) then ((bv.f k b d (x1.length : Int)).bind fun a => (if (a.1.length + x1.length) * 1 ≤ 140737488355328 then (some (a.1 ++ x1, a.2)) else none)) else (some (b, d)))
theorem dp.calls (W : World) (F : HA) (k : Nat) (b0 : Nat) (c : Option Addr) (d : Nat) (a : Lb) (e : Int) (a1 : Option Addr) (c1 : Nat) (x1 : Lb) (x2 : Int) (h1 : Rd F a1 (aB x1)) (w : x1.length ≤ c1) (x : c1 ≤ maxLen) :
    Fn Tryz.prog W 86 [Pt b0, .slice a1 x1.length c1, Iv x2] [obj b0 160 [.slice c a.length d, Iv e], Row 5 1 c a.length d (aB a)] F (dp.f k a e x1 x2) (fun (r : Lb × Int) (y : Option Addr × Nat) => .tuple #[]) (fun r y => [obj b0 160 [.slice y.1 r.1.length y.2, Iv r.2], Row 5 1 y.1 r.1.length y.2 (aB r.1)]) := by
 unfold dp.f
 refine aL 39 Tryz.func86 O Tryz.ntmps86 O ?_
 refine bF (S := Int) Unit (fun s y => [(0, Pt b0), (1, .slice a1 x1.length c1)]) (fun s y => [obj b0 160 [.slice c a.length d, Iv s], Row 5 1 c a.length d (aB a), F]) ?_ ?_
 refine sr (vm O O (vn O O (vq (ap O O underlying160 O O sizeOf23 O) O (vq (ag O O isAgg23 (.obj 0 O O)) O (vq (bO O O O) O (vm O O (ak (b := decide (e = (0 : Int))) (fun o => RQ.sub (E' := [(1, .slice a1 x1.length c1)]) ⟨O, trivial⟩ (aZ O O)) O O O O O (ak (b := decide (e = (0 : Int))) (fun m => RQ.sub (E' := [(12, .slice a1 x1.length c1)]) ⟨aD O m, trivial⟩ (bp O O O underlying33)) O O O O O (ak (b := decide (e = (0 : Int))) (fun p => RQ.sub (E' := [(2, Iv x2)]) ⟨O, trivial⟩ (aZ O O)) O O O O O (ak (b := decide (e = (0 : Int))) (fun n => RQ.sub (E' := [(14, Iv x2)]) ⟨aD O n, trivial⟩ (rc O O O)) O O O O O (ak (b := decide (e = (0 : Int))) (fun g => RQ.sub (E' := [(13, Iv (x1.length : Int)), (15, Iv (max x2 (0 : Int)))]) ⟨aD O g, aD O g, trivial⟩ (cF O O O)) O O O O O (vq (dr O O O) O (ae (aa ?_))))))))))))))
 refine aW O (fun z => ?_) (fun ab => ?_)
 refine aI (vm O O (vn O O (vq (ap O O underlying160 O O sizeOf23 O) O (aU (aG 0 O O O sizeOf23 O O (aM (by rfl)) O O) O O ?_))))
 intro _
 refine ae ?_
 exact aH (s := 3) () ⟨O, O, trivial⟩ (.s O (.s O (.s O .n)))
 refine aC ?_
 exact aH (s := e) () ⟨O, O, trivial⟩ (.s O (.s O (.s O .n)))
 intro l ad
 refine ay (sr (vm O O (vn O O (vq (ap O O underlying160 O O sizeOf23 O) O (vq (ag O O isAgg23 (.obj 0 O O)) O (vq (cZ O O O) O (ae (aa ?_))))))))
 refine cT O (fun q => ?_) (fun t => ?_)
 refine aC (aa (sr (vm O O (vm O O (vq (bp O O O underlying33) O (ax (fun u i => (ah (aw (vs := [Pt b0, Iv (x1.length : Int)]) (cap := []) (A := [obj b0 160 [.slice c a.length d, Iv l], Row 5 1 c a.length d (aB a)]) (rst := [F]) O O O O O O call84 (.s O (.s O (.s O .n))) (bv.calls _ _ k b0 c d a l (x1.length : Int) ) i) O O O ?_))))))))
 intro v
 refine ny (vm O O (vm O O (vn O O (vq (ap O O underlying160 O O sizeOf33 O) O (vq (ag O O isAgg33 (.obj 0 O O)) O (vm O O (bb (fun j => ?_))))))))
 refine ah (fa 1 O O O underlying33 gA O (h1.rds 1 O) j) O O O ?_
 intro h
 refine vn O O (vq (ap O O underlying160 O O sizeOf33 O) O (aU (aG 0 O O O sizeOf33 O O (aM (by rfl)) O O) O O ?_))
 intro _
 refine ae ?_
 exact fc h O O O (.s O (.s O (.s O .n)))
 refine aA (aK ?_)
 exact aE (c, d) O O O (.s O (.s O (.s O .n)))

def ew.f (k : Nat) (e : List UInt8) (g : Int) (h : Int) (i : Int) (j : Int) (l : List UInt8) : Option (List UInt8 × Int) := (bv.f k e g h).bind fun b => ((bv.f k b.1 b.2 i).bind fun c => ((bv.f k c.1 c.2 j).bind fun d => ((dp.f k d.1 d.2 l (4096 : Int)).bind fun a => (some (a.1, a.2)))))
theorem ew.calls (W : World) (F : HA) (k : Nat) (b0 : Nat) (i : Option Addr) (j : Nat) (h : Lb) (s : Int) (b1 : Nat) (c : Int) (d : Int) (e : Int) (g : Option Addr) (b : Nat) (a : Lb) (x : Rd F g (aB a)) (u : a.length ≤ b) (v : b ≤ maxLen) :
    Fn Tryz.prog W 109 [Pt b0, Pt b1] [obj b0 160 [.slice i h.length j, Iv s], Row 5 1 i h.length j (aB h), W15 b1 c d e a g b] F (ew.f k h s c d e a) (fun (r : Lb × Int) (y : Option Addr × Nat) => .tuple #[]) (fun r y => [obj b0 160 [.slice y.1 r.1.length y.2, Iv r.2], Row 5 1 y.1 r.1.length y.2 (aB r.1), W15 b1 c d e a g b]) := by
 unfold ew.f
 refine aL 19 Tryz.func109 O Tryz.ntmps109 O (sr (vm O O (vq (ap O O underlying35 O O sizeOf3 O) O (vq (ag O O isAgg3 (.obj 2 O O)) O (ax (fun l z => (ah (aw (vs := [Pt b0, Iv c]) (cap := []) (A := [obj b0 160 [.slice i h.length j, Iv s], Row 5 1 i h.length j (aB h)]) (rst := [W15 b1 c d e a g b, F]) O O O O O O call84 (.s O (.s O (.s O (.s O .n)))) (bv.calls _ _ k b0 i j h s c ) z) O O O ?_)))))))
 intro m
 refine nx (vm O O (vq (ap O O underlying35 O O sizeOf3 O) O (vq (ag O O isAgg3 (.obj 2 O O)) O (ax (fun n ab => (ah (aw (vs := [Pt b0, Iv d]) (cap := []) (A := [obj b0 160 [.slice m.1 l.1.length m.2, Iv l.2], Row 5 1 m.1 l.1.length m.2 (aB l.1)]) (rst := [W15 b1 c d e a g b, F]) O O O O O O call84 (.s O (.s O (.s O (.s O .n)))) (bv.calls _ _ k b0 m.1 m.2 l.1 l.2 d ) ab) O O O ?_))))))
 intro o
 refine nx (vm O O (vq (ap O O underlying35 O O sizeOf3 O) O (vq (ag O O isAgg3 (.obj 2 O O)) O (ax (fun p ad => (ah (aw (vs := [Pt b0, Iv e]) (cap := []) (A := [obj b0 160 [.slice o.1 n.1.length o.2, Iv n.2], Row 5 1 o.1 n.1.length o.2 (aB n.1)]) (rst := [W15 b1 c d e a g b, F]) O O O O O O call84 (.s O (.s O (.s O (.s O .n)))) (bv.calls _ _ k b0 o.1 o.2 n.1 n.2 e ) ad) O O O ?_))))))
 intro q
 refine ny (vm O O (vq (ap O O underlying35 O O sizeOf33 O) O (vq (ag O O isAgg33 (.obj 2 O O)) O (ax (fun af w => (ah (aw (vs := [Pt b0, .slice g a.length b, Iv 4096]) (cap := []) (A := [obj b0 160 [.slice q.1 p.1.length q.2, Iv p.2], Row 5 1 q.1 p.1.length q.2 (aB p.1)]) (rst := [W15 b1 c d e a g b, F]) O O O O O O call86 (.s O (.s O (.s O (.s O .n)))) (dp.calls _ _ k b0 q.1 q.2 p.1 p.2 g b a (4096 : Int) (x.lend 1 O) u v) w) O O O ?_))))))
 intro t
 refine ae ?_
 exact fc t O O O (.s O (.s O (.s O (.s O .n))))

def eN.f (x0 : List UInt8) : Option (List UInt8) := if 0 ≤ (x0.length : Int) ∧ (x0.length : Int) ≤ (x0.length : Int) ∧ (x0.length : Int) * 1 ≤ 140737488355328 then (some (iV (List.replicate (x0.length : Int).toNat (0 : UInt8)) x0)) else none
theorem eN.calls (W : World) (F : HA) (a0 : Option Addr) (c0 : Nat) (x0 : Lb) (h0 : Rd F a0 (aB x0)) (c : x0.length ≤ c0) (e : c0 ≤ maxLen) :
    Fn Tryz.prog W 110 [.slice a0 x0.length c0] [] F (eN.f x0) (fun (r : Lb) (y : Option Addr × Nat) => .slice y.1 r.length y.2) (fun r y => [Row 5 1 y.1 r.length y.2 (aB r)]) := by
 unfold eN.f
 refine aL 11 Tryz.func110 O Tryz.ntmps110 O (sr (va O O (nx (vm O O (vq (bp O O O underlying33) O (bb (fun a => (ah (kN O O O underlying33 gA a.1 a.2.1 a.2.2) O O O ?_))))))))
 intro b
 refine va O O (nx (vm O O (vm O O ?_)))
 refine ah (tz 0 O O O underlying33 gA O (h0.rds 1 O)) O O O ?_
 intro _
 refine mp (.slice (some ⟨b, 0, none⟩) ((iV (List.replicate (x0.length : Int).toNat (0 : UInt8)) x0).length) ((x0.length : Int).toNat)) (d := 6) O (nw (iI _ _).symm) (mp (.slice (some ⟨b, 0, none⟩) ((iV (List.replicate (x0.length : Int).toNat (0 : UInt8)) x0).length) ((x0.length : Int).toNat)) (d := 3) O (nw (iI _ _).symm) (mp (.slice (some ⟨b, 0, none⟩) ((iV (List.replicate (x0.length : Int).toNat (0 : UInt8)) x0).length) ((x0.length : Int).toNat)) (d := 7) O (nw (iI _ _).symm) (nx (vm O O (va O O (ae (aa (aA ?_))))))))
 exact aE ((some ⟨b, 0, none⟩), (x0.length : Int).toNat) O O O (.s O (.s O .n))

def di.f (b : List UInt8) (a : Int) : Option (List UInt8 × Int) := if a = (0 : Int) then ((eN.f b).bind fun c => (some (c, 0))) else (some (([] : List UInt8), a))
theorem di.calls (W : World) (F : HA) (b0 : Nat) (d : Option Addr) (b : Nat) (a : Lb) (c : Int) (k : Rd F d (aB a)) (e : a.length ≤ b) (g : b ≤ maxLen) :
    Fn Tryz.prog W 87 [Pt b0] [obj b0 160 [.slice d a.length b, Iv c]] F (di.f a c) (fun (r : Lb × Int) (y : Option Addr × Nat) => .tuple #[.slice y.1 r.1.length y.2, Iv r.2]) (fun r y => [Row 5 1 y.1 r.1.length y.2 (aB r.1), obj b0 160 [.slice d a.length b, Iv c]]) := by
 unfold di.f
 refine aL 18 Tryz.func87 O Tryz.ntmps87 O (sr (va O O (va O O (ae (aa (ay (sr (vm O O (vn O O (vq (ap O O underlying160 O O sizeOf23 O) O (vq (ag O O isAgg23 (.obj 0 O O)) O (vq (cZ O O O) O (ae (aa ?_))))))))))))))
 refine cT O (fun m => ?_) (fun n => ?_)
 refine aC (aa (sr (vm O O (vn O O (vq (ap O O underlying160 O O sizeOf33 O) O (vq (ag O O isAgg33 (.obj 0 O O)) O (ax (fun p l => (ah (aw (vs := [.slice d a.length b]) (cap := []) (A := []) (rst := [obj b0 160 [.slice d a.length b, Iv c], F]) O O O O O O call110 (.s O (.s O .n)) (eN.calls _ _ d b a (k.lend 1 O) e g) l) O O O ?_)))))))))
 intro h
 refine va O O (va O O (ae (aa (aA ?_))))
 exact aE h O O O (.s O (.s O (.s O .n)))
 refine ay ?_
 refine ba (Γ := Unit) () [[], [0], [0, 1], [0, 1, 2], [], rL 5] [] [0, 1, 2, 3, 4, 5] (fun i => [[0], [0], [0], [0], [0], [0]].getD i []) (fun i => [[], [], [], [], [], []].getD i []) (fun γ i => [Pt b0, Pt b0, .pointer (some ⟨b0, 1, none⟩), Iv c, .slice none 0 0, Iv c].getD i undef) (fun j γ => [[obj b0 160 [.slice d a.length b, Iv c], F]].getD j []) (fun γ => [(2, .slice none 0 0), (3, Iv c)]) mixed (by decide) (by decide) (by decide) (by decide) (by decide) (by decide) (by decide) 18 O (by decide) (by decide) (by decide) (Ent.refl _) ?_ ?_ (fun _ => ⟨O, O, trivial⟩) ?_
 exact (aq O (fun γ => qm O (.o (s := 0) O (by decide) .nil) O) (aq O (fun γ => qp O O (.v 0 O O .nil) (aS O O) O) (aq O (fun γ => qp O O (.v 1 O O .nil) (ap O O underlying160 O O sizeOf23 O) O) (aq O (fun γ => qp O O (.v 2 O O .nil) (ag O O isAgg23 (.obj 0 O O)) O) (aq O (fun γ => qp O O .nil (cz O O) O) (aq O (fun γ => qp O O (.v 3 O O .nil) (cz O O) O) zA))))))
 exact zA
 intro q
 refine aa (aA (aK ?_))
 exact aE (none, 0) O O O (.row_nil (.s O (.s O .n)))

def cX.f (k : Nat) (x0 : Int) (b : Int) (c : Int) (d : Int) (e : List UInt8) : Option (List UInt8 × Int) := if x0 = (0 : Int) then ((dW.f).bind fun g => ((ew.f k g.1 g.2 b c d e).bind fun h => ((di.f h.1 h.2).bind fun a => (some (a.1, a.2))))) else (some (([] : List UInt8), x0))
theorem cX.calls (W : World) (F : HA) (k : Nat) (x0 : Int) (i : Nat) (c : Int) (d : Int) (e : Int) (g : Option Addr) (b : Nat) (a : Lb) (q : Rd F g (aB a)) (n : a.length ≤ b) (o : b ≤ maxLen) :
    Fn Tryz.prog W 108 [Iv x0, .func (.func 109) #[] #[Pt i]] [W15 i c d e a g b] F (cX.f k x0 c d e a) (fun (r : Lb × Int) (y : Option Addr × Nat) => .tuple #[.slice y.1 r.1.length y.2, Iv r.2]) (fun r y => [Row 5 1 y.1 r.1.length y.2 (aB r.1), W15 i c d e a g b]) := by
 unfold cX.f
 refine aL 18 Tryz.func108 O Tryz.ntmps108 O (sr (va O O (va O O (ae (aa (ay (sr (vm O O (vq (cZ O O O) O (ae (aa ?_)))))))))))
 refine cT O (fun ad => ?_) (fun af => ?_)
 refine aC (aa (sr (ax (fun j v => (ah (aw (vs := []) (cap := []) (A := []) (rst := [W15 i c d e a g b, F]) O O O O O O call83 (.s O (.s O .n)) (dW.calls _ _  ) v) O O O ?_)))))
 intro h
 refine va O O (nx (vm O O (vm O O (ax (fun l w => (ah (aw (vs := [Pt h.1]) (cap := [Pt i]) (A := [obj h.1 160 [.slice h.2.1 j.1.length h.2.2, Iv j.2], Row 5 1 h.2.1 j.1.length h.2.2 (aB j.1), W15 i c d e a g b]) (rst := [F]) O O O O O O call109 (.s O (.s O (.s O (.s O .n)))) (ew.calls _ _ k h.1 h.2.1 h.2.2 j.1 j.2 i c d e g b a (q.lend 0 O) n o) w) O O O ?_))))))
 intro m
 refine nx (vm O O (ax (fun ab s => (bf 1 O (fun x t u z => (ah (aw (vs := [Pt h.1]) (cap := []) (A := [obj h.1 160 [.slice m.1 l.1.length m.2, Iv l.2]]) (rst := [Row 5 1 m.1 l.1.length m.2 (aB l.1), W15 i c d e a g b, F]) O O O O O O call87 (.s O (.s O (.s O (.s O .n)))) (di.calls _ _ h.1 m.1 m.2 l.1 l.2 (x.lend 0 O) t u) s) O O O ?_))))))
 intro p
 refine vq (bG O O O) O (vq (bG O O O) O (va O O (va O O (ae (aa (aA ?_))))))
 exact aE p O O O (.s O (.sel 2 O (.sel 2 O .n)))
 refine sr (vm O O (va O O (va O O (ae (aa (aA (aK ?_)))))))
 exact aE (none, 0) O O O (.row_nil (.s O (.s O .n)))

def ej.f (k : Nat) (a : Int) (b : Int) (c : Int) (d : List UInt8) : Option (List UInt8 × Int) := (bz.f a b c d).bind fun g => ((cX.f k g a b c d).bind fun e => (some (e.1, e.2)))
theorem ej.calls (W : World) (F : HA) (k : Nat) (c : Int) (d : Int) (e : Int) (g : Option Addr) (b : Nat) (a : Lb) (l : Rd F g (aB a)) (h : a.length ≤ b) (i : b ≤ maxLen) :
    Fn Tryz.prog W 85 [.agg #[], .agg #[Iv c, Iv d, Iv e, .slice g a.length b]] [] F (ej.f k c d e a) (fun (r : Lb × Int) (y : Option Addr × Nat) => .tuple #[.slice y.1 r.1.length y.2, Iv r.2]) (fun r y => [Row 5 1 y.1 r.1.length y.2 (aB r.1)]) := by
 unfold ej.f
 refine aL 13 Tryz.func85 O Tryz.ntmps85 O (sr (ah (cl O O O) O O O ?_))
 intro m
 refine ah (cl O O O) O O O ?_
 intro j
 refine va O O (va O O (nx (vq (cj 1 O O isAgg131 sizeOf131 O O) O (vq (cj 0 O O isAgg35 sizeOf35 O O) O (ax (fun n p => (ah (aw (vs := [.agg #[], .agg #[Iv c, Iv d, Iv e, .slice g a.length b]]) (cap := []) (A := []) (rst := [W15 j c d e a g b, obj m 131 [], F]) O O O O O O call79 (.s O (.s O (.s O .n))) (bz.calls _ _ c d e g b a (l.lend 2 O) h i) p) O O O ?_)))))))
 intro s
 refine vq (gl O O O) O (ax (fun t q => (ah (aw (vs := [Iv n, .func (.func 109) #[] #[Pt j]]) (cap := []) (A := [W15 j c d e a g b]) (rst := [obj m 131 [], F]) O O O O O O call108 (.s O (.s O (.s O .n))) (cX.calls _ _ k n j c d e g b a (l.lend 1 O) h i) q) O O O ?_)))
 intro o
 refine vq (bG O O O) O (vq (bG O O O) O (va O O (va O O (ae (aa (aA ?_))))))
 exact aE o O O O (.s O (.sel 2 O .n))

def fx.f (x0 : Int) : Option (List UInt8) := if 0 ≤ IntKind.u8.wrap x0 ∧ IntKind.u8.wrap x0 < 256 then (if 0 ≤ IntKind.u8.wrap (Int.fdiv x0 (2 ^ (min (8 : Int).toNat IntKind.u32.bits))) ∧ IntKind.u8.wrap (Int.fdiv x0 (2 ^ (min (8 : Int).toNat IntKind.u32.bits))) < 256 then (if 0 ≤ IntKind.u8.wrap (Int.fdiv x0 (2 ^ (min (16 : Int).toNat IntKind.u32.bits))) ∧ IntKind.u8.wrap (Int.fdiv x0 (2 ^ (min (16 : Int).toNat IntKind.u32.bits))) < 256 then (if 0 ≤ IntKind.u8.wrap (Int.fdiv x0 (2 ^ (min (24 : Int).toNat IntKind.u32.bits))) ∧ IntKind.u8.wrap (Int.fdiv x0 (2 ^ (min (24 : Int).toNat IntKind.u32.bits))) < 256 then (some ([(dE (IntKind.u8.wrap x0)), (dE (IntKind.u8.wrap (Int.fdiv x0 (2 ^ (min (8 : Int).toNat IntKind.u32.bits))))), (dE (IntKind.u8.wrap (Int.fdiv x0 (2 ^ (min (16 : Int).toNat IntKind.u32.bits))))), (dE (IntKind.u8.wrap (Int.fdiv x0 (2 ^ (min (24 : Int).toNat IntKind.u32.bits)))))] : List UInt8)) else none) else none) else none) else none
theorem fx.calls (W : World) (F : HA) (x0 : Int)  :
    Fn Tryz.prog W 127 [.int .u32 x0] [] F (fx.f x0) (fun (r : Lb) (y : Option Addr × Nat) => .slice y.1 r.length y.2) (fun r y => [Row 5 1 y.1 r.length y.2 (aB r)]) := by
 unfold fx.f
 refine aL 15 Tryz.func127 O Tryz.ntmps127 O (sr (va O O (nx (vm O O (vq (fL O O underlying149 underlying5) O (vm O O (vq (lK O O O (by decide)) O (vq (fL O O underlying149 underlying5) O (vm O O (vq (lK O O O (by decide)) O (vq (fL O O underlying149 underlying5) O (vm O O (vq (lK O O O (by decide)) O (vq (fL O O underlying149 underlying5) O (bb (fun a => (bb (fun b => (bb (fun c => (bb (fun d => (ah (nk (cs := [.int .u8 (IntKind.u8.wrap x0), .int .u8 (IntKind.u8.wrap (Int.fdiv x0 (2 ^ (min (8 : Int).toNat IntKind.u32.bits)))), .int .u8 (IntKind.u8.wrap (Int.fdiv x0 (2 ^ (min (16 : Int).toNat IntKind.u32.bits)))), .int .u8 (IntKind.u8.wrap (Int.fdiv x0 (2 ^ (min (24 : Int).toNat IntKind.u32.bits))))]) ([(dE (IntKind.u8.wrap x0)), (dE (IntKind.u8.wrap (Int.fdiv x0 (2 ^ (min (8 : Int).toNat IntKind.u32.bits))))), (dE (IntKind.u8.wrap (Int.fdiv x0 (2 ^ (min (16 : Int).toNat IntKind.u32.bits))))), (dE (IntKind.u8.wrap (Int.fdiv x0 (2 ^ (min (24 : Int).toNat IntKind.u32.bits)))))] : Lb) O O underlying33 gA O (by kernel_rfl) O O (kL (gW a.1 a.2) (kL (gW b.1 b.2) (kL (gW c.1 c.2) (kL (gW d.1 d.2) uq))))) O O O ?_)))))))))))))))))))))))
 intro e
 refine va O O (ae (aa (aA ?_)))
 exact aE ((some ⟨e, 0, none⟩), 4) O O O (.s O (.s O .n))

def bV.l1 : Nat → Int → Int → Option (Int)
  | 0, _, _ => none
  | k + 1, a, b => if b < (8 : Int) then (if ca .and .u32 a 1 = (1 : Int) then (bV.l1 k (ca .xor .u32 (Int.fdiv a (2 ^ (min (1 : Int).toNat IntKind.u32.bits))) 2197175160) (IntKind.i64.wrap (b + 1))) else (bV.l1 k (Int.fdiv a (2 ^ (min (1 : Int).toNat IntKind.u32.bits))) (IntKind.i64.wrap (b + 1)))) else (some a)
def bV.l0 (x1 : List UInt8) : Nat → Int → Int → Option (Int)
  | 0, _, _ => none
  | k + 1, b, a => if a < (x1.length : Int) then ((if 0 ≤ a ∧ a < (x1.length : Int) then (bV.l1 k (ca .xor .u32 b (IntKind.u32.wrap ((x1.getD a.toNat 0).toNat : Int))) 0) else none).bind fun c => (bV.l0 x1 k c (IntKind.i64.wrap (a + 1)))) else (some b)
def bV.f (k : Nat) (x0 : Int) (x1 : List UInt8) : Option (Int) := (bV.l0 x1 k x0 0).bind fun a => (some a)
theorem bV.calls (W : World) (F : HA) (k : Nat) (x0 : Int) (a1 : Option Addr) (c1 : Nat) (x1 : Lb) (h1 : Rd F a1 (aB x1)) (q : x1.length ≤ c1) (t : c1 ≤ maxLen) :
    Fn Tryz.prog W 95 [.int .u32 x0, .slice a1 x1.length c1] [] F (bV.f k x0 x1) (fun (r : Int) (y : Unit) => .int .u32 r) (fun r y => []) := by
 unfold bV.f
 refine aL 31 Tryz.func95 O Tryz.ntmps95 O (sr (va O O (ae (aa ?_))))
 refine bF (S := Int) Unit (fun s y => [(0, .int .u32 s)]) (fun s y => [F]) ?_ ?_
 refine sr (vm O O (vq (bp O O O underlying33) O (vm O O (ae (aa (aQ ?_))))))
 refine cr (S := Int × Int) Unit (fun k s => bV.l0 x1 k s.1 s.2) (fun s y => [(0, .int .u32 s.1), (8, .slice a1 x1.length c1), (9, Iv (x1.length : Int)), (10, Iv s.2)]) (fun s y => [F]) (fun _ => by rw [bV.l0]) ?_ k (x0, 0) () ⟨O, O, O, O, trivial⟩ (.s O .n)
 intro k a u
 refine cR (by rw [bV.l0]) (sr (vq (cx O O O) O (ae (aa (ay ?_)))))
 refine bk O (fun v => ?_) (fun w => ?_)
 refine aC (aa ?_)
 refine bF (S := Int) Unit (fun s y => [(0, .int .u32 s), (8, .slice a1 x1.length c1), (9, Iv (x1.length : Int)), (10, Iv a.2)]) (fun s y => [F]) ?_ ?_
 refine aQ (sr (bb (fun c => ?_)))
 obtain ⟨h, g, d⟩ := h1.pos (gV (j := a.2.toNat) (by omega))
 refine vq (iB O O O d underlying33 sizeOf5 c.1 c.2) O (vq (ag O O isAgg5 (h1.cell 0 O d (gw (by omega)))) O (va O O (nx (vm O O (vm O O (vq (fL O O underlying5 underlying149) O (vq (so O O O) O (va O O (nx (vm O O (ae (aa (aQ ?_)))))))))))))
 refine cr (S := Int × Int) Unit (fun k s => bV.l1 k s.1 s.2) (fun s y => [(0, .int .u32 s.1), (8, .slice a1 x1.length c1), (9, Iv (x1.length : Int)), (10, Iv a.2), (18, Iv s.2)]) (fun s y => [F]) (fun _ => by rw [bV.l1]) ?_ k (ca .xor .u32 a.1 (IntKind.u32.wrap ((x1.getD a.2.toNat 0).toNat : Int)), 0) () ⟨O, O, O, O, O, trivial⟩ (.s O .n)
 intro k b i
 refine cR (by rw [bV.l1]) (sr (vq (cx O O O) O (ae (aa (ay ?_)))))
 refine bk O (fun l => ?_) (fun m => ?_)
 refine aC (aa (ay (aQ (sr (vm O O (vq (pJ O O O) O (va O O (nx (vm O O (vq (lK O O O (by decide)) O (va O O (nx (vm O O (vq (bO O O O) O (ae (aa ?_))))))))))))))))
 refine bk O (fun n => ?_) (fun o => ?_)
 refine aI (vm O O (vq (so O O O) O (va O O (ae (bu (aa (aI (vq (bU O O O) O (vm O O (ae ?_))))))))))
 exact bP (s := (ca .xor .u32 (Int.fdiv b.1 (2 ^ (min (1 : Int).toNat IntKind.u32.bits))) 2197175160, IntKind.i64.wrap (b.2 + 1))) () ⟨O, O, O, O, O, trivial⟩ (.s O .n)
 refine aC (bu (aa (aI (vq (bU O O O) O (vm O O (ae ?_))))))
 exact bP (s := (Int.fdiv b.1 (2 ^ (min (1 : Int).toNat IntKind.u32.bits)), IntKind.i64.wrap (b.2 + 1))) () ⟨O, O, O, O, O, trivial⟩ (.s O .n)
 refine cD (cg (cp (ci (bu ?_))))
 exact aH (s := b.1) () ⟨O, O, O, O, trivial⟩ (.s O .n)
 intro e p
 refine aI (vq (bU O O O) O (vm O O (ae ?_)))
 exact bP (s := (e, IntKind.i64.wrap (a.2 + 1))) () ⟨O, O, O, O, trivial⟩ (.s O .n)
 refine cD (cg (cp (ci ?_)))
 exact aH (s := a.1) () ⟨O, trivial⟩ (.s O .n)
 intro x z
 refine sr (vm O O (va O O (ae (aa (aA ?_)))))
 exact aE () O O O (.s O .n)

def gQ.f (k : Nat) (x0 : List UInt8) (x1 : List UInt8) : Option (List UInt8) := (fx.f (IntKind.u32.wrap (x1.length : Int))).bind fun a => ((bV.f k (4294967295 : Int) a).bind fun d => ((bV.f k d x1).bind fun c => (if (x0.length + a.length) * 1 ≤ 140737488355328 then ((fx.f (ca .xor .u32 (if IntKind.u32.signed then -1 else IntKind.u32.max) c)).bind fun b => (if ((x0 ++ a).length + b.length) * 1 ≤ 140737488355328 then (if (((x0 ++ a) ++ b).length + x1.length) * 1 ≤ 140737488355328 then (some (((x0 ++ a) ++ b) ++ x1)) else none) else none)) else none)))
theorem gQ.calls (W : World) (F : HA) (k : Nat) (a0 : Option Addr) (c0 : Nat) (x0 : Lb) (a1 : Option Addr) (c1 : Nat) (x1 : Lb) (h1 : Rd F a1 (aB x1)) (t : x1.length ≤ c1) (u : c1 ≤ maxLen) :
    Fn Tryz.prog W 111 [.slice a0 x0.length c0, .slice a1 x1.length c1] [Row 5 1 a0 x0.length c0 (aB x0)] F (gQ.f k x0 x1) (fun (r : Lb) (y : Option Addr × Nat) => .slice y.1 r.length y.2) (fun r y => [Row 5 1 y.1 r.length y.2 (aB r)]) := by
 unfold gQ.f
 refine aL 26 Tryz.func111 O Tryz.ntmps111 O (sr (va O O (nx (vm O O (vq (bp O O O underlying33) O (vq (fL O O underlying3 underlying149) O (ax (fun a n => (ah (aw (vs := [.int .u32 (IntKind.u32.wrap (x1.length : Int))]) (cap := []) (A := []) (rst := [Row 5 1 a0 x0.length c0 (aB x0), F]) O O O O O O call127 (.s O (.s O .n)) (fx.calls _ _ (IntKind.u32.wrap (x1.length : Int)) ) n) O O O ?_)))))))))
 intro b
 refine va O O (nx (vm O O (ax (fun m o => (bf 0 O (fun p q s v => (ah (aw (vs := [.int .u32 4294967295, .slice b.1 a.length b.2]) (cap := []) (A := []) (rst := [Row 5 1 b.1 a.length b.2 (aB a), Row 5 1 a0 x0.length c0 (aB x0), F]) O O O O O O call95 (.s O (.s O (.s O .n))) (bV.calls _ _ k (4294967295 : Int) b.1 b.2 a (p.lend 0 O) q s) o) O O O ?_)))))))
 intro w
 refine vm O O (ax (fun c g => (ah (aw (vs := [.int .u32 m, .slice a1 x1.length c1]) (cap := []) (A := []) (rst := [Row 5 1 b.1 a.length b.2 (aB a), Row 5 1 a0 x0.length c0 (aB x0), F]) O O O O O O call95 (.s O (.s O (.s O .n))) (bV.calls _ _ k m a1 c1 x1 (h1.lend 2 O) t u) g) O O O ?_)))
 intro x
 refine vq (rv O O) O (va O O (nx (vm O O (vm O O (bb (fun h => (ah (fa 1 O O O underlying33 gA O (Rds.row 0 O) h) O O O ?_)))))))
 intro d
 refine va O O (nx (vm O O (vm O O (ax (fun z i => (ah (aw (vs := [.int .u32 (ca .xor .u32 (if IntKind.u32.signed then -1 else IntKind.u32.max) c)]) (cap := []) (A := []) (rst := [Row 5 1 b.1 a.length b.2 (aB a), Row 5 1 d.1 (x0 ++ a).length d.2 (aB (x0 ++ a)), F]) O O O O O O call127 (.s O (.s O (.s O .n))) (fx.calls _ _ (ca .xor .u32 (if IntKind.u32.signed then -1 else IntKind.u32.max) c) ) i) O O O ?_))))))
 intro ab
 refine bb (fun j => (ah (fa 2 O O O underlying33 gA O (Rds.row 0 O) j) O O O ?_))
 intro ad
 refine va O O (nx (vm O O (vm O O (bb (fun l => ?_)))))
 refine ah (fa 2 O O O underlying33 gA O (h1.rds 2 O) l) O O O ?_
 intro e
 refine va O O (ae (aa (aA ?_)))
 exact aE e O O O (.sel 2 O (.sel 2 O .n))

def gq.f (k : Nat) (x0 : List UInt8) : Option (List UInt8 × Int) := if (1048576 : Int) < (x0.length : Int) then (some (([] : List UInt8), 3)) else (if 0 ≤ (0 : Int) ∧ (0 : Int) ≤ IntKind.i64.wrap (8 + (x0.length : Int)) ∧ IntKind.i64.wrap (8 + (x0.length : Int)) * 1 ≤ 140737488355328 then ((gQ.f k (List.replicate (0 : Int).toNat (0 : UInt8)) x0).bind fun a => (some (a, 0))) else none)
theorem gq.calls (W : World) (F : HA) (k : Nat) (a0 : Option Addr) (c0 : Nat) (x0 : Lb) (h0 : Rd F a0 (aB x0)) (e : x0.length ≤ c0) (g : c0 ≤ maxLen) :
    Fn Tryz.prog W 88 [.slice a0 x0.length c0] [] F (gq.f k x0) (fun (r : Lb × Int) (y : Option Addr × Nat) => .tuple #[.slice y.1 r.1.length y.2, Iv r.2]) (fun r y => [Row 5 1 y.1 r.1.length y.2 (aB r.1)]) := by
 unfold gq.f
 refine aL 13 Tryz.func88 O Tryz.ntmps88 O (sr (va O O (va O O (ae (aa (ay (sr (vm O O (vq (bp O O O underlying33) O (vq (cF O O O) O (ae (aa ?_))))))))))))
 refine bk O (fun h => ?_) (fun i => ?_)
 refine sr (va O O (va O O (ae (aa (aA (aK ?_))))))
 exact aE (none, 0) O O O (.row_nil (.s O .n))
 refine aC (aa (sr (vm O O (vq (bp O O O underlying33) O (vq (bU O O O) O (bb (fun a => (ah (kN O O O underlying33 gA a.1 a.2.1 a.2.2) O O O ?_))))))))
 intro b
 refine vm O O (ax (fun j d => (ah (aw (vs := [.slice (some ⟨b, 0, none⟩) ((List.replicate (0 : Int).toNat (0 : UInt8)).length) ((IntKind.i64.wrap (8 + (x0.length : Int))).toNat), .slice a0 x0.length c0]) (cap := []) (A := [Row 5 1 (some ⟨b, 0, none⟩) (List.replicate (0 : Int).toNat (0 : UInt8)).length ((IntKind.i64.wrap (8 + (x0.length : Int))).toNat) (aB (List.replicate (0 : Int).toNat (0 : UInt8)))]) (rst := [F]) O O O O O O call111 (.s O (.s O .n)) (gQ.calls _ _ k (some ⟨b, 0, none⟩) ((IntKind.i64.wrap (8 + (x0.length : Int))).toNat) (List.replicate (0 : Int).toNat (0 : UInt8)) a0 c0 x0 (h0.lend 0 O) e g) d) O O O ?_)))
 intro c
 refine va O O (va O O (ae (aa (aA ?_))))
 exact aE c O O O (.s O (.s O .n))

def dx.f (k : Nat) (a : Int) (u : Int) (v : Int) (w : Int) (x : Int) (y : Int) (z : Int) (ab : Int) (ad : Int) (af : Int) (s : List UInt8) : Option (List UInt8) := (dW.f).bind fun t => ((bv.f k t.1 t.2 a).bind fun d => ((if a = (0 : Int) then ((bv.f k d.1 d.2 u).bind fun g => (some (g.1, g.2))) else (some (d.1, d.2))).bind fun e => ((if ((decide (a = (0 : Int))) || (decide (a = (1 : Int)))) = true then ((bv.f k e.1 e.2 v).bind fun h => ((bv.f k h.1 h.2 w).bind fun i => ((bv.f k i.1 i.2 x).bind fun j => (some (j.1, j.2))))) else (some (e.1, e.2))).bind fun b => ((if ((decide (a = (0 : Int))) || (decide (a = (3 : Int)))) = true then ((bv.f k b.1 b.2 y).bind fun l => ((bv.f k l.1 l.2 z).bind fun m => (some (m.1, m.2)))) else (some (b.1, b.2))).bind fun c => ((if a = (2 : Int) then ((ej.f k ab ad af s).bind fun n => ((bA.f n.2).bind fun al => ((dp.f k c.1 c.2 n.1 (8192 : Int)).bind fun o => (some (o.1, o.2))))) else (some (c.1, c.2))).bind fun p => ((di.f p.1 p.2).bind fun q => ((bA.f q.2).bind fun an => ((gq.f k q.1).bind fun r => ((bA.f r.2).bind fun az => (some r.1))))))))))
theorem dx.calls (W : World) (F : HA) (k : Nat) (d : Int) (l : Int) (m : Int) (n : Int) (o : Int) (p : Int) (q : Int) (h : Int) (i : Int) (j : Int) (g : Option Addr) (e : Nat) (c : Lb) (b7 : Rd F g (aB c)) (br : c.length ≤ e) (bs : e ≤ maxLen) :
    Fn Tryz.prog W 52 [.agg #[Iv d, Iv l, Iv m, Iv n, Iv o, Iv p, Iv q, Iv h, Iv i, Iv j, .slice g c.length e]] [] F (dx.f k d l m n o p q h i j c) (fun (r : Lb) (y : Option Addr × Nat) => .slice y.1 r.length y.2) (fun r y => [Row 5 1 y.1 r.length y.2 (aB r)]) := by
 unfold dx.f
 refine aL 90 Tryz.func52 O Tryz.ntmps52 O (sr (ah (cl O O O) O O O ?_))
 intro z
 refine va O O (nx (ax (fun bc ea => (ah (aw (vs := []) (cap := []) (A := []) (rst := [W3 z d l m n o p q h i j c g e, F]) O O O O O O call83 (.s O (.s O .n)) (dW.calls _ _  ) ea) O O O ?_))))
 intro a
 refine va O O (nx (vm O O (vq (ap O O underlying102 O O sizeOf3 O) O (vq (ag O O isAgg3 (.obj 2 O O)) O (ax (fun a6 eb => (ah (aw (vs := [Pt a.1, Iv d]) (cap := []) (A := [obj a.1 160 [.slice a.2.1 bc.1.length a.2.2, Iv bc.2], Row 5 1 a.2.1 bc.1.length a.2.2 (aB bc.1)]) (rst := [W3 z d l m n o p q h i j c g e, F]) O O O O O O call84 (.s O (.s O (.s O (.s O .n)))) (bv.calls _ _ k a.1 a.2.1 a.2.2 bc.1 bc.2 d ) eb) O O O ?_)))))))
 intro a7
 refine ae (aa ?_)
 refine bF (S := Lb × Int) (Option Addr × Nat) (fun s y => [(1, Pt z), (3, Pt a.1)]) (fun s y => [obj a.1 160 [.slice y.1 s.1.length y.2, Iv s.2], W3 z d l m n o p q h i j c g e, Row 5 1 y.1 s.1.length y.2 (aB s.1), F]) ?_ ?_
 refine sr (vq (ap O O underlying102 O O sizeOf3 O) O (vq (ag O O isAgg3 (.obj 2 O O)) O (vq (bO O O O) O (ae (aa ?_)))))
 refine bk O (fun ek => ?_) (fun el => ?_)
 refine aI (vm O O (vq (ap O O underlying102 O O sizeOf3 O) O (vq (ag O O isAgg3 (.obj 2 O O)) O (ax (fun bt b8 => (ah (aw (vs := [Pt a.1, Iv l]) (cap := []) (A := [obj a.1 160 [.slice a7.1 a6.1.length a7.2, Iv a6.2], Row 5 1 a7.1 a6.1.length a7.2 (aB a6.1)]) (rst := [W3 z d l m n o p q h i j c g e, F]) O O O O O O call84 (.s O (.s O (.s O (.s O .n)))) (bv.calls _ _ k a.1 a7.1 a7.2 a6.1 a6.2 l ) b8) O O O ?_))))))
 intro b0
 refine ae ?_
 exact aH (s := bt) b0 ⟨O, O, trivial⟩ (.s O (.sel 1 O (.s O (.s O .n))))
 refine aC ?_
 exact aH (s := a6) a7 ⟨O, O, trivial⟩ (.s O (.sel 1 O (.s O (.s O .n))))
 intro a8 a9
 refine bF (S := Lb × Int) (Option Addr × Nat) (fun s y => [(1, Pt z), (3, Pt a.1)]) (fun s y => [obj a.1 160 [.slice y.1 s.1.length y.2, Iv s.2], W3 z d l m n o p q h i j c g e, Row 5 1 y.1 s.1.length y.2 (aB s.1), F]) ?_ ?_
 refine sr (vq (ap O O underlying102 O O sizeOf3 O) O (vq (ag O O isAgg3 (.obj 1 O O)) O (vq (bO O O O) O (vm O O (ak (b := decide (d = (0 : Int))) (fun ec => RQ.sub (E' := [(1, Pt z)]) ⟨O, trivial⟩ (ap O O underlying102 O O sizeOf3 O)) O O O O O (ak (b := decide (d = (0 : Int))) (fun b9 => RQ.sub (E' := [(25, Pt z)]) ⟨aD O b9, trivial⟩ (ag O O isAgg3 (.obj 1 O O))) O O O O O (ak (b := decide (d = (0 : Int))) (fun cd => RQ.sub (E' := [(26, Iv d)]) ⟨aD O cd, trivial⟩ (bO O O O)) O O O O O (vq (dU O O O) O (ae (aa ?_))))))))))
 refine aW O (fun em => ?_) (fun er => ?_)
 refine sr (vm O O (vq (ap O O underlying102 O O sizeOf43 O) O (vq (ap O O underlying43 O O sizeOf3 O) O (vq (ag O O isAgg3 (.obj 1 O O)) O (ax (fun a0 ch => (ah (aw (vs := [Pt a.1, Iv m]) (cap := []) (A := [obj a.1 160 [.slice a9.1 a8.1.length a9.2, Iv a8.2], Row 5 1 a9.1 a8.1.length a9.2 (aB a8.1)]) (rst := [W3 z d l m n o p q h i j c g e, F]) O O O O O O call84 (.s O (.sel 1 O (.s O (.s O .n)))) (bv.calls _ _ k a.1 a9.1 a9.2 a8.1 a8.2 m ) ch) O O O ?_)))))))
 intro a1
 refine nx (vm O O (vq (ap O O underlying102 O O sizeOf43 O) O (vq (ap O O underlying43 O O sizeOf3 O) O (vq (ag O O isAgg3 (.obj 2 O O)) O (ax (fun a2 cs => (ah (aw (vs := [Pt a.1, Iv n]) (cap := []) (A := [obj a.1 160 [.slice a1.1 a0.1.length a1.2, Iv a0.2], Row 5 1 a1.1 a0.1.length a1.2 (aB a0.1)]) (rst := [W3 z d l m n o p q h i j c g e, F]) O O O O O O call84 (.s O (.s O (.s O (.s O .n)))) (bv.calls _ _ k a.1 a1.1 a1.2 a0.1 a0.2 n ) cs) O O O ?_)))))))
 intro a3
 refine ny (vm O O (vq (ap O O underlying102 O O sizeOf43 O) O (vq (ap O O underlying43 O O sizeOf3 O) O (vq (ag O O isAgg3 (.obj 2 O O)) O (ax (fun b1 c0 => (ah (aw (vs := [Pt a.1, Iv o]) (cap := []) (A := [obj a.1 160 [.slice a3.1 a2.1.length a3.2, Iv a2.2], Row 5 1 a3.1 a2.1.length a3.2 (aB a2.1)]) (rst := [W3 z d l m n o p q h i j c g e, F]) O O O O O O call84 (.s O (.s O (.s O (.s O .n)))) (bv.calls _ _ k a.1 a3.1 a3.2 a2.1 a2.2 o ) c0) O O O ?_)))))))
 intro b2
 refine ae ?_
 exact aH (s := b1) b2 ⟨O, O, trivial⟩ (.s O (.sel 1 O (.s O (.s O .n))))
 refine aC ?_
 exact aH (s := a8) a9 ⟨O, O, trivial⟩ (.s O (.s O (.s O (.s O .n))))
 intro af al
 refine bF (S := Lb × Int) (Option Addr × Nat) (fun s y => [(1, Pt z), (3, Pt a.1)]) (fun s y => [obj a.1 160 [.slice y.1 s.1.length y.2, Iv s.2], W3 z d l m n o p q h i j c g e, Row 5 1 y.1 s.1.length y.2 (aB s.1), F]) ?_ ?_
 refine sr (vq (ap O O underlying102 O O sizeOf3 O) O (vq (ag O O isAgg3 (.obj 1 O O)) O (vq (bO O O O) O (vm O O (ak (b := decide (d = (0 : Int))) (fun ed => RQ.sub (E' := [(1, Pt z)]) ⟨O, trivial⟩ (ap O O underlying102 O O sizeOf3 O)) O O O O O (ak (b := decide (d = (0 : Int))) (fun c1 => RQ.sub (E' := [(48, Pt z)]) ⟨aD O c1, trivial⟩ (ag O O isAgg3 (.obj 1 O O))) O O O O O (ak (b := decide (d = (0 : Int))) (fun c2 => RQ.sub (E' := [(49, Iv d)]) ⟨aD O c2, trivial⟩ (bO O O O)) O O O O O (vq (dU O O O) O (ae (aa ?_))))))))))
 refine aW O (fun es => ?_) (fun et => ?_)
 refine sr (vm O O (vq (ap O O underlying102 O O sizeOf3 O) O (vq (ag O O isAgg3 (.obj 1 O O)) O (ax (fun a4 c3 => (ah (aw (vs := [Pt a.1, Iv p]) (cap := []) (A := [obj a.1 160 [.slice al.1 af.1.length al.2, Iv af.2], Row 5 1 al.1 af.1.length al.2 (aB af.1)]) (rst := [W3 z d l m n o p q h i j c g e, F]) O O O O O O call84 (.s O (.sel 1 O (.s O (.s O .n)))) (bv.calls _ _ k a.1 al.1 al.2 af.1 af.2 p ) c3) O O O ?_))))))
 intro a5
 refine ny (vm O O (vq (ap O O underlying102 O O sizeOf3 O) O (vq (ag O O isAgg3 (.obj 2 O O)) O (ax (fun b3 c4 => (ah (aw (vs := [Pt a.1, Iv q]) (cap := []) (A := [obj a.1 160 [.slice a5.1 a4.1.length a5.2, Iv a4.2], Row 5 1 a5.1 a4.1.length a5.2 (aB a4.1)]) (rst := [W3 z d l m n o p q h i j c g e, F]) O O O O O O call84 (.s O (.s O (.s O (.s O .n)))) (bv.calls _ _ k a.1 a5.1 a5.2 a4.1 a4.2 q ) c4) O O O ?_))))))
 intro b4
 refine ae ?_
 exact aH (s := b3) b4 ⟨O, O, trivial⟩ (.s O (.sel 1 O (.s O (.s O .n))))
 refine aC ?_
 exact aH (s := af) al ⟨O, O, trivial⟩ (.s O (.s O (.s O (.s O .n))))
 intro w x
 refine bF (S := Lb × Int) (Option Addr × Nat) (fun s y => [(3, Pt a.1)]) (fun s y => [obj a.1 160 [.slice y.1 s.1.length y.2, Iv s.2], Row 5 1 y.1 s.1.length y.2 (aB s.1), F]) ?_ ?_
 refine sr (vq (ap O O underlying102 O O sizeOf3 O) O (vq (ag O O isAgg3 (.obj 1 O O)) O (vq (bO O O O) O (ae (aa ?_)))))
 refine bk O (fun e0 => ?_) (fun e1 => ?_)
 refine sr (vq (cS (v := .agg #[]) O O (fun _ => by kernel_rfl)) O (vq (ap O O underlying102 O O sizeOf35 O) O (vq (cn (vs := [Iv h, Iv i, Iv j, .slice g c.length e]) O O isAgg35 sizeOf35 O (cY 1 O (cG O))) O (ax (fun an c5 => (ah (aw (vs := [.agg #[], .agg #[Iv h, Iv i, Iv j, .slice g c.length e]]) (cap := []) (A := []) (rst := [obj a.1 160 [.slice x.1 w.1.length x.2, Iv w.2], W3 z d l m n o p q h i j c g e, Row 5 1 x.1 w.1.length x.2 (aB w.1), F]) O O O O O O call85 (.s O (.s O (.s O (.s O .n)))) (ej.calls _ _ k h i j g e c (b7.lend 3 O) br bs) c5) O O O ?_))))))
 intro az
 refine vm O O (vq (bG O O O) O (vq (bG O O O) O (va O O (va O O (nx (vm O O (ax (fun e2 c6 => (ah (aw (vs := [Iv an.2]) (cap := []) (A := []) (rst := [Row 5 1 az.1 an.1.length az.2 (aB an.1), obj a.1 160 [.slice x.1 w.1.length x.2, Iv w.2], W3 z d l m n o p q h i j c g e, Row 5 1 x.1 w.1.length x.2 (aB w.1), F]) O O O O O O call43 (.s O (.s O (.s O (.s O (.s O .n))))) (bA.calls _ _ an.2 ) c6) O O O ?_)))))))))
 intro e3
 refine ny (vm O O (vm O O (ax (fun b5 c7 => (bf 0 O (fun c8 c9 dl ef => (ah (aw (vs := [Pt a.1, .slice az.1 an.1.length az.2, Iv 8192]) (cap := []) (A := [obj a.1 160 [.slice x.1 w.1.length x.2, Iv w.2], Row 5 1 x.1 w.1.length x.2 (aB w.1)]) (rst := [Row 5 1 az.1 an.1.length az.2 (aB an.1), W3 z d l m n o p q h i j c g e, F]) O O O O O O call86 (.sel 1 O (.sel 2 O (.s O (.s O (.s O .n))))) (dp.calls _ _ k a.1 x.1 x.2 w.1 w.2 az.1 az.2 an.1 (8192 : Int) (c8.lend 0 O) c9 dl) c7) O O O ?_)))))))
 intro b6
 refine ae ?_
 exact aH (s := b5) b6 ⟨O, trivial⟩ (.s O (.s O (.sel 2 O .n)))
 refine aC ?_
 exact aH (s := w) x ⟨O, trivial⟩ (.s O (.sel 1 O (.sel 1 O .n)))
 intro t u
 refine sr (vm O O (ax (fun ab ds => (bf 1 O (fun d1 d2 d3 eg => (ah (aw (vs := [Pt a.1]) (cap := []) (A := [obj a.1 160 [.slice u.1 t.1.length u.2, Iv t.2]]) (rst := [Row 5 1 u.1 t.1.length u.2 (aB t.1), F]) O O O O O O call87 (.s O (.s O (.s O .n))) (di.calls _ _ a.1 u.1 u.2 t.1 t.2 (d1.lend 0 O) d2 d3) ds) O O O ?_))))))
 intro ad
 refine vm O O (vq (bG O O O) O (vq (bG O O O) O (va O O (va O O (nx (vm O O (ax (fun e4 d4 => (ah (aw (vs := [Iv ab.2]) (cap := []) (A := []) (rst := [Row 5 1 ad.1 ab.1.length ad.2 (aB ab.1), obj a.1 160 [.slice u.1 t.1.length u.2, Iv t.2], Row 5 1 u.1 t.1.length u.2 (aB t.1), F]) O O O O O O call43 (.s O (.s O (.s O (.s O .n)))) (bA.calls _ _ ab.2 ) d4) O O O ?_)))))))))
 intro e5
 refine nx (vm O O (ax (fun bd d5 => (bf 0 O (fun d6 d7 d8 ei => (ah (aw (vs := [.slice ad.1 ab.1.length ad.2]) (cap := []) (A := []) (rst := [Row 5 1 ad.1 ab.1.length ad.2 (aB ab.1), obj a.1 160 [.slice u.1 t.1.length u.2, Iv t.2], Row 5 1 u.1 t.1.length u.2 (aB t.1), F]) O O O O O O call88 (.s O (.s O (.s O (.s O .n)))) (gq.calls _ _ k ad.1 ad.2 ab.1 (d6.lend 0 O) d7 d8) d5) O O O ?_))))))
 intro be
 refine vm O O (vq (bG O O O) O (vq (bG O O O) O (va O O (va O O (nx (vm O O (ax (fun e6 d9 => (ah (aw (vs := [Iv bd.2]) (cap := []) (A := []) (rst := [Row 5 1 be.1 bd.1.length be.2 (aB bd.1), Row 5 1 ad.1 ab.1.length ad.2 (aB ab.1), obj a.1 160 [.slice u.1 t.1.length u.2, Iv t.2], Row 5 1 u.1 t.1.length u.2 (aB t.1), F]) O O O O O O call43 (.s O (.s O (.s O (.s O (.s O .n))))) (bA.calls _ _ bd.2 ) d9) O O O ?_)))))))))
 intro e7
 refine nx (vm O O (va O O (ae (aa (aA ?_)))))
 exact aE be O O O (.s O (.sel 3 O .n))

def eY.f (b : List ((List UInt8) × (List UInt8 × Int))) (e : List UInt8) (g : Int) (h : Bool) : Option (Int) := ((lu (fun (a : Int) (i : List UInt8) (c : List UInt8 × Int) => some (IntKind.i64.wrap (a + (c.1.length : Int)))) 0 b).bind fun a => (some a)).bind fun d => (some d)
theorem eY.calls (W : World) (F : HA) (b0 : Nat) (b : Nat) (a : Kps) (k : List (Lb × (Lb × Int))) (c : Lb) (d : Int) (g : Bool)  :
    Fn Tryz.prog W 59 [Pt b0] [W0 b0 b c d g, ao (aj b au am a) ai a k] F (eY.f k c d g) (fun (r : Int) (y : Unit) => Iv r) (fun r y => [W0 b0 b c d g, ao (aj b au am a) ai a k]) := by
 unfold eY.f
 refine aL 23 Tryz.func59 O Tryz.ntmps59 O (sr (va O O (nx (va O O (ae (aa ?_))))))
 refine bF (S := Int) Unit (fun s y => [(3, Iv s)]) (fun s y => [W0 b0 b c d g, ao (aj b au am a) ai a k, F]) ?_ ?_
 refine sr (vm O O (vn O O (vq (ap O O underlying97 O O sizeOf95 O) O (vq (ag O O isAgg95 (.obj 0 O O)) O (ah (su 1 O O underlying95 O) O O O ?_)))))
 intro m
 refine ae (aa (aQ ?_))
 refine rE (S := Int) (Y := Unit) (o2 := fun i => some i) (fun (i : Int) (l : Lb) (h : Lb × Int) => some (IntKind.i64.wrap (i + (h.1.length : Int)))) (fun s y => [(3, Iv s), (10, Pt m)]) (fun s y => [W0 b0 b c d g, F]) 0 () (fun x y e => by simpa [str] using e) (fun _ _ => O) O O (fun _ _ _ _ => ⟨O, O, trivial⟩) ⟨O, O, trivial⟩ ((.sel 1 O (.s O (.s O .n)))) ?_ ?_
 intro n o i t l h q
 refine cR (o' := some (IntKind.i64.wrap (i + (h.1.length : Int)))) O (eP (H' := [ao (itJ b m au a o l) ai a n, W0 b0 b c d g, F]) (Ent.refl _) (aQ (sr (vq (uy O O (vF 0 O)) O (vq (bG O O O) O (va O O (ae (aa (iw (v := h) 0 O q (fun j => (eP (H' := [obj (cN a l) 109 [.slice j.1 h.1.length j.2, Iv h.2], Row 5 1 j.1 h.1.length j.2 (aB h.1), im (itJ b m au a o l) ai a n l, W0 b0 b c d g, F]) (Ent.refl _) (aI (vm O O (vm O O (vn O O (vq (ap O O underlying109 O O sizeOf33 O) O (vq (ag O O isAgg33 (.obj 0 O O)) O (vq (bp O O O underlying33) O (vq (bU O O O) O (va O O (ae (bu ?_))))))))))))))))))))))
 exact aH (s := IntKind.i64.wrap (i + (h.1.length : Int))) () ⟨O, O, trivial⟩ ((.foldF0 (x := l) (p := (cN a l)) (v := h) j O q (.sel 2 O (.s O (.s O (.s O (.s O .n)))))))
 intro i t
 refine uR (o' := some i) O (nt (H' := [ao (aj b au am a) ai a k, W0 b0 b c d g, F]) (Ent.refl _) ?_)
 exact aH (s := i) () ⟨O, trivial⟩ (.sel 1 O (.s O (.s O .n)))
 intro u w
 refine sr (vm O O (va O O (ae (aa (aA ?_)))))
 exact aE () O O O (.s O (.s O (.s O .n)))

def dL.f (a : List ((List UInt8) × (List UInt8 × Int))) (d : List UInt8) (e : Int) (b : Bool) (x1 : List UInt8) (x2 : List UInt8) : Option (Int × (List ((List UInt8) × (List UInt8 × Int))) × List UInt8 × Int × Bool) := if (aR a x1).isSome = true then (if b = true then (some (11, a, d, e, b)) else ((eY.f a d e b).bind fun h => (if IntKind.i64.wrap (16777216 - h) < (x2.length : Int) then (some (10, a, d, e, b)) else (((bK.f a d e b).bind fun c => (if c.1 = true then (if 0 ≤ (0 : Int) ∧ (0 : Int) ≤ IntKind.i64.wrap (Int.tdiv (x2.length : Int) 2) ∧ IntKind.i64.wrap (Int.tdiv (x2.length : Int) 2) ≤ (x2.length : Int) then (some (cut x2 (0 : Int) (IntKind.i64.wrap (Int.tdiv (x2.length : Int) 2)), 11, c.2.1, c.2.2.1, c.2.2.2)) else none) else (some (x2, 0, c.2.1, c.2.2.1, c.2.2.2)))).bind fun g => (if ((((aR a x1).getD (([] : List UInt8), (0 : Int))).1).length + g.1.length) * 1 ≤ 140737488355328 then (some (g.2.1, aX a x1 ((((aR a x1).getD (([] : List UInt8), (0 : Int))).1) ++ g.1, ((aR a x1).getD (([] : List UInt8), (0 : Int))).2), x1, g.2.2.2.1, g.2.2.2.2)) else none))))) else (if b = true then (some (11, a, d, e, b)) else (some (8, a, d, e, b)))
theorem dL.calls (W : World) (F : HA) (b0 : Nat) (b : Nat) (a : Kps) (c : List (Lb × (Lb × Int))) (d : Lb) (e : Int) (g : Bool) (x1 : Lb) (a2 : Option Addr) (c2 : Nat) (x2 : Lb) (h2 : Rd F a2 (aB x2)) (n : x2.length ≤ c2) (af : c2 ≤ maxLen) :
    Fn Tryz.prog W 22 [Pt b0, str x1, .slice a2 x2.length c2] [W0 b0 b d e g, ao (aj b au am a) ai a c] F (dL.f c d e g x1 x2) (fun (r : Int × (List (Lb × (Lb × Int))) × Lb × Int × Bool) (y : Nat × Kps) => Iv r.1) (fun r y => [W5 b0 y.1 r.2.2, ao (aj y.1 au am y.2) ai y.2 r.2.1]) := by
 unfold dL.f
 refine aL 51 Tryz.func22 O Tryz.ntmps22 O (sr (va O O (ae (aa (ay ?_)))))
 refine fo (fun i => ?_) (fun i => ?_)
 refine aI (vm O O (vn O O (vq (ap O O underlying97 O O sizeOf95 O) O (vq (ag O O isAgg95 (.obj 0 O O)) O (vm O O (vq ((jI (ek := au) x1 (gS 1 O) i O O O underlying95 jq : RQ _ _ _ _ (.pointer (some ⟨(cN a x1), 0, none⟩)))) O (va O O (ae (aa (ay (aQ (sr (vm O O (vn O O (vq (ap O O underlying97 O O sizeOf4 O) O (vq (ag O O isAgg4 (.obj 0 O O)) O (va O O (ae (aa ?_)))))))))))))))))))
 refine aW O (fun a7 => ?_) (fun a8 => ?_)
 refine sr (va O O (ae (aa (aA (bl (aK ?_))))))
 exact aE (b, a) O O O (.s O (.s O (.s O .n)))
 refine sr (vm O O (vq (lH O O O underlying107) O (va O O (ae (aa (fy O (sr (vm O O (vq (bp O O O underlying33) O (vm O O (ax (fun a9 al => (ah (aw (vs := [Pt b0]) (cap := []) (A := [W0 b0 b d e g, ao (aj b au am a) ai a c]) (rst := [F]) O O O O O O call59 (.s O (.s O (.s O .n))) (eY.calls _ _ b0 b a c d e g ) al) O O O ?_)))))))))))))
 intro bc
 refine vq (cW O O O) O (vq (cF O O O) O (va O O (ae (aa ?_))))
 refine bk O (fun bd => ?_) (fun be => ?_)
 refine sr (va O O (ae (aa (aA (bl (aK ?_))))))
 exact aE (b, a) O O O (.s O (.s O (.s O .n)))
 refine aC (bu (aa (sr (va O O (ae (aa ?_))))))
 refine bF (S := Lb × Int × Lb × Int × Bool) (Option Addr × Nat) (fun s y => [(0, Pt b0), (1, str x1), (2, .slice y.1 s.1.length y.2), (7, .pointer (some ⟨(cN a x1), 0, none⟩)), (8, Iv s.2.1)]) (fun s y => [pr (Rd F y.1 (aB s.1) ∧ s.1.length ≤ y.2 ∧ y.2 ≤ maxLen), W5 b0 b s.2.2, ao (aj b au am a) ai a c, F]) ?_ ?_
 refine sr (vm O O (ax (fun h q => (ah (aw (vs := [Pt b0]) (cap := []) (A := [W0 b0 b d e g, ao (aj b au am a) ai a c]) (rst := [F]) O O O O O O call58 (.s O (.s O (.s O .n))) (bK.calls _ _ b0 b a c d e g ) q) O O O ?_))))
 intro a0
 refine ae (aa ?_)
 refine aW O (fun a1 => ?_) (fun a3 => ?_)
 refine aI (vm O O (vm O O (vq (bp O O O underlying33) O (vq (vA O O O (by decide)) O (bb (fun k => ?_))))))
 obtain ⟨an, az, t, u, w, z⟩ := gU (lo := (0 : Int)) (hi := IntKind.i64.wrap (Int.tdiv (x2.length : Int) 2)) h2 n k
 refine vq (gD (l := x2) (lo' := (0 : Int)) (hi' := IntKind.i64.wrap (Int.tdiv (x2.length : Int) 2)) O O O O underlying33 sizeOf5 (.inr ⟨_, O⟩) (.inl ⟨O, O⟩) k n t) O (va O O (va O O (ae ?_)))
 exact aH (s := (cut x2 (0 : Int) (IntKind.i64.wrap (Int.tdiv (x2.length : Int) 2)), 11, h.2)) (an, az) ⟨O, O, O, O, O, trivial⟩ (.pr_in ⟨u, w, (Nat.le_trans z af)⟩ (.s O (.s O (.s O .n))))
 refine aC ?_
 exact aH (s := (x2, 0, h.2)) (a2, c2) ⟨O, O, O, O, O, trivial⟩ (.pr_in ⟨h2, n, af⟩ (.s O (.s O (.s O .n))))
 intro m a4
 refine mJ (fun ab => (ay (iw (v := ((aR c x1).getD (([] : Lb), (0 : Int)))) 1 O (fC i) (fun j => (eP (H' := [obj (cN a x1) 109 [.slice j.1 ((((aR c x1).getD (([] : Lb), (0 : Int))).1).length) j.2, Iv (((aR c x1).getD (([] : Lb), (0 : Int))).2)], Row 5 1 j.1 (((aR c x1).getD (([] : Lb), (0 : Int))).1).length j.2 (aB (((aR c x1).getD (([] : Lb), (0 : Int))).1)), im (aj b au am a) ai a c x1, W5 b0 b m.2.2, F]) (Ent.refl _) (aI (vm O O (vm O O (vn O O (vq (ap O O underlying109 O O sizeOf33 O) O (vq (ag O O isAgg33 (.obj 0 O O)) O (vm O O (bb (fun ad => ?_))))))))))))))
 refine ah (fa 1 O O O underlying33 gA O (ab.1.rds 3 O) ad) O O O ?_
 intro o
 refine vn O O (vq (ap O O underlying109 O O sizeOf33 O) O (aU (aG 0 O O O sizeOf33 O O (aM (by rfl)) O O) O O ?_))
 intro _
 refine nx (vm O O (vm O O (vn O O (vq (ap O O underlying97 O O sizeOf9 O) O (aU (aG 3 O O O sizeOf9 O O (aM (by rfl)) O O) O O ?_)))))
 intro _
 refine nx (vm O O (va O O (ae (aa (aA ?_)))))
 exact aE (b, a) O O O (.sel 3 O (.foldF (x := x1) (p := (cN a x1)) (v := ((((aR c x1).getD (([] : Lb), (0 : Int))).1) ++ m.1, ((aR c x1).getD (([] : Lb), (0 : Int))).2)) o O (.sel 2 O (.s O (.s O (.s O .n))))))
 refine aI (vm O O (vn O O (vq (ap O O underlying97 O O sizeOf95 O) O (vq (ag O O isAgg95 (.obj 0 O O)) O (vm O O (vq (jJ (ek := au) x1 (gS 1 O) (iv i) O O O underlying95 jq zeroValue107) O (va O O (ae (aa (ay (aQ (sr (vm O O (vn O O (vq (ap O O underlying97 O O sizeOf4 O) O (vq (ag O O isAgg4 (.obj 0 O O)) O (va O O (ae (aa ?_)))))))))))))))))))
 refine aW O (fun a5 => ?_) (fun a6 => ?_)
 refine sr (va O O (ae (aa (aA (bl (aK ?_))))))
 exact aE (b, a) O O O (.s O (.s O (.s O .n)))
 refine sr (vm O O (vq (kf O O O underlying107) O (va O O (ae (aa (fH O (sr (va O O (ae (aa (aA (bl (aK ?_)))))))))))))
 exact aE (b, a) O O O (.s O (.s O (.s O .n)))

def cJ.f (a : List ((List UInt8) × (List UInt8 × Int))) (d : List UInt8) (e : Int) (b : Bool) (x1 : List UInt8) : Option (Int × (List ((List UInt8) × (List UInt8 × Int))) × List UInt8 × Int × Bool) := if (aR a x1).isSome = true then (if b = true then (some (11, a, d, e, b)) else ((bK.f a d e b).bind fun c => (if c.1 = true then (some (11, a, c.2.1, c.2.2.1, c.2.2.2)) else (some (0, aX a x1 (((aR a x1).getD (([] : List UInt8), (0 : Int))).1, ((((aR a x1).getD (([] : List UInt8), (0 : Int))).1).length : Int)), c.2.1, c.2.2.1, c.2.2.2))))) else (if b = true then (some (11, a, d, e, b)) else (some (8, a, d, e, b)))
theorem cJ.calls (W : World) (F : HA) (b0 : Nat) (b : Nat) (a : Kps) (c : List (Lb × (Lb × Int))) (e : Lb) (g : Int) (h : Bool) (x1 : Lb)  :
    Fn Tryz.prog W 46 [Pt b0, str x1] [W0 b0 b e g h, ao (aj b au am a) ai a c] F (cJ.f c e g h x1) (fun (r : Int × (List (Lb × (Lb × Int))) × Lb × Int × Bool) (y : Nat × Kps) => Iv r.1) (fun r y => [W5 b0 y.1 r.2.2, ao (aj y.1 au am y.2) ai y.2 r.2.1]) := by
 unfold cJ.f
 refine aL 31 Tryz.func46 O Tryz.ntmps46 O (sr (va O O (ae (aa (ay ?_)))))
 refine fo (fun i => ?_) (fun i => ?_)
 refine aI (vm O O (vn O O (vq (ap O O underlying97 O O sizeOf95 O) O (vq (ag O O isAgg95 (.obj 0 O O)) O (vm O O (vq ((jI (ek := au) x1 (gS 1 O) i O O O underlying95 jq : RQ _ _ _ _ (.pointer (some ⟨(cN a x1), 0, none⟩)))) O (va O O (ae (aa (ay (aQ (sr (vm O O (vn O O (vq (ap O O underlying97 O O sizeOf4 O) O (vq (ag O O isAgg4 (.obj 0 O O)) O (va O O (ae (aa ?_)))))))))))))))))))
 refine aW O (fun n => ?_) (fun o => ?_)
 refine sr (va O O (ae (aa (aA (bl (aK ?_))))))
 exact aE (b, a) O O O (.s O (.s O (.s O .n)))
 refine sr (vm O O (vq (lH O O O underlying107) O (va O O (ae (aa (fy O (sr (vm O O (ax (fun j k => (ah (aw (vs := [Pt b0]) (cap := []) (A := [W0 b0 b e g h, ao (aj b au am a) ai a c]) (rst := [F]) O O O O O O call58 (.s O (.s O (.s O .n))) (bK.calls _ _ b0 b a c e g h ) k) O O O ?_)))))))))))
 intro q
 refine va O O (ae (aa ?_))
 refine aW O (fun s => ?_) (fun t => ?_)
 refine sr (va O O (ae (aa (aA (bl (aK ?_))))))
 exact aE (b, a) O O O (.s O (.s O (.s O .n)))
 refine aC (bu (aa (ay (iw (v := ((aR c x1).getD (([] : Lb), (0 : Int)))) 1 O (fC i) (fun d => (eP (H' := [obj (cN a x1) 109 [.slice d.1 ((((aR c x1).getD (([] : Lb), (0 : Int))).1).length) d.2, Iv (((aR c x1).getD (([] : Lb), (0 : Int))).2)], Row 5 1 d.1 (((aR c x1).getD (([] : Lb), (0 : Int))).1).length d.2 (aB (((aR c x1).getD (([] : Lb), (0 : Int))).1)), im (aj b au am a) ai a c x1, W5 b0 b j.2, F]) (Ent.refl _) (aI (vm O O (vm O O (vn O O (vq (ap O O underlying109 O O sizeOf33 O) O (vq (ag O O isAgg33 (.obj 0 O O)) O (vq (bp O O O underlying33) O (vn O O (vq (ap O O underlying109 O O sizeOf3 O) O (aU (aG 0 O O O sizeOf3 O O (aM (by rfl)) O O) O O ?_))))))))))))))))
 intro _
 refine nx (va O O (ae (aa (aA ?_))))
 exact aE (b, a) O O O (.sel 3 O (.foldF (x := x1) (p := (cN a x1)) (v := (((aR c x1).getD (([] : Lb), (0 : Int))).1, ((((aR c x1).getD (([] : Lb), (0 : Int))).1).length : Int))) d O (.sel 2 O (.s O (.s O (.s O .n))))))
 refine aI (vm O O (vn O O (vq (ap O O underlying97 O O sizeOf95 O) O (vq (ag O O isAgg95 (.obj 0 O O)) O (vm O O (vq (jJ (ek := au) x1 (gS 1 O) (iv i) O O O underlying95 jq zeroValue107) O (va O O (ae (aa (ay (aQ (sr (vm O O (vn O O (vq (ap O O underlying97 O O sizeOf4 O) O (vq (ag O O isAgg4 (.obj 0 O O)) O (va O O (ae (aa ?_)))))))))))))))))))
 refine aW O (fun l => ?_) (fun m => ?_)
 refine sr (va O O (ae (aa (aA (bl (aK ?_))))))
 exact aE (b, a) O O O (.s O (.s O (.s O .n)))
 refine sr (vm O O (vq (kf O O O underlying107) O (va O O (ae (aa (fH O (sr (va O O (ae (aa (aA (bl (aK ?_)))))))))))))
 exact aE (b, a) O O O (.s O (.s O (.s O .n)))

def eJ.f (x0 : List Int) : Option (List Int) := if (([] : List Int).length + x0.length) * 8 ≤ 140737488355328 then (some (([] : List Int) ++ x0)) else none
theorem eJ.calls (W : World) (F : HA) (a0 : Option Addr) (c0 : Nat) (x0 : List Int) (h0 : RdV F 1 (V3 tt) a0 x0) (e : x0.length ≤ c0) (g : c0 ≤ maxLen) :
    Fn Tryz.prog W 44 [.slice a0 x0.length c0] [] F (eJ.f x0) (fun (r : List Int) (y : Option Addr × Nat) => .slice y.1 r.length y.2) (fun r y => [ar 3 1 (V3 tt) y.1 r y.2]) := by
 unfold eJ.f
 refine aL 8 Tryz.func44 O Tryz.ntmps44 O ?_
 rcases a0 with _ | p0
 have hx : x0 = [] := pw rfl h0
 subst hx
 refine cR (o' := some ([] : List Int)) (by simp) (sr (va O O (ae (aa (ay (sr (vm O O (vq (mj O O underlying78) O (ae (aa (fH O (sr (va O O (ae (aa (aA (aK ?_)))))))))))))))))
 exact aE (none, 0) O O O (.rowV_nil (.s O .n))
 refine sr (va O O (ae (aa (ay (sr (vm O O (vq (ml O O underlying78) O (ae (aa (fy O (aC (aa (sr (ah (pp (α := Int) (V := (V3 tt)) O underlying78 ns) O O O ?_))))))))))))))
 intro h
 refine vm O O (bi 0 O (fun d b => (bb (fun c => ?_))))
 refine ah (ez 0 O O O underlying78 ns O b (h0.rds 0 O) c) O O O ?_
 intro a
 refine va O O (ae (aa (aA ?_)))
 exact aE a O O O (.s O (.s O .n))

def fw.f (x0 : List UInt8) : Option (List UInt8) := if 0 ≤ (0 : Int) ∧ (0 : Int) ≤ (x0.length : Int) ∧ (x0.length : Int) * 1 ≤ 140737488355328 then (if ((List.replicate (0 : Int).toNat (0 : UInt8)).length + x0.length) * 1 ≤ 140737488355328 then (some ((List.replicate (0 : Int).toNat (0 : UInt8)) ++ x0)) else none) else none
theorem fw.calls (W : World) (F : HA) (a0 : Option Addr) (c0 : Nat) (x0 : Lb) (h0 : Rd F a0 (aB x0)) (d : x0.length ≤ c0) (e : c0 ≤ maxLen) :
    Fn Tryz.prog W 66 [.slice a0 x0.length c0] [] F (fw.f x0) (fun (r : Lb) (y : Option Addr × Nat) => .slice y.1 r.length y.2) (fun r y => [Row 5 1 y.1 r.length y.2 (aB r)]) := by
 unfold fw.f
 refine aL 8 Tryz.func66 O Tryz.ntmps66 O (sr (va O O (nx (vm O O (vq (bp O O O underlying33) O (bb (fun a => (ah (kN O O O underlying33 gA a.1 a.2.1 a.2.2) O O O ?_))))))))
 intro g
 refine vm O O (bb (fun c => ?_))
 refine ah (fa 0 O O O underlying33 gA O (h0.rds 0 O) c) O O O ?_
 intro b
 refine va O O (ae (aa (aA ?_)))
 exact aE b O O O (.s O (.s O .n))

def df.f (a : List ((List UInt8) × (List UInt8 × Int))) (c : List UInt8) (d : Int) (e : Bool) (x1 : List UInt8) : Option (List UInt8 × Int) := if (aR a x1).isSome = true then ((fw.f (((aR a x1).getD (([] : List UInt8), (0 : Int))).1)).bind fun b => (some (b, 0))) else (some (([] : List UInt8), 8))
theorem df.calls (W : World) (F : HA) (b0 : Nat) (d : Nat) (b : Kps) (a : List (Lb × (Lb × Int))) (e : Lb) (g : Int) (h : Bool) (x1 : Lb)  :
    Fn Tryz.prog W 26 [Pt b0, str x1] [W0 b0 d e g h, ao (aj d au am b) ai b a] F (df.f a e g h x1) (fun (r : Lb × Int) (y : Option Addr × Nat) => .tuple #[.slice y.1 r.1.length y.2, Iv r.2]) (fun r y => [Row 5 1 y.1 r.1.length y.2 (aB r.1), W0 b0 d e g h, ao (aj d au am b) ai b a]) := by
 unfold df.f
 refine aL 20 Tryz.func26 O Tryz.ntmps26 O (sr (va O O (va O O (ae (aa (ay ?_))))))
 refine fo (fun i => ?_) (fun i => ?_)
 refine aI (vm O O (vn O O (vq (ap O O underlying97 O O sizeOf95 O) O (vq (ag O O isAgg95 (.obj 0 O O)) O (vm O O (vq ((jI (ek := au) x1 (gS 1 O) i O O O underlying95 jq : RQ _ _ _ _ (.pointer (some ⟨(cN b x1), 0, none⟩)))) O (va O O (ae (aa (ay (sr (vm O O (vq (lH O O O underlying107) O (ae (aa (fy O (aC (aa (ay (iw (v := ((aR a x1).getD (([] : Lb), (0 : Int)))) 1 O (fC i) (fun c => (eP (H' := [obj (cN b x1) 109 [.slice c.1 ((((aR a x1).getD (([] : Lb), (0 : Int))).1).length) c.2, Iv (((aR a x1).getD (([] : Lb), (0 : Int))).2)], Row 5 1 c.1 (((aR a x1).getD (([] : Lb), (0 : Int))).1).length c.2 (aB (((aR a x1).getD (([] : Lb), (0 : Int))).1)), im (aj d au am b) ai b a x1, W0 b0 d e g h, F]) (Ent.refl _) (aI (vm O O (vn O O (vq (ap O O underlying109 O O sizeOf33 O) O (vq (ag O O isAgg33 (.obj 0 O O)) O (ax (fun q k => (bf 1 O (fun l m n o => (ah (aw (vs := [.slice c.1 ((((aR a x1).getD (([] : Lb), (0 : Int))).1).length) c.2]) (cap := []) (A := []) (rst := [obj (cN b x1) 109 [.slice c.1 ((((aR a x1).getD (([] : Lb), (0 : Int))).1).length) c.2, Iv (((aR a x1).getD (([] : Lb), (0 : Int))).2)], Row 5 1 c.1 (((aR a x1).getD (([] : Lb), (0 : Int))).1).length c.2 (aB (((aR a x1).getD (([] : Lb), (0 : Int))).1)), im (aj d au am b) ai b a x1, W0 b0 d e g h, F]) O O O O O O call66 (.s O (.s O (.s O (.s O (.s O .n))))) (fw.calls _ _ c.1 c.2 (((aR a x1).getD (([] : Lb), (0 : Int))).1) (l.lend 1 O) m n) k) O O O ?_))))))))))))))))))))))))))))))))
 intro j
 refine va O O (va O O (ae (aa (aA ?_))))
 exact aE j O O O (.s O (.sel 3 O (.foldF0 (x := x1) (p := (cN b x1)) (v := ((aR a x1).getD (([] : Lb), (0 : Int)))) c O (fC i) (.sel 2 O (.s O (.s O (.s O .n)))))))
 refine aI (vm O O (vn O O (vq (ap O O underlying97 O O sizeOf95 O) O (vq (ag O O isAgg95 (.obj 0 O O)) O (vm O O (vq (jJ (ek := au) x1 (gS 1 O) (iv i) O O O underlying95 jq zeroValue107) O (va O O (ae (aa (ay (sr (vm O O (vq (kf O O O underlying107) O (ae (aa (fH O (sr (va O O (va O O (ae (aa (aA (aK ?_)))))))))))))))))))))))
 exact aE (none, 0) O O O (.row_nil (.s O (.s O (.s O .n))))

def gC.f (x0 : List UInt8) : Option (Int) := if 0 ≤ (0 : Int) ∧ (0 : Int) < (x0.length : Int) then (if 0 ≤ (1 : Int) ∧ (1 : Int) < (x0.length : Int) then (if 0 ≤ (2 : Int) ∧ (2 : Int) < (x0.length : Int) then (if 0 ≤ (3 : Int) ∧ (3 : Int) < (x0.length : Int) then (some (ca .or .u32 (ca .or .u32 (ca .or .u32 (IntKind.u32.wrap ((x0.getD (0 : Int).toNat 0).toNat : Int)) (IntKind.u32.wrap ((IntKind.u32.wrap ((x0.getD (1 : Int).toNat 0).toNat : Int)) * 2 ^ (min (8 : Int).toNat IntKind.u32.bits)))) (IntKind.u32.wrap ((IntKind.u32.wrap ((x0.getD (2 : Int).toNat 0).toNat : Int)) * 2 ^ (min (16 : Int).toNat IntKind.u32.bits)))) (IntKind.u32.wrap ((IntKind.u32.wrap ((x0.getD (3 : Int).toNat 0).toNat : Int)) * 2 ^ (min (24 : Int).toNat IntKind.u32.bits))))) else none) else none) else none) else none
theorem gC.calls (W : World) (F : HA) (a0 : Option Addr) (c0 : Nat) (x0 : Lb) (h0 : Rd F a0 (aB x0)) (z : x0.length ≤ c0) (ab : c0 ≤ maxLen) :
    Fn Tryz.prog W 94 [.slice a0 x0.length c0] [] F (gC.f x0) (fun (r : Int) (y : Unit) => .int .u32 r) (fun r y => []) := by
 unfold gC.f
 refine aL 25 Tryz.func94 O Tryz.ntmps94 O (sr (va O O (ae (aa (ay (cB (fun d => ?_)))))))
 obtain ⟨u, n, e⟩ := h0.pos (gV (j := (0 : Int).toNat) (by omega))
 refine cB (fun g => ?_)
 obtain ⟨w, p, h⟩ := h0.pos (gV (j := (1 : Int).toNat) (by omega))
 refine cB (fun k => ?_)
 obtain ⟨q, l, a⟩ := h0.pos (gV (j := (2 : Int).toNat) (by omega))
 refine cB (fun b => ?_)
 obtain ⟨t, m, c⟩ := h0.pos (gV (j := (3 : Int).toNat) (by omega))
 refine ba (Γ := Unit) () [[], [0], [0, 1], [0, 1, 2], [], [4], [4, 5], [4, 5, 6], [4, 5, 6, 7], rL 9, [], [10], [10, 11], [10, 11, 12], [10, 11, 12, 13], rL 15, [], [16], [16, 17], [16, 17, 18], [16, 17, 18, 19], rL 21, rL 22] [] [0, 1, 2, 3, 4, 5, 6, 7, 8, 9, 10, 11, 12, 13, 14, 15, 16, 17, 18, 19, 20, 21, 22] (fun i => [[0], [0], [0], [0], [0], [0], [0], [0], [0], [0], [0], [0], [0], [0], [0], [0], [0], [0], [0], [0], [0], [0], [0]].getD i []) (fun i => [[], [], [], [], [], [], [], [], [], [], [], [], [], [], [], [], [], [], [], [], [], [], []].getD i []) (fun γ i => [.slice a0 x0.length c0, .pointer (some ⟨u, n + (0 : Int).toNat, none⟩), .int .u8 ((x0.getD (0 : Int).toNat 0).toNat : Int), .int .u32 (IntKind.u32.wrap ((x0.getD (0 : Int).toNat 0).toNat : Int)), .slice a0 x0.length c0, .pointer (some ⟨w, p + (1 : Int).toNat, none⟩), .int .u8 ((x0.getD (1 : Int).toNat 0).toNat : Int), .int .u32 (IntKind.u32.wrap ((x0.getD (1 : Int).toNat 0).toNat : Int)), .int .u32 (IntKind.u32.wrap ((IntKind.u32.wrap ((x0.getD (1 : Int).toNat 0).toNat : Int)) * 2 ^ (min (8 : Int).toNat IntKind.u32.bits))), .int .u32 (ca .or .u32 (IntKind.u32.wrap ((x0.getD (0 : Int).toNat 0).toNat : Int)) (IntKind.u32.wrap ((IntKind.u32.wrap ((x0.getD (1 : Int).toNat 0).toNat : Int)) * 2 ^ (min (8 : Int).toNat IntKind.u32.bits)))), .slice a0 x0.length c0, .pointer (some ⟨q, l + (2 : Int).toNat, none⟩), .int .u8 ((x0.getD (2 : Int).toNat 0).toNat : Int), .int .u32 (IntKind.u32.wrap ((x0.getD (2 : Int).toNat 0).toNat : Int)), .int .u32 (IntKind.u32.wrap ((IntKind.u32.wrap ((x0.getD (2 : Int).toNat 0).toNat : Int)) * 2 ^ (min (16 : Int).toNat IntKind.u32.bits))), .int .u32 (ca .or .u32 (ca .or .u32 (IntKind.u32.wrap ((x0.getD (0 : Int).toNat 0).toNat : Int)) (IntKind.u32.wrap ((IntKind.u32.wrap ((x0.getD (1 : Int).toNat 0).toNat : Int)) * 2 ^ (min (8 : Int).toNat IntKind.u32.bits)))) (IntKind.u32.wrap ((IntKind.u32.wrap ((x0.getD (2 : Int).toNat 0).toNat : Int)) * 2 ^ (min (16 : Int).toNat IntKind.u32.bits)))), .slice a0 x0.length c0, .pointer (some ⟨t, m + (3 : Int).toNat, none⟩), .int .u8 ((x0.getD (3 : Int).toNat 0).toNat : Int), .int .u32 (IntKind.u32.wrap ((x0.getD (3 : Int).toNat 0).toNat : Int)), .int .u32 (IntKind.u32.wrap ((IntKind.u32.wrap ((x0.getD (3 : Int).toNat 0).toNat : Int)) * 2 ^ (min (24 : Int).toNat IntKind.u32.bits))), .int .u32 (ca .or .u32 (ca .or .u32 (ca .or .u32 (IntKind.u32.wrap ((x0.getD (0 : Int).toNat 0).toNat : Int)) (IntKind.u32.wrap ((IntKind.u32.wrap ((x0.getD (1 : Int).toNat 0).toNat : Int)) * 2 ^ (min (8 : Int).toNat IntKind.u32.bits)))) (IntKind.u32.wrap ((IntKind.u32.wrap ((x0.getD (2 : Int).toNat 0).toNat : Int)) * 2 ^ (min (16 : Int).toNat IntKind.u32.bits)))) (IntKind.u32.wrap ((IntKind.u32.wrap ((x0.getD (3 : Int).toNat 0).toNat : Int)) * 2 ^ (min (24 : Int).toNat IntKind.u32.bits)))), .int .u32 (ca .or .u32 (ca .or .u32 (ca .or .u32 (IntKind.u32.wrap ((x0.getD (0 : Int).toNat 0).toNat : Int)) (IntKind.u32.wrap ((IntKind.u32.wrap ((x0.getD (1 : Int).toNat 0).toNat : Int)) * 2 ^ (min (8 : Int).toNat IntKind.u32.bits)))) (IntKind.u32.wrap ((IntKind.u32.wrap ((x0.getD (2 : Int).toNat 0).toNat : Int)) * 2 ^ (min (16 : Int).toNat IntKind.u32.bits)))) (IntKind.u32.wrap ((IntKind.u32.wrap ((x0.getD (3 : Int).toNat 0).toNat : Int)) * 2 ^ (min (24 : Int).toNat IntKind.u32.bits))))].getD i undef) (fun j γ => [[F]].getD j []) (fun γ => [(2, .int .u32 (ca .or .u32 (ca .or .u32 (ca .or .u32 (IntKind.u32.wrap ((x0.getD (0 : Int).toNat 0).toNat : Int)) (IntKind.u32.wrap ((IntKind.u32.wrap ((x0.getD (1 : Int).toNat 0).toNat : Int)) * 2 ^ (min (8 : Int).toNat IntKind.u32.bits)))) (IntKind.u32.wrap ((IntKind.u32.wrap ((x0.getD (2 : Int).toNat 0).toNat : Int)) * 2 ^ (min (16 : Int).toNat IntKind.u32.bits)))) (IntKind.u32.wrap ((IntKind.u32.wrap ((x0.getD (3 : Int).toNat 0).toNat : Int)) * 2 ^ (min (24 : Int).toNat IntKind.u32.bits)))))]) mixed (by decide) (by decide) (by decide) (by decide) (by decide) (by decide) (by decide) 25 O (by decide) (by decide) (by decide) (Ent.refl _) ?_ ?_ (fun _ => ⟨O, trivial⟩) ?_
 exact (aq O (fun γ => qm O (.o (s := 0) O (by decide) .nil) O) (aq O (fun γ => qp O O (.v 0 O O .nil) (iB O O O e underlying33 sizeOf5 d.1 d.2) O) (aq O (fun γ => qp O O (.v 1 O O .nil) (ag O O isAgg5 (h0.cell 0 O e (gw (by omega)))) O) (aq O (fun γ => qp O O (.v 2 O O .nil) (fL O O underlying5 underlying149) O) (aq O (fun γ => qm O (.o (s := 0) O (by decide) .nil) O) (aq O (fun γ => qp O O (.v 4 O O .nil) (iB O O O h underlying33 sizeOf5 g.1 g.2) O) (aq O (fun γ => qp O O (.v 5 O O .nil) (ag O O isAgg5 (h0.cell 0 O h (gw (by omega)))) O) (aq O (fun γ => qp O O (.v 6 O O .nil) (fL O O underlying5 underlying149) O) (aq O (fun γ => qp O O (.v 7 O O .nil) (oz O O O (by decide)) O) (aq O (fun γ => qp O O (.v 3 O O (.v 8 O O .nil)) (mT O O O) O) (aq O (fun γ => qm O (.o (s := 0) O (by decide) .nil) O) (aq O (fun γ => qp O O (.v 10 O O .nil) (iB O O O a underlying33 sizeOf5 k.1 k.2) O) (aq O (fun γ => qp O O (.v 11 O O .nil) (ag O O isAgg5 (h0.cell 0 O a (gw (by omega)))) O) (aq O (fun γ => qp O O (.v 12 O O .nil) (fL O O underlying5 underlying149) O) (aq O (fun γ => qp O O (.v 13 O O .nil) (oz O O O (by decide)) O) (aq O (fun γ => qp O O (.v 9 O O (.v 14 O O .nil)) (mT O O O) O) (aq O (fun γ => qm O (.o (s := 0) O (by decide) .nil) O) (aq O (fun γ => qp O O (.v 16 O O .nil) (iB O O O c underlying33 sizeOf5 b.1 b.2) O) (aq O (fun γ => qp O O (.v 17 O O .nil) (ag O O isAgg5 (h0.cell 0 O c (gw (by omega)))) O) (aq O (fun γ => qp O O (.v 18 O O .nil) (fL O O underlying5 underlying149) O) (aq O (fun γ => qp O O (.v 19 O O .nil) (oz O O O (by decide)) O) (aq O (fun γ => qp O O (.v 15 O O (.v 20 O O .nil)) (mT O O O) O) (aq O (fun γ => qp O O (.v 21 O O .nil) (cz O O) O) zA)))))))))))))))))))))))
 exact zA
 intro x
 refine aa (aA ?_)
 exact aE () O O O (.s O .n)
end Go.Proofs.YtndjkejhacfpdaaGreatDoor

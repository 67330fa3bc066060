/- Texts that lead to the law SnapPlays: G1. Conditions: as each says. -/
import Derived.Test.YtjkjlggbikeliaaGreatDoorM2
import Derived.Test.YtjkjlggbikeliaaGreatDoorProg
namespace Go.Proofs.YtjkjlggbikeliaaGreatDoor
open Go.RowKit Tryz
set_option linter.unusedVariables false
set_option linter.unusedSimpArgs false
set_option maxRecDepth 20000
set_option maxHeartbeats 20000000
theorem eP : Elt Tryz.prog 5 1 1 [.int .u8 0] := .of (.int .u8 0) (by kernel_rfl) rfl rfl rfl rfl
abbrev oj : Type := Int × Int × Int × Int × List UInt8 × Int × Int × List UInt8 × List UInt8 × List UInt8
abbrev cg : oj := ((0 : Int), (0 : Int), (0 : Int), (0 : Int), ([] : List UInt8), (0 : Int), (0 : Int), ([] : List UInt8), ([] : List UInt8), ([] : List UInt8))
abbrev ba : Type := List UInt8 × List UInt8 × Int
abbrev aj : ba := (([] : List UInt8), ([] : List UInt8), (0 : Int))
abbrev aD (x : List UInt8) : Value := str x
theorem iN : kZ Tryz.prog 9 aD := xe underlying9
abbrev aG (p : Nat) (x : List UInt8 × Int) (y : Option Addr × Nat) : List HA := [obj p 89 [.slice y.1 x.1.length y.2, .int .i64 x.2], Row 5 1 y.1 x.1.length y.2 (ao x.1)]
theorem yY : Elt Tryz.prog 9 1 16 [str ([] : List UInt8)] := .of (str ([] : List UInt8)) (by kernel_rfl) rfl rfl rfl rfl
theorem uR : Elt Tryz.prog 3 1 8 [.int .i64 0] := .of (.int .i64 0) (by kernel_rfl) rfl rfl rfl rfl
theorem zK : Elt Tryz.prog 83 1 8 [.nilFunc] := .of (.nilFunc) (by kernel_rfl) rfl rfl rfl rfl
theorem ki : Elt Tryz.prog 71 3 48 [str ([] : List UInt8), .slice none 0 0, .int .i64 0] := .of (.agg #[str ([] : List UInt8), .slice none 0 0, .int .i64 0]) (by kernel_rfl) rfl rfl rfl rfl
def V9 (_ : HA) (x : List UInt8) (r : List Value) : Prop := r = [str x]
theorem V9.up {G F : HA} (_ : Up G F) : ∀ x r, V9 G x r → V9 F x r := fun _ _ h => h
def V3 (_ : HA) (x : Int) (r : List Value) : Prop := r = [.int .i64 x]
theorem V3.up {G F : HA} (_ : Up G F) : ∀ x r, V3 G x r → V3 F x r := fun _ _ h => h
def V83 (_ : HA) (x : Option Nat) (r : List Value) : Prop := r = [fnV x]
theorem V83.up {G F : HA} (_ : Up G F) : ∀ x r, V83 G x r → V83 F x r := fun _ _ h => h
def V54 (F : HA) (x : Int × Int × Int × Int × List UInt8 × Int × Int × List UInt8 × List UInt8 × List UInt8) (r : List Value) : Prop := ∃ (a4 : Option Addr) (c4 : Nat) (a9 : Option Addr) (c9 : Nat), r = [.int .i64 x.1, .int .i64 x.2.1, .int .i64 x.2.2.1, .int .i64 x.2.2.2.1, .slice a4 x.2.2.2.2.1.length c4, .int .i64 x.2.2.2.2.2.1, .int .i64 x.2.2.2.2.2.2.1, str x.2.2.2.2.2.2.2.1, str x.2.2.2.2.2.2.2.2.1, .slice a9 x.2.2.2.2.2.2.2.2.2.length c9] ∧ (Rd F a4 (ao x.2.2.2.2.1) ∧ x.2.2.2.2.1.length ≤ c4 ∧ c4 ≤ maxLen) ∧ (Rd F a9 (ao x.2.2.2.2.2.2.2.2.2) ∧ x.2.2.2.2.2.2.2.2.2.length ≤ c9 ∧ c9 ≤ maxLen)
theorem V54.up {G F : HA} (u : Up G F) : ∀ x r, V54 G x r → V54 F x r := by
  rintro x r ⟨a4, c4, a9, c9, e, ⟨h4, k4, m4⟩, ⟨h9, k9, m9⟩⟩
  exact ⟨a4, c4, a9, c9, e, ⟨h4.up u, k4, m4⟩, ⟨h9.up u, k9, m9⟩⟩
def yS (x : Int × Int × Int × Int × List UInt8 × Int × Int × List UInt8 × List UInt8 × List UInt8) : Prop := okI .i64 x.1 ∧ okI .i64 x.2.1 ∧ okI .i64 x.2.2.1 ∧ okI .i64 x.2.2.2.1 ∧ x.2.2.2.2.1.length ≤ 140737488351232 ∧ okI .i64 x.2.2.2.2.2.1 ∧ okI .i64 x.2.2.2.2.2.2.1 ∧ x.2.2.2.2.2.2.2.1.length ≤ 140737488351232 ∧ x.2.2.2.2.2.2.2.2.1.length ≤ 140737488351232 ∧ x.2.2.2.2.2.2.2.2.2.length ≤ 140737488351232
def V71 (F : HA) (x : List UInt8 × List UInt8 × Int) (r : List Value) : Prop := ∃ (a1 : Option Addr) (c1 : Nat), r = [str x.1, .slice a1 x.2.1.length c1, .int .i64 x.2.2] ∧ (Rd F a1 (ao x.2.1) ∧ x.2.1.length ≤ c1 ∧ c1 ≤ maxLen)
theorem V71.up {G F : HA} (u : Up G F) : ∀ x r, V71 G x r → V71 F x r := by
  rintro x r ⟨a1, c1, e, ⟨h1, k1, m1⟩⟩
  exact ⟨a1, c1, e, ⟨h1.up u, k1, m1⟩⟩
def gL (F : HA) (x : List UInt8 × List UInt8 × Int) (r : List Value) : Prop := ∃ (a : Option Addr) (c : Nat), r = [str x.1, .slice a x.2.1.length c, .int .i64 x.2.2] ∧ (RdW 5 F a c (ao x.2.1) ∧ x.2.1.length ≤ c ∧ c ≤ maxLen)
def la (F : HA) (x : List UInt8 × List UInt8 × Int) (r : List Value) : Prop := ∃ (a : Option Addr) (c : Nat), r = [str x.1, .slice a x.2.1.length c, .int .i64 x.2.2] ∧ (Wrt 5 F a c ∧ x.2.1.length ≤ c ∧ c ≤ maxLen)
theorem gL.up {G F : HA} (u : UpC G F) : ∀ x r, gL G x r → gL F x r := fun x r ⟨a, c, e, h, k, m⟩ => ⟨a, c, e, h.up u, k, m⟩
theorem la.up {G F : HA} (u : UpW G F) : ∀ x r, la G x r → la F x r := fun x r ⟨a, c, e, h, k, m⟩ => ⟨a, c, e, h.up u, k, m⟩
theorem gL.rd {F : HA} : ∀ x r, gL F x r → V71 F x r := fun x r ⟨a, c, e, h, k, m⟩ => ⟨a, c, e, h.rd, k, m⟩
theorem gL.shp {F : HA} : ∀ x r, gL F x r → la (Shp F) x r := fun x r ⟨a, c, e, h, k, m⟩ => ⟨a, c, e, h.cap.shp, k, m⟩
theorem mixed : Tryz.prog.follows .mixedOrders = true := by kernel_rfl
def iW.f  : Option ((List ((List UInt8) × (List UInt8 × Int))) × List UInt8 × Int × Bool) := some (([] : List ((List UInt8) × (List UInt8 × Int))), ([] : List UInt8), 0, false)
theorem iW.calls (W : World) (F : HA)   :
    Fn Tryz.prog W 9 [] [] F (iW.f ) (fun (r : (List ((List UInt8) × (List UInt8 × Int))) × List UInt8 × Int × Bool) (y : Nat × Nat × Kps) => .pointer (some ⟨y.1, 0, none⟩)) (fun r y => [obj y.1 76 [.map (some y.2.1), str r.2.1, .int .i64 r.2.2.1, .bool r.2.2.2], aF (aB y.2.1 aD aA y.2.2) aG y.2.2 r.1]) := by
 unfold iW.f
 refine aJ 4 Tryz.func9 O Tryz.ntmps9 O ?_
 refine sr ?_
 refine va O O (nx ?_)
 refine ah (vW (ek := aD) (fp := aG) O) O O O ?_
 intro a
 refine vq (eb (v := .agg #[.map (some a), str ([] : List UInt8), .int .i64 0, .bool false]) O O (fun _ => by kernel_rfl)) O ?_
 refine ah (dL O O O) O O O ?_
 intro b
 refine va O O (ag (ae (ak ?_)))
 exact av (b, a, ([] : Kps)) O O O (.sel 0 O (.sel 0 O (.sel 0 O (.nil _))))

def gS.f  : Option (Unit) := some ()
theorem gS.calls (W : World) (F : HA) (m0 : Nat)  :
    Fn Tryz.prog W 85 [.map (some m0)] [] F (gS.f ) (fun (r : Unit) (y : Nat) => .func (.func 131) #[] #[.pointer (some ⟨y, 0, none⟩)]) (fun r y => [obj y 74 [.map (some m0)]]) := by
 unfold gS.f
 refine aJ 4 Tryz.func85 O Tryz.ntmps85 O ?_
 refine sr ?_
 refine ah (dL O O O) O O O ?_
 intro a
 refine va O O (nx ?_)
 refine vq (ky O O O) O ?_
 refine va O O (ag (ae (ak ?_)))
 exact av a O O O (.sel 0 O (.sel 0 O (.nil _)))

def cC.f (a : List ((List UInt8) × (List UInt8 × Int))) : Option (List (List UInt8)) := if (a.map (·.1)).Nodup ∧ a.length * 16 ≤ 140737488355328 ∧ ∀ p ∈ a, p.1.length ≤ 140737488351232 then some (dz a) else none
theorem cC.calls (W : World) (F : HA) (d : Nat) (a : Nat) (b : Kps) (c : List ((List UInt8) × (List UInt8 × Int))) :
    Fn Tryz.prog W 84 [.func (.func 131) #[] #[.pointer (some ⟨d, 0, none⟩)]] [obj d 74 [.map (some a)], aF (aB a aD aA b) aG b c] F (cC.f c) (fun (r : List (List UInt8)) (y : Option Addr × Nat) => .slice y.1 r.length y.2) (fun r y => [aC 9 1 (V9 tt) y.1 r y.2, obj d 74 [.map (some a)], aF (aB a aD aA b) aG b c]) := by
  unfold cC.f
  exact tc fun F => uS (V := (V9 tt)) (fun _ => O) underlying9 (fun w D0 nn => ol w D0 nn a d)

def dT.f (a : List ((List UInt8) × (List UInt8 × Int))) (c : List UInt8) (d : Int) (e : Bool) : Option (List (List UInt8)) := (gS.f).bind fun g => ((cC.f a).bind fun b => (some b))
theorem dT.calls (W : World) (F : HA) (b0 : Nat) (a : Nat) (b : Kps) (c : List ((List UInt8) × (List UInt8 × Int))) (d : List UInt8) (e : Int) (g : Bool)  :
    Fn Tryz.prog W 46 [.pointer (some ⟨b0, 0, none⟩)] [obj b0 76 [.map (some a), str d, .int .i64 e, .bool g], aF (aB a aD aA b) aG b c] F (dT.f c d e g) (fun (r : List (List UInt8)) (y : Option Addr × Nat) => .slice y.1 r.length y.2) (fun r y => [aC 9 1 (V9 tt) y.1 r y.2, obj b0 76 [.map (some a), str d, .int .i64 e, .bool g], aF (aB a aD aA b) aG b c]) := by
 unfold dT.f
 refine aJ 9 Tryz.func46 O Tryz.ntmps46 O ?_
 refine sr ?_
 refine va O O (nx ?_)
 refine vm O O ?_
 refine vn O O ?_
 refine vq (aw O O underlying76 O O sizeOf74 O) O ?_
 refine vq (ai O O isAgg74 (.obj 0 O O)) O ?_
 refine am (fun l j => ?_)
 refine ah (ar (vs := [.map (some a)]) (cap := []) (A := []) (rst := [obj b0 76 [.map (some a), str d, .int .i64 e, .bool g], aF (aB a aD aA b) aG b c, F]) O O O O O O call85 (.sel 0 O (.sel 0 O (.sel 0 O (.nil _)))) (gS.calls _ _ a ) j) O O O ?_
 intro h
 refine am (fun m k => ?_)
 refine ah (ar (vs := [.func (.func 131) #[] #[.pointer (some ⟨h, 0, none⟩)]]) (cap := []) (A := [obj h 74 [.map (some a)], aF (aB a aD aA b) aG b c]) (rst := [obj b0 76 [.map (some a), str d, .int .i64 e, .bool g], F]) O O O O O O call84 (.sel 0 O (.sel 1 O (.sel 0 O (.sel 0 O (.nil _))))) (cC.calls _ _ h a b c ) k) O O O ?_
 intro i
 refine va O O (ag (ae (ak ?_)))
 exact av (i.1, i.2) O O O (.sel 0 O (.sel 2 O (.sel 1 O (.sel 1 O (.nil _)))))

def eO.f (x0 : List UInt8) (x1 : List UInt8) : Option (Bool) := some (Lib.hasPrefix x0 x1)
theorem eO.calls (W : World) (F : HA) (x0 : List UInt8) (x1 : List UInt8)  :
    Fn Tryz.prog W 126 [str x0, str x1] [] F (eO.f x0 x1) (fun (r : Bool) (y : Unit) => .bool r) (fun r y => []) := by
  unfold eO.f
  exact ye (fun w => Any.stringslite_HasPrefix yZ ⟨x0.toArray⟩ ⟨x1.toArray⟩ w)

def eN.f (x0 : List UInt8) (x1 : List UInt8) : Option (List UInt8 × Bool) := (eO.f x0 x1).bind fun a => (if (!a) = true then (some (x0, false)) else (if 0 ≤ (x1.length : Int) ∧ (x1.length : Int) ≤ (x0.length : Int) ∧ (x0.length : Int) ≤ (x0.length : Int) then (some (cut x0 (x1.length : Int) (x0.length : Int), true)) else none))
theorem eN.calls (W : World) (F : HA) (x0 : List UInt8) (x1 : List UInt8)  :
    Fn Tryz.prog W 105 [str x0, str x1] [] F (eN.f x0 x1) (fun (r : List UInt8 × Bool) (y : Unit) => .tuple #[str r.1, .bool r.2]) (fun r y => []) := by
 unfold eN.f
 refine aJ 15 Tryz.func105 O Tryz.ntmps105 O ?_
 refine sr ?_
 refine va O O ?_
 refine va O O (ag (ae (ap (sr ?_))))
 refine vm O O ?_
 refine vm O O ?_
 refine am (fun c a => ?_)
 refine ah (ar (vs := [str x0, str x1]) (cap := []) (A := []) (rst := [F]) O O O O O O call126 (.sel 0 O (.nil _)) (eO.calls _ _ x0 x1 ) a) O O O ?_
 intro d
 refine vq (fE O O) O (ag (ae ?_))
 refine aT O (fun e => ?_) (fun g => ?_)
 refine sr ?_
 refine vm O O ?_
 refine va O O ?_
 refine va O O (ag (ae (ak ?_)))
 refine ax ?_
 exact av () O O O (.sel 0 O (.nil _))
 refine au ?_
 refine ae (sr ?_)
 refine vm O O ?_
 refine vm O O ?_
 refine vq (iK O O O underlying9) O ?_
 refine aQ (fun b => ?_)
 refine vq (vV (lo' := (x1.length : Int)) (hi' := (x0.length : Int)) O O O O underlying9 (.inl ⟨O, O⟩) (.inr ⟨_, O⟩) b) O ?_
 refine va O O ?_
 refine va O O (ag (ae (ak ?_)))
 exact av () O O O (.sel 0 O (.nil _))

def fR.f (x0 : List UInt8) (x1 : List UInt8) : Option (List UInt8 × Bool) := (eN.f x0 x1).bind fun a => (some (a.1, a.2))
theorem fR.calls (W : World) (F : HA) (x0 : List UInt8) (x1 : List UInt8)  :
    Fn Tryz.prog W 65 [str x0, str x1] [] F (fR.f x0 x1) (fun (r : List UInt8 × Bool) (y : Unit) => .tuple #[str r.1, .bool r.2]) (fun r y => []) := by
 unfold fR.f
 refine aJ 11 Tryz.func65 O Tryz.ntmps65 O ?_
 refine sr ?_
 refine va O O ?_
 refine va O O (nx ?_)
 refine vm O O ?_
 refine vm O O ?_
 refine am (fun b a => ?_)
 refine ah (ar (vs := [str x0, str x1]) (cap := []) (A := []) (rst := [F]) O O O O O O call105 (.sel 0 O (.nil _)) (eN.calls _ _ x0 x1 ) a) O O O ?_
 intro c
 refine vq (bh O O O) O ?_
 refine vq (bh O O O) O ?_
 refine va O O ?_
 refine va O O (ag (ae (ak ?_)))
 exact av () O O O (.sel 0 O (.nil _))

def ip.f (x0 : List UInt8) (x1 : List UInt8) : Option (List UInt8) := if x0.length ≤ 9223372036854775807 ∧ x1.length < 4294967281 ∧ ∀ b ∈ x1, b.toNat < 128 then some (Lib.trimS x0 x1) else none
theorem ip.calls (W : World) (F : HA) (x0 : List UInt8) (x1 : List UInt8)  :
    Fn Tryz.prog W 66 [str x0, str x1] [] F (ip.f x0 x1) (fun (r : List UInt8) (y : Unit) => str r) (fun r y => []) := by
  unfold ip.f
  exact oZ (fun h => rK (fun w => Any.strings_Trim_ascii za (by intro w; kernel_rfl) (by kernel_rfl) ⟨x0.toArray⟩ ⟨x1.toArray⟩ w (by simpa [ByteArray.size] using h.1) (by simpa [ByteArray.size] using h.2.1) (fun j b hb => h.2.2 b (List.mem_of_getElem? hb))))

def fS.f (x0 : List UInt8) (x1 : Int) (x2 : Int) : Option (Int × Bool) := if x1 = 10 ∧ x2 = 64 ∧ x0.length ≤ 281474976710656 then some (mI x0) else none
theorem fS.calls (W : World) (F : HA) (x0 : List UInt8) (x1 : Int) (x2 : Int) (hgl : Glb Tryz.prog F) :
    Fn Tryz.prog W 67 [str x0, .int .i64 x1, .int .i64 x2] [] F (fS.f x0 x1 x2) (fun (r : Int × Bool) (y : Nat) => .tuple #[.int .u64 r.1, rm r.2 203 y]) (fun r y => []) := by
  unfold fS.f
  exact oZ (fun h => by
    obtain ⟨rfl, rfl, h0⟩ := h
    have hs : (ByteArray.mk x0.toArray).size ≤ 281474976710656 := by simpa [ByteArray.size] using h0
    exact vX hgl ⟨by kernel_rfl, by kernel_rfl⟩ (fun v hv w => (Any.strconv_ParseUint_10_at64_ok uT ⟨x0.toArray⟩ (by omega) v hv w).mono fun e w' ⟨a, b⟩ => ⟨a, b.imp id fun c => ⟨_, _, c⟩⟩) (fun hv tp p w hw => (Any.strconv_ParseUint_10_at64_syntax_var uT ⟨x0.toArray⟩ hs hv tp p w hw).mono fun e w' ⟨N, a, _, _, b⟩ => ⟨N, a, b⟩) (fun hv tp p w hw => (Any.strconv_ParseUint_10_at64_range_var uT ⟨x0.toArray⟩ hs hv tp p w hw).mono fun e w' ⟨N, a, _, _, b⟩ => ⟨N, a, b⟩))

def iG.f (x0 : List UInt8) : Option (Int × Bool) := (fR.f x0 ([115, 110, 97, 112, 45] : List UInt8)).bind fun b => ((if ((!b.2) || (!decide ((b.1.length : Int) = (19 : Int)))) = true then (some true) else ((ip.f b.1 ([48, 49, 50, 51, 52, 53, 54, 55, 56, 57] : List UInt8)).bind fun c => (some (!decide (c = ([] : List UInt8)))))).bind fun d => (if d = true then (some (0, false)) else ((fS.f b.1 (10 : Int) (64 : Int)).bind fun a => (if (((!a.2) || (decide (a.1 < (1 : Int)))) || (decide ((4611686018427387904 : Int) < a.1))) = true then (some (0, false)) else (some (IntKind.i64.wrap a.1, true))))))
theorem iG.calls (W : World) (F : HA) (x0 : List UInt8) (hgl : Glb Tryz.prog F) :
    Fn Tryz.prog W 24 [str x0] [] F (iG.f x0) (fun (r : Int × Bool) (y : Unit) => .tuple #[.int .i64 r.1, .bool r.2]) (fun r y => []) := by
 unfold iG.f
 refine aJ 42 Tryz.func24 O Tryz.ntmps24 O ?_
 refine sr ?_
 refine va O O ?_
 refine va O O (nx ?_)
 refine vm O O ?_
 refine am (fun c k => ?_)
 refine ah (ar (vs := [str x0, str ([115, 110, 97, 112, 45] : List UInt8)]) (cap := []) (A := []) (rst := [F]) O O O O O O call65 (.sel 0 O (.nil _)) (fR.calls _ _ x0 ([115, 110, 97, 112, 45] : List UInt8) ) k) O O O ?_
 intro z
 refine vm O O ?_
 refine vq (bh O O O) O ?_
 refine vq (bh O O O) O ?_
 refine va O O ?_
 refine va O O (ag (ae (ap (sr ?_))))
 refine vm O O ?_
 refine vq (fE O O) O ?_
 refine vm O O ?_
 refine az (b := !c.2) (fun o => RQ.sub (E' := [(4, str c.1)]) ⟨O, trivial⟩ (aS O O)) O O O O O ?_
 refine az (b := !c.2) (fun d => RQ.sub (E' := [(16, str c.1)]) ⟨aZ O d, trivial⟩ (iK O O O underlying9)) O O O O O ?_
 refine az (b := !c.2) (fun e => RQ.sub (E' := [(17, .int .i64 (c.1.length : Int))]) ⟨aZ O e, trivial⟩ (cz O O O)) O O O O O ?_
 refine vq (hP O O O) O ?_
 refine vm O O ?_
 refine dk 4 (S := Bool) (Unit) (fun s y => [(4, str c.1), (24, .bool s)]) (fun s y => [F]) ?_ ?_
 refine eI (fun l => ?_) (fun g => ?_)
 rw [l]
 refine aI O O O O O O ?_
 refine aI O O O O O O ?_
 refine aI O O O O O O ?_
 refine vq (bL O O O O O) O (ag ?_)
 exact aM (s := true) () ⟨O, O, trivial⟩ (.sel 0 O (.nil _))
 rw [g]
 refine aO (aS O O) O O O O O O ?_
 refine am (fun n m => ?_)
 refine fk (ar (vs := [str c.1, str ([48, 49, 50, 51, 52, 53, 54, 55, 56, 57] : List UInt8)]) (cap := []) (A := []) (rst := [F]) O O O O O O call66 (.sel 0 O (.nil _)) (ip.calls _ _ c.1 ([48, 49, 50, 51, 52, 53, 54, 55, 56, 57] : List UInt8) ) m) O O O O O O ?_
 intro aa
 refine aO (pa O O O) O O O O O O ?_
 refine vq (bL O O O O O) O (ag ?_)
 exact aM (s := !decide (n = ([] : List UInt8))) () ⟨O, O, trivial⟩ (.sel 0 O (.nil _))
 intro ab ad
 refine ag (ae ?_)
 refine aT O (fun t => ?_) (fun u => ?_)
 refine sr ?_
 refine va O O ?_
 refine va O O (ag (ae (ak ?_)))
 refine ax ?_
 exact av () O O O (.sel 0 O (.nil _))
 refine au ?_
 refine ae (sr ?_)
 refine vm O O ?_
 refine am (fun a h => ?_)
 refine ah (ar (vs := [str c.1, .int .i64 10, .int .i64 64]) (cap := []) (A := []) (rst := [F]) O O O O O O call67 (.sel 0 O (.nil _)) (fS.calls _ _ c.1 (10 : Int) (64 : Int) (hgl.lend 0 O)) h) O O O ?_
 intro v
 refine vm O O ?_
 refine vq (bh O O O) O ?_
 refine vq (bh O O O) O ?_
 refine va O O ?_
 refine va O O (ag (ae (ap (sr ?_))))
 refine vm O O ?_
 refine vq (xY O O underlying113) O ?_
 refine vm O O ?_
 refine az (b := !a.2) (fun p => RQ.sub (E' := [(6, .int .u64 a.1)]) ⟨O, trivial⟩ (aS O O)) O O O O O ?_
 refine az (b := !a.2) (fun i => RQ.sub (E' := [(33, .int .u64 a.1)]) ⟨aZ O i, trivial⟩ (bN O O O)) O O O O O ?_
 refine vq (hP O O O) O ?_
 refine vm O O ?_
 refine az (b := (!a.2) || (decide (a.1 < (1 : Int)))) (fun q => RQ.sub (E' := [(6, .int .u64 a.1)]) ⟨O, trivial⟩ (aS O O)) O O O O O ?_
 refine az (b := (!a.2) || (decide (a.1 < (1 : Int)))) (fun j => RQ.sub (E' := [(37, .int .u64 a.1)]) ⟨aZ O j, trivial⟩ (dw O O O)) O O O O O ?_
 refine vq (hP O O O) O (ag (ae ?_))
 refine aT O (fun w => ?_) (fun x => ?_)
 refine sr ?_
 refine va O O ?_
 refine va O O (ag (ae (ak ?_)))
 refine ax ?_
 exact av () O O O (.sel 0 O (.nil _))
 refine au ?_
 refine ae (sr ?_)
 refine vm O O ?_
 refine vq (dy O O underlying111 underlying3) O ?_
 refine va O O ?_
 refine va O O (ag (ae (ak ?_)))
 exact av () O O O (.sel 0 O (.nil _))

def di.l0 (b : List (List UInt8)) : Nat → List Int → Int → Option (List Int)
  | 0, _, _ => none
  | k + 1, d, a => if a < (b.length : Int) then (if 0 ≤ a ∧ a < (b.length : Int) then ((iG.f (b.getD a.toNat ([] : List UInt8))).bind fun c => (if c.2 = true then (if (d.length + ([c.1] : List Int).length) * 8 ≤ 140737488355328 then (di.l0 b k (d ++ ([c.1] : List Int)) (IntKind.i64.wrap (a + 1))) else none) else (di.l0 b k d (IntKind.i64.wrap (a + 1))))) else none) else (some d)
def di.f (k : Nat) (a : List ((List UInt8) × (List UInt8 × Int))) (b : List UInt8) (c : Int) (d : Bool) : Option (List Int) := ((dT.f a b c d).bind fun e => (di.l0 e k ([] : List Int) 0)).bind fun g => (some g)
theorem di.calls (W : World) (F : HA) (k : Nat) (b0 : Nat) (a : Nat) (b : Kps) (c : List ((List UInt8) × (List UInt8 × Int))) (d : List UInt8) (e : Int) (g : Bool) (hgl : Glb Tryz.prog F) :
    Fn Tryz.prog W 14 [.pointer (some ⟨b0, 0, none⟩)] [obj b0 76 [.map (some a), str d, .int .i64 e, .bool g], aF (aB a aD aA b) aG b c] F (di.f k c d e g) (fun (r : List Int) (y : Option Addr × Nat) => .slice y.1 r.length y.2) (fun r y => [aC 3 1 (V3 tt) y.1 r y.2, obj b0 76 [.map (some a), str d, .int .i64 e, .bool g], aF (aB a aD aA b) aG b c]) := by
 unfold di.f
 refine aJ 27 Tryz.func14 O Tryz.ntmps14 O ?_
 refine sr ?_
 refine va O O (nx ?_)
 refine va O O (ag (ae ?_))
 refine bO (S := List Int) (Option Addr × Nat) (fun s y => [(3, .slice y.1 s.length y.2)]) (fun s y => [obj b0 76 [.map (some a), str d, .int .i64 e, .bool g], aC 3 1 (V3 tt) y.1 s y.2, aF (aB a aD aA b) aG b c, F]) ?_ ?_
 refine sr ?_
 refine vm O O ?_
 refine am (fun j ad => ?_)
 refine ah (ar (vs := [.pointer (some ⟨b0, 0, none⟩)]) (cap := []) (A := [obj b0 76 [.map (some a), str d, .int .i64 e, .bool g], aF (aB a aD aA b) aG b c]) (rst := [F]) O O O O O O call46 (.sel 0 O (.sel 0 O (.sel 0 O (.nil _)))) (dT.calls _ _ b0 a b c d e g ) ad) O O O ?_
 intro m
 refine vq (bi O O O underlying90) O ?_
 refine vm O O (ag (ae ?_))
 refine aK ?_
 refine bX (S := List Int × Int) (Option Addr × Nat) (fun k s => di.l0 j k s.1 s.2) (fun s y => [(3, .slice y.1 s.1.length y.2), (9, .slice m.1 j.length m.2), (10, .int .i64 (j.length : Int)), (11, .int .i64 s.2)]) (fun s y => [obj b0 76 [.map (some a), str d, .int .i64 e, .bool g], aC 3 1 (V3 tt) y.1 s.1 y.2, aC 9 1 (V9 tt) m.1 j m.2, aF (aB a aD aA b) aG b c, F]) (fun _ => by rw [di.l0]) ?_ k (([] : List Int), 0) (none, 0) ⟨O, O, O, O, trivial⟩ (.sel 1 O (.rowV_nil (.sel 0 O (.sel 0 O (.sel 0 O (.nil _))))))
 intro k h n
 refine cL (by rw [di.l0]) ?_
 refine sr ?_
 refine vq (bN O O O) O (ag (ae (ap ?_)))
 refine aL O (fun a0 => ?_) (fun a1 => ?_)
 refine au ?_
 refine ae (ap ?_)
 refine aK ?_
 refine sr ?_
 refine bd 2 O (fun u o => ?_)
 refine aQ (fun q => ?_)
 refine dP 2 O o O (i := h.2.toNat) (by omega) ([] : List UInt8) (fun a2 al a3 v w af hcell19v => ?_)
 obtain rfl := w
 refine vq (ct O O O v underlying90 sizeOf9 q.1 q.2) O ?_
 refine vq (ai O O isAgg9 (hcell19v 2 O 0 _ O)) O ?_
 refine va O O (nx ?_)
 refine vm O O ?_
 refine am (fun l x => ?_)
 refine ah (ar (vs := [str (j.getD h.2.toNat ([] : List UInt8))]) (cap := []) (A := []) (rst := [obj b0 76 [.map (some a), str d, .int .i64 e, .bool g], aC 3 1 (V3 tt) n.1 h.1 n.2, Row 9 1 m.1 j.length m.2 u.flatten, aF (aB a aD aA b) aG b c, F]) O O O O O O call24 (.sel 0 O (.sel 0 O (.sel 0 O (.sel 0 O (.sel 0 O (.nil _)))))) (iG.calls _ _ (j.getD h.2.toNat ([] : List UInt8)) (hgl.lend 4 O)) x) O O O ?_
 intro a4
 refine vm O O ?_
 refine vq (bh O O O) O ?_
 refine vq (bh O O O) O ?_
 refine va O O ?_
 refine va O O (nx ?_)
 refine vm O O (ag (ae ?_))
 refine aT O (fun a5 => ?_) (fun a6 => ?_)
 refine aE ?_
 refine vm O O ?_
 refine vm O O ?_
 have p : bE 1 (V3 tt) ([l.1] : List Int) [[.int .i64 l.1]] := ⟨⟨rfl, aY (by rfl), rfl⟩, trivial⟩
 refine ah (lK (V := (V3 tt)) (xs := ([l.1] : List Int)) [[.int .i64 l.1]] O O underlying23 uR O (by kernel_rfl) O p O O) O O O ?_
 intro a7
 refine bd 2 O (fun an z => ?_)
 refine aQ (fun aa => ?_)
 refine ah (gM 2 O O O underlying23 uR O z (lb.row p 0 O) aa) O O O ?_
 intro t
 refine va O O (ag (bb (ae (aE ?_))))
 refine vq (bj O O O) O ?_
 refine vm O O (ag ?_)
 exact bu (s := (h.1 ++ ([l.1] : List Int), IntKind.i64.wrap (h.2 + 1))) (t.1, t.2) ⟨O, O, O, O, trivial⟩ (.sel 1 O (.sel 1 O (.sel' 1 O (aC.mk o) (.sel 1 O (.sel 1 O (.nil _))))))
 refine au ?_
 refine bb (ae (aE ?_))
 refine vq (bj O O O) O ?_
 refine vm O O (ag ?_)
 exact bu (s := (h.1, IntKind.i64.wrap (h.2 + 1))) (n.1, n.2) ⟨O, O, O, O, trivial⟩ (.sel 0 O (.sel 0 O (.sel' 0 O (aC.mk o) (.sel 0 O (.sel 0 O (.nil _))))))
 refine ck ?_
 refine bQ ?_
 refine bY ?_
 refine bR ?_
 exact aM (s := h.1) (n.1, n.2) ⟨O, trivial⟩ (.sel 0 O (.sel 0 O (.sel 1 O (.sel 1 O (.nil _)))))
 intro a8 ab
 refine sr ?_
 refine vm O O ?_
 refine va O O (ag (ae (ak ?_)))
 exact av (ab.1, ab.2) O O O (.sel 1 O (.sel 0 O (.sel 0 O (.sel 0 O (.nil _)))))

def io.f (x0 : Int) : Option (List UInt8) := if -9223372036854775808 ≤ x0 ∧ x0 ≤ 9223372036854775807 then some (Lib.itoa x0) else none
theorem io.calls (W : World) (F : HA) (x0 : Int) (hgl : Glb Tryz.prog F) :
    Fn Tryz.prog W 43 [.int .i64 x0] [] F (io.f x0) (fun (r : List UInt8) (y : Unit) => str r) (fun r y => []) := by
  unfold io.f
  exact oZ (fun h => yf hgl (fun w ht => Any.strconv_Itoa zb x0 h.1 h.2 w ht))

def gR.f (x0 : List UInt8) (x1 : Int) : Option (List UInt8) := if 0 ≤ x1 ∧ x0.length * x1.toNat ≤ 140737488355328 ∧ x1 ≤ 9223372036854775807 then some (Lib.repeatL x0 x1.toNat) else none
theorem gR.calls (W : World) (F : HA) (x0 : List UInt8) (x1 : Int)  :
    Fn Tryz.prog W 44 [str x0, .int .i64 x1] [] F (gR.f x0 x1) (fun (r : List UInt8) (y : Unit) => str r) (fun r y => []) := by
  unfold gR.f
  exact oZ (fun h => by
    obtain ⟨n, rfl⟩ := Int.eq_ofNat_of_zero_le h.1
    exact rK (fun w => Any.strings_Repeat mJ zc ⟨x0.toArray⟩ n w (by have := h.2.2; omega) (by simpa [ByteArray.size] using h.2.1)))

def fY.f (x0 : Int) : Option (List UInt8 × Int) := if ((decide (x0 < (1 : Int))) || (decide ((4611686018427387904 : Int) < x0))) = true then (some (([] : List UInt8), 1)) else ((io.f x0).bind fun a => ((gR.f ([48] : List UInt8) (IntKind.i64.wrap (19 - (a.length : Int)))).bind fun b => (if ([115, 110, 97, 112, 45] : List UInt8).length + b.length ≤ 9223372036854775807 then (if (([115, 110, 97, 112, 45] : List UInt8) ++ b).length + a.length ≤ 9223372036854775807 then (some ((([115, 110, 97, 112, 45] : List UInt8) ++ b) ++ a, 0)) else none) else none)))
theorem fY.calls (W : World) (F : HA) (x0 : Int) (hgl : Glb Tryz.prog F) :
    Fn Tryz.prog W 11 [.int .i64 x0] [] F (fY.f x0) (fun (r : List UInt8 × Int) (y : Unit) => .tuple #[str r.1, .int .i64 r.2]) (fun r y => []) := by
 unfold fY.f
 refine aJ 20 Tryz.func11 O Tryz.ntmps11 O ?_
 refine sr ?_
 refine va O O ?_
 refine va O O (ag (ae (ap (sr ?_))))
 refine vm O O ?_
 refine vq (bN O O O) O ?_
 refine vm O O ?_
 refine az (b := decide (x0 < (1 : Int))) (fun i => RQ.sub (E' := [(0, .int .i64 x0)]) ⟨O, trivial⟩ (aS O O)) O O O O O ?_
 refine az (b := decide (x0 < (1 : Int))) (fun a => RQ.sub (E' := [(8, .int .i64 x0)]) ⟨aZ O a, trivial⟩ (dw O O O)) O O O O O ?_
 refine vq (hP O O O) O (ag (ae ?_))
 refine aT O (fun j => ?_) (fun k => ?_)
 refine sr ?_
 refine va O O ?_
 refine va O O (ag (ae (ak ?_)))
 refine ax ?_
 exact av () O O O (.sel 0 O (.nil _))
 refine au ?_
 refine ae (sr ?_)
 refine vm O O ?_
 refine am (fun d e => ?_)
 refine ah (ar (vs := [.int .i64 x0]) (cap := []) (A := []) (rst := [F]) O O O O O O call43 (.sel 0 O (.nil _)) (io.calls _ _ x0 (hgl.lend 0 O)) e) O O O ?_
 intro l
 refine va O O (nx ?_)
 refine vm O O ?_
 refine vq (iK O O O underlying9) O ?_
 refine vq (ft O O O) O ?_
 refine am (fun m g => ?_)
 refine ah (ar (vs := [str ([48] : List UInt8), .int .i64 (IntKind.i64.wrap (19 - (d.length : Int)))]) (cap := []) (A := []) (rst := [F]) O O O O O O call44 (.sel 0 O (.nil _)) (gR.calls _ _ ([48] : List UInt8) (IntKind.i64.wrap (19 - (d.length : Int))) ) g) O O O ?_
 intro n
 refine aQ (fun h => ?_)
 refine vq (qZ O O O h) O ?_
 refine vm O O ?_
 refine aQ (fun c => ?_)
 refine vq (qZ O O O c) O ?_
 refine va O O ?_
 refine va O O (ag (ae (ak ?_)))
 exact av () O O O (.sel 0 O (.nil _))

def gN.f (x0 : List UInt8) : Option (List UInt8) := if 0 ≤ (0 : Int) ∧ (0 : Int) ≤ (x0.length : Int) ∧ (x0.length : Int) * 1 ≤ 140737488355328 then (if ((List.replicate (0 : Int).toNat (0 : UInt8)).length + x0.length) * 1 ≤ 140737488355328 then (some ((List.replicate (0 : Int).toNat (0 : UInt8)) ++ x0)) else none) else none
theorem gN.calls (W : World) (F : HA) (a0 : Option Addr) (c0 : Nat) (x0 : List UInt8) (h0 : Rd F a0 (ao x0)) (d : x0.length ≤ c0) (e : c0 ≤ maxLen) :
    Fn Tryz.prog W 70 [.slice a0 x0.length c0] [] F (gN.f x0) (fun (r : List UInt8) (y : Option Addr × Nat) => .slice y.1 r.length y.2) (fun r y => [Row 5 1 y.1 r.length y.2 (ao r)]) := by
 unfold gN.f
 refine aJ 8 Tryz.func70 O Tryz.ntmps70 O ?_
 refine sr ?_
 refine va O O (nx ?_)
 refine vm O O ?_
 refine vq (bi O O O underlying25) O ?_
 refine aQ (fun a => ?_)
 refine ah (me O O O underlying25 eP a.1 a.2.1 a.2.2) O O O ?_
 intro g
 refine vm O O ?_
 refine aQ (fun c => ?_)
 refine ah (dd 0 O O O underlying25 eP O (h0.rds 0 O) c) O O O ?_
 intro b
 refine va O O (ag (ae (ak ?_)))
 exact av (b.1, b.2) O O O (.sel 0 O (.sel 0 O (.nil _)))

def fb.f (a : List ((List UInt8) × (List UInt8 × Int))) (c : List UInt8) (d : Int) (e : Bool) (x1 : List UInt8) : Option (List UInt8 × Int) := if (ay a x1).isSome = true then ((gN.f (((ay a x1).getD (([] : List UInt8), (0 : Int))).1)).bind fun b => (some (b, 0))) else (some (([] : List UInt8), 8))
theorem fb.calls (W : World) (F : HA) (b0 : Nat) (d : Nat) (b : Kps) (a : List ((List UInt8) × (List UInt8 × Int))) (e : List UInt8) (g : Int) (h : Bool) (x1 : List UInt8)  :
    Fn Tryz.prog W 86 [.pointer (some ⟨b0, 0, none⟩), str x1] [obj b0 76 [.map (some d), str e, .int .i64 g, .bool h], aF (aB d aD aA b) aG b a] F (fb.f a e g h x1) (fun (r : List UInt8 × Int) (y : Option Addr × Nat) => .tuple #[.slice y.1 r.1.length y.2, .int .i64 r.2]) (fun r y => [Row 5 1 y.1 r.1.length y.2 (ao r.1), obj b0 76 [.map (some d), str e, .int .i64 g, .bool h], aF (aB d aD aA b) aG b a]) := by
 unfold fb.f
 refine aJ 20 Tryz.func86 O Tryz.ntmps86 O ?_
 refine sr ?_
 refine va O O ?_
 refine va O O (ag (ae (ap ?_)))
 refine iq (fun i => ?_) (fun i => ?_)
 refine aE ?_
 refine vm O O ?_
 refine vn O O ?_
 refine vq (aw O O underlying76 O O sizeOf74 O) O ?_
 refine vq (ai O O isAgg74 (.obj 0 O O)) O ?_
 refine vm O O ?_
 refine vq ((ju (ek := aD) x1 (gX 1 O) i O O O underlying74 iN : RQ _ _ _ _ (.pointer (some ⟨(bt b x1), 0, none⟩)))) O ?_
 refine va O O (ag (ae (ap (sr ?_))))
 refine vm O O ?_
 refine vq (pb O O O underlying87) O (ag (ae ?_))
 refine iy O ?_
 refine au ?_
 refine ae (ap ?_)
 refine ia (v := ((ay a x1).getD (([] : List UInt8), (0 : Int)))) 1 O (ew i) (fun c => ?_)
 refine fT (H' := [obj (bt b x1) 89 [.slice c.1 ((((ay a x1).getD (([] : List UInt8), (0 : Int))).1).length) c.2, .int .i64 (((ay a x1).getD (([] : List UInt8), (0 : Int))).2)], Row 5 1 c.1 (((ay a x1).getD (([] : List UInt8), (0 : Int))).1).length c.2 (ao (((ay a x1).getD (([] : List UInt8), (0 : Int))).1)), fK (aB d aD aA b) aG b a x1, obj b0 76 [.map (some d), str e, .int .i64 g, .bool h], F]) (Ent.refl _) ?_
 refine aE ?_
 refine vm O O ?_
 refine vn O O ?_
 refine vq (aw O O underlying89 O O sizeOf25 O) O ?_
 refine vq (ai O O isAgg25 (.obj 0 O O)) O ?_
 refine am (fun q k => ?_)
 refine bf 1 O (fun l m n o => ?_)
 refine ah (ar (vs := [.slice c.1 ((((ay a x1).getD (([] : List UInt8), (0 : Int))).1).length) c.2]) (cap := []) (A := []) (rst := [obj (bt b x1) 89 [.slice c.1 ((((ay a x1).getD (([] : List UInt8), (0 : Int))).1).length) c.2, .int .i64 (((ay a x1).getD (([] : List UInt8), (0 : Int))).2)], Row 5 1 c.1 (((ay a x1).getD (([] : List UInt8), (0 : Int))).1).length c.2 (ao (((ay a x1).getD (([] : List UInt8), (0 : Int))).1)), fK (aB d aD aA b) aG b a x1, obj b0 76 [.map (some d), str e, .int .i64 g, .bool h], F]) O O O O O O call70 (.sel 0 O (.sel 0 O (.sel 0 O (.sel 0 O (.sel 0 O (.nil _)))))) (gN.calls _ _ c.1 c.2 (((ay a x1).getD (([] : List UInt8), (0 : Int))).1) (l.lend 1 O) m n) k) O O O ?_
 intro j
 refine va O O ?_
 refine va O O (ag (ae (ak ?_)))
 exact av (j.1, j.2) O O O (.sel 0 O (.sel 3 O (.foldF0 (x := x1) (p := (bt b x1)) (v := ((ay a x1).getD (([] : List UInt8), (0 : Int)))) (c.1, c.2) O (ew i) (.sel 2 O (.sel 0 O (.sel 0 O (.sel 0 O (.nil _))))))))
 refine aE ?_
 refine vm O O ?_
 refine vn O O ?_
 refine vq (aw O O underlying76 O O sizeOf74 O) O ?_
 refine vq (ai O O isAgg74 (.obj 0 O O)) O ?_
 refine vm O O ?_
 refine vq (jv (ek := aD) x1 (gX 1 O) (iz i) O O O underlying74 iN zeroValue87) O ?_
 refine va O O (ag (ae (ap (sr ?_))))
 refine vm O O ?_
 refine vq (mK O O O underlying87) O (ag (ae ?_))
 refine gY O ?_
 refine sr ?_
 refine va O O ?_
 refine va O O (ag (ae (ak ?_)))
 refine ax ?_
 exact av (none, 0) O O O (.row_nil (.sel 0 O (.sel 0 O (.sel 0 O (.nil _)))))

def gO.f (x0 : List UInt8) : Option (Int) := if 0 ≤ (0 : Int) ∧ (0 : Int) < (x0.length : Int) then (if 0 ≤ (1 : Int) ∧ (1 : Int) < (x0.length : Int) then (if 0 ≤ (2 : Int) ∧ (2 : Int) < (x0.length : Int) then (if 0 ≤ (3 : Int) ∧ (3 : Int) < (x0.length : Int) then (some (bC .or .u32 (bC .or .u32 (bC .or .u32 (IntKind.u32.wrap ((x0.getD (0 : Int).toNat 0).toNat : Int)) (IntKind.u32.wrap ((IntKind.u32.wrap ((x0.getD (1 : Int).toNat 0).toNat : Int)) * 2 ^ (min (8 : Int).toNat IntKind.u32.bits)))) (IntKind.u32.wrap ((IntKind.u32.wrap ((x0.getD (2 : Int).toNat 0).toNat : Int)) * 2 ^ (min (16 : Int).toNat IntKind.u32.bits)))) (IntKind.u32.wrap ((IntKind.u32.wrap ((x0.getD (3 : Int).toNat 0).toNat : Int)) * 2 ^ (min (24 : Int).toNat IntKind.u32.bits))))) else none) else none) else none) else none
theorem gO.calls (W : World) (F : HA) (a0 : Option Addr) (c0 : Nat) (x0 : List UInt8) (h0 : Rd F a0 (ao x0)) (z : x0.length ≤ c0) (aa : c0 ≤ maxLen) :
    Fn Tryz.prog W 171 [.slice a0 x0.length c0] [] F (gO.f x0) (fun (r : Int) (y : Unit) => .int .u32 r) (fun r y => []) := by
 unfold gO.f
 refine aJ 25 Tryz.func171 O Tryz.ntmps171 O ?_
 refine sr ?_
 refine va O O (ag (ae (ap ?_)))
 refine bv (fun d => ?_)
 obtain ⟨u, n, e⟩ := h0.pos (fc (j := (0 : Int).toNat) (by omega))
 refine bv (fun g => ?_)
 obtain ⟨w, p, h⟩ := h0.pos (fc (j := (1 : Int).toNat) (by omega))
 refine bv (fun k => ?_)
 obtain ⟨q, l, a⟩ := h0.pos (fc (j := (2 : Int).toNat) (by omega))
 refine bv (fun b => ?_)
 obtain ⟨t, m, c⟩ := h0.pos (fc (j := (3 : Int).toNat) (by omega))
 refine bp (Γ := Unit) () [[], [0], [0, 1], [0, 1, 2], [], [4], [4, 5], [4, 5, 6], [4, 5, 6, 7], rL 9, [], [10], [10, 11], [10, 11, 12], [10, 11, 12, 13], rL 15, [], [16], [16, 17], [16, 17, 18], [16, 17, 18, 19], rL 21, rL 22] [] [0, 1, 2, 3, 4, 5, 6, 7, 8, 9, 10, 11, 12, 13, 14, 15, 16, 17, 18, 19, 20, 21, 22] (fun i => [[0], [0], [0], [0], [0], [0], [0], [0], [0], [0], [0], [0], [0], [0], [0], [0], [0], [0], [0], [0], [0], [0], [0]].getD i []) (fun i => [[], [], [], [], [], [], [], [], [], [], [], [], [], [], [], [], [], [], [], [], [], [], []].getD i []) (fun γ i => [.slice a0 x0.length c0, .pointer (some ⟨u, n + (0 : Int).toNat, none⟩), .int .u8 ((x0.getD (0 : Int).toNat 0).toNat : Int), .int .u32 (IntKind.u32.wrap ((x0.getD (0 : Int).toNat 0).toNat : Int)), .slice a0 x0.length c0, .pointer (some ⟨w, p + (1 : Int).toNat, none⟩), .int .u8 ((x0.getD (1 : Int).toNat 0).toNat : Int), .int .u32 (IntKind.u32.wrap ((x0.getD (1 : Int).toNat 0).toNat : Int)), .int .u32 (IntKind.u32.wrap ((IntKind.u32.wrap ((x0.getD (1 : Int).toNat 0).toNat : Int)) * 2 ^ (min (8 : Int).toNat IntKind.u32.bits))), .int .u32 (bC .or .u32 (IntKind.u32.wrap ((x0.getD (0 : Int).toNat 0).toNat : Int)) (IntKind.u32.wrap ((IntKind.u32.wrap ((x0.getD (1 : Int).toNat 0).toNat : Int)) * 2 ^ (min (8 : Int).toNat IntKind.u32.bits)))), .slice a0 x0.length c0, .pointer (some ⟨q, l + (2 : Int).toNat, none⟩), .int .u8 ((x0.getD (2 : Int).toNat 0).toNat : Int), .int .u32 (IntKind.u32.wrap ((x0.getD (2 : Int).toNat 0).toNat : Int)), .int .u32 (IntKind.u32.wrap ((IntKind.u32.wrap ((x0.getD (2 : Int).toNat 0).toNat : Int)) * 2 ^ (min (16 : Int).toNat IntKind.u32.bits))), .int .u32 (bC .or .u32 (bC .or .u32 (IntKind.u32.wrap ((x0.getD (0 : Int).toNat 0).toNat : Int)) (IntKind.u32.wrap ((IntKind.u32.wrap ((x0.getD (1 : Int).toNat 0).toNat : Int)) * 2 ^ (min (8 : Int).toNat IntKind.u32.bits)))) (IntKind.u32.wrap ((IntKind.u32.wrap ((x0.getD (2 : Int).toNat 0).toNat : Int)) * 2 ^ (min (16 : Int).toNat IntKind.u32.bits)))), .slice a0 x0.length c0, .pointer (some ⟨t, m + (3 : Int).toNat, none⟩), .int .u8 ((x0.getD (3 : Int).toNat 0).toNat : Int), .int .u32 (IntKind.u32.wrap ((x0.getD (3 : Int).toNat 0).toNat : Int)), .int .u32 (IntKind.u32.wrap ((IntKind.u32.wrap ((x0.getD (3 : Int).toNat 0).toNat : Int)) * 2 ^ (min (24 : Int).toNat IntKind.u32.bits))), .int .u32 (bC .or .u32 (bC .or .u32 (bC .or .u32 (IntKind.u32.wrap ((x0.getD (0 : Int).toNat 0).toNat : Int)) (IntKind.u32.wrap ((IntKind.u32.wrap ((x0.getD (1 : Int).toNat 0).toNat : Int)) * 2 ^ (min (8 : Int).toNat IntKind.u32.bits)))) (IntKind.u32.wrap ((IntKind.u32.wrap ((x0.getD (2 : Int).toNat 0).toNat : Int)) * 2 ^ (min (16 : Int).toNat IntKind.u32.bits)))) (IntKind.u32.wrap ((IntKind.u32.wrap ((x0.getD (3 : Int).toNat 0).toNat : Int)) * 2 ^ (min (24 : Int).toNat IntKind.u32.bits)))), .int .u32 (bC .or .u32 (bC .or .u32 (bC .or .u32 (IntKind.u32.wrap ((x0.getD (0 : Int).toNat 0).toNat : Int)) (IntKind.u32.wrap ((IntKind.u32.wrap ((x0.getD (1 : Int).toNat 0).toNat : Int)) * 2 ^ (min (8 : Int).toNat IntKind.u32.bits)))) (IntKind.u32.wrap ((IntKind.u32.wrap ((x0.getD (2 : Int).toNat 0).toNat : Int)) * 2 ^ (min (16 : Int).toNat IntKind.u32.bits)))) (IntKind.u32.wrap ((IntKind.u32.wrap ((x0.getD (3 : Int).toNat 0).toNat : Int)) * 2 ^ (min (24 : Int).toNat IntKind.u32.bits))))].getD i undef) (fun j γ => [[F]].getD j []) (fun γ => [(2, .int .u32 (bC .or .u32 (bC .or .u32 (bC .or .u32 (IntKind.u32.wrap ((x0.getD (0 : Int).toNat 0).toNat : Int)) (IntKind.u32.wrap ((IntKind.u32.wrap ((x0.getD (1 : Int).toNat 0).toNat : Int)) * 2 ^ (min (8 : Int).toNat IntKind.u32.bits)))) (IntKind.u32.wrap ((IntKind.u32.wrap ((x0.getD (2 : Int).toNat 0).toNat : Int)) * 2 ^ (min (16 : Int).toNat IntKind.u32.bits)))) (IntKind.u32.wrap ((IntKind.u32.wrap ((x0.getD (3 : Int).toNat 0).toNat : Int)) * 2 ^ (min (24 : Int).toNat IntKind.u32.bits)))))]) mixed (by decide) (by decide) (by decide) (by decide) (by decide) (by decide) (by decide) 25 O (by decide) (by decide) (by decide) (Ent.refl _) ?_ ?_ (fun _ => ⟨O, trivial⟩) ?_
 exact (aq O (fun γ => qm O (.o (s := 0) O (by decide) .nil) O) (aq O (fun γ => qp O O (.v 0 O O .nil) (el O O O e underlying25 sizeOf5 d.1 d.2) O) (aq O (fun γ => qp O O (.v 1 O O .nil) (ai O O isAgg5 (h0.cell 0 O e (eQ (by omega)))) O) (aq O (fun γ => qp O O (.v 2 O O .nil) (dy O O underlying5 underlying170) O) (aq O (fun γ => qm O (.o (s := 0) O (by decide) .nil) O) (aq O (fun γ => qp O O (.v 4 O O .nil) (el O O O h underlying25 sizeOf5 g.1 g.2) O) (aq O (fun γ => qp O O (.v 5 O O .nil) (ai O O isAgg5 (h0.cell 0 O h (eQ (by omega)))) O) (aq O (fun γ => qp O O (.v 6 O O .nil) (dy O O underlying5 underlying170) O) (aq O (fun γ => qp O O (.v 7 O O .nil) (ra O O O (by decide)) O) (aq O (fun γ => qp O O (.v 3 O O (.v 8 O O .nil)) (pc O O O) O) (aq O (fun γ => qm O (.o (s := 0) O (by decide) .nil) O) (aq O (fun γ => qp O O (.v 10 O O .nil) (el O O O a underlying25 sizeOf5 k.1 k.2) O) (aq O (fun γ => qp O O (.v 11 O O .nil) (ai O O isAgg5 (h0.cell 0 O a (eQ (by omega)))) O) (aq O (fun γ => qp O O (.v 12 O O .nil) (dy O O underlying5 underlying170) O) (aq O (fun γ => qp O O (.v 13 O O .nil) (ra O O O (by decide)) O) (aq O (fun γ => qp O O (.v 9 O O (.v 14 O O .nil)) (pc O O O) O) (aq O (fun γ => qm O (.o (s := 0) O (by decide) .nil) O) (aq O (fun γ => qp O O (.v 16 O O .nil) (el O O O c underlying25 sizeOf5 b.1 b.2) O) (aq O (fun γ => qp O O (.v 17 O O .nil) (ai O O isAgg5 (h0.cell 0 O c (eQ (by omega)))) O) (aq O (fun γ => qp O O (.v 18 O O .nil) (dy O O underlying5 underlying170) O) (aq O (fun γ => qp O O (.v 19 O O .nil) (ra O O O (by decide)) O) (aq O (fun γ => qp O O (.v 15 O O (.v 20 O O .nil)) (pc O O O) O) (aq O (fun γ => qp O O (.v 21 O O .nil) (dA O O) O) zA)))))))))))))))))))))))
 exact zA
 intro x
 refine ae (ak ?_)
 exact av () O O O (.sel 0 O (.nil _))

def ca.l1 : Nat → Int → Int → Option (Int)
  | 0, _, _ => none
  | k + 1, a, b => if b < (8 : Int) then (if bC .and .u32 a 1 = (1 : Int) then (ca.l1 k (bC .xor .u32 (Int.fdiv a (2 ^ (min (1 : Int).toNat IntKind.u32.bits))) 2197175160) (IntKind.i64.wrap (b + 1))) else (ca.l1 k (Int.fdiv a (2 ^ (min (1 : Int).toNat IntKind.u32.bits))) (IntKind.i64.wrap (b + 1)))) else (some a)
def ca.l0 (x1 : List UInt8) : Nat → Int → Int → Option (Int)
  | 0, _, _ => none
  | k + 1, b, a => if a < (x1.length : Int) then ((if 0 ≤ a ∧ a < (x1.length : Int) then (ca.l1 k (bC .xor .u32 b (IntKind.u32.wrap ((x1.getD a.toNat 0).toNat : Int))) 0) else none).bind fun c => (ca.l0 x1 k c (IntKind.i64.wrap (a + 1)))) else (some b)
def ca.f (k : Nat) (x0 : Int) (x1 : List UInt8) : Option (Int) := (ca.l0 x1 k x0 0).bind fun a => (some a)
theorem ca.calls (W : World) (F : HA) (k : Nat) (x0 : Int) (a1 : Option Addr) (c1 : Nat) (x1 : List UInt8) (h1 : Rd F a1 (ao x1)) (q : x1.length ≤ c1) (t : c1 ≤ maxLen) :
    Fn Tryz.prog W 122 [.int .u32 x0, .slice a1 x1.length c1] [] F (ca.f k x0 x1) (fun (r : Int) (y : Unit) => .int .u32 r) (fun r y => []) := by
 unfold ca.f
 refine aJ 31 Tryz.func122 O Tryz.ntmps122 O ?_
 refine sr ?_
 refine va O O (ag (ae ?_))
 refine bO (S := Int) (Unit) (fun s y => [(0, .int .u32 s)]) (fun s y => [F]) ?_ ?_
 refine sr ?_
 refine vm O O ?_
 refine vq (bi O O O underlying25) O ?_
 refine vm O O (ag (ae ?_))
 refine aK ?_
 refine bX (S := Int × Int) (Unit) (fun k s => ca.l0 x1 k s.1 s.2) (fun s y => [(0, .int .u32 s.1), (8, .slice a1 x1.length c1), (9, .int .i64 (x1.length : Int)), (10, .int .i64 s.2)]) (fun s y => [F]) (fun _ => by rw [ca.l0]) ?_ k (x0, 0) () ⟨O, O, O, O, trivial⟩ (.sel 0 O (.nil _))
 intro k a u
 refine cL (by rw [ca.l0]) ?_
 refine sr ?_
 refine vq (bN O O O) O (ag (ae (ap ?_)))
 refine aL O (fun v => ?_) (fun w => ?_)
 refine au ?_
 refine ae ?_
 refine bO (S := Int) (Unit) (fun s y => [(0, .int .u32 s), (8, .slice a1 x1.length c1), (9, .int .i64 (x1.length : Int)), (10, .int .i64 a.2)]) (fun s y => [F]) ?_ ?_
 refine aK ?_
 refine sr ?_
 refine aQ (fun c => ?_)
 obtain ⟨h, g, d⟩ := h1.pos (fc (j := a.2.toNat) (by omega))
 refine vq (el O O O d underlying25 sizeOf5 c.1 c.2) O ?_
 refine vq (ai O O isAgg5 (h1.cell 0 O d (eQ (by omega)))) O ?_
 refine va O O (nx ?_)
 refine vm O O ?_
 refine vm O O ?_
 refine vq (dy O O underlying5 underlying170) O ?_
 refine vq (pd O O O) O ?_
 refine va O O (nx ?_)
 refine vm O O (ag (ae ?_))
 refine aK ?_
 refine bX (S := Int × Int) (Unit) (fun k s => ca.l1 k s.1 s.2) (fun s y => [(0, .int .u32 s.1), (8, .slice a1 x1.length c1), (9, .int .i64 (x1.length : Int)), (10, .int .i64 a.2), (18, .int .i64 s.2)]) (fun s y => [F]) (fun _ => by rw [ca.l1]) ?_ k (bC .xor .u32 a.1 (IntKind.u32.wrap ((x1.getD a.2.toNat 0).toNat : Int)), 0) () ⟨O, O, O, O, O, trivial⟩ (.sel 0 O (.nil _))
 intro k b i
 refine cL (by rw [ca.l1]) ?_
 refine sr ?_
 refine vq (bN O O O) O (ag (ae (ap ?_)))
 refine aL O (fun l => ?_) (fun m => ?_)
 refine au ?_
 refine ae (ap ?_)
 refine aK ?_
 refine sr ?_
 refine vm O O ?_
 refine vq (rM O O O) O ?_
 refine va O O (nx ?_)
 refine vm O O ?_
 refine vq (kL O O O (by decide)) O ?_
 refine va O O (nx ?_)
 refine vm O O ?_
 refine vq (bD O O O) O (ag (ae ?_))
 refine aL O (fun n => ?_) (fun o => ?_)
 refine aE ?_
 refine vm O O ?_
 refine vq (pd O O O) O ?_
 refine va O O (ag (bb (ae (aE ?_))))
 refine vq (bj O O O) O ?_
 refine vm O O (ag ?_)
 exact bu (s := (bC .xor .u32 (Int.fdiv b.1 (2 ^ (min (1 : Int).toNat IntKind.u32.bits))) 2197175160, IntKind.i64.wrap (b.2 + 1))) () ⟨O, O, O, O, O, trivial⟩ (.sel 0 O (.nil _))
 refine au ?_
 refine bb (ae (aE ?_))
 refine vq (bj O O O) O ?_
 refine vm O O (ag ?_)
 exact bu (s := (Int.fdiv b.1 (2 ^ (min (1 : Int).toNat IntKind.u32.bits)), IntKind.i64.wrap (b.2 + 1))) () ⟨O, O, O, O, O, trivial⟩ (.sel 0 O (.nil _))
 refine ck ?_
 refine bQ ?_
 refine bY ?_
 refine bR ?_
 refine bb ?_
 exact aM (s := b.1) () ⟨O, O, O, O, trivial⟩ (.sel 0 O (.nil _))
 intro e p
 refine aE ?_
 refine vq (bj O O O) O ?_
 refine vm O O (ag ?_)
 exact bu (s := (e, IntKind.i64.wrap (a.2 + 1))) () ⟨O, O, O, O, trivial⟩ (.sel 0 O (.nil _))
 refine ck ?_
 refine bQ ?_
 refine bY ?_
 refine bR ?_
 exact aM (s := a.1) () ⟨O, trivial⟩ (.sel 0 O (.nil _))
 intro x z
 refine sr ?_
 refine vm O O ?_
 refine va O O (ag (ae (ak ?_)))
 exact av () O O O (.sel 0 O (.nil _))

def iA.f (k : Nat) (x0 : List UInt8) (x1 : Int) : Option (List UInt8 × Int × Int) := if (((decide (x1 < (0 : Int))) || (decide ((x0.length : Int) < x1))) || (decide (IntKind.i64.wrap ((x0.length : Int) - x1) < (4 : Int)))) = true then (some (([] : List UInt8), 0, 2)) else (if 0 ≤ x1 ∧ x1 ≤ (x0.length : Int) ∧ (x0.length : Int) ≤ (x0.length : Int) then ((gO.f (cut x0 x1 (x0.length : Int))).bind fun a => (if (1048576 : Int) < IntKind.i64.wrap a then (some (([] : List UInt8), 0, 3)) else (if ((cut x0 x1 (x0.length : Int)).length : Int) < IntKind.i64.wrap (8 + (IntKind.i64.wrap a)) then (some (([] : List UInt8), 0, 2)) else (if 0 ≤ (8 : Int) ∧ (8 : Int) ≤ IntKind.i64.wrap (8 + (IntKind.i64.wrap a)) ∧ IntKind.i64.wrap (8 + (IntKind.i64.wrap a)) ≤ ((cut x0 x1 (x0.length : Int)).length : Int) then (if 0 ≤ (0 : Int) ∧ (0 : Int) ≤ (4 : Int) ∧ (4 : Int) ≤ ((cut x0 x1 (x0.length : Int)).length : Int) then ((ca.f k (4294967295 : Int) (cut (cut x0 x1 (x0.length : Int)) (0 : Int) (4 : Int))).bind fun b => ((ca.f k b (cut (cut x0 x1 (x0.length : Int)) (8 : Int) (IntKind.i64.wrap (8 + (IntKind.i64.wrap a))))).bind fun c => (if 0 ≤ (4 : Int) ∧ (4 : Int) ≤ ((cut x0 x1 (x0.length : Int)).length : Int) ∧ ((cut x0 x1 (x0.length : Int)).length : Int) ≤ ((cut x0 x1 (x0.length : Int)).length : Int) then ((gO.f (cut (cut x0 x1 (x0.length : Int)) (4 : Int) ((cut x0 x1 (x0.length : Int)).length : Int))).bind fun d => (if bC .xor .u32 (if IntKind.u32.signed then -1 else IntKind.u32.max) c = d then (if 0 ≤ (0 : Int) ∧ (0 : Int) ≤ IntKind.i64.wrap a ∧ IntKind.i64.wrap a * 1 ≤ 140737488355328 then (if ((List.replicate (0 : Int).toNat (0 : UInt8)).length + (cut (cut x0 x1 (x0.length : Int)) (8 : Int) (IntKind.i64.wrap (8 + (IntKind.i64.wrap a)))).length) * 1 ≤ 140737488355328 then (some ((List.replicate (0 : Int).toNat (0 : UInt8)) ++ (cut (cut x0 x1 (x0.length : Int)) (8 : Int) (IntKind.i64.wrap (8 + (IntKind.i64.wrap a)))), IntKind.i64.wrap (8 + (IntKind.i64.wrap a)), 0)) else none) else none) else (some (([] : List UInt8), 0, 5)))) else none))) else none) else none)))) else none)
theorem iA.calls (W : World) (F : HA) (k : Nat) (a0 : Option Addr) (c0 : Nat) (x0 : List UInt8) (x1 : Int) (h0 : Rd F a0 (ao x0)) (cs : x0.length ≤ c0) (ad : c0 ≤ maxLen) :
    Fn Tryz.prog W 132 [.slice a0 x0.length c0, .int .i64 x1] [] F (iA.f k x0 x1) (fun (r : List UInt8 × Int × Int) (y : Option Addr × Nat) => .tuple #[.slice y.1 r.1.length y.2, .int .i64 r.2.1, .int .i64 r.2.2]) (fun r y => [Row 5 1 y.1 r.1.length y.2 (ao r.1)]) := by
 unfold iA.f
 refine aJ 58 Tryz.func132 O Tryz.ntmps132 O ?_
 refine sr ?_
 refine va O O ?_
 refine va O O ?_
 refine va O O (ag (ae (ap (sr ?_))))
 refine vm O O ?_
 refine vq (bN O O O) O ?_
 refine vm O O ?_
 refine az (b := decide (x1 < (0 : Int))) (fun c2 => RQ.sub (E' := [(1, .int .i64 x1)]) ⟨O, trivial⟩ (aS O O)) O O O O O ?_
 refine az (b := decide (x1 < (0 : Int))) (fun c3 => RQ.sub (E' := [(0, .slice a0 x0.length c0)]) ⟨O, trivial⟩ (aS O O)) O O O O O ?_
 refine az (b := decide (x1 < (0 : Int))) (fun a7 => RQ.sub (E' := [(14, .slice a0 x0.length c0)]) ⟨aZ O a7, trivial⟩ (bi O O O underlying25)) O O O O O ?_
 refine az (b := decide (x1 < (0 : Int))) (fun af => RQ.sub (E' := [(13, .int .i64 x1), (15, .int .i64 (x0.length : Int))]) ⟨aZ O af, aZ O af, trivial⟩ (dw O O O)) O O O O O ?_
 refine vq (hP O O O) O ?_
 refine vm O O ?_
 refine az (b := (decide (x1 < (0 : Int))) || (decide ((x0.length : Int) < x1))) (fun c4 => RQ.sub (E' := [(0, .slice a0 x0.length c0)]) ⟨O, trivial⟩ (aS O O)) O O O O O ?_
 refine az (b := (decide (x1 < (0 : Int))) || (decide ((x0.length : Int) < x1))) (fun a8 => RQ.sub (E' := [(19, .slice a0 x0.length c0)]) ⟨aZ O a8, trivial⟩ (bi O O O underlying25)) O O O O O ?_
 refine az (b := (decide (x1 < (0 : Int))) || (decide ((x0.length : Int) < x1))) (fun c5 => RQ.sub (E' := [(1, .int .i64 x1)]) ⟨O, trivial⟩ (aS O O)) O O O O O ?_
 refine az (b := (decide (x1 < (0 : Int))) || (decide ((x0.length : Int) < x1))) (fun al => RQ.sub (E' := [(20, .int .i64 (x0.length : Int)), (21, .int .i64 x1)]) ⟨aZ O al, aZ O al, trivial⟩ (ft O O O)) O O O O O ?_
 refine az (b := (decide (x1 < (0 : Int))) || (decide ((x0.length : Int) < x1))) (fun a9 => RQ.sub (E' := [(22, .int .i64 (IntKind.i64.wrap ((x0.length : Int) - x1)))]) ⟨aZ O a9, trivial⟩ (bN O O O)) O O O O O ?_
 refine vq (hP O O O) O (ag (ae ?_))
 refine aT O (fun d4 => ?_) (fun d5 => ?_)
 refine sr ?_
 refine va O O ?_
 refine va O O ?_
 refine va O O (ag (ae (ak ?_)))
 refine ax ?_
 exact av (none, 0) O O O (.row_nil (.sel 0 O (.nil _)))
 refine au ?_
 refine ae (sr ?_)
 refine vm O O ?_
 refine vm O O ?_
 refine aQ (fun a5 => ?_)
 obtain ⟨an, a1, c1, e, a, g⟩ := ex (lo := x1) (hi := (x0.length : Int)) h0 cs a5
 refine vq (dU (l := x0) (lo' := x1) (hi' := (x0.length : Int)) O O O O underlying25 sizeOf5 (.inl ⟨O, O⟩) (.inr ⟨_, O⟩) a5 cs c1) O ?_
 refine va O O (nx ?_)
 refine vm O O ?_
 refine am (fun c bc => ?_)
 refine ah (ar (vs := [.slice an ((cut x0 x1 (x0.length : Int)).length) a1]) (cap := []) (A := []) (rst := [F]) O O O O O O call171 (.sel 0 O (.nil _)) (gO.calls _ _ an a1 (cut x0 x1 (x0.length : Int)) (e.lend 0 O) a (Nat.le_trans g ad)) bc) O O O ?_
 intro c6
 refine vq (dy O O underlying170 underlying3) O ?_
 refine va O O (ag (ae (ap (sr ?_))))
 refine vm O O ?_
 refine vq (dw O O O) O (ag (ae ?_))
 refine aL O (fun c7 => ?_) (fun c8 => ?_)
 refine sr ?_
 refine va O O ?_
 refine va O O ?_
 refine va O O (ag (ae (ak ?_)))
 refine ax ?_
 exact av (none, 0) O O O (.row_nil (.sel 0 O (.nil _)))
 refine au ?_
 refine ae (ap (sr ?_))
 refine vm O O ?_
 refine vq (bi O O O underlying25) O ?_
 refine vm O O ?_
 refine vq (bj O O O) O ?_
 refine vq (bN O O O) O (ag (ae ?_))
 refine aL O (fun c9 => ?_) (fun dl => ?_)
 refine sr ?_
 refine va O O ?_
 refine va O O ?_
 refine va O O (ag (ae (ak ?_)))
 refine ax ?_
 exact av (none, 0) O O O (.row_nil (.sel 0 O (.nil _)))
 refine au ?_
 refine ae (sr ?_)
 refine vm O O ?_
 refine vm O O ?_
 refine vq (bj O O O) O ?_
 refine aQ (fun a2 => ?_)
 obtain ⟨h, m, be, a3, bs, b0⟩ := ex (lo := (8 : Int)) (hi := IntKind.i64.wrap (8 + (IntKind.i64.wrap c))) e a a2
 refine vq (dU (l := (cut x0 x1 (x0.length : Int))) (lo' := (8 : Int)) (hi' := IntKind.i64.wrap (8 + (IntKind.i64.wrap c))) O O O O underlying25 sizeOf5 (.inr ⟨_, O⟩) (.inr ⟨_, O⟩) a2 a be) O ?_
 refine va O O (ag (ae (ap (ap ?_))))
 refine bv (fun a4 => ?_)
 obtain ⟨t, u, b1, b2, b3, b4⟩ := ex (lo := (0 : Int)) (hi := (4 : Int)) e a a4
 refine cu (fun w b5 => ?_)
 refine cu (fun n b6 => ?_)
 refine bv (fun d => ?_)
 obtain ⟨x, aa, p, b7, b8, b9⟩ := ex (lo := (4 : Int)) (hi := ((cut x0 x1 (x0.length : Int)).length : Int)) e a d
 refine cu (fun ab cd => ?_)
 refine bp (Γ := Unit) () [[], [0], [0, 1], [], rL 4, rL 5, [], [6], [0, 1, 2, 3, 4, 6, 7], rL 9] [2, 4, 8] [0, 1, 3, 5, 6, 7, 9] (fun i => [[0], [0], [], [0, 1], [], [2, 3], [0, 1, 2], [0, 1, 2], [], [3]].getD i []) (fun i => [[], [], [0, 1, 3, 6, 7], [], [0, 1, 2, 3, 6, 7], [], [], [], rL 8, []].getD i []) (fun γ i => [.slice an ((cut x0 x1 (x0.length : Int)).length) a1, .slice t ((cut (cut x0 x1 (x0.length : Int)) (0 : Int) (4 : Int)).length) u, .int .u32 w, .slice h ((cut (cut x0 x1 (x0.length : Int)) (8 : Int) (IntKind.i64.wrap (8 + (IntKind.i64.wrap c)))).length) m, .int .u32 n, .int .u32 (bC .xor .u32 (if IntKind.u32.signed then -1 else IntKind.u32.max) n), .slice an ((cut x0 x1 (x0.length : Int)).length) a1, .slice x ((cut (cut x0 x1 (x0.length : Int)) (4 : Int) ((cut x0 x1 (x0.length : Int)).length : Int)).length) aa, .int .u32 ab, .bool (!decide (bC .xor .u32 (if IntKind.u32.signed then -1 else IntKind.u32.max) n = ab))].getD i undef) (fun j γ => [[F], [F], [F], [F]].getD j []) (fun γ => [(8, .int .i64 (IntKind.i64.wrap c)), (9, .slice h ((cut (cut x0 x1 (x0.length : Int)) (8 : Int) (IntKind.i64.wrap (8 + (IntKind.i64.wrap c)))).length) m), (51, .bool (!decide (bC .xor .u32 (if IntKind.u32.signed then -1 else IntKind.u32.max) n = ab)))]) mixed (by decide) (by decide) (by decide) (by decide) (by decide) (by decide) (by decide) 58 O (by decide) (by decide) (by decide) (Ent.refl _) ?_ ?_ (fun _ => ⟨O, O, O, trivial⟩) ?_
 exact (aq O (fun γ => qm O (.o (s := 7) O (by decide) .nil) O) (aq O (fun γ => qp O O (.v 0 O O .nil) (dU (l := (cut x0 x1 (x0.length : Int))) (lo' := (0 : Int)) (hi' := (4 : Int)) O O O O underlying25 sizeOf5 (.inr ⟨_, O⟩) (.inl ⟨O, O⟩) a4 a b1) O) (ac (fun γ => (ac (qm O (.o (s := 9) O (by decide) .nil) O) (ac (qm O (.o (s := 9) O (by decide) .nil) O) zA))) (ac (fun γ => (ac (qp O O (.v 4 O O .nil) (rb O O) O) (ac (qp O O (.v 4 O O .nil) (rb O O) O) zA))) (ac (fun γ => (ac (qm O (.o (s := 7) O (by decide) .nil) O) (ac (qm O (.o (s := 7) O (by decide) .nil) O) (ac (qm O (.o (s := 7) O (by decide) .nil) O) zA)))) (ac (fun γ => (ac (qp O O (.v 6 O O .nil) (dU (l := (cut x0 x1 (x0.length : Int))) (lo' := (4 : Int)) (hi' := ((cut x0 x1 (x0.length : Int)).length : Int)) O O O O underlying25 sizeOf5 (.inl ⟨O, O⟩) (.inr ⟨_, O⟩) d a p) O) (ac (qp O O (.v 6 O O .nil) (dU (l := (cut x0 x1 (x0.length : Int))) (lo' := (4 : Int)) (hi' := ((cut x0 x1 (x0.length : Int)).length : Int)) O O O O underlying25 sizeOf5 (.inl ⟨O, O⟩) (.inr ⟨_, O⟩) d a p) O) (ac (qp O O (.v 6 O O .nil) (dU (l := (cut x0 x1 (x0.length : Int))) (lo' := (4 : Int)) (hi' := ((cut x0 x1 (x0.length : Int)).length : Int)) O O O O underlying25 sizeOf5 (.inl ⟨O, O⟩) (.inr ⟨_, O⟩) d a p) O) zA)))) (aq O (fun γ => qp O O (.v 5 O O (.v 8 O O .nil)) (cz O O O) O) zA)))))))
 exact (ac (fun γ => eo (Z := Unit) (fun z => ()) O O (.v 1 O O .nil) (ar (val := fun (r : Int) (y : Unit) => .int .u32 r) (B := fun _ _ => []) (vs := [.int .u32 4294967295, .slice t ((cut (cut x0 x1 (x0.length : Int)) (0 : Int) (4 : Int)).length) u]) (cap := []) (A := []) (rst := [F]) O O O O O O call122 (.sel 0 O (.nil _)) (ca.calls _ _ k (4294967295 : Int) t u (cut (cut x0 x1 (x0.length : Int)) (0 : Int) (4 : Int)) (b2.lend 0 O) b3 (Nat.le_trans b4 (Nat.le_trans g ad))) b5) (fun _ => ⟨O, O, O, O, O, trivial⟩) (fun _ => .inr O) (fun z => Ent.refl _)) (ac (fun γ => eo (Z := Unit) (fun z => ()) O O (.v 2 O O (.v 3 O O .nil)) (ar (val := fun (r : Int) (y : Unit) => .int .u32 r) (B := fun _ _ => []) (vs := [.int .u32 w, .slice h ((cut (cut x0 x1 (x0.length : Int)) (8 : Int) (IntKind.i64.wrap (8 + (IntKind.i64.wrap c)))).length) m]) (cap := []) (A := []) (rst := [F]) O O O O O O call122 (.sel 0 O (.nil _)) (ca.calls _ _ k w h m (cut (cut x0 x1 (x0.length : Int)) (8 : Int) (IntKind.i64.wrap (8 + (IntKind.i64.wrap c)))) (a3.lend 0 O) bs (Nat.le_trans b0 (Nat.le_trans g ad))) b6) (fun _ => ⟨O, O, O, O, O, O, trivial⟩) (fun _ => .inr O) (fun z => Ent.refl _)) (ac (fun γ => eo (Z := Unit) (fun z => ()) O O (.v 7 O O .nil) (ar (val := fun (r : Int) (y : Unit) => .int .u32 r) (B := fun _ _ => []) (vs := [.slice x ((cut (cut x0 x1 (x0.length : Int)) (4 : Int) ((cut x0 x1 (x0.length : Int)).length : Int)).length) aa]) (cap := []) (A := []) (rst := [F]) O O O O O O call171 (.sel 0 O (.nil _)) (gO.calls _ _ x aa (cut (cut x0 x1 (x0.length : Int)) (4 : Int) ((cut x0 x1 (x0.length : Int)).length : Int)) (b7.lend 0 O) b8 (Nat.le_trans b9 (Nat.le_trans g ad))) cd) (fun _ => ⟨O, O, O, O, O, O, O, O, trivial⟩) (fun _ => .inr O) (fun z => Ent.refl _)) zA)))
 intro ds
 refine ae ?_
 refine br O (fun d1 => ?_) (fun d2 => ?_)
 refine au ?_
 refine ae (sr ?_)
 refine vm O O ?_
 refine aQ (fun q => ?_)
 refine ah (me O O O underlying25 eP q.1 q.2.1 q.2.2) O O O ?_
 intro d3
 refine vm O O ?_
 refine aQ (fun ch => ?_)
 refine ah (dd 0 O O O underlying25 eP O (a3.rds 0 O) ch) O O O ?_
 intro a6
 refine vm O O ?_
 refine vq (bj O O O) O ?_
 refine va O O ?_
 refine va O O ?_
 refine va O O (ag (ae (ak ?_)))
 exact av (a6.1, a6.2) O O O (.sel 0 O (.sel 0 O (.nil _)))
 refine sr ?_
 refine va O O ?_
 refine va O O ?_
 refine va O O (ag (ae (ak ?_)))
 refine ax ?_
 exact av (none, 0) O O O (.row_nil (.sel 0 O (.nil _)))

def iX.f (k : Nat) (x0 : List UInt8) : Option (List UInt8 × Int) := (iA.f k x0 (0 : Int)).bind fun a => ((if ((decide (a.2.2 = (0 : Int))) && (decide (a.2.1 < (x0.length : Int)))) = true then (some (([] : List UInt8), 4)) else (some (a.1, a.2.2))).bind fun b => (some (b.1, b.2)))
theorem iX.calls (W : World) (F : HA) (k : Nat) (a0 : Option Addr) (c0 : Nat) (x0 : List UInt8) (h0 : Rd F a0 (ao x0)) (i : x0.length ≤ c0) (j : c0 ≤ maxLen) :
    Fn Tryz.prog W 87 [.slice a0 x0.length c0] [] F (iX.f k x0) (fun (r : List UInt8 × Int) (y : Option Addr × Nat) => .tuple #[.slice y.1 r.1.length y.2, .int .i64 r.2]) (fun r y => [Row 5 1 y.1 r.1.length y.2 (ao r.1)]) := by
 unfold iX.f
 refine aJ 23 Tryz.func87 O Tryz.ntmps87 O ?_
 refine sr ?_
 refine va O O ?_
 refine va O O (nx ?_)
 refine vm O O ?_
 refine am (fun a g => ?_)
 refine ah (ar (vs := [.slice a0 x0.length c0, .int .i64 0]) (cap := []) (A := []) (rst := [F]) O O O O O O call132 (.sel 0 O (.nil _)) (iA.calls _ _ k a0 c0 x0 (0 : Int) (h0.lend 0 O) i j) g) O O O ?_
 intro d
 refine vm O O ?_
 refine vq (bh O O O) O ?_
 refine vq (bh O O O) O ?_
 refine vq (bh O O O) O ?_
 refine va O O ?_
 refine va O O ?_
 refine va O O (ag (ae ?_))
 refine bO (S := List UInt8 × Int) (Option Addr × Nat) (fun s y => [(4, .slice y.1 s.1.length y.2), (6, .int .i64 s.2)]) (fun s y => [Row 5 1 y.1 s.1.length y.2 (ao s.1), F]) ?_ ?_
 refine sr ?_
 refine vm O O ?_
 refine vq (bD O O O) O ?_
 refine vm O O ?_
 refine az (b := decide (a.2.2 = (0 : Int))) (fun l => RQ.sub (E' := [(5, .int .i64 a.2.1)]) ⟨O, trivial⟩ (aS O O)) O O O O O ?_
 refine az (b := decide (a.2.2 = (0 : Int))) (fun m => RQ.sub (E' := [(0, .slice a0 x0.length c0)]) ⟨O, trivial⟩ (aS O O)) O O O O O ?_
 refine az (b := decide (a.2.2 = (0 : Int))) (fun h => RQ.sub (E' := [(17, .slice a0 x0.length c0)]) ⟨aZ O h, trivial⟩ (bi O O O underlying25)) O O O O O ?_
 refine az (b := decide (a.2.2 = (0 : Int))) (fun c => RQ.sub (E' := [(16, .int .i64 a.2.1), (18, .int .i64 (x0.length : Int))]) ⟨aZ O c, aZ O c, trivial⟩ (bN O O O)) O O O O O ?_
 refine vq (dQ O O O) O (ag (ae ?_))
 refine aT O (fun n => ?_) (fun o => ?_)
 refine aE ?_
 refine va O O ?_
 refine va O O (ag ?_)
 exact aM (s := (([] : List UInt8), 4)) (none, 0) ⟨O, O, trivial⟩ (.row_nil (.sel 1 O (.nil _)))
 refine au ?_
 exact aM (s := (a.1, a.2.2)) (d.1, d.2) ⟨O, O, trivial⟩ (.sel 0 O (.sel 0 O (.nil _)))
 intro p e
 refine sr ?_
 refine vm O O ?_
 refine vm O O ?_
 refine va O O ?_
 refine va O O (ag (ae (ak ?_)))
 exact av (e.1, e.2) O O O (.sel 0 O (.sel 0 O (.nil _)))

def fL.f (x0 : List UInt8) : Option (List UInt8) := if 0 ≤ (x0.length : Int) ∧ (x0.length : Int) ≤ (x0.length : Int) ∧ (x0.length : Int) * 1 ≤ 140737488355328 then (some (kj (List.replicate (x0.length : Int).toNat (0 : UInt8)) x0)) else none
theorem fL.calls (W : World) (F : HA) (a0 : Option Addr) (c0 : Nat) (x0 : List UInt8) (h0 : Rd F a0 (ao x0)) (c : x0.length ≤ c0) (e : c0 ≤ maxLen) :
    Fn Tryz.prog W 160 [.slice a0 x0.length c0] [] F (fL.f x0) (fun (r : List UInt8) (y : Option Addr × Nat) => .slice y.1 r.length y.2) (fun r y => [Row 5 1 y.1 r.length y.2 (ao r)]) := by
 unfold fL.f
 refine aJ 11 Tryz.func160 O Tryz.ntmps160 O ?_
 refine sr ?_
 refine va O O (nx ?_)
 refine vm O O ?_
 refine vq (bi O O O underlying25) O ?_
 refine aQ (fun a => ?_)
 refine ah (me O O O underlying25 eP a.1 a.2.1 a.2.2) O O O ?_
 intro b
 refine va O O (nx ?_)
 refine vm O O ?_
 refine vm O O ?_
 refine ah (xf 0 O O O underlying25 eP O (h0.rds 1 O)) O O O ?_
 intro _
 refine eE (.slice (some ⟨b, 0, none⟩) ((kj (List.replicate (x0.length : Int).toNat (0 : UInt8)) x0).length) ((x0.length : Int).toNat)) (d := 6) O (fm (eR _ _).symm) ?_
 refine eE (.slice (some ⟨b, 0, none⟩) ((kj (List.replicate (x0.length : Int).toNat (0 : UInt8)) x0).length) ((x0.length : Int).toNat)) (d := 3) O (fm (eR _ _).symm) ?_
 refine eE (.slice (some ⟨b, 0, none⟩) ((kj (List.replicate (x0.length : Int).toNat (0 : UInt8)) x0).length) ((x0.length : Int).toNat)) (d := 7) O (fm (eR _ _).symm) ?_
 refine nx ?_
 refine vm O O ?_
 refine va O O (ag (ae (ak ?_)))
 exact av ((some ⟨b, 0, none⟩), (x0.length : Int).toNat) O O O (.sel 0 O (.sel 0 O (.nil _)))

def gh.f (x0 : List UInt8) : Option (List UInt8 × Int × Int) := (fL.f x0).bind fun a => (some (a, 0, 0))
theorem gh.calls (W : World) (F : HA) (a0 : Option Addr) (c0 : Nat) (x0 : List UInt8) (h0 : Rd F a0 (ao x0)) (c : x0.length ≤ c0) (d : c0 ≤ maxLen) :
    Fn Tryz.prog W 133 [.slice a0 x0.length c0] [] F (gh.f x0) (fun (r : List UInt8 × Int × Int) (y : Nat × Option Addr × Nat) => .pointer (some ⟨y.1, 0, none⟩)) (fun r y => [obj y.1 217 [.slice y.2.1 r.1.length y.2.2, .int .i64 r.2.1, .int .i64 r.2.2], Row 5 1 y.2.1 r.1.length y.2.2 (ao r.1)]) := by
 unfold gh.f
 refine aJ 7 Tryz.func133 O Tryz.ntmps133 O ?_
 refine sr ?_
 refine va O O (nx ?_)
 refine vm O O ?_
 refine am (fun e b => ?_)
 refine ah (ar (vs := [.slice a0 x0.length c0]) (cap := []) (A := []) (rst := [F]) O O O O O O call160 (.sel 0 O (.nil _)) (fL.calls _ _ a0 c0 x0 (h0.lend 0 O) c d) b) O O O ?_
 intro a
 refine vq (eb (v := .agg #[.slice a.1 e.length a.2, .int .i64 0, .int .i64 0]) O O (fun _ => by kernel_rfl)) O ?_
 refine ah (dL O O O) O O O ?_
 intro g
 refine va O O (ag (ae (ak ?_)))
 exact av (g, a.1, a.2) O O O (.sel 0 O (.sel 0 O (.sel 0 O (.nil _))))

def ff.l0 (x0 : List UInt8) (x1 : Int) : Nat → Int → Int → Option ((Unit) ⊕ (Int × Int × Int))
  | 0, _, _ => none
  | k + 1, b, a => if a < (9 : Int) then (if IntKind.i64.wrap ((x0.length : Int) - x1) ≤ a then (some (.inr (0, 0, 2))) else (if 0 ≤ IntKind.i64.wrap (x1 + a) ∧ IntKind.i64.wrap (x1 + a) < (x0.length : Int) then (if 0 ≤ IntKind.i64.wrap (7 * a) then (if (128 : Int) ≤ ((x0.getD (IntKind.i64.wrap (x1 + a)).toNat 0).toNat : Int) then (ff.l0 x0 x1 k (bC .or .i64 b (IntKind.i64.wrap ((IntKind.i64.wrap (bC .and .u8 ((x0.getD (IntKind.i64.wrap (x1 + a)).toNat 0).toNat : Int) 127)) * 2 ^ (min (IntKind.i64.wrap (7 * a)).toNat IntKind.i64.bits)))) (IntKind.i64.wrap (a + 1))) else (if ((decide (((x0.getD (IntKind.i64.wrap (x1 + a)).toNat 0).toNat : Int) = (0 : Int))) && (decide ((0 : Int) < a))) = true then (some (.inr (0, 0, 4))) else (if (4611686018427387904 : Int) < bC .or .i64 b (IntKind.i64.wrap ((IntKind.i64.wrap (bC .and .u8 ((x0.getD (IntKind.i64.wrap (x1 + a)).toNat 0).toNat : Int) 127)) * 2 ^ (min (IntKind.i64.wrap (7 * a)).toNat IntKind.i64.bits))) then (some (.inr (0, 0, 1))) else (some (.inr (bC .or .i64 b (IntKind.i64.wrap ((IntKind.i64.wrap (bC .and .u8 ((x0.getD (IntKind.i64.wrap (x1 + a)).toNat 0).toNat : Int) 127)) * 2 ^ (min (IntKind.i64.wrap (7 * a)).toNat IntKind.i64.bits))), IntKind.i64.wrap (a + 1), 0)))))) else none) else none)) else (some (.inl ()))
def ff.f (k : Nat) (x0 : List UInt8) (x1 : Int) : Option (Int × Int × Int) := if ((decide (x1 < (0 : Int))) || (decide ((x0.length : Int) ≤ x1))) = true then (some (0, 0, 2)) else (orR (ff.l0 x0 x1 k 0 0) fun a => (some (0, 0, 4)))
theorem ff.calls (W : World) (F : HA) (k : Nat) (a0 : Option Addr) (c0 : Nat) (x0 : List UInt8) (x1 : Int) (h0 : Rd F a0 (ao x0)) (ad : x0.length ≤ c0) (af : c0 ≤ maxLen) :
    Fn Tryz.prog W 196 [.slice a0 x0.length c0, .int .i64 x1] [] F (ff.f k x0 x1) (fun (r : Int × Int × Int) (y : Unit) => .tuple #[.int .i64 r.1, .int .i64 r.2.1, .int .i64 r.2.2]) (fun r y => []) := by
 unfold ff.f
 refine aJ 55 Tryz.func196 O Tryz.ntmps196 O ?_
 refine sr ?_
 refine va O O ?_
 refine va O O ?_
 refine va O O (ag (ae (ap (sr ?_))))
 refine vm O O ?_
 refine vq (bN O O O) O ?_
 refine vm O O ?_
 refine az (b := decide (x1 < (0 : Int))) (fun l => RQ.sub (E' := [(1, .int .i64 x1)]) ⟨O, trivial⟩ (aS O O)) O O O O O ?_
 refine az (b := decide (x1 < (0 : Int))) (fun m => RQ.sub (E' := [(0, .slice a0 x0.length c0)]) ⟨O, trivial⟩ (aS O O)) O O O O O ?_
 refine az (b := decide (x1 < (0 : Int))) (fun g => RQ.sub (E' := [(14, .slice a0 x0.length c0)]) ⟨aZ O g, trivial⟩ (bi O O O underlying25)) O O O O O ?_
 refine az (b := decide (x1 < (0 : Int))) (fun c => RQ.sub (E' := [(13, .int .i64 x1), (15, .int .i64 (x0.length : Int))]) ⟨aZ O c, aZ O c, trivial⟩ (gP O O O)) O O O O O ?_
 refine vq (hP O O O) O (ag (ae ?_))
 refine aT O (fun al => ?_) (fun an => ?_)
 refine sr ?_
 refine va O O ?_
 refine va O O ?_
 refine va O O (ag (ae (ak ?_)))
 refine ax ?_
 exact av () O O O (.sel 0 O (.nil _))
 refine au ?_
 refine ae (sr ?_)
 refine va O O (ag (ae ?_))
 refine fx (S := Unit) (Unit) (fun s y => []) (fun s y => [F]) ?_ ?_
 refine sr ?_
 refine va O O (ag (ae ?_))
 refine aK ?_
 refine bX (S := Int × Int) (Unit) (fun k s => ff.l0 x0 x1 k s.1 s.2) (fun s y => [(0, .slice a0 x0.length c0), (1, .int .i64 x1), (7, .int .i64 s.1), (8, .int .i64 s.2)]) (fun s y => [F]) (fun _ => by rw [ff.l0]) ?_ k (0, 0) () ⟨O, O, O, O, trivial⟩ (.sel 0 O (.nil _))
 intro k a a1
 refine cL (by rw [ff.l0]) ?_
 refine ap (sr ?_)
 refine vm O O ?_
 refine vq (bN O O O) O (ag (ae ?_))
 refine aL O (fun a2 => ?_) (fun p => ?_)
 refine au ?_
 refine ae (ap ?_)
 refine aK ?_
 refine ap (sr ?_)
 refine vm O O ?_
 refine vm O O ?_
 refine vq (bi O O O underlying25) O ?_
 refine vm O O ?_
 refine vq (ft O O O) O ?_
 refine vq (gP O O O) O (ag (ae ?_))
 refine aL O (fun q => ?_) (fun t => ?_)
 refine sr ?_
 refine va O O ?_
 refine va O O ?_
 refine va O O (ag (ae (ak ?_)))
 refine ax ?_
 refine aP ?_
 refine ax ?_
 refine eS ?_
 refine aP ?_
 refine eG ?_
 exact av () O O O (.sel 0 O (.nil _))
 refine au ?_
 refine ae (sr ?_)
 refine vm O O ?_
 refine vm O O ?_
 refine vm O O ?_
 refine vq (bj O O O) O ?_
 refine aQ (fun d => ?_)
 obtain ⟨u, n, e⟩ := h0.pos (fc (j := (IntKind.i64.wrap (x1 + a.2)).toNat) (by omega))
 refine vq (el O O O e underlying25 sizeOf5 d.1 d.2) O ?_
 refine vq (ai O O isAgg5 (h0.cell 0 O e (eQ (by omega)))) O ?_
 refine va O O (nx ?_)
 refine vm O O ?_
 refine vm O O ?_
 refine vq (rM O O O) O ?_
 refine vq (dy O O underlying5 underlying3) O ?_
 refine vm O O ?_
 refine vq (nt O O O) O ?_
 refine aQ (fun h => ?_)
 refine vq (ra O O O h) O ?_
 refine vq (pc O O O) O ?_
 refine va O O (ag (ae (ap (sr ?_))))
 refine vm O O ?_
 refine vq (gP O O O) O (ag (ae ?_))
 refine aL O (fun v => ?_) (fun w => ?_)
 refine ck ?_
 refine bQ ?_
 refine bR ?_
 refine ae (aE ?_)
 refine vm O O ?_
 refine vq (bj O O O) O ?_
 refine va O O (ag ?_)
 exact bu (s := (bC .or .i64 a.1 (IntKind.i64.wrap ((IntKind.i64.wrap (bC .and .u8 ((x0.getD (IntKind.i64.wrap (x1 + a.2)).toNat 0).toNat : Int) 127)) * 2 ^ (min (IntKind.i64.wrap (7 * a.2)).toNat IntKind.i64.bits))), IntKind.i64.wrap (a.2 + 1))) () ⟨O, O, O, O, trivial⟩ (.sel 0 O (.nil _))
 refine au ?_
 refine ae (ap (sr ?_))
 refine vm O O ?_
 refine vq (bD O O O) O ?_
 refine vm O O ?_
 refine az (b := decide (((x0.getD (IntKind.i64.wrap (x1 + a.2)).toNat 0).toNat : Int) = (0 : Int))) (fun o => RQ.sub (E' := [(8, .int .i64 a.2)]) ⟨O, trivial⟩ (aS O O)) O O O O O ?_
 refine az (b := decide (((x0.getD (IntKind.i64.wrap (x1 + a.2)).toNat 0).toNat : Int) = (0 : Int))) (fun i => RQ.sub (E' := [(47, .int .i64 a.2)]) ⟨aZ O i, trivial⟩ (dw O O O)) O O O O O ?_
 refine vq (dQ O O O) O (ag (ae ?_))
 refine aT O (fun x => ?_) (fun z => ?_)
 refine sr ?_
 refine va O O ?_
 refine va O O ?_
 refine va O O (ag (ae (ak ?_)))
 refine ax ?_
 refine aP ?_
 refine ax ?_
 refine eS ?_
 refine aP ?_
 refine eG ?_
 exact av () O O O (.sel 0 O (.nil _))
 refine au ?_
 refine ae (ap (sr ?_))
 refine vm O O ?_
 refine vq (dw O O O) O (ag (ae ?_))
 refine aL O (fun aa => ?_) (fun ab => ?_)
 refine sr ?_
 refine va O O ?_
 refine va O O ?_
 refine va O O (ag (ae (ak ?_)))
 refine ax ?_
 refine aP ?_
 refine ax ?_
 refine eS ?_
 refine aP ?_
 refine eG ?_
 exact av () O O O (.sel 0 O (.nil _))
 refine au ?_
 refine ae (sr ?_)
 refine vm O O ?_
 refine vm O O ?_
 refine vq (bj O O O) O ?_
 refine va O O ?_
 refine va O O ?_
 refine va O O (ag (ae (ak ?_)))
 refine aP ?_
 refine ax ?_
 refine eS ?_
 refine aP ?_
 refine eG ?_
 exact av () O O O (.sel 0 O (.nil _))
 refine ck ?_
 refine bQ ?_
 refine bY ?_
 refine bR ?_
 exact fg (s := ()) () trivial (.sel 0 O (.nil _))
 intro a3 a4
 refine sr ?_
 refine va O O ?_
 refine va O O ?_
 refine va O O (ag (ae (ak ?_)))
 exact av () O O O (.sel 0 O (.nil _))

def ee.f (k : Nat) (d : List UInt8) (a : Int) (c : Int) : Option (Int × Int × Bool × Int × Int) := if c = (0 : Int) then ((ff.f k d a).bind fun b => (some (b.1, b.2.1, decide (b.2.2 = (0 : Int)), a, b.2.2))) else (some (0, 0, false, a, c))
theorem ee.calls (W : World) (F : HA) (k : Nat) (b0 : Nat) (d : Option Addr) (c : Nat) (a : List UInt8) (e : Int) (g : Int) (m : Rd F d (ao a)) (h : a.length ≤ c) (l : c ≤ maxLen) :
    Fn Tryz.prog W 172 [.pointer (some ⟨b0, 0, none⟩)] [obj b0 217 [.slice d a.length c, .int .i64 e, .int .i64 g]] F (ee.f k a e g) (fun (r : Int × Int × Bool × Int × Int) (y : Unit) => .tuple #[.int .i64 r.1, .int .i64 r.2.1, .bool r.2.2.1]) (fun r y => [obj b0 217 [.slice d a.length c, .int .i64 r.2.2.2.1, .int .i64 r.2.2.2.2]]) := by
 unfold ee.f
 refine aJ 34 Tryz.func172 O Tryz.ntmps172 O ?_
 refine sr ?_
 refine va O O ?_
 refine va O O ?_
 refine va O O (ag (ae (ap (sr ?_))))
 refine vm O O ?_
 refine vn O O ?_
 refine vq (aw O O underlying217 O O sizeOf30 O) O ?_
 refine vq (ai O O isAgg30 (.obj 0 O O)) O ?_
 refine vq (cz O O O) O (ag (ae ?_))
 refine br O (fun p => ?_) (fun q => ?_)
 refine au ?_
 refine ae (ap ?_)
 refine cu (fun b n => ?_)
 refine bp (Γ := Unit) () [[], [0], [0, 1], [0, 1, 2], [], [4], [4, 5], [4, 5, 6], rL 8, rL 9, rL 10, rL 10, rL 10, rL 11, [0, 1, 2, 3, 4, 5, 6, 7, 8, 9, 10, 11, 13], rL 15] [8] [0, 1, 2, 3, 4, 5, 6, 7, 9, 10, 11, 12, 13, 14, 15] (fun i => [[0], [0], [0], [0], [0], [0], [0], [0], [], [1], [1], [1], [1], [1], [1], [1]].getD i []) (fun i => [[], [], [], [], [], [], [], [], rL 8, [], [], [], [], [], [], []].getD i []) (fun γ i => [.pointer (some ⟨b0, 0, none⟩), .pointer (some ⟨b0, 0, none⟩), .pointer (some ⟨b0, 0, none⟩), .slice d a.length c, .pointer (some ⟨b0, 0, none⟩), .pointer (some ⟨b0, 0, none⟩), .pointer (some ⟨b0, 1, none⟩), .int .i64 e, .tuple #[.int .i64 b.1, .int .i64 b.2.1, .int .i64 b.2.2], .tuple #[.int .i64 b.1, .int .i64 b.2.1, .int .i64 b.2.2], .int .i64 b.1, .int .i64 b.2.1, .int .i64 b.2.2, .int .i64 b.1, .int .i64 b.2.1, .int .i64 b.2.2].getD i undef) (fun j γ => [[obj b0 217 [.slice d a.length c, .int .i64 e, .int .i64 g], F], [obj b0 217 [.slice d a.length c, .int .i64 e, .int .i64 g], F]].getD j []) (fun γ => [(0, .pointer (some ⟨b0, 0, none⟩)), (5, .int .i64 b.1), (6, .int .i64 b.2.1), (7, .int .i64 b.2.2)]) mixed (by decide) (by decide) (by decide) (by decide) (by decide) (by decide) (by decide) 34 O (by decide) (by decide) (by decide) (Ent.refl _) ?_ ?_ (fun _ => ⟨O, O, O, O, trivial⟩) ?_
 exact (aq O (fun γ => qm O (.o (s := 0) O (by decide) .nil) O) (aq O (fun γ => qp O O (.v 0 O O .nil) (cj O O) O) (aq O (fun γ => qp O O (.v 1 O O .nil) (aw O O underlying217 O O sizeOf25 O) O) (aq O (fun γ => qp O O (.v 2 O O .nil) (ai O O isAgg25 (.obj 0 O O)) O) (aq O (fun γ => qm O (.o (s := 0) O (by decide) .nil) O) (aq O (fun γ => qp O O (.v 4 O O .nil) (cj O O) O) (aq O (fun γ => qp O O (.v 5 O O .nil) (aw O O underlying217 O O sizeOf3 O) O) (aq O (fun γ => qp O O (.v 6 O O .nil) (ai O O isAgg3 (.obj 0 O O)) O) (aq O (fun γ => qm O (.v 8 O O .nil) O) (aq O (fun γ => qp O O (.v 9 O O .nil) (bh O O O) O) (aq O (fun γ => qp O O (.v 9 O O .nil) (bh O O O) O) (aq O (fun γ => qp O O (.v 9 O O .nil) (bh O O O) O) (aq O (fun γ => qp O O (.v 10 O O .nil) (dA O O) O) (aq O (fun γ => qp O O (.v 11 O O .nil) (dA O O) O) (aq O (fun γ => qp O O (.v 12 O O .nil) (dA O O) O) zA)))))))))))))))
 exact (ac (fun γ => eo (Z := Unit) (fun z => ()) O O (.v 3 O O (.v 7 O O .nil)) (ar (val := fun (r : Int × Int × Int) (y : Unit) => .tuple #[.int .i64 r.1, .int .i64 r.2.1, .int .i64 r.2.2]) (B := fun _ _ => []) (vs := [.slice d a.length c, .int .i64 e]) (cap := []) (A := []) (rst := [obj b0 217 [.slice d a.length c, .int .i64 e, .int .i64 g], F]) O O O O O O call196 (.sel 0 O (.sel 0 O (.nil _))) (ff.calls _ _ k d c a e (m.lend 1 O) h l) n) (fun _ => ⟨O, O, O, O, O, O, O, O, trivial⟩) (fun _ => .inr O) (fun z => Ent.refl _)) zA)
 intro t
 refine ae (sr ?_)
 refine vm O O ?_
 refine vm O O ?_
 refine vn O O ?_
 refine vq (aw O O underlying217 O O sizeOf30 O) O ?_
 refine aX (aV 0 O O O sizeOf30 O O (aY (by rfl)) O O) O O ?_
 intro _
 refine nx ?_
 refine vm O O ?_
 refine vm O O ?_
 refine vm O O ?_
 refine vq (bD O O O) O ?_
 refine va O O ?_
 refine va O O ?_
 refine va O O (ag (ae (ak ?_)))
 exact av () O O O (.sel 0 O (.sel 0 O (.nil _)))
 refine sr ?_
 refine va O O ?_
 refine va O O ?_
 refine va O O (ag (ae (ak ?_)))
 refine ax ?_
 exact av () O O O (.sel 0 O (.sel 0 O (.nil _)))

def dX.f (k : Nat) (b : List UInt8) (c : Int) (d : Int) : Option (Int × Int × Int) := (ee.f k b c d).bind fun a => (if (!a.2.2.1) = true then (some (0, a.2.2.2.1, a.2.2.2.2)) else (some (a.1, IntKind.i64.wrap (a.2.2.2.1 + a.2.1), a.2.2.2.2)))
theorem dX.calls (W : World) (F : HA) (k : Nat) (b0 : Nat) (c : Option Addr) (b : Nat) (a : List UInt8) (d : Int) (e : Int) (i : Rd F c (ao a)) (g : a.length ≤ b) (h : b ≤ maxLen) :
    Fn Tryz.prog W 134 [.pointer (some ⟨b0, 0, none⟩)] [obj b0 217 [.slice c a.length b, .int .i64 d, .int .i64 e]] F (dX.f k a d e) (fun (r : Int × Int × Int) (y : Unit) => .int .i64 r.1) (fun r y => [obj b0 217 [.slice c a.length b, .int .i64 r.2.1, .int .i64 r.2.2]]) := by
 unfold dX.f
 refine aJ 23 Tryz.func134 O Tryz.ntmps134 O ?_
 refine sr ?_
 refine va O O (nx ?_)
 refine vm O O ?_
 refine am (fun l j => ?_)
 refine ah (ar (vs := [.pointer (some ⟨b0, 0, none⟩)]) (cap := []) (A := [obj b0 217 [.slice c a.length b, .int .i64 d, .int .i64 e]]) (rst := [F]) O O O O O O call172 (.sel 0 O (.sel 0 O (.nil _))) (ee.calls _ _ k b0 c b a d e (i.lend 0 O) g h) j) O O O ?_
 intro m
 refine vm O O ?_
 refine vq (bh O O O) O ?_
 refine vq (bh O O O) O ?_
 refine vq (bh O O O) O ?_
 refine va O O ?_
 refine va O O ?_
 refine va O O (ag (ae (ap (sr ?_))))
 refine vm O O ?_
 refine vq (fE O O) O (ag (ae ?_))
 refine aT O (fun n => ?_) (fun o => ?_)
 refine sr ?_
 refine va O O (ag (ae (ak ?_)))
 refine ax ?_
 exact av () O O O (.sel 0 O (.sel 0 O (.nil _)))
 refine au ?_
 refine ae (sr ?_)
 refine vm O O ?_
 refine vn O O ?_
 refine vq (aw O O underlying217 O O sizeOf3 O) O ?_
 refine vq (ai O O isAgg3 (.obj 0 O O)) O ?_
 refine vm O O ?_
 refine vq (bj O O O) O ?_
 refine vn O O ?_
 refine vq (aw O O underlying217 O O sizeOf3 O) O ?_
 refine aX (aV 0 O O O sizeOf3 O O (aY (by rfl)) O O) O O ?_
 intro _
 refine nx ?_
 refine vm O O ?_
 refine va O O (ag (ae (ak ?_)))
 exact av () O O O (.sel 0 O (.sel 0 O (.nil _)))

def eB.f (k : Nat) (b : List UInt8) (c : Int) (d : Int) (x1 : Int) : Option (List UInt8 × Int × Int) := (ee.f k b c d).bind fun a => (if (!a.2.2.1) = true then (some (([] : List UInt8), a.2.2.2.1, a.2.2.2.2)) else (if max x1 (0 : Int) < a.1 then (some (([] : List UInt8), a.2.2.2.1, 3)) else (if IntKind.i64.wrap ((IntKind.i64.wrap ((b.length : Int) - a.2.2.2.1)) - a.2.1) < a.1 then (some (([] : List UInt8), a.2.2.2.1, 2)) else (if 0 ≤ IntKind.i64.wrap (a.2.2.2.1 + a.2.1) ∧ IntKind.i64.wrap (a.2.2.2.1 + a.2.1) ≤ IntKind.i64.wrap ((IntKind.i64.wrap (a.2.2.2.1 + a.2.1)) + a.1) ∧ IntKind.i64.wrap ((IntKind.i64.wrap (a.2.2.2.1 + a.2.1)) + a.1) ≤ (b.length : Int) then ((fL.f (cut b (IntKind.i64.wrap (a.2.2.2.1 + a.2.1)) (IntKind.i64.wrap ((IntKind.i64.wrap (a.2.2.2.1 + a.2.1)) + a.1)))).bind fun e => (some (e, IntKind.i64.wrap ((IntKind.i64.wrap (a.2.2.2.1 + a.2.1)) + a.1), a.2.2.2.2))) else none))))
theorem eB.calls (W : World) (F : HA) (k : Nat) (b0 : Nat) (d : Option Addr) (c : Nat) (b : List UInt8) (g : Int) (h : Int) (x1 : Int) (u : Rd F d (ao b)) (m : b.length ≤ c) (q : c ≤ maxLen) :
    Fn Tryz.prog W 135 [.pointer (some ⟨b0, 0, none⟩), .int .i64 x1] [obj b0 217 [.slice d b.length c, .int .i64 g, .int .i64 h]] F (eB.f k b g h x1) (fun (r : List UInt8 × Int × Int) (y : Option Addr × Nat) => .slice y.1 r.1.length y.2) (fun r y => [Row 5 1 y.1 r.1.length y.2 (ao r.1), obj b0 217 [.slice d b.length c, .int .i64 r.2.1, .int .i64 r.2.2]]) := by
 unfold eB.f
 refine aJ 67 Tryz.func135 O Tryz.ntmps135 O ?_
 refine sr ?_
 refine va O O (nx ?_)
 refine vm O O ?_
 refine am (fun a al => ?_)
 refine ah (ar (vs := [.pointer (some ⟨b0, 0, none⟩)]) (cap := []) (A := [obj b0 217 [.slice d b.length c, .int .i64 g, .int .i64 h]]) (rst := [F]) O O O O O O call172 (.sel 0 O (.sel 0 O (.nil _))) (ee.calls _ _ k b0 d c b g h (u.lend 0 O) m q) al) O O O ?_
 intro a0
 refine vm O O ?_
 refine vq (bh O O O) O ?_
 refine vq (bh O O O) O ?_
 refine vq (bh O O O) O ?_
 refine va O O ?_
 refine va O O ?_
 refine va O O (ag (ae (ap ?_)))
 refine aK ?_
 refine sr ?_
 refine vm O O ?_
 refine vq (fE O O) O ?_
 refine va O O (ag (ae ?_))
 refine aT O (fun a1 => ?_) (fun a2 => ?_)
 refine sr ?_
 refine va O O (ag (ae (ak ?_)))
 refine aP ?_
 refine ax ?_
 exact av (none, 0) O O O (.row_nil (.sel 0 O (.sel 0 O (.nil _))))
 refine sr ?_
 refine vm O O ?_
 refine vm O O ?_
 refine vq (kM O O O) O ?_
 refine vq (dw O O O) O ?_
 refine va O O (ag (ae ?_))
 refine aL O (fun a3 => ?_) (fun a4 => ?_)
 refine sr ?_
 refine vm O O ?_
 refine vn O O ?_
 refine vq (aw O O underlying217 O O sizeOf30 O) O ?_
 refine aX (aV 0 O O O sizeOf30 O O (aY (by rfl)) O O) O O ?_
 intro _
 refine nx ?_
 refine va O O (ag (ae (ak ?_)))
 refine aP ?_
 refine ax ?_
 exact av (none, 0) O O O (.row_nil (.sel 0 O (.sel 0 O (.nil _))))
 refine ap ?_
 refine bp (Γ := Unit) () [[], [], [1], [1, 2], [1, 2, 3], [1, 2, 3, 4], [], [6], [6, 7], [6, 7, 8], [1, 2, 3, 4, 5, 6, 7, 8, 9], [], [1, 2, 3, 4, 5, 6, 7, 8, 9, 10, 11], rL 13, rL 14] [] [0, 1, 2, 3, 4, 5, 6, 7, 8, 9, 10, 11, 12, 13, 14] (fun i => [[0], [0], [0], [0], [0], [0], [0], [0], [0], [0], [0], [0], [0], [0], [0]].getD i []) (fun i => [[], [], [], [], [], [], [], [], [], [], [], [], [], [], []].getD i []) (fun γ i => [.int .i64 a.1, .pointer (some ⟨b0, 0, none⟩), .pointer (some ⟨b0, 0, none⟩), .pointer (some ⟨b0, 0, none⟩), .slice d b.length c, .int .i64 (b.length : Int), .pointer (some ⟨b0, 0, none⟩), .pointer (some ⟨b0, 0, none⟩), .pointer (some ⟨b0, 1, none⟩), .int .i64 a.2.2.2.1, .int .i64 (IntKind.i64.wrap ((b.length : Int) - a.2.2.2.1)), .int .i64 a.2.1, .int .i64 (IntKind.i64.wrap ((IntKind.i64.wrap ((b.length : Int) - a.2.2.2.1)) - a.2.1)), .bool (decide (IntKind.i64.wrap ((IntKind.i64.wrap ((b.length : Int) - a.2.2.2.1)) - a.2.1) < a.1)), .bool (decide (IntKind.i64.wrap ((IntKind.i64.wrap ((b.length : Int) - a.2.2.2.1)) - a.2.1) < a.1))].getD i undef) (fun j γ => [[obj b0 217 [.slice d b.length c, .int .i64 a.2.2.2.1, .int .i64 a.2.2.2.2], F]].getD j []) (fun γ => [(0, .pointer (some ⟨b0, 0, none⟩)), (5, .int .i64 a.1), (6, .int .i64 a.2.1), (26, .bool (decide (IntKind.i64.wrap ((IntKind.i64.wrap ((b.length : Int) - a.2.2.2.1)) - a.2.1) < a.1)))]) mixed (by decide) (by decide) (by decide) (by decide) (by decide) (by decide) (by decide) 67 O (by decide) (by decide) (by decide) (Ent.refl _) ?_ ?_ (fun _ => ⟨O, O, O, O, trivial⟩) ?_
 exact (aq O (fun γ => qm O (.o (s := 5) O (by decide) .nil) O) (aq O (fun γ => qm O (.o (s := 0) O (by decide) .nil) O) (aq O (fun γ => qp O O (.v 1 O O .nil) (cj O O) O) (aq O (fun γ => qp O O (.v 2 O O .nil) (aw O O underlying217 O O sizeOf25 O) O) (aq O (fun γ => qp O O (.v 3 O O .nil) (ai O O isAgg25 (.obj 0 O O)) O) (aq O (fun γ => qp O O (.v 4 O O .nil) (bi O O O underlying25) O) (aq O (fun γ => qm O (.o (s := 0) O (by decide) .nil) O) (aq O (fun γ => qp O O (.v 6 O O .nil) (cj O O) O) (aq O (fun γ => qp O O (.v 7 O O .nil) (aw O O underlying217 O O sizeOf3 O) O) (aq O (fun γ => qp O O (.v 8 O O .nil) (ai O O isAgg3 (.obj 0 O O)) O) (aq O (fun γ => qp O O (.v 5 O O (.v 9 O O .nil)) (ft O O O) O) (aq O (fun γ => qm O (.o (s := 6) O (by decide) .nil) O) (aq O (fun γ => qp O O (.v 10 O O (.v 11 O O .nil)) (ft O O O) O) (aq O (fun γ => qp O O (.v 0 O O (.v 12 O O .nil)) (dw O O O) O) (aq O (fun γ => qp O O (.v 13 O O .nil) (dA O O) O) zA)))))))))))))))
 exact zA
 intro a5
 refine ae ?_
 refine aL O (fun a6 => ?_) (fun an => ?_)
 refine sr ?_
 refine vm O O ?_
 refine vn O O ?_
 refine vq (aw O O underlying217 O O sizeOf30 O) O ?_
 refine aX (aV 0 O O O sizeOf30 O O (aY (by rfl)) O O) O O ?_
 intro _
 refine nx ?_
 refine va O O (ag (ae (ak ?_)))
 refine aP ?_
 refine ax ?_
 exact av (none, 0) O O O (.row_nil (.sel 0 O (.sel 0 O (.nil _))))
 refine au ?_
 refine bb (ae (sr ?_))
 refine vm O O ?_
 refine vn O O ?_
 refine vq (aw O O underlying217 O O sizeOf3 O) O ?_
 refine vq (ai O O isAgg3 (.obj 0 O O)) O ?_
 refine vm O O ?_
 refine vq (bj O O O) O ?_
 refine va O O (nx ?_)
 refine vm O O ?_
 refine vm O O ?_
 refine vm O O ?_
 refine vq (bj O O O) O ?_
 refine vn O O ?_
 refine vq (aw O O underlying217 O O sizeOf3 O) O ?_
 refine aX (aV 0 O O O sizeOf3 O O (aY (by rfl)) O O) O O ?_
 intro _
 refine ag (ae (ap ?_))
 refine bv (fun t => ?_)
 obtain ⟨n, p, x, aa, ab, ad⟩ := ex (lo := IntKind.i64.wrap (a.2.2.2.1 + a.2.1)) (hi := IntKind.i64.wrap ((IntKind.i64.wrap (a.2.2.2.1 + a.2.1)) + a.1)) u m t
 refine cu (fun e af => ?_)
 refine bp (Γ := (Option Addr × Nat)) (none, 0) [[], [0], [0, 1], [0, 1, 2], [], [], [5], [5, 6], [5, 6, 7], rL 9, rL 10, rL 11] [10] [0, 1, 2, 3, 4, 5, 6, 7, 8, 9, 11] (fun i => [[0], [0], [0], [0], [0], [0], [0], [0], [0], [0], [], [1]].getD i []) (fun i => [[], [], [], [], [], [], [], [], [], [], rL 10, []].getD i []) (fun γ i => [.pointer (some ⟨b0, 0, none⟩), .pointer (some ⟨b0, 0, none⟩), .pointer (some ⟨b0, 0, none⟩), .slice d b.length c, .int .i64 (IntKind.i64.wrap (a.2.2.2.1 + a.2.1)), .pointer (some ⟨b0, 0, none⟩), .pointer (some ⟨b0, 0, none⟩), .pointer (some ⟨b0, 1, none⟩), .int .i64 (IntKind.i64.wrap ((IntKind.i64.wrap (a.2.2.2.1 + a.2.1)) + a.1)), .slice n ((cut b (IntKind.i64.wrap (a.2.2.2.1 + a.2.1)) (IntKind.i64.wrap ((IntKind.i64.wrap (a.2.2.2.1 + a.2.1)) + a.1))).length) p, .slice γ.1 e.length γ.2, .slice γ.1 e.length γ.2].getD i undef) (fun j γ => [[obj b0 217 [.slice d b.length c, .int .i64 (IntKind.i64.wrap ((IntKind.i64.wrap (a.2.2.2.1 + a.2.1)) + a.1)), .int .i64 a.2.2.2.2], F], [Row 5 1 γ.1 e.length γ.2 (ao e), obj b0 217 [.slice d b.length c, .int .i64 (IntKind.i64.wrap ((IntKind.i64.wrap (a.2.2.2.1 + a.2.1)) + a.1)), .int .i64 a.2.2.2.2], F]].getD j []) (fun γ => [(4, .slice γ.1 e.length γ.2)]) mixed (by decide) (by decide) (by decide) (by decide) (by decide) (by decide) (by decide) 67 O (by decide) (by decide) (by decide) (Ent.refl _) ?_ ?_ (fun _ => ⟨O, trivial⟩) ?_
 exact (aq O (fun γ => qm O (.o (s := 0) O (by decide) .nil) O) (aq O (fun γ => qp O O (.v 0 O O .nil) (cj O O) O) (aq O (fun γ => qp O O (.v 1 O O .nil) (aw O O underlying217 O O sizeOf25 O) O) (aq O (fun γ => qp O O (.v 2 O O .nil) (ai O O isAgg25 (.obj 0 O O)) O) (aq O (fun γ => qm O (.o (s := 8) O (by decide) .nil) O) (aq O (fun γ => qm O (.o (s := 0) O (by decide) .nil) O) (aq O (fun γ => qp O O (.v 5 O O .nil) (cj O O) O) (aq O (fun γ => qp O O (.v 6 O O .nil) (aw O O underlying217 O O sizeOf3 O) O) (aq O (fun γ => qp O O (.v 7 O O .nil) (ai O O isAgg3 (.obj 0 O O)) O) (aq O (fun γ => qp O O (.v 3 O O (.v 4 O O (.v 8 O O .nil))) (dU (l := b) (lo' := IntKind.i64.wrap (a.2.2.2.1 + a.2.1)) (hi' := IntKind.i64.wrap ((IntKind.i64.wrap (a.2.2.2.1 + a.2.1)) + a.1)) O O O O underlying25 sizeOf5 (.inr ⟨_, O⟩) (.inr ⟨_, O⟩) t m x) O) (aq O (fun γ => qp O O (.v 10 O O .nil) (dA O O) O) zA)))))))))))
 exact (ac (fun γ => eo (Z := Option Addr × Nat) (fun z => z) O O (.v 9 O O .nil) (ar (vs := [.slice n ((cut b (IntKind.i64.wrap (a.2.2.2.1 + a.2.1)) (IntKind.i64.wrap ((IntKind.i64.wrap (a.2.2.2.1 + a.2.1)) + a.1))).length) p]) (cap := []) (A := []) (rst := [obj b0 217 [.slice d b.length c, .int .i64 (IntKind.i64.wrap ((IntKind.i64.wrap (a.2.2.2.1 + a.2.1)) + a.1)), .int .i64 a.2.2.2.2], F]) O O O O O O call160 (.sel 0 O (.sel 0 O (.nil _))) (fL.calls _ _ n p (cut b (IntKind.i64.wrap (a.2.2.2.1 + a.2.1)) (IntKind.i64.wrap ((IntKind.i64.wrap (a.2.2.2.1 + a.2.1)) + a.1))) (aa.lend 1 O) ab (Nat.le_trans ad q)) af) (fun _ => ⟨O, O, O, O, O, O, O, O, O, O, trivial⟩) (fun _ => .inr O) (fun z => Ent.refl _)) zA)
 intro w
 refine ae (ak ?_)
 exact av (w.1, w.2) O O O (.sel 0 O (.sel 0 O (.sel 0 O (.nil _))))

def cD.f (a : List UInt8) (b : Int) (c : Int) : Option (Int) := some (IntKind.i64.wrap ((a.length : Int) - b))
theorem cD.calls (W : World) (F : HA) (b0 : Nat) (d : Option Addr) (c : Nat) (a : List UInt8) (b : Int) (e : Int) (k : Rd F d (ao a)) (g : a.length ≤ c) (h : c ≤ maxLen) :
    Fn Tryz.prog W 197 [.pointer (some ⟨b0, 0, none⟩)] [obj b0 217 [.slice d a.length c, .int .i64 b, .int .i64 e]] F (cD.f a b e) (fun (r : Int) (y : Unit) => .int .i64 r) (fun r y => [obj b0 217 [.slice d a.length c, .int .i64 b, .int .i64 e]]) := by
 unfold cD.f
 refine aJ 13 Tryz.func197 O Tryz.ntmps197 O ?_
 refine sr ?_
 refine va O O (ag (ae (ap ?_)))
 refine bp (Γ := Unit) () [[], [0], [0, 1], [0, 1, 2], rL 4, [], [5], [5, 6], [5, 6, 7], rL 9, rL 10] [] [0, 1, 2, 3, 4, 5, 6, 7, 8, 9, 10] (fun i => [[0], [0], [0], [0], [0], [0], [0], [0], [0], [0], [0]].getD i []) (fun i => [[], [], [], [], [], [], [], [], [], [], []].getD i []) (fun γ i => [.pointer (some ⟨b0, 0, none⟩), .pointer (some ⟨b0, 0, none⟩), .pointer (some ⟨b0, 0, none⟩), .slice d a.length c, .int .i64 (a.length : Int), .pointer (some ⟨b0, 0, none⟩), .pointer (some ⟨b0, 0, none⟩), .pointer (some ⟨b0, 1, none⟩), .int .i64 b, .int .i64 (IntKind.i64.wrap ((a.length : Int) - b)), .int .i64 (IntKind.i64.wrap ((a.length : Int) - b))].getD i undef) (fun j γ => [[obj b0 217 [.slice d a.length c, .int .i64 b, .int .i64 e], F]].getD j []) (fun γ => [(2, .int .i64 (IntKind.i64.wrap ((a.length : Int) - b)))]) mixed (by decide) (by decide) (by decide) (by decide) (by decide) (by decide) (by decide) 13 O (by decide) (by decide) (by decide) (Ent.refl _) ?_ ?_ (fun _ => ⟨O, trivial⟩) ?_
 exact (aq O (fun γ => qm O (.o (s := 0) O (by decide) .nil) O) (aq O (fun γ => qp O O (.v 0 O O .nil) (cj O O) O) (aq O (fun γ => qp O O (.v 1 O O .nil) (aw O O underlying217 O O sizeOf25 O) O) (aq O (fun γ => qp O O (.v 2 O O .nil) (ai O O isAgg25 (.obj 0 O O)) O) (aq O (fun γ => qp O O (.v 3 O O .nil) (bi O O O underlying25) O) (aq O (fun γ => qm O (.o (s := 0) O (by decide) .nil) O) (aq O (fun γ => qp O O (.v 5 O O .nil) (cj O O) O) (aq O (fun γ => qp O O (.v 6 O O .nil) (aw O O underlying217 O O sizeOf3 O) O) (aq O (fun γ => qp O O (.v 7 O O .nil) (ai O O isAgg3 (.obj 0 O O)) O) (aq O (fun γ => qp O O (.v 4 O O (.v 8 O O .nil)) (ft O O O) O) (aq O (fun γ => qp O O (.v 9 O O .nil) (dA O O) O) zA)))))))))))
 exact zA
 intro l
 refine ae (ak ?_)
 exact av () O O O (.sel 0 O (.sel 0 O (.nil _)))
def cD.v (a : List UInt8) (b : Int) (c : Int) : Int := (cD.f a b c).getD 0
theorem cD.tot (a : List UInt8) (b : Int) (c : Int) : cD.f a b c = some (cD.v a b c) := by
  have h : ∃ r, cD.f a b c = some r := by
    unfold cD.f
    repeat' (first | exact ⟨_, rfl⟩ | split | simp only [Option.bind_some])
  obtain ⟨r, h⟩ := h
  unfold cD.v
  rw [h]; rfl

def cm.f (b : List UInt8) (c : Int) (a : Int) : Option (Int) := (if a = (0 : Int) then ((cD.f b c a).bind fun d => (some (decide ((0 : Int) < d)))) else (some false)).bind fun e => (if e = true then (some 3) else (some a))
theorem cm.calls (W : World) (F : HA) (b0 : Nat) (c : Option Addr) (b : Nat) (a : List UInt8) (d : Int) (e : Int) (i : Rd F c (ao a)) (g : a.length ≤ b) (h : b ≤ maxLen) :
    Fn Tryz.prog W 173 [.pointer (some ⟨b0, 0, none⟩)] [obj b0 217 [.slice c a.length b, .int .i64 d, .int .i64 e]] F (cm.f a d e) (fun (r : Int) (y : Unit) => .int .i64 r) (fun r y => [obj b0 217 [.slice c a.length b, .int .i64 d, .int .i64 e]]) := by
 unfold cm.f
 refine aJ 17 Tryz.func173 O Tryz.ntmps173 O ?_
 refine sr ?_
 refine va O O (ag (ae (ap (sr ?_))))
 refine vm O O ?_
 refine vn O O ?_
 refine vq (aw O O underlying217 O O sizeOf30 O) O ?_
 refine vq (ai O O isAgg30 (.obj 0 O O)) O ?_
 refine vq (bD O O O) O ?_
 refine vm O O ?_
 refine dk 4 (S := Bool) (Unit) (fun s y => [(0, .pointer (some ⟨b0, 0, none⟩)), (12, .bool s)]) (fun s y => [obj b0 217 [.slice c a.length b, .int .i64 d, .int .i64 e], F]) ?_ ?_
 refine iH (fun j => ?_) (fun k => ?_)
 rw [j]
 refine aO (aS O O) O O O O O O ?_
 refine am (fun m l => ?_)
 refine fk (ar (vs := [.pointer (some ⟨b0, 0, none⟩)]) (cap := []) (A := [obj b0 217 [.slice c a.length b, .int .i64 d, .int .i64 e]]) (rst := [F]) O O O O O O call197 (.sel 0 O (.sel 0 O (.nil _))) (cD.calls _ _ b0 c b a d e (i.lend 0 O) g h) l) O O O O O O ?_
 intro n
 refine aO (dw O O O) O O O O O O ?_
 refine vq (bL O O O O O) O (ag ?_)
 exact aM (s := decide ((0 : Int) < m)) () ⟨O, O, trivial⟩ (.sel 0 O (.sel 0 O (.nil _)))
 rw [k]
 refine aI O O O O O O ?_
 refine aI O O O O O O ?_
 refine aI O O O O O O ?_
 refine vq (bL O O O O O) O (ag ?_)
 exact aM (s := false) () ⟨O, O, trivial⟩ (.sel 0 O (.sel 0 O (.nil _)))
 intro o p
 refine ag (ae ?_)
 refine aT O (fun q => ?_) (fun t => ?_)
 refine sr ?_
 refine va O O (ag (ae (ak ?_)))
 refine ax ?_
 exact av () O O O (.sel 0 O (.sel 0 O (.nil _)))
 refine au ?_
 refine ae (sr ?_)
 refine vm O O ?_
 refine vn O O ?_
 refine vq (aw O O underlying217 O O sizeOf30 O) O ?_
 refine vq (ai O O isAgg30 (.obj 0 O O)) O ?_
 refine va O O (ag (ae (ak ?_)))
 exact av () O O O (.sel 0 O (.sel 0 O (.nil _)))
def cm.v (a : List UInt8) (b : Int) (c : Int) : Int := (cm.f a b c).getD 0
theorem cm.tot (a : List UInt8) (b : Int) (c : Int) : cm.f a b c = some (cm.v a b c) := by
  have h : ∃ r, cm.f a b c = some r := by
    unfold cm.f
    repeat' (first | exact ⟨_, rfl⟩ | split | simp only [Option.bind_some, cD.tot])
  obtain ⟨r, h⟩ := h
  unfold cm.v
  rw [h]; rfl

def dR.f (a : Int) (b : Int) (c : List UInt8) : Option (Bool) := some (((decide (a = (0 : Int))) && (decide (b = (0 : Int)))) && (decide ((c.length : Int) = (0 : Int))))
theorem dR.calls (W : World) (F : HA) (a : Int) (c : Int) (g : Option Addr) (e : Nat) (d : List UInt8) (p : Rd F g (ao d)) (n : d.length ≤ e) (o : e ≤ maxLen) :
    Fn Tryz.prog W 117 [.agg #[.int .i64 a, .int .i64 c, .slice g d.length e]] [] F (dR.f a c d) (fun (r : Bool) (y : Unit) => .bool r) (fun r y => []) := by
 unfold dR.f
 refine aJ 17 Tryz.func117 O Tryz.ntmps117 O ?_
 refine sr ?_
 refine ah (dL O O O) O O O ?_
 intro h
 refine va O O (nx ?_)
 refine vq (aw O O underlying27 O O sizeOf3 O) O ?_
 refine vq (ai O O isAgg3 (.obj 0 O O)) O ?_
 refine vq (bD O O O) O ?_
 refine vm O O ?_
 refine az (b := decide (a = (0 : Int))) (fun q => RQ.sub (E' := [(1, .pointer (some ⟨h, 0, none⟩))]) ⟨O, trivial⟩ (aw O O underlying27 O O sizeOf3 O)) O O O O O ?_
 refine az (b := decide (a = (0 : Int))) (fun i => RQ.sub (E' := [(7, .pointer (some ⟨h, 1, none⟩))]) ⟨aZ O i, trivial⟩ (ai O O isAgg3 (.obj 0 O O))) O O O O O ?_
 refine az (b := decide (a = (0 : Int))) (fun j => RQ.sub (E' := [(8, .int .i64 c)]) ⟨aZ O j, trivial⟩ (bD O O O)) O O O O O ?_
 refine vq (dQ O O O) O ?_
 refine vm O O ?_
 refine az (b := (decide (a = (0 : Int))) && (decide (c = (0 : Int)))) (fun s => RQ.sub (E' := [(1, .pointer (some ⟨h, 0, none⟩))]) ⟨O, trivial⟩ (aw O O underlying27 O O sizeOf25 O)) O O O O O ?_
 refine az (b := (decide (a = (0 : Int))) && (decide (c = (0 : Int)))) (fun k => RQ.sub (E' := [(12, .pointer (some ⟨h, 2, none⟩))]) ⟨aZ O k, trivial⟩ (ai O O isAgg25 (.obj 0 O O))) O O O O O ?_
 refine az (b := (decide (a = (0 : Int))) && (decide (c = (0 : Int)))) (fun l => RQ.sub (E' := [(13, .slice g d.length e)]) ⟨aZ O l, trivial⟩ (bi O O O underlying25)) O O O O O ?_
 refine az (b := (decide (a = (0 : Int))) && (decide (c = (0 : Int)))) (fun m => RQ.sub (E' := [(14, .int .i64 (d.length : Int))]) ⟨aZ O m, trivial⟩ (bD O O O)) O O O O O ?_
 refine vq (dQ O O O) O ?_
 refine va O O (ag (ae (ak ?_)))
 exact av () O O O (.sel 1 O (.nil _))
def dR.v (a : Int) (b : Int) (c : List UInt8) : Bool := (dR.f a b c).getD false
theorem dR.tot (a : Int) (b : Int) (c : List UInt8) : dR.f a b c = some (dR.v a b c) := by
  have h : ∃ r, dR.f a b c = some r := by
    unfold dR.f
    repeat' (first | exact ⟨_, rfl⟩ | split | simp only [Option.bind_some])
  obtain ⟨r, h⟩ := h
  unfold dR.v
  rw [h]; rfl

def cU.f (x0 : Int) (x1 : Int) : Option (Bool) := some ((decide (x1 ≤ x0)) && (decide (x0 ≤ (4611686018427387904 : Int))))
theorem cU.calls (W : World) (F : HA) (x0 : Int) (x1 : Int)  :
    Fn Tryz.prog W 118 [.int .i64 x0, .int .i64 x1] [] F (cU.f x0 x1) (fun (r : Bool) (y : Unit) => .bool r) (fun r y => []) := by
 unfold cU.f
 refine aJ 12 Tryz.func118 O Tryz.ntmps118 O ?_
 refine sr ?_
 refine va O O (nx ?_)
 refine vm O O ?_
 refine vm O O ?_
 refine vq (gP O O O) O ?_
 refine vm O O ?_
 refine az (b := decide (x1 ≤ x0)) (fun c => RQ.sub (E' := [(0, .int .i64 x0)]) ⟨O, trivial⟩ (aS O O)) O O O O O ?_
 refine az (b := decide (x1 ≤ x0)) (fun a => RQ.sub (E' := [(9, .int .i64 x0)]) ⟨aZ O a, trivial⟩ (nu O O O)) O O O O O ?_
 refine vq (dQ O O O) O ?_
 refine va O O (ag (ae (ak ?_)))
 exact av () O O O (.sel 0 O (.nil _))
def cU.v (x0 : Int) (x1 : Int) : Bool := (cU.f x0 x1).getD false
theorem cU.tot (x0 : Int) (x1 : Int) : cU.f x0 x1 = some (cU.v x0 x1) := by
  have h : ∃ r, cU.f x0 x1 = some r := by
    unfold cU.f
    repeat' (first | exact ⟨_, rfl⟩ | split | simp only [Option.bind_some])
  obtain ⟨r, h⟩ := h
  unfold cU.v
  rw [h]; rfl

def bK.f (a : Int) (b : Int) (c : List UInt8) : Option (Int) := (dR.f a b c).bind fun g => (if g = true then (some 0) else ((cU.f a (1 : Int)).bind fun h => ((if (!h) = true then (some true) else ((cU.f b (1 : Int)).bind fun d => (some (!d)))).bind fun e => (if e = true then (some 1) else (if (524288 : Int) < (c.length : Int) then (some 3) else (some 0))))))
theorem bK.calls (W : World) (F : HA) (a : Int) (b : Int) (e : Option Addr) (d : Nat) (c : List UInt8) (n : Rd F e (ao c)) (i : c.length ≤ d) (j : d ≤ maxLen) :
    Fn Tryz.prog W 72 [.agg #[], .agg #[.int .i64 a, .int .i64 b, .slice e c.length d]] [] F (bK.f a b c) (fun (r : Int) (y : Unit) => .int .i64 r) (fun r y => []) := by
 unfold bK.f
 refine aJ 24 Tryz.func72 O Tryz.ntmps72 O ?_
 refine sr ?_
 refine ah (dL O O O) O O O ?_
 intro h
 refine ah (dL O O O) O O O ?_
 intro g
 refine va O O (ag (ae (ap ?_)))
 refine aK ?_
 refine sr ?_
 refine vq (du 0 O O isAgg27 sizeOf27 O O) O ?_
 refine am (fun ad o => ?_)
 refine ah (ar (vs := [.agg #[.int .i64 a, .int .i64 b, .slice e c.length d]]) (cap := []) (A := []) (rst := [obj g 27 [.int .i64 a, .int .i64 b, .slice e c.length d], obj h 79 [], F]) O O O O O O call117 (.sel 0 O (.sel 0 O (.sel 0 O (.nil _)))) (dR.calls _ _ a b e d c (n.lend 2 O) i j) o) O O O ?_
 intro af
 refine va O O (ag (ae ?_))
 refine aT O (fun al => ?_) (fun an => ?_)
 refine sr ?_
 refine va O O (ag (ae (ak ?_)))
 refine aP ?_
 refine ax ?_
 exact av () O O O (.sel 2 O (.nil _))
 refine sr ?_
 refine vq (aw O O underlying27 O O sizeOf3 O) O ?_
 refine vq (ai O O isAgg3 (.obj 0 O O)) O ?_
 refine am (fun a0 p => ?_)
 refine ah (ar (vs := [.int .i64 a, .int .i64 1]) (cap := []) (A := []) (rst := [obj g 27 [.int .i64 a, .int .i64 b, .slice e c.length d], obj h 79 [], F]) O O O O O O call118 (.sel 0 O (.sel 0 O (.sel 0 O (.nil _)))) (cU.calls _ _ a (1 : Int) ) p) O O O ?_
 intro t
 refine vq (fE O O) O ?_
 refine vm O O ?_
 refine dk 5 (S := Bool) (Unit) (fun s y => [(3, .pointer (some ⟨g, 0, none⟩)), (18, .bool s)]) (fun s y => [obj g 27 [.int .i64 a, .int .i64 b, .slice e c.length d], F]) ?_ ?_
 refine eI (fun k => ?_) (fun l => ?_)
 rw [k]
 refine aI O O O O O O ?_
 refine aI O O O O O O ?_
 refine aI O O O O O O ?_
 refine aI O O O O O O ?_
 refine vq (bL O O O O O) O (ag ?_)
 exact aM (s := true) () ⟨O, O, trivial⟩ (.sel 0 O (.sel 1 O (.nil _)))
 rw [l]
 refine aO (aw O O underlying27 O O sizeOf3 O) O O O O O O ?_
 refine aO (ai O O isAgg3 (.obj 0 O O)) O O O O O O ?_
 refine am (fun q m => ?_)
 refine fk (ar (vs := [.int .i64 b, .int .i64 1]) (cap := []) (A := []) (rst := [obj g 27 [.int .i64 a, .int .i64 b, .slice e c.length d], obj h 79 [], F]) O O O O O O call118 (.sel 0 O (.sel 0 O (.sel 0 O (.nil _)))) (cU.calls _ _ b (1 : Int) ) m) O O O O O O ?_
 intro u
 refine aO (fE O O) O O O O O O ?_
 refine vq (bL O O O O O) O (ag ?_)
 exact aM (s := !q) () ⟨O, O, trivial⟩ (.sel 0 O (.sel 1 O (.nil _)))
 intro v w
 refine va O O (ag (ae ?_))
 refine aT O (fun x => ?_) (fun z => ?_)
 refine sr ?_
 refine va O O (ag (ae (ak ?_)))
 refine aP ?_
 refine ax ?_
 exact av () O O O (.sel 1 O (.nil _))
 refine sr ?_
 refine vq (aw O O underlying27 O O sizeOf25 O) O ?_
 refine vq (ai O O isAgg25 (.obj 0 O O)) O ?_
 refine vq (bi O O O underlying25) O ?_
 refine vq (dw O O O) O ?_
 refine va O O (ag (ae ?_))
 refine aL O (fun aa => ?_) (fun ab => ?_)
 refine sr ?_
 refine va O O (ag (ae (ak ?_)))
 refine aP ?_
 refine ax ?_
 exact av () O O O (.sel 1 O (.nil _))
 refine au ?_
 refine bb (ae (sr ?_))
 refine va O O (ag (ae (ak ?_)))
 exact av () O O O (.sel 1 O (.nil _))
def bK.v (a : Int) (b : Int) (c : List UInt8) : Int := (bK.f a b c).getD 0
theorem bK.tot (a : Int) (b : Int) (c : List UInt8) : bK.f a b c = some (bK.v a b c) := by
  have h : ∃ r, bK.f a b c = some r := by
    unfold bK.f
    repeat' (first | exact ⟨_, rfl⟩ | split | simp only [Option.bind_some, dR.tot, cU.tot])
  obtain ⟨r, h⟩ := h
  unfold bK.v
  rw [h]; rfl

def ir.f (d : List UInt8) (e : Int) (g : Int) (a : Int) (b : Int) (c : List UInt8) : Option (Int × Int × List UInt8 × Int) := (cm.f d e g).bind fun h => ((if h = (0 : Int) then ((bK.f a b c).bind fun j => (some j)) else (some h)).bind fun i => (if i = (0 : Int) then (some (a, b, c, 0)) else (some (0, 0, ([] : List UInt8), i))))
theorem ir.calls (W : World) (F : HA) (G : HA) (hG : Up G F) (l : Nat) (e : Option Addr) (b : Nat) (a : List UInt8) (g : Int) (h : Int) (j : Int) (k : Int) (i : Option Addr) (c : Nat) (d : List UInt8) (v : Rd G e (ao a)) (q : a.length ≤ b) (t : b ≤ maxLen) (u : Rd G i (ao d)) (n : d.length ≤ c) (o : c ≤ maxLen) :
    Fn Tryz.prog W 136 [.pointer (some ⟨l, 0, none⟩), .iface 79 (.agg #[]), .agg #[.int .i64 j, .int .i64 k, .slice i d.length c]] [obj l 217 [.slice e a.length b, .int .i64 g, .int .i64 h]] F (ir.f a g h j k d) (fun (r : Int × Int × List UInt8 × Int) (y : Option Addr × Nat) => .tuple #[.agg #[.int .i64 r.1, .int .i64 r.2.1, .slice y.1 r.2.2.1.length y.2], .int .i64 r.2.2.2]) (fun r y => [pr (Rd (G) y.1 (ao r.2.2.1) ∧ r.2.2.1.length ≤ y.2 ∧ y.2 ≤ maxLen), obj l 217 [.slice e a.length b, .int .i64 g, .int .i64 h]]) := by
 unfold ir.f
 refine aJ 22 Tryz.func136 O Tryz.ntmps136 O ?_
 refine sr ?_
 refine ah (dL O O O) O O O ?_
 intro p
 refine ah (df O zeroValue27 O) O O O ?_
 intro m
 refine va O O (nx ?_)
 refine vm O O ?_
 refine am (fun aa x => ?_)
 refine ah (ar (vs := [.pointer (some ⟨l, 0, none⟩)]) (cap := []) (A := [obj l 217 [.slice e a.length b, .int .i64 g, .int .i64 h]]) (rst := [obj m 27 [.int .i64 0, .int .i64 0, .slice none 0 0], obj p 27 [.int .i64 j, .int .i64 k, .slice i d.length c], F]) O O O O O O call173 (.sel 2 O (.sel 0 O (.sel 0 O (.sel 0 O (.nil _))))) (cm.calls _ _ l e b a g h ((v.up hG).lend 2 O) q t) x) O O O ?_
 intro a0
 refine va O O (ag (ae ?_))
 refine bO (S := Int) (Unit) (fun s y => [(5, .pointer (some ⟨p, 0, none⟩)), (6, .pointer (some ⟨m, 0, none⟩)), (8, .int .i64 s)]) (fun s y => [obj l 217 [.slice e a.length b, .int .i64 g, .int .i64 h], obj m 27 [.int .i64 0, .int .i64 0, .slice none 0 0], obj p 27 [.int .i64 j, .int .i64 k, .slice i d.length c], F]) ?_ ?_
 refine sr ?_
 refine vm O O ?_
 refine vq (bD O O O) O (ag (ae ?_))
 refine aL O (fun a1 => ?_) (fun a2 => ?_)
 refine aE ?_
 refine vm O O ?_
 refine vq (du 2 O O isAgg27 sizeOf27 O O) O ?_
 refine am (fun z w => ?_)
 refine ah (qj (vs := [.agg #[.int .i64 j, .int .i64 k, .slice i d.length c]]) (A := []) (rst := [obj l 217 [.slice e a.length b, .int .i64 g, .int .i64 h], obj m 27 [.int .i64 0, .int .i64 0, .slice none 0 0], obj p 27 [.int .i64 j, .int .i64 k, .slice i d.length c], F]) O O O O O (fun _ => by kernel_rfl) call72 (.sel 0 O (.sel 0 O (.sel 0 O (.sel 0 O (.nil _))))) (bK.calls _ _ j k i c d ((u.up hG).lend 3 O) n o) w) O O O ?_
 intro ad
 refine va O O (ag ?_)
 exact aM (s := z) () ⟨O, O, O, trivial⟩ (.sel 0 O (.sel 0 O (.sel 0 O (.sel 0 O (.nil _)))))
 refine au ?_
 exact aM (s := aa) () ⟨O, O, O, trivial⟩ (.sel 0 O (.sel 0 O (.sel 0 O (.sel 0 O (.nil _)))))
 intro ab a3
 refine ap (sr ?_)
 refine vm O O ?_
 refine vq (cz O O O) O (ag (ae ?_))
 refine br O (fun af => ?_) (fun al => ?_)
 refine au ?_
 refine ae (sr ?_)
 refine vq (du 2 O O isAgg27 sizeOf27 O O) O ?_
 refine aX (aV 1 O O O sizeOf27 O O (aY (by rfl)) O O) O O ?_
 intro _
 refine va O O (ag (ae (ak ?_)))
 exact gi (vs := [.agg #[.int .i64 j, .int .i64 k, .slice i d.length c], .int .i64 0]) (i, c) O ⟨⟨m, O, fy 1 isAgg27 sizeOf27 O O⟩, O, trivial⟩ O (.pr_in ⟨u, n, o⟩ (.sel 0 O (.sel 2 O (.nil _))))
 refine sr ?_
 refine ah (df O zeroValue27 O) O O O ?_
 intro an
 refine nx ?_
 refine vq (du 0 O O isAgg27 sizeOf27 O O) O ?_
 refine vm O O ?_
 refine aX (aV 2 O O O sizeOf27 O O (aY (by rfl)) O O) O O ?_
 intro _
 refine va O O (ag (ae (ak ?_)))
 refine ax ?_
 exact gi (vs := [.agg #[.int .i64 0, .int .i64 0, .slice none 0 0], .int .i64 ab]) (none, 0) O ⟨⟨m, O, fy 2 isAgg27 sizeOf27 O O⟩, O, trivial⟩ O (.pr_in ⟨Rd.nil _ _, Nat.le_refl _, Nat.zero_le _⟩ (.sel 1 O (.sel 3 O (.nil _))))

def dV.f (d : List UInt8) (e : Int) (g : Int) (a : Int) (b : Int) (c : List UInt8) : Option (Int × Int × List UInt8 × Int) := (cm.f d e g).bind fun h => ((if h = (0 : Int) then ((bK.f a b c).bind fun j => (some j)) else (some h)).bind fun i => (if i = (0 : Int) then (some (a, b, c, 0)) else (some (0, 0, ([] : List UInt8), i))))
theorem dV.calls (W : World) (F : HA) (l : Nat) (g : Option Addr) (e : Nat) (d : List UInt8) (h : Int) (i : Int) (j : Int) (k : Int) (b : Option Addr) (c : Nat) (a : List UInt8) (q : Rd F g (ao d)) (o : d.length ≤ e) (p : e ≤ maxLen) :
    Fn Tryz.prog W 136 [.pointer (some ⟨l, 0, none⟩), .iface 79 (.agg #[]), .agg #[.int .i64 j, .int .i64 k, .slice b a.length c]] [obj l 217 [.slice g d.length e, .int .i64 h, .int .i64 i], Row 5 1 b a.length c (ao a)] F (dV.f d h i j k a) (fun (r : Int × Int × List UInt8 × Int) (y : Option Addr × Nat) => .tuple #[.agg #[.int .i64 r.1, .int .i64 r.2.1, .slice y.1 r.2.2.1.length y.2], .int .i64 r.2.2.2]) (fun r y => [Row 5 1 y.1 r.2.2.1.length y.2 (ao r.2.2.1), obj l 217 [.slice g d.length e, .int .i64 h, .int .i64 i]]) := by
 unfold dV.f
 refine aJ 22 Tryz.func136 O Tryz.ntmps136 O ?_
 refine sr ?_
 refine ah (dL O O O) O O O ?_
 intro n
 refine ah (df O zeroValue27 O) O O O ?_
 intro m
 refine va O O (nx ?_)
 refine vm O O ?_
 refine am (fun aa x => ?_)
 refine ah (ar (vs := [.pointer (some ⟨l, 0, none⟩)]) (cap := []) (A := [obj l 217 [.slice g d.length e, .int .i64 h, .int .i64 i]]) (rst := [obj m 27 [.int .i64 0, .int .i64 0, .slice none 0 0], obj n 27 [.int .i64 j, .int .i64 k, .slice b a.length c], Row 5 1 b a.length c (ao a), F]) O O O O O O call173 (.sel 2 O (.sel 0 O (.sel 0 O (.sel 0 O (.sel 0 O (.nil _)))))) (cm.calls _ _ l g e d h i (q.lend 3 O) o p) x) O O O ?_
 intro a1
 refine va O O (ag (ae ?_))
 refine bO (S := Int) (Unit) (fun s y => [(5, .pointer (some ⟨n, 0, none⟩)), (6, .pointer (some ⟨m, 0, none⟩)), (8, .int .i64 s)]) (fun s y => [obj l 217 [.slice g d.length e, .int .i64 h, .int .i64 i], obj m 27 [.int .i64 0, .int .i64 0, .slice none 0 0], obj n 27 [.int .i64 j, .int .i64 k, .slice b a.length c], Row 5 1 b a.length c (ao a), F]) ?_ ?_
 refine sr ?_
 refine vm O O ?_
 refine vq (bD O O O) O (ag (ae ?_))
 refine aL O (fun a2 => ?_) (fun a3 => ?_)
 refine aE ?_
 refine vm O O ?_
 refine vq (du 2 O O isAgg27 sizeOf27 O O) O ?_
 refine am (fun z t => ?_)
 refine bf 3 O (fun u v w ad => ?_)
 refine ah (qj (vs := [.agg #[.int .i64 j, .int .i64 k, .slice b a.length c]]) (A := []) (rst := [obj l 217 [.slice g d.length e, .int .i64 h, .int .i64 i], obj m 27 [.int .i64 0, .int .i64 0, .slice none 0 0], obj n 27 [.int .i64 j, .int .i64 k, .slice b a.length c], Row 5 1 b a.length c (ao a), F]) O O O O O (fun _ => by kernel_rfl) call72 (.sel 0 O (.sel 0 O (.sel 0 O (.sel 0 O (.sel 0 O (.nil _)))))) (bK.calls _ _ j k b c a (u.lend 3 O) v w) t) O O O ?_
 intro af
 refine va O O (ag ?_)
 exact aM (s := z) () ⟨O, O, O, trivial⟩ (.sel 0 O (.sel 0 O (.sel 0 O (.sel 0 O (.sel 0 O (.nil _))))))
 refine au ?_
 exact aM (s := aa) () ⟨O, O, O, trivial⟩ (.sel 0 O (.sel 0 O (.sel 0 O (.sel 0 O (.sel 0 O (.nil _))))))
 intro ab a4
 refine ap (sr ?_)
 refine vm O O ?_
 refine vq (cz O O O) O (ag (ae ?_))
 refine br O (fun al => ?_) (fun an => ?_)
 refine au ?_
 refine ae (sr ?_)
 refine vq (du 2 O O isAgg27 sizeOf27 O O) O ?_
 refine aX (aV 1 O O O sizeOf27 O O (aY (by rfl)) O O) O O ?_
 intro _
 refine va O O (ag (ae (ak ?_)))
 exact gi (vs := [.agg #[.int .i64 j, .int .i64 k, .slice b a.length c], .int .i64 0]) (b, c) O ⟨⟨m, O, fy 1 isAgg27 sizeOf27 O O⟩, O, trivial⟩ O (.sel 3 O (.sel 0 O (.sel 2 O (.nil _))))
 refine sr ?_
 refine ah (df O zeroValue27 O) O O O ?_
 intro a0
 refine nx ?_
 refine vq (du 0 O O isAgg27 sizeOf27 O O) O ?_
 refine vm O O ?_
 refine aX (aV 2 O O O sizeOf27 O O (aY (by rfl)) O O) O O ?_
 intro _
 refine va O O (ag (ae (ak ?_)))
 refine ax ?_
 exact gi (vs := [.agg #[.int .i64 0, .int .i64 0, .slice none 0 0], .int .i64 ab]) (none, 0) O ⟨⟨m, O, fy 2 isAgg27 sizeOf27 O O⟩, O, trivial⟩ O (.row_nil (.sel 1 O (.sel 4 O (.nil _))))

def fM.f (k : Nat) (x1 : List UInt8) : Option (Int × Int × List UInt8 × Int) := (gh.f x1).bind fun a => ((dX.f k a.1 a.2.1 a.2.2).bind fun c => ((dX.f k a.1 c.2.1 c.2.2).bind fun d => ((eB.f k a.1 d.2.1 d.2.2 (524288 : Int)).bind fun e => ((dV.f a.1 e.2.1 e.2.2 c.1 d.1 e.1).bind fun b => (some (b.1, b.2.1, b.2.2.1, b.2.2.2))))))
theorem fM.calls (W : World) (F : HA) (k : Nat) (a1 : Option Addr) (c1 : Nat) (x1 : List UInt8) (h1 : Rd F a1 (ao x1)) (a2 : x1.length ≤ c1) (a3 : c1 ≤ maxLen) :
    Fn Tryz.prog W 88 [.agg #[], .slice a1 x1.length c1] [] F (fM.f k x1) (fun (r : Int × Int × List UInt8 × Int) (y : Option Addr × Nat) => .tuple #[.agg #[.int .i64 r.1, .int .i64 r.2.1, .slice y.1 r.2.2.1.length y.2], .int .i64 r.2.2.2]) (fun r y => [Row 5 1 y.1 r.2.2.1.length y.2 (ao r.2.2.1)]) := by
 unfold fM.f
 refine aJ 24 Tryz.func88 O Tryz.ntmps88 O ?_
 refine sr ?_
 refine ah (dL O O O) O O O ?_
 intro l
 refine ah (df O zeroValue27 O) O O O ?_
 intro h
 refine va O O (nx ?_)
 refine vm O O ?_
 refine am (fun b ad => ?_)
 refine ah (ar (vs := [.slice a1 x1.length c1]) (cap := []) (A := []) (rst := [obj h 27 [.int .i64 0, .int .i64 0, .slice none 0 0], obj l 79 [], F]) O O O O O O call133 (.sel 0 O (.sel 0 O (.sel 0 O (.nil _)))) (gh.calls _ _ a1 c1 x1 (h1.lend 2 O) a2 a3) ad) O O O ?_
 intro a
 refine va O O (nx ?_)
 refine vm O O ?_
 refine am (fun e m => ?_)
 refine bf 1 O (fun af al an a7 => ?_)
 refine ah (ar (vs := [.pointer (some ⟨a.1, 0, none⟩)]) (cap := []) (A := [obj a.1 217 [.slice a.2.1 b.1.length a.2.2, .int .i64 b.2.1, .int .i64 b.2.2]]) (rst := [Row 5 1 a.2.1 b.1.length a.2.2 (ao b.1), obj h 27 [.int .i64 0, .int .i64 0, .slice none 0 0], obj l 79 [], F]) O O O O O O call134 (.sel 0 O (.sel 0 O (.sel 0 O (.sel 0 O (.sel 0 O (.nil _)))))) (dX.calls _ _ k a.1 a.2.1 a.2.2 b.1 b.2.1 b.2.2 (af.lend 0 O) al an) m) O O O ?_
 intro a8
 refine vm O O ?_
 refine am (fun g n => ?_)
 refine bf 1 O (fun o p q a4 => ?_)
 refine ah (ar (vs := [.pointer (some ⟨a.1, 0, none⟩)]) (cap := []) (A := [obj a.1 217 [.slice a.2.1 b.1.length a.2.2, .int .i64 e.2.1, .int .i64 e.2.2]]) (rst := [Row 5 1 a.2.1 b.1.length a.2.2 (ao b.1), obj h 27 [.int .i64 0, .int .i64 0, .slice none 0 0], obj l 79 [], F]) O O O O O O call134 (.sel 0 O (.sel 0 O (.sel 0 O (.sel 0 O (.sel 0 O (.nil _)))))) (dX.calls _ _ k a.1 a.2.1 a.2.2 b.1 e.2.1 e.2.2 (o.lend 0 O) p q) n) O O O ?_
 intro a9
 refine vm O O ?_
 refine am (fun c s => ?_)
 refine bf 1 O (fun t u w a5 => ?_)
 refine ah (ar (vs := [.pointer (some ⟨a.1, 0, none⟩), .int .i64 524288]) (cap := []) (A := [obj a.1 217 [.slice a.2.1 b.1.length a.2.2, .int .i64 g.2.1, .int .i64 g.2.2]]) (rst := [Row 5 1 a.2.1 b.1.length a.2.2 (ao b.1), obj h 27 [.int .i64 0, .int .i64 0, .slice none 0 0], obj l 79 [], F]) O O O O O O call135 (.sel 0 O (.sel 0 O (.sel 0 O (.sel 0 O (.sel 0 O (.nil _)))))) (eB.calls _ _ k a.1 a.2.1 a.2.2 b.1 g.2.1 g.2.2 (524288 : Int) (t.lend 0 O) u w) s) O O O ?_
 intro d
 refine vq (eb (v := .agg #[.int .i64 e.1, .int .i64 g.1, .slice d.1 c.1.length d.2]) O O (fun _ => by kernel_rfl)) O ?_
 refine ah (df O zeroValue27 O) O O O ?_
 intro a0
 refine aX (aV 0 O O O sizeOf27 O O (aY (by rfl)) O O) O O ?_
 intro _
 refine nx ?_
 refine vm O O ?_
 refine vq (du 5 O O isAgg79 sizeOf79 O O) O ?_
 refine vq (zd O O underlying79 O) O ?_
 refine vq (du 0 O O isAgg27 sizeOf27 O O) O ?_
 refine am (fun i x => ?_)
 refine bf 3 O (fun z aa ab a6 => ?_)
 refine ah (ar (vs := [.pointer (some ⟨a.1, 0, none⟩), .iface 79 (.agg #[]), .agg #[.int .i64 e.1, .int .i64 g.1, .slice d.1 c.1.length d.2]]) (cap := []) (A := [obj a.1 217 [.slice a.2.1 b.1.length a.2.2, .int .i64 c.2.1, .int .i64 c.2.2], Row 5 1 d.1 c.1.length d.2 (ao c.1)]) (rst := [obj a0 27 [.int .i64 e.1, .int .i64 g.1, .slice d.1 c.1.length d.2], Row 5 1 a.2.1 b.1.length a.2.2 (ao b.1), obj h 27 [.int .i64 0, .int .i64 0, .slice none 0 0], obj l 79 [], F]) O O O O O O call136 (.sel 2 O (.sel 1 O (.sel 0 O (.sel 0 O (.sel 0 O (.sel 0 O (.sel 0 O (.nil _)))))))) (dV.calls _ _ a.1 a.2.1 a.2.2 b.1 c.2.1 c.2.2 e.1 g.1 d.1 d.2 c.1 (z.lend 1 O) aa ab) x) O O O ?_
 intro j
 refine vq (bh O O O) O ?_
 refine vq (bh O O O) O ?_
 refine aX (aV 4 O O O sizeOf27 O O (aY (by rfl)) O O) O O ?_
 intro _
 refine va O O (ag (ae (ak ?_)))
 exact gi (vs := [.agg #[.int .i64 i.1, .int .i64 i.2.1, .slice j.1 i.2.2.1.length j.2], .int .i64 i.2.2.2]) (j.1, j.2) O ⟨⟨h, O, fy 4 isAgg27 sizeOf27 O O⟩, O, trivial⟩ O (.sel 0 O (.sel 5 O (.nil _)))

def iF.f (k : Nat) (d : List ((List UInt8) × (List UInt8 × Int))) (e : List UInt8) (g : Int) (h : Bool) (x1 : Int) : Option (Int × Int × List UInt8 × Bool) := (fY.f x1).bind fun i => ((fb.f d e g h i.1).bind fun c => (if c.2 = (0 : Int) then ((iX.f k c.1).bind fun b => (if b.2 = (0 : Int) then ((fM.f k b.1).bind fun a => (some (a.1, a.2.1, a.2.2.1, (decide (a.2.2.2 = (0 : Int))) && (decide (a.1 = x1))))) else (some (0, 0, ([] : List UInt8), false)))) else (some (0, 0, ([] : List UInt8), false))))
theorem iF.calls (W : World) (F : HA) (k : Nat) (b0 : Nat) (c : Nat) (d : Kps) (h : List ((List UInt8) × (List UInt8 × Int))) (l : List UInt8) (m : Int) (n : Bool) (x1 : Int) (hgl : Glb Tryz.prog F) :
    Fn Tryz.prog W 48 [.pointer (some ⟨b0, 0, none⟩), .int .i64 x1] [obj b0 76 [.map (some c), str l, .int .i64 m, .bool n], aF (aB c aD aA d) aG d h] F (iF.f k h l m n x1) (fun (r : Int × Int × List UInt8 × Bool) (y : Option Addr × Nat) => .tuple #[.agg #[.int .i64 r.1, .int .i64 r.2.1, .slice y.1 r.2.2.1.length y.2], .bool r.2.2.2]) (fun r y => [Row 5 1 y.1 r.2.2.1.length y.2 (ao r.2.2.1), obj b0 76 [.map (some c), str l, .int .i64 m, .bool n], aF (aB c aD aA d) aG d h]) := by
 unfold iF.f
 refine aJ 49 Tryz.func48 O Tryz.ntmps48 O ?_
 refine sr ?_
 refine ah (df O zeroValue27 O) O O O ?_
 intro u
 refine va O O (nx ?_)
 refine vm O O ?_
 refine am (fun a5 a6 => ?_)
 refine ah (ar (vs := [.int .i64 x1]) (cap := []) (A := []) (rst := [obj u 27 [.int .i64 0, .int .i64 0, .slice none 0 0], obj b0 76 [.map (some c), str l, .int .i64 m, .bool n], aF (aB c aD aA d) aG d h, F]) O O O O O O call11 (.sel 0 O (.sel 0 O (.sel 0 O (.sel 0 O (.nil _))))) (fY.calls _ _ x1 (hgl.lend 3 O)) a6) O O O ?_
 intro b5
 refine vm O O ?_
 refine vq (bh O O O) O ?_
 refine vq (bh O O O) O ?_
 refine va O O ?_
 refine va O O (nx ?_)
 refine vm O O ?_
 refine vm O O ?_
 refine am (fun w a7 => ?_)
 refine ah (ar (vs := [.pointer (some ⟨b0, 0, none⟩), str a5.1]) (cap := []) (A := [obj b0 76 [.map (some c), str l, .int .i64 m, .bool n], aF (aB c aD aA d) aG d h]) (rst := [obj u 27 [.int .i64 0, .int .i64 0, .slice none 0 0], F]) O O O O O O call86 (.sel 1 O (.sel 1 O (.sel 0 O (.sel 0 O (.nil _))))) (fb.calls _ _ b0 c d h l m n a5.1 ) a7) O O O ?_
 intro q
 refine vm O O ?_
 refine vq (bh O O O) O ?_
 refine vq (bh O O O) O ?_
 refine va O O ?_
 refine va O O (ag (ae (ap (sr ?_))))
 refine vm O O ?_
 refine vq (cz O O O) O (ag (ae ?_))
 refine br O (fun b6 => ?_) (fun b7 => ?_)
 refine au ?_
 refine ae (sr ?_)
 refine vm O O ?_
 refine am (fun t ab => ?_)
 refine bf 0 O (fun ad af al a8 => ?_)
 refine ah (ar (vs := [.slice q.1 w.1.length q.2]) (cap := []) (A := []) (rst := [Row 5 1 q.1 w.1.length q.2 (ao w.1), obj b0 76 [.map (some c), str l, .int .i64 m, .bool n], aF (aB c aD aA d) aG d h, obj u 27 [.int .i64 0, .int .i64 0, .slice none 0 0], F]) O O O O O O call87 (.sel 0 O (.sel 0 O (.sel 0 O (.sel 0 O (.sel 0 O (.nil _)))))) (iX.calls _ _ k q.1 q.2 w.1 (ad.lend 0 O) af al) ab) O O O ?_
 intro p
 refine vm O O ?_
 refine vq (bh O O O) O ?_
 refine vq (bh O O O) O ?_
 refine va O O ?_
 refine va O O (ag (ae (ap (sr ?_))))
 refine vm O O ?_
 refine vq (cz O O O) O (ag (ae ?_))
 refine br O (fun b2 => ?_) (fun b3 => ?_)
 refine au ?_
 refine ae (sr ?_)
 refine vq (eb (v := .agg #[]) O O (fun _ => by kernel_rfl)) O ?_
 refine vm O O ?_
 refine am (fun a an => ?_)
 refine bf 0 O (fun a0 a1 a2 a9 => ?_)
 refine ah (ar (vs := [.agg #[], .slice p.1 t.1.length p.2]) (cap := []) (A := []) (rst := [Row 5 1 p.1 t.1.length p.2 (ao t.1), Row 5 1 q.1 w.1.length q.2 (ao w.1), obj b0 76 [.map (some c), str l, .int .i64 m, .bool n], aF (aB c aD aA d) aG d h, obj u 27 [.int .i64 0, .int .i64 0, .slice none 0 0], F]) O O O O O O call88 (.sel 0 O (.sel 0 O (.sel 0 O (.sel 0 O (.sel 0 O (.sel 0 O (.nil _))))))) (fM.calls _ _ k p.1 p.2 t.1 (a0.lend 0 O) a1 a2) an) O O O ?_
 intro e
 refine vm O O ?_
 refine vq (bh O O O) O ?_
 refine vq (bh O O O) O ?_
 refine ah (df O zeroValue27 O) O O O ?_
 intro g
 refine aX (aV 0 O O O sizeOf27 O O (aY (by rfl)) O O) O O ?_
 intro _
 refine va O O (ag (ae (ap ?_)))
 refine bp (Γ := Unit) () [[], [], [1], [1, 2], [1, 2, 3], [1, 2, 3, 4], [1, 2, 3], [1, 2, 3, 4, 5, 6], [1, 2, 3, 4, 5, 6, 7], rL 4, rL 10] [9] [0, 1, 2, 3, 4, 5, 6, 7, 8, 10] (fun i => [[0], [0], [0], [0], [0, 1], [0, 1], [0, 1], [0, 1], [0, 1], [], [1]].getD i []) (fun i => [[], [], [], [], [], [], [], [], [], rL 9, []].getD i []) (fun γ i => [.agg #[.int .i64 a.1, .int .i64 a.2.1, .slice e.1 a.2.2.1.length e.2], .int .i64 a.2.2.2, .bool (decide (a.2.2.2 = (0 : Int))), .bool (decide (a.2.2.2 = (0 : Int))), cv ((decide (a.2.2.2 = (0 : Int))) == true) (.pointer (some ⟨g, 0, none⟩)), cv ((decide (a.2.2.2 = (0 : Int))) == true) (.int .i64 a.1), cv ((decide (a.2.2.2 = (0 : Int))) == true) (.int .i64 x1), cv ((decide (a.2.2.2 = (0 : Int))) == true) (.bool (decide (a.1 = x1))), .bool ((decide (a.2.2.2 = (0 : Int))) && (decide (a.1 = x1))), undef, .bool ((decide (a.2.2.2 = (0 : Int))) && (decide (a.1 = x1)))].getD i undef) (fun j γ => [[obj g 27 [.int .i64 a.1, .int .i64 a.2.1, .slice e.1 a.2.2.1.length e.2], Row 5 1 e.1 a.2.2.1.length e.2 (ao a.2.2.1), Row 5 1 p.1 t.1.length p.2 (ao t.1), Row 5 1 q.1 w.1.length q.2 (ao w.1), obj b0 76 [.map (some c), str l, .int .i64 m, .bool n], aF (aB c aD aA d) aG d h, obj u 27 [.int .i64 0, .int .i64 0, .slice none 0 0], F], [obj g 27 [.int .i64 a.1, .int .i64 a.2.1, .slice e.1 a.2.2.1.length e.2], Row 5 1 e.1 a.2.2.1.length e.2 (ao a.2.2.1), Row 5 1 p.1 t.1.length p.2 (ao t.1), Row 5 1 q.1 w.1.length q.2 (ao w.1), obj b0 76 [.map (some c), str l, .int .i64 m, .bool n], aF (aB c aD aA d) aG d h, obj u 27 [.int .i64 a.1, .int .i64 a.2.1, .slice e.1 a.2.2.1.length e.2], F]].getD j []) (fun γ => [(4, .pointer (some ⟨u, 0, none⟩)), (5, .bool ((decide (a.2.2.2 = (0 : Int))) && (decide (a.1 = x1))))]) mixed (by decide) (by decide) (by decide) (by decide) (by decide) (by decide) (by decide) 49 O (by decide) (by decide) (by decide) (Ent.refl _) ?_ ?_ (fun _ => ⟨O, O, trivial⟩) ?_
 exact (aq O (fun γ => qp O O (.o (s := 11) O (by decide) .nil) (du 0 O O isAgg27 sizeOf27 O O) O) (aq O (fun γ => qm O (.o (s := 9) O (by decide) .nil) O) (aq O (fun γ => qp O O (.v 1 O O .nil) (bD O O O) O) (aq O (fun γ => qm O (.v 2 O O .nil) O) (ac (fun γ => (ac (QOb.grd (b := decide (a.2.2.2 = (0 : Int))) [(11, .pointer (some ⟨g, 0, none⟩)), (43, .bool (decide (a.2.2.2 = (0 : Int))))] O O O O (.o (s := 11) O (by decide) (.v 3 O O .nil)) (fun bc => RQ.sub (E' := [(11, .pointer (some ⟨g, 0, none⟩))]) ⟨O, trivial⟩ (aw O O underlying27 O O sizeOf3 O)) O) (ac (QOb.grd (b := decide (a.2.2.2 = (0 : Int))) [(11, .pointer (some ⟨g, 0, none⟩)), (43, .bool (decide (a.2.2.2 = (0 : Int))))] O O O O (.o (s := 11) O (by decide) (.v 3 O O .nil)) (fun be => RQ.sub (E' := [(11, .pointer (some ⟨g, 0, none⟩))]) ⟨O, trivial⟩ (aw O O underlying27 O O sizeOf3 O)) O) zA))) (ac (fun γ => (ac (QOb.grd (b := decide (a.2.2.2 = (0 : Int))) [(43, .bool (decide (a.2.2.2 = (0 : Int)))), (44, cv ((decide (a.2.2.2 = (0 : Int))) == true) (.pointer (some ⟨g, 0, none⟩)))] O O O O (.v 3 O O (.v 4 O O .nil)) (fun a3 => RQ.sub (E' := [(44, .pointer (some ⟨g, 0, none⟩))]) ⟨aZ O a3, trivial⟩ (ai O O isAgg3 (.obj 0 O O))) O) (ac (QOb.grd (b := decide (a.2.2.2 = (0 : Int))) [(43, .bool (decide (a.2.2.2 = (0 : Int)))), (44, cv ((decide (a.2.2.2 = (0 : Int))) == true) (.pointer (some ⟨g, 0, none⟩)))] O O O O (.v 3 O O (.v 4 O O .nil)) (fun a4 => RQ.sub (E' := [(44, .pointer (some ⟨g, 0, none⟩))]) ⟨aZ O a4, trivial⟩ (ai O O isAgg3 (.obj 0 O O))) O) zA))) (ac (fun γ => (ac (QOb.grd (b := decide (a.2.2.2 = (0 : Int))) [(1, .int .i64 x1), (43, .bool (decide (a.2.2.2 = (0 : Int))))] O O O O (.o (s := 1) O (by decide) (.v 3 O O .nil)) (fun bs => RQ.sub (E' := [(1, .int .i64 x1)]) ⟨O, trivial⟩ (aS O O)) O) (ac (QOb.grd (b := decide (a.2.2.2 = (0 : Int))) [(1, .int .i64 x1), (43, .bool (decide (a.2.2.2 = (0 : Int))))] O O O O (.o (s := 1) O (by decide) (.v 3 O O .nil)) (fun b1 => RQ.sub (E' := [(1, .int .i64 x1)]) ⟨O, trivial⟩ (aS O O)) O) zA))) (ac (fun γ => (ac (QOb.grd (b := decide (a.2.2.2 = (0 : Int))) [(43, .bool (decide (a.2.2.2 = (0 : Int)))), (45, cv ((decide (a.2.2.2 = (0 : Int))) == true) (.int .i64 a.1)), (46, cv ((decide (a.2.2.2 = (0 : Int))) == true) (.int .i64 x1))] O O O O (.v 3 O O (.v 5 O O (.v 6 O O .nil))) (fun x => RQ.sub (E' := [(45, .int .i64 a.1), (46, .int .i64 x1)]) ⟨aZ O x, aZ O x, trivial⟩ (bD O O O)) O) (ac (QOb.grd (b := decide (a.2.2.2 = (0 : Int))) [(43, .bool (decide (a.2.2.2 = (0 : Int)))), (45, cv ((decide (a.2.2.2 = (0 : Int))) == true) (.int .i64 a.1)), (46, cv ((decide (a.2.2.2 = (0 : Int))) == true) (.int .i64 x1))] O O O O (.v 3 O O (.v 5 O O (.v 6 O O .nil))) (fun aa => RQ.sub (E' := [(45, .int .i64 a.1), (46, .int .i64 x1)]) ⟨aZ O aa, aZ O aa, trivial⟩ (bD O O O)) O) zA))) (ac (fun γ => (ac (qp O O (.v 3 O O (.v 7 O O .nil)) (dQ O O O) O) (ac (qp O O (.v 3 O O (.v 7 O O .nil)) (dQ O O O) O) zA))) (aq O (fun γ => qp O O (.v 8 O O .nil) (dA O O) O) zA))))))))))
 exact (ac (fun γ => eo (Z := Unit) (fun z => ()) O O (.o (s := 4) O (by decide) (.v 0 O O .nil)) (aV 6 O O O sizeOf27 O O (aY (by rfl)) O O) (fun _ => ⟨O, O, O, O, O, O, O, O, O, trivial⟩) (fun _ => .inl O) (fun z => Ent.refl _)) zA)
 intro b4
 refine ae (ak ?_)
 exact gi (vs := [.agg #[.int .i64 a.1, .int .i64 a.2.1, .slice e.1 a.2.2.1.length e.2], .bool ((decide (a.2.2.2 = (0 : Int))) && (decide (a.1 = x1)))]) (e.1, e.2) O ⟨⟨u, O, fy 6 isAgg27 sizeOf27 O O⟩, O, trivial⟩ O (.sel 1 O (.sel 3 O (.sel 3 O (.sel 4 O (.nil _)))))
 refine sr ?_
 refine vq (eb (v := .agg #[.int .i64 0, .int .i64 0, .slice none 0 0]) O O (fun _ => by kernel_rfl)) O ?_
 refine aX (aV 4 O O O sizeOf27 O O (aY (by rfl)) O O) O O ?_
 intro _
 refine va O O (ag (ae (ak ?_)))
 refine ax ?_
 exact gi (vs := [.agg #[.int .i64 0, .int .i64 0, .slice none 0 0], .bool false]) (none, 0) O ⟨⟨u, O, fy 4 isAgg27 sizeOf27 O O⟩, O, trivial⟩ O (.row_nil (.sel 2 O (.sel 2 O (.sel 3 O (.nil _)))))
 refine sr ?_
 refine vq (eb (v := .agg #[.int .i64 0, .int .i64 0, .slice none 0 0]) O O (fun _ => by kernel_rfl)) O ?_
 refine aX (aV 3 O O O sizeOf27 O O (aY (by rfl)) O O) O O ?_
 intro _
 refine va O O (ag (ae (ak ?_)))
 refine ax ?_
 exact gi (vs := [.agg #[.int .i64 0, .int .i64 0, .slice none 0 0], .bool false]) (none, 0) O ⟨⟨u, O, fy 3 isAgg27 sizeOf27 O O⟩, O, trivial⟩ O (.row_nil (.sel 1 O (.sel 1 O (.sel 2 O (.nil _)))))

theorem om.calls (W : World) (F : HA) (a0 : Option Addr) (c0 : Nat) (x0 : List Int) :
    Fn Tryz.prog W 47 [.slice a0 x0.length c0] [aC 3 1 (V3 tt) a0 x0 c0] F (some ()) (fun (r : Unit) (y : Unit) => .tuple #[]) (fun r y => [aC 3 1 (V3 tt) a0 (List.reverse x0) c0]) :=
  uM (fun x r h => by first | exact h | simpa [V3] using h) (fun x => by first | rfl | simp [V3]) (fun blk off w h1 h2 => Any.slices_Reverse_int vY blk off c0 x0 w h2 h1) (fun w => Any.slices_Reverse_int_empty vY none c0 w)

def dJ.l0 (d : List ((List UInt8) × (List UInt8 × Int))) (e : List UInt8) (g : Int) (h : Bool) (c : List Int) : Nat → Int → Option ((Unit) ⊕ (Int × Int × List UInt8 × Int × Int))
  | 0, _ => none
  | k + 1, a => if a < ((List.reverse c).length : Int) then (if 0 ≤ a ∧ a < ((List.reverse c).length : Int) then ((iF.f k d e g h ((List.reverse c).getD a.toNat (0 : Int))).bind fun b => (if b.2.2.2 = true then (some (.inr (b.1, b.2.1, b.2.2.1, a, 0))) else (dJ.l0 d e g h c k (IntKind.i64.wrap (a + 1))))) else none) else (some (.inl ()))
def dJ.f (k : Nat) (a : List ((List UInt8) × (List UInt8 × Int))) (b : List UInt8) (c : Int) (d : Bool) : Option (Int × Int × List UInt8 × Int × Int) := (di.f k a b c d).bind fun e => (orR (dJ.l0 a b c d e k 0) fun g => (some (0, 0, ([] : List UInt8), 0, 8)))
theorem dJ.calls (W : World) (F : HA) (k : Nat) (b0 : Nat) (a : Nat) (b : Kps) (e : List ((List UInt8) × (List UInt8 × Int))) (g : List UInt8) (h : Int) (j : Bool) (hgl : Glb Tryz.prog F) :
    Fn Tryz.prog W 15 [.pointer (some ⟨b0, 0, none⟩)] [obj b0 76 [.map (some a), str g, .int .i64 h, .bool j], aF (aB a aD aA b) aG b e] F (dJ.f k e g h j) (fun (r : Int × Int × List UInt8 × Int × Int) (y : Option Addr × Nat) => .tuple #[.agg #[.int .i64 r.1, .int .i64 r.2.1, .slice y.1 r.2.2.1.length y.2], .int .i64 r.2.2.2.1, .int .i64 r.2.2.2.2]) (fun r y => [Row 5 1 y.1 r.2.2.1.length y.2 (ao r.2.2.1), obj b0 76 [.map (some a), str g, .int .i64 h, .bool j], aF (aB a aD aA b) aG b e]) := by
 unfold dJ.f
 refine aJ 32 Tryz.func15 O Tryz.ntmps15 O ?_
 refine sr ?_
 refine ah (df O zeroValue27 O) O O O ?_
 intro m
 refine va O O ?_
 refine va O O (nx ?_)
 refine vm O O ?_
 refine am (fun l aa => ?_)
 refine ah (ar (vs := [.pointer (some ⟨b0, 0, none⟩)]) (cap := []) (A := [obj b0 76 [.map (some a), str g, .int .i64 h, .bool j], aF (aB a aD aA b) aG b e]) (rst := [obj m 27 [.int .i64 0, .int .i64 0, .slice none 0 0], F]) O O O O O O call14 (.sel 1 O (.sel 1 O (.sel 0 O (.sel 0 O (.nil _))))) (di.calls _ _ k b0 a b e g h j (hgl.lend 1 O)) aa) O O O ?_
 intro c
 refine va O O (nx ?_)
 refine vm O O ?_
 refine ah (ar (vs := [.slice c.1 l.length c.2]) (cap := []) (A := [aC 3 1 (V3 tt) c.1 l c.2]) (rst := [obj b0 76 [.map (some a), str g, .int .i64 h, .bool j], aF (aB a aD aA b) aG b e, obj m 27 [.int .i64 0, .int .i64 0, .slice none 0 0], F]) O O O O O O call47 (.sel 0 O (.sel 0 O (.sel 0 O (.sel 0 O (.sel 0 O (.nil _)))))) (om.calls _ _ c.1 c.2 l) O) O O O ?_
 intro af
 refine eE (.slice c.1 ((List.reverse l).length) c.2) (d := 11) O (fm (by simp)) ?_
 refine eE (.slice c.1 ((List.reverse l).length) c.2) (d := 5) O (fm (by simp)) ?_
 refine eE (.slice c.1 ((List.reverse l).length) c.2) (d := 12) O (fm (by simp)) ?_
 refine ag (ae ?_)
 refine fx (S := Unit) (Unit) (fun s y => [(2, .pointer (some ⟨m, 0, none⟩))]) (fun s y => [obj b0 76 [.map (some a), str g, .int .i64 h, .bool j], obj m 27 [.int .i64 0, .int .i64 0, .slice none 0 0], aF (aB a aD aA b) aG b e, F]) ?_ ?_
 refine sr ?_
 refine vm O O ?_
 refine vq (bi O O O underlying23) O ?_
 refine vm O O (ag (ae ?_))
 refine aK ?_
 refine bX (S := Int) (Unit) (fun k s => dJ.l0 e g h j l k s) (fun s y => [(0, .pointer (some ⟨b0, 0, none⟩)), (2, .pointer (some ⟨m, 0, none⟩)), (14, .slice c.1 ((List.reverse l).length) c.2), (15, .int .i64 ((List.reverse l).length : Int)), (16, .int .i64 s)]) (fun s y => [obj b0 76 [.map (some a), str g, .int .i64 h, .bool j], obj m 27 [.int .i64 0, .int .i64 0, .slice none 0 0], aC 3 1 (V3 tt) c.1 (List.reverse l) c.2, aF (aB a aD aA b) aG b e, F]) (fun _ => by rw [dJ.l0]) ?_ k 0 () ⟨O, O, O, O, O, trivial⟩ (.sel 1 O (.sel 2 O (.sel 0 O (.sel 0 O (.sel 0 O (.nil _))))))
 intro k o a5
 refine cL (by rw [dJ.l0]) ?_
 refine sr ?_
 refine vq (bN O O O) O (ag (ae (ap ?_)))
 refine aL O (fun al => ?_) (fun an => ?_)
 refine au ?_
 refine ae (ap ?_)
 refine aK ?_
 refine sr ?_
 refine vm O O ?_
 refine bd 2 O (fun u q => ?_)
 refine aQ (fun t => ?_)
 refine dP 2 O q O (i := o.toNat) (by omega) (0 : Int) (fun a0 ad a1 w x ab hcell19v => ?_)
 obtain rfl := x
 refine vq (ct O O O w underlying23 sizeOf3 t.1 t.2) O ?_
 refine vq (ai O O isAgg3 (hcell19v 2 O 0 _ O)) O ?_
 refine va O O ?_
 refine va O O (nx ?_)
 refine vm O O ?_
 refine vm O O ?_
 refine am (fun p z => ?_)
 refine ah (ar (vs := [.pointer (some ⟨b0, 0, none⟩), .int .i64 ((List.reverse l).getD o.toNat (0 : Int))]) (cap := []) (A := [obj b0 76 [.map (some a), str g, .int .i64 h, .bool j], aF (aB a aD aA b) aG b e]) (rst := [obj m 27 [.int .i64 0, .int .i64 0, .slice none 0 0], Row 3 1 c.1 (List.reverse l).length c.2 u.flatten, F]) O O O O O O call48 (.sel 0 O (.sel 2 O (.sel 0 O (.sel 0 O (.sel 0 O (.nil _)))))) (iF.calls _ _ k b0 a b e g h j ((List.reverse l).getD o.toNat (0 : Int)) (hgl.lend 2 O)) z) O O O ?_
 intro n
 refine vm O O ?_
 refine vq (bh O O O) O ?_
 refine vq (bh O O O) O ?_
 refine ah (df O zeroValue27 O) O O O ?_
 intro a2
 refine aX (aV 0 O O O sizeOf27 O O (aY (by rfl)) O O) O O ?_
 intro _
 refine va O O (nx ?_)
 refine vm O O (ag (ae ?_))
 refine aT O (fun a3 => ?_) (fun a4 => ?_)
 refine sr ?_
 refine vq (du 0 O O isAgg27 sizeOf27 O O) O ?_
 refine vm O O ?_
 refine aX (aV 4 O O O sizeOf27 O O (aY (by rfl)) O O) O O ?_
 intro _
 refine va O O ?_
 refine va O O (ag (ae (ak ?_)))
 refine aP ?_
 refine ax ?_
 refine eS ?_
 refine aP ?_
 refine eG ?_
 exact gi (vs := [.agg #[.int .i64 p.1, .int .i64 p.2.1, .slice n.1 p.2.2.1.length n.2], .int .i64 o, .int .i64 0]) (n.1, n.2) O ⟨⟨m, O, fy 4 isAgg27 sizeOf27 O O⟩, O, O, trivial⟩ O (.sel 1 O (.sel 1 O (.sel 1 O (.sel 3 O (.nil _)))))
 refine au ?_
 refine bb (ae (aE ?_))
 refine vq (bj O O O) O ?_
 refine vm O O (ag ?_)
 exact bu (s := IntKind.i64.wrap (o + 1)) () ⟨O, O, O, O, O, trivial⟩ (.sel 2 O (.sel 3 O (.sel' 3 O (aC.mk q) (.sel 2 O (.sel 2 O (.nil _))))))
 refine ck ?_
 refine bQ ?_
 refine bY ?_
 refine bR ?_
 exact fg (s := ()) () ⟨O, trivial⟩ (.sel 0 O (.sel 0 O (.sel 1 O (.sel 1 O (.nil _)))))
 intro a6 a7
 refine sr ?_
 refine vq (eb (v := .agg #[.int .i64 0, .int .i64 0, .slice none 0 0]) O O (fun _ => by kernel_rfl)) O ?_
 refine aX (aV 1 O O O sizeOf27 O O (aY (by rfl)) O O) O O ?_
 intro _
 refine va O O ?_
 refine va O O (ag (ae (ak ?_)))
 exact gi (vs := [.agg #[.int .i64 0, .int .i64 0, .slice none 0 0], .int .i64 0, .int .i64 8]) (none, 0) O ⟨⟨m, O, fy 1 isAgg27 sizeOf27 O O⟩, O, O, trivial⟩ O (.row_nil (.sel 0 O (.sel 1 O (.sel 1 O (.nil _)))))

def eT.l0 : Nat → Int → Int → Option (Int)
  | 0, _, _ => none
  | k + 1, a, b => if (128 : Int) ≤ a then (eT.l0 k (Int.fdiv a (2 ^ (min (7 : Int).toNat IntKind.i64.bits))) (IntKind.i64.wrap (b + 1))) else (some b)
def eT.f (k : Nat) (x0 : Int) : Option (Int) := if ((decide (x0 < (0 : Int))) || (decide ((4611686018427387904 : Int) < x0))) = true then (some 0) else ((eT.l0 k x0 1).bind fun a => (some a))
theorem eT.calls (W : World) (F : HA) (k : Nat) (x0 : Int)  :
    Fn Tryz.prog W 119 [.int .i64 x0] [] F (eT.f k x0) (fun (r : Int) (y : Unit) => .int .i64 r) (fun r y => []) := by
 unfold eT.f
 refine aJ 17 Tryz.func119 O Tryz.ntmps119 O ?_
 refine sr ?_
 refine va O O (ag (ae (ap (sr ?_))))
 refine vm O O ?_
 refine vq (bN O O O) O ?_
 refine vm O O ?_
 refine az (b := decide (x0 < (0 : Int))) (fun d => RQ.sub (E' := [(0, .int .i64 x0)]) ⟨O, trivial⟩ (aS O O)) O O O O O ?_
 refine az (b := decide (x0 < (0 : Int))) (fun c => RQ.sub (E' := [(7, .int .i64 x0)]) ⟨aZ O c, trivial⟩ (dw O O O)) O O O O O ?_
 refine vq (hP O O O) O (ag (ae ?_))
 refine aT O (fun g => ?_) (fun h => ?_)
 refine sr ?_
 refine va O O (ag (ae (ak ?_)))
 refine ax ?_
 exact av () O O O (.sel 0 O (.nil _))
 refine au ?_
 refine ae (sr ?_)
 refine va O O (ag (ae ?_))
 refine bO (S := Int) (Unit) (fun s y => [(3, .int .i64 s)]) (fun s y => [F]) ?_ ?_
 refine aK ?_
 refine bX (S := Int × Int) (Unit) (fun k s => eT.l0 k s.1 s.2) (fun s y => [(0, .int .i64 s.1), (3, .int .i64 s.2)]) (fun s y => [F]) (fun _ => by rw [eT.l0]) ?_ k (x0, 1) () ⟨O, O, trivial⟩ (.sel 0 O (.nil _))
 intro k a i
 refine cL (by rw [eT.l0]) ?_
 refine ap (sr ?_)
 refine vm O O ?_
 refine vq (gP O O O) O (ag (ae ?_))
 refine aL O (fun j => ?_) (fun e => ?_)
 refine au ?_
 refine ae ?_
 refine aK ?_
 refine sr ?_
 refine vm O O ?_
 refine vq (kL O O O (by decide)) O ?_
 refine va O O (ny ?_)
 refine vm O O ?_
 refine vq (bj O O O) O ?_
 refine va O O (ag (bb ?_))
 exact bu (s := (Int.fdiv a.1 (2 ^ (min (7 : Int).toNat IntKind.i64.bits)), IntKind.i64.wrap (a.2 + 1))) () ⟨O, O, trivial⟩ (.sel 0 O (.nil _))
 refine ck ?_
 refine bQ ?_
 refine bY ?_
 refine bR ?_
 exact aM (s := a.2) () ⟨O, trivial⟩ (.sel 0 O (.nil _))
 intro l m
 refine sr ?_
 refine vm O O ?_
 refine va O O (ag (ae (ak ?_)))
 exact av () O O O (.sel 0 O (.nil _))

def cQ.l0 {S : Type} (step : S → Int → Option S) : Nat → Int → S → Option (Int × S)
  | 0, _, _ => none
  | k + 1, a, b => if (128 : Int) ≤ a then ((step b (IntKind.u8.wrap (bC .or .i64 (bC .and .i64 a 127) 128))).bind fun c => (cQ.l0 step k (Int.fdiv a (2 ^ (min (7 : Int).toNat IntKind.i64.bits))) c)) else (some (a, b))
def cQ.f {S : Type} (k : Nat) (step : S → Int → Option S) (s0 : S) (b : Int) : Option (S) := (cQ.l0 step k b s0).bind fun a => ((step a.2 (IntKind.u8.wrap a.1)).bind fun c => (some c))
theorem cQ.calls (W : World) (F : HA) (k : Nat) (S Y : Type) (l : Nat) (step : S → Int → Option S) (A : S → Y → HA) (s0 : S) (y0 : Y) (b1 : Nat) (a : Int) (hY : nv Tryz.prog W l (fun (x : Int) => [.int .u8 x]) step A) :
    Fn Tryz.prog W 161 [.func (.yield l) #[] #[], .pointer (some ⟨b1, 0, none⟩)] [A s0 y0, obj b1 3 [.int .i64 a]] F (cQ.f k step s0 a) (fun (r : S) (y : Y) => .tuple #[]) (fun r y => [A r y, obj b1 3 [.int .i64 a]]) := by
 unfold cQ.f
 refine aJ 20 Tryz.func161 O Tryz.ntmps161 O ?_
 refine sr ?_
 refine vq (ai O O isAgg3 (.obj 1 O O)) O ?_
 refine va O O (ag (ae ?_))
 refine bO (S := Int × S) (Y) (fun s y => [(0, .func (.yield l) #[] #[]), (3, .int .i64 s.1)]) (fun s y => [obj b1 3 [.int .i64 a], A s.2 y, F]) ?_ ?_
 refine aK ?_
 refine bX (S := Int × S) (Y) (fun k s => cQ.l0 step k s.1 s.2) (fun s y => [(0, .func (.yield l) #[] #[]), (3, .int .i64 s.1)]) (fun s y => [obj b1 3 [.int .i64 a], A s.2 y, F]) (fun _ => by rw [cQ.l0]) ?_ k (a, s0) y0 ⟨O, O, trivial⟩ (.sel 1 O (.sel 0 O (.sel 0 O (.nil _))))
 intro k b h
 refine cL (by rw [cQ.l0]) ?_
 refine ap (sr ?_)
 refine vm O O ?_
 refine vq (gP O O O) O (ag (ae ?_))
 refine aL O (fun n => ?_) (fun o => ?_)
 refine au ?_
 refine ae ?_
 refine aK ?_
 refine ap (sr ?_)
 refine vm O O ?_
 refine vm O O ?_
 refine vq (rM O O O) O ?_
 refine vq (pc O O O) O ?_
 refine vq (dy O O underlying3 underlying5) O ?_
 refine am (fun i c => ?_)
 refine ah (rO (IntKind.u8.wrap (bC .or .i64 (bC .and .i64 b.1 127) 128)) 1 O O O O O O hY O c) O O O ?_
 intro e
 refine vq (fE O O) O (ag (ae ?_))
 refine iy O ?_
 refine au ?_
 refine ae (aE ?_)
 refine vm O O ?_
 refine vq (kL O O O (by decide)) O ?_
 refine va O O (ag (bb ?_))
 exact bu (s := (Int.fdiv b.1 (2 ^ (min (7 : Int).toNat IntKind.i64.bits)), i)) e ⟨O, O, trivial⟩ (.sel 0 O (.sel 0 O (.sel 0 O (.nil _))))
 refine ck ?_
 refine bQ ?_
 refine bY ?_
 refine bR ?_
 exact aM (s := (b.1, b.2)) h ⟨O, O, trivial⟩ (.sel 0 O (.sel 0 O (.sel 0 O (.nil _))))
 intro j p
 refine aE ?_
 refine vm O O ?_
 refine vm O O ?_
 refine vq (dy O O underlying3 underlying5) O ?_
 refine am (fun m d => ?_)
 refine ah (rO (IntKind.u8.wrap j.1) 1 O O O O O O hY O d) O O O ?_
 intro g
 refine ag ?_
 exact jL g O O O (.sel 1 O (.sel 0 O (.sel 0 O (.nil _))))

def jo.f (x0 : Int) : Option (Int) := some x0
theorem jo.calls (W : World) (F : HA) (x0 : Int)  :
    Fn Tryz.prog W 120 [.int .i64 x0] [] F (jo.f x0) (fun (r : Int) (y : Nat) => .func (.func 161) #[] #[.pointer (some ⟨y, 0, none⟩)]) (fun r y => [obj y 3 [.int .i64 r]]) := by
 unfold jo.f
 refine aJ 4 Tryz.func120 O Tryz.ntmps120 O ?_
 refine sr ?_
 refine ah (dL O O O) O O O ?_
 intro a
 refine va O O (nx ?_)
 refine vq (ky O O O) O ?_
 refine va O O (ag (ae (ak ?_)))
 exact av a O O O (.sel 0 O (.sel 0 O (.nil _)))

def dx.f (k : Nat) (b : List UInt8) (c : Int) (x1 : Int) : Option (List UInt8 × Int) := if c = (0 : Int) then ((eT.f k x1).bind fun g => (if g = (0 : Int) then (some (b, 1)) else ((jo.f x1).bind fun h => ((cQ.f k (fun (d : List UInt8) (a : Int) => if 0 ≤ a ∧ a < 256 then (if (d.length + ([(cS a)] : List UInt8).length) * 1 ≤ 140737488355328 then (some (d ++ ([(cS a)] : List UInt8))) else none) else none) b h).bind fun e => (some (e, c)))))) else (some (b, c))
theorem dx.calls (W : World) (F : HA) (k : Nat) (b0 : Nat) (g : Option Addr) (h : Nat) (d : List UInt8) (e : Int) (x1 : Int)  :
    Fn Tryz.prog W 74 [.pointer (some ⟨b0, 0, none⟩), .int .i64 x1] [obj b0 164 [.slice g d.length h, .int .i64 e], Row 5 1 g d.length h (ao d)] F (dx.f k d e x1) (fun (r : List UInt8 × Int) (y : Option Addr × Nat) => .tuple #[]) (fun r y => [obj b0 164 [.slice y.1 r.1.length y.2, .int .i64 r.2], Row 5 1 y.1 r.1.length y.2 (ao r.1)]) := by
 unfold dx.f
 refine vZ 29 Tryz.func74 O Tryz.ntmps74 O ?_
 refine sr ?_
 refine ah (dL O O O) O O O ?_
 intro m
 refine ag (ae (ap (sr ?_)))
 refine vq (ai O O isAgg119 (.obj 0 O O)) O ?_
 refine vn O O ?_
 refine vq (aw O O underlying164 O O sizeOf30 O) O ?_
 refine vq (ai O O isAgg30 (.obj 1 O O)) O ?_
 refine vq (cz O O O) O (ag (ae ?_))
 refine br O (fun al => ?_) (fun an => ?_)
 refine au ?_
 refine ae (ap (sr ?_))
 refine vm O O ?_
 refine am (fun a0 af => ?_)
 refine ah (ar (vs := [.int .i64 x1]) (cap := []) (A := []) (rst := [obj m 119 [.pointer (some ⟨b0, 0, none⟩)], obj b0 164 [.slice g d.length h, .int .i64 e], Row 5 1 g d.length h (ao d), F]) O O O O O O call119 (.sel 0 O (.sel 0 O (.sel 0 O (.sel 0 O (.nil _))))) (eT.calls _ _ k x1 ) af) O O O ?_
 intro a1
 refine vq (bD O O O) O (ag (ae ?_))
 refine aL O (fun a2 => ?_) (fun a3 => ?_)
 refine sr ?_
 refine vq (ai O O isAgg119 (.obj 0 O O)) O ?_
 refine vn O O ?_
 refine vq (aw O O underlying164 O O sizeOf30 O) O ?_
 refine aX (aV 1 O O O sizeOf30 O O (aY (by rfl)) O O) O O ?_
 intro _
 refine ag (ae (ak ?_))
 refine ax ?_
 exact tX [] (g, h) O O O (.sel 1 O (.sel 1 O (.sel 1 O (.nil _))))
 refine au ?_
 refine ae (sr ?_)
 refine vm O O ?_
 refine am (fun q aa => ?_)
 refine ah (ar (vs := [.int .i64 x1]) (cap := []) (A := []) (rst := [obj m 119 [.pointer (some ⟨b0, 0, none⟩)], obj b0 164 [.slice g d.length h, .int .i64 e], Row 5 1 g d.length h (ao d), F]) O O O O O O call120 (.sel 0 O (.sel 0 O (.sel 0 O (.sel 0 O (.nil _))))) (jo.calls _ _ x1 ) aa) O O O ?_
 intro p
 refine ag (ae ?_)
 refine aK ?_
 refine wa (S := List UInt8) (Y := Option Addr × Nat) (R' := List UInt8) (Y' := (Option Addr × Nat)) (ps := [18]) (Cap := [obj p 3 [.int .i64 q]]) (rst := []) (CapB := fun r y => [obj p 3 [.int .i64 q]]) (enc := fun (x : Int) => [.int .u8 x]) (oN := cQ.f k (fun (a : List UInt8) (b : Int) => if 0 ≤ b ∧ b < 256 then (if (a.length + ([(cS b)] : List UInt8).length) * 1 ≤ 140737488355328 then (some (a ++ ([(cS b)] : List UInt8))) else none) else none) d q) (fun s y => [obj m 119 [.pointer (some ⟨b0, 0, none⟩)], obj b0 164 [.slice y.1 s.length y.2, .int .i64 e], Row 5 1 y.1 s.length y.2 (ao s), F]) d (g, h) (fun a b c => [(2, .pointer (some ⟨m, 0, none⟩)), (4, .int .u8 b)]) (fun r => r) (fun r y => y) O O call161 (fun l A hY X => cQ.calls _ _ k _ _ l _ A _ _ p q hY) O (fun _ => O) (.sel 1 O (.sel 1 O (.sel 1 O (.sel 1 O (.sel 0 O (.nil _)))))) ?_ ?_ ?_
 intro l a b c Fr
 refine fT (H' := [obj m 119 [.pointer (some ⟨b0, 0, none⟩)], obj b0 164 [.slice c.1 a.length c.2, .int .i64 e], Row 5 1 c.1 a.length c.2 (ao a), F, Fr]) (Ent.refl _) ?_
 refine aE ?_
 refine va O O (ag ?_)
 exact aM () ⟨O, O, trivial⟩ (Ent.refl _)
 intro l a b c Fr
 refine fT (H' := [obj m 119 [.pointer (some ⟨b0, 0, none⟩)], obj b0 164 [.slice c.1 a.length c.2, .int .i64 e], Row 5 1 c.1 a.length c.2 (ao a), F, Fr]) (Ent.refl _) ?_
 refine aK ?_
 refine bv (fun ab => ?_)
 refine bv (fun ad => ?_)
 refine bp (Γ := Nat × (Option Addr × Nat)) (0, (none, 0)) [[], [], [1], [1, 2], [1, 2, 3], [], [5], [1, 2, 3, 4, 5, 6], rL 8, rL 9, rL 10] [6, 7, 10] [0, 1, 2, 3, 4, 5, 8, 9] (fun i => [[0, 1, 2], [0, 1], [0, 1], [0, 1], [0, 1], [0], [], [], [2], [2], []].getD i []) (fun i => [[], [], [], [], [], [], rL 6, rL 7, [], [], rL 10].getD i []) (fun γ i => [.pointer (some ⟨b0, 0, none⟩), .pointer (some ⟨b0, 0, none⟩), .pointer (some ⟨b0, 0, none⟩), .pointer (some ⟨b0, 0, none⟩), .slice c.1 a.length c.2, .int .u8 b, .slice (some ⟨γ.1, 0, none⟩) (([(cS b)] : List UInt8).length) 1, .slice γ.2.1 ((a ++ ([(cS b)] : List UInt8)).length) γ.2.2, .pointer (some ⟨b0, 0, none⟩), .pointer (some ⟨b0, 0, none⟩), undef].getD i undef) (fun j γ => [[obj m 119 [.pointer (some ⟨b0, 0, none⟩)], obj b0 164 [.slice c.1 a.length c.2, .int .i64 e], Row 5 1 c.1 a.length c.2 (ao a), F, Fr], [Row 5 1 (some ⟨γ.1, 0, none⟩) ([(cS b)] : List UInt8).length 1 (ao ([(cS b)] : List UInt8)), obj m 119 [.pointer (some ⟨b0, 0, none⟩)], obj b0 164 [.slice c.1 a.length c.2, .int .i64 e], Row 5 1 c.1 a.length c.2 (ao a), F, Fr], [Row 5 1 (some ⟨γ.1, 0, none⟩) ([(cS b)] : List UInt8).length 1 (ao ([(cS b)] : List UInt8)), obj m 119 [.pointer (some ⟨b0, 0, none⟩)], obj b0 164 [.slice c.1 a.length c.2, .int .i64 e], Row 5 1 γ.2.1 (a ++ ([(cS b)] : List UInt8)).length γ.2.2 (ao (a ++ ([(cS b)] : List UInt8))), F, Fr], [Row 5 1 (some ⟨γ.1, 0, none⟩) ([(cS b)] : List UInt8).length 1 (ao ([(cS b)] : List UInt8)), obj m 119 [.pointer (some ⟨b0, 0, none⟩)], obj b0 164 [.slice γ.2.1 ((a ++ ([(cS b)] : List UInt8)).length) γ.2.2, .int .i64 e], Row 5 1 γ.2.1 (a ++ ([(cS b)] : List UInt8)).length γ.2.2 (ao (a ++ ([(cS b)] : List UInt8))), F, Fr]].getD j []) (fun γ => []) mixed (by decide) (by decide) (by decide) (by decide) (by decide) (by decide) (by decide) 29 O (by decide) (by decide) (by decide) (Ent.refl _) ?_ ?_ (fun _ => trivial) ?_
 exact (ac (fun γ => (ac (qp O O (.o (s := 2) O (by decide) .nil) (ai O O isAgg119 (.obj 0 O O)) O) (ac (qp O O (.o (s := 2) O (by decide) .nil) (ai O O isAgg119 (.obj 1 O O)) O) (ac (qp O O (.o (s := 2) O (by decide) .nil) (ai O O isAgg119 (.obj 1 O O)) O) zA)))) (ac (fun γ => (ac (qp O O (.o (s := 2) O (by decide) .nil) (ai O O isAgg119 (.obj 0 O O)) O) (ac (qp O O (.o (s := 2) O (by decide) .nil) (ai O O isAgg119 (.obj 1 O O)) O) zA))) (ac (fun γ => (ac (qp O O (.v 1 O O .nil) (cj O O) O) (ac (qp O O (.v 1 O O .nil) (cj O O) O) zA))) (ac (fun γ => (ac (qp O O (.v 2 O O .nil) (aw O O underlying164 O O sizeOf25 O) O) (ac (qp O O (.v 2 O O .nil) (aw O O underlying164 O O sizeOf25 O) O) zA))) (ac (fun γ => (ac (qp O O (.v 3 O O .nil) (ai O O isAgg25 (.obj 1 O O)) O) (ac (qp O O (.v 3 O O .nil) (ai O O isAgg25 (.obj 2 O O)) O) zA))) (aq O (fun γ => qm O (.o (s := 4) O (by decide) .nil) O) (aq O (fun γ => qp O O (.v 0 O O .nil) (cj O O) O) (aq O (fun γ => qp O O (.v 8 O O .nil) (aw O O underlying164 O O sizeOf25 O) O) zA))))))))
 exact (ac (fun γ => eo (Z := Nat) (fun z => (z, γ.2)) O O (.v 5 O O .nil) (jD (cs := [.int .u8 b]) ([(cS b)] : List UInt8) O O underlying25 eP O (by kernel_rfl) O O (mL ab)) (fun _ => ⟨O, O, O, O, O, O, trivial⟩) (fun _ => .inr O) (fun z => Ent.refl _)) (ac (fun γ => eo (Z := Option Addr × Nat) (fun z => (γ.1, z)) O O (.v 4 O O (.v 6 O O .nil)) (dd 3 O O O underlying25 eP O (Rds.row 0 O) ad) (fun _ => ⟨O, O, O, O, O, O, O, trivial⟩) (fun _ => .inr O) (fun z => Ent.refl _)) (ac (fun γ => eo (Z := Unit) (fun z => (γ.1, γ.2)) O O (.v 7 O O (.v 9 O O .nil)) (aV 2 O O O sizeOf25 O O (aY (by rfl)) O O) (fun _ => ⟨O, O, O, O, O, O, O, O, O, O, trivial⟩) (fun _ => .inl O) (fun z => Ent.refl _)) zA)))
 intro u
 refine bb ?_
 exact aM (s := a ++ ([(cS b)] : List UInt8)) (u.2.1, u.2.2) trivial (.sel 1 O (.sel 1 O (.sel 1 O (.sel 1 O (.sel 1 O (.nil _))))))
 intro w t n
 refine pU (H' := [mf w, obj m 119 [.pointer (some ⟨b0, 0, none⟩)], obj b0 164 [.slice n.1 t.length n.2, .int .i64 e], Row 5 1 n.1 t.length n.2 (ao t), F, obj p 3 [.int .i64 q]]) (Ent.refl _) ?_
 refine bb ?_
 exact yg [w] (n.1, n.2) O O O (.sel 0 O (.sel 1 O (.sel 1 O (.sel 1 O (.nil _)))))
 refine ak ?_
 refine ax ?_
 exact tX [] (g, h) O O O (.sel 1 O (.sel 1 O (.sel 1 O (.nil _))))
end Go.Proofs.YtjkjlggbikeliaaGreatDoor

/- Texts that lead to the law SnapBeside: G1. Conditions: as each says. -/
import Derived.Test.YtjkjlggbikeliaaGreatDoorM2
import Derived.Test.YtjkjlggbikeliaaGreatDoorProg
namespace Go.Proofs.YtjkjlggbikeliaaGreatDoor
open Go.RowKit
set_option linter.unusedVariables false
set_option linter.unusedSimpArgs false
set_option maxRecDepth 20000
set_option maxHeartbeats 20000000
theorem elt5 : Elt Tryz.prog 5 1 1 [.int .u8 0] := .of (.int .u8 0) (by kernel_rfl) rfl rfl rfl rfl
abbrev Ty54 : Type := Int × Int × Int × Int × List UInt8 × Int × Int × List UInt8 × List UInt8 × List UInt8
abbrev dz54 : Ty54 := ((0 : Int), (0 : Int), (0 : Int), (0 : Int), ([] : List UInt8), (0 : Int), (0 : Int), ([] : List UInt8), ([] : List UInt8), ([] : List UInt8))
abbrev Ty71 : Type := List UInt8 × List UInt8 × Int
abbrev dz71 : Ty71 := (([] : List UInt8), ([] : List UInt8), (0 : Int))
abbrev Ty52 : Type := Int × Int × List UInt8 × List UInt8 × List UInt8
abbrev dz52 : Ty52 := ((0 : Int), (0 : Int), ([] : List UInt8), ([] : List UInt8), ([] : List UInt8))
abbrev enc9 (x : List UInt8) : Value := str x
theorem key9 : KeyT Tryz.prog 9 enc9 := keyT_str Tryz.underlying9
abbrev FA89 (p : Nat) (x : List UInt8 × Int) (y : Option Addr × Nat) : List HA := [obj p 89 [.slice y.1 x.1.length y.2, .int .i64 x.2], Row 5 1 y.1 x.1.length y.2 (encB x.1)]
theorem elt3 : Elt Tryz.prog 3 1 8 [.int .i64 0] := .of (.int .i64 0) (by kernel_rfl) rfl rfl rfl rfl
theorem elt83 : Elt Tryz.prog 83 1 8 [.nilFunc] := .of (.nilFunc) (by kernel_rfl) rfl rfl rfl rfl
theorem elt71 : Elt Tryz.prog 71 3 48 [str ([] : List UInt8), .slice none 0 0, .int .i64 0] := .of (.agg #[str ([] : List UInt8), .slice none 0 0, .int .i64 0]) (by kernel_rfl) rfl rfl rfl rfl
def V9 (_ : HA) (x : List UInt8) (r : List Value) : Prop := r = [str x]
theorem V9.up {G F : HA} (_ : Up G F) : ∀ x r, V9 G x r → V9 F x r := fun _ _ h => h
def V3 (_ : HA) (x : Int) (r : List Value) : Prop := r = [.int .i64 x]
theorem V3.up {G F : HA} (_ : Up G F) : ∀ x r, V3 G x r → V3 F x r := fun _ _ h => h
def V83 (_ : HA) (x : Option Nat) (r : List Value) : Prop := r = [fnV x]
theorem V83.up {G F : HA} (_ : Up G F) : ∀ x r, V83 G x r → V83 F x r := fun _ _ h => h
def V54 (F : HA) (x : Int × Int × Int × Int × List UInt8 × Int × Int × List UInt8 × List UInt8 × List UInt8) (r : List Value) : Prop := ∃ (a4 : Option Addr) (c4 : Nat) (a9 : Option Addr) (c9 : Nat), r = [.int .i64 x.1, .int .i64 x.2.1, .int .i64 x.2.2.1, .int .i64 x.2.2.2.1, .slice a4 x.2.2.2.2.1.length c4, .int .i64 x.2.2.2.2.2.1, .int .i64 x.2.2.2.2.2.2.1, str x.2.2.2.2.2.2.2.1, str x.2.2.2.2.2.2.2.2.1, .slice a9 x.2.2.2.2.2.2.2.2.2.length c9] ∧ (Rd F a4 (encB x.2.2.2.2.1) ∧ x.2.2.2.2.1.length ≤ c4 ∧ c4 ≤ maxLen) ∧ (Rd F a9 (encB x.2.2.2.2.2.2.2.2.2) ∧ x.2.2.2.2.2.2.2.2.2.length ≤ c9 ∧ c9 ≤ maxLen)
theorem V54.up {G F : HA} (u : Up G F) : ∀ x r, V54 G x r → V54 F x r := by
  rintro x r ⟨a4, c4, a9, c9, e, ⟨h4, k4, m4⟩, ⟨h9, k9, m9⟩⟩
  exact ⟨a4, c4, a9, c9, e, ⟨h4.up u, k4, m4⟩, ⟨h9.up u, k9, m9⟩⟩
def Ok54 (x : Int × Int × Int × Int × List UInt8 × Int × Int × List UInt8 × List UInt8 × List UInt8) : Prop := okI .i64 x.1 ∧ okI .i64 x.2.1 ∧ okI .i64 x.2.2.1 ∧ okI .i64 x.2.2.2.1 ∧ x.2.2.2.2.1.length ≤ 140737488351232 ∧ okI .i64 x.2.2.2.2.2.1 ∧ okI .i64 x.2.2.2.2.2.2.1 ∧ x.2.2.2.2.2.2.2.1.length ≤ 140737488351232 ∧ x.2.2.2.2.2.2.2.2.1.length ≤ 140737488351232 ∧ x.2.2.2.2.2.2.2.2.2.length ≤ 140737488351232
def V71 (F : HA) (x : List UInt8 × List UInt8 × Int) (r : List Value) : Prop := ∃ (a1 : Option Addr) (c1 : Nat), r = [str x.1, .slice a1 x.2.1.length c1, .int .i64 x.2.2] ∧ (Rd F a1 (encB x.2.1) ∧ x.2.1.length ≤ c1 ∧ c1 ≤ maxLen)
theorem V71.up {G F : HA} (u : Up G F) : ∀ x r, V71 G x r → V71 F x r := by
  rintro x r ⟨a1, c1, e, ⟨h1, k1, m1⟩⟩
  exact ⟨a1, c1, e, ⟨h1.up u, k1, m1⟩⟩
def V71w (F : HA) (x : List UInt8 × List UInt8 × Int) (r : List Value) : Prop := ∃ (a : Option Addr) (c : Nat), r = [str x.1, .slice a x.2.1.length c, .int .i64 x.2.2] ∧ (RdW 5 F a c (encB x.2.1) ∧ x.2.1.length ≤ c ∧ c ≤ maxLen)
def V71s (F : HA) (x : List UInt8 × List UInt8 × Int) (r : List Value) : Prop := ∃ (a : Option Addr) (c : Nat), r = [str x.1, .slice a x.2.1.length c, .int .i64 x.2.2] ∧ (Wrt 5 F a c ∧ x.2.1.length ≤ c ∧ c ≤ maxLen)
theorem V71w.up {G F : HA} (u : UpC G F) : ∀ x r, V71w G x r → V71w F x r := fun x r ⟨a, c, e, h, k, m⟩ => ⟨a, c, e, h.up u, k, m⟩
theorem V71s.up {G F : HA} (u : UpW G F) : ∀ x r, V71s G x r → V71s F x r := fun x r ⟨a, c, e, h, k, m⟩ => ⟨a, c, e, h.up u, k, m⟩
theorem V71w.rd {F : HA} : ∀ x r, V71w F x r → V71 F x r := fun x r ⟨a, c, e, h, k, m⟩ => ⟨a, c, e, h.rd, k, m⟩
def V52 (F : HA) (x : Int × Int × List UInt8 × List UInt8 × List UInt8) (r : List Value) : Prop := ∃ (a4 : Option Addr) (c4 : Nat), r = [.int .i64 x.1, .int .i64 x.2.1, str x.2.2.1, str x.2.2.2.1, .slice a4 x.2.2.2.2.length c4] ∧ (Rd F a4 (encB x.2.2.2.2) ∧ x.2.2.2.2.length ≤ c4 ∧ c4 ≤ maxLen)
theorem V52.up {G F : HA} (u : Up G F) : ∀ x r, V52 G x r → V52 F x r := by
  rintro x r ⟨a4, c4, e, ⟨h4, k4, m4⟩⟩
  exact ⟨a4, c4, e, ⟨h4.up u, k4, m4⟩⟩
def Ok52 (x : Int × Int × List UInt8 × List UInt8 × List UInt8) : Prop := okI .i64 x.1 ∧ okI .i64 x.2.1 ∧ x.2.2.1.length ≤ 140737488351232 ∧ x.2.2.2.1.length ≤ 140737488351232 ∧ x.2.2.2.2.length ≤ 140737488351232
theorem mixed : Tryz.prog.follows .mixedOrders = true := by kernel_rfl
def disk_New.f  : Option ((List ((List UInt8) × (List UInt8 × Int))) × List UInt8 × Int × Bool) := some (([] : List ((List UInt8) × (List UInt8 × Int))), ([] : List UInt8), 0, false)
theorem disk_New.calls (W : World) (F : HA)   :
    Fn Tryz.prog W 9 [] [] F (disk_New.f ) (fun (r : (List ((List UInt8) × (List UInt8 × Int))) × List UInt8 × Int × Bool) (y : Nat × Nat × Kps) => .pointer (some ⟨y.1, 0, none⟩)) (fun r y => [obj y.1 76 [.map (some y.2.1), str r.2.1, .int .i64 r.2.2.1, .bool r.2.2.2], mapF (mapO y.2.1 enc9 encP y.2.2) FA89 y.2.2 r.1]) := by
 unfold disk_New.f
 refine fn_intro 4 Tryz.func9 rfl Tryz.ntmps9 rfl ?_
 refine sr ?_
 refine va rfl rfl (nx ?_)
 refine simL_eff (re_mkmapF (ek := enc9) (fp := FA89) rfl) rfl rfl rfl ?_
 intro b1v
 refine vq (q_build (v := .agg #[.map (some b1v), str ([] : List UInt8), .int .i64 0, .bool false]) rfl rfl (fun _ => by kernel_rfl)) rfl ?_
 refine simL_eff (re_box rfl rfl rfl) rfl rfl rfl ?_
 intro b2v
 refine va rfl rfl (simL_nil (nrm_then (sim_rtn ?_)))
 exact rtn_fn (b2v, b1v, ([] : Kps)) rfl rfl rfl (.sel 0 rfl (.sel 0 rfl (.sel 0 rfl (.nil _))))

def maps_Keys_file.f  : Option (Unit) := some ()
theorem maps_Keys_file.calls (W : World) (F : HA) (m0 : Nat)  :
    Fn Tryz.prog W 85 [.map (some m0)] [] F (maps_Keys_file.f ) (fun (r : Unit) (y : Nat) => .func (.func 131) #[] #[.pointer (some ⟨y, 0, none⟩)]) (fun r y => [obj y 74 [.map (some m0)]]) := by
 unfold maps_Keys_file.f
 refine fn_intro 4 Tryz.func85 rfl Tryz.ntmps85 rfl ?_
 refine sr ?_
 refine simL_eff (re_box rfl rfl rfl) rfl rfl rfl ?_
 intro b1v
 refine va rfl rfl (nx ?_)
 refine vq (q_mkfn rfl rfl rfl) rfl ?_
 refine va rfl rfl (simL_nil (nrm_then (sim_rtn ?_)))
 exact rtn_fn b1v rfl rfl rfl (.sel 0 rfl (.sel 0 rfl (.nil _)))

def slices_Sorted_string_maps_Keys_file_1.f (xp0_0 : List ((List UInt8) × (List UInt8 × Int))) : Option (List (List UInt8)) := if (xp0_0.map (·.1)).Nodup ∧ xp0_0.length * 16 ≤ 140737488355328 ∧ ∀ p ∈ xp0_0, p.1.length ≤ 140737488351232 then some (keysS xp0_0) else none
theorem slices_Sorted_string_maps_Keys_file_1.calls (W : World) (F : HA) (bp0 : Nat) (mp0_0 : Nat) (qp0_0 : Kps) (xp0_0 : List ((List UInt8) × (List UInt8 × Int))) :
    Fn Tryz.prog W 84 [.func (.func 131) #[] #[.pointer (some ⟨bp0, 0, none⟩)]] [obj bp0 74 [.map (some mp0_0)], mapF (mapO mp0_0 enc9 encP qp0_0) FA89 qp0_0 xp0_0] F (slices_Sorted_string_maps_Keys_file_1.f xp0_0) (fun (r : List (List UInt8)) (y : Option Addr × Nat) => .slice y.1 r.length y.2) (fun r y => [RowV 9 1 (V9 tt) y.1 r y.2, obj bp0 74 [.map (some mp0_0)], mapF (mapO mp0_0 enc9 encP qp0_0) FA89 qp0_0 xp0_0]) := by
  unfold slices_Sorted_string_maps_Keys_file_1.f
  exact fn_sortedSF fun F => fn_sortedS (V := (V9 tt)) (fun _ => rfl) Tryz.underlying9 (fun w D0 nn => lib_sorted84_131 w D0 nn mp0_0 bp0)

def disk_Disk_List.f (x0_0 : List ((List UInt8) × (List UInt8 × Int))) (x0_1 : List UInt8) (x0_2 : Int) (x0_3 : Bool) : Option (List (List UInt8)) := (maps_Keys_file.f).bind fun s1v => ((slices_Sorted_string_maps_Keys_file_1.f x0_0).bind fun s4v => (some s4v))
theorem disk_Disk_List.calls (W : World) (F : HA) (b0 : Nat) (m0_0 : Nat) (q0_0 : Kps) (x0_0 : List ((List UInt8) × (List UInt8 × Int))) (x0_1 : List UInt8) (x0_2 : Int) (x0_3 : Bool)  :
    Fn Tryz.prog W 46 [.pointer (some ⟨b0, 0, none⟩)] [obj b0 76 [.map (some m0_0), str x0_1, .int .i64 x0_2, .bool x0_3], mapF (mapO m0_0 enc9 encP q0_0) FA89 q0_0 x0_0] F (disk_Disk_List.f x0_0 x0_1 x0_2 x0_3) (fun (r : List (List UInt8)) (y : Option Addr × Nat) => .slice y.1 r.length y.2) (fun r y => [RowV 9 1 (V9 tt) y.1 r y.2, obj b0 76 [.map (some m0_0), str x0_1, .int .i64 x0_2, .bool x0_3], mapF (mapO m0_0 enc9 encP q0_0) FA89 q0_0 x0_0]) := by
 unfold disk_Disk_List.f
 refine fn_intro 9 Tryz.func46 rfl Tryz.ntmps46 rfl ?_
 refine sr ?_
 refine va rfl rfl (nx ?_)
 refine vm rfl rfl ?_
 refine vn rfl rfl ?_
 refine vq (q_fa rfl rfl Tryz.underlying76 rfl rfl Tryz.sizeOf74 rfl) rfl ?_
 refine vq (q_load rfl rfl Tryz.isAgg74 (.obj 0 rfl rfl)) rfl ?_
 refine simL_bind (fun s1v hs2v => ?_)
 refine simL_eff (re_call (vs := [.map (some m0_0)]) (cap := []) (A := []) (rst := [obj b0 76 [.map (some m0_0), str x0_1, .int .i64 x0_2, .bool x0_3], mapF (mapO m0_0 enc9 encP q0_0) FA89 q0_0 x0_0, F]) rfl rfl rfl rfl rfl rfl Tryz.call85 (.sel 0 rfl (.sel 0 rfl (.sel 0 rfl (.nil _)))) (maps_Keys_file.calls _ _ m0_0 ) hs2v) rfl rfl rfl ?_
 intro y3v
 refine simL_bind (fun s4v hs5v => ?_)
 refine simL_eff (re_call (vs := [.func (.func 131) #[] #[.pointer (some ⟨y3v, 0, none⟩)]]) (cap := []) (A := [obj y3v 74 [.map (some m0_0)], mapF (mapO m0_0 enc9 encP q0_0) FA89 q0_0 x0_0]) (rst := [obj b0 76 [.map (some m0_0), str x0_1, .int .i64 x0_2, .bool x0_3], F]) rfl rfl rfl rfl rfl rfl Tryz.call84 (.sel 0 rfl (.sel 1 rfl (.sel 0 rfl (.sel 0 rfl (.nil _))))) (slices_Sorted_string_maps_Keys_file_1.calls _ _ y3v m0_0 q0_0 x0_0 ) hs5v) rfl rfl rfl ?_
 intro y6v
 refine va rfl rfl (simL_nil (nrm_then (sim_rtn ?_)))
 exact rtn_fn (y6v.1, y6v.2) rfl rfl rfl (.sel 0 rfl (.sel 2 rfl (.sel 1 rfl (.sel 1 rfl (.nil _)))))

def stringslite_HasPrefix.f (x0 : List UInt8) (x1 : List UInt8) : Option (Bool) := some (Lib.hasPrefix x0 x1)
theorem stringslite_HasPrefix.calls (W : World) (F : HA) (x0 : List UInt8) (x1 : List UInt8)  :
    Fn Tryz.prog W 126 [str x0, str x1] [] F (stringslite_HasPrefix.f x0 x1) (fun (r : Bool) (y : Unit) => .bool r) (fun r y => []) := by
  unfold stringslite_HasPrefix.f
  exact fn_same (fun w => Any.stringslite_HasPrefix shL206 ⟨x0.toArray⟩ ⟨x1.toArray⟩ w)

def stringslite_CutPrefix.f (x0 : List UInt8) (x1 : List UInt8) : Option (List UInt8 × Bool) := (stringslite_HasPrefix.f x0 x1).bind fun s1v => (if (!s1v) = true then (some (x0, false)) else (if 0 ≤ (x1.length : Int) ∧ (x1.length : Int) ≤ (x0.length : Int) ∧ (x0.length : Int) ≤ (x0.length : Int) then (some (cut x0 (x1.length : Int) (x0.length : Int), true)) else none))
theorem stringslite_CutPrefix.calls (W : World) (F : HA) (x0 : List UInt8) (x1 : List UInt8)  :
    Fn Tryz.prog W 105 [str x0, str x1] [] F (stringslite_CutPrefix.f x0 x1) (fun (r : List UInt8 × Bool) (y : Unit) => .tuple #[str r.1, .bool r.2]) (fun r y => []) := by
 unfold stringslite_CutPrefix.f
 refine fn_intro 15 Tryz.func105 rfl Tryz.ntmps105 rfl ?_
 refine sr ?_
 refine va rfl rfl ?_
 refine va rfl rfl (simL_nil (nrm_then (sim_seq (sr ?_))))
 refine vm rfl rfl ?_
 refine vm rfl rfl ?_
 refine simL_bind (fun s1v hs2v => ?_)
 refine simL_eff (re_call (vs := [str x0, str x1]) (cap := []) (A := []) (rst := [F]) rfl rfl rfl rfl rfl rfl Tryz.call126 (.sel 0 rfl (.nil _)) (stringslite_HasPrefix.calls _ _ x0 x1 ) hs2v) rfl rfl rfl ?_
 intro y3v
 refine vq (q_not rfl rfl) rfl (simL_nil (nrm_then ?_))
 refine sim_condb rfl (fun h4v => ?_) (fun h5v => ?_)
 refine sr ?_
 refine vm rfl rfl ?_
 refine va rfl rfl ?_
 refine va rfl rfl (simL_nil (nrm_then (sim_rtn ?_)))
 refine rtn_then ?_
 exact rtn_fn () rfl rfl rfl (.sel 0 rfl (.nil _))
 refine sim_skip ?_
 refine nrm_then (sr ?_)
 refine vm rfl rfl ?_
 refine vm rfl rfl ?_
 refine vq (q_lens rfl rfl rfl Tryz.underlying9) rfl ?_
 refine simL_ask (fun hb6v => ?_)
 refine vq (q_cutS (lo' := (x1.length : Int)) (hi' := (x0.length : Int)) rfl rfl rfl rfl Tryz.underlying9 (.inl ⟨rfl, rfl⟩) (.inr ⟨_, rfl⟩) hb6v) rfl ?_
 refine va rfl rfl ?_
 refine va rfl rfl (simL_nil (nrm_then (sim_rtn ?_)))
 exact rtn_fn () rfl rfl rfl (.sel 0 rfl (.nil _))

def strings_CutPrefix.f (x0 : List UInt8) (x1 : List UInt8) : Option (List UInt8 × Bool) := (stringslite_CutPrefix.f x0 x1).bind fun s1v => (some (s1v.1, s1v.2))
theorem strings_CutPrefix.calls (W : World) (F : HA) (x0 : List UInt8) (x1 : List UInt8)  :
    Fn Tryz.prog W 65 [str x0, str x1] [] F (strings_CutPrefix.f x0 x1) (fun (r : List UInt8 × Bool) (y : Unit) => .tuple #[str r.1, .bool r.2]) (fun r y => []) := by
 unfold strings_CutPrefix.f
 refine fn_intro 11 Tryz.func65 rfl Tryz.ntmps65 rfl ?_
 refine sr ?_
 refine va rfl rfl ?_
 refine va rfl rfl (nx ?_)
 refine vm rfl rfl ?_
 refine vm rfl rfl ?_
 refine simL_bind (fun s1v hs2v => ?_)
 refine simL_eff (re_call (vs := [str x0, str x1]) (cap := []) (A := []) (rst := [F]) rfl rfl rfl rfl rfl rfl Tryz.call105 (.sel 0 rfl (.nil _)) (stringslite_CutPrefix.calls _ _ x0 x1 ) hs2v) rfl rfl rfl ?_
 intro y3v
 refine vq (q_ext rfl rfl rfl) rfl ?_
 refine vq (q_ext rfl rfl rfl) rfl ?_
 refine va rfl rfl ?_
 refine va rfl rfl (simL_nil (nrm_then (sim_rtn ?_)))
 exact rtn_fn () rfl rfl rfl (.sel 0 rfl (.nil _))

def strings_Trim.f (x0 : List UInt8) (x1 : List UInt8) : Option (List UInt8) := if x0.length ≤ 9223372036854775807 ∧ x1.length < 4294967281 ∧ ∀ b ∈ x1, b.toNat < 128 then some (Lib.trimS x0 x1) else none
theorem strings_Trim.calls (W : World) (F : HA) (x0 : List UInt8) (x1 : List UInt8)  :
    Fn Tryz.prog W 66 [str x0, str x1] [] F (strings_Trim.f x0 x1) (fun (r : List UInt8) (y : Unit) => str r) (fun r y => []) := by
  unfold strings_Trim.f
  exact fn_ask (fun h => fn_below (fun w => Any.strings_Trim_ascii shL160 (by intro w; kernel_rfl) (by kernel_rfl) ⟨x0.toArray⟩ ⟨x1.toArray⟩ w (by simpa [ByteArray.size] using h.1) (by simpa [ByteArray.size] using h.2.1) (fun j b hb => h.2.2 b (List.mem_of_getElem? hb))))

def strconv_ParseUint.f (x0 : List UInt8) (x1 : Int) (x2 : Int) : Option (Int × Bool) := if x1 = 10 ∧ x2 = 64 ∧ x0.length ≤ 281474976710656 then some (parseU x0) else none
theorem strconv_ParseUint.calls (W : World) (F : HA) (x0 : List UInt8) (x1 : Int) (x2 : Int) (hgl : Glb Tryz.prog F) :
    Fn Tryz.prog W 67 [str x0, .int .i64 x1, .int .i64 x2] [] F (strconv_ParseUint.f x0 x1 x2) (fun (r : Int × Bool) (y : Nat) => .tuple #[.int .u64 r.1, errV r.2 203 y]) (fun r y => []) := by
  unfold strconv_ParseUint.f
  exact fn_ask (fun h => by
    obtain ⟨rfl, rfl, h0⟩ := h
    have hs : (ByteArray.mk x0.toArray).size ≤ 281474976710656 := by simpa [ByteArray.size] using h0
    exact fn_parseU hgl (fun v hv w => (Any.strconv_ParseUint_10_at64_ok shL14 ⟨x0.toArray⟩ (by omega) v hv w).mono fun e w' ⟨a, b⟩ => ⟨a, b.imp id fun c => ⟨_, _, c⟩⟩) (fun hv tp p w hw => (Any.strconv_ParseUint_10_at64_syntax_var shL14 ⟨x0.toArray⟩ hs hv tp p w hw).mono fun e w' ⟨N, a, _, _, b⟩ => ⟨N, a, b⟩) (fun hv tp p w hw => (Any.strconv_ParseUint_10_at64_range_var shL14 ⟨x0.toArray⟩ hs hv tp p w hw).mono fun e w' ⟨N, a, _, _, b⟩ => ⟨N, a, b⟩))

def snap_Index.f (x0 : List UInt8) : Option (Int × Bool) := (strings_CutPrefix.f x0 ([115, 110, 97, 112, 45] : List UInt8)).bind fun s1v => ((if ((!s1v.2) || (!decide ((s1v.1.length : Int) = (19 : Int)))) = true then (some true) else ((strings_Trim.f s1v.1 ([48, 49, 50, 51, 52, 53, 54, 55, 56, 57] : List UInt8)).bind fun s6v => (some (!decide (s6v = ([] : List UInt8)))))).bind fun s4v => (if s4v = true then (some (0, false)) else ((strconv_ParseUint.f s1v.1 (10 : Int) (64 : Int)).bind fun s13v => (if (((!s13v.2) || (decide (s13v.1 < (1 : Int)))) || (decide ((4611686018427387904 : Int) < s13v.1))) = true then (some (0, false)) else (some (IntKind.i64.wrap s13v.1, true))))))
theorem snap_Index.calls (W : World) (F : HA) (x0 : List UInt8) (hgl : Glb Tryz.prog F) :
    Fn Tryz.prog W 24 [str x0] [] F (snap_Index.f x0) (fun (r : Int × Bool) (y : Unit) => .tuple #[.int .i64 r.1, .bool r.2]) (fun r y => []) := by
 unfold snap_Index.f
 refine fn_intro 42 Tryz.func24 rfl Tryz.ntmps24 rfl ?_
 refine sr ?_
 refine va rfl rfl ?_
 refine va rfl rfl (nx ?_)
 refine vm rfl rfl ?_
 refine simL_bind (fun s1v hs2v => ?_)
 refine simL_eff (re_call (vs := [str x0, str ([115, 110, 97, 112, 45] : List UInt8)]) (cap := []) (A := []) (rst := [F]) rfl rfl rfl rfl rfl rfl Tryz.call65 (.sel 0 rfl (.nil _)) (strings_CutPrefix.calls _ _ x0 ([115, 110, 97, 112, 45] : List UInt8) ) hs2v) rfl rfl rfl ?_
 intro y3v
 refine vm rfl rfl ?_
 refine vq (q_ext rfl rfl rfl) rfl ?_
 refine vq (q_ext rfl rfl rfl) rfl ?_
 refine va rfl rfl ?_
 refine va rfl rfl (simL_nil (nrm_then (sim_seq (sr ?_))))
 refine vm rfl rfl ?_
 refine vq (q_not rfl rfl) rfl ?_
 refine vm rfl rfl ?_
 refine simL_valc (b := !s1v.2) (fun hb24v => RQ.sub (E' := [(4, str s1v.1)]) ⟨rfl, trivial⟩ (q_move rfl rfl)) rfl rfl rfl rfl rfl ?_
 refine simL_valc (b := !s1v.2) (fun hb23v => RQ.sub (E' := [(16, str s1v.1)]) ⟨lk_cv rfl hb23v, trivial⟩ (q_lens rfl rfl rfl Tryz.underlying9)) rfl rfl rfl rfl rfl ?_
 refine simL_valc (b := !s1v.2) (fun hb22v => RQ.sub (E' := [(17, .int .i64 (s1v.1.length : Int))]) ⟨lk_cv rfl hb22v, trivial⟩ (q_neq rfl rfl rfl)) rfl rfl rfl rfl rfl ?_
 refine vq (q_or rfl rfl rfl) rfl ?_
 refine vm rfl rfl ?_
 refine simL_cut' 4 (S := Bool) (Unit) (fun s y => [(4, str s1v.1), (24, .bool s)]) (fun s y => [F]) ?_ ?_
 refine simL_caseb (fun hb9v => ?_) (fun hb10v => ?_)
 rw [hb9v]
 refine simL_skipd rfl rfl rfl rfl rfl rfl ?_
 refine simL_skipd rfl rfl rfl rfl rfl rfl ?_
 refine simL_skipd rfl rfl rfl rfl rfl rfl ?_
 refine vq (q_pick rfl rfl rfl rfl rfl) rfl (simL_nil ?_)
 exact nrm_cut (s := true) () ⟨rfl, rfl, trivial⟩ (.sel 0 rfl (.nil _))
 rw [hb10v]
 refine simL_valg (q_move rfl rfl) rfl rfl rfl rfl rfl rfl ?_
 refine simL_bind (fun s6v hs7v => ?_)
 refine simL_effg (re_call (vs := [str s1v.1, str ([48, 49, 50, 51, 52, 53, 54, 55, 56, 57] : List UInt8)]) (cap := []) (A := []) (rst := [F]) rfl rfl rfl rfl rfl rfl Tryz.call66 (.sel 0 rfl (.nil _)) (strings_Trim.calls _ _ s1v.1 ([48, 49, 50, 51, 52, 53, 54, 55, 56, 57] : List UInt8) ) hs7v) rfl rfl rfl rfl rfl rfl ?_
 intro y8v
 refine simL_valg (q_nes rfl rfl rfl) rfl rfl rfl rfl rfl rfl ?_
 refine vq (q_pick rfl rfl rfl rfl rfl) rfl (simL_nil ?_)
 exact nrm_cut (s := !decide (s6v = ([] : List UInt8))) () ⟨rfl, rfl, trivial⟩ (.sel 0 rfl (.nil _))
 intro s4v y5v
 refine simL_nil (nrm_then ?_)
 refine sim_condb rfl (fun h11v => ?_) (fun h12v => ?_)
 refine sr ?_
 refine va rfl rfl ?_
 refine va rfl rfl (simL_nil (nrm_then (sim_rtn ?_)))
 refine rtn_then ?_
 exact rtn_fn () rfl rfl rfl (.sel 0 rfl (.nil _))
 refine sim_skip ?_
 refine nrm_then (sr ?_)
 refine vm rfl rfl ?_
 refine simL_bind (fun s13v hs14v => ?_)
 refine simL_eff (re_call (vs := [str s1v.1, .int .i64 10, .int .i64 64]) (cap := []) (A := []) (rst := [F]) rfl rfl rfl rfl rfl rfl Tryz.call67 (.sel 0 rfl (.nil _)) (strconv_ParseUint.calls _ _ s1v.1 (10 : Int) (64 : Int) (hgl.lend 0 rfl)) hs14v) rfl rfl rfl ?_
 intro y15v
 refine vm rfl rfl ?_
 refine vq (q_ext rfl rfl rfl) rfl ?_
 refine vq (q_ext rfl rfl rfl) rfl ?_
 refine va rfl rfl ?_
 refine va rfl rfl (simL_nil (nrm_then (sim_seq (sr ?_))))
 refine vm rfl rfl ?_
 refine vq (q_neerr rfl rfl Tryz.underlying113) rfl ?_
 refine vm rfl rfl ?_
 refine simL_valc (b := !s13v.2) (fun hb21v => RQ.sub (E' := [(6, .int .u64 s13v.1)]) ⟨rfl, trivial⟩ (q_move rfl rfl)) rfl rfl rfl rfl rfl ?_
 refine simL_valc (b := !s13v.2) (fun hb20v => RQ.sub (E' := [(33, .int .u64 s13v.1)]) ⟨lk_cv rfl hb20v, trivial⟩ (q_lss rfl rfl rfl)) rfl rfl rfl rfl rfl ?_
 refine vq (q_or rfl rfl rfl) rfl ?_
 refine vm rfl rfl ?_
 refine simL_valc (b := (!s13v.2) || (decide (s13v.1 < (1 : Int)))) (fun hb19v => RQ.sub (E' := [(6, .int .u64 s13v.1)]) ⟨rfl, trivial⟩ (q_move rfl rfl)) rfl rfl rfl rfl rfl ?_
 refine simL_valc (b := (!s13v.2) || (decide (s13v.1 < (1 : Int)))) (fun hb18v => RQ.sub (E' := [(37, .int .u64 s13v.1)]) ⟨lk_cv rfl hb18v, trivial⟩ (q_gtr rfl rfl rfl)) rfl rfl rfl rfl rfl ?_
 refine vq (q_or rfl rfl rfl) rfl (simL_nil (nrm_then ?_))
 refine sim_condb rfl (fun h16v => ?_) (fun h17v => ?_)
 refine sr ?_
 refine va rfl rfl ?_
 refine va rfl rfl (simL_nil (nrm_then (sim_rtn ?_)))
 refine rtn_then ?_
 exact rtn_fn () rfl rfl rfl (.sel 0 rfl (.nil _))
 refine sim_skip ?_
 refine nrm_then (sr ?_)
 refine vm rfl rfl ?_
 refine vq (q_conv rfl rfl Tryz.underlying111 Tryz.underlying3) rfl ?_
 refine va rfl rfl ?_
 refine va rfl rfl (simL_nil (nrm_then (sim_rtn ?_)))
 exact rtn_fn () rfl rfl rfl (.sel 0 rfl (.nil _))

def snap_List.l0 (s3v : List (List UInt8)) : Nat → List Int → Int → Option (List Int)
  | 0, _, _ => none
  | k + 1, z8v, z9v => if z9v < (s3v.length : Int) then (if 0 ≤ z9v ∧ z9v < (s3v.length : Int) then ((snap_Index.f (s3v.getD z9v.toNat ([] : List UInt8))).bind fun s22v => (if s22v.2 = true then (if (z8v.length + ([s22v.1] : List Int).length) * 8 ≤ 140737488355328 then (snap_List.l0 s3v k (z8v ++ ([s22v.1] : List Int)) (IntKind.i64.wrap (z9v + 1))) else none) else (snap_List.l0 s3v k z8v (IntKind.i64.wrap (z9v + 1))))) else none) else (some z8v)
def snap_List.f (k : Nat) (x0_0 : List ((List UInt8) × (List UInt8 × Int))) (x0_1 : List UInt8) (x0_2 : Int) (x0_3 : Bool) : Option (List Int) := ((disk_Disk_List.f x0_0 x0_1 x0_2 x0_3).bind fun s3v => (snap_List.l0 s3v k ([] : List Int) 0)).bind fun s1v => (some s1v)
theorem snap_List.calls (W : World) (F : HA) (k : Nat) (b0 : Nat) (m0_0 : Nat) (q0_0 : Kps) (x0_0 : List ((List UInt8) × (List UInt8 × Int))) (x0_1 : List UInt8) (x0_2 : Int) (x0_3 : Bool) (hgl : Glb Tryz.prog F) :
    Fn Tryz.prog W 14 [.pointer (some ⟨b0, 0, none⟩)] [obj b0 76 [.map (some m0_0), str x0_1, .int .i64 x0_2, .bool x0_3], mapF (mapO m0_0 enc9 encP q0_0) FA89 q0_0 x0_0] F (snap_List.f k x0_0 x0_1 x0_2 x0_3) (fun (r : List Int) (y : Option Addr × Nat) => .slice y.1 r.length y.2) (fun r y => [RowV 3 1 (V3 tt) y.1 r y.2, obj b0 76 [.map (some m0_0), str x0_1, .int .i64 x0_2, .bool x0_3], mapF (mapO m0_0 enc9 encP q0_0) FA89 q0_0 x0_0]) := by
 unfold snap_List.f
 refine fn_intro 27 Tryz.func14 rfl Tryz.ntmps14 rfl ?_
 refine sr ?_
 refine va rfl rfl (nx ?_)
 refine va rfl rfl (simL_nil (nrm_then ?_))
 refine sim_cut (S := List Int) (Option Addr × Nat) (fun s y => [(3, .slice y.1 s.length y.2)]) (fun s y => [obj b0 76 [.map (some m0_0), str x0_1, .int .i64 x0_2, .bool x0_3], RowV 3 1 (V3 tt) y.1 s y.2, mapF (mapO m0_0 enc9 encP q0_0) FA89 q0_0 x0_0, F]) ?_ ?_
 refine sr ?_
 refine vm rfl rfl ?_
 refine simL_bind (fun s3v hs4v => ?_)
 refine simL_eff (re_call (vs := [.pointer (some ⟨b0, 0, none⟩)]) (cap := []) (A := [obj b0 76 [.map (some m0_0), str x0_1, .int .i64 x0_2, .bool x0_3], mapF (mapO m0_0 enc9 encP q0_0) FA89 q0_0 x0_0]) (rst := [F]) rfl rfl rfl rfl rfl rfl Tryz.call46 (.sel 0 rfl (.sel 0 rfl (.sel 0 rfl (.nil _)))) (disk_Disk_List.calls _ _ b0 m0_0 q0_0 x0_0 x0_1 x0_2 x0_3 ) hs4v) rfl rfl rfl ?_
 intro y5v
 refine vq (q_len rfl rfl rfl Tryz.underlying90) rfl ?_
 refine vm rfl rfl (simL_nil (nrm_then ?_))
 refine sim_block ?_
 refine sim_loop (S := List Int × Int) (Option Addr × Nat) (fun k s => snap_List.l0 s3v k s.1 s.2) (fun s y => [(3, .slice y.1 s.1.length y.2), (9, .slice y5v.1 s3v.length y5v.2), (10, .int .i64 (s3v.length : Int)), (11, .int .i64 s.2)]) (fun s y => [obj b0 76 [.map (some m0_0), str x0_1, .int .i64 x0_2, .bool x0_3], RowV 3 1 (V3 tt) y.1 s.1 y.2, RowV 9 1 (V9 tt) y5v.1 s3v y5v.2, mapF (mapO m0_0 enc9 encP q0_0) FA89 q0_0 x0_0, F]) (fun _ => by rw [snap_List.l0]) ?_ k (([] : List Int), 0) (none, 0) ⟨rfl, rfl, rfl, rfl, trivial⟩ (.sel 1 rfl (.rowV_nil (.sel 0 rfl (.sel 0 rfl (.sel 0 rfl (.nil _))))))
 intro k s6v y7v
 refine sim_eq (by rw [snap_List.l0]) ?_
 refine sr ?_
 refine vq (q_lss rfl rfl rfl) rfl (simL_nil (nrm_then (sim_seq ?_)))
 refine sim_cond rfl (fun h10v => ?_) (fun h11v => ?_)
 refine sim_skip ?_
 refine nrm_then (sim_seq ?_)
 refine sim_block ?_
 refine sr ?_
 refine simL_openV 2 rfl (fun rs20v hl21v => ?_)
 refine simL_ask (fun hi12v => ?_)
 refine simL_posV 2 rfl hl21v rfl (i := s6v.2.toNat) (by omega) ([] : List UInt8) (fun b13v b13vo r16v ha14v hV17v hlr18v hcell19v => ?_)
 obtain rfl := hV17v
 refine vq (q_idx rfl rfl rfl ha14v Tryz.underlying90 Tryz.sizeOf9 hi12v.1 hi12v.2) rfl ?_
 refine vq (q_load rfl rfl Tryz.isAgg9 (hcell19v 2 rfl 0 _ rfl)) rfl ?_
 refine va rfl rfl (nx ?_)
 refine vm rfl rfl ?_
 refine simL_bind (fun s22v hs23v => ?_)
 refine simL_eff (re_call (vs := [str (s3v.getD s6v.2.toNat ([] : List UInt8))]) (cap := []) (A := []) (rst := [obj b0 76 [.map (some m0_0), str x0_1, .int .i64 x0_2, .bool x0_3], RowV 3 1 (V3 tt) y7v.1 s6v.1 y7v.2, Row 9 1 y5v.1 s3v.length y5v.2 rs20v.flatten, mapF (mapO m0_0 enc9 encP q0_0) FA89 q0_0 x0_0, F]) rfl rfl rfl rfl rfl rfl Tryz.call24 (.sel 0 rfl (.sel 0 rfl (.sel 0 rfl (.sel 0 rfl (.sel 0 rfl (.nil _)))))) (snap_Index.calls _ _ (s3v.getD s6v.2.toNat ([] : List UInt8)) (hgl.lend 4 rfl)) hs23v) rfl rfl rfl ?_
 intro y24v
 refine vm rfl rfl ?_
 refine vq (q_ext rfl rfl rfl) rfl ?_
 refine vq (q_ext rfl rfl rfl) rfl ?_
 refine va rfl rfl ?_
 refine va rfl rfl (nx ?_)
 refine vm rfl rfl (simL_nil (nrm_then ?_))
 refine sim_condb rfl (fun h25v => ?_) (fun h26v => ?_)
 refine sim_region ?_
 refine vm rfl rfl ?_
 refine vm rfl rfl ?_
 have hlb28v : ListV 1 (V3 tt) ([s22v.1] : List Int) [[.int .i64 s22v.1]] := ⟨⟨rfl, one_of (by rfl), rfl⟩, trivial⟩
 refine simL_eff (re_litV (V := (V3 tt)) (xs := ([s22v.1] : List Int)) [[.int .i64 s22v.1]] rfl rfl Tryz.underlying23 elt3 rfl (by kernel_rfl) rfl hlb28v rfl rfl) rfl rfl rfl ?_
 intro b28v
 refine simL_openV 2 rfl (fun rs33v hl34v => ?_)
 refine simL_ask (fun hb32v => ?_)
 refine simL_eff (re_appendV 2 rfl rfl rfl Tryz.underlying23 elt3 rfl hl34v (RdsV.row hlb28v 0 rfl) hb32v) rfl rfl rfl ?_
 intro y31v
 refine va rfl rfl (simL_nil (nrm_block (nrm_then (sim_region ?_))))
 refine vq (q_add rfl rfl rfl) rfl ?_
 refine vm rfl rfl (simL_nil ?_)
 exact nrm_again (s := (s6v.1 ++ ([s22v.1] : List Int), IntKind.i64.wrap (s6v.2 + 1))) (y31v.1, y31v.2) ⟨rfl, rfl, rfl, rfl, trivial⟩ (.sel 1 rfl (.sel 1 rfl (.sel' 1 rfl (RowV.mk hl21v) (.sel 1 rfl (.sel 1 rfl (.nil _))))))
 refine sim_skip ?_
 refine nrm_block (nrm_then (sim_region ?_))
 refine vq (q_add rfl rfl rfl) rfl ?_
 refine vm rfl rfl (simL_nil ?_)
 exact nrm_again (s := (s6v.1, IntKind.i64.wrap (s6v.2 + 1))) (y7v.1, y7v.2) ⟨rfl, rfl, rfl, rfl, trivial⟩ (.sel 0 rfl (.sel 0 rfl (.sel' 0 rfl (RowV.mk hl21v) (.sel 0 rfl (.sel 0 rfl (.nil _))))))
 refine sim_exi ?_
 refine exi_then ?_
 refine exi_loop ?_
 refine exi_here ?_
 exact nrm_cut (s := s6v.1) (y7v.1, y7v.2) ⟨rfl, trivial⟩ (.sel 0 rfl (.sel 0 rfl (.sel 1 rfl (.sel 1 rfl (.nil _)))))
 intro s1v y2v
 refine sr ?_
 refine vm rfl rfl ?_
 refine va rfl rfl (simL_nil (nrm_then (sim_rtn ?_)))
 exact rtn_fn (y2v.1, y2v.2) rfl rfl rfl (.sel 1 rfl (.sel 0 rfl (.sel 0 rfl (.sel 0 rfl (.nil _)))))

def strconv_Itoa.f (x0 : Int) : Option (List UInt8) := if -9223372036854775808 ≤ x0 ∧ x0 ≤ 9223372036854775807 then some (Lib.itoa x0) else none
theorem strconv_Itoa.calls (W : World) (F : HA) (x0 : Int) (hgl : Glb Tryz.prog F) :
    Fn Tryz.prog W 43 [.int .i64 x0] [] F (strconv_Itoa.f x0) (fun (r : List UInt8) (y : Unit) => str r) (fun r y => []) := by
  unfold strconv_Itoa.f
  exact fn_ask (fun h => fn_itoa hgl (fun w ht => Any.strconv_Itoa shL171 x0 h.1 h.2 w ht))

def strings_Repeat.f (x0 : List UInt8) (x1 : Int) : Option (List UInt8) := if 0 ≤ x1 ∧ x0.length * x1.toNat ≤ 140737488355328 ∧ x1 ≤ 9223372036854775807 then some (Lib.repeatL x0 x1.toNat) else none
theorem strings_Repeat.calls (W : World) (F : HA) (x0 : List UInt8) (x1 : Int)  :
    Fn Tryz.prog W 44 [str x0, .int .i64 x1] [] F (strings_Repeat.f x0 x1) (fun (r : List UInt8) (y : Unit) => str r) (fun r y => []) := by
  unfold strings_Repeat.f
  exact fn_ask (fun h => by
    obtain ⟨n, rfl⟩ := Int.eq_ofNat_of_zero_le h.1
    exact fn_below (fun w => Any.strings_Repeat shL105 shX105 ⟨x0.toArray⟩ n w (by have := h.2.2; omega) (by simpa [ByteArray.size] using h.2.1)))

def snap_Name.f (x0 : Int) : Option (List UInt8 × Int) := if ((decide (x0 < (1 : Int))) || (decide ((4611686018427387904 : Int) < x0))) = true then (some (([] : List UInt8), 1)) else ((strconv_Itoa.f x0).bind fun s3v => ((strings_Repeat.f ([48] : List UInt8) (IntKind.i64.wrap (19 - (s3v.length : Int)))).bind fun s6v => (if ([115, 110, 97, 112, 45] : List UInt8).length + s6v.length ≤ 9223372036854775807 then (if (([115, 110, 97, 112, 45] : List UInt8) ++ s6v).length + s3v.length ≤ 9223372036854775807 then (some ((([115, 110, 97, 112, 45] : List UInt8) ++ s6v) ++ s3v, 0)) else none) else none)))
theorem snap_Name.calls (W : World) (F : HA) (x0 : Int) (hgl : Glb Tryz.prog F) :
    Fn Tryz.prog W 11 [.int .i64 x0] [] F (snap_Name.f x0) (fun (r : List UInt8 × Int) (y : Unit) => .tuple #[str r.1, .int .i64 r.2]) (fun r y => []) := by
 unfold snap_Name.f
 refine fn_intro 20 Tryz.func11 rfl Tryz.ntmps11 rfl ?_
 refine sr ?_
 refine va rfl rfl ?_
 refine va rfl rfl (simL_nil (nrm_then (sim_seq (sr ?_))))
 refine vm rfl rfl ?_
 refine vq (q_lss rfl rfl rfl) rfl ?_
 refine vm rfl rfl ?_
 refine simL_valc (b := decide (x0 < (1 : Int))) (fun hb12v => RQ.sub (E' := [(0, .int .i64 x0)]) ⟨rfl, trivial⟩ (q_move rfl rfl)) rfl rfl rfl rfl rfl ?_
 refine simL_valc (b := decide (x0 < (1 : Int))) (fun hb11v => RQ.sub (E' := [(8, .int .i64 x0)]) ⟨lk_cv rfl hb11v, trivial⟩ (q_gtr rfl rfl rfl)) rfl rfl rfl rfl rfl ?_
 refine vq (q_or rfl rfl rfl) rfl (simL_nil (nrm_then ?_))
 refine sim_condb rfl (fun h1v => ?_) (fun h2v => ?_)
 refine sr ?_
 refine va rfl rfl ?_
 refine va rfl rfl (simL_nil (nrm_then (sim_rtn ?_)))
 refine rtn_then ?_
 exact rtn_fn () rfl rfl rfl (.sel 0 rfl (.nil _))
 refine sim_skip ?_
 refine nrm_then (sr ?_)
 refine vm rfl rfl ?_
 refine simL_bind (fun s3v hs4v => ?_)
 refine simL_eff (re_call (vs := [.int .i64 x0]) (cap := []) (A := []) (rst := [F]) rfl rfl rfl rfl rfl rfl Tryz.call43 (.sel 0 rfl (.nil _)) (strconv_Itoa.calls _ _ x0 (hgl.lend 0 rfl)) hs4v) rfl rfl rfl ?_
 intro y5v
 refine va rfl rfl (nx ?_)
 refine vm rfl rfl ?_
 refine vq (q_lens rfl rfl rfl Tryz.underlying9) rfl ?_
 refine vq (q_sub rfl rfl rfl) rfl ?_
 refine simL_bind (fun s6v hs7v => ?_)
 refine simL_eff (re_call (vs := [str ([48] : List UInt8), .int .i64 (IntKind.i64.wrap (19 - (s3v.length : Int)))]) (cap := []) (A := []) (rst := [F]) rfl rfl rfl rfl rfl rfl Tryz.call44 (.sel 0 rfl (.nil _)) (strings_Repeat.calls _ _ ([48] : List UInt8) (IntKind.i64.wrap (19 - (s3v.length : Int))) ) hs7v) rfl rfl rfl ?_
 intro y8v
 refine simL_ask (fun hb9v => ?_)
 refine vq (q_cat rfl rfl rfl hb9v) rfl ?_
 refine vm rfl rfl ?_
 refine simL_ask (fun hb10v => ?_)
 refine vq (q_cat rfl rfl rfl hb10v) rfl ?_
 refine va rfl rfl ?_
 refine va rfl rfl (simL_nil (nrm_then (sim_rtn ?_)))
 exact rtn_fn () rfl rfl rfl (.sel 0 rfl (.nil _))

def disk_fresh.f (x0 : List UInt8) : Option (List UInt8) := if 0 ≤ (0 : Int) ∧ (0 : Int) ≤ (x0.length : Int) ∧ (x0.length : Int) * 1 ≤ 140737488355328 then (if ((List.replicate (0 : Int).toNat (0 : UInt8)).length + x0.length) * 1 ≤ 140737488355328 then (some ((List.replicate (0 : Int).toNat (0 : UInt8)) ++ x0)) else none) else none
theorem disk_fresh.calls (W : World) (F : HA) (a0 : Option Addr) (c0 : Nat) (x0 : List UInt8) (h0 : Rd F a0 (encB x0)) (hc0 : x0.length ≤ c0) (hm0 : c0 ≤ maxLen) :
    Fn Tryz.prog W 70 [.slice a0 x0.length c0] [] F (disk_fresh.f x0) (fun (r : List UInt8) (y : Option Addr × Nat) => .slice y.1 r.length y.2) (fun r y => [Row 5 1 y.1 r.length y.2 (encB r)]) := by
 unfold disk_fresh.f
 refine fn_intro 8 Tryz.func70 rfl Tryz.ntmps70 rfl ?_
 refine sr ?_
 refine va rfl rfl (nx ?_)
 refine vm rfl rfl ?_
 refine vq (q_len rfl rfl rfl Tryz.underlying25) rfl ?_
 refine simL_ask (fun hb2v => ?_)
 refine simL_eff (re_makeb rfl rfl rfl Tryz.underlying25 elt5 hb2v.1 hb2v.2.1 hb2v.2.2) rfl rfl rfl ?_
 intro b1v
 refine vm rfl rfl ?_
 refine simL_ask (fun hb4v => ?_)
 refine simL_eff (re_appendb 0 rfl rfl rfl Tryz.underlying25 elt5 rfl (h0.rds 0 rfl) hb4v) rfl rfl rfl ?_
 intro y3v
 refine va rfl rfl (simL_nil (nrm_then (sim_rtn ?_)))
 exact rtn_fn (y3v.1, y3v.2) rfl rfl rfl (.sel 0 rfl (.sel 0 rfl (.nil _)))

def disk_Disk_Read.f (x0_0 : List ((List UInt8) × (List UInt8 × Int))) (x0_1 : List UInt8) (x0_2 : Int) (x0_3 : Bool) (x1 : List UInt8) : Option (List UInt8 × Int) := if (mget x0_0 x1).isSome = true then ((disk_fresh.f (((mget x0_0 x1).getD (([] : List UInt8), (0 : Int))).1)).bind fun s7v => (some (s7v, 0))) else (some (([] : List UInt8), 8))
theorem disk_Disk_Read.calls (W : World) (F : HA) (b0 : Nat) (m0_0 : Nat) (q0_0 : Kps) (x0_0 : List ((List UInt8) × (List UInt8 × Int))) (x0_1 : List UInt8) (x0_2 : Int) (x0_3 : Bool) (x1 : List UInt8)  :
    Fn Tryz.prog W 86 [.pointer (some ⟨b0, 0, none⟩), str x1] [obj b0 76 [.map (some m0_0), str x0_1, .int .i64 x0_2, .bool x0_3], mapF (mapO m0_0 enc9 encP q0_0) FA89 q0_0 x0_0] F (disk_Disk_Read.f x0_0 x0_1 x0_2 x0_3 x1) (fun (r : List UInt8 × Int) (y : Option Addr × Nat) => .tuple #[.slice y.1 r.1.length y.2, .int .i64 r.2]) (fun r y => [Row 5 1 y.1 r.1.length y.2 (encB r.1), obj b0 76 [.map (some m0_0), str x0_1, .int .i64 x0_2, .bool x0_3], mapF (mapO m0_0 enc9 encP q0_0) FA89 q0_0 x0_0]) := by
 unfold disk_Disk_Read.f
 refine fn_intro 20 Tryz.func86 rfl Tryz.ntmps86 rfl ?_
 refine sr ?_
 refine va rfl rfl ?_
 refine va rfl rfl (simL_nil (nrm_then (sim_seq ?_)))
 refine sim_if (fun hk1v => ?_) (fun hk1v => ?_)
 refine sim_region ?_
 refine vm rfl rfl ?_
 refine vn rfl rfl ?_
 refine vq (q_fa rfl rfl Tryz.underlying76 rfl rfl Tryz.sizeOf74 rfl) rfl ?_
 refine vq (q_load rfl rfl Tryz.isAgg74 (.obj 0 rfl rfl)) rfl ?_
 refine vm rfl rfl ?_
 refine vq ((q_mlookY (ek := enc9) x1 (tellsF 1 rfl) hk1v rfl rfl rfl Tryz.underlying74 key9 : RQ _ _ _ _ (.pointer (some ⟨(fptr q0_0 x1), 0, none⟩)))) rfl ?_
 refine va rfl rfl (simL_nil (nrm_then (sim_seq (sr ?_))))
 refine vm rfl rfl ?_
 refine vq (q_eqp rfl rfl rfl Tryz.underlying87) rfl (simL_nil (nrm_then ?_))
 refine sim_false rfl ?_
 refine sim_skip ?_
 refine nrm_then (sim_seq ?_)
 refine sim_openF (v := ((mget x0_0 x1).getD (([] : List UInt8), (0 : Int)))) 1 rfl (getD_some hk1v) (fun y2v => ?_)
 refine sim_ent (H' := [obj (fptr q0_0 x1) 89 [.slice y2v.1 ((((mget x0_0 x1).getD (([] : List UInt8), (0 : Int))).1).length) y2v.2, .int .i64 (((mget x0_0 x1).getD (([] : List UInt8), (0 : Int))).2)], Row 5 1 y2v.1 (((mget x0_0 x1).getD (([] : List UInt8), (0 : Int))).1).length y2v.2 (encB (((mget x0_0 x1).getD (([] : List UInt8), (0 : Int))).1)), mapH (mapO m0_0 enc9 encP q0_0) FA89 q0_0 x0_0 x1, obj b0 76 [.map (some m0_0), str x0_1, .int .i64 x0_2, .bool x0_3], F]) (Ent.refl _) ?_
 refine sim_region ?_
 refine vm rfl rfl ?_
 refine vn rfl rfl ?_
 refine vq (q_fa rfl rfl Tryz.underlying89 rfl rfl Tryz.sizeOf25 rfl) rfl ?_
 refine vq (q_load rfl rfl Tryz.isAgg25 (.obj 0 rfl rfl)) rfl ?_
 refine simL_bind (fun s7v hs8v => ?_)
 refine simL_lend 1 rfl (fun hq3v hq4v hq5v hq6v => ?_)
 refine simL_eff (re_call (vs := [.slice y2v.1 ((((mget x0_0 x1).getD (([] : List UInt8), (0 : Int))).1).length) y2v.2]) (cap := []) (A := []) (rst := [obj (fptr q0_0 x1) 89 [.slice y2v.1 ((((mget x0_0 x1).getD (([] : List UInt8), (0 : Int))).1).length) y2v.2, .int .i64 (((mget x0_0 x1).getD (([] : List UInt8), (0 : Int))).2)], Row 5 1 y2v.1 (((mget x0_0 x1).getD (([] : List UInt8), (0 : Int))).1).length y2v.2 (encB (((mget x0_0 x1).getD (([] : List UInt8), (0 : Int))).1)), mapH (mapO m0_0 enc9 encP q0_0) FA89 q0_0 x0_0 x1, obj b0 76 [.map (some m0_0), str x0_1, .int .i64 x0_2, .bool x0_3], F]) rfl rfl rfl rfl rfl rfl Tryz.call70 (.sel 0 rfl (.sel 0 rfl (.sel 0 rfl (.sel 0 rfl (.sel 0 rfl (.nil _)))))) (disk_fresh.calls _ _ y2v.1 y2v.2 (((mget x0_0 x1).getD (([] : List UInt8), (0 : Int))).1) (hq3v.lend 1 rfl) hq4v hq5v) hs8v) rfl rfl rfl ?_
 intro y9v
 refine va rfl rfl ?_
 refine va rfl rfl (simL_nil (nrm_then (sim_rtn ?_)))
 exact rtn_fn (y9v.1, y9v.2) rfl rfl rfl (.sel 0 rfl (.sel 3 rfl (.foldF0 (x := x1) (p := (fptr q0_0 x1)) (v := ((mget x0_0 x1).getD (([] : List UInt8), (0 : Int)))) (y2v.1, y2v.2) rfl (getD_some hk1v) (.sel 2 rfl (.sel 0 rfl (.sel 0 rfl (.sel 0 rfl (.nil _))))))))
 refine sim_region ?_
 refine vm rfl rfl ?_
 refine vn rfl rfl ?_
 refine vq (q_fa rfl rfl Tryz.underlying76 rfl rfl Tryz.sizeOf74 rfl) rfl ?_
 refine vq (q_load rfl rfl Tryz.isAgg74 (.obj 0 rfl rfl)) rfl ?_
 refine vm rfl rfl ?_
 refine vq (q_mlookN (ek := enc9) x1 (tellsF 1 rfl) (isNone_of hk1v) rfl rfl rfl Tryz.underlying74 key9 Tryz.zeroValue87) rfl ?_
 refine va rfl rfl (simL_nil (nrm_then (sim_seq (sr ?_))))
 refine vm rfl rfl ?_
 refine vq (q_eqnn rfl rfl rfl Tryz.underlying87) rfl (simL_nil (nrm_then ?_))
 refine sim_true rfl ?_
 refine sr ?_
 refine va rfl rfl ?_
 refine va rfl rfl (simL_nil (nrm_then (sim_rtn ?_)))
 refine rtn_then ?_
 exact rtn_fn (none, 0) rfl rfl rfl (.row_nil (.sel 0 rfl (.sel 0 rfl (.sel 0 rfl (.nil _)))))

def frame_read.f (x0 : List UInt8) : Option (Int) := if 0 ≤ (0 : Int) ∧ (0 : Int) < (x0.length : Int) then (if 0 ≤ (1 : Int) ∧ (1 : Int) < (x0.length : Int) then (if 0 ≤ (2 : Int) ∧ (2 : Int) < (x0.length : Int) then (if 0 ≤ (3 : Int) ∧ (3 : Int) < (x0.length : Int) then (some (bitsV .or .u32 (bitsV .or .u32 (bitsV .or .u32 (IntKind.u32.wrap ((x0.getD (0 : Int).toNat 0).toNat : Int)) (IntKind.u32.wrap ((IntKind.u32.wrap ((x0.getD (1 : Int).toNat 0).toNat : Int)) * 2 ^ (min (8 : Int).toNat IntKind.u32.bits)))) (IntKind.u32.wrap ((IntKind.u32.wrap ((x0.getD (2 : Int).toNat 0).toNat : Int)) * 2 ^ (min (16 : Int).toNat IntKind.u32.bits)))) (IntKind.u32.wrap ((IntKind.u32.wrap ((x0.getD (3 : Int).toNat 0).toNat : Int)) * 2 ^ (min (24 : Int).toNat IntKind.u32.bits))))) else none) else none) else none) else none
theorem frame_read.calls (W : World) (F : HA) (a0 : Option Addr) (c0 : Nat) (x0 : List UInt8) (h0 : Rd F a0 (encB x0)) (hc0 : x0.length ≤ c0) (hm0 : c0 ≤ maxLen) :
    Fn Tryz.prog W 171 [.slice a0 x0.length c0] [] F (frame_read.f x0) (fun (r : Int) (y : Unit) => .int .u32 r) (fun r y => []) := by
 unfold frame_read.f
 refine fn_intro 25 Tryz.func171 rfl Tryz.ntmps171 rfl ?_
 refine sr ?_
 refine va rfl rfl (simL_nil (nrm_then (sim_seq ?_)))
 refine sim_ask (fun hi1v => ?_)
 obtain ⟨b2v, b2vo, ha3v⟩ := h0.pos (encB_ne (j := (0 : Int).toNat) (by omega))
 refine sim_ask (fun hi5v => ?_)
 obtain ⟨b6v, b6vo, ha7v⟩ := h0.pos (encB_ne (j := (1 : Int).toNat) (by omega))
 refine sim_ask (fun hi9v => ?_)
 obtain ⟨b10v, b10vo, ha11v⟩ := h0.pos (encB_ne (j := (2 : Int).toNat) (by omega))
 refine sim_ask (fun hi13v => ?_)
 obtain ⟨b14v, b14vo, ha15v⟩ := h0.pos (encB_ne (j := (3 : Int).toNat) (by omega))
 refine sim_draw (Γ := Unit) () [[], [0], [0, 1], [0, 1, 2], [], [4], [4, 5], [4, 5, 6], [4, 5, 6, 7], rL 9, [], [10], [10, 11], [10, 11, 12], [10, 11, 12, 13], rL 15, [], [16], [16, 17], [16, 17, 18], [16, 17, 18, 19], rL 21, rL 22] [] [0, 1, 2, 3, 4, 5, 6, 7, 8, 9, 10, 11, 12, 13, 14, 15, 16, 17, 18, 19, 20, 21, 22] (fun i => [[0], [0], [0], [0], [0], [0], [0], [0], [0], [0], [0], [0], [0], [0], [0], [0], [0], [0], [0], [0], [0], [0], [0]].getD i []) (fun i => [[], [], [], [], [], [], [], [], [], [], [], [], [], [], [], [], [], [], [], [], [], [], []].getD i []) (fun γ i => [.slice a0 x0.length c0, .pointer (some ⟨b2v, b2vo + (0 : Int).toNat, none⟩), .int .u8 ((x0.getD (0 : Int).toNat 0).toNat : Int), .int .u32 (IntKind.u32.wrap ((x0.getD (0 : Int).toNat 0).toNat : Int)), .slice a0 x0.length c0, .pointer (some ⟨b6v, b6vo + (1 : Int).toNat, none⟩), .int .u8 ((x0.getD (1 : Int).toNat 0).toNat : Int), .int .u32 (IntKind.u32.wrap ((x0.getD (1 : Int).toNat 0).toNat : Int)), .int .u32 (IntKind.u32.wrap ((IntKind.u32.wrap ((x0.getD (1 : Int).toNat 0).toNat : Int)) * 2 ^ (min (8 : Int).toNat IntKind.u32.bits))), .int .u32 (bitsV .or .u32 (IntKind.u32.wrap ((x0.getD (0 : Int).toNat 0).toNat : Int)) (IntKind.u32.wrap ((IntKind.u32.wrap ((x0.getD (1 : Int).toNat 0).toNat : Int)) * 2 ^ (min (8 : Int).toNat IntKind.u32.bits)))), .slice a0 x0.length c0, .pointer (some ⟨b10v, b10vo + (2 : Int).toNat, none⟩), .int .u8 ((x0.getD (2 : Int).toNat 0).toNat : Int), .int .u32 (IntKind.u32.wrap ((x0.getD (2 : Int).toNat 0).toNat : Int)), .int .u32 (IntKind.u32.wrap ((IntKind.u32.wrap ((x0.getD (2 : Int).toNat 0).toNat : Int)) * 2 ^ (min (16 : Int).toNat IntKind.u32.bits))), .int .u32 (bitsV .or .u32 (bitsV .or .u32 (IntKind.u32.wrap ((x0.getD (0 : Int).toNat 0).toNat : Int)) (IntKind.u32.wrap ((IntKind.u32.wrap ((x0.getD (1 : Int).toNat 0).toNat : Int)) * 2 ^ (min (8 : Int).toNat IntKind.u32.bits)))) (IntKind.u32.wrap ((IntKind.u32.wrap ((x0.getD (2 : Int).toNat 0).toNat : Int)) * 2 ^ (min (16 : Int).toNat IntKind.u32.bits)))), .slice a0 x0.length c0, .pointer (some ⟨b14v, b14vo + (3 : Int).toNat, none⟩), .int .u8 ((x0.getD (3 : Int).toNat 0).toNat : Int), .int .u32 (IntKind.u32.wrap ((x0.getD (3 : Int).toNat 0).toNat : Int)), .int .u32 (IntKind.u32.wrap ((IntKind.u32.wrap ((x0.getD (3 : Int).toNat 0).toNat : Int)) * 2 ^ (min (24 : Int).toNat IntKind.u32.bits))), .int .u32 (bitsV .or .u32 (bitsV .or .u32 (bitsV .or .u32 (IntKind.u32.wrap ((x0.getD (0 : Int).toNat 0).toNat : Int)) (IntKind.u32.wrap ((IntKind.u32.wrap ((x0.getD (1 : Int).toNat 0).toNat : Int)) * 2 ^ (min (8 : Int).toNat IntKind.u32.bits)))) (IntKind.u32.wrap ((IntKind.u32.wrap ((x0.getD (2 : Int).toNat 0).toNat : Int)) * 2 ^ (min (16 : Int).toNat IntKind.u32.bits)))) (IntKind.u32.wrap ((IntKind.u32.wrap ((x0.getD (3 : Int).toNat 0).toNat : Int)) * 2 ^ (min (24 : Int).toNat IntKind.u32.bits)))), .int .u32 (bitsV .or .u32 (bitsV .or .u32 (bitsV .or .u32 (IntKind.u32.wrap ((x0.getD (0 : Int).toNat 0).toNat : Int)) (IntKind.u32.wrap ((IntKind.u32.wrap ((x0.getD (1 : Int).toNat 0).toNat : Int)) * 2 ^ (min (8 : Int).toNat IntKind.u32.bits)))) (IntKind.u32.wrap ((IntKind.u32.wrap ((x0.getD (2 : Int).toNat 0).toNat : Int)) * 2 ^ (min (16 : Int).toNat IntKind.u32.bits)))) (IntKind.u32.wrap ((IntKind.u32.wrap ((x0.getD (3 : Int).toNat 0).toNat : Int)) * 2 ^ (min (24 : Int).toNat IntKind.u32.bits))))].getD i undef) (fun j γ => [[F]].getD j []) (fun γ => [(2, .int .u32 (bitsV .or .u32 (bitsV .or .u32 (bitsV .or .u32 (IntKind.u32.wrap ((x0.getD (0 : Int).toNat 0).toNat : Int)) (IntKind.u32.wrap ((IntKind.u32.wrap ((x0.getD (1 : Int).toNat 0).toNat : Int)) * 2 ^ (min (8 : Int).toNat IntKind.u32.bits)))) (IntKind.u32.wrap ((IntKind.u32.wrap ((x0.getD (2 : Int).toNat 0).toNat : Int)) * 2 ^ (min (16 : Int).toNat IntKind.u32.bits)))) (IntKind.u32.wrap ((IntKind.u32.wrap ((x0.getD (3 : Int).toNat 0).toNat : Int)) * 2 ^ (min (24 : Int).toNat IntKind.u32.bits)))))]) mixed (by decide) (by decide) (by decide) (by decide) (by decide) (by decide) (by decide) 25 rfl (by decide) (by decide) (by decide) (Ent.refl _) ?_ ?_ (fun _ => ⟨rfl, trivial⟩) ?_
 exact (aq rfl (fun γ => qm rfl (.o (s := 0) rfl (by decide) .nil) rfl) (aq rfl (fun γ => qp rfl rfl (.v 0 rfl rfl .nil) (q_idx1 rfl rfl rfl ha3v Tryz.underlying25 Tryz.sizeOf5 hi1v.1 hi1v.2) rfl) (aq rfl (fun γ => qp rfl rfl (.v 1 rfl rfl .nil) (q_load rfl rfl Tryz.isAgg5 (h0.cell 0 rfl ha3v (encB_get (by omega)))) rfl) (aq rfl (fun γ => qp rfl rfl (.v 2 rfl rfl .nil) (q_conv rfl rfl Tryz.underlying5 Tryz.underlying170) rfl) (aq rfl (fun γ => qm rfl (.o (s := 0) rfl (by decide) .nil) rfl) (aq rfl (fun γ => qp rfl rfl (.v 4 rfl rfl .nil) (q_idx1 rfl rfl rfl ha7v Tryz.underlying25 Tryz.sizeOf5 hi5v.1 hi5v.2) rfl) (aq rfl (fun γ => qp rfl rfl (.v 5 rfl rfl .nil) (q_load rfl rfl Tryz.isAgg5 (h0.cell 0 rfl ha7v (encB_get (by omega)))) rfl) (aq rfl (fun γ => qp rfl rfl (.v 6 rfl rfl .nil) (q_conv rfl rfl Tryz.underlying5 Tryz.underlying170) rfl) (aq rfl (fun γ => qp rfl rfl (.v 7 rfl rfl .nil) (q_shl rfl rfl rfl (by decide)) rfl) (aq rfl (fun γ => qp rfl rfl (.v 3 rfl rfl (.v 8 rfl rfl .nil)) (q_or_ rfl rfl rfl) rfl) (aq rfl (fun γ => qm rfl (.o (s := 0) rfl (by decide) .nil) rfl) (aq rfl (fun γ => qp rfl rfl (.v 10 rfl rfl .nil) (q_idx1 rfl rfl rfl ha11v Tryz.underlying25 Tryz.sizeOf5 hi9v.1 hi9v.2) rfl) (aq rfl (fun γ => qp rfl rfl (.v 11 rfl rfl .nil) (q_load rfl rfl Tryz.isAgg5 (h0.cell 0 rfl ha11v (encB_get (by omega)))) rfl) (aq rfl (fun γ => qp rfl rfl (.v 12 rfl rfl .nil) (q_conv rfl rfl Tryz.underlying5 Tryz.underlying170) rfl) (aq rfl (fun γ => qp rfl rfl (.v 13 rfl rfl .nil) (q_shl rfl rfl rfl (by decide)) rfl) (aq rfl (fun γ => qp rfl rfl (.v 9 rfl rfl (.v 14 rfl rfl .nil)) (q_or_ rfl rfl rfl) rfl) (aq rfl (fun γ => qm rfl (.o (s := 0) rfl (by decide) .nil) rfl) (aq rfl (fun γ => qp rfl rfl (.v 16 rfl rfl .nil) (q_idx1 rfl rfl rfl ha15v Tryz.underlying25 Tryz.sizeOf5 hi13v.1 hi13v.2) rfl) (aq rfl (fun γ => qp rfl rfl (.v 17 rfl rfl .nil) (q_load rfl rfl Tryz.isAgg5 (h0.cell 0 rfl ha15v (encB_get (by omega)))) rfl) (aq rfl (fun γ => qp rfl rfl (.v 18 rfl rfl .nil) (q_conv rfl rfl Tryz.underlying5 Tryz.underlying170) rfl) (aq rfl (fun γ => qp rfl rfl (.v 19 rfl rfl .nil) (q_shl rfl rfl rfl (by decide)) rfl) (aq rfl (fun γ => qp rfl rfl (.v 15 rfl rfl (.v 20 rfl rfl .nil)) (q_or_ rfl rfl rfl) rfl) (aq rfl (fun γ => qp rfl rfl (.v 21 rfl rfl .nil) (q_asg rfl rfl) rfl) zA)))))))))))))))))))))))
 exact zA
 intro g17v
 refine nrm_then (sim_rtn ?_)
 exact rtn_fn () rfl rfl rfl (.sel 0 rfl (.nil _))

def frame_more.l1 : Nat → Int → Int → Option (Int)
  | 0, _, _ => none
  | k + 1, z17v, z18v => if z18v < (8 : Int) then (if bitsV .and .u32 z17v 1 = (1 : Int) then (frame_more.l1 k (bitsV .xor .u32 (Int.fdiv z17v (2 ^ (min (1 : Int).toNat IntKind.u32.bits))) 2197175160) (IntKind.i64.wrap (z18v + 1))) else (frame_more.l1 k (Int.fdiv z17v (2 ^ (min (1 : Int).toNat IntKind.u32.bits))) (IntKind.i64.wrap (z18v + 1)))) else (some z17v)
def frame_more.l0 (x1 : List UInt8) : Nat → Int → Int → Option (Int)
  | 0, _, _ => none
  | k + 1, z5v, z6v => if z6v < (x1.length : Int) then ((if 0 ≤ z6v ∧ z6v < (x1.length : Int) then (frame_more.l1 k (bitsV .xor .u32 z5v (IntKind.u32.wrap ((x1.getD z6v.toNat 0).toNat : Int))) 0) else none).bind fun s9v => (frame_more.l0 x1 k s9v (IntKind.i64.wrap (z6v + 1)))) else (some z5v)
def frame_more.f (k : Nat) (x0 : Int) (x1 : List UInt8) : Option (Int) := (frame_more.l0 x1 k x0 0).bind fun s1v => (some s1v)
theorem frame_more.calls (W : World) (F : HA) (k : Nat) (x0 : Int) (a1 : Option Addr) (c1 : Nat) (x1 : List UInt8) (h1 : Rd F a1 (encB x1)) (hc1 : x1.length ≤ c1) (hm1 : c1 ≤ maxLen) :
    Fn Tryz.prog W 122 [.int .u32 x0, .slice a1 x1.length c1] [] F (frame_more.f k x0 x1) (fun (r : Int) (y : Unit) => .int .u32 r) (fun r y => []) := by
 unfold frame_more.f
 refine fn_intro 31 Tryz.func122 rfl Tryz.ntmps122 rfl ?_
 refine sr ?_
 refine va rfl rfl (simL_nil (nrm_then ?_))
 refine sim_cut (S := Int) (Unit) (fun s y => [(0, .int .u32 s)]) (fun s y => [F]) ?_ ?_
 refine sr ?_
 refine vm rfl rfl ?_
 refine vq (q_len rfl rfl rfl Tryz.underlying25) rfl ?_
 refine vm rfl rfl (simL_nil (nrm_then ?_))
 refine sim_block ?_
 refine sim_loop (S := Int × Int) (Unit) (fun k s => frame_more.l0 x1 k s.1 s.2) (fun s y => [(0, .int .u32 s.1), (8, .slice a1 x1.length c1), (9, .int .i64 (x1.length : Int)), (10, .int .i64 s.2)]) (fun s y => [F]) (fun _ => by rw [frame_more.l0]) ?_ k (x0, 0) () ⟨rfl, rfl, rfl, rfl, trivial⟩ (.sel 0 rfl (.nil _))
 intro k s3v y4v
 refine sim_eq (by rw [frame_more.l0]) ?_
 refine sr ?_
 refine vq (q_lss rfl rfl rfl) rfl (simL_nil (nrm_then (sim_seq ?_)))
 refine sim_cond rfl (fun h7v => ?_) (fun h8v => ?_)
 refine sim_skip ?_
 refine nrm_then ?_
 refine sim_cut (S := Int) (Unit) (fun s y => [(0, .int .u32 s), (8, .slice a1 x1.length c1), (9, .int .i64 (x1.length : Int)), (10, .int .i64 s3v.2)]) (fun s y => [F]) ?_ ?_
 refine sim_block ?_
 refine sr ?_
 refine simL_ask (fun hi11v => ?_)
 obtain ⟨b12v, b12vo, ha13v⟩ := h1.pos (encB_ne (j := s3v.2.toNat) (by omega))
 refine vq (q_idx1 rfl rfl rfl ha13v Tryz.underlying25 Tryz.sizeOf5 hi11v.1 hi11v.2) rfl ?_
 refine vq (q_load rfl rfl Tryz.isAgg5 (h1.cell 0 rfl ha13v (encB_get (by omega)))) rfl ?_
 refine va rfl rfl (nx ?_)
 refine vm rfl rfl ?_
 refine vm rfl rfl ?_
 refine vq (q_conv rfl rfl Tryz.underlying5 Tryz.underlying170) rfl ?_
 refine vq (q_xor_ rfl rfl rfl) rfl ?_
 refine va rfl rfl (nx ?_)
 refine vm rfl rfl (simL_nil (nrm_then ?_))
 refine sim_block ?_
 refine sim_loop (S := Int × Int) (Unit) (fun k s => frame_more.l1 k s.1 s.2) (fun s y => [(0, .int .u32 s.1), (8, .slice a1 x1.length c1), (9, .int .i64 (x1.length : Int)), (10, .int .i64 s3v.2), (18, .int .i64 s.2)]) (fun s y => [F]) (fun _ => by rw [frame_more.l1]) ?_ k (bitsV .xor .u32 s3v.1 (IntKind.u32.wrap ((x1.getD s3v.2.toNat 0).toNat : Int)), 0) () ⟨rfl, rfl, rfl, rfl, rfl, trivial⟩ (.sel 0 rfl (.nil _))
 intro k s15v y16v
 refine sim_eq (by rw [frame_more.l1]) ?_
 refine sr ?_
 refine vq (q_lss rfl rfl rfl) rfl (simL_nil (nrm_then (sim_seq ?_)))
 refine sim_cond rfl (fun h19v => ?_) (fun h20v => ?_)
 refine sim_skip ?_
 refine nrm_then (sim_seq ?_)
 refine sim_block ?_
 refine sr ?_
 refine vm rfl rfl ?_
 refine vq (q_and_ rfl rfl rfl) rfl ?_
 refine va rfl rfl (nx ?_)
 refine vm rfl rfl ?_
 refine vq (q_shr rfl rfl rfl (by decide)) rfl ?_
 refine va rfl rfl (nx ?_)
 refine vm rfl rfl ?_
 refine vq (q_eql rfl rfl rfl) rfl (simL_nil (nrm_then ?_))
 refine sim_cond rfl (fun h21v => ?_) (fun h22v => ?_)
 refine sim_region ?_
 refine vm rfl rfl ?_
 refine vq (q_xor_ rfl rfl rfl) rfl ?_
 refine va rfl rfl (simL_nil (nrm_block (nrm_then (sim_region ?_))))
 refine vq (q_add rfl rfl rfl) rfl ?_
 refine vm rfl rfl (simL_nil ?_)
 exact nrm_again (s := (bitsV .xor .u32 (Int.fdiv s15v.1 (2 ^ (min (1 : Int).toNat IntKind.u32.bits))) 2197175160, IntKind.i64.wrap (s15v.2 + 1))) () ⟨rfl, rfl, rfl, rfl, rfl, trivial⟩ (.sel 0 rfl (.nil _))
 refine sim_skip ?_
 refine nrm_block (nrm_then (sim_region ?_))
 refine vq (q_add rfl rfl rfl) rfl ?_
 refine vm rfl rfl (simL_nil ?_)
 exact nrm_again (s := (Int.fdiv s15v.1 (2 ^ (min (1 : Int).toNat IntKind.u32.bits)), IntKind.i64.wrap (s15v.2 + 1))) () ⟨rfl, rfl, rfl, rfl, rfl, trivial⟩ (.sel 0 rfl (.nil _))
 refine sim_exi ?_
 refine exi_then ?_
 refine exi_loop ?_
 refine exi_here ?_
 refine nrm_block ?_
 exact nrm_cut (s := s15v.1) () ⟨rfl, rfl, rfl, rfl, trivial⟩ (.sel 0 rfl (.nil _))
 intro s9v y10v
 refine sim_region ?_
 refine vq (q_add rfl rfl rfl) rfl ?_
 refine vm rfl rfl (simL_nil ?_)
 exact nrm_again (s := (s9v, IntKind.i64.wrap (s3v.2 + 1))) () ⟨rfl, rfl, rfl, rfl, trivial⟩ (.sel 0 rfl (.nil _))
 refine sim_exi ?_
 refine exi_then ?_
 refine exi_loop ?_
 refine exi_here ?_
 exact nrm_cut (s := s3v.1) () ⟨rfl, trivial⟩ (.sel 0 rfl (.nil _))
 intro s1v y2v
 refine sr ?_
 refine vm rfl rfl ?_
 refine va rfl rfl (simL_nil (nrm_then (sim_rtn ?_)))
 exact rtn_fn () rfl rfl rfl (.sel 0 rfl (.nil _))

def frame_Get.f (k : Nat) (x0 : List UInt8) (x1 : Int) : Option (List UInt8 × Int × Int) := if (((decide (x1 < (0 : Int))) || (decide ((x0.length : Int) < x1))) || (decide (IntKind.i64.wrap ((x0.length : Int) - x1) < (4 : Int)))) = true then (some (([] : List UInt8), 0, 2)) else (if 0 ≤ x1 ∧ x1 ≤ (x0.length : Int) ∧ (x0.length : Int) ≤ (x0.length : Int) then ((frame_read.f (cut x0 x1 (x0.length : Int))).bind fun s10v => (if (1048576 : Int) < IntKind.i64.wrap s10v then (some (([] : List UInt8), 0, 3)) else (if ((cut x0 x1 (x0.length : Int)).length : Int) < IntKind.i64.wrap (8 + (IntKind.i64.wrap s10v)) then (some (([] : List UInt8), 0, 2)) else (if 0 ≤ (8 : Int) ∧ (8 : Int) ≤ IntKind.i64.wrap (8 + (IntKind.i64.wrap s10v)) ∧ IntKind.i64.wrap (8 + (IntKind.i64.wrap s10v)) ≤ ((cut x0 x1 (x0.length : Int)).length : Int) then (if 0 ≤ (0 : Int) ∧ (0 : Int) ≤ (4 : Int) ∧ (4 : Int) ≤ ((cut x0 x1 (x0.length : Int)).length : Int) then ((frame_more.f k (4294967295 : Int) (cut (cut x0 x1 (x0.length : Int)) (0 : Int) (4 : Int))).bind fun s31v => ((frame_more.f k s31v (cut (cut x0 x1 (x0.length : Int)) (8 : Int) (IntKind.i64.wrap (8 + (IntKind.i64.wrap s10v))))).bind fun s34v => (if 0 ≤ (4 : Int) ∧ (4 : Int) ≤ ((cut x0 x1 (x0.length : Int)).length : Int) ∧ ((cut x0 x1 (x0.length : Int)).length : Int) ≤ ((cut x0 x1 (x0.length : Int)).length : Int) then ((frame_read.f (cut (cut x0 x1 (x0.length : Int)) (4 : Int) ((cut x0 x1 (x0.length : Int)).length : Int))).bind fun s44v => (if bitsV .xor .u32 (if IntKind.u32.signed then -1 else IntKind.u32.max) s34v = s44v then (if 0 ≤ (0 : Int) ∧ (0 : Int) ≤ IntKind.i64.wrap s10v ∧ IntKind.i64.wrap s10v * 1 ≤ 140737488355328 then (if ((List.replicate (0 : Int).toNat (0 : UInt8)).length + (cut (cut x0 x1 (x0.length : Int)) (8 : Int) (IntKind.i64.wrap (8 + (IntKind.i64.wrap s10v)))).length) * 1 ≤ 140737488355328 then (some ((List.replicate (0 : Int).toNat (0 : UInt8)) ++ (cut (cut x0 x1 (x0.length : Int)) (8 : Int) (IntKind.i64.wrap (8 + (IntKind.i64.wrap s10v)))), IntKind.i64.wrap (8 + (IntKind.i64.wrap s10v)), 0)) else none) else none) else (some (([] : List UInt8), 0, 5)))) else none))) else none) else none)))) else none)
theorem frame_Get.calls (W : World) (F : HA) (k : Nat) (a0 : Option Addr) (c0 : Nat) (x0 : List UInt8) (x1 : Int) (h0 : Rd F a0 (encB x0)) (hc0 : x0.length ≤ c0) (hm0 : c0 ≤ maxLen) :
    Fn Tryz.prog W 132 [.slice a0 x0.length c0, .int .i64 x1] [] F (frame_Get.f k x0 x1) (fun (r : List UInt8 × Int × Int) (y : Option Addr × Nat) => .tuple #[.slice y.1 r.1.length y.2, .int .i64 r.2.1, .int .i64 r.2.2]) (fun r y => [Row 5 1 y.1 r.1.length y.2 (encB r.1)]) := by
 unfold frame_Get.f
 refine fn_intro 58 Tryz.func132 rfl Tryz.ntmps132 rfl ?_
 refine sr ?_
 refine va rfl rfl ?_
 refine va rfl rfl ?_
 refine va rfl rfl (simL_nil (nrm_then (sim_seq (sr ?_))))
 refine vm rfl rfl ?_
 refine vq (q_lss rfl rfl rfl) rfl ?_
 refine vm rfl rfl ?_
 refine simL_valc (b := decide (x1 < (0 : Int))) (fun hb62v => RQ.sub (E' := [(1, .int .i64 x1)]) ⟨rfl, trivial⟩ (q_move rfl rfl)) rfl rfl rfl rfl rfl ?_
 refine simL_valc (b := decide (x1 < (0 : Int))) (fun hb61v => RQ.sub (E' := [(0, .slice a0 x0.length c0)]) ⟨rfl, trivial⟩ (q_move rfl rfl)) rfl rfl rfl rfl rfl ?_
 refine simL_valc (b := decide (x1 < (0 : Int))) (fun hb60v => RQ.sub (E' := [(14, .slice a0 x0.length c0)]) ⟨lk_cv rfl hb60v, trivial⟩ (q_len rfl rfl rfl Tryz.underlying25)) rfl rfl rfl rfl rfl ?_
 refine simL_valc (b := decide (x1 < (0 : Int))) (fun hb59v => RQ.sub (E' := [(13, .int .i64 x1), (15, .int .i64 (x0.length : Int))]) ⟨lk_cv rfl hb59v, lk_cv rfl hb59v, trivial⟩ (q_gtr rfl rfl rfl)) rfl rfl rfl rfl rfl ?_
 refine vq (q_or rfl rfl rfl) rfl ?_
 refine vm rfl rfl ?_
 refine simL_valc (b := (decide (x1 < (0 : Int))) || (decide ((x0.length : Int) < x1))) (fun hb58v => RQ.sub (E' := [(0, .slice a0 x0.length c0)]) ⟨rfl, trivial⟩ (q_move rfl rfl)) rfl rfl rfl rfl rfl ?_
 refine simL_valc (b := (decide (x1 < (0 : Int))) || (decide ((x0.length : Int) < x1))) (fun hb57v => RQ.sub (E' := [(19, .slice a0 x0.length c0)]) ⟨lk_cv rfl hb57v, trivial⟩ (q_len rfl rfl rfl Tryz.underlying25)) rfl rfl rfl rfl rfl ?_
 refine simL_valc (b := (decide (x1 < (0 : Int))) || (decide ((x0.length : Int) < x1))) (fun hb56v => RQ.sub (E' := [(1, .int .i64 x1)]) ⟨rfl, trivial⟩ (q_move rfl rfl)) rfl rfl rfl rfl rfl ?_
 refine simL_valc (b := (decide (x1 < (0 : Int))) || (decide ((x0.length : Int) < x1))) (fun hb55v => RQ.sub (E' := [(20, .int .i64 (x0.length : Int)), (21, .int .i64 x1)]) ⟨lk_cv rfl hb55v, lk_cv rfl hb55v, trivial⟩ (q_sub rfl rfl rfl)) rfl rfl rfl rfl rfl ?_
 refine simL_valc (b := (decide (x1 < (0 : Int))) || (decide ((x0.length : Int) < x1))) (fun hb54v => RQ.sub (E' := [(22, .int .i64 (IntKind.i64.wrap ((x0.length : Int) - x1)))]) ⟨lk_cv rfl hb54v, trivial⟩ (q_lss rfl rfl rfl)) rfl rfl rfl rfl rfl ?_
 refine vq (q_or rfl rfl rfl) rfl (simL_nil (nrm_then ?_))
 refine sim_condb rfl (fun h1v => ?_) (fun h2v => ?_)
 refine sr ?_
 refine va rfl rfl ?_
 refine va rfl rfl ?_
 refine va rfl rfl (simL_nil (nrm_then (sim_rtn ?_)))
 refine rtn_then ?_
 exact rtn_fn (none, 0) rfl rfl rfl (.row_nil (.sel 0 rfl (.nil _)))
 refine sim_skip ?_
 refine nrm_then (sr ?_)
 refine vm rfl rfl ?_
 refine vm rfl rfl ?_
 refine simL_ask (fun hb3v => ?_)
 obtain ⟨a4v, c5v, hS6v, hr7v, hc8v, hm9v⟩ := slice_pre (lo := x1) (hi := (x0.length : Int)) h0 hc0 hb3v
 refine vq (q_sub_ro (l := x0) (lo' := x1) (hi' := (x0.length : Int)) rfl rfl rfl rfl Tryz.underlying25 Tryz.sizeOf5 (.inl ⟨rfl, rfl⟩) (.inr ⟨_, rfl⟩) hb3v hc0 hS6v) rfl ?_
 refine va rfl rfl (nx ?_)
 refine vm rfl rfl ?_
 refine simL_bind (fun s10v hs11v => ?_)
 refine simL_eff (re_call (vs := [.slice a4v ((cut x0 x1 (x0.length : Int)).length) c5v]) (cap := []) (A := []) (rst := [F]) rfl rfl rfl rfl rfl rfl Tryz.call171 (.sel 0 rfl (.nil _)) (frame_read.calls _ _ a4v c5v (cut x0 x1 (x0.length : Int)) (hr7v.lend 0 rfl) hc8v (Nat.le_trans hm9v hm0)) hs11v) rfl rfl rfl ?_
 intro y12v
 refine vq (q_conv rfl rfl Tryz.underlying170 Tryz.underlying3) rfl ?_
 refine va rfl rfl (simL_nil (nrm_then (sim_seq (sr ?_))))
 refine vm rfl rfl ?_
 refine vq (q_gtr rfl rfl rfl) rfl (simL_nil (nrm_then ?_))
 refine sim_cond rfl (fun h13v => ?_) (fun h14v => ?_)
 refine sr ?_
 refine va rfl rfl ?_
 refine va rfl rfl ?_
 refine va rfl rfl (simL_nil (nrm_then (sim_rtn ?_)))
 refine rtn_then ?_
 exact rtn_fn (none, 0) rfl rfl rfl (.row_nil (.sel 0 rfl (.nil _)))
 refine sim_skip ?_
 refine nrm_then (sim_seq (sr ?_))
 refine vm rfl rfl ?_
 refine vq (q_len rfl rfl rfl Tryz.underlying25) rfl ?_
 refine vm rfl rfl ?_
 refine vq (q_add rfl rfl rfl) rfl ?_
 refine vq (q_lss rfl rfl rfl) rfl (simL_nil (nrm_then ?_))
 refine sim_cond rfl (fun h15v => ?_) (fun h16v => ?_)
 refine sr ?_
 refine va rfl rfl ?_
 refine va rfl rfl ?_
 refine va rfl rfl (simL_nil (nrm_then (sim_rtn ?_)))
 refine rtn_then ?_
 exact rtn_fn (none, 0) rfl rfl rfl (.row_nil (.sel 0 rfl (.nil _)))
 refine sim_skip ?_
 refine nrm_then (sr ?_)
 refine vm rfl rfl ?_
 refine vm rfl rfl ?_
 refine vq (q_add rfl rfl rfl) rfl ?_
 refine simL_ask (fun hb17v => ?_)
 obtain ⟨a18v, c19v, hS20v, hr21v, hc22v, hm23v⟩ := slice_pre (lo := (8 : Int)) (hi := IntKind.i64.wrap (8 + (IntKind.i64.wrap s10v))) hr7v hc8v hb17v
 refine vq (q_sub_ro (l := (cut x0 x1 (x0.length : Int))) (lo' := (8 : Int)) (hi' := IntKind.i64.wrap (8 + (IntKind.i64.wrap s10v))) rfl rfl rfl rfl Tryz.underlying25 Tryz.sizeOf5 (.inr ⟨_, rfl⟩) (.inr ⟨_, rfl⟩) hb17v hc8v hS20v) rfl ?_
 refine va rfl rfl (simL_nil (nrm_then (sim_seq (sim_seq ?_))))
 refine sim_ask (fun hb24v => ?_)
 obtain ⟨a25v, c26v, hS27v, hr28v, hc29v, hm30v⟩ := slice_pre (lo := (0 : Int)) (hi := (4 : Int)) hr7v hc8v hb24v
 refine sim_bind (fun s31v hs32v => ?_)
 refine sim_bind (fun s34v hs35v => ?_)
 refine sim_ask (fun hb37v => ?_)
 obtain ⟨a38v, c39v, hS40v, hr41v, hc42v, hm43v⟩ := slice_pre (lo := (4 : Int)) (hi := ((cut x0 x1 (x0.length : Int)).length : Int)) hr7v hc8v hb37v
 refine sim_bind (fun s44v hs45v => ?_)
 refine sim_draw (Γ := Unit) () [[], [0], [0, 1], [], rL 4, rL 5, [], [6], [0, 1, 2, 3, 4, 6, 7], rL 9] [2, 4, 8] [0, 1, 3, 5, 6, 7, 9] (fun i => [[0], [0], [], [0, 1], [], [2, 3], [0, 1, 2], [0, 1, 2], [], [3]].getD i []) (fun i => [[], [], [0, 1, 3, 6, 7], [], [0, 1, 2, 3, 6, 7], [], [], [], rL 8, []].getD i []) (fun γ i => [.slice a4v ((cut x0 x1 (x0.length : Int)).length) c5v, .slice a25v ((cut (cut x0 x1 (x0.length : Int)) (0 : Int) (4 : Int)).length) c26v, .int .u32 s31v, .slice a18v ((cut (cut x0 x1 (x0.length : Int)) (8 : Int) (IntKind.i64.wrap (8 + (IntKind.i64.wrap s10v)))).length) c19v, .int .u32 s34v, .int .u32 (bitsV .xor .u32 (if IntKind.u32.signed then -1 else IntKind.u32.max) s34v), .slice a4v ((cut x0 x1 (x0.length : Int)).length) c5v, .slice a38v ((cut (cut x0 x1 (x0.length : Int)) (4 : Int) ((cut x0 x1 (x0.length : Int)).length : Int)).length) c39v, .int .u32 s44v, .bool (!decide (bitsV .xor .u32 (if IntKind.u32.signed then -1 else IntKind.u32.max) s34v = s44v))].getD i undef) (fun j γ => [[F], [F], [F], [F]].getD j []) (fun γ => [(8, .int .i64 (IntKind.i64.wrap s10v)), (9, .slice a18v ((cut (cut x0 x1 (x0.length : Int)) (8 : Int) (IntKind.i64.wrap (8 + (IntKind.i64.wrap s10v)))).length) c19v), (51, .bool (!decide (bitsV .xor .u32 (if IntKind.u32.signed then -1 else IntKind.u32.max) s34v = s44v)))]) mixed (by decide) (by decide) (by decide) (by decide) (by decide) (by decide) (by decide) 58 rfl (by decide) (by decide) (by decide) (Ent.refl _) ?_ ?_ (fun _ => ⟨rfl, rfl, rfl, trivial⟩) ?_
 exact (aq rfl (fun γ => qm rfl (.o (s := 7) rfl (by decide) .nil) rfl) (aq rfl (fun γ => qp rfl rfl (.v 0 rfl rfl .nil) (q_sub_ro (l := (cut x0 x1 (x0.length : Int))) (lo' := (0 : Int)) (hi' := (4 : Int)) rfl rfl rfl rfl Tryz.underlying25 Tryz.sizeOf5 (.inr ⟨_, rfl⟩) (.inl ⟨rfl, rfl⟩) hb24v hc8v hS27v) rfl) (ac (fun γ => (ac (qm rfl (.o (s := 9) rfl (by decide) .nil) rfl) (ac (qm rfl (.o (s := 9) rfl (by decide) .nil) rfl) zA))) (ac (fun γ => (ac (qp rfl rfl (.v 4 rfl rfl .nil) (q_com rfl rfl) rfl) (ac (qp rfl rfl (.v 4 rfl rfl .nil) (q_com rfl rfl) rfl) zA))) (ac (fun γ => (ac (qm rfl (.o (s := 7) rfl (by decide) .nil) rfl) (ac (qm rfl (.o (s := 7) rfl (by decide) .nil) rfl) (ac (qm rfl (.o (s := 7) rfl (by decide) .nil) rfl) zA)))) (ac (fun γ => (ac (qp rfl rfl (.v 6 rfl rfl .nil) (q_sub_ro (l := (cut x0 x1 (x0.length : Int))) (lo' := (4 : Int)) (hi' := ((cut x0 x1 (x0.length : Int)).length : Int)) rfl rfl rfl rfl Tryz.underlying25 Tryz.sizeOf5 (.inl ⟨rfl, rfl⟩) (.inr ⟨_, rfl⟩) hb37v hc8v hS40v) rfl) (ac (qp rfl rfl (.v 6 rfl rfl .nil) (q_sub_ro (l := (cut x0 x1 (x0.length : Int))) (lo' := (4 : Int)) (hi' := ((cut x0 x1 (x0.length : Int)).length : Int)) rfl rfl rfl rfl Tryz.underlying25 Tryz.sizeOf5 (.inl ⟨rfl, rfl⟩) (.inr ⟨_, rfl⟩) hb37v hc8v hS40v) rfl) (ac (qp rfl rfl (.v 6 rfl rfl .nil) (q_sub_ro (l := (cut x0 x1 (x0.length : Int))) (lo' := (4 : Int)) (hi' := ((cut x0 x1 (x0.length : Int)).length : Int)) rfl rfl rfl rfl Tryz.underlying25 Tryz.sizeOf5 (.inl ⟨rfl, rfl⟩) (.inr ⟨_, rfl⟩) hb37v hc8v hS40v) rfl) zA)))) (aq rfl (fun γ => qp rfl rfl (.v 5 rfl rfl (.v 8 rfl rfl .nil)) (q_neq rfl rfl rfl) rfl) zA)))))))
 exact (ac (fun γ => eo (Z := Unit) (fun z => ()) rfl rfl (.v 1 rfl rfl .nil) (re_call (val := fun (r : Int) (y : Unit) => .int .u32 r) (B := fun _ _ => []) (vs := [.int .u32 4294967295, .slice a25v ((cut (cut x0 x1 (x0.length : Int)) (0 : Int) (4 : Int)).length) c26v]) (cap := []) (A := []) (rst := [F]) rfl rfl rfl rfl rfl rfl Tryz.call122 (.sel 0 rfl (.nil _)) (frame_more.calls _ _ k (4294967295 : Int) a25v c26v (cut (cut x0 x1 (x0.length : Int)) (0 : Int) (4 : Int)) (hr28v.lend 0 rfl) hc29v (Nat.le_trans hm30v (Nat.le_trans hm9v hm0))) hs32v) (fun _ => ⟨rfl, rfl, rfl, rfl, rfl, trivial⟩) (fun _ => .inr rfl) (fun z => Ent.refl _)) (ac (fun γ => eo (Z := Unit) (fun z => ()) rfl rfl (.v 2 rfl rfl (.v 3 rfl rfl .nil)) (re_call (val := fun (r : Int) (y : Unit) => .int .u32 r) (B := fun _ _ => []) (vs := [.int .u32 s31v, .slice a18v ((cut (cut x0 x1 (x0.length : Int)) (8 : Int) (IntKind.i64.wrap (8 + (IntKind.i64.wrap s10v)))).length) c19v]) (cap := []) (A := []) (rst := [F]) rfl rfl rfl rfl rfl rfl Tryz.call122 (.sel 0 rfl (.nil _)) (frame_more.calls _ _ k s31v a18v c19v (cut (cut x0 x1 (x0.length : Int)) (8 : Int) (IntKind.i64.wrap (8 + (IntKind.i64.wrap s10v)))) (hr21v.lend 0 rfl) hc22v (Nat.le_trans hm23v (Nat.le_trans hm9v hm0))) hs35v) (fun _ => ⟨rfl, rfl, rfl, rfl, rfl, rfl, trivial⟩) (fun _ => .inr rfl) (fun z => Ent.refl _)) (ac (fun γ => eo (Z := Unit) (fun z => ()) rfl rfl (.v 7 rfl rfl .nil) (re_call (val := fun (r : Int) (y : Unit) => .int .u32 r) (B := fun _ _ => []) (vs := [.slice a38v ((cut (cut x0 x1 (x0.length : Int)) (4 : Int) ((cut x0 x1 (x0.length : Int)).length : Int)).length) c39v]) (cap := []) (A := []) (rst := [F]) rfl rfl rfl rfl rfl rfl Tryz.call171 (.sel 0 rfl (.nil _)) (frame_read.calls _ _ a38v c39v (cut (cut x0 x1 (x0.length : Int)) (4 : Int) ((cut x0 x1 (x0.length : Int)).length : Int)) (hr41v.lend 0 rfl) hc42v (Nat.le_trans hm43v (Nat.le_trans hm9v hm0))) hs45v) (fun _ => ⟨rfl, rfl, rfl, rfl, rfl, rfl, rfl, rfl, trivial⟩) (fun _ => .inr rfl) (fun z => Ent.refl _)) zA)))
 intro g47v
 refine nrm_then ?_
 refine sim_condn rfl (fun h48v => ?_) (fun h49v => ?_)
 refine sim_skip ?_
 refine nrm_then (sr ?_)
 refine vm rfl rfl ?_
 refine simL_ask (fun hb51v => ?_)
 refine simL_eff (re_makeb rfl rfl rfl Tryz.underlying25 elt5 hb51v.1 hb51v.2.1 hb51v.2.2) rfl rfl rfl ?_
 intro b50v
 refine vm rfl rfl ?_
 refine simL_ask (fun hb53v => ?_)
 refine simL_eff (re_appendb 0 rfl rfl rfl Tryz.underlying25 elt5 rfl (hr21v.rds 0 rfl) hb53v) rfl rfl rfl ?_
 intro y52v
 refine vm rfl rfl ?_
 refine vq (q_add rfl rfl rfl) rfl ?_
 refine va rfl rfl ?_
 refine va rfl rfl ?_
 refine va rfl rfl (simL_nil (nrm_then (sim_rtn ?_)))
 exact rtn_fn (y52v.1, y52v.2) rfl rfl rfl (.sel 0 rfl (.sel 0 rfl (.nil _)))
 refine sr ?_
 refine va rfl rfl ?_
 refine va rfl rfl ?_
 refine va rfl rfl (simL_nil (nrm_then (sim_rtn ?_)))
 refine rtn_then ?_
 exact rtn_fn (none, 0) rfl rfl rfl (.row_nil (.sel 0 rfl (.nil _)))

def frame_One.f (k : Nat) (x0 : List UInt8) : Option (List UInt8 × Int) := (frame_Get.f k x0 (0 : Int)).bind fun s1v => ((if ((decide (s1v.2.2 = (0 : Int))) && (decide (s1v.2.1 < (x0.length : Int)))) = true then (some (([] : List UInt8), 4)) else (some (s1v.1, s1v.2.2))).bind fun s4v => (some (s4v.1, s4v.2)))
theorem frame_One.calls (W : World) (F : HA) (k : Nat) (a0 : Option Addr) (c0 : Nat) (x0 : List UInt8) (h0 : Rd F a0 (encB x0)) (hc0 : x0.length ≤ c0) (hm0 : c0 ≤ maxLen) :
    Fn Tryz.prog W 87 [.slice a0 x0.length c0] [] F (frame_One.f k x0) (fun (r : List UInt8 × Int) (y : Option Addr × Nat) => .tuple #[.slice y.1 r.1.length y.2, .int .i64 r.2]) (fun r y => [Row 5 1 y.1 r.1.length y.2 (encB r.1)]) := by
 unfold frame_One.f
 refine fn_intro 23 Tryz.func87 rfl Tryz.ntmps87 rfl ?_
 refine sr ?_
 refine va rfl rfl ?_
 refine va rfl rfl (nx ?_)
 refine vm rfl rfl ?_
 refine simL_bind (fun s1v hs2v => ?_)
 refine simL_eff (re_call (vs := [.slice a0 x0.length c0, .int .i64 0]) (cap := []) (A := []) (rst := [F]) rfl rfl rfl rfl rfl rfl Tryz.call132 (.sel 0 rfl (.nil _)) (frame_Get.calls _ _ k a0 c0 x0 (0 : Int) (h0.lend 0 rfl) hc0 hm0) hs2v) rfl rfl rfl ?_
 intro y3v
 refine vm rfl rfl ?_
 refine vq (q_ext rfl rfl rfl) rfl ?_
 refine vq (q_ext rfl rfl rfl) rfl ?_
 refine vq (q_ext rfl rfl rfl) rfl ?_
 refine va rfl rfl ?_
 refine va rfl rfl ?_
 refine va rfl rfl (simL_nil (nrm_then ?_))
 refine sim_cut (S := List UInt8 × Int) (Option Addr × Nat) (fun s y => [(4, .slice y.1 s.1.length y.2), (6, .int .i64 s.2)]) (fun s y => [Row 5 1 y.1 s.1.length y.2 (encB s.1), F]) ?_ ?_
 refine sr ?_
 refine vm rfl rfl ?_
 refine vq (q_eql rfl rfl rfl) rfl ?_
 refine vm rfl rfl ?_
 refine simL_valc (b := decide (s1v.2.2 = (0 : Int))) (fun hb11v => RQ.sub (E' := [(5, .int .i64 s1v.2.1)]) ⟨rfl, trivial⟩ (q_move rfl rfl)) rfl rfl rfl rfl rfl ?_
 refine simL_valc (b := decide (s1v.2.2 = (0 : Int))) (fun hb10v => RQ.sub (E' := [(0, .slice a0 x0.length c0)]) ⟨rfl, trivial⟩ (q_move rfl rfl)) rfl rfl rfl rfl rfl ?_
 refine simL_valc (b := decide (s1v.2.2 = (0 : Int))) (fun hb9v => RQ.sub (E' := [(17, .slice a0 x0.length c0)]) ⟨lk_cv rfl hb9v, trivial⟩ (q_len rfl rfl rfl Tryz.underlying25)) rfl rfl rfl rfl rfl ?_
 refine simL_valc (b := decide (s1v.2.2 = (0 : Int))) (fun hb8v => RQ.sub (E' := [(16, .int .i64 s1v.2.1), (18, .int .i64 (x0.length : Int))]) ⟨lk_cv rfl hb8v, lk_cv rfl hb8v, trivial⟩ (q_lss rfl rfl rfl)) rfl rfl rfl rfl rfl ?_
 refine vq (q_and rfl rfl rfl) rfl (simL_nil (nrm_then ?_))
 refine sim_condb rfl (fun h6v => ?_) (fun h7v => ?_)
 refine sim_region ?_
 refine va rfl rfl ?_
 refine va rfl rfl (simL_nil ?_)
 exact nrm_cut (s := (([] : List UInt8), 4)) (none, 0) ⟨rfl, rfl, trivial⟩ (.row_nil (.sel 1 rfl (.nil _)))
 refine sim_skip ?_
 exact nrm_cut (s := (s1v.1, s1v.2.2)) (y3v.1, y3v.2) ⟨rfl, rfl, trivial⟩ (.sel 0 rfl (.sel 0 rfl (.nil _)))
 intro s4v y5v
 refine sr ?_
 refine vm rfl rfl ?_
 refine vm rfl rfl ?_
 refine va rfl rfl ?_
 refine va rfl rfl (simL_nil (nrm_then (sim_rtn ?_)))
 exact rtn_fn (y5v.1, y5v.2) rfl rfl rfl (.sel 0 rfl (.sel 0 rfl (.nil _)))

def wire_fresh.f (x0 : List UInt8) : Option (List UInt8) := if 0 ≤ (x0.length : Int) ∧ (x0.length : Int) ≤ (x0.length : Int) ∧ (x0.length : Int) * 1 ≤ 140737488355328 then (some (copyB (List.replicate (x0.length : Int).toNat (0 : UInt8)) x0)) else none
theorem wire_fresh.calls (W : World) (F : HA) (a0 : Option Addr) (c0 : Nat) (x0 : List UInt8) (h0 : Rd F a0 (encB x0)) (hc0 : x0.length ≤ c0) (hm0 : c0 ≤ maxLen) :
    Fn Tryz.prog W 160 [.slice a0 x0.length c0] [] F (wire_fresh.f x0) (fun (r : List UInt8) (y : Option Addr × Nat) => .slice y.1 r.length y.2) (fun r y => [Row 5 1 y.1 r.length y.2 (encB r)]) := by
 unfold wire_fresh.f
 refine fn_intro 11 Tryz.func160 rfl Tryz.ntmps160 rfl ?_
 refine sr ?_
 refine va rfl rfl (nx ?_)
 refine vm rfl rfl ?_
 refine vq (q_len rfl rfl rfl Tryz.underlying25) rfl ?_
 refine simL_ask (fun hb2v => ?_)
 refine simL_eff (re_makeb rfl rfl rfl Tryz.underlying25 elt5 hb2v.1 hb2v.2.1 hb2v.2.2) rfl rfl rfl ?_
 intro b1v
 refine va rfl rfl (nx ?_)
 refine vm rfl rfl ?_
 refine vm rfl rfl ?_
 refine simL_eff (re_copyb 0 rfl rfl rfl Tryz.underlying25 elt5 rfl (h0.rds 1 rfl)) rfl rfl rfl ?_
 intro _
 refine simL_ren (.slice (some ⟨b1v, 0, none⟩) ((copyB (List.replicate (x0.length : Int).toNat (0 : UInt8)) x0).length) ((x0.length : Int).toNat)) (d := 6) rfl (slc_len (copyB_length _ _).symm) ?_
 refine simL_ren (.slice (some ⟨b1v, 0, none⟩) ((copyB (List.replicate (x0.length : Int).toNat (0 : UInt8)) x0).length) ((x0.length : Int).toNat)) (d := 3) rfl (slc_len (copyB_length _ _).symm) ?_
 refine simL_ren (.slice (some ⟨b1v, 0, none⟩) ((copyB (List.replicate (x0.length : Int).toNat (0 : UInt8)) x0).length) ((x0.length : Int).toNat)) (d := 7) rfl (slc_len (copyB_length _ _).symm) ?_
 refine nx ?_
 refine vm rfl rfl ?_
 refine va rfl rfl (simL_nil (nrm_then (sim_rtn ?_)))
 exact rtn_fn ((some ⟨b1v, 0, none⟩), (x0.length : Int).toNat) rfl rfl rfl (.sel 0 rfl (.sel 0 rfl (.nil _)))

def wire_NewReader.f (x0 : List UInt8) : Option (List UInt8 × Int × Int) := (wire_fresh.f x0).bind fun s1v => (some (s1v, 0, 0))
theorem wire_NewReader.calls (W : World) (F : HA) (a0 : Option Addr) (c0 : Nat) (x0 : List UInt8) (h0 : Rd F a0 (encB x0)) (hc0 : x0.length ≤ c0) (hm0 : c0 ≤ maxLen) :
    Fn Tryz.prog W 133 [.slice a0 x0.length c0] [] F (wire_NewReader.f x0) (fun (r : List UInt8 × Int × Int) (y : Nat × Option Addr × Nat) => .pointer (some ⟨y.1, 0, none⟩)) (fun r y => [obj y.1 217 [.slice y.2.1 r.1.length y.2.2, .int .i64 r.2.1, .int .i64 r.2.2], Row 5 1 y.2.1 r.1.length y.2.2 (encB r.1)]) := by
 unfold wire_NewReader.f
 refine fn_intro 7 Tryz.func133 rfl Tryz.ntmps133 rfl ?_
 refine sr ?_
 refine va rfl rfl (nx ?_)
 refine vm rfl rfl ?_
 refine simL_bind (fun s1v hs2v => ?_)
 refine simL_eff (re_call (vs := [.slice a0 x0.length c0]) (cap := []) (A := []) (rst := [F]) rfl rfl rfl rfl rfl rfl Tryz.call160 (.sel 0 rfl (.nil _)) (wire_fresh.calls _ _ a0 c0 x0 (h0.lend 0 rfl) hc0 hm0) hs2v) rfl rfl rfl ?_
 intro y3v
 refine vq (q_build (v := .agg #[.slice y3v.1 s1v.length y3v.2, .int .i64 0, .int .i64 0]) rfl rfl (fun _ => by kernel_rfl)) rfl ?_
 refine simL_eff (re_box rfl rfl rfl) rfl rfl rfl ?_
 intro b4v
 refine va rfl rfl (simL_nil (nrm_then (sim_rtn ?_)))
 exact rtn_fn (b4v, y3v.1, y3v.2) rfl rfl rfl (.sel 0 rfl (.sel 0 rfl (.sel 0 rfl (.nil _))))

def wire_Int.l0 (x0 : List UInt8) (x1 : Int) : Nat → Int → Int → Option ((Unit) ⊕ (Int × Int × Int))
  | 0, _, _ => none
  | k + 1, z7v, z8v => if z8v < (9 : Int) then (if IntKind.i64.wrap ((x0.length : Int) - x1) ≤ z8v then (some (.inr (0, 0, 2))) else (if 0 ≤ IntKind.i64.wrap (x1 + z8v) ∧ IntKind.i64.wrap (x1 + z8v) < (x0.length : Int) then (if 0 ≤ IntKind.i64.wrap (7 * z8v) then (if (128 : Int) ≤ ((x0.getD (IntKind.i64.wrap (x1 + z8v)).toNat 0).toNat : Int) then (wire_Int.l0 x0 x1 k (bitsV .or .i64 z7v (IntKind.i64.wrap ((IntKind.i64.wrap (bitsV .and .u8 ((x0.getD (IntKind.i64.wrap (x1 + z8v)).toNat 0).toNat : Int) 127)) * 2 ^ (min (IntKind.i64.wrap (7 * z8v)).toNat IntKind.i64.bits)))) (IntKind.i64.wrap (z8v + 1))) else (if ((decide (((x0.getD (IntKind.i64.wrap (x1 + z8v)).toNat 0).toNat : Int) = (0 : Int))) && (decide ((0 : Int) < z8v))) = true then (some (.inr (0, 0, 4))) else (if (4611686018427387904 : Int) < bitsV .or .i64 z7v (IntKind.i64.wrap ((IntKind.i64.wrap (bitsV .and .u8 ((x0.getD (IntKind.i64.wrap (x1 + z8v)).toNat 0).toNat : Int) 127)) * 2 ^ (min (IntKind.i64.wrap (7 * z8v)).toNat IntKind.i64.bits))) then (some (.inr (0, 0, 1))) else (some (.inr (bitsV .or .i64 z7v (IntKind.i64.wrap ((IntKind.i64.wrap (bitsV .and .u8 ((x0.getD (IntKind.i64.wrap (x1 + z8v)).toNat 0).toNat : Int) 127)) * 2 ^ (min (IntKind.i64.wrap (7 * z8v)).toNat IntKind.i64.bits))), IntKind.i64.wrap (z8v + 1), 0)))))) else none) else none)) else (some (.inl ()))
def wire_Int.f (k : Nat) (x0 : List UInt8) (x1 : Int) : Option (Int × Int × Int) := if ((decide (x1 < (0 : Int))) || (decide ((x0.length : Int) ≤ x1))) = true then (some (0, 0, 2)) else (orR (wire_Int.l0 x0 x1 k 0 0) fun s3v => (some (0, 0, 4)))
theorem wire_Int.calls (W : World) (F : HA) (k : Nat) (a0 : Option Addr) (c0 : Nat) (x0 : List UInt8) (x1 : Int) (h0 : Rd F a0 (encB x0)) (hc0 : x0.length ≤ c0) (hm0 : c0 ≤ maxLen) :
    Fn Tryz.prog W 196 [.slice a0 x0.length c0, .int .i64 x1] [] F (wire_Int.f k x0 x1) (fun (r : Int × Int × Int) (y : Unit) => .tuple #[.int .i64 r.1, .int .i64 r.2.1, .int .i64 r.2.2]) (fun r y => []) := by
 unfold wire_Int.f
 refine fn_intro 55 Tryz.func196 rfl Tryz.ntmps196 rfl ?_
 refine sr ?_
 refine va rfl rfl ?_
 refine va rfl rfl ?_
 refine va rfl rfl (simL_nil (nrm_then (sim_seq (sr ?_))))
 refine vm rfl rfl ?_
 refine vq (q_lss rfl rfl rfl) rfl ?_
 refine vm rfl rfl ?_
 refine simL_valc (b := decide (x1 < (0 : Int))) (fun hb29v => RQ.sub (E' := [(1, .int .i64 x1)]) ⟨rfl, trivial⟩ (q_move rfl rfl)) rfl rfl rfl rfl rfl ?_
 refine simL_valc (b := decide (x1 < (0 : Int))) (fun hb28v => RQ.sub (E' := [(0, .slice a0 x0.length c0)]) ⟨rfl, trivial⟩ (q_move rfl rfl)) rfl rfl rfl rfl rfl ?_
 refine simL_valc (b := decide (x1 < (0 : Int))) (fun hb27v => RQ.sub (E' := [(14, .slice a0 x0.length c0)]) ⟨lk_cv rfl hb27v, trivial⟩ (q_len rfl rfl rfl Tryz.underlying25)) rfl rfl rfl rfl rfl ?_
 refine simL_valc (b := decide (x1 < (0 : Int))) (fun hb26v => RQ.sub (E' := [(13, .int .i64 x1), (15, .int .i64 (x0.length : Int))]) ⟨lk_cv rfl hb26v, lk_cv rfl hb26v, trivial⟩ (q_geq rfl rfl rfl)) rfl rfl rfl rfl rfl ?_
 refine vq (q_or rfl rfl rfl) rfl (simL_nil (nrm_then ?_))
 refine sim_condb rfl (fun h1v => ?_) (fun h2v => ?_)
 refine sr ?_
 refine va rfl rfl ?_
 refine va rfl rfl ?_
 refine va rfl rfl (simL_nil (nrm_then (sim_rtn ?_)))
 refine rtn_then ?_
 exact rtn_fn () rfl rfl rfl (.sel 0 rfl (.nil _))
 refine sim_skip ?_
 refine nrm_then (sr ?_)
 refine va rfl rfl (simL_nil (nrm_then ?_))
 refine sim_cutR (S := Unit) (Unit) (fun s y => []) (fun s y => [F]) ?_ ?_
 refine sr ?_
 refine va rfl rfl (simL_nil (nrm_then ?_))
 refine sim_block ?_
 refine sim_loop (S := Int × Int) (Unit) (fun k s => wire_Int.l0 x0 x1 k s.1 s.2) (fun s y => [(0, .slice a0 x0.length c0), (1, .int .i64 x1), (7, .int .i64 s.1), (8, .int .i64 s.2)]) (fun s y => [F]) (fun _ => by rw [wire_Int.l0]) ?_ k (0, 0) () ⟨rfl, rfl, rfl, rfl, trivial⟩ (.sel 0 rfl (.nil _))
 intro k s5v y6v
 refine sim_eq (by rw [wire_Int.l0]) ?_
 refine sim_seq (sr ?_)
 refine vm rfl rfl ?_
 refine vq (q_lss rfl rfl rfl) rfl (simL_nil (nrm_then ?_))
 refine sim_cond rfl (fun h9v => ?_) (fun h10v => ?_)
 refine sim_skip ?_
 refine nrm_then (sim_seq ?_)
 refine sim_block ?_
 refine sim_seq (sr ?_)
 refine vm rfl rfl ?_
 refine vm rfl rfl ?_
 refine vq (q_len rfl rfl rfl Tryz.underlying25) rfl ?_
 refine vm rfl rfl ?_
 refine vq (q_sub rfl rfl rfl) rfl ?_
 refine vq (q_geq rfl rfl rfl) rfl (simL_nil (nrm_then ?_))
 refine sim_cond rfl (fun h11v => ?_) (fun h12v => ?_)
 refine sr ?_
 refine va rfl rfl ?_
 refine va rfl rfl ?_
 refine va rfl rfl (simL_nil (nrm_then (sim_rtn ?_)))
 refine rtn_then ?_
 refine rtn_block ?_
 refine rtn_then ?_
 refine rtn_loop ?_
 refine rtn_block ?_
 refine rtn_cutR ?_
 exact rtn_fn () rfl rfl rfl (.sel 0 rfl (.nil _))
 refine sim_skip ?_
 refine nrm_then (sr ?_)
 refine vm rfl rfl ?_
 refine vm rfl rfl ?_
 refine vm rfl rfl ?_
 refine vq (q_add rfl rfl rfl) rfl ?_
 refine simL_ask (fun hi13v => ?_)
 obtain ⟨b14v, b14vo, ha15v⟩ := h0.pos (encB_ne (j := (IntKind.i64.wrap (x1 + s5v.2)).toNat) (by omega))
 refine vq (q_idx1 rfl rfl rfl ha15v Tryz.underlying25 Tryz.sizeOf5 hi13v.1 hi13v.2) rfl ?_
 refine vq (q_load rfl rfl Tryz.isAgg5 (h0.cell 0 rfl ha15v (encB_get (by omega)))) rfl ?_
 refine va rfl rfl (nx ?_)
 refine vm rfl rfl ?_
 refine vm rfl rfl ?_
 refine vq (q_and_ rfl rfl rfl) rfl ?_
 refine vq (q_conv rfl rfl Tryz.underlying5 Tryz.underlying3) rfl ?_
 refine vm rfl rfl ?_
 refine vq (q_mul rfl rfl rfl) rfl ?_
 refine simL_ask (fun hb17v => ?_)
 refine vq (q_shl rfl rfl rfl hb17v) rfl ?_
 refine vq (q_or_ rfl rfl rfl) rfl ?_
 refine va rfl rfl (simL_nil (nrm_then (sim_seq (sr ?_))))
 refine vm rfl rfl ?_
 refine vq (q_geq rfl rfl rfl) rfl (simL_nil (nrm_then ?_))
 refine sim_cond rfl (fun h18v => ?_) (fun h19v => ?_)
 refine sim_exi ?_
 refine exi_then ?_
 refine exi_here ?_
 refine nrm_then (sim_region ?_)
 refine vm rfl rfl ?_
 refine vq (q_add rfl rfl rfl) rfl ?_
 refine va rfl rfl (simL_nil ?_)
 exact nrm_again (s := (bitsV .or .i64 s5v.1 (IntKind.i64.wrap ((IntKind.i64.wrap (bitsV .and .u8 ((x0.getD (IntKind.i64.wrap (x1 + s5v.2)).toNat 0).toNat : Int) 127)) * 2 ^ (min (IntKind.i64.wrap (7 * s5v.2)).toNat IntKind.i64.bits))), IntKind.i64.wrap (s5v.2 + 1))) () ⟨rfl, rfl, rfl, rfl, trivial⟩ (.sel 0 rfl (.nil _))
 refine sim_skip ?_
 refine nrm_then (sim_seq (sr ?_))
 refine vm rfl rfl ?_
 refine vq (q_eql rfl rfl rfl) rfl ?_
 refine vm rfl rfl ?_
 refine simL_valc (b := decide (((x0.getD (IntKind.i64.wrap (x1 + s5v.2)).toNat 0).toNat : Int) = (0 : Int))) (fun hb25v => RQ.sub (E' := [(8, .int .i64 s5v.2)]) ⟨rfl, trivial⟩ (q_move rfl rfl)) rfl rfl rfl rfl rfl ?_
 refine simL_valc (b := decide (((x0.getD (IntKind.i64.wrap (x1 + s5v.2)).toNat 0).toNat : Int) = (0 : Int))) (fun hb24v => RQ.sub (E' := [(47, .int .i64 s5v.2)]) ⟨lk_cv rfl hb24v, trivial⟩ (q_gtr rfl rfl rfl)) rfl rfl rfl rfl rfl ?_
 refine vq (q_and rfl rfl rfl) rfl (simL_nil (nrm_then ?_))
 refine sim_condb rfl (fun h20v => ?_) (fun h21v => ?_)
 refine sr ?_
 refine va rfl rfl ?_
 refine va rfl rfl ?_
 refine va rfl rfl (simL_nil (nrm_then (sim_rtn ?_)))
 refine rtn_then ?_
 refine rtn_block ?_
 refine rtn_then ?_
 refine rtn_loop ?_
 refine rtn_block ?_
 refine rtn_cutR ?_
 exact rtn_fn () rfl rfl rfl (.sel 0 rfl (.nil _))
 refine sim_skip ?_
 refine nrm_then (sim_seq (sr ?_))
 refine vm rfl rfl ?_
 refine vq (q_gtr rfl rfl rfl) rfl (simL_nil (nrm_then ?_))
 refine sim_cond rfl (fun h22v => ?_) (fun h23v => ?_)
 refine sr ?_
 refine va rfl rfl ?_
 refine va rfl rfl ?_
 refine va rfl rfl (simL_nil (nrm_then (sim_rtn ?_)))
 refine rtn_then ?_
 refine rtn_block ?_
 refine rtn_then ?_
 refine rtn_loop ?_
 refine rtn_block ?_
 refine rtn_cutR ?_
 exact rtn_fn () rfl rfl rfl (.sel 0 rfl (.nil _))
 refine sim_skip ?_
 refine nrm_then (sr ?_)
 refine vm rfl rfl ?_
 refine vm rfl rfl ?_
 refine vq (q_add rfl rfl rfl) rfl ?_
 refine va rfl rfl ?_
 refine va rfl rfl ?_
 refine va rfl rfl (simL_nil (nrm_then (sim_rtn ?_)))
 refine rtn_block ?_
 refine rtn_then ?_
 refine rtn_loop ?_
 refine rtn_block ?_
 refine rtn_cutR ?_
 exact rtn_fn () rfl rfl rfl (.sel 0 rfl (.nil _))
 refine sim_exi ?_
 refine exi_then ?_
 refine exi_loop ?_
 refine exi_here ?_
 exact nrm_cutR (s := ()) () trivial (.sel 0 rfl (.nil _))
 intro s3v y4v
 refine sr ?_
 refine va rfl rfl ?_
 refine va rfl rfl ?_
 refine va rfl rfl (simL_nil (nrm_then (sim_rtn ?_)))
 exact rtn_fn () rfl rfl rfl (.sel 0 rfl (.nil _))

def wire_Reader_look.f (k : Nat) (x0_0 : List UInt8) (x0_1 : Int) (x0_2 : Int) : Option (Int × Int × Bool × Int × Int) := if x0_2 = (0 : Int) then ((wire_Int.f k x0_0 x0_1).bind fun s3v => (some (s3v.1, s3v.2.1, decide (s3v.2.2 = (0 : Int)), x0_1, s3v.2.2))) else (some (0, 0, false, x0_1, x0_2))
theorem wire_Reader_look.calls (W : World) (F : HA) (k : Nat) (b0 : Nat) (a0_0 : Option Addr) (c0_0 : Nat) (x0_0 : List UInt8) (x0_1 : Int) (x0_2 : Int) (h0_0 : Rd F a0_0 (encB x0_0)) (hc0_0 : x0_0.length ≤ c0_0) (hm0_0 : c0_0 ≤ maxLen) :
    Fn Tryz.prog W 172 [.pointer (some ⟨b0, 0, none⟩)] [obj b0 217 [.slice a0_0 x0_0.length c0_0, .int .i64 x0_1, .int .i64 x0_2]] F (wire_Reader_look.f k x0_0 x0_1 x0_2) (fun (r : Int × Int × Bool × Int × Int) (y : Unit) => .tuple #[.int .i64 r.1, .int .i64 r.2.1, .bool r.2.2.1]) (fun r y => [obj b0 217 [.slice a0_0 x0_0.length c0_0, .int .i64 r.2.2.2.1, .int .i64 r.2.2.2.2]]) := by
 unfold wire_Reader_look.f
 refine fn_intro 34 Tryz.func172 rfl Tryz.ntmps172 rfl ?_
 refine sr ?_
 refine va rfl rfl ?_
 refine va rfl rfl ?_
 refine va rfl rfl (simL_nil (nrm_then (sim_seq (sr ?_))))
 refine vm rfl rfl ?_
 refine vn rfl rfl ?_
 refine vq (q_fa rfl rfl Tryz.underlying217 rfl rfl Tryz.sizeOf30 rfl) rfl ?_
 refine vq (q_load rfl rfl Tryz.isAgg30 (.obj 0 rfl rfl)) rfl ?_
 refine vq (q_neq rfl rfl rfl) rfl (simL_nil (nrm_then ?_))
 refine sim_condn rfl (fun h1v => ?_) (fun h2v => ?_)
 refine sim_skip ?_
 refine nrm_then (sim_seq ?_)
 refine sim_bind (fun s3v hs4v => ?_)
 refine sim_draw (Γ := Unit) () [[], [0], [0, 1], [0, 1, 2], [], [4], [4, 5], [4, 5, 6], rL 8, rL 9, rL 10, rL 10, rL 10, rL 11, [0, 1, 2, 3, 4, 5, 6, 7, 8, 9, 10, 11, 13], rL 15] [8] [0, 1, 2, 3, 4, 5, 6, 7, 9, 10, 11, 12, 13, 14, 15] (fun i => [[0], [0], [0], [0], [0], [0], [0], [0], [], [1], [1], [1], [1], [1], [1], [1]].getD i []) (fun i => [[], [], [], [], [], [], [], [], rL 8, [], [], [], [], [], [], []].getD i []) (fun γ i => [.pointer (some ⟨b0, 0, none⟩), .pointer (some ⟨b0, 0, none⟩), .pointer (some ⟨b0, 0, none⟩), .slice a0_0 x0_0.length c0_0, .pointer (some ⟨b0, 0, none⟩), .pointer (some ⟨b0, 0, none⟩), .pointer (some ⟨b0, 1, none⟩), .int .i64 x0_1, .tuple #[.int .i64 s3v.1, .int .i64 s3v.2.1, .int .i64 s3v.2.2], .tuple #[.int .i64 s3v.1, .int .i64 s3v.2.1, .int .i64 s3v.2.2], .int .i64 s3v.1, .int .i64 s3v.2.1, .int .i64 s3v.2.2, .int .i64 s3v.1, .int .i64 s3v.2.1, .int .i64 s3v.2.2].getD i undef) (fun j γ => [[obj b0 217 [.slice a0_0 x0_0.length c0_0, .int .i64 x0_1, .int .i64 x0_2], F], [obj b0 217 [.slice a0_0 x0_0.length c0_0, .int .i64 x0_1, .int .i64 x0_2], F]].getD j []) (fun γ => [(0, .pointer (some ⟨b0, 0, none⟩)), (5, .int .i64 s3v.1), (6, .int .i64 s3v.2.1), (7, .int .i64 s3v.2.2)]) mixed (by decide) (by decide) (by decide) (by decide) (by decide) (by decide) (by decide) 34 rfl (by decide) (by decide) (by decide) (Ent.refl _) ?_ ?_ (fun _ => ⟨rfl, rfl, rfl, rfl, trivial⟩) ?_
 exact (aq rfl (fun γ => qm rfl (.o (s := 0) rfl (by decide) .nil) rfl) (aq rfl (fun γ => qp rfl rfl (.v 0 rfl rfl .nil) (q_nil rfl rfl) rfl) (aq rfl (fun γ => qp rfl rfl (.v 1 rfl rfl .nil) (q_fa rfl rfl Tryz.underlying217 rfl rfl Tryz.sizeOf25 rfl) rfl) (aq rfl (fun γ => qp rfl rfl (.v 2 rfl rfl .nil) (q_load rfl rfl Tryz.isAgg25 (.obj 0 rfl rfl)) rfl) (aq rfl (fun γ => qm rfl (.o (s := 0) rfl (by decide) .nil) rfl) (aq rfl (fun γ => qp rfl rfl (.v 4 rfl rfl .nil) (q_nil rfl rfl) rfl) (aq rfl (fun γ => qp rfl rfl (.v 5 rfl rfl .nil) (q_fa rfl rfl Tryz.underlying217 rfl rfl Tryz.sizeOf3 rfl) rfl) (aq rfl (fun γ => qp rfl rfl (.v 6 rfl rfl .nil) (q_load rfl rfl Tryz.isAgg3 (.obj 0 rfl rfl)) rfl) (aq rfl (fun γ => qm rfl (.v 8 rfl rfl .nil) rfl) (aq rfl (fun γ => qp rfl rfl (.v 9 rfl rfl .nil) (q_ext rfl rfl rfl) rfl) (aq rfl (fun γ => qp rfl rfl (.v 9 rfl rfl .nil) (q_ext rfl rfl rfl) rfl) (aq rfl (fun γ => qp rfl rfl (.v 9 rfl rfl .nil) (q_ext rfl rfl rfl) rfl) (aq rfl (fun γ => qp rfl rfl (.v 10 rfl rfl .nil) (q_asg rfl rfl) rfl) (aq rfl (fun γ => qp rfl rfl (.v 11 rfl rfl .nil) (q_asg rfl rfl) rfl) (aq rfl (fun γ => qp rfl rfl (.v 12 rfl rfl .nil) (q_asg rfl rfl) rfl) zA)))))))))))))))
 exact (ac (fun γ => eo (Z := Unit) (fun z => ()) rfl rfl (.v 3 rfl rfl (.v 7 rfl rfl .nil)) (re_call (val := fun (r : Int × Int × Int) (y : Unit) => .tuple #[.int .i64 r.1, .int .i64 r.2.1, .int .i64 r.2.2]) (B := fun _ _ => []) (vs := [.slice a0_0 x0_0.length c0_0, .int .i64 x0_1]) (cap := []) (A := []) (rst := [obj b0 217 [.slice a0_0 x0_0.length c0_0, .int .i64 x0_1, .int .i64 x0_2], F]) rfl rfl rfl rfl rfl rfl Tryz.call196 (.sel 0 rfl (.sel 0 rfl (.nil _))) (wire_Int.calls _ _ k a0_0 c0_0 x0_0 x0_1 (h0_0.lend 1 rfl) hc0_0 hm0_0) hs4v) (fun _ => ⟨rfl, rfl, rfl, rfl, rfl, rfl, rfl, rfl, trivial⟩) (fun _ => .inr rfl) (fun z => Ent.refl _)) zA)
 intro g6v
 refine nrm_then (sr ?_)
 refine vm rfl rfl ?_
 refine vm rfl rfl ?_
 refine vn rfl rfl ?_
 refine vq (q_fa rfl rfl Tryz.underlying217 rfl rfl Tryz.sizeOf30 rfl) rfl ?_
 refine simL_do (re_store 0 rfl rfl rfl Tryz.sizeOf30 rfl rfl (one_of (by rfl)) rfl rfl) rfl rfl ?_
 intro _
 refine nx ?_
 refine vm rfl rfl ?_
 refine vm rfl rfl ?_
 refine vm rfl rfl ?_
 refine vq (q_eql rfl rfl rfl) rfl ?_
 refine va rfl rfl ?_
 refine va rfl rfl ?_
 refine va rfl rfl (simL_nil (nrm_then (sim_rtn ?_)))
 exact rtn_fn () rfl rfl rfl (.sel 0 rfl (.sel 0 rfl (.nil _)))
 refine sr ?_
 refine va rfl rfl ?_
 refine va rfl rfl ?_
 refine va rfl rfl (simL_nil (nrm_then (sim_rtn ?_)))
 refine rtn_then ?_
 exact rtn_fn () rfl rfl rfl (.sel 0 rfl (.sel 0 rfl (.nil _)))

def wire_Reader_Int.f (k : Nat) (x0_0 : List UInt8) (x0_1 : Int) (x0_2 : Int) : Option (Int × Int × Int) := (wire_Reader_look.f k x0_0 x0_1 x0_2).bind fun s1v => (if (!s1v.2.2.1) = true then (some (0, s1v.2.2.2.1, s1v.2.2.2.2)) else (some (s1v.1, IntKind.i64.wrap (s1v.2.2.2.1 + s1v.2.1), s1v.2.2.2.2)))
theorem wire_Reader_Int.calls (W : World) (F : HA) (k : Nat) (b0 : Nat) (a0_0 : Option Addr) (c0_0 : Nat) (x0_0 : List UInt8) (x0_1 : Int) (x0_2 : Int) (h0_0 : Rd F a0_0 (encB x0_0)) (hc0_0 : x0_0.length ≤ c0_0) (hm0_0 : c0_0 ≤ maxLen) :
    Fn Tryz.prog W 134 [.pointer (some ⟨b0, 0, none⟩)] [obj b0 217 [.slice a0_0 x0_0.length c0_0, .int .i64 x0_1, .int .i64 x0_2]] F (wire_Reader_Int.f k x0_0 x0_1 x0_2) (fun (r : Int × Int × Int) (y : Unit) => .int .i64 r.1) (fun r y => [obj b0 217 [.slice a0_0 x0_0.length c0_0, .int .i64 r.2.1, .int .i64 r.2.2]]) := by
 unfold wire_Reader_Int.f
 refine fn_intro 23 Tryz.func134 rfl Tryz.ntmps134 rfl ?_
 refine sr ?_
 refine va rfl rfl (nx ?_)
 refine vm rfl rfl ?_
 refine simL_bind (fun s1v hs2v => ?_)
 refine simL_eff (re_call (vs := [.pointer (some ⟨b0, 0, none⟩)]) (cap := []) (A := [obj b0 217 [.slice a0_0 x0_0.length c0_0, .int .i64 x0_1, .int .i64 x0_2]]) (rst := [F]) rfl rfl rfl rfl rfl rfl Tryz.call172 (.sel 0 rfl (.sel 0 rfl (.nil _))) (wire_Reader_look.calls _ _ k b0 a0_0 c0_0 x0_0 x0_1 x0_2 (h0_0.lend 0 rfl) hc0_0 hm0_0) hs2v) rfl rfl rfl ?_
 intro y3v
 refine vm rfl rfl ?_
 refine vq (q_ext rfl rfl rfl) rfl ?_
 refine vq (q_ext rfl rfl rfl) rfl ?_
 refine vq (q_ext rfl rfl rfl) rfl ?_
 refine va rfl rfl ?_
 refine va rfl rfl ?_
 refine va rfl rfl (simL_nil (nrm_then (sim_seq (sr ?_))))
 refine vm rfl rfl ?_
 refine vq (q_not rfl rfl) rfl (simL_nil (nrm_then ?_))
 refine sim_condb rfl (fun h4v => ?_) (fun h5v => ?_)
 refine sr ?_
 refine va rfl rfl (simL_nil (nrm_then (sim_rtn ?_)))
 refine rtn_then ?_
 exact rtn_fn () rfl rfl rfl (.sel 0 rfl (.sel 0 rfl (.nil _)))
 refine sim_skip ?_
 refine nrm_then (sr ?_)
 refine vm rfl rfl ?_
 refine vn rfl rfl ?_
 refine vq (q_fa rfl rfl Tryz.underlying217 rfl rfl Tryz.sizeOf3 rfl) rfl ?_
 refine vq (q_load rfl rfl Tryz.isAgg3 (.obj 0 rfl rfl)) rfl ?_
 refine vm rfl rfl ?_
 refine vq (q_add rfl rfl rfl) rfl ?_
 refine vn rfl rfl ?_
 refine vq (q_fa rfl rfl Tryz.underlying217 rfl rfl Tryz.sizeOf3 rfl) rfl ?_
 refine simL_do (re_store 0 rfl rfl rfl Tryz.sizeOf3 rfl rfl (one_of (by rfl)) rfl rfl) rfl rfl ?_
 intro _
 refine nx ?_
 refine vm rfl rfl ?_
 refine va rfl rfl (simL_nil (nrm_then (sim_rtn ?_)))
 exact rtn_fn () rfl rfl rfl (.sel 0 rfl (.sel 0 rfl (.nil _)))

def wire_Reader_Bytes.f (k : Nat) (x0_0 : List UInt8) (x0_1 : Int) (x0_2 : Int) (x1 : Int) : Option (List UInt8 × Int × Int) := (wire_Reader_look.f k x0_0 x0_1 x0_2).bind fun s1v => (if (!s1v.2.2.1) = true then (some (([] : List UInt8), s1v.2.2.2.1, s1v.2.2.2.2)) else (if max x1 (0 : Int) < s1v.1 then (some (([] : List UInt8), s1v.2.2.2.1, 3)) else (if IntKind.i64.wrap ((IntKind.i64.wrap ((x0_0.length : Int) - s1v.2.2.2.1)) - s1v.2.1) < s1v.1 then (some (([] : List UInt8), s1v.2.2.2.1, 2)) else (if 0 ≤ IntKind.i64.wrap (s1v.2.2.2.1 + s1v.2.1) ∧ IntKind.i64.wrap (s1v.2.2.2.1 + s1v.2.1) ≤ IntKind.i64.wrap ((IntKind.i64.wrap (s1v.2.2.2.1 + s1v.2.1)) + s1v.1) ∧ IntKind.i64.wrap ((IntKind.i64.wrap (s1v.2.2.2.1 + s1v.2.1)) + s1v.1) ≤ (x0_0.length : Int) then ((wire_fresh.f (cut x0_0 (IntKind.i64.wrap (s1v.2.2.2.1 + s1v.2.1)) (IntKind.i64.wrap ((IntKind.i64.wrap (s1v.2.2.2.1 + s1v.2.1)) + s1v.1)))).bind fun s18v => (some (s18v, IntKind.i64.wrap ((IntKind.i64.wrap (s1v.2.2.2.1 + s1v.2.1)) + s1v.1), s1v.2.2.2.2))) else none))))
theorem wire_Reader_Bytes.calls (W : World) (F : HA) (k : Nat) (b0 : Nat) (a0_0 : Option Addr) (c0_0 : Nat) (x0_0 : List UInt8) (x0_1 : Int) (x0_2 : Int) (x1 : Int) (h0_0 : Rd F a0_0 (encB x0_0)) (hc0_0 : x0_0.length ≤ c0_0) (hm0_0 : c0_0 ≤ maxLen) :
    Fn Tryz.prog W 135 [.pointer (some ⟨b0, 0, none⟩), .int .i64 x1] [obj b0 217 [.slice a0_0 x0_0.length c0_0, .int .i64 x0_1, .int .i64 x0_2]] F (wire_Reader_Bytes.f k x0_0 x0_1 x0_2 x1) (fun (r : List UInt8 × Int × Int) (y : Option Addr × Nat) => .slice y.1 r.1.length y.2) (fun r y => [Row 5 1 y.1 r.1.length y.2 (encB r.1), obj b0 217 [.slice a0_0 x0_0.length c0_0, .int .i64 r.2.1, .int .i64 r.2.2]]) := by
 unfold wire_Reader_Bytes.f
 refine fn_intro 67 Tryz.func135 rfl Tryz.ntmps135 rfl ?_
 refine sr ?_
 refine va rfl rfl (nx ?_)
 refine vm rfl rfl ?_
 refine simL_bind (fun s1v hs2v => ?_)
 refine simL_eff (re_call (vs := [.pointer (some ⟨b0, 0, none⟩)]) (cap := []) (A := [obj b0 217 [.slice a0_0 x0_0.length c0_0, .int .i64 x0_1, .int .i64 x0_2]]) (rst := [F]) rfl rfl rfl rfl rfl rfl Tryz.call172 (.sel 0 rfl (.sel 0 rfl (.nil _))) (wire_Reader_look.calls _ _ k b0 a0_0 c0_0 x0_0 x0_1 x0_2 (h0_0.lend 0 rfl) hc0_0 hm0_0) hs2v) rfl rfl rfl ?_
 intro y3v
 refine vm rfl rfl ?_
 refine vq (q_ext rfl rfl rfl) rfl ?_
 refine vq (q_ext rfl rfl rfl) rfl ?_
 refine vq (q_ext rfl rfl rfl) rfl ?_
 refine va rfl rfl ?_
 refine va rfl rfl ?_
 refine va rfl rfl (simL_nil (nrm_then (sim_seq ?_)))
 refine sim_block ?_
 refine sr ?_
 refine vm rfl rfl ?_
 refine vq (q_not rfl rfl) rfl ?_
 refine va rfl rfl (simL_nil (nrm_then ?_))
 refine sim_condb rfl (fun h4v => ?_) (fun h5v => ?_)
 refine sr ?_
 refine va rfl rfl (simL_nil (nrm_then (sim_rtn ?_)))
 refine rtn_block ?_
 refine rtn_then ?_
 exact rtn_fn (none, 0) rfl rfl rfl (.row_nil (.sel 0 rfl (.sel 0 rfl (.nil _))))
 refine sr ?_
 refine vm rfl rfl ?_
 refine vm rfl rfl ?_
 refine vq (q_max rfl rfl rfl) rfl ?_
 refine vq (q_gtr rfl rfl rfl) rfl ?_
 refine va rfl rfl (simL_nil (nrm_then ?_))
 refine sim_cond rfl (fun h6v => ?_) (fun h7v => ?_)
 refine sr ?_
 refine vm rfl rfl ?_
 refine vn rfl rfl ?_
 refine vq (q_fa rfl rfl Tryz.underlying217 rfl rfl Tryz.sizeOf30 rfl) rfl ?_
 refine simL_do (re_store 0 rfl rfl rfl Tryz.sizeOf30 rfl rfl (one_of (by rfl)) rfl rfl) rfl rfl ?_
 intro _
 refine nx ?_
 refine va rfl rfl (simL_nil (nrm_then (sim_rtn ?_)))
 refine rtn_block ?_
 refine rtn_then ?_
 exact rtn_fn (none, 0) rfl rfl rfl (.row_nil (.sel 0 rfl (.sel 0 rfl (.nil _))))
 refine sim_seq ?_
 refine sim_draw (Γ := Unit) () [[], [], [1], [1, 2], [1, 2, 3], [1, 2, 3, 4], [], [6], [6, 7], [6, 7, 8], [1, 2, 3, 4, 5, 6, 7, 8, 9], [], [1, 2, 3, 4, 5, 6, 7, 8, 9, 10, 11], rL 13, rL 14] [] [0, 1, 2, 3, 4, 5, 6, 7, 8, 9, 10, 11, 12, 13, 14] (fun i => [[0], [0], [0], [0], [0], [0], [0], [0], [0], [0], [0], [0], [0], [0], [0]].getD i []) (fun i => [[], [], [], [], [], [], [], [], [], [], [], [], [], [], []].getD i []) (fun γ i => [.int .i64 s1v.1, .pointer (some ⟨b0, 0, none⟩), .pointer (some ⟨b0, 0, none⟩), .pointer (some ⟨b0, 0, none⟩), .slice a0_0 x0_0.length c0_0, .int .i64 (x0_0.length : Int), .pointer (some ⟨b0, 0, none⟩), .pointer (some ⟨b0, 0, none⟩), .pointer (some ⟨b0, 1, none⟩), .int .i64 s1v.2.2.2.1, .int .i64 (IntKind.i64.wrap ((x0_0.length : Int) - s1v.2.2.2.1)), .int .i64 s1v.2.1, .int .i64 (IntKind.i64.wrap ((IntKind.i64.wrap ((x0_0.length : Int) - s1v.2.2.2.1)) - s1v.2.1)), .bool (decide (IntKind.i64.wrap ((IntKind.i64.wrap ((x0_0.length : Int) - s1v.2.2.2.1)) - s1v.2.1) < s1v.1)), .bool (decide (IntKind.i64.wrap ((IntKind.i64.wrap ((x0_0.length : Int) - s1v.2.2.2.1)) - s1v.2.1) < s1v.1))].getD i undef) (fun j γ => [[obj b0 217 [.slice a0_0 x0_0.length c0_0, .int .i64 s1v.2.2.2.1, .int .i64 s1v.2.2.2.2], F]].getD j []) (fun γ => [(0, .pointer (some ⟨b0, 0, none⟩)), (5, .int .i64 s1v.1), (6, .int .i64 s1v.2.1), (26, .bool (decide (IntKind.i64.wrap ((IntKind.i64.wrap ((x0_0.length : Int) - s1v.2.2.2.1)) - s1v.2.1) < s1v.1)))]) mixed (by decide) (by decide) (by decide) (by decide) (by decide) (by decide) (by decide) 67 rfl (by decide) (by decide) (by decide) (Ent.refl _) ?_ ?_ (fun _ => ⟨rfl, rfl, rfl, rfl, trivial⟩) ?_
 exact (aq rfl (fun γ => qm rfl (.o (s := 5) rfl (by decide) .nil) rfl) (aq rfl (fun γ => qm rfl (.o (s := 0) rfl (by decide) .nil) rfl) (aq rfl (fun γ => qp rfl rfl (.v 1 rfl rfl .nil) (q_nil rfl rfl) rfl) (aq rfl (fun γ => qp rfl rfl (.v 2 rfl rfl .nil) (q_fa rfl rfl Tryz.underlying217 rfl rfl Tryz.sizeOf25 rfl) rfl) (aq rfl (fun γ => qp rfl rfl (.v 3 rfl rfl .nil) (q_load rfl rfl Tryz.isAgg25 (.obj 0 rfl rfl)) rfl) (aq rfl (fun γ => qp rfl rfl (.v 4 rfl rfl .nil) (q_len rfl rfl rfl Tryz.underlying25) rfl) (aq rfl (fun γ => qm rfl (.o (s := 0) rfl (by decide) .nil) rfl) (aq rfl (fun γ => qp rfl rfl (.v 6 rfl rfl .nil) (q_nil rfl rfl) rfl) (aq rfl (fun γ => qp rfl rfl (.v 7 rfl rfl .nil) (q_fa rfl rfl Tryz.underlying217 rfl rfl Tryz.sizeOf3 rfl) rfl) (aq rfl (fun γ => qp rfl rfl (.v 8 rfl rfl .nil) (q_load rfl rfl Tryz.isAgg3 (.obj 0 rfl rfl)) rfl) (aq rfl (fun γ => qp rfl rfl (.v 5 rfl rfl (.v 9 rfl rfl .nil)) (q_sub rfl rfl rfl) rfl) (aq rfl (fun γ => qm rfl (.o (s := 6) rfl (by decide) .nil) rfl) (aq rfl (fun γ => qp rfl rfl (.v 10 rfl rfl (.v 11 rfl rfl .nil)) (q_sub rfl rfl rfl) rfl) (aq rfl (fun γ => qp rfl rfl (.v 0 rfl rfl (.v 12 rfl rfl .nil)) (q_gtr rfl rfl rfl) rfl) (aq rfl (fun γ => qp rfl rfl (.v 13 rfl rfl .nil) (q_asg rfl rfl) rfl) zA)))))))))))))))
 exact zA
 intro g8v
 refine nrm_then ?_
 refine sim_cond rfl (fun h9v => ?_) (fun h10v => ?_)
 refine sr ?_
 refine vm rfl rfl ?_
 refine vn rfl rfl ?_
 refine vq (q_fa rfl rfl Tryz.underlying217 rfl rfl Tryz.sizeOf30 rfl) rfl ?_
 refine simL_do (re_store 0 rfl rfl rfl Tryz.sizeOf30 rfl rfl (one_of (by rfl)) rfl rfl) rfl rfl ?_
 intro _
 refine nx ?_
 refine va rfl rfl (simL_nil (nrm_then (sim_rtn ?_)))
 refine rtn_block ?_
 refine rtn_then ?_
 exact rtn_fn (none, 0) rfl rfl rfl (.row_nil (.sel 0 rfl (.sel 0 rfl (.nil _))))
 refine sim_skip ?_
 refine nrm_block (nrm_then (sr ?_))
 refine vm rfl rfl ?_
 refine vn rfl rfl ?_
 refine vq (q_fa rfl rfl Tryz.underlying217 rfl rfl Tryz.sizeOf3 rfl) rfl ?_
 refine vq (q_load rfl rfl Tryz.isAgg3 (.obj 0 rfl rfl)) rfl ?_
 refine vm rfl rfl ?_
 refine vq (q_add rfl rfl rfl) rfl ?_
 refine va rfl rfl (nx ?_)
 refine vm rfl rfl ?_
 refine vm rfl rfl ?_
 refine vm rfl rfl ?_
 refine vq (q_add rfl rfl rfl) rfl ?_
 refine vn rfl rfl ?_
 refine vq (q_fa rfl rfl Tryz.underlying217 rfl rfl Tryz.sizeOf3 rfl) rfl ?_
 refine simL_do (re_store 0 rfl rfl rfl Tryz.sizeOf3 rfl rfl (one_of (by rfl)) rfl rfl) rfl rfl ?_
 intro _
 refine simL_nil (nrm_then (sim_seq ?_))
 refine sim_ask (fun hb11v => ?_)
 obtain ⟨a12v, c13v, hS14v, hr15v, hc16v, hm17v⟩ := slice_pre (lo := IntKind.i64.wrap (s1v.2.2.2.1 + s1v.2.1)) (hi := IntKind.i64.wrap ((IntKind.i64.wrap (s1v.2.2.2.1 + s1v.2.1)) + s1v.1)) h0_0 hc0_0 hb11v
 refine sim_bind (fun s18v hs19v => ?_)
 refine sim_draw (Γ := (Option Addr × Nat)) (none, 0) [[], [0], [0, 1], [0, 1, 2], [], [], [5], [5, 6], [5, 6, 7], rL 9, rL 10, rL 11] [10] [0, 1, 2, 3, 4, 5, 6, 7, 8, 9, 11] (fun i => [[0], [0], [0], [0], [0], [0], [0], [0], [0], [0], [], [1]].getD i []) (fun i => [[], [], [], [], [], [], [], [], [], [], rL 10, []].getD i []) (fun γ i => [.pointer (some ⟨b0, 0, none⟩), .pointer (some ⟨b0, 0, none⟩), .pointer (some ⟨b0, 0, none⟩), .slice a0_0 x0_0.length c0_0, .int .i64 (IntKind.i64.wrap (s1v.2.2.2.1 + s1v.2.1)), .pointer (some ⟨b0, 0, none⟩), .pointer (some ⟨b0, 0, none⟩), .pointer (some ⟨b0, 1, none⟩), .int .i64 (IntKind.i64.wrap ((IntKind.i64.wrap (s1v.2.2.2.1 + s1v.2.1)) + s1v.1)), .slice a12v ((cut x0_0 (IntKind.i64.wrap (s1v.2.2.2.1 + s1v.2.1)) (IntKind.i64.wrap ((IntKind.i64.wrap (s1v.2.2.2.1 + s1v.2.1)) + s1v.1))).length) c13v, .slice γ.1 s18v.length γ.2, .slice γ.1 s18v.length γ.2].getD i undef) (fun j γ => [[obj b0 217 [.slice a0_0 x0_0.length c0_0, .int .i64 (IntKind.i64.wrap ((IntKind.i64.wrap (s1v.2.2.2.1 + s1v.2.1)) + s1v.1)), .int .i64 s1v.2.2.2.2], F], [Row 5 1 γ.1 s18v.length γ.2 (encB s18v), obj b0 217 [.slice a0_0 x0_0.length c0_0, .int .i64 (IntKind.i64.wrap ((IntKind.i64.wrap (s1v.2.2.2.1 + s1v.2.1)) + s1v.1)), .int .i64 s1v.2.2.2.2], F]].getD j []) (fun γ => [(4, .slice γ.1 s18v.length γ.2)]) mixed (by decide) (by decide) (by decide) (by decide) (by decide) (by decide) (by decide) 67 rfl (by decide) (by decide) (by decide) (Ent.refl _) ?_ ?_ (fun _ => ⟨rfl, trivial⟩) ?_
 exact (aq rfl (fun γ => qm rfl (.o (s := 0) rfl (by decide) .nil) rfl) (aq rfl (fun γ => qp rfl rfl (.v 0 rfl rfl .nil) (q_nil rfl rfl) rfl) (aq rfl (fun γ => qp rfl rfl (.v 1 rfl rfl .nil) (q_fa rfl rfl Tryz.underlying217 rfl rfl Tryz.sizeOf25 rfl) rfl) (aq rfl (fun γ => qp rfl rfl (.v 2 rfl rfl .nil) (q_load rfl rfl Tryz.isAgg25 (.obj 0 rfl rfl)) rfl) (aq rfl (fun γ => qm rfl (.o (s := 8) rfl (by decide) .nil) rfl) (aq rfl (fun γ => qm rfl (.o (s := 0) rfl (by decide) .nil) rfl) (aq rfl (fun γ => qp rfl rfl (.v 5 rfl rfl .nil) (q_nil rfl rfl) rfl) (aq rfl (fun γ => qp rfl rfl (.v 6 rfl rfl .nil) (q_fa rfl rfl Tryz.underlying217 rfl rfl Tryz.sizeOf3 rfl) rfl) (aq rfl (fun γ => qp rfl rfl (.v 7 rfl rfl .nil) (q_load rfl rfl Tryz.isAgg3 (.obj 0 rfl rfl)) rfl) (aq rfl (fun γ => qp rfl rfl (.v 3 rfl rfl (.v 4 rfl rfl (.v 8 rfl rfl .nil))) (q_sub_ro (l := x0_0) (lo' := IntKind.i64.wrap (s1v.2.2.2.1 + s1v.2.1)) (hi' := IntKind.i64.wrap ((IntKind.i64.wrap (s1v.2.2.2.1 + s1v.2.1)) + s1v.1)) rfl rfl rfl rfl Tryz.underlying25 Tryz.sizeOf5 (.inr ⟨_, rfl⟩) (.inr ⟨_, rfl⟩) hb11v hc0_0 hS14v) rfl) (aq rfl (fun γ => qp rfl rfl (.v 10 rfl rfl .nil) (q_asg rfl rfl) rfl) zA)))))))))))
 exact (ac (fun γ => eo (Z := Option Addr × Nat) (fun z => z) rfl rfl (.v 9 rfl rfl .nil) (re_call (vs := [.slice a12v ((cut x0_0 (IntKind.i64.wrap (s1v.2.2.2.1 + s1v.2.1)) (IntKind.i64.wrap ((IntKind.i64.wrap (s1v.2.2.2.1 + s1v.2.1)) + s1v.1))).length) c13v]) (cap := []) (A := []) (rst := [obj b0 217 [.slice a0_0 x0_0.length c0_0, .int .i64 (IntKind.i64.wrap ((IntKind.i64.wrap (s1v.2.2.2.1 + s1v.2.1)) + s1v.1)), .int .i64 s1v.2.2.2.2], F]) rfl rfl rfl rfl rfl rfl Tryz.call160 (.sel 0 rfl (.sel 0 rfl (.nil _))) (wire_fresh.calls _ _ a12v c13v (cut x0_0 (IntKind.i64.wrap (s1v.2.2.2.1 + s1v.2.1)) (IntKind.i64.wrap ((IntKind.i64.wrap (s1v.2.2.2.1 + s1v.2.1)) + s1v.1))) (hr15v.lend 1 rfl) hc16v (Nat.le_trans hm17v hm0_0)) hs19v) (fun _ => ⟨rfl, rfl, rfl, rfl, rfl, rfl, rfl, rfl, rfl, rfl, trivial⟩) (fun _ => .inr rfl) (fun z => Ent.refl _)) zA)
 intro g21v
 refine nrm_then (sim_rtn ?_)
 exact rtn_fn (g21v.1, g21v.2) rfl rfl rfl (.sel 0 rfl (.sel 0 rfl (.sel 0 rfl (.nil _))))

def wire_Reader_Left.f (x0_0 : List UInt8) (x0_1 : Int) (x0_2 : Int) : Option (Int) := some (IntKind.i64.wrap ((x0_0.length : Int) - x0_1))
theorem wire_Reader_Left.calls (W : World) (F : HA) (b0 : Nat) (a0_0 : Option Addr) (c0_0 : Nat) (x0_0 : List UInt8) (x0_1 : Int) (x0_2 : Int) (h0_0 : Rd F a0_0 (encB x0_0)) (hc0_0 : x0_0.length ≤ c0_0) (hm0_0 : c0_0 ≤ maxLen) :
    Fn Tryz.prog W 197 [.pointer (some ⟨b0, 0, none⟩)] [obj b0 217 [.slice a0_0 x0_0.length c0_0, .int .i64 x0_1, .int .i64 x0_2]] F (wire_Reader_Left.f x0_0 x0_1 x0_2) (fun (r : Int) (y : Unit) => .int .i64 r) (fun r y => [obj b0 217 [.slice a0_0 x0_0.length c0_0, .int .i64 x0_1, .int .i64 x0_2]]) := by
 unfold wire_Reader_Left.f
 refine fn_intro 13 Tryz.func197 rfl Tryz.ntmps197 rfl ?_
 refine sr ?_
 refine va rfl rfl (simL_nil (nrm_then (sim_seq ?_)))
 refine sim_draw (Γ := Unit) () [[], [0], [0, 1], [0, 1, 2], rL 4, [], [5], [5, 6], [5, 6, 7], rL 9, rL 10] [] [0, 1, 2, 3, 4, 5, 6, 7, 8, 9, 10] (fun i => [[0], [0], [0], [0], [0], [0], [0], [0], [0], [0], [0]].getD i []) (fun i => [[], [], [], [], [], [], [], [], [], [], []].getD i []) (fun γ i => [.pointer (some ⟨b0, 0, none⟩), .pointer (some ⟨b0, 0, none⟩), .pointer (some ⟨b0, 0, none⟩), .slice a0_0 x0_0.length c0_0, .int .i64 (x0_0.length : Int), .pointer (some ⟨b0, 0, none⟩), .pointer (some ⟨b0, 0, none⟩), .pointer (some ⟨b0, 1, none⟩), .int .i64 x0_1, .int .i64 (IntKind.i64.wrap ((x0_0.length : Int) - x0_1)), .int .i64 (IntKind.i64.wrap ((x0_0.length : Int) - x0_1))].getD i undef) (fun j γ => [[obj b0 217 [.slice a0_0 x0_0.length c0_0, .int .i64 x0_1, .int .i64 x0_2], F]].getD j []) (fun γ => [(2, .int .i64 (IntKind.i64.wrap ((x0_0.length : Int) - x0_1)))]) mixed (by decide) (by decide) (by decide) (by decide) (by decide) (by decide) (by decide) 13 rfl (by decide) (by decide) (by decide) (Ent.refl _) ?_ ?_ (fun _ => ⟨rfl, trivial⟩) ?_
 exact (aq rfl (fun γ => qm rfl (.o (s := 0) rfl (by decide) .nil) rfl) (aq rfl (fun γ => qp rfl rfl (.v 0 rfl rfl .nil) (q_nil rfl rfl) rfl) (aq rfl (fun γ => qp rfl rfl (.v 1 rfl rfl .nil) (q_fa rfl rfl Tryz.underlying217 rfl rfl Tryz.sizeOf25 rfl) rfl) (aq rfl (fun γ => qp rfl rfl (.v 2 rfl rfl .nil) (q_load rfl rfl Tryz.isAgg25 (.obj 0 rfl rfl)) rfl) (aq rfl (fun γ => qp rfl rfl (.v 3 rfl rfl .nil) (q_len rfl rfl rfl Tryz.underlying25) rfl) (aq rfl (fun γ => qm rfl (.o (s := 0) rfl (by decide) .nil) rfl) (aq rfl (fun γ => qp rfl rfl (.v 5 rfl rfl .nil) (q_nil rfl rfl) rfl) (aq rfl (fun γ => qp rfl rfl (.v 6 rfl rfl .nil) (q_fa rfl rfl Tryz.underlying217 rfl rfl Tryz.sizeOf3 rfl) rfl) (aq rfl (fun γ => qp rfl rfl (.v 7 rfl rfl .nil) (q_load rfl rfl Tryz.isAgg3 (.obj 0 rfl rfl)) rfl) (aq rfl (fun γ => qp rfl rfl (.v 4 rfl rfl (.v 8 rfl rfl .nil)) (q_sub rfl rfl rfl) rfl) (aq rfl (fun γ => qp rfl rfl (.v 9 rfl rfl .nil) (q_asg rfl rfl) rfl) zA)))))))))))
 exact zA
 intro g1v
 refine nrm_then (sim_rtn ?_)
 exact rtn_fn () rfl rfl rfl (.sel 0 rfl (.sel 0 rfl (.nil _)))
def wire_Reader_Left.v (x0_0 : List UInt8) (x0_1 : Int) (x0_2 : Int) : Int := (wire_Reader_Left.f x0_0 x0_1 x0_2).getD 0
def wire_Reader_Done.f (x0_0 : List UInt8) (x0_1 : Int) (x0_2 : Int) : Option (Int) := (if x0_2 = (0 : Int) then ((wire_Reader_Left.f x0_0 x0_1 x0_2).bind fun s3v => (some (decide ((0 : Int) < s3v)))) else (some false)).bind fun s1v => (if s1v = true then (some 3) else (some x0_2))
theorem wire_Reader_Done.calls (W : World) (F : HA) (b0 : Nat) (a0_0 : Option Addr) (c0_0 : Nat) (x0_0 : List UInt8) (x0_1 : Int) (x0_2 : Int) (h0_0 : Rd F a0_0 (encB x0_0)) (hc0_0 : x0_0.length ≤ c0_0) (hm0_0 : c0_0 ≤ maxLen) :
    Fn Tryz.prog W 173 [.pointer (some ⟨b0, 0, none⟩)] [obj b0 217 [.slice a0_0 x0_0.length c0_0, .int .i64 x0_1, .int .i64 x0_2]] F (wire_Reader_Done.f x0_0 x0_1 x0_2) (fun (r : Int) (y : Unit) => .int .i64 r) (fun r y => [obj b0 217 [.slice a0_0 x0_0.length c0_0, .int .i64 x0_1, .int .i64 x0_2]]) := by
 unfold wire_Reader_Done.f
 refine fn_intro 17 Tryz.func173 rfl Tryz.ntmps173 rfl ?_
 refine sr ?_
 refine va rfl rfl (simL_nil (nrm_then (sim_seq (sr ?_))))
 refine vm rfl rfl ?_
 refine vn rfl rfl ?_
 refine vq (q_fa rfl rfl Tryz.underlying217 rfl rfl Tryz.sizeOf30 rfl) rfl ?_
 refine vq (q_load rfl rfl Tryz.isAgg30 (.obj 0 rfl rfl)) rfl ?_
 refine vq (q_eql rfl rfl rfl) rfl ?_
 refine vm rfl rfl ?_
 refine simL_cut' 4 (S := Bool) (Unit) (fun s y => [(0, .pointer (some ⟨b0, 0, none⟩)), (12, .bool s)]) (fun s y => [obj b0 217 [.slice a0_0 x0_0.length c0_0, .int .i64 x0_1, .int .i64 x0_2], F]) ?_ ?_
 refine simL_casep (fun hb6v => ?_) (fun hb7v => ?_)
 rw [hb6v]
 refine simL_valg (q_move rfl rfl) rfl rfl rfl rfl rfl rfl ?_
 refine simL_bind (fun s3v hs4v => ?_)
 refine simL_effg (re_call (vs := [.pointer (some ⟨b0, 0, none⟩)]) (cap := []) (A := [obj b0 217 [.slice a0_0 x0_0.length c0_0, .int .i64 x0_1, .int .i64 x0_2]]) (rst := [F]) rfl rfl rfl rfl rfl rfl Tryz.call197 (.sel 0 rfl (.sel 0 rfl (.nil _))) (wire_Reader_Left.calls _ _ b0 a0_0 c0_0 x0_0 x0_1 x0_2 (h0_0.lend 0 rfl) hc0_0 hm0_0) hs4v) rfl rfl rfl rfl rfl rfl ?_
 intro y5v
 refine simL_valg (q_gtr rfl rfl rfl) rfl rfl rfl rfl rfl rfl ?_
 refine vq (q_pick rfl rfl rfl rfl rfl) rfl (simL_nil ?_)
 exact nrm_cut (s := decide ((0 : Int) < s3v)) () ⟨rfl, rfl, trivial⟩ (.sel 0 rfl (.sel 0 rfl (.nil _)))
 rw [hb7v]
 refine simL_skipd rfl rfl rfl rfl rfl rfl ?_
 refine simL_skipd rfl rfl rfl rfl rfl rfl ?_
 refine simL_skipd rfl rfl rfl rfl rfl rfl ?_
 refine vq (q_pick rfl rfl rfl rfl rfl) rfl (simL_nil ?_)
 exact nrm_cut (s := false) () ⟨rfl, rfl, trivial⟩ (.sel 0 rfl (.sel 0 rfl (.nil _)))
 intro s1v y2v
 refine simL_nil (nrm_then ?_)
 refine sim_condb rfl (fun h8v => ?_) (fun h9v => ?_)
 refine sr ?_
 refine va rfl rfl (simL_nil (nrm_then (sim_rtn ?_)))
 refine rtn_then ?_
 exact rtn_fn () rfl rfl rfl (.sel 0 rfl (.sel 0 rfl (.nil _)))
 refine sim_skip ?_
 refine nrm_then (sr ?_)
 refine vm rfl rfl ?_
 refine vn rfl rfl ?_
 refine vq (q_fa rfl rfl Tryz.underlying217 rfl rfl Tryz.sizeOf30 rfl) rfl ?_
 refine vq (q_load rfl rfl Tryz.isAgg30 (.obj 0 rfl rfl)) rfl ?_
 refine va rfl rfl (simL_nil (nrm_then (sim_rtn ?_)))
 exact rtn_fn () rfl rfl rfl (.sel 0 rfl (.sel 0 rfl (.nil _)))
def wire_Reader_Done.v (x0_0 : List UInt8) (x0_1 : Int) (x0_2 : Int) : Int := (wire_Reader_Done.f x0_0 x0_1 x0_2).getD 0
def codec_none.f (x0_0 : Int) (x0_1 : Int) (x0_2 : List UInt8) : Option (Bool) := some (((decide (x0_0 = (0 : Int))) && (decide (x0_1 = (0 : Int)))) && (decide ((x0_2.length : Int) = (0 : Int))))
theorem codec_none.calls (W : World) (F : HA) (x0_0 : Int) (x0_1 : Int) (a0_2 : Option Addr) (c0_2 : Nat) (x0_2 : List UInt8) (h0_2 : Rd F a0_2 (encB x0_2)) (hc0_2 : x0_2.length ≤ c0_2) (hm0_2 : c0_2 ≤ maxLen) :
    Fn Tryz.prog W 117 [.agg #[.int .i64 x0_0, .int .i64 x0_1, .slice a0_2 x0_2.length c0_2]] [] F (codec_none.f x0_0 x0_1 x0_2) (fun (r : Bool) (y : Unit) => .bool r) (fun r y => []) := by
 unfold codec_none.f
 refine fn_intro 17 Tryz.func117 rfl Tryz.ntmps117 rfl ?_
 refine sr ?_
 refine simL_eff (re_box rfl rfl rfl) rfl rfl rfl ?_
 intro b1v
 refine va rfl rfl (nx ?_)
 refine vq (q_fa rfl rfl Tryz.underlying27 rfl rfl Tryz.sizeOf3 rfl) rfl ?_
 refine vq (q_load rfl rfl Tryz.isAgg3 (.obj 0 rfl rfl)) rfl ?_
 refine vq (q_eql rfl rfl rfl) rfl ?_
 refine vm rfl rfl ?_
 refine simL_valc (b := decide (x0_0 = (0 : Int))) (fun hb8v => RQ.sub (E' := [(1, .pointer (some ⟨b1v, 0, none⟩))]) ⟨rfl, trivial⟩ (q_fa rfl rfl Tryz.underlying27 rfl rfl Tryz.sizeOf3 rfl)) rfl rfl rfl rfl rfl ?_
 refine simL_valc (b := decide (x0_0 = (0 : Int))) (fun hb7v => RQ.sub (E' := [(7, .pointer (some ⟨b1v, 1, none⟩))]) ⟨lk_cv rfl hb7v, trivial⟩ (q_load rfl rfl Tryz.isAgg3 (.obj 0 rfl rfl))) rfl rfl rfl rfl rfl ?_
 refine simL_valc (b := decide (x0_0 = (0 : Int))) (fun hb6v => RQ.sub (E' := [(8, .int .i64 x0_1)]) ⟨lk_cv rfl hb6v, trivial⟩ (q_eql rfl rfl rfl)) rfl rfl rfl rfl rfl ?_
 refine vq (q_and rfl rfl rfl) rfl ?_
 refine vm rfl rfl ?_
 refine simL_valc (b := (decide (x0_0 = (0 : Int))) && (decide (x0_1 = (0 : Int)))) (fun hb5v => RQ.sub (E' := [(1, .pointer (some ⟨b1v, 0, none⟩))]) ⟨rfl, trivial⟩ (q_fa rfl rfl Tryz.underlying27 rfl rfl Tryz.sizeOf25 rfl)) rfl rfl rfl rfl rfl ?_
 refine simL_valc (b := (decide (x0_0 = (0 : Int))) && (decide (x0_1 = (0 : Int)))) (fun hb4v => RQ.sub (E' := [(12, .pointer (some ⟨b1v, 2, none⟩))]) ⟨lk_cv rfl hb4v, trivial⟩ (q_load rfl rfl Tryz.isAgg25 (.obj 0 rfl rfl))) rfl rfl rfl rfl rfl ?_
 refine simL_valc (b := (decide (x0_0 = (0 : Int))) && (decide (x0_1 = (0 : Int)))) (fun hb3v => RQ.sub (E' := [(13, .slice a0_2 x0_2.length c0_2)]) ⟨lk_cv rfl hb3v, trivial⟩ (q_len rfl rfl rfl Tryz.underlying25)) rfl rfl rfl rfl rfl ?_
 refine simL_valc (b := (decide (x0_0 = (0 : Int))) && (decide (x0_1 = (0 : Int)))) (fun hb2v => RQ.sub (E' := [(14, .int .i64 (x0_2.length : Int))]) ⟨lk_cv rfl hb2v, trivial⟩ (q_eql rfl rfl rfl)) rfl rfl rfl rfl rfl ?_
 refine vq (q_and rfl rfl rfl) rfl ?_
 refine va rfl rfl (simL_nil (nrm_then (sim_rtn ?_)))
 exact rtn_fn () rfl rfl rfl (.sel 1 rfl (.nil _))
def codec_none.v (x0_0 : Int) (x0_1 : Int) (x0_2 : List UInt8) : Bool := (codec_none.f x0_0 x0_1 x0_2).getD false
def codec_within.f (x0 : Int) (x1 : Int) : Option (Bool) := some ((decide (x1 ≤ x0)) && (decide (x0 ≤ (4611686018427387904 : Int))))
theorem codec_within.calls (W : World) (F : HA) (x0 : Int) (x1 : Int)  :
    Fn Tryz.prog W 118 [.int .i64 x0, .int .i64 x1] [] F (codec_within.f x0 x1) (fun (r : Bool) (y : Unit) => .bool r) (fun r y => []) := by
 unfold codec_within.f
 refine fn_intro 12 Tryz.func118 rfl Tryz.ntmps118 rfl ?_
 refine sr ?_
 refine va rfl rfl (nx ?_)
 refine vm rfl rfl ?_
 refine vm rfl rfl ?_
 refine vq (q_geq rfl rfl rfl) rfl ?_
 refine vm rfl rfl ?_
 refine simL_valc (b := decide (x1 ≤ x0)) (fun hb2v => RQ.sub (E' := [(0, .int .i64 x0)]) ⟨rfl, trivial⟩ (q_move rfl rfl)) rfl rfl rfl rfl rfl ?_
 refine simL_valc (b := decide (x1 ≤ x0)) (fun hb1v => RQ.sub (E' := [(9, .int .i64 x0)]) ⟨lk_cv rfl hb1v, trivial⟩ (q_leq rfl rfl rfl)) rfl rfl rfl rfl rfl ?_
 refine vq (q_and rfl rfl rfl) rfl ?_
 refine va rfl rfl (simL_nil (nrm_then (sim_rtn ?_)))
 exact rtn_fn () rfl rfl rfl (.sel 0 rfl (.nil _))
def codec_within.v (x0 : Int) (x1 : Int) : Bool := (codec_within.f x0 x1).getD false
def codec_Snaps_Check.f (x1_0 : Int) (x1_1 : Int) (x1_2 : List UInt8) : Option (Int) := (codec_none.f x1_0 x1_1 x1_2).bind fun s3v => (if s3v = true then (some 0) else ((codec_within.f x1_0 (1 : Int)).bind fun s8v => ((if (!s8v) = true then (some true) else ((codec_within.f x1_1 (1 : Int)).bind fun s13v => (some (!s13v)))).bind fun s11v => (if s11v = true then (some 1) else (if (524288 : Int) < (x1_2.length : Int) then (some 3) else (some 0))))))
theorem codec_Snaps_Check.calls (W : World) (F : HA) (x1_0 : Int) (x1_1 : Int) (a1_2 : Option Addr) (c1_2 : Nat) (x1_2 : List UInt8) (h1_2 : Rd F a1_2 (encB x1_2)) (hc1_2 : x1_2.length ≤ c1_2) (hm1_2 : c1_2 ≤ maxLen) :
    Fn Tryz.prog W 72 [.agg #[], .agg #[.int .i64 x1_0, .int .i64 x1_1, .slice a1_2 x1_2.length c1_2]] [] F (codec_Snaps_Check.f x1_0 x1_1 x1_2) (fun (r : Int) (y : Unit) => .int .i64 r) (fun r y => []) := by
 unfold codec_Snaps_Check.f
 refine fn_intro 24 Tryz.func72 rfl Tryz.ntmps72 rfl ?_
 refine sr ?_
 refine simL_eff (re_box rfl rfl rfl) rfl rfl rfl ?_
 intro b1v
 refine simL_eff (re_box rfl rfl rfl) rfl rfl rfl ?_
 intro b2v
 refine va rfl rfl (simL_nil (nrm_then (sim_seq ?_)))
 refine sim_block ?_
 refine sr ?_
 refine vq (q_loado 0 rfl rfl Tryz.isAgg27 Tryz.sizeOf27 rfl rfl) rfl ?_
 refine simL_bind (fun s3v hs4v => ?_)
 refine simL_eff (re_call (vs := [.agg #[.int .i64 x1_0, .int .i64 x1_1, .slice a1_2 x1_2.length c1_2]]) (cap := []) (A := []) (rst := [obj b2v 27 [.int .i64 x1_0, .int .i64 x1_1, .slice a1_2 x1_2.length c1_2], obj b1v 79 [], F]) rfl rfl rfl rfl rfl rfl Tryz.call117 (.sel 0 rfl (.sel 0 rfl (.sel 0 rfl (.nil _)))) (codec_none.calls _ _ x1_0 x1_1 a1_2 c1_2 x1_2 (h1_2.lend 2 rfl) hc1_2 hm1_2) hs4v) rfl rfl rfl ?_
 intro y5v
 refine va rfl rfl (simL_nil (nrm_then ?_))
 refine sim_condb rfl (fun h6v => ?_) (fun h7v => ?_)
 refine sr ?_
 refine va rfl rfl (simL_nil (nrm_then (sim_rtn ?_)))
 refine rtn_block ?_
 refine rtn_then ?_
 exact rtn_fn () rfl rfl rfl (.sel 2 rfl (.nil _))
 refine sr ?_
 refine vq (q_fa rfl rfl Tryz.underlying27 rfl rfl Tryz.sizeOf3 rfl) rfl ?_
 refine vq (q_load rfl rfl Tryz.isAgg3 (.obj 0 rfl rfl)) rfl ?_
 refine simL_bind (fun s8v hs9v => ?_)
 refine simL_eff (re_call (vs := [.int .i64 x1_0, .int .i64 1]) (cap := []) (A := []) (rst := [obj b2v 27 [.int .i64 x1_0, .int .i64 x1_1, .slice a1_2 x1_2.length c1_2], obj b1v 79 [], F]) rfl rfl rfl rfl rfl rfl Tryz.call118 (.sel 0 rfl (.sel 0 rfl (.sel 0 rfl (.nil _)))) (codec_within.calls _ _ x1_0 (1 : Int) ) hs9v) rfl rfl rfl ?_
 intro y10v
 refine vq (q_not rfl rfl) rfl ?_
 refine vm rfl rfl ?_
 refine simL_cut' 5 (S := Bool) (Unit) (fun s y => [(3, .pointer (some ⟨b2v, 0, none⟩)), (18, .bool s)]) (fun s y => [obj b2v 27 [.int .i64 x1_0, .int .i64 x1_1, .slice a1_2 x1_2.length c1_2], F]) ?_ ?_
 refine simL_caseb (fun hb16v => ?_) (fun hb17v => ?_)
 rw [hb16v]
 refine simL_skipd rfl rfl rfl rfl rfl rfl ?_
 refine simL_skipd rfl rfl rfl rfl rfl rfl ?_
 refine simL_skipd rfl rfl rfl rfl rfl rfl ?_
 refine simL_skipd rfl rfl rfl rfl rfl rfl ?_
 refine vq (q_pick rfl rfl rfl rfl rfl) rfl (simL_nil ?_)
 exact nrm_cut (s := true) () ⟨rfl, rfl, trivial⟩ (.sel 0 rfl (.sel 1 rfl (.nil _)))
 rw [hb17v]
 refine simL_valg (q_fa rfl rfl Tryz.underlying27 rfl rfl Tryz.sizeOf3 rfl) rfl rfl rfl rfl rfl rfl ?_
 refine simL_valg (q_load rfl rfl Tryz.isAgg3 (.obj 0 rfl rfl)) rfl rfl rfl rfl rfl rfl ?_
 refine simL_bind (fun s13v hs14v => ?_)
 refine simL_effg (re_call (vs := [.int .i64 x1_1, .int .i64 1]) (cap := []) (A := []) (rst := [obj b2v 27 [.int .i64 x1_0, .int .i64 x1_1, .slice a1_2 x1_2.length c1_2], obj b1v 79 [], F]) rfl rfl rfl rfl rfl rfl Tryz.call118 (.sel 0 rfl (.sel 0 rfl (.sel 0 rfl (.nil _)))) (codec_within.calls _ _ x1_1 (1 : Int) ) hs14v) rfl rfl rfl rfl rfl rfl ?_
 intro y15v
 refine simL_valg (q_not rfl rfl) rfl rfl rfl rfl rfl rfl ?_
 refine vq (q_pick rfl rfl rfl rfl rfl) rfl (simL_nil ?_)
 exact nrm_cut (s := !s13v) () ⟨rfl, rfl, trivial⟩ (.sel 0 rfl (.sel 1 rfl (.nil _)))
 intro s11v y12v
 refine va rfl rfl (simL_nil (nrm_then ?_))
 refine sim_condb rfl (fun h18v => ?_) (fun h19v => ?_)
 refine sr ?_
 refine va rfl rfl (simL_nil (nrm_then (sim_rtn ?_)))
 refine rtn_block ?_
 refine rtn_then ?_
 exact rtn_fn () rfl rfl rfl (.sel 1 rfl (.nil _))
 refine sr ?_
 refine vq (q_fa rfl rfl Tryz.underlying27 rfl rfl Tryz.sizeOf25 rfl) rfl ?_
 refine vq (q_load rfl rfl Tryz.isAgg25 (.obj 0 rfl rfl)) rfl ?_
 refine vq (q_len rfl rfl rfl Tryz.underlying25) rfl ?_
 refine vq (q_gtr rfl rfl rfl) rfl ?_
 refine va rfl rfl (simL_nil (nrm_then ?_))
 refine sim_cond rfl (fun h20v => ?_) (fun h21v => ?_)
 refine sr ?_
 refine va rfl rfl (simL_nil (nrm_then (sim_rtn ?_)))
 refine rtn_block ?_
 refine rtn_then ?_
 exact rtn_fn () rfl rfl rfl (.sel 1 rfl (.nil _))
 refine sim_skip ?_
 refine nrm_block (nrm_then (sr ?_))
 refine va rfl rfl (simL_nil (nrm_then (sim_rtn ?_)))
 exact rtn_fn () rfl rfl rfl (.sel 1 rfl (.nil _))
def codec_Snaps_Check.v (x1_0 : Int) (x1_1 : Int) (x1_2 : List UInt8) : Int := (codec_Snaps_Check.f x1_0 x1_1 x1_2).getD 0
def codec_last_Snap_Snaps.f (xp0_0 : List UInt8) (xp0_1 : Int) (xp0_2 : Int) (x2_0 : Int) (x2_1 : Int) (x2_2 : List UInt8) : Option (Int × Int × List UInt8 × Int) := (wire_Reader_Done.f xp0_0 xp0_1 xp0_2).bind fun s3v => ((if s3v = (0 : Int) then ((codec_Snaps_Check.f x2_0 x2_1 x2_2).bind fun s10v => (some s10v)) else (some s3v)).bind fun s6v => (if s6v = (0 : Int) then (some (x2_0, x2_1, x2_2, 0)) else (some (0, 0, ([] : List UInt8), s6v))))
theorem codec_last_Snap_Snaps.calls (W : World) (F : HA) (G : HA) (hG : Up G F) (bp0 : Nat) (ap0_0 : Option Addr) (cp0_0 : Nat) (xp0_0 : List UInt8) (xp0_1 : Int) (xp0_2 : Int) (x2_0 : Int) (x2_1 : Int) (a2_2 : Option Addr) (c2_2 : Nat) (x2_2 : List UInt8) (hp0_0 : Rd G ap0_0 (encB xp0_0)) (hcp0_0 : xp0_0.length ≤ cp0_0) (hmp0_0 : cp0_0 ≤ maxLen) (h2_2 : Rd G a2_2 (encB x2_2)) (hc2_2 : x2_2.length ≤ c2_2) (hm2_2 : c2_2 ≤ maxLen) :
    Fn Tryz.prog W 136 [.pointer (some ⟨bp0, 0, none⟩), .iface 79 (.agg #[]), .agg #[.int .i64 x2_0, .int .i64 x2_1, .slice a2_2 x2_2.length c2_2]] [obj bp0 217 [.slice ap0_0 xp0_0.length cp0_0, .int .i64 xp0_1, .int .i64 xp0_2]] F (codec_last_Snap_Snaps.f xp0_0 xp0_1 xp0_2 x2_0 x2_1 x2_2) (fun (r : Int × Int × List UInt8 × Int) (y : Option Addr × Nat) => .tuple #[.agg #[.int .i64 r.1, .int .i64 r.2.1, .slice y.1 r.2.2.1.length y.2], .int .i64 r.2.2.2]) (fun r y => [pr (Rd (G) y.1 (encB r.2.2.1) ∧ r.2.2.1.length ≤ y.2 ∧ y.2 ≤ maxLen), obj bp0 217 [.slice ap0_0 xp0_0.length cp0_0, .int .i64 xp0_1, .int .i64 xp0_2]]) := by
 unfold codec_last_Snap_Snaps.f
 refine fn_intro 22 Tryz.func136 rfl Tryz.ntmps136 rfl ?_
 refine sr ?_
 refine simL_eff (re_box rfl rfl rfl) rfl rfl rfl ?_
 intro b1v
 refine simL_eff (re_alloc rfl Tryz.zeroValue27 rfl) rfl rfl rfl ?_
 intro b2v
 refine va rfl rfl (nx ?_)
 refine vm rfl rfl ?_
 refine simL_bind (fun s3v hs4v => ?_)
 refine simL_eff (re_call (vs := [.pointer (some ⟨bp0, 0, none⟩)]) (cap := []) (A := [obj bp0 217 [.slice ap0_0 xp0_0.length cp0_0, .int .i64 xp0_1, .int .i64 xp0_2]]) (rst := [obj b2v 27 [.int .i64 0, .int .i64 0, .slice none 0 0], obj b1v 27 [.int .i64 x2_0, .int .i64 x2_1, .slice a2_2 x2_2.length c2_2], F]) rfl rfl rfl rfl rfl rfl Tryz.call173 (.sel 2 rfl (.sel 0 rfl (.sel 0 rfl (.sel 0 rfl (.nil _))))) (wire_Reader_Done.calls _ _ bp0 ap0_0 cp0_0 xp0_0 xp0_1 xp0_2 ((hp0_0.up hG).lend 2 rfl) hcp0_0 hmp0_0) hs4v) rfl rfl rfl ?_
 intro y5v
 refine va rfl rfl (simL_nil (nrm_then ?_))
 refine sim_cut (S := Int) (Unit) (fun s y => [(5, .pointer (some ⟨b1v, 0, none⟩)), (6, .pointer (some ⟨b2v, 0, none⟩)), (8, .int .i64 s)]) (fun s y => [obj bp0 217 [.slice ap0_0 xp0_0.length cp0_0, .int .i64 xp0_1, .int .i64 xp0_2], obj b2v 27 [.int .i64 0, .int .i64 0, .slice none 0 0], obj b1v 27 [.int .i64 x2_0, .int .i64 x2_1, .slice a2_2 x2_2.length c2_2], F]) ?_ ?_
 refine sr ?_
 refine vm rfl rfl ?_
 refine vq (q_eql rfl rfl rfl) rfl (simL_nil (nrm_then ?_))
 refine sim_cond rfl (fun h8v => ?_) (fun h9v => ?_)
 refine sim_region ?_
 refine vm rfl rfl ?_
 refine vq (q_loado 2 rfl rfl Tryz.isAgg27 Tryz.sizeOf27 rfl rfl) rfl ?_
 refine simL_bind (fun s10v hs11v => ?_)
 refine simL_eff (re_invoke (vs := [.agg #[.int .i64 x2_0, .int .i64 x2_1, .slice a2_2 x2_2.length c2_2]]) (A := []) (rst := [obj bp0 217 [.slice ap0_0 xp0_0.length cp0_0, .int .i64 xp0_1, .int .i64 xp0_2], obj b2v 27 [.int .i64 0, .int .i64 0, .slice none 0 0], obj b1v 27 [.int .i64 x2_0, .int .i64 x2_1, .slice a2_2 x2_2.length c2_2], F]) rfl rfl rfl rfl rfl (fun _ => by kernel_rfl) Tryz.call72 (.sel 0 rfl (.sel 0 rfl (.sel 0 rfl (.sel 0 rfl (.nil _))))) (codec_Snaps_Check.calls _ _ x2_0 x2_1 a2_2 c2_2 x2_2 ((h2_2.up hG).lend 3 rfl) hc2_2 hm2_2) hs11v) rfl rfl rfl ?_
 intro y12v
 refine va rfl rfl (simL_nil ?_)
 exact nrm_cut (s := s10v) () ⟨rfl, rfl, rfl, trivial⟩ (.sel 0 rfl (.sel 0 rfl (.sel 0 rfl (.sel 0 rfl (.nil _)))))
 refine sim_skip ?_
 exact nrm_cut (s := s3v) () ⟨rfl, rfl, rfl, trivial⟩ (.sel 0 rfl (.sel 0 rfl (.sel 0 rfl (.sel 0 rfl (.nil _)))))
 intro s6v y7v
 refine sim_seq (sr ?_)
 refine vm rfl rfl ?_
 refine vq (q_neq rfl rfl rfl) rfl (simL_nil (nrm_then ?_))
 refine sim_condn rfl (fun h13v => ?_) (fun h14v => ?_)
 refine sim_skip ?_
 refine nrm_then (sr ?_)
 refine vq (q_loado 2 rfl rfl Tryz.isAgg27 Tryz.sizeOf27 rfl rfl) rfl ?_
 refine simL_do (re_store 1 rfl rfl rfl Tryz.sizeOf27 rfl rfl (one_of (by rfl)) rfl rfl) rfl rfl ?_
 intro _
 refine va rfl rfl (simL_nil (nrm_then (sim_rtn ?_)))
 exact rtn_fnC (vs := [.agg #[.int .i64 x2_0, .int .i64 x2_1, .slice a2_2 x2_2.length c2_2], .int .i64 0]) (a2_2, c2_2) rfl ⟨⟨b2v, rfl, load_agg 1 Tryz.isAgg27 Tryz.sizeOf27 rfl rfl⟩, rfl, trivial⟩ rfl (.pr_in ⟨h2_2, hc2_2, hm2_2⟩ (.sel 0 rfl (.sel 2 rfl (.nil _))))
 refine sr ?_
 refine simL_eff (re_alloc rfl Tryz.zeroValue27 rfl) rfl rfl rfl ?_
 intro b15v
 refine nx ?_
 refine vq (q_loado 0 rfl rfl Tryz.isAgg27 Tryz.sizeOf27 rfl rfl) rfl ?_
 refine vm rfl rfl ?_
 refine simL_do (re_store 2 rfl rfl rfl Tryz.sizeOf27 rfl rfl (one_of (by rfl)) rfl rfl) rfl rfl ?_
 intro _
 refine va rfl rfl (simL_nil (nrm_then (sim_rtn ?_)))
 refine rtn_then ?_
 exact rtn_fnC (vs := [.agg #[.int .i64 0, .int .i64 0, .slice none 0 0], .int .i64 s6v]) (none, 0) rfl ⟨⟨b2v, rfl, load_agg 2 Tryz.isAgg27 Tryz.sizeOf27 rfl rfl⟩, rfl, trivial⟩ rfl (.pr_in ⟨Rd.nil _ _, Nat.le_refl _, Nat.zero_le _⟩ (.sel 1 rfl (.sel 3 rfl (.nil _))))

def codec_last_Snap_Snaps_c2.f (xp0_0 : List UInt8) (xp0_1 : Int) (xp0_2 : Int) (x2_0 : Int) (x2_1 : Int) (x2_2 : List UInt8) : Option (Int × Int × List UInt8 × Int) := (wire_Reader_Done.f xp0_0 xp0_1 xp0_2).bind fun s3v => ((if s3v = (0 : Int) then ((codec_Snaps_Check.f x2_0 x2_1 x2_2).bind fun s14v => (some s14v)) else (some s3v)).bind fun s6v => (if s6v = (0 : Int) then (some (x2_0, x2_1, x2_2, 0)) else (some (0, 0, ([] : List UInt8), s6v))))
theorem codec_last_Snap_Snaps_c2.calls (W : World) (F : HA) (bp0 : Nat) (ap0_0 : Option Addr) (cp0_0 : Nat) (xp0_0 : List UInt8) (xp0_1 : Int) (xp0_2 : Int) (x2_0 : Int) (x2_1 : Int) (a2_2 : Option Addr) (c2_2 : Nat) (x2_2 : List UInt8) (hp0_0 : Rd F ap0_0 (encB xp0_0)) (hcp0_0 : xp0_0.length ≤ cp0_0) (hmp0_0 : cp0_0 ≤ maxLen) :
    Fn Tryz.prog W 136 [.pointer (some ⟨bp0, 0, none⟩), .iface 79 (.agg #[]), .agg #[.int .i64 x2_0, .int .i64 x2_1, .slice a2_2 x2_2.length c2_2]] [obj bp0 217 [.slice ap0_0 xp0_0.length cp0_0, .int .i64 xp0_1, .int .i64 xp0_2], Row 5 1 a2_2 x2_2.length c2_2 (encB x2_2)] F (codec_last_Snap_Snaps_c2.f xp0_0 xp0_1 xp0_2 x2_0 x2_1 x2_2) (fun (r : Int × Int × List UInt8 × Int) (y : Option Addr × Nat) => .tuple #[.agg #[.int .i64 r.1, .int .i64 r.2.1, .slice y.1 r.2.2.1.length y.2], .int .i64 r.2.2.2]) (fun r y => [Row 5 1 y.1 r.2.2.1.length y.2 (encB r.2.2.1), obj bp0 217 [.slice ap0_0 xp0_0.length cp0_0, .int .i64 xp0_1, .int .i64 xp0_2]]) := by
 unfold codec_last_Snap_Snaps_c2.f
 refine fn_intro 22 Tryz.func136 rfl Tryz.ntmps136 rfl ?_
 refine sr ?_
 refine simL_eff (re_box rfl rfl rfl) rfl rfl rfl ?_
 intro b1v
 refine simL_eff (re_alloc rfl Tryz.zeroValue27 rfl) rfl rfl rfl ?_
 intro b2v
 refine va rfl rfl (nx ?_)
 refine vm rfl rfl ?_
 refine simL_bind (fun s3v hs4v => ?_)
 refine simL_eff (re_call (vs := [.pointer (some ⟨bp0, 0, none⟩)]) (cap := []) (A := [obj bp0 217 [.slice ap0_0 xp0_0.length cp0_0, .int .i64 xp0_1, .int .i64 xp0_2]]) (rst := [obj b2v 27 [.int .i64 0, .int .i64 0, .slice none 0 0], obj b1v 27 [.int .i64 x2_0, .int .i64 x2_1, .slice a2_2 x2_2.length c2_2], Row 5 1 a2_2 x2_2.length c2_2 (encB x2_2), F]) rfl rfl rfl rfl rfl rfl Tryz.call173 (.sel 2 rfl (.sel 0 rfl (.sel 0 rfl (.sel 0 rfl (.sel 0 rfl (.nil _)))))) (wire_Reader_Done.calls _ _ bp0 ap0_0 cp0_0 xp0_0 xp0_1 xp0_2 (hp0_0.lend 3 rfl) hcp0_0 hmp0_0) hs4v) rfl rfl rfl ?_
 intro y5v
 refine va rfl rfl (simL_nil (nrm_then ?_))
 refine sim_cut (S := Int) (Unit) (fun s y => [(5, .pointer (some ⟨b1v, 0, none⟩)), (6, .pointer (some ⟨b2v, 0, none⟩)), (8, .int .i64 s)]) (fun s y => [obj bp0 217 [.slice ap0_0 xp0_0.length cp0_0, .int .i64 xp0_1, .int .i64 xp0_2], obj b2v 27 [.int .i64 0, .int .i64 0, .slice none 0 0], obj b1v 27 [.int .i64 x2_0, .int .i64 x2_1, .slice a2_2 x2_2.length c2_2], Row 5 1 a2_2 x2_2.length c2_2 (encB x2_2), F]) ?_ ?_
 refine sr ?_
 refine vm rfl rfl ?_
 refine vq (q_eql rfl rfl rfl) rfl (simL_nil (nrm_then ?_))
 refine sim_cond rfl (fun h8v => ?_) (fun h9v => ?_)
 refine sim_region ?_
 refine vm rfl rfl ?_
 refine vq (q_loado 2 rfl rfl Tryz.isAgg27 Tryz.sizeOf27 rfl rfl) rfl ?_
 refine simL_bind (fun s14v hs15v => ?_)
 refine simL_lend 3 rfl (fun hq10v hq11v hq12v hq13v => ?_)
 refine simL_eff (re_invoke (vs := [.agg #[.int .i64 x2_0, .int .i64 x2_1, .slice a2_2 x2_2.length c2_2]]) (A := []) (rst := [obj bp0 217 [.slice ap0_0 xp0_0.length cp0_0, .int .i64 xp0_1, .int .i64 xp0_2], obj b2v 27 [.int .i64 0, .int .i64 0, .slice none 0 0], obj b1v 27 [.int .i64 x2_0, .int .i64 x2_1, .slice a2_2 x2_2.length c2_2], Row 5 1 a2_2 x2_2.length c2_2 (encB x2_2), F]) rfl rfl rfl rfl rfl (fun _ => by kernel_rfl) Tryz.call72 (.sel 0 rfl (.sel 0 rfl (.sel 0 rfl (.sel 0 rfl (.sel 0 rfl (.nil _)))))) (codec_Snaps_Check.calls _ _ x2_0 x2_1 a2_2 c2_2 x2_2 (hq10v.lend 3 rfl) hq11v hq12v) hs15v) rfl rfl rfl ?_
 intro y16v
 refine va rfl rfl (simL_nil ?_)
 exact nrm_cut (s := s14v) () ⟨rfl, rfl, rfl, trivial⟩ (.sel 0 rfl (.sel 0 rfl (.sel 0 rfl (.sel 0 rfl (.sel 0 rfl (.nil _))))))
 refine sim_skip ?_
 exact nrm_cut (s := s3v) () ⟨rfl, rfl, rfl, trivial⟩ (.sel 0 rfl (.sel 0 rfl (.sel 0 rfl (.sel 0 rfl (.sel 0 rfl (.nil _))))))
 intro s6v y7v
 refine sim_seq (sr ?_)
 refine vm rfl rfl ?_
 refine vq (q_neq rfl rfl rfl) rfl (simL_nil (nrm_then ?_))
 refine sim_condn rfl (fun h17v => ?_) (fun h18v => ?_)
 refine sim_skip ?_
 refine nrm_then (sr ?_)
 refine vq (q_loado 2 rfl rfl Tryz.isAgg27 Tryz.sizeOf27 rfl rfl) rfl ?_
 refine simL_do (re_store 1 rfl rfl rfl Tryz.sizeOf27 rfl rfl (one_of (by rfl)) rfl rfl) rfl rfl ?_
 intro _
 refine va rfl rfl (simL_nil (nrm_then (sim_rtn ?_)))
 exact rtn_fnC (vs := [.agg #[.int .i64 x2_0, .int .i64 x2_1, .slice a2_2 x2_2.length c2_2], .int .i64 0]) (a2_2, c2_2) rfl ⟨⟨b2v, rfl, load_agg 1 Tryz.isAgg27 Tryz.sizeOf27 rfl rfl⟩, rfl, trivial⟩ rfl (.sel 3 rfl (.sel 0 rfl (.sel 2 rfl (.nil _))))
 refine sr ?_
 refine simL_eff (re_alloc rfl Tryz.zeroValue27 rfl) rfl rfl rfl ?_
 intro b19v
 refine nx ?_
 refine vq (q_loado 0 rfl rfl Tryz.isAgg27 Tryz.sizeOf27 rfl rfl) rfl ?_
 refine vm rfl rfl ?_
 refine simL_do (re_store 2 rfl rfl rfl Tryz.sizeOf27 rfl rfl (one_of (by rfl)) rfl rfl) rfl rfl ?_
 intro _
 refine va rfl rfl (simL_nil (nrm_then (sim_rtn ?_)))
 refine rtn_then ?_
 exact rtn_fnC (vs := [.agg #[.int .i64 0, .int .i64 0, .slice none 0 0], .int .i64 s6v]) (none, 0) rfl ⟨⟨b2v, rfl, load_agg 2 Tryz.isAgg27 Tryz.sizeOf27 rfl rfl⟩, rfl, trivial⟩ rfl (.row_nil (.sel 1 rfl (.sel 4 rfl (.nil _))))

def codec_Snaps_Get.f (k : Nat) (x1 : List UInt8) : Option (Int × Int × List UInt8 × Int) := (wire_NewReader.f x1).bind fun s3v => ((wire_Reader_Int.f k s3v.1 s3v.2.1 s3v.2.2).bind fun s10v => ((wire_Reader_Int.f k s3v.1 s10v.2.1 s10v.2.2).bind fun s17v => ((wire_Reader_Bytes.f k s3v.1 s17v.2.1 s17v.2.2 (524288 : Int)).bind fun s24v => ((codec_last_Snap_Snaps_c2.f s3v.1 s24v.2.1 s24v.2.2 s10v.1 s17v.1 s24v.1).bind fun s32v => (some (s32v.1, s32v.2.1, s32v.2.2.1, s32v.2.2.2))))))
theorem codec_Snaps_Get.calls (W : World) (F : HA) (k : Nat) (a1 : Option Addr) (c1 : Nat) (x1 : List UInt8) (h1 : Rd F a1 (encB x1)) (hc1 : x1.length ≤ c1) (hm1 : c1 ≤ maxLen) :
    Fn Tryz.prog W 88 [.agg #[], .slice a1 x1.length c1] [] F (codec_Snaps_Get.f k x1) (fun (r : Int × Int × List UInt8 × Int) (y : Option Addr × Nat) => .tuple #[.agg #[.int .i64 r.1, .int .i64 r.2.1, .slice y.1 r.2.2.1.length y.2], .int .i64 r.2.2.2]) (fun r y => [Row 5 1 y.1 r.2.2.1.length y.2 (encB r.2.2.1)]) := by
 unfold codec_Snaps_Get.f
 refine fn_intro 24 Tryz.func88 rfl Tryz.ntmps88 rfl ?_
 refine sr ?_
 refine simL_eff (re_box rfl rfl rfl) rfl rfl rfl ?_
 intro b1v
 refine simL_eff (re_alloc rfl Tryz.zeroValue27 rfl) rfl rfl rfl ?_
 intro b2v
 refine va rfl rfl (nx ?_)
 refine vm rfl rfl ?_
 refine simL_bind (fun s3v hs4v => ?_)
 refine simL_eff (re_call (vs := [.slice a1 x1.length c1]) (cap := []) (A := []) (rst := [obj b2v 27 [.int .i64 0, .int .i64 0, .slice none 0 0], obj b1v 79 [], F]) rfl rfl rfl rfl rfl rfl Tryz.call133 (.sel 0 rfl (.sel 0 rfl (.sel 0 rfl (.nil _)))) (wire_NewReader.calls _ _ a1 c1 x1 (h1.lend 2 rfl) hc1 hm1) hs4v) rfl rfl rfl ?_
 intro y5v
 refine va rfl rfl (nx ?_)
 refine vm rfl rfl ?_
 refine simL_bind (fun s10v hs11v => ?_)
 refine simL_lend 1 rfl (fun hq6v hq7v hq8v hq9v => ?_)
 refine simL_eff (re_call (vs := [.pointer (some ⟨y5v.1, 0, none⟩)]) (cap := []) (A := [obj y5v.1 217 [.slice y5v.2.1 s3v.1.length y5v.2.2, .int .i64 s3v.2.1, .int .i64 s3v.2.2]]) (rst := [Row 5 1 y5v.2.1 s3v.1.length y5v.2.2 (encB s3v.1), obj b2v 27 [.int .i64 0, .int .i64 0, .slice none 0 0], obj b1v 79 [], F]) rfl rfl rfl rfl rfl rfl Tryz.call134 (.sel 0 rfl (.sel 0 rfl (.sel 0 rfl (.sel 0 rfl (.sel 0 rfl (.nil _)))))) (wire_Reader_Int.calls _ _ k y5v.1 y5v.2.1 y5v.2.2 s3v.1 s3v.2.1 s3v.2.2 (hq6v.lend 0 rfl) hq7v hq8v) hs11v) rfl rfl rfl ?_
 intro y12v
 refine vm rfl rfl ?_
 refine simL_bind (fun s17v hs18v => ?_)
 refine simL_lend 1 rfl (fun hq13v hq14v hq15v hq16v => ?_)
 refine simL_eff (re_call (vs := [.pointer (some ⟨y5v.1, 0, none⟩)]) (cap := []) (A := [obj y5v.1 217 [.slice y5v.2.1 s3v.1.length y5v.2.2, .int .i64 s10v.2.1, .int .i64 s10v.2.2]]) (rst := [Row 5 1 y5v.2.1 s3v.1.length y5v.2.2 (encB s3v.1), obj b2v 27 [.int .i64 0, .int .i64 0, .slice none 0 0], obj b1v 79 [], F]) rfl rfl rfl rfl rfl rfl Tryz.call134 (.sel 0 rfl (.sel 0 rfl (.sel 0 rfl (.sel 0 rfl (.sel 0 rfl (.nil _)))))) (wire_Reader_Int.calls _ _ k y5v.1 y5v.2.1 y5v.2.2 s3v.1 s10v.2.1 s10v.2.2 (hq13v.lend 0 rfl) hq14v hq15v) hs18v) rfl rfl rfl ?_
 intro y19v
 refine vm rfl rfl ?_
 refine simL_bind (fun s24v hs25v => ?_)
 refine simL_lend 1 rfl (fun hq20v hq21v hq22v hq23v => ?_)
 refine simL_eff (re_call (vs := [.pointer (some ⟨y5v.1, 0, none⟩), .int .i64 524288]) (cap := []) (A := [obj y5v.1 217 [.slice y5v.2.1 s3v.1.length y5v.2.2, .int .i64 s17v.2.1, .int .i64 s17v.2.2]]) (rst := [Row 5 1 y5v.2.1 s3v.1.length y5v.2.2 (encB s3v.1), obj b2v 27 [.int .i64 0, .int .i64 0, .slice none 0 0], obj b1v 79 [], F]) rfl rfl rfl rfl rfl rfl Tryz.call135 (.sel 0 rfl (.sel 0 rfl (.sel 0 rfl (.sel 0 rfl (.sel 0 rfl (.nil _)))))) (wire_Reader_Bytes.calls _ _ k y5v.1 y5v.2.1 y5v.2.2 s3v.1 s17v.2.1 s17v.2.2 (524288 : Int) (hq20v.lend 0 rfl) hq21v hq22v) hs25v) rfl rfl rfl ?_
 intro y26v
 refine vq (q_build (v := .agg #[.int .i64 s10v.1, .int .i64 s17v.1, .slice y26v.1 s24v.1.length y26v.2]) rfl rfl (fun _ => by kernel_rfl)) rfl ?_
 refine simL_eff (re_alloc rfl Tryz.zeroValue27 rfl) rfl rfl rfl ?_
 intro b27v
 refine simL_do (re_store 0 rfl rfl rfl Tryz.sizeOf27 rfl rfl (one_of (by rfl)) rfl rfl) rfl rfl ?_
 intro _
 refine nx ?_
 refine vm rfl rfl ?_
 refine vq (q_loado 5 rfl rfl Tryz.isAgg79 Tryz.sizeOf79 rfl rfl) rfl ?_
 refine vq (q_mkif rfl rfl Tryz.underlying79 rfl) rfl ?_
 refine vq (q_loado 0 rfl rfl Tryz.isAgg27 Tryz.sizeOf27 rfl rfl) rfl ?_
 refine simL_bind (fun s32v hs33v => ?_)
 refine simL_lend 3 rfl (fun hq28v hq29v hq30v hq31v => ?_)
 refine simL_eff (re_call (vs := [.pointer (some ⟨y5v.1, 0, none⟩), .iface 79 (.agg #[]), .agg #[.int .i64 s10v.1, .int .i64 s17v.1, .slice y26v.1 s24v.1.length y26v.2]]) (cap := []) (A := [obj y5v.1 217 [.slice y5v.2.1 s3v.1.length y5v.2.2, .int .i64 s24v.2.1, .int .i64 s24v.2.2], Row 5 1 y26v.1 s24v.1.length y26v.2 (encB s24v.1)]) (rst := [obj b27v 27 [.int .i64 s10v.1, .int .i64 s17v.1, .slice y26v.1 s24v.1.length y26v.2], Row 5 1 y5v.2.1 s3v.1.length y5v.2.2 (encB s3v.1), obj b2v 27 [.int .i64 0, .int .i64 0, .slice none 0 0], obj b1v 79 [], F]) rfl rfl rfl rfl rfl rfl Tryz.call136 (.sel 2 rfl (.sel 1 rfl (.sel 0 rfl (.sel 0 rfl (.sel 0 rfl (.sel 0 rfl (.sel 0 rfl (.nil _)))))))) (codec_last_Snap_Snaps_c2.calls _ _ y5v.1 y5v.2.1 y5v.2.2 s3v.1 s24v.2.1 s24v.2.2 s10v.1 s17v.1 y26v.1 y26v.2 s24v.1 (hq28v.lend 1 rfl) hq29v hq30v) hs33v) rfl rfl rfl ?_
 intro y34v
 refine vq (q_ext rfl rfl rfl) rfl ?_
 refine vq (q_ext rfl rfl rfl) rfl ?_
 refine simL_do (re_store 4 rfl rfl rfl Tryz.sizeOf27 rfl rfl (one_of (by rfl)) rfl rfl) rfl rfl ?_
 intro _
 refine va rfl rfl (simL_nil (nrm_then (sim_rtn ?_)))
 exact rtn_fnC (vs := [.agg #[.int .i64 s32v.1, .int .i64 s32v.2.1, .slice y34v.1 s32v.2.2.1.length y34v.2], .int .i64 s32v.2.2.2]) (y34v.1, y34v.2) rfl ⟨⟨b2v, rfl, load_agg 4 Tryz.isAgg27 Tryz.sizeOf27 rfl rfl⟩, rfl, trivial⟩ rfl (.sel 0 rfl (.sel 5 rfl (.nil _)))

def snap_whole.f (k : Nat) (x0_0 : List ((List UInt8) × (List UInt8 × Int))) (x0_1 : List UInt8) (x0_2 : Int) (x0_3 : Bool) (x1 : Int) : Option (Int × Int × List UInt8 × Bool) := (snap_Name.f x1).bind fun s2v => ((disk_Disk_Read.f x0_0 x0_1 x0_2 x0_3 s2v.1).bind fun s5v => (if s5v.2 = (0 : Int) then ((frame_One.f k s5v.1).bind fun s14v => (if s14v.2 = (0 : Int) then ((codec_Snaps_Get.f k s14v.1).bind fun s23v => (some (s23v.1, s23v.2.1, s23v.2.2.1, (decide (s23v.2.2.2 = (0 : Int))) && (decide (s23v.1 = x1))))) else (some (0, 0, ([] : List UInt8), false)))) else (some (0, 0, ([] : List UInt8), false))))
theorem snap_whole.calls (W : World) (F : HA) (k : Nat) (b0 : Nat) (m0_0 : Nat) (q0_0 : Kps) (x0_0 : List ((List UInt8) × (List UInt8 × Int))) (x0_1 : List UInt8) (x0_2 : Int) (x0_3 : Bool) (x1 : Int) (hgl : Glb Tryz.prog F) :
    Fn Tryz.prog W 48 [.pointer (some ⟨b0, 0, none⟩), .int .i64 x1] [obj b0 76 [.map (some m0_0), str x0_1, .int .i64 x0_2, .bool x0_3], mapF (mapO m0_0 enc9 encP q0_0) FA89 q0_0 x0_0] F (snap_whole.f k x0_0 x0_1 x0_2 x0_3 x1) (fun (r : Int × Int × List UInt8 × Bool) (y : Option Addr × Nat) => .tuple #[.agg #[.int .i64 r.1, .int .i64 r.2.1, .slice y.1 r.2.2.1.length y.2], .bool r.2.2.2]) (fun r y => [Row 5 1 y.1 r.2.2.1.length y.2 (encB r.2.2.1), obj b0 76 [.map (some m0_0), str x0_1, .int .i64 x0_2, .bool x0_3], mapF (mapO m0_0 enc9 encP q0_0) FA89 q0_0 x0_0]) := by
 unfold snap_whole.f
 refine fn_intro 49 Tryz.func48 rfl Tryz.ntmps48 rfl ?_
 refine sr ?_
 refine simL_eff (re_alloc rfl Tryz.zeroValue27 rfl) rfl rfl rfl ?_
 intro b1v
 refine va rfl rfl (nx ?_)
 refine vm rfl rfl ?_
 refine simL_bind (fun s2v hs3v => ?_)
 refine simL_eff (re_call (vs := [.int .i64 x1]) (cap := []) (A := []) (rst := [obj b1v 27 [.int .i64 0, .int .i64 0, .slice none 0 0], obj b0 76 [.map (some m0_0), str x0_1, .int .i64 x0_2, .bool x0_3], mapF (mapO m0_0 enc9 encP q0_0) FA89 q0_0 x0_0, F]) rfl rfl rfl rfl rfl rfl Tryz.call11 (.sel 0 rfl (.sel 0 rfl (.sel 0 rfl (.sel 0 rfl (.nil _))))) (snap_Name.calls _ _ x1 (hgl.lend 3 rfl)) hs3v) rfl rfl rfl ?_
 intro y4v
 refine vm rfl rfl ?_
 refine vq (q_ext rfl rfl rfl) rfl ?_
 refine vq (q_ext rfl rfl rfl) rfl ?_
 refine va rfl rfl ?_
 refine va rfl rfl (nx ?_)
 refine vm rfl rfl ?_
 refine vm rfl rfl ?_
 refine simL_bind (fun s5v hs6v => ?_)
 refine simL_eff (re_call (vs := [.pointer (some ⟨b0, 0, none⟩), str s2v.1]) (cap := []) (A := [obj b0 76 [.map (some m0_0), str x0_1, .int .i64 x0_2, .bool x0_3], mapF (mapO m0_0 enc9 encP q0_0) FA89 q0_0 x0_0]) (rst := [obj b1v 27 [.int .i64 0, .int .i64 0, .slice none 0 0], F]) rfl rfl rfl rfl rfl rfl Tryz.call86 (.sel 1 rfl (.sel 1 rfl (.sel 0 rfl (.sel 0 rfl (.nil _))))) (disk_Disk_Read.calls _ _ b0 m0_0 q0_0 x0_0 x0_1 x0_2 x0_3 s2v.1 ) hs6v) rfl rfl rfl ?_
 intro y7v
 refine vm rfl rfl ?_
 refine vq (q_ext rfl rfl rfl) rfl ?_
 refine vq (q_ext rfl rfl rfl) rfl ?_
 refine va rfl rfl ?_
 refine va rfl rfl (simL_nil (nrm_then (sim_seq (sr ?_))))
 refine vm rfl rfl ?_
 refine vq (q_neq rfl rfl rfl) rfl (simL_nil (nrm_then ?_))
 refine sim_condn rfl (fun h8v => ?_) (fun h9v => ?_)
 refine sim_skip ?_
 refine nrm_then (sr ?_)
 refine vm rfl rfl ?_
 refine simL_bind (fun s14v hs15v => ?_)
 refine simL_lend 0 rfl (fun hq10v hq11v hq12v hq13v => ?_)
 refine simL_eff (re_call (vs := [.slice y7v.1 s5v.1.length y7v.2]) (cap := []) (A := []) (rst := [Row 5 1 y7v.1 s5v.1.length y7v.2 (encB s5v.1), obj b0 76 [.map (some m0_0), str x0_1, .int .i64 x0_2, .bool x0_3], mapF (mapO m0_0 enc9 encP q0_0) FA89 q0_0 x0_0, obj b1v 27 [.int .i64 0, .int .i64 0, .slice none 0 0], F]) rfl rfl rfl rfl rfl rfl Tryz.call87 (.sel 0 rfl (.sel 0 rfl (.sel 0 rfl (.sel 0 rfl (.sel 0 rfl (.nil _)))))) (frame_One.calls _ _ k y7v.1 y7v.2 s5v.1 (hq10v.lend 0 rfl) hq11v hq12v) hs15v) rfl rfl rfl ?_
 intro y16v
 refine vm rfl rfl ?_
 refine vq (q_ext rfl rfl rfl) rfl ?_
 refine vq (q_ext rfl rfl rfl) rfl ?_
 refine va rfl rfl ?_
 refine va rfl rfl (simL_nil (nrm_then (sim_seq (sr ?_))))
 refine vm rfl rfl ?_
 refine vq (q_neq rfl rfl rfl) rfl (simL_nil (nrm_then ?_))
 refine sim_condn rfl (fun h17v => ?_) (fun h18v => ?_)
 refine sim_skip ?_
 refine nrm_then (sr ?_)
 refine vq (q_build (v := .agg #[]) rfl rfl (fun _ => by kernel_rfl)) rfl ?_
 refine vm rfl rfl ?_
 refine simL_bind (fun s23v hs24v => ?_)
 refine simL_lend 0 rfl (fun hq19v hq20v hq21v hq22v => ?_)
 refine simL_eff (re_call (vs := [.agg #[], .slice y16v.1 s14v.1.length y16v.2]) (cap := []) (A := []) (rst := [Row 5 1 y16v.1 s14v.1.length y16v.2 (encB s14v.1), Row 5 1 y7v.1 s5v.1.length y7v.2 (encB s5v.1), obj b0 76 [.map (some m0_0), str x0_1, .int .i64 x0_2, .bool x0_3], mapF (mapO m0_0 enc9 encP q0_0) FA89 q0_0 x0_0, obj b1v 27 [.int .i64 0, .int .i64 0, .slice none 0 0], F]) rfl rfl rfl rfl rfl rfl Tryz.call88 (.sel 0 rfl (.sel 0 rfl (.sel 0 rfl (.sel 0 rfl (.sel 0 rfl (.sel 0 rfl (.nil _))))))) (codec_Snaps_Get.calls _ _ k y16v.1 y16v.2 s14v.1 (hq19v.lend 0 rfl) hq20v hq21v) hs24v) rfl rfl rfl ?_
 intro y25v
 refine vm rfl rfl ?_
 refine vq (q_ext rfl rfl rfl) rfl ?_
 refine vq (q_ext rfl rfl rfl) rfl ?_
 refine simL_eff (re_alloc rfl Tryz.zeroValue27 rfl) rfl rfl rfl ?_
 intro b26v
 refine simL_do (re_store 0 rfl rfl rfl Tryz.sizeOf27 rfl rfl (one_of (by rfl)) rfl rfl) rfl rfl ?_
 intro _
 refine va rfl rfl (simL_nil (nrm_then (sim_seq ?_)))
 refine sim_draw (Γ := Unit) () [[], [], [1], [1, 2], [1, 2, 3], [1, 2, 3, 4], [1, 2, 3], [1, 2, 3, 4, 5, 6], [1, 2, 3, 4, 5, 6, 7], rL 4, rL 10] [9] [0, 1, 2, 3, 4, 5, 6, 7, 8, 10] (fun i => [[0], [0], [0], [0], [0, 1], [0, 1], [0, 1], [0, 1], [0, 1], [], [1]].getD i []) (fun i => [[], [], [], [], [], [], [], [], [], rL 9, []].getD i []) (fun γ i => [.agg #[.int .i64 s23v.1, .int .i64 s23v.2.1, .slice y25v.1 s23v.2.2.1.length y25v.2], .int .i64 s23v.2.2.2, .bool (decide (s23v.2.2.2 = (0 : Int))), .bool (decide (s23v.2.2.2 = (0 : Int))), cv ((decide (s23v.2.2.2 = (0 : Int))) == true) (.pointer (some ⟨b26v, 0, none⟩)), cv ((decide (s23v.2.2.2 = (0 : Int))) == true) (.int .i64 s23v.1), cv ((decide (s23v.2.2.2 = (0 : Int))) == true) (.int .i64 x1), cv ((decide (s23v.2.2.2 = (0 : Int))) == true) (.bool (decide (s23v.1 = x1))), .bool ((decide (s23v.2.2.2 = (0 : Int))) && (decide (s23v.1 = x1))), undef, .bool ((decide (s23v.2.2.2 = (0 : Int))) && (decide (s23v.1 = x1)))].getD i undef) (fun j γ => [[obj b26v 27 [.int .i64 s23v.1, .int .i64 s23v.2.1, .slice y25v.1 s23v.2.2.1.length y25v.2], Row 5 1 y25v.1 s23v.2.2.1.length y25v.2 (encB s23v.2.2.1), Row 5 1 y16v.1 s14v.1.length y16v.2 (encB s14v.1), Row 5 1 y7v.1 s5v.1.length y7v.2 (encB s5v.1), obj b0 76 [.map (some m0_0), str x0_1, .int .i64 x0_2, .bool x0_3], mapF (mapO m0_0 enc9 encP q0_0) FA89 q0_0 x0_0, obj b1v 27 [.int .i64 0, .int .i64 0, .slice none 0 0], F], [obj b26v 27 [.int .i64 s23v.1, .int .i64 s23v.2.1, .slice y25v.1 s23v.2.2.1.length y25v.2], Row 5 1 y25v.1 s23v.2.2.1.length y25v.2 (encB s23v.2.2.1), Row 5 1 y16v.1 s14v.1.length y16v.2 (encB s14v.1), Row 5 1 y7v.1 s5v.1.length y7v.2 (encB s5v.1), obj b0 76 [.map (some m0_0), str x0_1, .int .i64 x0_2, .bool x0_3], mapF (mapO m0_0 enc9 encP q0_0) FA89 q0_0 x0_0, obj b1v 27 [.int .i64 s23v.1, .int .i64 s23v.2.1, .slice y25v.1 s23v.2.2.1.length y25v.2], F]].getD j []) (fun γ => [(4, .pointer (some ⟨b1v, 0, none⟩)), (5, .bool ((decide (s23v.2.2.2 = (0 : Int))) && (decide (s23v.1 = x1))))]) mixed (by decide) (by decide) (by decide) (by decide) (by decide) (by decide) (by decide) 49 rfl (by decide) (by decide) (by decide) (Ent.refl _) ?_ ?_ (fun _ => ⟨rfl, rfl, trivial⟩) ?_
 exact (aq rfl (fun γ => qp rfl rfl (.o (s := 11) rfl (by decide) .nil) (q_loado 0 rfl rfl Tryz.isAgg27 Tryz.sizeOf27 rfl rfl) rfl) (aq rfl (fun γ => qm rfl (.o (s := 9) rfl (by decide) .nil) rfl) (aq rfl (fun γ => qp rfl rfl (.v 1 rfl rfl .nil) (q_eql rfl rfl rfl) rfl) (aq rfl (fun γ => qm rfl (.v 2 rfl rfl .nil) rfl) (ac (fun γ => (ac (QOb.grd (b := decide (s23v.2.2.2 = (0 : Int))) [(11, .pointer (some ⟨b26v, 0, none⟩)), (43, .bool (decide (s23v.2.2.2 = (0 : Int))))] rfl rfl rfl rfl (.o (s := 11) rfl (by decide) (.v 3 rfl rfl .nil)) (fun hb27v => RQ.sub (E' := [(11, .pointer (some ⟨b26v, 0, none⟩))]) ⟨rfl, trivial⟩ (q_fa rfl rfl Tryz.underlying27 rfl rfl Tryz.sizeOf3 rfl)) rfl) (ac (QOb.grd (b := decide (s23v.2.2.2 = (0 : Int))) [(11, .pointer (some ⟨b26v, 0, none⟩)), (43, .bool (decide (s23v.2.2.2 = (0 : Int))))] rfl rfl rfl rfl (.o (s := 11) rfl (by decide) (.v 3 rfl rfl .nil)) (fun hb28v => RQ.sub (E' := [(11, .pointer (some ⟨b26v, 0, none⟩))]) ⟨rfl, trivial⟩ (q_fa rfl rfl Tryz.underlying27 rfl rfl Tryz.sizeOf3 rfl)) rfl) zA))) (ac (fun γ => (ac (QOb.grd (b := decide (s23v.2.2.2 = (0 : Int))) [(43, .bool (decide (s23v.2.2.2 = (0 : Int)))), (44, cv ((decide (s23v.2.2.2 = (0 : Int))) == true) (.pointer (some ⟨b26v, 0, none⟩)))] rfl rfl rfl rfl (.v 3 rfl rfl (.v 4 rfl rfl .nil)) (fun hb29v => RQ.sub (E' := [(44, .pointer (some ⟨b26v, 0, none⟩))]) ⟨lk_cv rfl hb29v, trivial⟩ (q_load rfl rfl Tryz.isAgg3 (.obj 0 rfl rfl))) rfl) (ac (QOb.grd (b := decide (s23v.2.2.2 = (0 : Int))) [(43, .bool (decide (s23v.2.2.2 = (0 : Int)))), (44, cv ((decide (s23v.2.2.2 = (0 : Int))) == true) (.pointer (some ⟨b26v, 0, none⟩)))] rfl rfl rfl rfl (.v 3 rfl rfl (.v 4 rfl rfl .nil)) (fun hb30v => RQ.sub (E' := [(44, .pointer (some ⟨b26v, 0, none⟩))]) ⟨lk_cv rfl hb30v, trivial⟩ (q_load rfl rfl Tryz.isAgg3 (.obj 0 rfl rfl))) rfl) zA))) (ac (fun γ => (ac (QOb.grd (b := decide (s23v.2.2.2 = (0 : Int))) [(1, .int .i64 x1), (43, .bool (decide (s23v.2.2.2 = (0 : Int))))] rfl rfl rfl rfl (.o (s := 1) rfl (by decide) (.v 3 rfl rfl .nil)) (fun hb31v => RQ.sub (E' := [(1, .int .i64 x1)]) ⟨rfl, trivial⟩ (q_move rfl rfl)) rfl) (ac (QOb.grd (b := decide (s23v.2.2.2 = (0 : Int))) [(1, .int .i64 x1), (43, .bool (decide (s23v.2.2.2 = (0 : Int))))] rfl rfl rfl rfl (.o (s := 1) rfl (by decide) (.v 3 rfl rfl .nil)) (fun hb32v => RQ.sub (E' := [(1, .int .i64 x1)]) ⟨rfl, trivial⟩ (q_move rfl rfl)) rfl) zA))) (ac (fun γ => (ac (QOb.grd (b := decide (s23v.2.2.2 = (0 : Int))) [(43, .bool (decide (s23v.2.2.2 = (0 : Int)))), (45, cv ((decide (s23v.2.2.2 = (0 : Int))) == true) (.int .i64 s23v.1)), (46, cv ((decide (s23v.2.2.2 = (0 : Int))) == true) (.int .i64 x1))] rfl rfl rfl rfl (.v 3 rfl rfl (.v 5 rfl rfl (.v 6 rfl rfl .nil))) (fun hb33v => RQ.sub (E' := [(45, .int .i64 s23v.1), (46, .int .i64 x1)]) ⟨lk_cv rfl hb33v, lk_cv rfl hb33v, trivial⟩ (q_eql rfl rfl rfl)) rfl) (ac (QOb.grd (b := decide (s23v.2.2.2 = (0 : Int))) [(43, .bool (decide (s23v.2.2.2 = (0 : Int)))), (45, cv ((decide (s23v.2.2.2 = (0 : Int))) == true) (.int .i64 s23v.1)), (46, cv ((decide (s23v.2.2.2 = (0 : Int))) == true) (.int .i64 x1))] rfl rfl rfl rfl (.v 3 rfl rfl (.v 5 rfl rfl (.v 6 rfl rfl .nil))) (fun hb34v => RQ.sub (E' := [(45, .int .i64 s23v.1), (46, .int .i64 x1)]) ⟨lk_cv rfl hb34v, lk_cv rfl hb34v, trivial⟩ (q_eql rfl rfl rfl)) rfl) zA))) (ac (fun γ => (ac (qp rfl rfl (.v 3 rfl rfl (.v 7 rfl rfl .nil)) (q_and rfl rfl rfl) rfl) (ac (qp rfl rfl (.v 3 rfl rfl (.v 7 rfl rfl .nil)) (q_and rfl rfl rfl) rfl) zA))) (aq rfl (fun γ => qp rfl rfl (.v 8 rfl rfl .nil) (q_asg rfl rfl) rfl) zA))))))))))
 exact (ac (fun γ => eo (Z := Unit) (fun z => ()) rfl rfl (.o (s := 4) rfl (by decide) (.v 0 rfl rfl .nil)) (re_store 6 rfl rfl rfl Tryz.sizeOf27 rfl rfl (one_of (by rfl)) rfl rfl) (fun _ => ⟨rfl, rfl, rfl, rfl, rfl, rfl, rfl, rfl, rfl, trivial⟩) (fun _ => .inl rfl) (fun z => Ent.refl _)) zA)
 intro g35v
 refine nrm_then (sim_rtn ?_)
 exact rtn_fnC (vs := [.agg #[.int .i64 s23v.1, .int .i64 s23v.2.1, .slice y25v.1 s23v.2.2.1.length y25v.2], .bool ((decide (s23v.2.2.2 = (0 : Int))) && (decide (s23v.1 = x1)))]) (y25v.1, y25v.2) rfl ⟨⟨b1v, rfl, load_agg 6 Tryz.isAgg27 Tryz.sizeOf27 rfl rfl⟩, rfl, trivial⟩ rfl (.sel 1 rfl (.sel 3 rfl (.sel 3 rfl (.sel 4 rfl (.nil _)))))
 refine sr ?_
 refine vq (q_build (v := .agg #[.int .i64 0, .int .i64 0, .slice none 0 0]) rfl rfl (fun _ => by kernel_rfl)) rfl ?_
 refine simL_do (re_store 4 rfl rfl rfl Tryz.sizeOf27 rfl rfl (one_of (by rfl)) rfl rfl) rfl rfl ?_
 intro _
 refine va rfl rfl (simL_nil (nrm_then (sim_rtn ?_)))
 refine rtn_then ?_
 exact rtn_fnC (vs := [.agg #[.int .i64 0, .int .i64 0, .slice none 0 0], .bool false]) (none, 0) rfl ⟨⟨b1v, rfl, load_agg 4 Tryz.isAgg27 Tryz.sizeOf27 rfl rfl⟩, rfl, trivial⟩ rfl (.row_nil (.sel 2 rfl (.sel 2 rfl (.sel 3 rfl (.nil _)))))
 refine sr ?_
 refine vq (q_build (v := .agg #[.int .i64 0, .int .i64 0, .slice none 0 0]) rfl rfl (fun _ => by kernel_rfl)) rfl ?_
 refine simL_do (re_store 3 rfl rfl rfl Tryz.sizeOf27 rfl rfl (one_of (by rfl)) rfl rfl) rfl rfl ?_
 intro _
 refine va rfl rfl (simL_nil (nrm_then (sim_rtn ?_)))
 refine rtn_then ?_
 exact rtn_fnC (vs := [.agg #[.int .i64 0, .int .i64 0, .slice none 0 0], .bool false]) (none, 0) rfl ⟨⟨b1v, rfl, load_agg 3 Tryz.isAgg27 Tryz.sizeOf27 rfl rfl⟩, rfl, trivial⟩ rfl (.row_nil (.sel 1 rfl (.sel 1 rfl (.sel 2 rfl (.nil _)))))

theorem slices_Reverse47.calls (W : World) (F : HA) (a0 : Option Addr) (c0 : Nat) (x0 : List Int) :
    Fn Tryz.prog W 47 [.slice a0 x0.length c0] [RowV 3 1 (V3 tt) a0 x0 c0] F (some ()) (fun (r : Unit) (y : Unit) => .tuple #[]) (fun r y => [RowV 3 1 (V3 tt) a0 (List.reverse x0) c0]) :=
  fn_reverse (fun x r h => by first | exact h | simpa [V3] using h) (fun x => by first | rfl | simp [V3]) (fun blk off w h1 h2 => Any.slices_Reverse_int shL112 blk off c0 x0 w h2 h1) (fun w => Any.slices_Reverse_int_empty shL112 none c0 w)

def snap_Load.l0 (x0_0 : List ((List UInt8) × (List UInt8 × Int))) (x0_1 : List UInt8) (x0_2 : Int) (x0_3 : Bool) (s2v : List Int) : Nat → Int → Option ((Unit) ⊕ (Int × Int × List UInt8 × Int × Int))
  | 0, _ => none
  | k + 1, z9v => if z9v < ((List.reverse s2v).length : Int) then (if 0 ≤ z9v ∧ z9v < ((List.reverse s2v).length : Int) then ((snap_whole.f k x0_0 x0_1 x0_2 x0_3 ((List.reverse s2v).getD z9v.toNat (0 : Int))).bind fun s22v => (if s22v.2.2.2 = true then (some (.inr (s22v.1, s22v.2.1, s22v.2.2.1, z9v, 0))) else (snap_Load.l0 x0_0 x0_1 x0_2 x0_3 s2v k (IntKind.i64.wrap (z9v + 1))))) else none) else (some (.inl ()))
def snap_Load.f (k : Nat) (x0_0 : List ((List UInt8) × (List UInt8 × Int))) (x0_1 : List UInt8) (x0_2 : Int) (x0_3 : Bool) : Option (Int × Int × List UInt8 × Int × Int) := (snap_List.f k x0_0 x0_1 x0_2 x0_3).bind fun s2v => (orR (snap_Load.l0 x0_0 x0_1 x0_2 x0_3 s2v k 0) fun s5v => (some (0, 0, ([] : List UInt8), 0, 8)))
theorem snap_Load.calls (W : World) (F : HA) (k : Nat) (b0 : Nat) (m0_0 : Nat) (q0_0 : Kps) (x0_0 : List ((List UInt8) × (List UInt8 × Int))) (x0_1 : List UInt8) (x0_2 : Int) (x0_3 : Bool) (hgl : Glb Tryz.prog F) :
    Fn Tryz.prog W 15 [.pointer (some ⟨b0, 0, none⟩)] [obj b0 76 [.map (some m0_0), str x0_1, .int .i64 x0_2, .bool x0_3], mapF (mapO m0_0 enc9 encP q0_0) FA89 q0_0 x0_0] F (snap_Load.f k x0_0 x0_1 x0_2 x0_3) (fun (r : Int × Int × List UInt8 × Int × Int) (y : Option Addr × Nat) => .tuple #[.agg #[.int .i64 r.1, .int .i64 r.2.1, .slice y.1 r.2.2.1.length y.2], .int .i64 r.2.2.2.1, .int .i64 r.2.2.2.2]) (fun r y => [Row 5 1 y.1 r.2.2.1.length y.2 (encB r.2.2.1), obj b0 76 [.map (some m0_0), str x0_1, .int .i64 x0_2, .bool x0_3], mapF (mapO m0_0 enc9 encP q0_0) FA89 q0_0 x0_0]) := by
 unfold snap_Load.f
 refine fn_intro 32 Tryz.func15 rfl Tryz.ntmps15 rfl ?_
 refine sr ?_
 refine simL_eff (re_alloc rfl Tryz.zeroValue27 rfl) rfl rfl rfl ?_
 intro b1v
 refine va rfl rfl ?_
 refine va rfl rfl (nx ?_)
 refine vm rfl rfl ?_
 refine simL_bind (fun s2v hs3v => ?_)
 refine simL_eff (re_call (vs := [.pointer (some ⟨b0, 0, none⟩)]) (cap := []) (A := [obj b0 76 [.map (some m0_0), str x0_1, .int .i64 x0_2, .bool x0_3], mapF (mapO m0_0 enc9 encP q0_0) FA89 q0_0 x0_0]) (rst := [obj b1v 27 [.int .i64 0, .int .i64 0, .slice none 0 0], F]) rfl rfl rfl rfl rfl rfl Tryz.call14 (.sel 1 rfl (.sel 1 rfl (.sel 0 rfl (.sel 0 rfl (.nil _))))) (snap_List.calls _ _ k b0 m0_0 q0_0 x0_0 x0_1 x0_2 x0_3 (hgl.lend 1 rfl)) hs3v) rfl rfl rfl ?_
 intro y4v
 refine va rfl rfl (nx ?_)
 refine vm rfl rfl ?_
 refine simL_eff (re_call (vs := [.slice y4v.1 s2v.length y4v.2]) (cap := []) (A := [RowV 3 1 (V3 tt) y4v.1 s2v y4v.2]) (rst := [obj b0 76 [.map (some m0_0), str x0_1, .int .i64 x0_2, .bool x0_3], mapF (mapO m0_0 enc9 encP q0_0) FA89 q0_0 x0_0, obj b1v 27 [.int .i64 0, .int .i64 0, .slice none 0 0], F]) rfl rfl rfl rfl rfl rfl Tryz.call47 (.sel 0 rfl (.sel 0 rfl (.sel 0 rfl (.sel 0 rfl (.sel 0 rfl (.nil _)))))) (slices_Reverse47.calls _ _ y4v.1 y4v.2 s2v) rfl) rfl rfl rfl ?_
 intro y28v
 refine simL_ren (.slice y4v.1 ((List.reverse s2v).length) y4v.2) (d := 11) rfl (slc_len (by simp)) ?_
 refine simL_ren (.slice y4v.1 ((List.reverse s2v).length) y4v.2) (d := 5) rfl (slc_len (by simp)) ?_
 refine simL_ren (.slice y4v.1 ((List.reverse s2v).length) y4v.2) (d := 12) rfl (slc_len (by simp)) ?_
 refine simL_nil (nrm_then ?_)
 refine sim_cutR (S := Unit) (Unit) (fun s y => [(2, .pointer (some ⟨b1v, 0, none⟩))]) (fun s y => [obj b0 76 [.map (some m0_0), str x0_1, .int .i64 x0_2, .bool x0_3], obj b1v 27 [.int .i64 0, .int .i64 0, .slice none 0 0], mapF (mapO m0_0 enc9 encP q0_0) FA89 q0_0 x0_0, F]) ?_ ?_
 refine sr ?_
 refine vm rfl rfl ?_
 refine vq (q_len rfl rfl rfl Tryz.underlying23) rfl ?_
 refine vm rfl rfl (simL_nil (nrm_then ?_))
 refine sim_block ?_
 refine sim_loop (S := Int) (Unit) (fun k s => snap_Load.l0 x0_0 x0_1 x0_2 x0_3 s2v k s) (fun s y => [(0, .pointer (some ⟨b0, 0, none⟩)), (2, .pointer (some ⟨b1v, 0, none⟩)), (14, .slice y4v.1 ((List.reverse s2v).length) y4v.2), (15, .int .i64 ((List.reverse s2v).length : Int)), (16, .int .i64 s)]) (fun s y => [obj b0 76 [.map (some m0_0), str x0_1, .int .i64 x0_2, .bool x0_3], obj b1v 27 [.int .i64 0, .int .i64 0, .slice none 0 0], RowV 3 1 (V3 tt) y4v.1 (List.reverse s2v) y4v.2, mapF (mapO m0_0 enc9 encP q0_0) FA89 q0_0 x0_0, F]) (fun _ => by rw [snap_Load.l0]) ?_ k 0 () ⟨rfl, rfl, rfl, rfl, rfl, trivial⟩ (.sel 1 rfl (.sel 2 rfl (.sel 0 rfl (.sel 0 rfl (.sel 0 rfl (.nil _))))))
 intro k s7v y8v
 refine sim_eq (by rw [snap_Load.l0]) ?_
 refine sr ?_
 refine vq (q_lss rfl rfl rfl) rfl (simL_nil (nrm_then (sim_seq ?_)))
 refine sim_cond rfl (fun h10v => ?_) (fun h11v => ?_)
 refine sim_skip ?_
 refine nrm_then (sim_seq ?_)
 refine sim_block ?_
 refine sr ?_
 refine vm rfl rfl ?_
 refine simL_openV 2 rfl (fun rs20v hl21v => ?_)
 refine simL_ask (fun hi12v => ?_)
 refine simL_posV 2 rfl hl21v rfl (i := s7v.toNat) (by omega) (0 : Int) (fun b13v b13vo r16v ha14v hV17v hlr18v hcell19v => ?_)
 obtain rfl := hV17v
 refine vq (q_idx rfl rfl rfl ha14v Tryz.underlying23 Tryz.sizeOf3 hi12v.1 hi12v.2) rfl ?_
 refine vq (q_load rfl rfl Tryz.isAgg3 (hcell19v 2 rfl 0 _ rfl)) rfl ?_
 refine va rfl rfl ?_
 refine va rfl rfl (nx ?_)
 refine vm rfl rfl ?_
 refine vm rfl rfl ?_
 refine simL_bind (fun s22v hs23v => ?_)
 refine simL_eff (re_call (vs := [.pointer (some ⟨b0, 0, none⟩), .int .i64 ((List.reverse s2v).getD s7v.toNat (0 : Int))]) (cap := []) (A := [obj b0 76 [.map (some m0_0), str x0_1, .int .i64 x0_2, .bool x0_3], mapF (mapO m0_0 enc9 encP q0_0) FA89 q0_0 x0_0]) (rst := [obj b1v 27 [.int .i64 0, .int .i64 0, .slice none 0 0], Row 3 1 y4v.1 (List.reverse s2v).length y4v.2 rs20v.flatten, F]) rfl rfl rfl rfl rfl rfl Tryz.call48 (.sel 0 rfl (.sel 2 rfl (.sel 0 rfl (.sel 0 rfl (.sel 0 rfl (.nil _)))))) (snap_whole.calls _ _ k b0 m0_0 q0_0 x0_0 x0_1 x0_2 x0_3 ((List.reverse s2v).getD s7v.toNat (0 : Int)) (hgl.lend 2 rfl)) hs23v) rfl rfl rfl ?_
 intro y24v
 refine vm rfl rfl ?_
 refine vq (q_ext rfl rfl rfl) rfl ?_
 refine vq (q_ext rfl rfl rfl) rfl ?_
 refine simL_eff (re_alloc rfl Tryz.zeroValue27 rfl) rfl rfl rfl ?_
 intro b25v
 refine simL_do (re_store 0 rfl rfl rfl Tryz.sizeOf27 rfl rfl (one_of (by rfl)) rfl rfl) rfl rfl ?_
 intro _
 refine va rfl rfl (nx ?_)
 refine vm rfl rfl (simL_nil (nrm_then ?_))
 refine sim_condb rfl (fun h26v => ?_) (fun h27v => ?_)
 refine sr ?_
 refine vq (q_loado 0 rfl rfl Tryz.isAgg27 Tryz.sizeOf27 rfl rfl) rfl ?_
 refine vm rfl rfl ?_
 refine simL_do (re_store 4 rfl rfl rfl Tryz.sizeOf27 rfl rfl (one_of (by rfl)) rfl rfl) rfl rfl ?_
 intro _
 refine va rfl rfl ?_
 refine va rfl rfl (simL_nil (nrm_then (sim_rtn ?_)))
 refine rtn_block ?_
 refine rtn_then ?_
 refine rtn_loop ?_
 refine rtn_block ?_
 refine rtn_cutR ?_
 exact rtn_fnC (vs := [.agg #[.int .i64 s22v.1, .int .i64 s22v.2.1, .slice y24v.1 s22v.2.2.1.length y24v.2], .int .i64 s7v, .int .i64 0]) (y24v.1, y24v.2) rfl ⟨⟨b1v, rfl, load_agg 4 Tryz.isAgg27 Tryz.sizeOf27 rfl rfl⟩, rfl, rfl, trivial⟩ rfl (.sel 1 rfl (.sel 1 rfl (.sel 1 rfl (.sel 3 rfl (.nil _)))))
 refine sim_skip ?_
 refine nrm_block (nrm_then (sim_region ?_))
 refine vq (q_add rfl rfl rfl) rfl ?_
 refine vm rfl rfl (simL_nil ?_)
 exact nrm_again (s := IntKind.i64.wrap (s7v + 1)) () ⟨rfl, rfl, rfl, rfl, rfl, trivial⟩ (.sel 2 rfl (.sel 3 rfl (.sel' 3 rfl (RowV.mk hl21v) (.sel 2 rfl (.sel 2 rfl (.nil _))))))
 refine sim_exi ?_
 refine exi_then ?_
 refine exi_loop ?_
 refine exi_here ?_
 exact nrm_cutR (s := ()) () ⟨rfl, trivial⟩ (.sel 0 rfl (.sel 0 rfl (.sel 1 rfl (.sel 1 rfl (.nil _)))))
 intro s5v y6v
 refine sr ?_
 refine vq (q_build (v := .agg #[.int .i64 0, .int .i64 0, .slice none 0 0]) rfl rfl (fun _ => by kernel_rfl)) rfl ?_
 refine simL_do (re_store 1 rfl rfl rfl Tryz.sizeOf27 rfl rfl (one_of (by rfl)) rfl rfl) rfl rfl ?_
 intro _
 refine va rfl rfl ?_
 refine va rfl rfl (simL_nil (nrm_then (sim_rtn ?_)))
 exact rtn_fnC (vs := [.agg #[.int .i64 0, .int .i64 0, .slice none 0 0], .int .i64 0, .int .i64 8]) (none, 0) rfl ⟨⟨b1v, rfl, load_agg 1 Tryz.isAgg27 Tryz.sizeOf27 rfl rfl⟩, rfl, rfl, trivial⟩ rfl (.row_nil (.sel 0 rfl (.sel 1 rfl (.sel 1 rfl (.nil _)))))

def wire_Size.l0 : Nat → Int → Int → Option (Int)
  | 0, _, _ => none
  | k + 1, z7v, z8v => if (128 : Int) ≤ z7v then (wire_Size.l0 k (Int.fdiv z7v (2 ^ (min (7 : Int).toNat IntKind.i64.bits))) (IntKind.i64.wrap (z8v + 1))) else (some z8v)
def wire_Size.f (k : Nat) (x0 : Int) : Option (Int) := if ((decide (x0 < (0 : Int))) || (decide ((4611686018427387904 : Int) < x0))) = true then (some 0) else ((wire_Size.l0 k x0 1).bind fun s3v => (some s3v))
theorem wire_Size.calls (W : World) (F : HA) (k : Nat) (x0 : Int)  :
    Fn Tryz.prog W 119 [.int .i64 x0] [] F (wire_Size.f k x0) (fun (r : Int) (y : Unit) => .int .i64 r) (fun r y => []) := by
 unfold wire_Size.f
 refine fn_intro 17 Tryz.func119 rfl Tryz.ntmps119 rfl ?_
 refine sr ?_
 refine va rfl rfl (simL_nil (nrm_then (sim_seq (sr ?_))))
 refine vm rfl rfl ?_
 refine vq (q_lss rfl rfl rfl) rfl ?_
 refine vm rfl rfl ?_
 refine simL_valc (b := decide (x0 < (0 : Int))) (fun hb12v => RQ.sub (E' := [(0, .int .i64 x0)]) ⟨rfl, trivial⟩ (q_move rfl rfl)) rfl rfl rfl rfl rfl ?_
 refine simL_valc (b := decide (x0 < (0 : Int))) (fun hb11v => RQ.sub (E' := [(7, .int .i64 x0)]) ⟨lk_cv rfl hb11v, trivial⟩ (q_gtr rfl rfl rfl)) rfl rfl rfl rfl rfl ?_
 refine vq (q_or rfl rfl rfl) rfl (simL_nil (nrm_then ?_))
 refine sim_condb rfl (fun h1v => ?_) (fun h2v => ?_)
 refine sr ?_
 refine va rfl rfl (simL_nil (nrm_then (sim_rtn ?_)))
 refine rtn_then ?_
 exact rtn_fn () rfl rfl rfl (.sel 0 rfl (.nil _))
 refine sim_skip ?_
 refine nrm_then (sr ?_)
 refine va rfl rfl (simL_nil (nrm_then ?_))
 refine sim_cut (S := Int) (Unit) (fun s y => [(3, .int .i64 s)]) (fun s y => [F]) ?_ ?_
 refine sim_block ?_
 refine sim_loop (S := Int × Int) (Unit) (fun k s => wire_Size.l0 k s.1 s.2) (fun s y => [(0, .int .i64 s.1), (3, .int .i64 s.2)]) (fun s y => [F]) (fun _ => by rw [wire_Size.l0]) ?_ k (x0, 1) () ⟨rfl, rfl, trivial⟩ (.sel 0 rfl (.nil _))
 intro k s5v y6v
 refine sim_eq (by rw [wire_Size.l0]) ?_
 refine sim_seq (sr ?_)
 refine vm rfl rfl ?_
 refine vq (q_geq rfl rfl rfl) rfl (simL_nil (nrm_then ?_))
 refine sim_cond rfl (fun h9v => ?_) (fun h10v => ?_)
 refine sim_skip ?_
 refine nrm_then ?_
 refine sim_block ?_
 refine sr ?_
 refine vm rfl rfl ?_
 refine vq (q_shr rfl rfl rfl (by decide)) rfl ?_
 refine va rfl rfl (ny ?_)
 refine vm rfl rfl ?_
 refine vq (q_add rfl rfl rfl) rfl ?_
 refine va rfl rfl (simL_nil (nrm_block ?_))
 exact nrm_again (s := (Int.fdiv s5v.1 (2 ^ (min (7 : Int).toNat IntKind.i64.bits)), IntKind.i64.wrap (s5v.2 + 1))) () ⟨rfl, rfl, trivial⟩ (.sel 0 rfl (.nil _))
 refine sim_exi ?_
 refine exi_then ?_
 refine exi_loop ?_
 refine exi_here ?_
 exact nrm_cut (s := s5v.2) () ⟨rfl, trivial⟩ (.sel 0 rfl (.nil _))
 intro s3v y4v
 refine sr ?_
 refine vm rfl rfl ?_
 refine va rfl rfl (simL_nil (nrm_then (sim_rtn ?_)))
 exact rtn_fn () rfl rfl rfl (.sel 0 rfl (.nil _))

def wire_sevens_1.l0 {S : Type} (step : S → Int → Option S) : Nat → Int → S → Option (Int × S)
  | 0, _, _ => none
  | k + 1, z5v, z6v => if (128 : Int) ≤ z5v then ((step z6v (IntKind.u8.wrap (bitsV .or .i64 (bitsV .and .i64 z5v 127) 128))).bind fun s9v => (wire_sevens_1.l0 step k (Int.fdiv z5v (2 ^ (min (7 : Int).toNat IntKind.i64.bits))) s9v)) else (some (z5v, z6v))
def wire_sevens_1.f {S : Type} (k : Nat) (step : S → Int → Option S) (s0 : S) (x1_0 : Int) : Option (S) := (wire_sevens_1.l0 step k x1_0 s0).bind fun s1v => ((step s1v.2 (IntKind.u8.wrap s1v.1)).bind fun s12v => (some s12v))
theorem wire_sevens_1.calls (W : World) (F : HA) (k : Nat) (S Y : Type) (l : Nat) (step : S → Int → Option S) (A : S → Y → HA) (s0 : S) (y0 : Y) (b1 : Nat) (x1_0 : Int) (hY : YieldOk Tryz.prog W l (fun (x : Int) => [.int .u8 x]) step A) :
    Fn Tryz.prog W 161 [.func (.yield l) #[] #[], .pointer (some ⟨b1, 0, none⟩)] [A s0 y0, obj b1 3 [.int .i64 x1_0]] F (wire_sevens_1.f k step s0 x1_0) (fun (r : S) (y : Y) => .tuple #[]) (fun r y => [A r y, obj b1 3 [.int .i64 x1_0]]) := by
 unfold wire_sevens_1.f
 refine fn_intro 20 Tryz.func161 rfl Tryz.ntmps161 rfl ?_
 refine sr ?_
 refine vq (q_load rfl rfl Tryz.isAgg3 (.obj 1 rfl rfl)) rfl ?_
 refine va rfl rfl (simL_nil (nrm_then ?_))
 refine sim_cut (S := Int × S) (Y) (fun s y => [(0, .func (.yield l) #[] #[]), (3, .int .i64 s.1)]) (fun s y => [obj b1 3 [.int .i64 x1_0], A s.2 y, F]) ?_ ?_
 refine sim_block ?_
 refine sim_loop (S := Int × S) (Y) (fun k s => wire_sevens_1.l0 step k s.1 s.2) (fun s y => [(0, .func (.yield l) #[] #[]), (3, .int .i64 s.1)]) (fun s y => [obj b1 3 [.int .i64 x1_0], A s.2 y, F]) (fun _ => by rw [wire_sevens_1.l0]) ?_ k (x1_0, s0) y0 ⟨rfl, rfl, trivial⟩ (.sel 1 rfl (.sel 0 rfl (.sel 0 rfl (.nil _))))
 intro k s3v y4v
 refine sim_eq (by rw [wire_sevens_1.l0]) ?_
 refine sim_seq (sr ?_)
 refine vm rfl rfl ?_
 refine vq (q_geq rfl rfl rfl) rfl (simL_nil (nrm_then ?_))
 refine sim_cond rfl (fun h7v => ?_) (fun h8v => ?_)
 refine sim_skip ?_
 refine nrm_then ?_
 refine sim_block ?_
 refine sim_seq (sr ?_)
 refine vm rfl rfl ?_
 refine vm rfl rfl ?_
 refine vq (q_and_ rfl rfl rfl) rfl ?_
 refine vq (q_or_ rfl rfl rfl) rfl ?_
 refine vq (q_conv rfl rfl Tryz.underlying3 Tryz.underlying5) rfl ?_
 refine simL_bind (fun s9v hs11v => ?_)
 refine simL_eff (re_yield (IntKind.u8.wrap (bitsV .or .i64 (bitsV .and .i64 s3v.1 127) 128)) 1 rfl rfl rfl rfl rfl rfl hY rfl hs11v) rfl rfl rfl ?_
 intro y10v
 refine vq (q_not rfl rfl) rfl (simL_nil (nrm_then ?_))
 refine sim_false rfl ?_
 refine sim_skip ?_
 refine nrm_then (sim_region ?_)
 refine vm rfl rfl ?_
 refine vq (q_shr rfl rfl rfl (by decide)) rfl ?_
 refine va rfl rfl (simL_nil (nrm_block ?_))
 exact nrm_again (s := (Int.fdiv s3v.1 (2 ^ (min (7 : Int).toNat IntKind.i64.bits)), s9v)) y10v ⟨rfl, rfl, trivial⟩ (.sel 0 rfl (.sel 0 rfl (.sel 0 rfl (.nil _))))
 refine sim_exi ?_
 refine exi_then ?_
 refine exi_loop ?_
 refine exi_here ?_
 exact nrm_cut (s := (s3v.1, s3v.2)) y4v ⟨rfl, rfl, trivial⟩ (.sel 0 rfl (.sel 0 rfl (.sel 0 rfl (.nil _))))
 intro s1v y2v
 refine sim_region ?_
 refine vm rfl rfl ?_
 refine vm rfl rfl ?_
 refine vq (q_conv rfl rfl Tryz.underlying3 Tryz.underlying5) rfl ?_
 refine simL_bind (fun s12v hs14v => ?_)
 refine simL_eff (re_yield (IntKind.u8.wrap s1v.1) 1 rfl rfl rfl rfl rfl rfl hY rfl hs14v) rfl rfl rfl ?_
 intro y13v
 refine simL_nil ?_
 exact nrm_fn y13v rfl rfl rfl (.sel 1 rfl (.sel 0 rfl (.sel 0 rfl (.nil _))))

def wire_sevens.f (x0 : Int) : Option (Int) := some x0
theorem wire_sevens.calls (W : World) (F : HA) (x0 : Int)  :
    Fn Tryz.prog W 120 [.int .i64 x0] [] F (wire_sevens.f x0) (fun (r : Int) (y : Nat) => .func (.func 161) #[] #[.pointer (some ⟨y, 0, none⟩)]) (fun r y => [obj y 3 [.int .i64 r]]) := by
 unfold wire_sevens.f
 refine fn_intro 4 Tryz.func120 rfl Tryz.ntmps120 rfl ?_
 refine sr ?_
 refine simL_eff (re_box rfl rfl rfl) rfl rfl rfl ?_
 intro b1v
 refine va rfl rfl (nx ?_)
 refine vq (q_mkfn rfl rfl rfl) rfl ?_
 refine va rfl rfl (simL_nil (nrm_then (sim_rtn ?_)))
 exact rtn_fn b1v rfl rfl rfl (.sel 0 rfl (.sel 0 rfl (.nil _)))

def wire_Writer_Int.f (k : Nat) (x0_0 : List UInt8) (x0_1 : Int) (x1 : Int) : Option (List UInt8 × Int) := if x0_1 = (0 : Int) then ((wire_Size.f k x1).bind fun s4v => (if s4v = (0 : Int) then (some (x0_0, 1)) else ((wire_sevens.f x1).bind fun s9v => ((wire_sevens_1.f k (fun (s13v : List UInt8) (x12v : Int) => if 0 ≤ x12v ∧ x12v < 256 then (if (s13v.length + ([(byte x12v)] : List UInt8).length) * 1 ≤ 140737488355328 then (some (s13v ++ ([(byte x12v)] : List UInt8))) else none) else none) x0_0 s9v).bind fun s20v => (some (s20v, x0_1)))))) else (some (x0_0, x0_1))
theorem wire_Writer_Int.calls (W : World) (F : HA) (k : Nat) (b0 : Nat) (a0_0 : Option Addr) (c0_0 : Nat) (x0_0 : List UInt8) (x0_1 : Int) (x1 : Int)  :
    Fn Tryz.prog W 74 [.pointer (some ⟨b0, 0, none⟩), .int .i64 x1] [obj b0 164 [.slice a0_0 x0_0.length c0_0, .int .i64 x0_1], Row 5 1 a0_0 x0_0.length c0_0 (encB x0_0)] F (wire_Writer_Int.f k x0_0 x0_1 x1) (fun (r : List UInt8 × Int) (y : Option Addr × Nat) => .tuple #[]) (fun r y => [obj b0 164 [.slice y.1 r.1.length y.2, .int .i64 r.2], Row 5 1 y.1 r.1.length y.2 (encB r.1)]) := by
 unfold wire_Writer_Int.f
 refine fn_introM 29 Tryz.func74 rfl Tryz.ntmps74 rfl ?_
 refine sr ?_
 refine simL_eff (re_box rfl rfl rfl) rfl rfl rfl ?_
 intro b1v
 refine simL_nil (nrm_then (sim_seq (sr ?_)))
 refine vq (q_load rfl rfl Tryz.isAgg119 (.obj 0 rfl rfl)) rfl ?_
 refine vn rfl rfl ?_
 refine vq (q_fa rfl rfl Tryz.underlying164 rfl rfl Tryz.sizeOf30 rfl) rfl ?_
 refine vq (q_load rfl rfl Tryz.isAgg30 (.obj 1 rfl rfl)) rfl ?_
 refine vq (q_neq rfl rfl rfl) rfl (simL_nil (nrm_then ?_))
 refine sim_condn rfl (fun h2v => ?_) (fun h3v => ?_)
 refine sim_skip ?_
 refine nrm_then (sim_seq (sr ?_))
 refine vm rfl rfl ?_
 refine simL_bind (fun s4v hs5v => ?_)
 refine simL_eff (re_call (vs := [.int .i64 x1]) (cap := []) (A := []) (rst := [obj b1v 119 [.pointer (some ⟨b0, 0, none⟩)], obj b0 164 [.slice a0_0 x0_0.length c0_0, .int .i64 x0_1], Row 5 1 a0_0 x0_0.length c0_0 (encB x0_0), F]) rfl rfl rfl rfl rfl rfl Tryz.call119 (.sel 0 rfl (.sel 0 rfl (.sel 0 rfl (.sel 0 rfl (.nil _))))) (wire_Size.calls _ _ k x1 ) hs5v) rfl rfl rfl ?_
 intro y6v
 refine vq (q_eql rfl rfl rfl) rfl (simL_nil (nrm_then ?_))
 refine sim_cond rfl (fun h7v => ?_) (fun h8v => ?_)
 refine sr ?_
 refine vq (q_load rfl rfl Tryz.isAgg119 (.obj 0 rfl rfl)) rfl ?_
 refine vn rfl rfl ?_
 refine vq (q_fa rfl rfl Tryz.underlying164 rfl rfl Tryz.sizeOf30 rfl) rfl ?_
 refine simL_do (re_store 1 rfl rfl rfl Tryz.sizeOf30 rfl rfl (one_of (by rfl)) rfl rfl) rfl rfl ?_
 intro _
 refine simL_nil (nrm_then (sim_rtn ?_))
 refine rtn_then ?_
 exact rtn_fnM [] (a0_0, c0_0) rfl rfl rfl (.sel 1 rfl (.sel 1 rfl (.sel 1 rfl (.nil _))))
 refine sim_skip ?_
 refine nrm_then (sr ?_)
 refine vm rfl rfl ?_
 refine simL_bind (fun s9v hs10v => ?_)
 refine simL_eff (re_call (vs := [.int .i64 x1]) (cap := []) (A := []) (rst := [obj b1v 119 [.pointer (some ⟨b0, 0, none⟩)], obj b0 164 [.slice a0_0 x0_0.length c0_0, .int .i64 x0_1], Row 5 1 a0_0 x0_0.length c0_0 (encB x0_0), F]) rfl rfl rfl rfl rfl rfl Tryz.call120 (.sel 0 rfl (.sel 0 rfl (.sel 0 rfl (.sel 0 rfl (.nil _))))) (wire_sevens.calls _ _ x1 ) hs10v) rfl rfl rfl ?_
 intro y11v
 refine simL_nil (nrm_then ?_)
 refine sim_block ?_
 refine sim_range (S := List UInt8) (Y := Option Addr × Nat) (R' := List UInt8) (Y' := (Option Addr × Nat)) (ps := [18]) (Cap := [obj y11v 3 [.int .i64 s9v]]) (rst := []) (CapB := fun r y => [obj y11v 3 [.int .i64 s9v]]) (enc := fun (x : Int) => [.int .u8 x]) (oN := wire_sevens_1.f k (fun (s13v : List UInt8) (x12v : Int) => if 0 ≤ x12v ∧ x12v < 256 then (if (s13v.length + ([(byte x12v)] : List UInt8).length) * 1 ≤ 140737488355328 then (some (s13v ++ ([(byte x12v)] : List UInt8))) else none) else none) x0_0 s9v) (fun s y => [obj b1v 119 [.pointer (some ⟨b0, 0, none⟩)], obj b0 164 [.slice y.1 s.length y.2, .int .i64 x0_1], Row 5 1 y.1 s.length y.2 (encB s), F]) x0_0 (a0_0, c0_0) (fun s13v x12v y14v => [(2, .pointer (some ⟨b1v, 0, none⟩)), (4, .int .u8 x12v)]) (fun r => r) (fun r y => y) rfl rfl Tryz.call161 (fun l A hY X => wire_sevens_1.calls _ _ k _ _ l _ A _ _ y11v s9v hY) rfl (fun _ => rfl) (.sel 1 rfl (.sel 1 rfl (.sel 1 rfl (.sel 1 rfl (.sel 0 rfl (.nil _)))))) ?_ ?_ ?_
 intro l s13v x12v y14v Fr
 refine sim_ent (H' := [obj b1v 119 [.pointer (some ⟨b0, 0, none⟩)], obj b0 164 [.slice y14v.1 s13v.length y14v.2, .int .i64 x0_1], Row 5 1 y14v.1 s13v.length y14v.2 (encB s13v), F, Fr]) (Ent.refl _) ?_
 refine sim_region ?_
 refine va rfl rfl (simL_nil ?_)
 exact nrm_cut () ⟨rfl, rfl, trivial⟩ (Ent.refl _)
 intro l s13v x12v y14v Fr
 refine sim_ent (H' := [obj b1v 119 [.pointer (some ⟨b0, 0, none⟩)], obj b0 164 [.slice y14v.1 s13v.length y14v.2, .int .i64 x0_1], Row 5 1 y14v.1 s13v.length y14v.2 (encB s13v), F, Fr]) (Ent.refl _) ?_
 refine sim_block ?_
 refine sim_ask (fun hb16v => ?_)
 refine sim_ask (fun hb18v => ?_)
 refine sim_draw (Γ := Nat × (Option Addr × Nat)) (0, (none, 0)) [[], [], [1], [1, 2], [1, 2, 3], [], [5], [1, 2, 3, 4, 5, 6], rL 8, rL 9, rL 10] [6, 7, 10] [0, 1, 2, 3, 4, 5, 8, 9] (fun i => [[0, 1, 2], [0, 1], [0, 1], [0, 1], [0, 1], [0], [], [], [2], [2], []].getD i []) (fun i => [[], [], [], [], [], [], rL 6, rL 7, [], [], rL 10].getD i []) (fun γ i => [.pointer (some ⟨b0, 0, none⟩), .pointer (some ⟨b0, 0, none⟩), .pointer (some ⟨b0, 0, none⟩), .pointer (some ⟨b0, 0, none⟩), .slice y14v.1 s13v.length y14v.2, .int .u8 x12v, .slice (some ⟨γ.1, 0, none⟩) (([(byte x12v)] : List UInt8).length) 1, .slice γ.2.1 ((s13v ++ ([(byte x12v)] : List UInt8)).length) γ.2.2, .pointer (some ⟨b0, 0, none⟩), .pointer (some ⟨b0, 0, none⟩), undef].getD i undef) (fun j γ => [[obj b1v 119 [.pointer (some ⟨b0, 0, none⟩)], obj b0 164 [.slice y14v.1 s13v.length y14v.2, .int .i64 x0_1], Row 5 1 y14v.1 s13v.length y14v.2 (encB s13v), F, Fr], [Row 5 1 (some ⟨γ.1, 0, none⟩) ([(byte x12v)] : List UInt8).length 1 (encB ([(byte x12v)] : List UInt8)), obj b1v 119 [.pointer (some ⟨b0, 0, none⟩)], obj b0 164 [.slice y14v.1 s13v.length y14v.2, .int .i64 x0_1], Row 5 1 y14v.1 s13v.length y14v.2 (encB s13v), F, Fr], [Row 5 1 (some ⟨γ.1, 0, none⟩) ([(byte x12v)] : List UInt8).length 1 (encB ([(byte x12v)] : List UInt8)), obj b1v 119 [.pointer (some ⟨b0, 0, none⟩)], obj b0 164 [.slice y14v.1 s13v.length y14v.2, .int .i64 x0_1], Row 5 1 γ.2.1 (s13v ++ ([(byte x12v)] : List UInt8)).length γ.2.2 (encB (s13v ++ ([(byte x12v)] : List UInt8))), F, Fr], [Row 5 1 (some ⟨γ.1, 0, none⟩) ([(byte x12v)] : List UInt8).length 1 (encB ([(byte x12v)] : List UInt8)), obj b1v 119 [.pointer (some ⟨b0, 0, none⟩)], obj b0 164 [.slice γ.2.1 ((s13v ++ ([(byte x12v)] : List UInt8)).length) γ.2.2, .int .i64 x0_1], Row 5 1 γ.2.1 (s13v ++ ([(byte x12v)] : List UInt8)).length γ.2.2 (encB (s13v ++ ([(byte x12v)] : List UInt8))), F, Fr]].getD j []) (fun γ => []) mixed (by decide) (by decide) (by decide) (by decide) (by decide) (by decide) (by decide) 29 rfl (by decide) (by decide) (by decide) (Ent.refl _) ?_ ?_ (fun _ => trivial) ?_
 exact (ac (fun γ => (ac (qp rfl rfl (.o (s := 2) rfl (by decide) .nil) (q_load rfl rfl Tryz.isAgg119 (.obj 0 rfl rfl)) rfl) (ac (qp rfl rfl (.o (s := 2) rfl (by decide) .nil) (q_load rfl rfl Tryz.isAgg119 (.obj 1 rfl rfl)) rfl) (ac (qp rfl rfl (.o (s := 2) rfl (by decide) .nil) (q_load rfl rfl Tryz.isAgg119 (.obj 1 rfl rfl)) rfl) zA)))) (ac (fun γ => (ac (qp rfl rfl (.o (s := 2) rfl (by decide) .nil) (q_load rfl rfl Tryz.isAgg119 (.obj 0 rfl rfl)) rfl) (ac (qp rfl rfl (.o (s := 2) rfl (by decide) .nil) (q_load rfl rfl Tryz.isAgg119 (.obj 1 rfl rfl)) rfl) zA))) (ac (fun γ => (ac (qp rfl rfl (.v 1 rfl rfl .nil) (q_nil rfl rfl) rfl) (ac (qp rfl rfl (.v 1 rfl rfl .nil) (q_nil rfl rfl) rfl) zA))) (ac (fun γ => (ac (qp rfl rfl (.v 2 rfl rfl .nil) (q_fa rfl rfl Tryz.underlying164 rfl rfl Tryz.sizeOf25 rfl) rfl) (ac (qp rfl rfl (.v 2 rfl rfl .nil) (q_fa rfl rfl Tryz.underlying164 rfl rfl Tryz.sizeOf25 rfl) rfl) zA))) (ac (fun γ => (ac (qp rfl rfl (.v 3 rfl rfl .nil) (q_load rfl rfl Tryz.isAgg25 (.obj 1 rfl rfl)) rfl) (ac (qp rfl rfl (.v 3 rfl rfl .nil) (q_load rfl rfl Tryz.isAgg25 (.obj 2 rfl rfl)) rfl) zA))) (aq rfl (fun γ => qm rfl (.o (s := 4) rfl (by decide) .nil) rfl) (aq rfl (fun γ => qp rfl rfl (.v 0 rfl rfl .nil) (q_nil rfl rfl) rfl) (aq rfl (fun γ => qp rfl rfl (.v 8 rfl rfl .nil) (q_fa rfl rfl Tryz.underlying164 rfl rfl Tryz.sizeOf25 rfl) rfl) zA))))))))
 exact (ac (fun γ => eo (Z := Nat) (fun z => (z, γ.2)) rfl rfl (.v 5 rfl rfl .nil) (re_litb (cs := [.int .u8 x12v]) ([(byte x12v)] : List UInt8) rfl rfl Tryz.underlying25 elt5 rfl (by kernel_rfl) rfl rfl (byte_lit1 hb16v)) (fun _ => ⟨rfl, rfl, rfl, rfl, rfl, rfl, trivial⟩) (fun _ => .inr rfl) (fun z => Ent.refl _)) (ac (fun γ => eo (Z := Option Addr × Nat) (fun z => (γ.1, z)) rfl rfl (.v 4 rfl rfl (.v 6 rfl rfl .nil)) (re_appendb 3 rfl rfl rfl Tryz.underlying25 elt5 rfl (Rds.row 0 rfl) hb18v) (fun _ => ⟨rfl, rfl, rfl, rfl, rfl, rfl, rfl, trivial⟩) (fun _ => .inr rfl) (fun z => Ent.refl _)) (ac (fun γ => eo (Z := Unit) (fun z => (γ.1, γ.2)) rfl rfl (.v 7 rfl rfl (.v 9 rfl rfl .nil)) (re_store 2 rfl rfl rfl Tryz.sizeOf25 rfl rfl (one_of (by rfl)) rfl rfl) (fun _ => ⟨rfl, rfl, rfl, rfl, rfl, rfl, rfl, rfl, rfl, rfl, trivial⟩) (fun _ => .inl rfl) (fun z => Ent.refl _)) zA)))
 intro g19v
 refine nrm_block ?_
 exact nrm_cut (s := s13v ++ ([(byte x12v)] : List UInt8)) (g19v.2.1, g19v.2.2) trivial (.sel 1 rfl (.sel 1 rfl (.sel 1 rfl (.sel 1 rfl (.sel 1 rfl (.nil _))))))
 intro D22v s20v y21v
 refine nrm_ent (H' := [shutD D22v, obj b1v 119 [.pointer (some ⟨b0, 0, none⟩)], obj b0 164 [.slice y21v.1 s20v.length y21v.2, .int .i64 x0_1], Row 5 1 y21v.1 s20v.length y21v.2 (encB s20v), F, obj y11v 3 [.int .i64 s9v]]) (Ent.refl _) ?_
 refine nrm_block ?_
 exact nrm_fnM [D22v] (y21v.1, y21v.2) rfl rfl rfl (.sel 0 rfl (.sel 1 rfl (.sel 1 rfl (.sel 1 rfl (.nil _)))))
 refine sim_rtn ?_
 refine rtn_then ?_
 exact rtn_fnM [] (a0_0, c0_0) rfl rfl rfl (.sel 1 rfl (.sel 1 rfl (.sel 1 rfl (.nil _))))
end Go.Proofs.YtjkjlggbikeliaaGreatDoor

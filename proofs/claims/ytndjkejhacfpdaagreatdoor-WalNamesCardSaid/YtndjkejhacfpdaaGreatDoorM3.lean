/- Texts that lead to the law WalNames: G1. Conditions: as each says. -/
import Derived.Test.YtndjkejhacfpdaaGreatDoorM2
import Derived.Test.YtndjkejhacfpdaaGreatDoorProg
namespace Go.Proofs.YtndjkejhacfpdaaGreatDoor
open Go.RowKit
set_option linter.unusedVariables false
set_option linter.unusedSimpArgs false
set_option maxRecDepth 20000
set_option maxHeartbeats 20000000
theorem elt5 : Elt Tryz.prog 5 1 1 [.int .u8 0] := .of (.int .u8 0) (by kernel_rfl) rfl rfl rfl rfl
abbrev Ty144 : Type := Int × Int × Int × List UInt8 × Int
abbrev dz144 : Ty144 := ((0 : Int), (0 : Int), (0 : Int), ([] : List UInt8), (0 : Int))
abbrev Ty35 : Type := Int × Int × Int × List UInt8
abbrev dz35 : Ty35 := ((0 : Int), (0 : Int), (0 : Int), ([] : List UInt8))
abbrev Ty102 : Type := Int × Int × Int × Int × Int × Int × Int × Int × Int × Int × List UInt8
abbrev dz102 : Ty102 := ((0 : Int), (0 : Int), (0 : Int), (0 : Int), (0 : Int), (0 : Int), (0 : Int), (0 : Int), (0 : Int), (0 : Int), ([] : List UInt8))
abbrev enc9 (x : List UInt8) : Value := str x
abbrev enc3 (x : Int) : Value := .int .i64 x
abbrev enc140 (x : Option Nat) : Value := match x with
  | none => .nilFunc
  | some f => .func (.func f) #[] #[]
theorem key9 : KeyT Tryz.prog 9 enc9 := keyT_str Tryz.underlying9
theorem key3 : KeyT Tryz.prog 3 enc3 := keyT_int Tryz.underlying3
abbrev FA109 (p : Nat) (x : List UInt8 × Int) (y : Option Addr × Nat) : List HA := [obj p 109 [.slice y.1 x.1.length y.2, .int .i64 x.2], Row 5 1 y.1 x.1.length y.2 (encB x.1)]
theorem elt9 : Elt Tryz.prog 9 1 16 [str ([] : List UInt8)] := .of (str ([] : List UInt8)) (by kernel_rfl) rfl rfl rfl rfl
theorem elt144 : Elt Tryz.prog 144 5 56 [.int .i64 0, .int .i64 0, .int .i64 0, .slice none 0 0, .int .i64 0] := .of (.agg #[.int .i64 0, .int .i64 0, .int .i64 0, .slice none 0 0, .int .i64 0]) (by kernel_rfl) rfl rfl rfl rfl
theorem elt3 : Elt Tryz.prog 3 1 8 [.int .i64 0] := .of (.int .i64 0) (by kernel_rfl) rfl rfl rfl rfl
theorem elt33 : Elt Tryz.prog 33 1 24 [.slice none 0 0] := .of (.slice none 0 0) (by kernel_rfl) rfl rfl rfl rfl
theorem elt35 : Elt Tryz.prog 35 4 48 [.int .i64 0, .int .i64 0, .int .i64 0, .slice none 0 0] := .of (.agg #[.int .i64 0, .int .i64 0, .int .i64 0, .slice none 0 0]) (by kernel_rfl) rfl rfl rfl rfl
theorem elt102 : Elt Tryz.prog 102 11 104 [.int .i64 0, .int .i64 0, .int .i64 0, .int .i64 0, .int .i64 0, .int .i64 0, .int .i64 0, .int .i64 0, .int .i64 0, .int .i64 0, .slice none 0 0] := .of (.agg #[.int .i64 0, .int .i64 0, .int .i64 0, .int .i64 0, .int .i64 0, .int .i64 0, .int .i64 0, .int .i64 0, .int .i64 0, .int .i64 0, .slice none 0 0]) (by kernel_rfl) rfl rfl rfl rfl
def V9 (_ : HA) (x : List UInt8) (r : List Value) : Prop := r = [str x]
theorem V9.up {G F : HA} (_ : Up G F) : ∀ x r, V9 G x r → V9 F x r := fun _ _ h => h
def V144 (F : HA) (x : Int × Int × Int × List UInt8 × Int) (r : List Value) : Prop := ∃ (a3 : Option Addr) (c3 : Nat), r = [.int .i64 x.1, .int .i64 x.2.1, .int .i64 x.2.2.1, .slice a3 x.2.2.2.1.length c3, .int .i64 x.2.2.2.2] ∧ (Rd F a3 (encB x.2.2.2.1) ∧ x.2.2.2.1.length ≤ c3 ∧ c3 ≤ maxLen)
theorem V144.up {G F : HA} (u : Up G F) : ∀ x r, V144 G x r → V144 F x r := by
  rintro x r ⟨a3, c3, e, ⟨h3, k3, m3⟩⟩
  exact ⟨a3, c3, e, ⟨h3.up u, k3, m3⟩⟩
def V3 (_ : HA) (x : Int) (r : List Value) : Prop := r = [.int .i64 x]
theorem V3.up {G F : HA} (_ : Up G F) : ∀ x r, V3 G x r → V3 F x r := fun _ _ h => h
def V33 (F : HA) (x : List UInt8) (r : List Value) : Prop := ∃ (a0 : Option Addr) (c0 : Nat), r = [.slice a0 x.length c0] ∧ (Rd F a0 (encB x) ∧ x.length ≤ c0 ∧ c0 ≤ maxLen)
theorem V33.up {G F : HA} (u : Up G F) : ∀ x r, V33 G x r → V33 F x r := by
  rintro x r ⟨a0, c0, e, ⟨h0, k0, m0⟩⟩
  exact ⟨a0, c0, e, ⟨h0.up u, k0, m0⟩⟩
def V35 (F : HA) (x : Int × Int × Int × List UInt8) (r : List Value) : Prop := ∃ (a3 : Option Addr) (c3 : Nat), r = [.int .i64 x.1, .int .i64 x.2.1, .int .i64 x.2.2.1, .slice a3 x.2.2.2.length c3] ∧ (Rd F a3 (encB x.2.2.2) ∧ x.2.2.2.length ≤ c3 ∧ c3 ≤ maxLen)
theorem V35.up {G F : HA} (u : Up G F) : ∀ x r, V35 G x r → V35 F x r := by
  rintro x r ⟨a3, c3, e, ⟨h3, k3, m3⟩⟩
  exact ⟨a3, c3, e, ⟨h3.up u, k3, m3⟩⟩
def V102 (F : HA) (x : Int × Int × Int × Int × Int × Int × Int × Int × Int × Int × List UInt8) (r : List Value) : Prop := ∃ (a10 : Option Addr) (c10 : Nat), r = [.int .i64 x.1, .int .i64 x.2.1, .int .i64 x.2.2.1, .int .i64 x.2.2.2.1, .int .i64 x.2.2.2.2.1, .int .i64 x.2.2.2.2.2.1, .int .i64 x.2.2.2.2.2.2.1, .int .i64 x.2.2.2.2.2.2.2.1, .int .i64 x.2.2.2.2.2.2.2.2.1, .int .i64 x.2.2.2.2.2.2.2.2.2.1, .slice a10 x.2.2.2.2.2.2.2.2.2.2.length c10] ∧ (Rd F a10 (encB x.2.2.2.2.2.2.2.2.2.2) ∧ x.2.2.2.2.2.2.2.2.2.2.length ≤ c10 ∧ c10 ≤ maxLen)
theorem V102.up {G F : HA} (u : Up G F) : ∀ x r, V102 G x r → V102 F x r := by
  rintro x r ⟨a10, c10, e, ⟨h10, k10, m10⟩⟩
  exact ⟨a10, c10, e, ⟨h10.up u, k10, m10⟩⟩
theorem mixed : Tryz.prog.follows .mixedOrders = true := by kernel_rfl
def disk_New.f  : Option ((List ((List UInt8) × (List UInt8 × Int))) × List UInt8 × Int × Bool) := some (([] : List ((List UInt8) × (List UInt8 × Int))), ([] : List UInt8), 0, false)
theorem disk_New.calls (W : World) (F : HA)   :
    Fn Tryz.prog W 16 [] [] F (disk_New.f ) (fun (r : (List ((List UInt8) × (List UInt8 × Int))) × List UInt8 × Int × Bool) (y : Nat × Nat × Kps) => .pointer (some ⟨y.1, 0, none⟩)) (fun r y => [obj y.1 97 [.map (some y.2.1), str r.2.1, .int .i64 r.2.2.1, .bool r.2.2.2], mapF (mapO y.2.1 enc9 encP y.2.2) FA109 y.2.2 r.1]) := by
 unfold disk_New.f
 refine fn_intro 4 Tryz.func16 rfl Tryz.ntmps16 rfl ?_
 refine sr ?_
 refine va rfl rfl (nx ?_)
 refine simL_eff (re_mkmapF (ek := enc9) (fp := FA109) rfl) rfl rfl rfl ?_
 intro b1v
 refine vq (q_build (v := .agg #[.map (some b1v), str ([] : List UInt8), .int .i64 0, .bool false]) rfl rfl (fun _ => by kernel_rfl)) rfl ?_
 refine simL_eff (re_box rfl rfl rfl) rfl rfl rfl ?_
 intro b2v
 refine va rfl rfl (simL_nil (nrm_then (sim_rtn ?_)))
 exact rtn_fn (b2v, b1v, ([] : Kps)) rfl rfl rfl (.sel 0 rfl (.sel 0 rfl (.sel 0 rfl (.nil _))))

def maps_Keys_file.f  : Option (Unit) := some ()
theorem maps_Keys_file.calls (W : World) (F : HA) (m0 : Nat)  :
    Fn Tryz.prog W 70 [.map (some m0)] [] F (maps_Keys_file.f ) (fun (r : Unit) (y : Nat) => .func (.func 98) #[] #[.pointer (some ⟨y, 0, none⟩)]) (fun r y => [obj y 95 [.map (some m0)]]) := by
 unfold maps_Keys_file.f
 refine fn_intro 4 Tryz.func70 rfl Tryz.ntmps70 rfl ?_
 refine sr ?_
 refine simL_eff (re_box rfl rfl rfl) rfl rfl rfl ?_
 intro b1v
 refine va rfl rfl (nx ?_)
 refine vq (q_mkfn rfl rfl rfl) rfl ?_
 refine va rfl rfl (simL_nil (nrm_then (sim_rtn ?_)))
 exact rtn_fn b1v rfl rfl rfl (.sel 0 rfl (.sel 0 rfl (.nil _)))

def slices_Sorted_string_maps_Keys_file_1.f (xp0_0 : List ((List UInt8) × (List UInt8 × Int))) : Option (List (List UInt8)) := if (xp0_0.map (·.1)).Nodup ∧ xp0_0.length * 16 ≤ 140737488355328 ∧ ∀ p ∈ xp0_0, p.1.length ≤ 140737488351232 then some (keysS xp0_0) else none
theorem slices_Sorted_string_maps_Keys_file_1.calls (W : World) (F : HA) (bp0 : Nat) (mp0_0 : Nat) (qp0_0 : Kps) (xp0_0 : List ((List UInt8) × (List UInt8 × Int))) :
    Fn Tryz.prog W 69 [.func (.func 98) #[] #[.pointer (some ⟨bp0, 0, none⟩)]] [obj bp0 95 [.map (some mp0_0)], mapF (mapO mp0_0 enc9 encP qp0_0) FA109 qp0_0 xp0_0] F (slices_Sorted_string_maps_Keys_file_1.f xp0_0) (fun (r : List (List UInt8)) (y : Option Addr × Nat) => .slice y.1 r.length y.2) (fun r y => [RowV 9 1 (V9 tt) y.1 r y.2, obj bp0 95 [.map (some mp0_0)], mapF (mapO mp0_0 enc9 encP qp0_0) FA109 qp0_0 xp0_0]) := by
  unfold slices_Sorted_string_maps_Keys_file_1.f
  exact fn_sortedSF fun F => fn_sortedS (V := (V9 tt)) (fun _ => rfl) Tryz.underlying9 (fun w D0 nn => lib_sorted69_98 w D0 nn mp0_0 bp0)

def disk_Disk_List.f (x0_0 : List ((List UInt8) × (List UInt8 × Int))) (x0_1 : List UInt8) (x0_2 : Int) (x0_3 : Bool) : Option (List (List UInt8)) := (maps_Keys_file.f).bind fun s1v => ((slices_Sorted_string_maps_Keys_file_1.f x0_0).bind fun s4v => (some s4v))
theorem disk_Disk_List.calls (W : World) (F : HA) (b0 : Nat) (m0_0 : Nat) (q0_0 : Kps) (x0_0 : List ((List UInt8) × (List UInt8 × Int))) (x0_1 : List UInt8) (x0_2 : Int) (x0_3 : Bool)  :
    Fn Tryz.prog W 29 [.pointer (some ⟨b0, 0, none⟩)] [obj b0 97 [.map (some m0_0), str x0_1, .int .i64 x0_2, .bool x0_3], mapF (mapO m0_0 enc9 encP q0_0) FA109 q0_0 x0_0] F (disk_Disk_List.f x0_0 x0_1 x0_2 x0_3) (fun (r : List (List UInt8)) (y : Option Addr × Nat) => .slice y.1 r.length y.2) (fun r y => [RowV 9 1 (V9 tt) y.1 r y.2, obj b0 97 [.map (some m0_0), str x0_1, .int .i64 x0_2, .bool x0_3], mapF (mapO m0_0 enc9 encP q0_0) FA109 q0_0 x0_0]) := by
 unfold disk_Disk_List.f
 refine fn_intro 9 Tryz.func29 rfl Tryz.ntmps29 rfl ?_
 refine sr ?_
 refine va rfl rfl (nx ?_)
 refine vm rfl rfl ?_
 refine vn rfl rfl ?_
 refine vq (q_fa rfl rfl Tryz.underlying97 rfl rfl Tryz.sizeOf95 rfl) rfl ?_
 refine vq (q_load rfl rfl Tryz.isAgg95 (.obj 0 rfl rfl)) rfl ?_
 refine simL_bind (fun s1v hs2v => ?_)
 refine simL_eff (re_call (vs := [.map (some m0_0)]) (cap := []) (A := []) (rst := [obj b0 97 [.map (some m0_0), str x0_1, .int .i64 x0_2, .bool x0_3], mapF (mapO m0_0 enc9 encP q0_0) FA109 q0_0 x0_0, F]) rfl rfl rfl rfl rfl rfl Tryz.call70 (.sel 0 rfl (.sel 0 rfl (.sel 0 rfl (.nil _)))) (maps_Keys_file.calls _ _ m0_0 ) hs2v) rfl rfl rfl ?_
 intro y3v
 refine simL_bind (fun s4v hs5v => ?_)
 refine simL_eff (re_call (vs := [.func (.func 98) #[] #[.pointer (some ⟨y3v, 0, none⟩)]]) (cap := []) (A := [obj y3v 95 [.map (some m0_0)], mapF (mapO m0_0 enc9 encP q0_0) FA109 q0_0 x0_0]) (rst := [obj b0 97 [.map (some m0_0), str x0_1, .int .i64 x0_2, .bool x0_3], F]) rfl rfl rfl rfl rfl rfl Tryz.call69 (.sel 0 rfl (.sel 1 rfl (.sel 0 rfl (.sel 0 rfl (.nil _))))) (slices_Sorted_string_maps_Keys_file_1.calls _ _ y3v m0_0 q0_0 x0_0 ) hs5v) rfl rfl rfl ?_
 intro y6v
 refine va rfl rfl (simL_nil (nrm_then (sim_rtn ?_)))
 exact rtn_fn (y6v.1, y6v.2) rfl rfl rfl (.sel 0 rfl (.sel 2 rfl (.sel 1 rfl (.sel 1 rfl (.nil _)))))

def wal_Number.l0 (x0 : List UInt8) : Nat → Int → Int → Option ((Int) ⊕ (Int × Bool))
  | 0, _, _ => none
  | k + 1, z15v, z16v => if z16v < ((cut x0 (4 : Int) (x0.length : Int)).length : Int) then (if 0 ≤ z16v ∧ z16v < ((cut x0 (4 : Int) (x0.length : Int)).length : Int) then (if ((decide ((((cut x0 (4 : Int) (x0.length : Int)).getD z16v.toNat 0).toNat : Int) < (48 : Int))) || (decide ((57 : Int) < (((cut x0 (4 : Int) (x0.length : Int)).getD z16v.toNat 0).toNat : Int)))) = true then (some (.inr (0, false))) else (wal_Number.l0 x0 k (IntKind.i64.wrap ((IntKind.i64.wrap (10 * z15v)) + (IntKind.i64.wrap (IntKind.u8.wrap ((((cut x0 (4 : Int) (x0.length : Int)).getD z16v.toNat 0).toNat : Int) - 48))))) (IntKind.i64.wrap (z16v + 1)))) else none) else (some (.inl z15v))
def wal_Number.f (k : Nat) (x0 : List UInt8) : Option (Int × Bool) := (if (x0.length : Int) = (12 : Int) then (if 0 ≤ (0 : Int) ∧ (0 : Int) ≤ (4 : Int) ∧ (4 : Int) ≤ (x0.length : Int) then (some (!decide ((cut x0 (0 : Int) (4 : Int)) = ([119, 97, 108, 45] : List UInt8)))) else none) else (some true)).bind fun s1v => (if s1v = true then (some (0, false)) else (orR (if 0 ≤ (4 : Int) ∧ (4 : Int) ≤ (x0.length : Int) ∧ (x0.length : Int) ≤ (x0.length : Int) then (if (cut x0 (4 : Int) (x0.length : Int)).length ≤ 140737488355328 then (wal_Number.l0 x0 k 0 0) else none) else none) fun s8v => (some (s8v, decide ((0 : Int) < s8v)))))
theorem wal_Number.calls (W : World) (F : HA) (k : Nat) (x0 : List UInt8)  :
    Fn Tryz.prog W 11 [str x0] [] F (wal_Number.f k x0) (fun (r : Int × Bool) (y : Unit) => .tuple #[.int .i64 r.1, .bool r.2]) (fun r y => []) := by
 unfold wal_Number.f
 refine fn_intro 39 Tryz.func11 rfl Tryz.ntmps11 rfl ?_
 refine sr ?_
 refine va rfl rfl ?_
 refine va rfl rfl (simL_nil (nrm_then (sim_seq (sr ?_))))
 refine vm rfl rfl ?_
 refine vq (q_lens rfl rfl rfl Tryz.underlying9) rfl ?_
 refine vq (q_neq rfl rfl rfl) rfl ?_
 refine vm rfl rfl ?_
 refine simL_cut' 4 (S := Bool) (Unit) (fun s y => [(0, str x0), (14, .bool s)]) (fun s y => [F]) ?_ ?_
 refine simL_casen (fun hb4v => ?_) (fun hb5v => ?_)
 rw [hb4v]
 refine simL_skipd rfl rfl rfl rfl rfl rfl ?_
 refine simL_skipd rfl rfl rfl rfl rfl rfl ?_
 refine simL_skipd rfl rfl rfl rfl rfl rfl ?_
 refine vq (q_pick rfl rfl rfl rfl rfl) rfl (simL_nil ?_)
 exact nrm_cut (s := true) () ⟨rfl, rfl, trivial⟩ (.sel 0 rfl (.nil _))
 rw [hb5v]
 refine simL_valg (q_move rfl rfl) rfl rfl rfl rfl rfl rfl ?_
 refine simL_ask (fun hb3v => ?_)
 refine simL_valg (q_cutS (lo' := (0 : Int)) (hi' := (4 : Int)) rfl rfl rfl rfl Tryz.underlying9 (.inr ⟨_, rfl⟩) (.inl ⟨rfl, rfl⟩) hb3v) rfl rfl rfl rfl rfl rfl ?_
 refine simL_valg (q_nes rfl rfl rfl) rfl rfl rfl rfl rfl rfl ?_
 refine vq (q_pick rfl rfl rfl rfl rfl) rfl (simL_nil ?_)
 exact nrm_cut (s := !decide ((cut x0 (0 : Int) (4 : Int)) = ([119, 97, 108, 45] : List UInt8))) () ⟨rfl, rfl, trivial⟩ (.sel 0 rfl (.nil _))
 intro s1v y2v
 refine simL_nil (nrm_then ?_)
 refine sim_condb rfl (fun h6v => ?_) (fun h7v => ?_)
 refine sr ?_
 refine va rfl rfl ?_
 refine va rfl rfl (simL_nil (nrm_then (sim_rtn ?_)))
 refine rtn_then ?_
 exact rtn_fn () rfl rfl rfl (.sel 0 rfl (.nil _))
 refine sim_skip ?_
 refine nrm_then (sr ?_)
 refine va rfl rfl (simL_nil (nrm_then ?_))
 refine sim_cutR (S := Int) (Unit) (fun s y => [(4, .int .i64 s)]) (fun s y => [F]) ?_ ?_
 refine sr ?_
 refine vm rfl rfl ?_
 refine simL_ask (fun hb10v => ?_)
 refine vq (q_cutS (lo' := (4 : Int)) (hi' := (x0.length : Int)) rfl rfl rfl rfl Tryz.underlying9 (.inl ⟨rfl, rfl⟩) (.inr ⟨_, rfl⟩) hb10v) rfl ?_
 refine simL_ask (fun hb12v => ?_)
 refine simL_eff (re_tobytes rfl rfl Tryz.underlying9 Tryz.underlying33 Tryz.underlying5 hb12v) rfl rfl rfl ?_
 intro y11v
 refine vq (q_len rfl rfl rfl Tryz.underlying33) rfl ?_
 refine vm rfl rfl (simL_nil (nrm_then ?_))
 refine sim_block ?_
 refine sim_loop (S := Int × Int) (Unit) (fun k s => wal_Number.l0 x0 k s.1 s.2) (fun s y => [(4, .int .i64 s.1), (17, .slice (some ⟨y11v.1, 0, none⟩) ((cut x0 (4 : Int) (x0.length : Int)).length) y11v.2), (18, .int .i64 ((cut x0 (4 : Int) (x0.length : Int)).length : Int)), (19, .int .i64 s.2)]) (fun s y => [Row 5 1 (some ⟨y11v.1, 0, none⟩) (cut x0 (4 : Int) (x0.length : Int)).length y11v.2 (encB (cut x0 (4 : Int) (x0.length : Int))), F]) (fun _ => by rw [wal_Number.l0]) ?_ k (0, 0) () ⟨rfl, rfl, rfl, rfl, trivial⟩ (.sel 0 rfl (.sel 0 rfl (.nil _)))
 intro k s13v y14v
 refine sim_eq (by rw [wal_Number.l0]) ?_
 refine sr ?_
 refine vq (q_lss rfl rfl rfl) rfl (simL_nil (nrm_then (sim_seq ?_)))
 refine sim_cond rfl (fun h17v => ?_) (fun h18v => ?_)
 refine sim_skip ?_
 refine nrm_then (sim_seq ?_)
 refine sim_block ?_
 refine sr ?_
 refine simL_ask (fun hi19v => ?_)
 refine simL_row 0 rfl (encB_ne (j := s13v.2.toNat) (by omega)) (fun b20v b20vo ha21v => ?_)
 refine vq (q_idx1 rfl rfl rfl ha21v Tryz.underlying33 Tryz.sizeOf5 hi19v.1 hi19v.2) rfl ?_
 refine vq (q_load rfl rfl Tryz.isAgg5 (.row' 0 rfl ha21v (encB_get (by omega)))) rfl ?_
 refine va rfl rfl (simL_nil (nrm_then (sim_seq (sr ?_))))
 refine vm rfl rfl ?_
 refine vq (q_lss rfl rfl rfl) rfl ?_
 refine vm rfl rfl ?_
 refine simL_valc (b := decide ((((cut x0 (4 : Int) (x0.length : Int)).getD s13v.2.toNat 0).toNat : Int) < (48 : Int))) (fun hb26v => RQ.sub (E' := [(6, .int .u8 (((cut x0 (4 : Int) (x0.length : Int)).getD s13v.2.toNat 0).toNat : Int))]) ⟨rfl, trivial⟩ (q_move rfl rfl)) rfl rfl rfl rfl rfl ?_
 refine simL_valc (b := decide ((((cut x0 (4 : Int) (x0.length : Int)).getD s13v.2.toNat 0).toNat : Int) < (48 : Int))) (fun hb25v => RQ.sub (E' := [(26, .int .u8 (((cut x0 (4 : Int) (x0.length : Int)).getD s13v.2.toNat 0).toNat : Int))]) ⟨lk_cv rfl hb25v, trivial⟩ (q_gtr rfl rfl rfl)) rfl rfl rfl rfl rfl ?_
 refine vq (q_or rfl rfl rfl) rfl (simL_nil (nrm_then ?_))
 refine sim_condb rfl (fun h23v => ?_) (fun h24v => ?_)
 refine sr ?_
 refine va rfl rfl ?_
 refine va rfl rfl (simL_nil (nrm_then (sim_rtn ?_)))
 refine rtn_then ?_
 refine rtn_block ?_
 refine rtn_then ?_
 refine rtn_loop ?_
 refine rtn_block ?_
 refine rtn_cutR ?_
 exact rtn_fn () rfl rfl rfl (.sel 1 rfl (.nil _))
 refine sim_skip ?_
 refine nrm_then (sim_region ?_)
 refine vm rfl rfl ?_
 refine vq (q_mul rfl rfl rfl) rfl ?_
 refine vm rfl rfl ?_
 refine vq (q_sub rfl rfl rfl) rfl ?_
 refine vq (q_conv rfl rfl Tryz.underlying5 Tryz.underlying3) rfl ?_
 refine vq (q_add rfl rfl rfl) rfl ?_
 refine va rfl rfl (simL_nil (nrm_block (nrm_then (sim_region ?_))))
 refine vq (q_add rfl rfl rfl) rfl ?_
 refine vm rfl rfl (simL_nil ?_)
 exact nrm_again (s := (IntKind.i64.wrap ((IntKind.i64.wrap (10 * s13v.1)) + (IntKind.i64.wrap (IntKind.u8.wrap ((((cut x0 (4 : Int) (x0.length : Int)).getD s13v.2.toNat 0).toNat : Int) - 48)))), IntKind.i64.wrap (s13v.2 + 1))) () ⟨rfl, rfl, rfl, rfl, trivial⟩ (.sel 0 rfl (.sel 0 rfl (.nil _)))
 refine sim_exi ?_
 refine exi_then ?_
 refine exi_loop ?_
 refine exi_here ?_
 exact nrm_cutR (s := s13v.1) () ⟨rfl, trivial⟩ (.sel 1 rfl (.nil _))
 intro s8v y9v
 refine sr ?_
 refine vm rfl rfl ?_
 refine vm rfl rfl ?_
 refine vq (q_gtr rfl rfl rfl) rfl ?_
 refine va rfl rfl ?_
 refine va rfl rfl (simL_nil (nrm_then (sim_rtn ?_)))
 exact rtn_fn () rfl rfl rfl (.sel 0 rfl (.nil _))

def strconv_Itoa.f (x0 : Int) : Option (List UInt8) := if -9223372036854775808 ≤ x0 ∧ x0 ≤ 9223372036854775807 then some (Lib.itoa x0) else none
theorem strconv_Itoa.calls (W : World) (F : HA) (x0 : Int) (hgl : Glb Tryz.prog F) :
    Fn Tryz.prog W 39 [.int .i64 x0] [] F (strconv_Itoa.f x0) (fun (r : List UInt8) (y : Unit) => str r) (fun r y => []) := by
  unfold strconv_Itoa.f
  exact fn_ask (fun h => fn_itoa hgl (fun w ht => Any.strconv_Itoa shL171 x0 h.1 h.2 w ht))

def wal_Name.l0 : Nat → List UInt8 → Option (List UInt8)
  | 0, _ => none
  | k + 1, z10v => if (z10v.length : Int) < (8 : Int) then (if ([48] : List UInt8).length + z10v.length ≤ 9223372036854775807 then (wal_Name.l0 k (([48] : List UInt8) ++ z10v)) else none) else (some z10v)
def wal_Name.f (k : Nat) (x0 : Int) : Option (List UInt8 × Int) := if ((decide (x0 < (1 : Int))) || (decide ((99999999 : Int) < x0))) = true then (some (([] : List UInt8), 1)) else ((strconv_Itoa.f x0).bind fun s3v => ((wal_Name.l0 k s3v).bind fun s6v => (if ([119, 97, 108, 45] : List UInt8).length + s6v.length ≤ 9223372036854775807 then (some (([119, 97, 108, 45] : List UInt8) ++ s6v, 0)) else none)))
theorem wal_Name.calls (W : World) (F : HA) (k : Nat) (x0 : Int) (hgl : Glb Tryz.prog F) :
    Fn Tryz.prog W 10 [.int .i64 x0] [] F (wal_Name.f k x0) (fun (r : List UInt8 × Int) (y : Unit) => .tuple #[str r.1, .int .i64 r.2]) (fun r y => []) := by
 unfold wal_Name.f
 refine fn_intro 20 Tryz.func10 rfl Tryz.ntmps10 rfl ?_
 refine sr ?_
 refine va rfl rfl ?_
 refine va rfl rfl (simL_nil (nrm_then (sim_seq (sr ?_))))
 refine vm rfl rfl ?_
 refine vq (q_lss rfl rfl rfl) rfl ?_
 refine vm rfl rfl ?_
 refine simL_valc (b := decide (x0 < (1 : Int))) (fun hb16v => RQ.sub (E' := [(0, .int .i64 x0)]) ⟨rfl, trivial⟩ (q_move rfl rfl)) rfl rfl rfl rfl rfl ?_
 refine simL_valc (b := decide (x0 < (1 : Int))) (fun hb15v => RQ.sub (E' := [(8, .int .i64 x0)]) ⟨lk_cv rfl hb15v, trivial⟩ (q_gtr rfl rfl rfl)) rfl rfl rfl rfl rfl ?_
 refine vq (q_or rfl rfl rfl) rfl (simL_nil (nrm_then ?_))
 refine sim_condb rfl (fun h1v => ?_) (fun h2v => ?_)
 refine sr ?_
 refine va rfl rfl ?_
 refine va rfl rfl (simL_nil (nrm_then (sim_rtn ?_)))
 refine rtn_then ?_
 exact rtn_fn () rfl rfl rfl (.sel 0 rfl (.nil _))
 refine sim_skip ?_
 refine nrm_then (sr ?_)
 refine vm rfl rfl ?_
 refine simL_bind (fun s3v hs4v => ?_)
 refine simL_eff (re_call (vs := [.int .i64 x0]) (cap := []) (A := []) (rst := [F]) rfl rfl rfl rfl rfl rfl Tryz.call39 (.sel 0 rfl (.nil _)) (strconv_Itoa.calls _ _ x0 (hgl.lend 0 rfl)) hs4v) rfl rfl rfl ?_
 intro y5v
 refine va rfl rfl (simL_nil (nrm_then ?_))
 refine sim_cut (S := List UInt8) (Unit) (fun s y => [(4, str s)]) (fun s y => [F]) ?_ ?_
 refine sim_block ?_
 refine sim_loop (S := List UInt8) (Unit) (fun k s => wal_Name.l0 k s) (fun s y => [(4, str s)]) (fun s y => [F]) (fun _ => by rw [wal_Name.l0]) ?_ k s3v () ⟨rfl, trivial⟩ (.sel 0 rfl (.nil _))
 intro k s8v y9v
 refine sim_eq (by rw [wal_Name.l0]) ?_
 refine sim_seq (sr ?_)
 refine vm rfl rfl ?_
 refine vq (q_lens rfl rfl rfl Tryz.underlying9) rfl ?_
 refine vq (q_lss rfl rfl rfl) rfl (simL_nil (nrm_then ?_))
 refine sim_cond rfl (fun h11v => ?_) (fun h12v => ?_)
 refine sim_skip ?_
 refine nrm_then ?_
 refine sim_block ?_
 refine sim_region ?_
 refine vm rfl rfl ?_
 refine simL_ask (fun hb13v => ?_)
 refine vq (q_cat rfl rfl rfl hb13v) rfl ?_
 refine va rfl rfl (simL_nil (nrm_block ?_))
 exact nrm_again (s := ([48] : List UInt8) ++ s8v) () ⟨rfl, trivial⟩ (.sel 0 rfl (.nil _))
 refine sim_exi ?_
 refine exi_then ?_
 refine exi_loop ?_
 refine exi_here ?_
 exact nrm_cut (s := s8v) () ⟨rfl, trivial⟩ (.sel 0 rfl (.nil _))
 intro s6v y7v
 refine sr ?_
 refine vm rfl rfl ?_
 refine simL_ask (fun hb14v => ?_)
 refine vq (q_cat rfl rfl rfl hb14v) rfl ?_
 refine va rfl rfl ?_
 refine va rfl rfl (simL_nil (nrm_then (sim_rtn ?_)))
 exact rtn_fn () rfl rfl rfl (.sel 0 rfl (.nil _))

def wal_must.f (x0 : Int) : Option (Unit) := if x0 = (0 : Int) then (some ()) else (none)
theorem wal_must.calls (W : World) (F : HA) (x0 : Int)  :
    Fn Tryz.prog W 43 [.int .i64 x0] [] F (wal_must.f x0) (fun (r : Unit) (y : Unit) => .tuple #[]) (fun r y => []) := by
 unfold wal_must.f
 refine fn_intro 7 Tryz.func43 rfl Tryz.ntmps43 rfl ?_
 refine sr ?_
 refine vm rfl rfl ?_
 refine vq (q_neq rfl rfl rfl) rfl (simL_nil (nrm_then ?_))
 refine sim_condn rfl (fun h1v => ?_) (fun h2v => ?_)
 refine sim_skip ?_
 exact nrm_fn () rfl rfl rfl (.sel 0 rfl (.nil _))
 exact sim_none

def wal_name.f (k : Nat) (x0 : Int) : Option (List UInt8) := (wal_Name.f k x0).bind fun s1v => ((wal_must.f s1v.2).bind fun s4v => (some s1v.1))
theorem wal_name.calls (W : World) (F : HA) (k : Nat) (x0 : Int) (hgl : Glb Tryz.prog F) :
    Fn Tryz.prog W 47 [.int .i64 x0] [] F (wal_name.f k x0) (fun (r : List UInt8) (y : Unit) => str r) (fun r y => []) := by
 unfold wal_name.f
 refine fn_intro 13 Tryz.func47 rfl Tryz.ntmps47 rfl ?_
 refine sr ?_
 refine va rfl rfl (nx ?_)
 refine vm rfl rfl ?_
 refine simL_bind (fun s1v hs2v => ?_)
 refine simL_eff (re_call (vs := [.int .i64 x0]) (cap := []) (A := []) (rst := [F]) rfl rfl rfl rfl rfl rfl Tryz.call10 (.sel 0 rfl (.nil _)) (wal_Name.calls _ _ k x0 (hgl.lend 0 rfl)) hs2v) rfl rfl rfl ?_
 intro y3v
 refine vm rfl rfl ?_
 refine vq (q_ext rfl rfl rfl) rfl ?_
 refine vq (q_ext rfl rfl rfl) rfl ?_
 refine va rfl rfl ?_
 refine va rfl rfl (nx ?_)
 refine vm rfl rfl ?_
 refine simL_bind (fun s4v hs5v => ?_)
 refine simL_eff (re_call (vs := [.int .i64 s1v.2]) (cap := []) (A := []) (rst := [F]) rfl rfl rfl rfl rfl rfl Tryz.call43 (.sel 0 rfl (.nil _)) (wal_must.calls _ _ s1v.2 ) hs5v) rfl rfl rfl ?_
 intro y6v
 refine nx ?_
 refine vm rfl rfl ?_
 refine va rfl rfl (simL_nil (nrm_then (sim_rtn ?_)))
 exact rtn_fn () rfl rfl rfl (.sel 0 rfl (.nil _))

def disk_named.l0 (x0 : List UInt8) : Nat → Int → Option ((Unit) ⊕ (Bool))
  | 0, _ => none
  | k + 1, z5v => if z5v < (x0.length : Int) then (if 0 ≤ z5v ∧ z5v < (x0.length : Int) then ((if ((decide (((x0.getD z5v.toNat 0).toNat : Int) < (97 : Int))) || (decide ((122 : Int) < ((x0.getD z5v.toNat 0).toNat : Int)))) = true then (some ((decide (((x0.getD z5v.toNat 0).toNat : Int) < (48 : Int))) || (decide ((57 : Int) < ((x0.getD z5v.toNat 0).toNat : Int))))) else (some false)).bind fun s9v => (if ((s9v && (!decide (((x0.getD z5v.toNat 0).toNat : Int) = (45 : Int)))) && (!decide (((x0.getD z5v.toNat 0).toNat : Int) = (46 : Int)))) = true then (some (.inr false)) else (disk_named.l0 x0 k (IntKind.i64.wrap (z5v + 1))))) else none) else (some (.inl ()))
def disk_named.f (k : Nat) (x0 : List UInt8) : Option (Bool) := orR (disk_named.l0 x0 k 0) fun s1v => (some ((decide ((0 : Int) < (x0.length : Int))) && (decide ((x0.length : Int) ≤ (32 : Int)))))
theorem disk_named.calls (W : World) (F : HA) (k : Nat) (x0 : List UInt8)  :
    Fn Tryz.prog W 56 [str x0] [] F (disk_named.f k x0) (fun (r : Bool) (y : Unit) => .bool r) (fun r y => []) := by
 unfold disk_named.f
 refine fn_intro 44 Tryz.func56 rfl Tryz.ntmps56 rfl ?_
 refine sr ?_
 refine va rfl rfl (simL_nil (nrm_then ?_))
 refine sim_cutR (S := Unit) (Unit) (fun s y => [(0, str x0)]) (fun s y => [F]) ?_ ?_
 refine sr ?_
 refine va rfl rfl (simL_nil (nrm_then ?_))
 refine sim_block ?_
 refine sim_loop (S := Int) (Unit) (fun k s => disk_named.l0 x0 k s) (fun s y => [(0, str x0), (3, .int .i64 s)]) (fun s y => [F]) (fun _ => by rw [disk_named.l0]) ?_ k 0 () ⟨rfl, rfl, trivial⟩ (.sel 0 rfl (.nil _))
 intro k s3v y4v
 refine sim_eq (by rw [disk_named.l0]) ?_
 refine sim_seq (sr ?_)
 refine vm rfl rfl ?_
 refine vm rfl rfl ?_
 refine vq (q_lens rfl rfl rfl Tryz.underlying9) rfl ?_
 refine vq (q_lss rfl rfl rfl) rfl (simL_nil (nrm_then ?_))
 refine sim_cond rfl (fun h6v => ?_) (fun h7v => ?_)
 refine sim_skip ?_
 refine nrm_then (sim_seq ?_)
 refine sim_block ?_
 refine sr ?_
 refine vm rfl rfl ?_
 refine vm rfl rfl ?_
 refine simL_ask (fun hi8v => ?_)
 refine vq (q_sidx rfl rfl rfl Tryz.underlying9 hi8v.1 hi8v.2) rfl ?_
 refine va rfl rfl (nx ?_)
 refine vm rfl rfl ?_
 refine vq (q_lss rfl rfl rfl) rfl ?_
 refine vm rfl rfl ?_
 refine simL_valc (b := decide (((x0.getD s3v.toNat 0).toNat : Int) < (97 : Int))) (fun hb22v => RQ.sub (E' := [(4, .int .u8 ((x0.getD s3v.toNat 0).toNat : Int))]) ⟨rfl, trivial⟩ (q_move rfl rfl)) rfl rfl rfl rfl rfl ?_
 refine simL_valc (b := decide (((x0.getD s3v.toNat 0).toNat : Int) < (97 : Int))) (fun hb21v => RQ.sub (E' := [(17, .int .u8 ((x0.getD s3v.toNat 0).toNat : Int))]) ⟨lk_cv rfl hb21v, trivial⟩ (q_gtr rfl rfl rfl)) rfl rfl rfl rfl rfl ?_
 refine vq (q_or rfl rfl rfl) rfl ?_
 refine vm rfl rfl ?_
 refine simL_cut' 7 (S := Bool) (Unit) (fun s y => [(0, str x0), (3, .int .i64 s3v), (4, .int .u8 ((x0.getD s3v.toNat 0).toNat : Int)), (27, .bool s)]) (fun s y => [F]) ?_ ?_
 refine simL_caseb (fun hb13v => ?_) (fun hb14v => ?_)
 rw [hb13v]
 refine simL_valg (q_move rfl rfl) rfl rfl rfl rfl rfl rfl ?_
 refine simL_valg (q_lss rfl rfl rfl) rfl rfl rfl rfl rfl rfl ?_
 refine simL_valg (q_move rfl rfl) rfl rfl rfl rfl rfl rfl ?_
 refine simL_valc (b := decide (((x0.getD s3v.toNat 0).toNat : Int) < (48 : Int))) (fun hb12v => RQ.sub (E' := [(4, .int .u8 ((x0.getD s3v.toNat 0).toNat : Int))]) ⟨rfl, trivial⟩ (q_move rfl rfl)) rfl rfl rfl rfl rfl ?_
 refine simL_valc (b := decide (((x0.getD s3v.toNat 0).toNat : Int) < (48 : Int))) (fun hb11v => RQ.sub (E' := [(24, .int .u8 ((x0.getD s3v.toNat 0).toNat : Int))]) ⟨lk_cv rfl hb11v, trivial⟩ (q_gtr rfl rfl rfl)) rfl rfl rfl rfl rfl ?_
 refine simL_valg (q_or rfl rfl rfl) rfl rfl rfl rfl rfl rfl ?_
 refine vq (q_pick rfl rfl rfl rfl rfl) rfl (simL_nil ?_)
 exact nrm_cut (s := (decide (((x0.getD s3v.toNat 0).toNat : Int) < (48 : Int))) || (decide ((57 : Int) < ((x0.getD s3v.toNat 0).toNat : Int)))) () ⟨rfl, rfl, rfl, rfl, trivial⟩ (.sel 0 rfl (.nil _))
 rw [hb14v]
 refine simL_skipd rfl rfl rfl rfl rfl rfl ?_
 refine simL_skipd rfl rfl rfl rfl rfl rfl ?_
 refine simL_skipd rfl rfl rfl rfl rfl rfl ?_
 refine simL_skipu rfl rfl rfl rfl rfl ?_
 refine simL_skipu rfl rfl rfl rfl rfl ?_
 refine simL_skipd rfl rfl rfl rfl rfl rfl ?_
 refine vq (q_pick rfl rfl rfl rfl rfl) rfl (simL_nil ?_)
 exact nrm_cut (s := false) () ⟨rfl, rfl, rfl, rfl, trivial⟩ (.sel 0 rfl (.nil _))
 intro s9v y10v
 refine vm rfl rfl ?_
 refine simL_valc (b := s9v) (fun hb20v => RQ.sub (E' := [(4, .int .u8 ((x0.getD s3v.toNat 0).toNat : Int))]) ⟨rfl, trivial⟩ (q_move rfl rfl)) rfl rfl rfl rfl rfl ?_
 refine simL_valc (b := s9v) (fun hb19v => RQ.sub (E' := [(29, .int .u8 ((x0.getD s3v.toNat 0).toNat : Int))]) ⟨lk_cv rfl hb19v, trivial⟩ (q_neq rfl rfl rfl)) rfl rfl rfl rfl rfl ?_
 refine vq (q_and rfl rfl rfl) rfl ?_
 refine vm rfl rfl ?_
 refine simL_valc (b := s9v && (!decide (((x0.getD s3v.toNat 0).toNat : Int) = (45 : Int)))) (fun hb18v => RQ.sub (E' := [(4, .int .u8 ((x0.getD s3v.toNat 0).toNat : Int))]) ⟨rfl, trivial⟩ (q_move rfl rfl)) rfl rfl rfl rfl rfl ?_
 refine simL_valc (b := s9v && (!decide (((x0.getD s3v.toNat 0).toNat : Int) = (45 : Int)))) (fun hb17v => RQ.sub (E' := [(33, .int .u8 ((x0.getD s3v.toNat 0).toNat : Int))]) ⟨lk_cv rfl hb17v, trivial⟩ (q_neq rfl rfl rfl)) rfl rfl rfl rfl rfl ?_
 refine vq (q_and rfl rfl rfl) rfl (simL_nil (nrm_then ?_))
 refine sim_condb rfl (fun h15v => ?_) (fun h16v => ?_)
 refine sr ?_
 refine va rfl rfl (simL_nil (nrm_then (sim_rtn ?_)))
 refine rtn_block ?_
 refine rtn_then ?_
 refine rtn_loop ?_
 refine rtn_block ?_
 refine rtn_cutR ?_
 exact rtn_fn () rfl rfl rfl (.sel 0 rfl (.nil _))
 refine sim_skip ?_
 refine nrm_block (nrm_then (sim_region ?_))
 refine vm rfl rfl ?_
 refine vq (q_add rfl rfl rfl) rfl ?_
 refine va rfl rfl (simL_nil ?_)
 exact nrm_again (s := IntKind.i64.wrap (s3v + 1)) () ⟨rfl, rfl, trivial⟩ (.sel 0 rfl (.nil _))
 refine sim_exi ?_
 refine exi_then ?_
 refine exi_loop ?_
 refine exi_here ?_
 exact nrm_cutR (s := ()) () ⟨rfl, trivial⟩ (.sel 0 rfl (.nil _))
 intro s1v y2v
 refine sr ?_
 refine vm rfl rfl ?_
 refine vq (q_lens rfl rfl rfl Tryz.underlying9) rfl ?_
 refine vq (q_gtr rfl rfl rfl) rfl ?_
 refine vm rfl rfl ?_
 refine simL_valc (b := decide ((0 : Int) < (x0.length : Int))) (fun hb25v => RQ.sub (E' := [(0, str x0)]) ⟨rfl, trivial⟩ (q_move rfl rfl)) rfl rfl rfl rfl rfl ?_
 refine simL_valc (b := decide ((0 : Int) < (x0.length : Int))) (fun hb24v => RQ.sub (E' := [(40, str x0)]) ⟨lk_cv rfl hb24v, trivial⟩ (q_lens rfl rfl rfl Tryz.underlying9)) rfl rfl rfl rfl rfl ?_
 refine simL_valc (b := decide ((0 : Int) < (x0.length : Int))) (fun hb23v => RQ.sub (E' := [(41, .int .i64 (x0.length : Int))]) ⟨lk_cv rfl hb23v, trivial⟩ (q_leq rfl rfl rfl)) rfl rfl rfl rfl rfl ?_
 refine vq (q_and rfl rfl rfl) rfl ?_
 refine va rfl rfl (simL_nil (nrm_then (sim_rtn ?_)))
 exact rtn_fn () rfl rfl rfl (.sel 0 rfl (.nil _))

def disk_Disk_Has.f (x0_0 : List ((List UInt8) × (List UInt8 × Int))) (x0_1 : List UInt8) (x0_2 : Int) (x0_3 : Bool) (x1 : List UInt8) : Option (Bool) := if (mget x0_0 x1).isSome = true then (some true) else (some false)
theorem disk_Disk_Has.calls (W : World) (F : HA) (b0 : Nat) (m0_0 : Nat) (q0_0 : Kps) (x0_0 : List ((List UInt8) × (List UInt8 × Int))) (x0_1 : List UInt8) (x0_2 : Int) (x0_3 : Bool) (x1 : List UInt8)  :
    Fn Tryz.prog W 57 [.pointer (some ⟨b0, 0, none⟩), str x1] [obj b0 97 [.map (some m0_0), str x0_1, .int .i64 x0_2, .bool x0_3], mapF (mapO m0_0 enc9 encP q0_0) FA109 q0_0 x0_0] F (disk_Disk_Has.f x0_0 x0_1 x0_2 x0_3 x1) (fun (r : Bool) (y : Unit) => .bool r) (fun r y => [obj b0 97 [.map (some m0_0), str x0_1, .int .i64 x0_2, .bool x0_3], mapF (mapO m0_0 enc9 encP q0_0) FA109 q0_0 x0_0]) := by
 unfold disk_Disk_Has.f
 refine fn_intro 12 Tryz.func57 rfl Tryz.ntmps57 rfl ?_
 refine sr ?_
 refine va rfl rfl (simL_nil (nrm_then (sim_seq ?_)))
 refine sim_if (fun hk1v => ?_) (fun hk1v => ?_)
 refine sim_region ?_
 refine vm rfl rfl ?_
 refine vn rfl rfl ?_
 refine vq (q_fa rfl rfl Tryz.underlying97 rfl rfl Tryz.sizeOf95 rfl) rfl ?_
 refine vq (q_load rfl rfl Tryz.isAgg95 (.obj 0 rfl rfl)) rfl ?_
 refine vm rfl rfl ?_
 refine vq ((q_mlookY (ek := enc9) x1 (tellsF 1 rfl) hk1v rfl rfl rfl Tryz.underlying95 key9 : RQ _ _ _ _ (.pointer (some ⟨(fptr q0_0 x1), 0, none⟩)))) rfl ?_
 refine vq (q_nep rfl rfl rfl Tryz.underlying107) rfl ?_
 refine va rfl rfl (simL_nil (nrm_then (sim_rtn ?_)))
 exact rtn_fn () rfl rfl rfl (.sel 0 rfl (.sel 0 rfl (.sel 0 rfl (.nil _))))
 refine sim_region ?_
 refine vm rfl rfl ?_
 refine vn rfl rfl ?_
 refine vq (q_fa rfl rfl Tryz.underlying97 rfl rfl Tryz.sizeOf95 rfl) rfl ?_
 refine vq (q_load rfl rfl Tryz.isAgg95 (.obj 0 rfl rfl)) rfl ?_
 refine vm rfl rfl ?_
 refine vq (q_mlookN (ek := enc9) x1 (tellsF 1 rfl) (isNone_of hk1v) rfl rfl rfl Tryz.underlying95 key9 Tryz.zeroValue107) rfl ?_
 refine vq (q_nenn rfl rfl rfl Tryz.underlying107) rfl ?_
 refine va rfl rfl (simL_nil (nrm_then (sim_rtn ?_)))
 exact rtn_fn () rfl rfl rfl (.sel 0 rfl (.sel 0 rfl (.sel 0 rfl (.nil _))))
def disk_Disk_Has.v (x0_0 : List ((List UInt8) × (List UInt8 × Int))) (x0_1 : List UInt8) (x0_2 : Int) (x0_3 : Bool) (x1 : List UInt8) : Bool := (disk_Disk_Has.f x0_0 x0_1 x0_2 x0_3 x1).getD false
theorem disk_Disk_Has.tot (x0_0 : List ((List UInt8) × (List UInt8 × Int))) (x0_1 : List UInt8) (x0_2 : Int) (x0_3 : Bool) (x1 : List UInt8) : disk_Disk_Has.f x0_0 x0_1 x0_2 x0_3 x1 = some (disk_Disk_Has.v x0_0 x0_1 x0_2 x0_3 x1) := by
  have h : ∃ r, disk_Disk_Has.f x0_0 x0_1 x0_2 x0_3 x1 = some r := by
    unfold disk_Disk_Has.f
    repeat' (first | exact ⟨_, rfl⟩ | split | simp only [Option.bind_some])
  obtain ⟨r, h⟩ := h
  unfold disk_Disk_Has.v
  rw [h]; rfl

def disk_Disk_fails.f (x0_0 : List ((List UInt8) × (List UInt8 × Int))) (x0_1 : List UInt8) (x0_2 : Int) (x0_3 : Bool) : Option (Bool × List UInt8 × Int × Bool) := if x0_2 = (0 : Int) then (some (false, x0_1, x0_2, x0_3)) else (some (decide (IntKind.i64.wrap (x0_2 - 1) = (0 : Int)), x0_1, IntKind.i64.wrap (x0_2 - 1), decide (IntKind.i64.wrap (x0_2 - 1) = (0 : Int))))
theorem disk_Disk_fails.calls (W : World) (F : HA) (b0 : Nat) (m0_0 : Nat) (q0_0 : Kps) (x0_0 : List ((List UInt8) × (List UInt8 × Int))) (x0_1 : List UInt8) (x0_2 : Int) (x0_3 : Bool)  :
    Fn Tryz.prog W 58 [.pointer (some ⟨b0, 0, none⟩)] [obj b0 97 [.map (some m0_0), str x0_1, .int .i64 x0_2, .bool x0_3], mapF (mapO m0_0 enc9 encP q0_0) FA109 q0_0 x0_0] F (disk_Disk_fails.f x0_0 x0_1 x0_2 x0_3) (fun (r : Bool × List UInt8 × Int × Bool) (y : Unit) => .bool r.1) (fun r y => [obj b0 97 [.map (some m0_0), str r.2.1, .int .i64 r.2.2.1, .bool r.2.2.2], mapF (mapO m0_0 enc9 encP q0_0) FA109 q0_0 x0_0]) := by
 unfold disk_Disk_fails.f
 refine fn_intro 27 Tryz.func58 rfl Tryz.ntmps58 rfl ?_
 refine sr ?_
 refine va rfl rfl (simL_nil (nrm_then (sim_seq (sr ?_))))
 refine vm rfl rfl ?_
 refine vn rfl rfl ?_
 refine vq (q_fa rfl rfl Tryz.underlying97 rfl rfl Tryz.sizeOf3 rfl) rfl ?_
 refine vq (q_load rfl rfl Tryz.isAgg3 (.obj 0 rfl rfl)) rfl ?_
 refine vq (q_eql rfl rfl rfl) rfl (simL_nil (nrm_then ?_))
 refine sim_cond rfl (fun h1v => ?_) (fun h2v => ?_)
 refine sr ?_
 refine va rfl rfl (simL_nil (nrm_then (sim_rtn ?_)))
 refine rtn_then ?_
 exact rtn_fn () rfl rfl rfl (.sel 0 rfl (.sel 0 rfl (.sel 0 rfl (.nil _))))
 refine sim_skip ?_
 refine nrm_then (sr ?_)
 refine vm rfl rfl ?_
 refine vn rfl rfl ?_
 refine vq (q_fa rfl rfl Tryz.underlying97 rfl rfl Tryz.sizeOf3 rfl) rfl ?_
 refine vq (q_load rfl rfl Tryz.isAgg3 (.obj 0 rfl rfl)) rfl ?_
 refine vq (q_sub rfl rfl rfl) rfl ?_
 refine vn rfl rfl ?_
 refine vq (q_fa rfl rfl Tryz.underlying97 rfl rfl Tryz.sizeOf3 rfl) rfl ?_
 refine simL_do (re_store 0 rfl rfl rfl Tryz.sizeOf3 rfl rfl (one_of (by rfl)) rfl rfl) rfl rfl ?_
 intro _
 refine nx ?_
 refine vm rfl rfl ?_
 refine vm rfl rfl ?_
 refine vn rfl rfl ?_
 refine vq (q_fa rfl rfl Tryz.underlying97 rfl rfl Tryz.sizeOf3 rfl) rfl ?_
 refine vq (q_load rfl rfl Tryz.isAgg3 (.obj 0 rfl rfl)) rfl ?_
 refine vq (q_eql rfl rfl rfl) rfl ?_
 refine vn rfl rfl ?_
 refine vq (q_fa rfl rfl Tryz.underlying97 rfl rfl Tryz.sizeOf4 rfl) rfl ?_
 refine simL_do (re_store 0 rfl rfl rfl Tryz.sizeOf4 rfl rfl (one_of (by rfl)) rfl rfl) rfl rfl ?_
 intro _
 refine nx ?_
 refine vm rfl rfl ?_
 refine vn rfl rfl ?_
 refine vq (q_fa rfl rfl Tryz.underlying97 rfl rfl Tryz.sizeOf4 rfl) rfl ?_
 refine vq (q_load rfl rfl Tryz.isAgg4 (.obj 0 rfl rfl)) rfl ?_
 refine va rfl rfl (simL_nil (nrm_then (sim_rtn ?_)))
 exact rtn_fn () rfl rfl rfl (.sel 0 rfl (.sel 0 rfl (.sel 0 rfl (.nil _))))
def disk_Disk_fails.v (x0_0 : List ((List UInt8) × (List UInt8 × Int))) (x0_1 : List UInt8) (x0_2 : Int) (x0_3 : Bool) : Bool × List UInt8 × Int × Bool := (disk_Disk_fails.f x0_0 x0_1 x0_2 x0_3).getD (false, [], 0, false)
theorem disk_Disk_fails.tot (x0_0 : List ((List UInt8) × (List UInt8 × Int))) (x0_1 : List UInt8) (x0_2 : Int) (x0_3 : Bool) : disk_Disk_fails.f x0_0 x0_1 x0_2 x0_3 = some (disk_Disk_fails.v x0_0 x0_1 x0_2 x0_3) := by
  have h : ∃ r, disk_Disk_fails.f x0_0 x0_1 x0_2 x0_3 = some r := by
    unfold disk_Disk_fails.f
    repeat' (first | exact ⟨_, rfl⟩ | split | simp only [Option.bind_some])
  obtain ⟨r, h⟩ := h
  unfold disk_Disk_fails.v
  rw [h]; rfl

def disk_Disk_Create.f (k : Nat) (x0_0 : List ((List UInt8) × (List UInt8 × Int))) (x0_1 : List UInt8) (x0_2 : Int) (x0_3 : Bool) (x1 : List UInt8) : Option (Int × (List ((List UInt8) × (List UInt8 × Int))) × List UInt8 × Int × Bool) := if x0_3 = true then (some (11, x0_0, x0_1, x0_2, x0_3)) else ((disk_named.f k x1).bind fun s3v => (if (!s3v) = true then (some (7, x0_0, x0_1, x0_2, x0_3)) else ((disk_Disk_Has.f x0_0 x0_1 x0_2 x0_3 x1).bind fun s8v => (if s8v = true then (some (9, x0_0, x0_1, x0_2, x0_3)) else (if (256 : Int) ≤ (x0_0.length : Int) then (some (10, x0_0, x0_1, x0_2, x0_3)) else ((disk_Disk_fails.f x0_0 x0_1 x0_2 x0_3).bind fun s15v => (if s15v.1 = true then (some (11, x0_0, s15v.2.1, s15v.2.2.1, s15v.2.2.2)) else (some (0, mput x0_0 x1 (([] : List UInt8), (0 : Int)), s15v.2.1, s15v.2.2.1, s15v.2.2.2)))))))))
theorem disk_Disk_Create.calls (W : World) (F : HA) (k : Nat) (b0 : Nat) (m0_0 : Nat) (q0_0 : Kps) (x0_0 : List ((List UInt8) × (List UInt8 × Int))) (x0_1 : List UInt8) (x0_2 : Int) (x0_3 : Bool) (x1 : List UInt8)  :
    Fn Tryz.prog W 21 [.pointer (some ⟨b0, 0, none⟩), str x1] [obj b0 97 [.map (some m0_0), str x0_1, .int .i64 x0_2, .bool x0_3], mapF (mapO m0_0 enc9 encP q0_0) FA109 q0_0 x0_0] F (disk_Disk_Create.f k x0_0 x0_1 x0_2 x0_3 x1) (fun (r : Int × (List ((List UInt8) × (List UInt8 × Int))) × List UInt8 × Int × Bool) (y : Nat × Kps) => .int .i64 r.1) (fun r y => [obj b0 97 [.map (some y.1), str r.2.2.1, .int .i64 r.2.2.2.1, .bool r.2.2.2.2], mapF (mapO y.1 enc9 encP y.2) FA109 y.2 r.2.1]) := by
 unfold disk_Disk_Create.f
 refine fn_intro 35 Tryz.func21 rfl Tryz.ntmps21 rfl ?_
 refine sr ?_
 refine va rfl rfl (simL_nil (nrm_then (sim_seq ?_)))
 refine sim_block ?_
 refine sr ?_
 refine vm rfl rfl ?_
 refine vn rfl rfl ?_
 refine vq (q_fa rfl rfl Tryz.underlying97 rfl rfl Tryz.sizeOf4 rfl) rfl ?_
 refine vq (q_load rfl rfl Tryz.isAgg4 (.obj 0 rfl rfl)) rfl ?_
 refine va rfl rfl (simL_nil (nrm_then ?_))
 refine sim_condb rfl (fun h1v => ?_) (fun h2v => ?_)
 refine sr ?_
 refine va rfl rfl (simL_nil (nrm_then (sim_rtn ?_)))
 refine rtn_block ?_
 refine rtn_then ?_
 exact rtn_fn (m0_0, q0_0) rfl rfl rfl (.sel 0 rfl (.sel 0 rfl (.sel 0 rfl (.nil _))))
 refine sr ?_
 refine vm rfl rfl ?_
 refine simL_bind (fun s3v hs4v => ?_)
 refine simL_eff (re_call (vs := [str x1]) (cap := []) (A := []) (rst := [obj b0 97 [.map (some m0_0), str x0_1, .int .i64 x0_2, .bool x0_3], mapF (mapO m0_0 enc9 encP q0_0) FA109 q0_0 x0_0, F]) rfl rfl rfl rfl rfl rfl Tryz.call56 (.sel 0 rfl (.sel 0 rfl (.sel 0 rfl (.nil _)))) (disk_named.calls _ _ k x1 ) hs4v) rfl rfl rfl ?_
 intro y5v
 refine vq (q_not rfl rfl) rfl ?_
 refine va rfl rfl (simL_nil (nrm_then ?_))
 refine sim_condb rfl (fun h6v => ?_) (fun h7v => ?_)
 refine sr ?_
 refine va rfl rfl (simL_nil (nrm_then (sim_rtn ?_)))
 refine rtn_block ?_
 refine rtn_then ?_
 exact rtn_fn (m0_0, q0_0) rfl rfl rfl (.sel 0 rfl (.sel 0 rfl (.sel 0 rfl (.nil _))))
 refine sr ?_
 refine vm rfl rfl ?_
 refine vm rfl rfl ?_
 refine simL_bind (fun s8v hs9v => ?_)
 refine simL_eff (re_call (vs := [.pointer (some ⟨b0, 0, none⟩), str x1]) (cap := []) (A := [obj b0 97 [.map (some m0_0), str x0_1, .int .i64 x0_2, .bool x0_3], mapF (mapO m0_0 enc9 encP q0_0) FA109 q0_0 x0_0]) (rst := [F]) rfl rfl rfl rfl rfl rfl Tryz.call57 (.sel 0 rfl (.sel 0 rfl (.sel 0 rfl (.nil _)))) (disk_Disk_Has.calls _ _ b0 m0_0 q0_0 x0_0 x0_1 x0_2 x0_3 x1 ) hs9v) rfl rfl rfl ?_
 intro y10v
 refine va rfl rfl (simL_nil (nrm_then ?_))
 refine sim_condb rfl (fun h11v => ?_) (fun h12v => ?_)
 refine sr ?_
 refine va rfl rfl (simL_nil (nrm_then (sim_rtn ?_)))
 refine rtn_block ?_
 refine rtn_then ?_
 exact rtn_fn (m0_0, q0_0) rfl rfl rfl (.sel 0 rfl (.sel 0 rfl (.sel 0 rfl (.nil _))))
 refine sr ?_
 refine vm rfl rfl ?_
 refine vn rfl rfl ?_
 refine vq (q_fa rfl rfl Tryz.underlying97 rfl rfl Tryz.sizeOf95 rfl) rfl ?_
 refine vq (q_load rfl rfl Tryz.isAgg95 (.obj 0 rfl rfl)) rfl ?_
 refine vq (q_mlenF (tellsF 1 rfl) rfl rfl rfl Tryz.underlying95) rfl ?_
 refine vq (q_geq rfl rfl rfl) rfl ?_
 refine va rfl rfl (simL_nil (nrm_then ?_))
 refine sim_cond rfl (fun h13v => ?_) (fun h14v => ?_)
 refine sr ?_
 refine va rfl rfl (simL_nil (nrm_then (sim_rtn ?_)))
 refine rtn_block ?_
 refine rtn_then ?_
 exact rtn_fn (m0_0, q0_0) rfl rfl rfl (.sel 0 rfl (.sel 0 rfl (.sel 0 rfl (.nil _))))
 refine sr ?_
 refine vm rfl rfl ?_
 refine simL_bind (fun s15v hs16v => ?_)
 refine simL_eff (re_call (vs := [.pointer (some ⟨b0, 0, none⟩)]) (cap := []) (A := [obj b0 97 [.map (some m0_0), str x0_1, .int .i64 x0_2, .bool x0_3], mapF (mapO m0_0 enc9 encP q0_0) FA109 q0_0 x0_0]) (rst := [F]) rfl rfl rfl rfl rfl rfl Tryz.call58 (.sel 0 rfl (.sel 0 rfl (.sel 0 rfl (.nil _)))) (disk_Disk_fails.calls _ _ b0 m0_0 q0_0 x0_0 x0_1 x0_2 x0_3 ) hs16v) rfl rfl rfl ?_
 intro y17v
 refine va rfl rfl (simL_nil (nrm_then ?_))
 refine sim_condb rfl (fun h18v => ?_) (fun h19v => ?_)
 refine sr ?_
 refine va rfl rfl (simL_nil (nrm_then (sim_rtn ?_)))
 refine rtn_block ?_
 refine rtn_then ?_
 exact rtn_fn (m0_0, q0_0) rfl rfl rfl (.sel 0 rfl (.sel 0 rfl (.sel 0 rfl (.nil _))))
 refine sim_skip ?_
 refine nrm_block (nrm_then (sr ?_))
 refine vm rfl rfl ?_
 refine vn rfl rfl ?_
 refine vq (q_fa rfl rfl Tryz.underlying97 rfl rfl Tryz.sizeOf95 rfl) rfl ?_
 refine vq (q_load rfl rfl Tryz.isAgg95 (.obj 0 rfl rfl)) rfl ?_
 refine vm rfl rfl ?_
 refine vq (q_build (v := .agg #[.slice none 0 0, .int .i64 0]) rfl rfl (fun _ => by kernel_rfl)) rfl ?_
 refine simL_eff (re_box rfl rfl rfl) rfl rfl rfl ?_
 intro b20v
 refine simL_do (re_mputF (ek := enc9) 2 x1 b20v rfl rfl rfl rfl Tryz.underlying95 key9 rfl) rfl rfl ?_
 intro _
 refine simL_ent (H' := [obj b0 97 [.map (some m0_0), str s15v.2.1, .int .i64 s15v.2.2.1, .bool s15v.2.2.2], mapF (mapO m0_0 enc9 encP (mput q0_0 x1 b20v)) FA109 (mput q0_0 x1 b20v) (mput x0_0 x1 (([] : List UInt8), (0 : Int))), F]) ((.sel 1 rfl (.foldU (x := x1) (p := b20v) (v := (([] : List UInt8), (0 : Int))) (none, 0) (.sel 1 rfl (.sel 0 rfl (.row_nil (.sel 0 rfl (.nil _)))))))) ?_
 refine nx ?_
 refine va rfl rfl (simL_nil (nrm_then (sim_rtn ?_)))
 exact rtn_fn (m0_0, mput q0_0 x1 b20v) rfl rfl rfl (.sel 0 rfl (.sel 0 rfl (.sel 0 rfl (.nil _))))

def wal_story_last.f (x0_0 : Int) (x0_1 : Int) (x0_2 : Int) (x0_3 : Int) (x0_4 : Int) (x0_5 : List (Ty144)) : Option (Int × Int) := if (0 : Int) < (x0_5.length : Int) then (if 0 ≤ IntKind.i64.wrap ((x0_5.length : Int) - 1) ∧ IntKind.i64.wrap ((x0_5.length : Int) - 1) < (x0_5.length : Int) then (some ((x0_5.getD (IntKind.i64.wrap ((x0_5.length : Int) - 1)).toNat dz144).2.1, (x0_5.getD (IntKind.i64.wrap ((x0_5.length : Int) - 1)).toNat dz144).1)) else none) else (some (x0_3, x0_4))
theorem wal_story_last.calls (W : World) (F : HA) (b0 : Nat) (x0_0 : Int) (x0_1 : Int) (x0_2 : Int) (x0_3 : Int) (x0_4 : Int) (a0_5 : Option Addr) (c0_5 : Nat) (x0_5 : List (Ty144)) (h0_5 : RdV F 5 (V144 F) a0_5 x0_5) (hc0_5 : x0_5.length ≤ c0_5) (hm0_5 : c0_5 ≤ maxLen) :
    Fn Tryz.prog W 61 [.pointer (some ⟨b0, 0, none⟩)] [obj b0 89 [.int .i64 x0_0, .int .i64 x0_1, .int .i64 x0_2, .int .i64 x0_3, .int .i64 x0_4, .slice a0_5 x0_5.length c0_5]] F (wal_story_last.f x0_0 x0_1 x0_2 x0_3 x0_4 x0_5) (fun (r : Int × Int) (y : Unit) => .tuple #[.int .i64 r.1, .int .i64 r.2]) (fun r y => [obj b0 89 [.int .i64 x0_0, .int .i64 x0_1, .int .i64 x0_2, .int .i64 x0_3, .int .i64 x0_4, .slice a0_5 x0_5.length c0_5]]) := by
 unfold wal_story_last.f
 refine fn_intro 34 Tryz.func61 rfl Tryz.ntmps61 rfl ?_
 refine sr ?_
 refine va rfl rfl ?_
 refine va rfl rfl (simL_nil (nrm_then (sim_seq (sr ?_))))
 refine vm rfl rfl ?_
 refine vn rfl rfl ?_
 refine vq (q_fa rfl rfl Tryz.underlying89 rfl rfl Tryz.sizeOf87 rfl) rfl ?_
 refine vq (q_load rfl rfl Tryz.isAgg87 (.obj 0 rfl rfl)) rfl ?_
 refine vq (q_len rfl rfl rfl Tryz.underlying87) rfl ?_
 refine va rfl rfl (nx ?_)
 refine vm rfl rfl ?_
 refine vq (q_gtr rfl rfl rfl) rfl (simL_nil (nrm_then ?_))
 refine sim_cond rfl (fun h1v => ?_) (fun h2v => ?_)
 refine sr ?_
 refine vm rfl rfl ?_
 refine vn rfl rfl ?_
 refine vq (q_fa rfl rfl Tryz.underlying89 rfl rfl Tryz.sizeOf87 rfl) rfl ?_
 refine vq (q_load rfl rfl Tryz.isAgg87 (.obj 0 rfl rfl)) rfl ?_
 refine vm rfl rfl ?_
 refine vq (q_sub rfl rfl rfl) rfl ?_
 refine simL_ask (fun hi3v => ?_)
 obtain ⟨b4v, b4vo, r7v, ha5v, hV8v, hlr9v, hcell10v⟩ := RdV.pos h0_5 (Up.refl _) rfl (i := (IntKind.i64.wrap ((x0_5.length : Int) - 1)).toNat) (by omega) dz144
 obtain ⟨a11v, c12v, rfl, ⟨he13v, hc14v, hm15v⟩⟩ := hV8v
 refine vq (q_idx rfl rfl rfl ha5v Tryz.underlying87 Tryz.sizeOf144 hi3v.1 hi3v.2) rfl ?_
 refine vq (q_fa rfl rfl Tryz.underlying144 rfl rfl Tryz.sizeOf35 rfl) rfl ?_
 refine vq (q_loads (vs := [.int .i64 ((x0_5.getD (IntKind.i64.wrap ((x0_5.length : Int) - 1)).toNat dz144).1), .int .i64 ((x0_5.getD (IntKind.i64.wrap ((x0_5.length : Int) - 1)).toNat dz144).2.1), .int .i64 ((x0_5.getD (IntKind.i64.wrap ((x0_5.length : Int) - 1)).toNat dz144).2.2.1), .slice a11v (((x0_5.getD (IntKind.i64.wrap ((x0_5.length : Int) - 1)).toNat dz144).2.2.2.1).length) c12v]) rfl rfl Tryz.isAgg35 Tryz.sizeOf35 rfl (fun j v hj => cellAt_off (hcell10v 1 rfl (0 + j) v (cells_lit (off := 0) rfl j v hj)))) rfl ?_
 refine simL_eff (re_alloc rfl Tryz.zeroValue35 rfl) rfl rfl rfl ?_
 intro b16v
 refine simL_do (re_store 0 rfl rfl rfl Tryz.sizeOf35 rfl rfl (one_of (by rfl)) rfl rfl) rfl rfl ?_
 intro _
 refine simL_nil (nrm_then (sim_seq ?_))
 refine sim_draw (Γ := Unit) () [[], [0], [], [2], [0, 1], rL 5] [] [0, 1, 2, 3, 4, 5] (fun i => [[0], [0], [0], [0], [0], [0]].getD i []) (fun i => [[], [], [], [], [], []].getD i []) (fun γ i => [.pointer (some ⟨b16v, 1, none⟩), .int .i64 ((x0_5.getD (IntKind.i64.wrap ((x0_5.length : Int) - 1)).toNat dz144).2.1), .pointer (some ⟨b16v, 0, none⟩), .int .i64 ((x0_5.getD (IntKind.i64.wrap ((x0_5.length : Int) - 1)).toNat dz144).1), .int .i64 ((x0_5.getD (IntKind.i64.wrap ((x0_5.length : Int) - 1)).toNat dz144).2.1), .int .i64 ((x0_5.getD (IntKind.i64.wrap ((x0_5.length : Int) - 1)).toNat dz144).1)].getD i undef) (fun j γ => [[obj b16v 35 [.int .i64 ((x0_5.getD (IntKind.i64.wrap ((x0_5.length : Int) - 1)).toNat dz144).1), .int .i64 ((x0_5.getD (IntKind.i64.wrap ((x0_5.length : Int) - 1)).toNat dz144).2.1), .int .i64 ((x0_5.getD (IntKind.i64.wrap ((x0_5.length : Int) - 1)).toNat dz144).2.2.1), .slice a11v (((x0_5.getD (IntKind.i64.wrap ((x0_5.length : Int) - 1)).toNat dz144).2.2.2.1).length) c12v], obj b0 89 [.int .i64 x0_0, .int .i64 x0_1, .int .i64 x0_2, .int .i64 x0_3, .int .i64 x0_4, .slice a0_5 x0_5.length c0_5], F]].getD j []) (fun γ => [(2, .int .i64 ((x0_5.getD (IntKind.i64.wrap ((x0_5.length : Int) - 1)).toNat dz144).2.1)), (3, .int .i64 ((x0_5.getD (IntKind.i64.wrap ((x0_5.length : Int) - 1)).toNat dz144).1))]) mixed (by decide) (by decide) (by decide) (by decide) (by decide) (by decide) (by decide) 34 rfl (by decide) (by decide) (by decide) (Ent.refl _) ?_ ?_ (fun _ => ⟨rfl, rfl, trivial⟩) ?_
 exact (aq rfl (fun γ => qp rfl rfl (.o (s := 5) rfl (by decide) .nil) (q_fa rfl rfl Tryz.underlying35 rfl rfl Tryz.sizeOf3 rfl) rfl) (aq rfl (fun γ => qp rfl rfl (.v 0 rfl rfl .nil) (q_load rfl rfl Tryz.isAgg3 (.obj 0 rfl rfl)) rfl) (aq rfl (fun γ => qp rfl rfl (.o (s := 5) rfl (by decide) .nil) (q_fa rfl rfl Tryz.underlying35 rfl rfl Tryz.sizeOf3 rfl) rfl) (aq rfl (fun γ => qp rfl rfl (.v 2 rfl rfl .nil) (q_load rfl rfl Tryz.isAgg3 (.obj 0 rfl rfl)) rfl) (aq rfl (fun γ => qp rfl rfl (.v 1 rfl rfl .nil) (q_asg rfl rfl) rfl) (aq rfl (fun γ => qp rfl rfl (.v 3 rfl rfl .nil) (q_asg rfl rfl) rfl) zA))))))
 exact zA
 intro g17v
 refine nrm_then (sim_rtn ?_)
 refine rtn_then ?_
 exact rtn_fn () rfl rfl rfl (.sel 1 rfl (.sel 1 rfl (.nil _)))
 refine sim_skip ?_
 refine nrm_then (sim_seq ?_)
 refine sim_draw (Γ := Unit) () [[], [0], [0, 1], [0, 1, 2], [], [4], [4, 5], [4, 5, 6], rL 4, rL 9] [] [0, 1, 2, 3, 4, 5, 6, 7, 8, 9] (fun i => [[0], [0], [0], [0], [0], [0], [0], [0], [0], [0]].getD i []) (fun i => [[], [], [], [], [], [], [], [], [], []].getD i []) (fun γ i => [.pointer (some ⟨b0, 0, none⟩), .pointer (some ⟨b0, 0, none⟩), .pointer (some ⟨b0, 3, none⟩), .int .i64 x0_3, .pointer (some ⟨b0, 0, none⟩), .pointer (some ⟨b0, 0, none⟩), .pointer (some ⟨b0, 4, none⟩), .int .i64 x0_4, .int .i64 x0_3, .int .i64 x0_4].getD i undef) (fun j γ => [[obj b0 89 [.int .i64 x0_0, .int .i64 x0_1, .int .i64 x0_2, .int .i64 x0_3, .int .i64 x0_4, .slice a0_5 x0_5.length c0_5], F]].getD j []) (fun γ => [(2, .int .i64 x0_3), (3, .int .i64 x0_4)]) mixed (by decide) (by decide) (by decide) (by decide) (by decide) (by decide) (by decide) 34 rfl (by decide) (by decide) (by decide) (Ent.refl _) ?_ ?_ (fun _ => ⟨rfl, rfl, trivial⟩) ?_
 exact (aq rfl (fun γ => qm rfl (.o (s := 0) rfl (by decide) .nil) rfl) (aq rfl (fun γ => qp rfl rfl (.v 0 rfl rfl .nil) (q_nil rfl rfl) rfl) (aq rfl (fun γ => qp rfl rfl (.v 1 rfl rfl .nil) (q_fa rfl rfl Tryz.underlying89 rfl rfl Tryz.sizeOf3 rfl) rfl) (aq rfl (fun γ => qp rfl rfl (.v 2 rfl rfl .nil) (q_load rfl rfl Tryz.isAgg3 (.obj 0 rfl rfl)) rfl) (aq rfl (fun γ => qm rfl (.o (s := 0) rfl (by decide) .nil) rfl) (aq rfl (fun γ => qp rfl rfl (.v 4 rfl rfl .nil) (q_nil rfl rfl) rfl) (aq rfl (fun γ => qp rfl rfl (.v 5 rfl rfl .nil) (q_fa rfl rfl Tryz.underlying89 rfl rfl Tryz.sizeOf3 rfl) rfl) (aq rfl (fun γ => qp rfl rfl (.v 6 rfl rfl .nil) (q_load rfl rfl Tryz.isAgg3 (.obj 0 rfl rfl)) rfl) (aq rfl (fun γ => qp rfl rfl (.v 3 rfl rfl .nil) (q_asg rfl rfl) rfl) (aq rfl (fun γ => qp rfl rfl (.v 7 rfl rfl .nil) (q_asg rfl rfl) rfl) zA))))))))))
 exact zA
 intro g18v
 refine nrm_then (sim_rtn ?_)
 exact rtn_fn () rfl rfl rfl (.sel 0 rfl (.sel 0 rfl (.nil _)))

def wire_NewWriter.f  : Option (List UInt8 × Int) := some (([] : List UInt8), 0)
theorem wire_NewWriter.calls (W : World) (F : HA)   :
    Fn Tryz.prog W 83 [] [] F (wire_NewWriter.f ) (fun (r : List UInt8 × Int) (y : Nat × Option Addr × Nat) => .pointer (some ⟨y.1, 0, none⟩)) (fun r y => [obj y.1 160 [.slice y.2.1 r.1.length y.2.2, .int .i64 r.2], Row 5 1 y.2.1 r.1.length y.2.2 (encB r.1)]) := by
 unfold wire_NewWriter.f
 refine fn_intro 3 Tryz.func83 rfl Tryz.ntmps83 rfl ?_
 refine sr ?_
 refine va rfl rfl (nx ?_)
 refine vq (q_build (v := .agg #[.slice none 0 0, .int .i64 0]) rfl rfl (fun _ => by kernel_rfl)) rfl ?_
 refine simL_eff (re_box rfl rfl rfl) rfl rfl rfl ?_
 intro b1v
 refine va rfl rfl (simL_nil (nrm_then (sim_rtn ?_)))
 exact rtn_fn (b1v, none, 0) rfl rfl rfl (.sel 0 rfl (.row_nil (.sel 0 rfl (.nil _))))

def wire_Size.l0 : Nat → Int → Int → Option (Int)
  | 0, _, _ => none
  | k + 1, z7v, z8v => if (128 : Int) ≤ z7v then (wire_Size.l0 k (Int.fdiv z7v (2 ^ (min (7 : Int).toNat IntKind.i64.bits))) (IntKind.i64.wrap (z8v + 1))) else (some z8v)
def wire_Size.f (k : Nat) (x0 : Int) : Option (Int) := if ((decide (x0 < (0 : Int))) || (decide ((4611686018427387904 : Int) < x0))) = true then (some 0) else ((wire_Size.l0 k x0 1).bind fun s3v => (some s3v))
theorem wire_Size.calls (W : World) (F : HA) (k : Nat) (x0 : Int)  :
    Fn Tryz.prog W 106 [.int .i64 x0] [] F (wire_Size.f k x0) (fun (r : Int) (y : Unit) => .int .i64 r) (fun r y => []) := by
 unfold wire_Size.f
 refine fn_intro 17 Tryz.func106 rfl Tryz.ntmps106 rfl ?_
 refine sr ?_
 refine va rfl rfl (simL_nil (nrm_then (sim_seq (sr ?_))))
 refine vm rfl rfl ?_
 refine vq (q_lss rfl rfl rfl) rfl ?_
 refine vm rfl rfl ?_
 refine simL_valc (b := decide (x0 < (0 : Int))) (fun hb12v => RQ.sub (E' := [(0, .int .i64 x0)]) ⟨rfl, trivial⟩ (q_move rfl rfl)) rfl rfl rfl rfl rfl ?_
 refine simL_valc (b := decide (x0 < (0 : Int))) (fun hb11v => RQ.sub (E' := [(7, .int .i64 x0)]) ⟨lk_cv rfl hb11v, trivial⟩ (q_gtr rfl rfl rfl)) rfl rfl rfl rfl rfl ?_
 refine vq (q_or rfl rfl rfl) rfl (simL_nil (nrm_then ?_))
 refine sim_condb rfl (fun h1v => ?_) (fun h2v => ?_)
 refine sr ?_
 refine va rfl rfl (simL_nil (nrm_then (sim_rtn ?_)))
 refine rtn_then ?_
 exact rtn_fn () rfl rfl rfl (.sel 0 rfl (.nil _))
 refine sim_skip ?_
 refine nrm_then (sr ?_)
 refine va rfl rfl (simL_nil (nrm_then ?_))
 refine sim_cut (S := Int) (Unit) (fun s y => [(3, .int .i64 s)]) (fun s y => [F]) ?_ ?_
 refine sim_block ?_
 refine sim_loop (S := Int × Int) (Unit) (fun k s => wire_Size.l0 k s.1 s.2) (fun s y => [(0, .int .i64 s.1), (3, .int .i64 s.2)]) (fun s y => [F]) (fun _ => by rw [wire_Size.l0]) ?_ k (x0, 1) () ⟨rfl, rfl, trivial⟩ (.sel 0 rfl (.nil _))
 intro k s5v y6v
 refine sim_eq (by rw [wire_Size.l0]) ?_
 refine sim_seq (sr ?_)
 refine vm rfl rfl ?_
 refine vq (q_geq rfl rfl rfl) rfl (simL_nil (nrm_then ?_))
 refine sim_cond rfl (fun h9v => ?_) (fun h10v => ?_)
 refine sim_skip ?_
 refine nrm_then ?_
 refine sim_block ?_
 refine sr ?_
 refine vm rfl rfl ?_
 refine vq (q_shr rfl rfl rfl (by decide)) rfl ?_
 refine va rfl rfl (ny ?_)
 refine vm rfl rfl ?_
 refine vq (q_add rfl rfl rfl) rfl ?_
 refine va rfl rfl (simL_nil (nrm_block ?_))
 exact nrm_again (s := (Int.fdiv s5v.1 (2 ^ (min (7 : Int).toNat IntKind.i64.bits)), IntKind.i64.wrap (s5v.2 + 1))) () ⟨rfl, rfl, trivial⟩ (.sel 0 rfl (.nil _))
 refine sim_exi ?_
 refine exi_then ?_
 refine exi_loop ?_
 refine exi_here ?_
 exact nrm_cut (s := s5v.2) () ⟨rfl, trivial⟩ (.sel 0 rfl (.nil _))
 intro s3v y4v
 refine sr ?_
 refine vm rfl rfl ?_
 refine va rfl rfl (simL_nil (nrm_then (sim_rtn ?_)))
 exact rtn_fn () rfl rfl rfl (.sel 0 rfl (.nil _))

def wire_sevens_1.l0 {S : Type} (step : S → Int → Option S) : Nat → Int → S → Option (Int × S)
  | 0, _, _ => none
  | k + 1, z5v, z6v => if (128 : Int) ≤ z5v then ((step z6v (IntKind.u8.wrap (bitsV .or .i64 (bitsV .and .i64 z5v 127) 128))).bind fun s9v => (wire_sevens_1.l0 step k (Int.fdiv z5v (2 ^ (min (7 : Int).toNat IntKind.i64.bits))) s9v)) else (some (z5v, z6v))
def wire_sevens_1.f {S : Type} (k : Nat) (step : S → Int → Option S) (s0 : S) (x1_0 : Int) : Option (S) := (wire_sevens_1.l0 step k x1_0 s0).bind fun s1v => ((step s1v.2 (IntKind.u8.wrap s1v.1)).bind fun s12v => (some s12v))
theorem wire_sevens_1.calls (W : World) (F : HA) (k : Nat) (S Y : Type) (l : Nat) (step : S → Int → Option S) (A : S → Y → HA) (s0 : S) (y0 : Y) (b1 : Nat) (x1_0 : Int) (hY : YieldOk Tryz.prog W l (fun (x : Int) => [.int .u8 x]) step A) :
    Fn Tryz.prog W 126 [.func (.yield l) #[] #[], .pointer (some ⟨b1, 0, none⟩)] [A s0 y0, obj b1 3 [.int .i64 x1_0]] F (wire_sevens_1.f k step s0 x1_0) (fun (r : S) (y : Y) => .tuple #[]) (fun r y => [A r y, obj b1 3 [.int .i64 x1_0]]) := by
 unfold wire_sevens_1.f
 refine fn_intro 20 Tryz.func126 rfl Tryz.ntmps126 rfl ?_
 refine sr ?_
 refine vq (q_load rfl rfl Tryz.isAgg3 (.obj 1 rfl rfl)) rfl ?_
 refine va rfl rfl (simL_nil (nrm_then ?_))
 refine sim_cut (S := Int × S) (Y) (fun s y => [(0, .func (.yield l) #[] #[]), (3, .int .i64 s.1)]) (fun s y => [obj b1 3 [.int .i64 x1_0], A s.2 y, F]) ?_ ?_
 refine sim_block ?_
 refine sim_loop (S := Int × S) (Y) (fun k s => wire_sevens_1.l0 step k s.1 s.2) (fun s y => [(0, .func (.yield l) #[] #[]), (3, .int .i64 s.1)]) (fun s y => [obj b1 3 [.int .i64 x1_0], A s.2 y, F]) (fun _ => by rw [wire_sevens_1.l0]) ?_ k (x1_0, s0) y0 ⟨rfl, rfl, trivial⟩ (.sel 1 rfl (.sel 0 rfl (.sel 0 rfl (.nil _))))
 intro k s3v y4v
 refine sim_eq (by rw [wire_sevens_1.l0]) ?_
 refine sim_seq (sr ?_)
 refine vm rfl rfl ?_
 refine vq (q_geq rfl rfl rfl) rfl (simL_nil (nrm_then ?_))
 refine sim_cond rfl (fun h7v => ?_) (fun h8v => ?_)
 refine sim_skip ?_
 refine nrm_then ?_
 refine sim_block ?_
 refine sim_seq (sr ?_)
 refine vm rfl rfl ?_
 refine vm rfl rfl ?_
 refine vq (q_and_ rfl rfl rfl) rfl ?_
 refine vq (q_or_ rfl rfl rfl) rfl ?_
 refine vq (q_conv rfl rfl Tryz.underlying3 Tryz.underlying5) rfl ?_
 refine simL_bind (fun s9v hs11v => ?_)
 refine simL_eff (re_yield (IntKind.u8.wrap (bitsV .or .i64 (bitsV .and .i64 s3v.1 127) 128)) 1 rfl rfl rfl rfl rfl rfl hY rfl hs11v) rfl rfl rfl ?_
 intro y10v
 refine vq (q_not rfl rfl) rfl (simL_nil (nrm_then ?_))
 refine sim_false rfl ?_
 refine sim_skip ?_
 refine nrm_then (sim_region ?_)
 refine vm rfl rfl ?_
 refine vq (q_shr rfl rfl rfl (by decide)) rfl ?_
 refine va rfl rfl (simL_nil (nrm_block ?_))
 exact nrm_again (s := (Int.fdiv s3v.1 (2 ^ (min (7 : Int).toNat IntKind.i64.bits)), s9v)) y10v ⟨rfl, rfl, trivial⟩ (.sel 0 rfl (.sel 0 rfl (.sel 0 rfl (.nil _))))
 refine sim_exi ?_
 refine exi_then ?_
 refine exi_loop ?_
 refine exi_here ?_
 exact nrm_cut (s := (s3v.1, s3v.2)) y4v ⟨rfl, rfl, trivial⟩ (.sel 0 rfl (.sel 0 rfl (.sel 0 rfl (.nil _))))
 intro s1v y2v
 refine sim_region ?_
 refine vm rfl rfl ?_
 refine vm rfl rfl ?_
 refine vq (q_conv rfl rfl Tryz.underlying3 Tryz.underlying5) rfl ?_
 refine simL_bind (fun s12v hs14v => ?_)
 refine simL_eff (re_yield (IntKind.u8.wrap s1v.1) 1 rfl rfl rfl rfl rfl rfl hY rfl hs14v) rfl rfl rfl ?_
 intro y13v
 refine simL_nil ?_
 exact nrm_fn y13v rfl rfl rfl (.sel 1 rfl (.sel 0 rfl (.sel 0 rfl (.nil _))))

def wire_sevens.f (x0 : Int) : Option (Int) := some x0
theorem wire_sevens.calls (W : World) (F : HA) (x0 : Int)  :
    Fn Tryz.prog W 107 [.int .i64 x0] [] F (wire_sevens.f x0) (fun (r : Int) (y : Nat) => .func (.func 126) #[] #[.pointer (some ⟨y, 0, none⟩)]) (fun r y => [obj y 3 [.int .i64 r]]) := by
 unfold wire_sevens.f
 refine fn_intro 4 Tryz.func107 rfl Tryz.ntmps107 rfl ?_
 refine sr ?_
 refine simL_eff (re_box rfl rfl rfl) rfl rfl rfl ?_
 intro b1v
 refine va rfl rfl (nx ?_)
 refine vq (q_mkfn rfl rfl rfl) rfl ?_
 refine va rfl rfl (simL_nil (nrm_then (sim_rtn ?_)))
 exact rtn_fn b1v rfl rfl rfl (.sel 0 rfl (.sel 0 rfl (.nil _)))

def wire_Writer_Int.f (k : Nat) (x0_0 : List UInt8) (x0_1 : Int) (x1 : Int) : Option (List UInt8 × Int) := if x0_1 = (0 : Int) then ((wire_Size.f k x1).bind fun s4v => (if s4v = (0 : Int) then (some (x0_0, 1)) else ((wire_sevens.f x1).bind fun s9v => ((wire_sevens_1.f k (fun (s13v : List UInt8) (x12v : Int) => if 0 ≤ x12v ∧ x12v < 256 then (if (s13v.length + ([(byte x12v)] : List UInt8).length) * 1 ≤ 140737488355328 then (some (s13v ++ ([(byte x12v)] : List UInt8))) else none) else none) x0_0 s9v).bind fun s20v => (some (s20v, x0_1)))))) else (some (x0_0, x0_1))
theorem wire_Writer_Int.calls (W : World) (F : HA) (k : Nat) (b0 : Nat) (a0_0 : Option Addr) (c0_0 : Nat) (x0_0 : List UInt8) (x0_1 : Int) (x1 : Int)  :
    Fn Tryz.prog W 84 [.pointer (some ⟨b0, 0, none⟩), .int .i64 x1] [obj b0 160 [.slice a0_0 x0_0.length c0_0, .int .i64 x0_1], Row 5 1 a0_0 x0_0.length c0_0 (encB x0_0)] F (wire_Writer_Int.f k x0_0 x0_1 x1) (fun (r : List UInt8 × Int) (y : Option Addr × Nat) => .tuple #[]) (fun r y => [obj b0 160 [.slice y.1 r.1.length y.2, .int .i64 r.2], Row 5 1 y.1 r.1.length y.2 (encB r.1)]) := by
 unfold wire_Writer_Int.f
 refine fn_introM 29 Tryz.func84 rfl Tryz.ntmps84 rfl ?_
 refine sr ?_
 refine simL_eff (re_box rfl rfl rfl) rfl rfl rfl ?_
 intro b1v
 refine simL_nil (nrm_then (sim_seq (sr ?_)))
 refine vq (q_load rfl rfl Tryz.isAgg133 (.obj 0 rfl rfl)) rfl ?_
 refine vn rfl rfl ?_
 refine vq (q_fa rfl rfl Tryz.underlying160 rfl rfl Tryz.sizeOf23 rfl) rfl ?_
 refine vq (q_load rfl rfl Tryz.isAgg23 (.obj 1 rfl rfl)) rfl ?_
 refine vq (q_neq rfl rfl rfl) rfl (simL_nil (nrm_then ?_))
 refine sim_condn rfl (fun h2v => ?_) (fun h3v => ?_)
 refine sim_skip ?_
 refine nrm_then (sim_seq (sr ?_))
 refine vm rfl rfl ?_
 refine simL_bind (fun s4v hs5v => ?_)
 refine simL_eff (re_call (vs := [.int .i64 x1]) (cap := []) (A := []) (rst := [obj b1v 133 [.pointer (some ⟨b0, 0, none⟩)], obj b0 160 [.slice a0_0 x0_0.length c0_0, .int .i64 x0_1], Row 5 1 a0_0 x0_0.length c0_0 (encB x0_0), F]) rfl rfl rfl rfl rfl rfl Tryz.call106 (.sel 0 rfl (.sel 0 rfl (.sel 0 rfl (.sel 0 rfl (.nil _))))) (wire_Size.calls _ _ k x1 ) hs5v) rfl rfl rfl ?_
 intro y6v
 refine vq (q_eql rfl rfl rfl) rfl (simL_nil (nrm_then ?_))
 refine sim_cond rfl (fun h7v => ?_) (fun h8v => ?_)
 refine sr ?_
 refine vq (q_load rfl rfl Tryz.isAgg133 (.obj 0 rfl rfl)) rfl ?_
 refine vn rfl rfl ?_
 refine vq (q_fa rfl rfl Tryz.underlying160 rfl rfl Tryz.sizeOf23 rfl) rfl ?_
 refine simL_do (re_store 1 rfl rfl rfl Tryz.sizeOf23 rfl rfl (one_of (by rfl)) rfl rfl) rfl rfl ?_
 intro _
 refine simL_nil (nrm_then (sim_rtn ?_))
 refine rtn_then ?_
 exact rtn_fnM [] (a0_0, c0_0) rfl rfl rfl (.sel 1 rfl (.sel 1 rfl (.sel 1 rfl (.nil _))))
 refine sim_skip ?_
 refine nrm_then (sr ?_)
 refine vm rfl rfl ?_
 refine simL_bind (fun s9v hs10v => ?_)
 refine simL_eff (re_call (vs := [.int .i64 x1]) (cap := []) (A := []) (rst := [obj b1v 133 [.pointer (some ⟨b0, 0, none⟩)], obj b0 160 [.slice a0_0 x0_0.length c0_0, .int .i64 x0_1], Row 5 1 a0_0 x0_0.length c0_0 (encB x0_0), F]) rfl rfl rfl rfl rfl rfl Tryz.call107 (.sel 0 rfl (.sel 0 rfl (.sel 0 rfl (.sel 0 rfl (.nil _))))) (wire_sevens.calls _ _ x1 ) hs10v) rfl rfl rfl ?_
 intro y11v
 refine simL_nil (nrm_then ?_)
 refine sim_block ?_
 refine sim_range (S := List UInt8) (Y := Option Addr × Nat) (R' := List UInt8) (Y' := (Option Addr × Nat)) (ps := [18]) (Cap := [obj y11v 3 [.int .i64 s9v]]) (rst := []) (CapB := fun r y => [obj y11v 3 [.int .i64 s9v]]) (enc := fun (x : Int) => [.int .u8 x]) (oN := wire_sevens_1.f k (fun (s13v : List UInt8) (x12v : Int) => if 0 ≤ x12v ∧ x12v < 256 then (if (s13v.length + ([(byte x12v)] : List UInt8).length) * 1 ≤ 140737488355328 then (some (s13v ++ ([(byte x12v)] : List UInt8))) else none) else none) x0_0 s9v) (fun s y => [obj b1v 133 [.pointer (some ⟨b0, 0, none⟩)], obj b0 160 [.slice y.1 s.length y.2, .int .i64 x0_1], Row 5 1 y.1 s.length y.2 (encB s), F]) x0_0 (a0_0, c0_0) (fun s13v x12v y14v => [(2, .pointer (some ⟨b1v, 0, none⟩)), (4, .int .u8 x12v)]) (fun r => r) (fun r y => y) rfl rfl Tryz.call126 (fun l A hY X => wire_sevens_1.calls _ _ k _ _ l _ A _ _ y11v s9v hY) rfl (fun _ => rfl) (.sel 1 rfl (.sel 1 rfl (.sel 1 rfl (.sel 1 rfl (.sel 0 rfl (.nil _)))))) ?_ ?_ ?_
 intro l s13v x12v y14v Fr
 refine sim_ent (H' := [obj b1v 133 [.pointer (some ⟨b0, 0, none⟩)], obj b0 160 [.slice y14v.1 s13v.length y14v.2, .int .i64 x0_1], Row 5 1 y14v.1 s13v.length y14v.2 (encB s13v), F, Fr]) (Ent.refl _) ?_
 refine sim_region ?_
 refine va rfl rfl (simL_nil ?_)
 exact nrm_cut () ⟨rfl, rfl, trivial⟩ (Ent.refl _)
 intro l s13v x12v y14v Fr
 refine sim_ent (H' := [obj b1v 133 [.pointer (some ⟨b0, 0, none⟩)], obj b0 160 [.slice y14v.1 s13v.length y14v.2, .int .i64 x0_1], Row 5 1 y14v.1 s13v.length y14v.2 (encB s13v), F, Fr]) (Ent.refl _) ?_
 refine sim_block ?_
 refine sim_ask (fun hb16v => ?_)
 refine sim_ask (fun hb18v => ?_)
 refine sim_draw (Γ := Nat × (Option Addr × Nat)) (0, (none, 0)) [[], [], [1], [1, 2], [1, 2, 3], [], [5], [1, 2, 3, 4, 5, 6], rL 8, rL 9, rL 10] [6, 7, 10] [0, 1, 2, 3, 4, 5, 8, 9] (fun i => [[0, 1, 2], [0, 1], [0, 1], [0, 1], [0, 1], [0], [], [], [2], [2], []].getD i []) (fun i => [[], [], [], [], [], [], rL 6, rL 7, [], [], rL 10].getD i []) (fun γ i => [.pointer (some ⟨b0, 0, none⟩), .pointer (some ⟨b0, 0, none⟩), .pointer (some ⟨b0, 0, none⟩), .pointer (some ⟨b0, 0, none⟩), .slice y14v.1 s13v.length y14v.2, .int .u8 x12v, .slice (some ⟨γ.1, 0, none⟩) (([(byte x12v)] : List UInt8).length) 1, .slice γ.2.1 ((s13v ++ ([(byte x12v)] : List UInt8)).length) γ.2.2, .pointer (some ⟨b0, 0, none⟩), .pointer (some ⟨b0, 0, none⟩), undef].getD i undef) (fun j γ => [[obj b1v 133 [.pointer (some ⟨b0, 0, none⟩)], obj b0 160 [.slice y14v.1 s13v.length y14v.2, .int .i64 x0_1], Row 5 1 y14v.1 s13v.length y14v.2 (encB s13v), F, Fr], [Row 5 1 (some ⟨γ.1, 0, none⟩) ([(byte x12v)] : List UInt8).length 1 (encB ([(byte x12v)] : List UInt8)), obj b1v 133 [.pointer (some ⟨b0, 0, none⟩)], obj b0 160 [.slice y14v.1 s13v.length y14v.2, .int .i64 x0_1], Row 5 1 y14v.1 s13v.length y14v.2 (encB s13v), F, Fr], [Row 5 1 (some ⟨γ.1, 0, none⟩) ([(byte x12v)] : List UInt8).length 1 (encB ([(byte x12v)] : List UInt8)), obj b1v 133 [.pointer (some ⟨b0, 0, none⟩)], obj b0 160 [.slice y14v.1 s13v.length y14v.2, .int .i64 x0_1], Row 5 1 γ.2.1 (s13v ++ ([(byte x12v)] : List UInt8)).length γ.2.2 (encB (s13v ++ ([(byte x12v)] : List UInt8))), F, Fr], [Row 5 1 (some ⟨γ.1, 0, none⟩) ([(byte x12v)] : List UInt8).length 1 (encB ([(byte x12v)] : List UInt8)), obj b1v 133 [.pointer (some ⟨b0, 0, none⟩)], obj b0 160 [.slice γ.2.1 ((s13v ++ ([(byte x12v)] : List UInt8)).length) γ.2.2, .int .i64 x0_1], Row 5 1 γ.2.1 (s13v ++ ([(byte x12v)] : List UInt8)).length γ.2.2 (encB (s13v ++ ([(byte x12v)] : List UInt8))), F, Fr]].getD j []) (fun γ => []) mixed (by decide) (by decide) (by decide) (by decide) (by decide) (by decide) (by decide) 29 rfl (by decide) (by decide) (by decide) (Ent.refl _) ?_ ?_ (fun _ => trivial) ?_
 exact (ac (fun γ => (ac (qp rfl rfl (.o (s := 2) rfl (by decide) .nil) (q_load rfl rfl Tryz.isAgg133 (.obj 0 rfl rfl)) rfl) (ac (qp rfl rfl (.o (s := 2) rfl (by decide) .nil) (q_load rfl rfl Tryz.isAgg133 (.obj 1 rfl rfl)) rfl) (ac (qp rfl rfl (.o (s := 2) rfl (by decide) .nil) (q_load rfl rfl Tryz.isAgg133 (.obj 1 rfl rfl)) rfl) zA)))) (ac (fun γ => (ac (qp rfl rfl (.o (s := 2) rfl (by decide) .nil) (q_load rfl rfl Tryz.isAgg133 (.obj 0 rfl rfl)) rfl) (ac (qp rfl rfl (.o (s := 2) rfl (by decide) .nil) (q_load rfl rfl Tryz.isAgg133 (.obj 1 rfl rfl)) rfl) zA))) (ac (fun γ => (ac (qp rfl rfl (.v 1 rfl rfl .nil) (q_nil rfl rfl) rfl) (ac (qp rfl rfl (.v 1 rfl rfl .nil) (q_nil rfl rfl) rfl) zA))) (ac (fun γ => (ac (qp rfl rfl (.v 2 rfl rfl .nil) (q_fa rfl rfl Tryz.underlying160 rfl rfl Tryz.sizeOf33 rfl) rfl) (ac (qp rfl rfl (.v 2 rfl rfl .nil) (q_fa rfl rfl Tryz.underlying160 rfl rfl Tryz.sizeOf33 rfl) rfl) zA))) (ac (fun γ => (ac (qp rfl rfl (.v 3 rfl rfl .nil) (q_load rfl rfl Tryz.isAgg33 (.obj 1 rfl rfl)) rfl) (ac (qp rfl rfl (.v 3 rfl rfl .nil) (q_load rfl rfl Tryz.isAgg33 (.obj 2 rfl rfl)) rfl) zA))) (aq rfl (fun γ => qm rfl (.o (s := 4) rfl (by decide) .nil) rfl) (aq rfl (fun γ => qp rfl rfl (.v 0 rfl rfl .nil) (q_nil rfl rfl) rfl) (aq rfl (fun γ => qp rfl rfl (.v 8 rfl rfl .nil) (q_fa rfl rfl Tryz.underlying160 rfl rfl Tryz.sizeOf33 rfl) rfl) zA))))))))
 exact (ac (fun γ => eo (Z := Nat) (fun z => (z, γ.2)) rfl rfl (.v 5 rfl rfl .nil) (re_litb (cs := [.int .u8 x12v]) ([(byte x12v)] : List UInt8) rfl rfl Tryz.underlying33 elt5 rfl (by kernel_rfl) rfl rfl (byte_lit1 hb16v)) (fun _ => ⟨rfl, rfl, rfl, rfl, rfl, rfl, trivial⟩) (fun _ => .inr rfl) (fun z => Ent.refl _)) (ac (fun γ => eo (Z := Option Addr × Nat) (fun z => (γ.1, z)) rfl rfl (.v 4 rfl rfl (.v 6 rfl rfl .nil)) (re_appendb 3 rfl rfl rfl Tryz.underlying33 elt5 rfl (Rds.row 0 rfl) hb18v) (fun _ => ⟨rfl, rfl, rfl, rfl, rfl, rfl, rfl, trivial⟩) (fun _ => .inr rfl) (fun z => Ent.refl _)) (ac (fun γ => eo (Z := Unit) (fun z => (γ.1, γ.2)) rfl rfl (.v 7 rfl rfl (.v 9 rfl rfl .nil)) (re_store 2 rfl rfl rfl Tryz.sizeOf33 rfl rfl (one_of (by rfl)) rfl rfl) (fun _ => ⟨rfl, rfl, rfl, rfl, rfl, rfl, rfl, rfl, rfl, rfl, trivial⟩) (fun _ => .inl rfl) (fun z => Ent.refl _)) zA)))
 intro g19v
 refine nrm_block ?_
 exact nrm_cut (s := s13v ++ ([(byte x12v)] : List UInt8)) (g19v.2.1, g19v.2.2) trivial (.sel 1 rfl (.sel 1 rfl (.sel 1 rfl (.sel 1 rfl (.sel 1 rfl (.nil _))))))
 intro D22v s20v y21v
 refine nrm_ent (H' := [shutD D22v, obj b1v 133 [.pointer (some ⟨b0, 0, none⟩)], obj b0 160 [.slice y21v.1 s20v.length y21v.2, .int .i64 x0_1], Row 5 1 y21v.1 s20v.length y21v.2 (encB s20v), F, obj y11v 3 [.int .i64 s9v]]) (Ent.refl _) ?_
 refine nrm_block ?_
 exact nrm_fnM [D22v] (y21v.1, y21v.2) rfl rfl rfl (.sel 0 rfl (.sel 1 rfl (.sel 1 rfl (.sel 1 rfl (.nil _)))))
 refine sim_rtn ?_
 refine rtn_then ?_
 exact rtn_fnM [] (a0_0, c0_0) rfl rfl rfl (.sel 1 rfl (.sel 1 rfl (.sel 1 rfl (.nil _))))

def codec_within.f (x0 : Int) (x1 : Int) : Option (Bool) := some ((decide (x1 ≤ x0)) && (decide (x0 ≤ (4611686018427387904 : Int))))
theorem codec_within.calls (W : World) (F : HA) (x0 : Int) (x1 : Int)  :
    Fn Tryz.prog W 105 [.int .i64 x0, .int .i64 x1] [] F (codec_within.f x0 x1) (fun (r : Bool) (y : Unit) => .bool r) (fun r y => []) := by
 unfold codec_within.f
 refine fn_intro 12 Tryz.func105 rfl Tryz.ntmps105 rfl ?_
 refine sr ?_
 refine va rfl rfl (nx ?_)
 refine vm rfl rfl ?_
 refine vm rfl rfl ?_
 refine vq (q_geq rfl rfl rfl) rfl ?_
 refine vm rfl rfl ?_
 refine simL_valc (b := decide (x1 ≤ x0)) (fun hb2v => RQ.sub (E' := [(0, .int .i64 x0)]) ⟨rfl, trivial⟩ (q_move rfl rfl)) rfl rfl rfl rfl rfl ?_
 refine simL_valc (b := decide (x1 ≤ x0)) (fun hb1v => RQ.sub (E' := [(9, .int .i64 x0)]) ⟨lk_cv rfl hb1v, trivial⟩ (q_leq rfl rfl rfl)) rfl rfl rfl rfl rfl ?_
 refine vq (q_and rfl rfl rfl) rfl ?_
 refine va rfl rfl (simL_nil (nrm_then (sim_rtn ?_)))
 exact rtn_fn () rfl rfl rfl (.sel 0 rfl (.nil _))
def codec_within.v (x0 : Int) (x1 : Int) : Bool := (codec_within.f x0 x1).getD false
theorem codec_within.tot (x0 : Int) (x1 : Int) : codec_within.f x0 x1 = some (codec_within.v x0 x1) := by
  have h : ∃ r, codec_within.f x0 x1 = some r := by
    unfold codec_within.f
    repeat' (first | exact ⟨_, rfl⟩ | split | simp only [Option.bind_some])
  obtain ⟨r, h⟩ := h
  unfold codec_within.v
  rw [h]; rfl

def codec_Entries_Check.f (x1_0 : Int) (x1_1 : Int) (x1_2 : Int) (x1_3 : List UInt8) : Option (Int) := (codec_within.f x1_0 (1 : Int)).bind fun s3v => ((if (!s3v) = true then (some true) else ((codec_within.f x1_1 (1 : Int)).bind fun s8v => (some (!s8v)))).bind fun s6v => (if s6v = true then (some 1) else (if ((!decide (x1_2 = (0 : Int))) && (!decide (x1_2 = (1 : Int)))) = true then (some 6) else (if (4096 : Int) < (x1_3.length : Int) then (some 3) else (if ((decide (x1_2 = (0 : Int))) && (decide ((0 : Int) < (x1_3.length : Int)))) = true then (some 4) else (some 0))))))
theorem codec_Entries_Check.calls (W : World) (F : HA) (x1_0 : Int) (x1_1 : Int) (x1_2 : Int) (a1_3 : Option Addr) (c1_3 : Nat) (x1_3 : List UInt8) (h1_3 : Rd F a1_3 (encB x1_3)) (hc1_3 : x1_3.length ≤ c1_3) (hm1_3 : c1_3 ≤ maxLen) :
    Fn Tryz.prog W 79 [.agg #[], .agg #[.int .i64 x1_0, .int .i64 x1_1, .int .i64 x1_2, .slice a1_3 x1_3.length c1_3]] [] F (codec_Entries_Check.f x1_0 x1_1 x1_2 x1_3) (fun (r : Int) (y : Unit) => .int .i64 r) (fun r y => []) := by
 unfold codec_Entries_Check.f
 refine fn_intro 40 Tryz.func79 rfl Tryz.ntmps79 rfl ?_
 refine sr ?_
 refine simL_eff (re_box rfl rfl rfl) rfl rfl rfl ?_
 intro b1v
 refine simL_eff (re_box rfl rfl rfl) rfl rfl rfl ?_
 intro b2v
 refine va rfl rfl (simL_nil (nrm_then (sim_seq ?_)))
 refine sim_block ?_
 refine sr ?_
 refine vq (q_fa rfl rfl Tryz.underlying35 rfl rfl Tryz.sizeOf3 rfl) rfl ?_
 refine vq (q_load rfl rfl Tryz.isAgg3 (.obj 0 rfl rfl)) rfl ?_
 refine simL_bind (fun s3v hs4v => ?_)
 refine simL_eff (re_call (vs := [.int .i64 x1_0, .int .i64 1]) (cap := []) (A := []) (rst := [obj b2v 35 [.int .i64 x1_0, .int .i64 x1_1, .int .i64 x1_2, .slice a1_3 x1_3.length c1_3], obj b1v 131 [], F]) rfl rfl rfl rfl rfl rfl Tryz.call105 (.sel 0 rfl (.sel 0 rfl (.sel 0 rfl (.nil _)))) (codec_within.calls _ _ x1_0 (1 : Int) ) hs4v) rfl rfl rfl ?_
 intro y5v
 refine vq (q_not rfl rfl) rfl ?_
 refine vm rfl rfl ?_
 refine simL_cut' 5 (S := Bool) (Unit) (fun s y => [(3, .pointer (some ⟨b2v, 0, none⟩)), (15, .bool s)]) (fun s y => [obj b2v 35 [.int .i64 x1_0, .int .i64 x1_1, .int .i64 x1_2, .slice a1_3 x1_3.length c1_3], F]) ?_ ?_
 refine simL_caseb (fun hb11v => ?_) (fun hb12v => ?_)
 rw [hb11v]
 refine simL_skipd rfl rfl rfl rfl rfl rfl ?_
 refine simL_skipd rfl rfl rfl rfl rfl rfl ?_
 refine simL_skipd rfl rfl rfl rfl rfl rfl ?_
 refine simL_skipd rfl rfl rfl rfl rfl rfl ?_
 refine vq (q_pick rfl rfl rfl rfl rfl) rfl (simL_nil ?_)
 exact nrm_cut (s := true) () ⟨rfl, rfl, trivial⟩ (.sel 0 rfl (.sel 1 rfl (.nil _)))
 rw [hb12v]
 refine simL_valg (q_fa rfl rfl Tryz.underlying35 rfl rfl Tryz.sizeOf3 rfl) rfl rfl rfl rfl rfl rfl ?_
 refine simL_valg (q_load rfl rfl Tryz.isAgg3 (.obj 0 rfl rfl)) rfl rfl rfl rfl rfl rfl ?_
 refine simL_bind (fun s8v hs9v => ?_)
 refine simL_effg (re_call (vs := [.int .i64 x1_1, .int .i64 1]) (cap := []) (A := []) (rst := [obj b2v 35 [.int .i64 x1_0, .int .i64 x1_1, .int .i64 x1_2, .slice a1_3 x1_3.length c1_3], obj b1v 131 [], F]) rfl rfl rfl rfl rfl rfl Tryz.call105 (.sel 0 rfl (.sel 0 rfl (.sel 0 rfl (.nil _)))) (codec_within.calls _ _ x1_1 (1 : Int) ) hs9v) rfl rfl rfl rfl rfl rfl ?_
 intro y10v
 refine simL_valg (q_not rfl rfl) rfl rfl rfl rfl rfl rfl ?_
 refine vq (q_pick rfl rfl rfl rfl rfl) rfl (simL_nil ?_)
 exact nrm_cut (s := !s8v) () ⟨rfl, rfl, trivial⟩ (.sel 0 rfl (.sel 1 rfl (.nil _)))
 intro s6v y7v
 refine va rfl rfl (simL_nil (nrm_then ?_))
 refine sim_condb rfl (fun h13v => ?_) (fun h14v => ?_)
 refine sr ?_
 refine va rfl rfl (simL_nil (nrm_then (sim_rtn ?_)))
 refine rtn_block ?_
 refine rtn_then ?_
 exact rtn_fn () rfl rfl rfl (.sel 1 rfl (.nil _))
 refine sr ?_
 refine vq (q_fa rfl rfl Tryz.underlying35 rfl rfl Tryz.sizeOf3 rfl) rfl ?_
 refine vq (q_load rfl rfl Tryz.isAgg3 (.obj 0 rfl rfl)) rfl ?_
 refine vq (q_neq rfl rfl rfl) rfl ?_
 refine vm rfl rfl ?_
 refine simL_valc (b := !decide (x1_2 = (0 : Int))) (fun hb27v => RQ.sub (E' := [(3, .pointer (some ⟨b2v, 0, none⟩))]) ⟨rfl, trivial⟩ (q_fa rfl rfl Tryz.underlying35 rfl rfl Tryz.sizeOf3 rfl)) rfl rfl rfl rfl rfl ?_
 refine simL_valc (b := !decide (x1_2 = (0 : Int))) (fun hb26v => RQ.sub (E' := [(21, .pointer (some ⟨b2v, 2, none⟩))]) ⟨lk_cv rfl hb26v, trivial⟩ (q_load rfl rfl Tryz.isAgg3 (.obj 0 rfl rfl))) rfl rfl rfl rfl rfl ?_
 refine simL_valc (b := !decide (x1_2 = (0 : Int))) (fun hb25v => RQ.sub (E' := [(22, .int .i64 x1_2)]) ⟨lk_cv rfl hb25v, trivial⟩ (q_neq rfl rfl rfl)) rfl rfl rfl rfl rfl ?_
 refine vq (q_and rfl rfl rfl) rfl ?_
 refine va rfl rfl (simL_nil (nrm_then ?_))
 refine sim_condb rfl (fun h15v => ?_) (fun h16v => ?_)
 refine sr ?_
 refine va rfl rfl (simL_nil (nrm_then (sim_rtn ?_)))
 refine rtn_block ?_
 refine rtn_then ?_
 exact rtn_fn () rfl rfl rfl (.sel 1 rfl (.nil _))
 refine sr ?_
 refine vq (q_fa rfl rfl Tryz.underlying35 rfl rfl Tryz.sizeOf33 rfl) rfl ?_
 refine vq (q_load rfl rfl Tryz.isAgg33 (.obj 0 rfl rfl)) rfl ?_
 refine vq (q_len rfl rfl rfl Tryz.underlying33) rfl ?_
 refine vq (q_gtr rfl rfl rfl) rfl ?_
 refine va rfl rfl (simL_nil (nrm_then ?_))
 refine sim_cond rfl (fun h17v => ?_) (fun h18v => ?_)
 refine sr ?_
 refine va rfl rfl (simL_nil (nrm_then (sim_rtn ?_)))
 refine rtn_block ?_
 refine rtn_then ?_
 exact rtn_fn () rfl rfl rfl (.sel 1 rfl (.nil _))
 refine sr ?_
 refine vq (q_fa rfl rfl Tryz.underlying35 rfl rfl Tryz.sizeOf3 rfl) rfl ?_
 refine vq (q_load rfl rfl Tryz.isAgg3 (.obj 0 rfl rfl)) rfl ?_
 refine vq (q_eql rfl rfl rfl) rfl ?_
 refine vm rfl rfl ?_
 refine simL_valc (b := decide (x1_2 = (0 : Int))) (fun hb24v => RQ.sub (E' := [(3, .pointer (some ⟨b2v, 0, none⟩))]) ⟨rfl, trivial⟩ (q_fa rfl rfl Tryz.underlying35 rfl rfl Tryz.sizeOf33 rfl)) rfl rfl rfl rfl rfl ?_
 refine simL_valc (b := decide (x1_2 = (0 : Int))) (fun hb23v => RQ.sub (E' := [(35, .pointer (some ⟨b2v, 3, none⟩))]) ⟨lk_cv rfl hb23v, trivial⟩ (q_load rfl rfl Tryz.isAgg33 (.obj 0 rfl rfl))) rfl rfl rfl rfl rfl ?_
 refine simL_valc (b := decide (x1_2 = (0 : Int))) (fun hb22v => RQ.sub (E' := [(36, .slice a1_3 x1_3.length c1_3)]) ⟨lk_cv rfl hb22v, trivial⟩ (q_len rfl rfl rfl Tryz.underlying33)) rfl rfl rfl rfl rfl ?_
 refine simL_valc (b := decide (x1_2 = (0 : Int))) (fun hb21v => RQ.sub (E' := [(37, .int .i64 (x1_3.length : Int))]) ⟨lk_cv rfl hb21v, trivial⟩ (q_gtr rfl rfl rfl)) rfl rfl rfl rfl rfl ?_
 refine vq (q_and rfl rfl rfl) rfl ?_
 refine va rfl rfl (simL_nil (nrm_then ?_))
 refine sim_condb rfl (fun h19v => ?_) (fun h20v => ?_)
 refine sr ?_
 refine va rfl rfl (simL_nil (nrm_then (sim_rtn ?_)))
 refine rtn_block ?_
 refine rtn_then ?_
 exact rtn_fn () rfl rfl rfl (.sel 1 rfl (.nil _))
 refine sim_skip ?_
 refine nrm_block (nrm_then (sr ?_))
 refine va rfl rfl (simL_nil (nrm_then (sim_rtn ?_)))
 exact rtn_fn () rfl rfl rfl (.sel 1 rfl (.nil _))
def codec_Entries_Check.v (x1_0 : Int) (x1_1 : Int) (x1_2 : Int) (x1_3 : List UInt8) : Int := (codec_Entries_Check.f x1_0 x1_1 x1_2 x1_3).getD 0
theorem codec_Entries_Check.tot (x1_0 : Int) (x1_1 : Int) (x1_2 : Int) (x1_3 : List UInt8) : codec_Entries_Check.f x1_0 x1_1 x1_2 x1_3 = some (codec_Entries_Check.v x1_0 x1_1 x1_2 x1_3) := by
  have h : ∃ r, codec_Entries_Check.f x1_0 x1_1 x1_2 x1_3 = some r := by
    unfold codec_Entries_Check.f
    repeat' (first | exact ⟨_, rfl⟩ | split | simp only [Option.bind_some, codec_within.tot])
  obtain ⟨r, h⟩ := h
  unfold codec_Entries_Check.v
  rw [h]; rfl

def wire_Writer_Bytes.f (k : Nat) (x0_0 : List UInt8) (x0_1 : Int) (x1 : List UInt8) (x2 : Int) : Option (List UInt8 × Int) := (if ((decide (x0_1 = (0 : Int))) && (decide (max x2 (0 : Int) < (x1.length : Int)))) = true then (some 3) else (some x0_1)).bind fun s1v => (if s1v = (0 : Int) then ((wire_Writer_Int.f k x0_0 s1v (x1.length : Int)).bind fun s12v => (if (s12v.1.length + x1.length) * 1 ≤ 140737488355328 then (some (s12v.1 ++ x1, s12v.2)) else none)) else (some (x0_0, s1v)))
theorem wire_Writer_Bytes.calls (W : World) (F : HA) (k : Nat) (b0 : Nat) (a0_0 : Option Addr) (c0_0 : Nat) (x0_0 : List UInt8) (x0_1 : Int) (a1 : Option Addr) (c1 : Nat) (x1 : List UInt8) (x2 : Int) (h1 : Rd F a1 (encB x1)) (hc1 : x1.length ≤ c1) (hm1 : c1 ≤ maxLen) :
    Fn Tryz.prog W 86 [.pointer (some ⟨b0, 0, none⟩), .slice a1 x1.length c1, .int .i64 x2] [obj b0 160 [.slice a0_0 x0_0.length c0_0, .int .i64 x0_1], Row 5 1 a0_0 x0_0.length c0_0 (encB x0_0)] F (wire_Writer_Bytes.f k x0_0 x0_1 x1 x2) (fun (r : List UInt8 × Int) (y : Option Addr × Nat) => .tuple #[]) (fun r y => [obj b0 160 [.slice y.1 r.1.length y.2, .int .i64 r.2], Row 5 1 y.1 r.1.length y.2 (encB r.1)]) := by
 unfold wire_Writer_Bytes.f
 refine fn_intro 39 Tryz.func86 rfl Tryz.ntmps86 rfl ?_
 refine sim_cut (S := Int) (Unit) (fun s y => [(0, .pointer (some ⟨b0, 0, none⟩)), (1, .slice a1 x1.length c1)]) (fun s y => [obj b0 160 [.slice a0_0 x0_0.length c0_0, .int .i64 s], Row 5 1 a0_0 x0_0.length c0_0 (encB x0_0), F]) ?_ ?_
 refine sr ?_
 refine vm rfl rfl ?_
 refine vn rfl rfl ?_
 refine vq (q_fa rfl rfl Tryz.underlying160 rfl rfl Tryz.sizeOf23 rfl) rfl ?_
 refine vq (q_load rfl rfl Tryz.isAgg23 (.obj 0 rfl rfl)) rfl ?_
 refine vq (q_eql rfl rfl rfl) rfl ?_
 refine vm rfl rfl ?_
 refine simL_valc (b := decide (x0_1 = (0 : Int))) (fun hb9v => RQ.sub (E' := [(1, .slice a1 x1.length c1)]) ⟨rfl, trivial⟩ (q_move rfl rfl)) rfl rfl rfl rfl rfl ?_
 refine simL_valc (b := decide (x0_1 = (0 : Int))) (fun hb8v => RQ.sub (E' := [(12, .slice a1 x1.length c1)]) ⟨lk_cv rfl hb8v, trivial⟩ (q_len rfl rfl rfl Tryz.underlying33)) rfl rfl rfl rfl rfl ?_
 refine simL_valc (b := decide (x0_1 = (0 : Int))) (fun hb7v => RQ.sub (E' := [(2, .int .i64 x2)]) ⟨rfl, trivial⟩ (q_move rfl rfl)) rfl rfl rfl rfl rfl ?_
 refine simL_valc (b := decide (x0_1 = (0 : Int))) (fun hb6v => RQ.sub (E' := [(14, .int .i64 x2)]) ⟨lk_cv rfl hb6v, trivial⟩ (q_max rfl rfl rfl)) rfl rfl rfl rfl rfl ?_
 refine simL_valc (b := decide (x0_1 = (0 : Int))) (fun hb5v => RQ.sub (E' := [(13, .int .i64 (x1.length : Int)), (15, .int .i64 (max x2 (0 : Int)))]) ⟨lk_cv rfl hb5v, lk_cv rfl hb5v, trivial⟩ (q_gtr rfl rfl rfl)) rfl rfl rfl rfl rfl ?_
 refine vq (q_and rfl rfl rfl) rfl (simL_nil (nrm_then ?_))
 refine sim_condb rfl (fun h3v => ?_) (fun h4v => ?_)
 refine sim_region ?_
 refine vm rfl rfl ?_
 refine vn rfl rfl ?_
 refine vq (q_fa rfl rfl Tryz.underlying160 rfl rfl Tryz.sizeOf23 rfl) rfl ?_
 refine simL_do (re_store 0 rfl rfl rfl Tryz.sizeOf23 rfl rfl (one_of (by rfl)) rfl rfl) rfl rfl ?_
 intro _
 refine simL_nil ?_
 exact nrm_cut (s := 3) () ⟨rfl, rfl, trivial⟩ (.sel 0 rfl (.sel 0 rfl (.sel 0 rfl (.nil _))))
 refine sim_skip ?_
 exact nrm_cut (s := x0_1) () ⟨rfl, rfl, trivial⟩ (.sel 0 rfl (.sel 0 rfl (.sel 0 rfl (.nil _))))
 intro s1v y2v
 refine sim_seq (sr ?_)
 refine vm rfl rfl ?_
 refine vn rfl rfl ?_
 refine vq (q_fa rfl rfl Tryz.underlying160 rfl rfl Tryz.sizeOf23 rfl) rfl ?_
 refine vq (q_load rfl rfl Tryz.isAgg23 (.obj 0 rfl rfl)) rfl ?_
 refine vq (q_neq rfl rfl rfl) rfl (simL_nil (nrm_then ?_))
 refine sim_condn rfl (fun h10v => ?_) (fun h11v => ?_)
 refine sim_skip ?_
 refine nrm_then (sr ?_)
 refine vm rfl rfl ?_
 refine vm rfl rfl ?_
 refine vq (q_len rfl rfl rfl Tryz.underlying33) rfl ?_
 refine simL_bind (fun s12v hs13v => ?_)
 refine simL_eff (re_call (vs := [.pointer (some ⟨b0, 0, none⟩), .int .i64 (x1.length : Int)]) (cap := []) (A := [obj b0 160 [.slice a0_0 x0_0.length c0_0, .int .i64 s1v], Row 5 1 a0_0 x0_0.length c0_0 (encB x0_0)]) (rst := [F]) rfl rfl rfl rfl rfl rfl Tryz.call84 (.sel 0 rfl (.sel 0 rfl (.sel 0 rfl (.nil _)))) (wire_Writer_Int.calls _ _ k b0 a0_0 c0_0 x0_0 s1v (x1.length : Int) ) hs13v) rfl rfl rfl ?_
 intro y14v
 refine ny ?_
 refine vm rfl rfl ?_
 refine vm rfl rfl ?_
 refine vn rfl rfl ?_
 refine vq (q_fa rfl rfl Tryz.underlying160 rfl rfl Tryz.sizeOf33 rfl) rfl ?_
 refine vq (q_load rfl rfl Tryz.isAgg33 (.obj 0 rfl rfl)) rfl ?_
 refine vm rfl rfl ?_
 refine simL_ask (fun hb16v => ?_)
 refine simL_eff (re_appendb 1 rfl rfl rfl Tryz.underlying33 elt5 rfl (h1.rds 1 rfl) hb16v) rfl rfl rfl ?_
 intro y15v
 refine vn rfl rfl ?_
 refine vq (q_fa rfl rfl Tryz.underlying160 rfl rfl Tryz.sizeOf33 rfl) rfl ?_
 refine simL_do (re_store 0 rfl rfl rfl Tryz.sizeOf33 rfl rfl (one_of (by rfl)) rfl rfl) rfl rfl ?_
 intro _
 refine simL_nil ?_
 exact nrm_fn (y15v.1, y15v.2) rfl rfl rfl (.sel 0 rfl (.sel 0 rfl (.sel 0 rfl (.nil _))))
 refine sim_rtn ?_
 refine rtn_then ?_
 exact rtn_fn (a0_0, c0_0) rfl rfl rfl (.sel 0 rfl (.sel 0 rfl (.sel 0 rfl (.nil _))))

def codec_Entries_Put_1.f (k : Nat) (x0_0 : List UInt8) (x0_1 : Int) (x1_0 : Int) (x1_1 : Int) (x1_2 : Int) (x1_3 : List UInt8) : Option (List UInt8 × Int) := (wire_Writer_Int.f k x0_0 x0_1 x1_0).bind fun s1v => ((wire_Writer_Int.f k s1v.1 s1v.2 x1_1).bind fun s4v => ((wire_Writer_Int.f k s4v.1 s4v.2 x1_2).bind fun s7v => ((wire_Writer_Bytes.f k s7v.1 s7v.2 x1_3 (4096 : Int)).bind fun s10v => (some (s10v.1, s10v.2)))))
theorem codec_Entries_Put_1.calls (W : World) (F : HA) (k : Nat) (b0 : Nat) (a0_0 : Option Addr) (c0_0 : Nat) (x0_0 : List UInt8) (x0_1 : Int) (b1 : Nat) (x1_0 : Int) (x1_1 : Int) (x1_2 : Int) (a1_3 : Option Addr) (c1_3 : Nat) (x1_3 : List UInt8) (h1_3 : Rd F a1_3 (encB x1_3)) (hc1_3 : x1_3.length ≤ c1_3) (hm1_3 : c1_3 ≤ maxLen) :
    Fn Tryz.prog W 109 [.pointer (some ⟨b0, 0, none⟩), .pointer (some ⟨b1, 0, none⟩)] [obj b0 160 [.slice a0_0 x0_0.length c0_0, .int .i64 x0_1], Row 5 1 a0_0 x0_0.length c0_0 (encB x0_0), obj b1 35 [.int .i64 x1_0, .int .i64 x1_1, .int .i64 x1_2, .slice a1_3 x1_3.length c1_3]] F (codec_Entries_Put_1.f k x0_0 x0_1 x1_0 x1_1 x1_2 x1_3) (fun (r : List UInt8 × Int) (y : Option Addr × Nat) => .tuple #[]) (fun r y => [obj b0 160 [.slice y.1 r.1.length y.2, .int .i64 r.2], Row 5 1 y.1 r.1.length y.2 (encB r.1), obj b1 35 [.int .i64 x1_0, .int .i64 x1_1, .int .i64 x1_2, .slice a1_3 x1_3.length c1_3]]) := by
 unfold codec_Entries_Put_1.f
 refine fn_intro 19 Tryz.func109 rfl Tryz.ntmps109 rfl ?_
 refine sr ?_
 refine vm rfl rfl ?_
 refine vq (q_fa rfl rfl Tryz.underlying35 rfl rfl Tryz.sizeOf3 rfl) rfl ?_
 refine vq (q_load rfl rfl Tryz.isAgg3 (.obj 2 rfl rfl)) rfl ?_
 refine simL_bind (fun s1v hs2v => ?_)
 refine simL_eff (re_call (vs := [.pointer (some ⟨b0, 0, none⟩), .int .i64 x1_0]) (cap := []) (A := [obj b0 160 [.slice a0_0 x0_0.length c0_0, .int .i64 x0_1], Row 5 1 a0_0 x0_0.length c0_0 (encB x0_0)]) (rst := [obj b1 35 [.int .i64 x1_0, .int .i64 x1_1, .int .i64 x1_2, .slice a1_3 x1_3.length c1_3], F]) rfl rfl rfl rfl rfl rfl Tryz.call84 (.sel 0 rfl (.sel 0 rfl (.sel 0 rfl (.sel 0 rfl (.nil _))))) (wire_Writer_Int.calls _ _ k b0 a0_0 c0_0 x0_0 x0_1 x1_0 ) hs2v) rfl rfl rfl ?_
 intro y3v
 refine nx ?_
 refine vm rfl rfl ?_
 refine vq (q_fa rfl rfl Tryz.underlying35 rfl rfl Tryz.sizeOf3 rfl) rfl ?_
 refine vq (q_load rfl rfl Tryz.isAgg3 (.obj 2 rfl rfl)) rfl ?_
 refine simL_bind (fun s4v hs5v => ?_)
 refine simL_eff (re_call (vs := [.pointer (some ⟨b0, 0, none⟩), .int .i64 x1_1]) (cap := []) (A := [obj b0 160 [.slice y3v.1 s1v.1.length y3v.2, .int .i64 s1v.2], Row 5 1 y3v.1 s1v.1.length y3v.2 (encB s1v.1)]) (rst := [obj b1 35 [.int .i64 x1_0, .int .i64 x1_1, .int .i64 x1_2, .slice a1_3 x1_3.length c1_3], F]) rfl rfl rfl rfl rfl rfl Tryz.call84 (.sel 0 rfl (.sel 0 rfl (.sel 0 rfl (.sel 0 rfl (.nil _))))) (wire_Writer_Int.calls _ _ k b0 y3v.1 y3v.2 s1v.1 s1v.2 x1_1 ) hs5v) rfl rfl rfl ?_
 intro y6v
 refine nx ?_
 refine vm rfl rfl ?_
 refine vq (q_fa rfl rfl Tryz.underlying35 rfl rfl Tryz.sizeOf3 rfl) rfl ?_
 refine vq (q_load rfl rfl Tryz.isAgg3 (.obj 2 rfl rfl)) rfl ?_
 refine simL_bind (fun s7v hs8v => ?_)
 refine simL_eff (re_call (vs := [.pointer (some ⟨b0, 0, none⟩), .int .i64 x1_2]) (cap := []) (A := [obj b0 160 [.slice y6v.1 s4v.1.length y6v.2, .int .i64 s4v.2], Row 5 1 y6v.1 s4v.1.length y6v.2 (encB s4v.1)]) (rst := [obj b1 35 [.int .i64 x1_0, .int .i64 x1_1, .int .i64 x1_2, .slice a1_3 x1_3.length c1_3], F]) rfl rfl rfl rfl rfl rfl Tryz.call84 (.sel 0 rfl (.sel 0 rfl (.sel 0 rfl (.sel 0 rfl (.nil _))))) (wire_Writer_Int.calls _ _ k b0 y6v.1 y6v.2 s4v.1 s4v.2 x1_2 ) hs8v) rfl rfl rfl ?_
 intro y9v
 refine ny ?_
 refine vm rfl rfl ?_
 refine vq (q_fa rfl rfl Tryz.underlying35 rfl rfl Tryz.sizeOf33 rfl) rfl ?_
 refine vq (q_load rfl rfl Tryz.isAgg33 (.obj 2 rfl rfl)) rfl ?_
 refine simL_bind (fun s10v hs11v => ?_)
 refine simL_eff (re_call (vs := [.pointer (some ⟨b0, 0, none⟩), .slice a1_3 x1_3.length c1_3, .int .i64 4096]) (cap := []) (A := [obj b0 160 [.slice y9v.1 s7v.1.length y9v.2, .int .i64 s7v.2], Row 5 1 y9v.1 s7v.1.length y9v.2 (encB s7v.1)]) (rst := [obj b1 35 [.int .i64 x1_0, .int .i64 x1_1, .int .i64 x1_2, .slice a1_3 x1_3.length c1_3], F]) rfl rfl rfl rfl rfl rfl Tryz.call86 (.sel 0 rfl (.sel 0 rfl (.sel 0 rfl (.sel 0 rfl (.nil _))))) (wire_Writer_Bytes.calls _ _ k b0 y9v.1 y9v.2 s7v.1 s7v.2 a1_3 c1_3 x1_3 (4096 : Int) (h1_3.lend 1 rfl) hc1_3 hm1_3) hs11v) rfl rfl rfl ?_
 intro y12v
 refine simL_nil ?_
 exact nrm_fn (y12v.1, y12v.2) rfl rfl rfl (.sel 0 rfl (.sel 0 rfl (.sel 0 rfl (.sel 0 rfl (.nil _)))))

def wire_fresh.f (x0 : List UInt8) : Option (List UInt8) := if 0 ≤ (x0.length : Int) ∧ (x0.length : Int) ≤ (x0.length : Int) ∧ (x0.length : Int) * 1 ≤ 140737488355328 then (some (copyB (List.replicate (x0.length : Int).toNat (0 : UInt8)) x0)) else none
theorem wire_fresh.calls (W : World) (F : HA) (a0 : Option Addr) (c0 : Nat) (x0 : List UInt8) (h0 : Rd F a0 (encB x0)) (hc0 : x0.length ≤ c0) (hm0 : c0 ≤ maxLen) :
    Fn Tryz.prog W 110 [.slice a0 x0.length c0] [] F (wire_fresh.f x0) (fun (r : List UInt8) (y : Option Addr × Nat) => .slice y.1 r.length y.2) (fun r y => [Row 5 1 y.1 r.length y.2 (encB r)]) := by
 unfold wire_fresh.f
 refine fn_intro 11 Tryz.func110 rfl Tryz.ntmps110 rfl ?_
 refine sr ?_
 refine va rfl rfl (nx ?_)
 refine vm rfl rfl ?_
 refine vq (q_len rfl rfl rfl Tryz.underlying33) rfl ?_
 refine simL_ask (fun hb2v => ?_)
 refine simL_eff (re_makeb rfl rfl rfl Tryz.underlying33 elt5 hb2v.1 hb2v.2.1 hb2v.2.2) rfl rfl rfl ?_
 intro b1v
 refine va rfl rfl (nx ?_)
 refine vm rfl rfl ?_
 refine vm rfl rfl ?_
 refine simL_eff (re_copyb 0 rfl rfl rfl Tryz.underlying33 elt5 rfl (h0.rds 1 rfl)) rfl rfl rfl ?_
 intro _
 refine simL_ren (.slice (some ⟨b1v, 0, none⟩) ((copyB (List.replicate (x0.length : Int).toNat (0 : UInt8)) x0).length) ((x0.length : Int).toNat)) (d := 6) rfl (slc_len (copyB_length _ _).symm) ?_
 refine simL_ren (.slice (some ⟨b1v, 0, none⟩) ((copyB (List.replicate (x0.length : Int).toNat (0 : UInt8)) x0).length) ((x0.length : Int).toNat)) (d := 3) rfl (slc_len (copyB_length _ _).symm) ?_
 refine simL_ren (.slice (some ⟨b1v, 0, none⟩) ((copyB (List.replicate (x0.length : Int).toNat (0 : UInt8)) x0).length) ((x0.length : Int).toNat)) (d := 7) rfl (slc_len (copyB_length _ _).symm) ?_
 refine nx ?_
 refine vm rfl rfl ?_
 refine va rfl rfl (simL_nil (nrm_then (sim_rtn ?_)))
 exact rtn_fn ((some ⟨b1v, 0, none⟩), (x0.length : Int).toNat) rfl rfl rfl (.sel 0 rfl (.sel 0 rfl (.nil _)))

def wire_Writer_Done.f (x0_0 : List UInt8) (x0_1 : Int) : Option (List UInt8 × Int) := if x0_1 = (0 : Int) then ((wire_fresh.f x0_0).bind fun s3v => (some (s3v, 0))) else (some (([] : List UInt8), x0_1))
theorem wire_Writer_Done.calls (W : World) (F : HA) (b0 : Nat) (a0_0 : Option Addr) (c0_0 : Nat) (x0_0 : List UInt8) (x0_1 : Int) (h0_0 : Rd F a0_0 (encB x0_0)) (hc0_0 : x0_0.length ≤ c0_0) (hm0_0 : c0_0 ≤ maxLen) :
    Fn Tryz.prog W 87 [.pointer (some ⟨b0, 0, none⟩)] [obj b0 160 [.slice a0_0 x0_0.length c0_0, .int .i64 x0_1]] F (wire_Writer_Done.f x0_0 x0_1) (fun (r : List UInt8 × Int) (y : Option Addr × Nat) => .tuple #[.slice y.1 r.1.length y.2, .int .i64 r.2]) (fun r y => [Row 5 1 y.1 r.1.length y.2 (encB r.1), obj b0 160 [.slice a0_0 x0_0.length c0_0, .int .i64 x0_1]]) := by
 unfold wire_Writer_Done.f
 refine fn_intro 18 Tryz.func87 rfl Tryz.ntmps87 rfl ?_
 refine sr ?_
 refine va rfl rfl ?_
 refine va rfl rfl (simL_nil (nrm_then (sim_seq (sr ?_))))
 refine vm rfl rfl ?_
 refine vn rfl rfl ?_
 refine vq (q_fa rfl rfl Tryz.underlying160 rfl rfl Tryz.sizeOf23 rfl) rfl ?_
 refine vq (q_load rfl rfl Tryz.isAgg23 (.obj 0 rfl rfl)) rfl ?_
 refine vq (q_neq rfl rfl rfl) rfl (simL_nil (nrm_then ?_))
 refine sim_condn rfl (fun h1v => ?_) (fun h2v => ?_)
 refine sim_skip ?_
 refine nrm_then (sr ?_)
 refine vm rfl rfl ?_
 refine vn rfl rfl ?_
 refine vq (q_fa rfl rfl Tryz.underlying160 rfl rfl Tryz.sizeOf33 rfl) rfl ?_
 refine vq (q_load rfl rfl Tryz.isAgg33 (.obj 0 rfl rfl)) rfl ?_
 refine simL_bind (fun s3v hs4v => ?_)
 refine simL_eff (re_call (vs := [.slice a0_0 x0_0.length c0_0]) (cap := []) (A := []) (rst := [obj b0 160 [.slice a0_0 x0_0.length c0_0, .int .i64 x0_1], F]) rfl rfl rfl rfl rfl rfl Tryz.call110 (.sel 0 rfl (.sel 0 rfl (.nil _))) (wire_fresh.calls _ _ a0_0 c0_0 x0_0 (h0_0.lend 1 rfl) hc0_0 hm0_0) hs4v) rfl rfl rfl ?_
 intro y5v
 refine va rfl rfl ?_
 refine va rfl rfl (simL_nil (nrm_then (sim_rtn ?_)))
 exact rtn_fn (y5v.1, y5v.2) rfl rfl rfl (.sel 0 rfl (.sel 0 rfl (.sel 0 rfl (.nil _))))
 refine sim_seq ?_
 refine sim_draw (Γ := Unit) () [[], [0], [0, 1], [0, 1, 2], [], rL 5] [] [0, 1, 2, 3, 4, 5] (fun i => [[0], [0], [0], [0], [0], [0]].getD i []) (fun i => [[], [], [], [], [], []].getD i []) (fun γ i => [.pointer (some ⟨b0, 0, none⟩), .pointer (some ⟨b0, 0, none⟩), .pointer (some ⟨b0, 1, none⟩), .int .i64 x0_1, .slice none 0 0, .int .i64 x0_1].getD i undef) (fun j γ => [[obj b0 160 [.slice a0_0 x0_0.length c0_0, .int .i64 x0_1], F]].getD j []) (fun γ => [(2, .slice none 0 0), (3, .int .i64 x0_1)]) mixed (by decide) (by decide) (by decide) (by decide) (by decide) (by decide) (by decide) 18 rfl (by decide) (by decide) (by decide) (Ent.refl _) ?_ ?_ (fun _ => ⟨rfl, rfl, trivial⟩) ?_
 exact (aq rfl (fun γ => qm rfl (.o (s := 0) rfl (by decide) .nil) rfl) (aq rfl (fun γ => qp rfl rfl (.v 0 rfl rfl .nil) (q_nil rfl rfl) rfl) (aq rfl (fun γ => qp rfl rfl (.v 1 rfl rfl .nil) (q_fa rfl rfl Tryz.underlying160 rfl rfl Tryz.sizeOf23 rfl) rfl) (aq rfl (fun γ => qp rfl rfl (.v 2 rfl rfl .nil) (q_load rfl rfl Tryz.isAgg23 (.obj 0 rfl rfl)) rfl) (aq rfl (fun γ => qp rfl rfl .nil (q_asg rfl rfl) rfl) (aq rfl (fun γ => qp rfl rfl (.v 3 rfl rfl .nil) (q_asg rfl rfl) rfl) zA))))))
 exact zA
 intro g6v
 refine nrm_then (sim_rtn ?_)
 refine rtn_then ?_
 exact rtn_fn (none, 0) rfl rfl rfl (.row_nil (.sel 0 rfl (.sel 0 rfl (.nil _))))

def codec_text_codec_Entries_Put_1.f (k : Nat) (x0 : Int) (xp0_0 : Int) (xp0_1 : Int) (xp0_2 : Int) (xp0_3 : List UInt8) : Option (List UInt8 × Int) := if x0 = (0 : Int) then ((wire_NewWriter.f).bind fun s3v => ((codec_Entries_Put_1.f k s3v.1 s3v.2 xp0_0 xp0_1 xp0_2 xp0_3).bind fun s6v => ((wire_Writer_Done.f s6v.1 s6v.2).bind fun s13v => (some (s13v.1, s13v.2))))) else (some (([] : List UInt8), x0))
theorem codec_text_codec_Entries_Put_1.calls (W : World) (F : HA) (k : Nat) (x0 : Int) (bp0 : Nat) (xp0_0 : Int) (xp0_1 : Int) (xp0_2 : Int) (ap0_3 : Option Addr) (cp0_3 : Nat) (xp0_3 : List UInt8) (hp0_3 : Rd F ap0_3 (encB xp0_3)) (hcp0_3 : xp0_3.length ≤ cp0_3) (hmp0_3 : cp0_3 ≤ maxLen) :
    Fn Tryz.prog W 108 [.int .i64 x0, .func (.func 109) #[] #[.pointer (some ⟨bp0, 0, none⟩)]] [obj bp0 35 [.int .i64 xp0_0, .int .i64 xp0_1, .int .i64 xp0_2, .slice ap0_3 xp0_3.length cp0_3]] F (codec_text_codec_Entries_Put_1.f k x0 xp0_0 xp0_1 xp0_2 xp0_3) (fun (r : List UInt8 × Int) (y : Option Addr × Nat) => .tuple #[.slice y.1 r.1.length y.2, .int .i64 r.2]) (fun r y => [Row 5 1 y.1 r.1.length y.2 (encB r.1), obj bp0 35 [.int .i64 xp0_0, .int .i64 xp0_1, .int .i64 xp0_2, .slice ap0_3 xp0_3.length cp0_3]]) := by
 unfold codec_text_codec_Entries_Put_1.f
 refine fn_intro 18 Tryz.func108 rfl Tryz.ntmps108 rfl ?_
 refine sr ?_
 refine va rfl rfl ?_
 refine va rfl rfl (simL_nil (nrm_then (sim_seq (sr ?_))))
 refine vm rfl rfl ?_
 refine vq (q_neq rfl rfl rfl) rfl (simL_nil (nrm_then ?_))
 refine sim_condn rfl (fun h1v => ?_) (fun h2v => ?_)
 refine sim_skip ?_
 refine nrm_then (sr ?_)
 refine simL_bind (fun s3v hs4v => ?_)
 refine simL_eff (re_call (vs := []) (cap := []) (A := []) (rst := [obj bp0 35 [.int .i64 xp0_0, .int .i64 xp0_1, .int .i64 xp0_2, .slice ap0_3 xp0_3.length cp0_3], F]) rfl rfl rfl rfl rfl rfl Tryz.call83 (.sel 0 rfl (.sel 0 rfl (.nil _))) (wire_NewWriter.calls _ _  ) hs4v) rfl rfl rfl ?_
 intro y5v
 refine va rfl rfl (nx ?_)
 refine vm rfl rfl ?_
 refine vm rfl rfl ?_
 refine simL_bind (fun s6v hs7v => ?_)
 refine simL_eff (re_call (vs := [.pointer (some ⟨y5v.1, 0, none⟩)]) (cap := [.pointer (some ⟨bp0, 0, none⟩)]) (A := [obj y5v.1 160 [.slice y5v.2.1 s3v.1.length y5v.2.2, .int .i64 s3v.2], Row 5 1 y5v.2.1 s3v.1.length y5v.2.2 (encB s3v.1), obj bp0 35 [.int .i64 xp0_0, .int .i64 xp0_1, .int .i64 xp0_2, .slice ap0_3 xp0_3.length cp0_3]]) (rst := [F]) rfl rfl rfl rfl rfl rfl Tryz.call109 (.sel 0 rfl (.sel 0 rfl (.sel 0 rfl (.sel 0 rfl (.nil _))))) (codec_Entries_Put_1.calls _ _ k y5v.1 y5v.2.1 y5v.2.2 s3v.1 s3v.2 bp0 xp0_0 xp0_1 xp0_2 ap0_3 cp0_3 xp0_3 (hp0_3.lend 0 rfl) hcp0_3 hmp0_3) hs7v) rfl rfl rfl ?_
 intro y8v
 refine nx ?_
 refine vm rfl rfl ?_
 refine simL_bind (fun s13v hs14v => ?_)
 refine simL_lend 1 rfl (fun hq9v hq10v hq11v hq12v => ?_)
 refine simL_eff (re_call (vs := [.pointer (some ⟨y5v.1, 0, none⟩)]) (cap := []) (A := [obj y5v.1 160 [.slice y8v.1 s6v.1.length y8v.2, .int .i64 s6v.2]]) (rst := [Row 5 1 y8v.1 s6v.1.length y8v.2 (encB s6v.1), obj bp0 35 [.int .i64 xp0_0, .int .i64 xp0_1, .int .i64 xp0_2, .slice ap0_3 xp0_3.length cp0_3], F]) rfl rfl rfl rfl rfl rfl Tryz.call87 (.sel 0 rfl (.sel 0 rfl (.sel 0 rfl (.sel 0 rfl (.nil _))))) (wire_Writer_Done.calls _ _ y5v.1 y8v.1 y8v.2 s6v.1 s6v.2 (hq9v.lend 0 rfl) hq10v hq11v) hs14v) rfl rfl rfl ?_
 intro y15v
 refine vq (q_ext rfl rfl rfl) rfl ?_
 refine vq (q_ext rfl rfl rfl) rfl ?_
 refine va rfl rfl ?_
 refine va rfl rfl (simL_nil (nrm_then (sim_rtn ?_)))
 exact rtn_fn (y15v.1, y15v.2) rfl rfl rfl (.sel 0 rfl (.sel 2 rfl (.sel 2 rfl (.nil _))))
 refine sr ?_
 refine vm rfl rfl ?_
 refine va rfl rfl ?_
 refine va rfl rfl (simL_nil (nrm_then (sim_rtn ?_)))
 refine rtn_then ?_
 exact rtn_fn (none, 0) rfl rfl rfl (.row_nil (.sel 0 rfl (.sel 0 rfl (.nil _))))

def codec_Entries_Put.f (k : Nat) (x1_0 : Int) (x1_1 : Int) (x1_2 : Int) (x1_3 : List UInt8) : Option (List UInt8 × Int) := (codec_Entries_Check.f x1_0 x1_1 x1_2 x1_3).bind fun s3v => ((codec_text_codec_Entries_Put_1.f k s3v x1_0 x1_1 x1_2 x1_3).bind fun s6v => (some (s6v.1, s6v.2)))
theorem codec_Entries_Put.calls (W : World) (F : HA) (k : Nat) (x1_0 : Int) (x1_1 : Int) (x1_2 : Int) (a1_3 : Option Addr) (c1_3 : Nat) (x1_3 : List UInt8) (h1_3 : Rd F a1_3 (encB x1_3)) (hc1_3 : x1_3.length ≤ c1_3) (hm1_3 : c1_3 ≤ maxLen) :
    Fn Tryz.prog W 85 [.agg #[], .agg #[.int .i64 x1_0, .int .i64 x1_1, .int .i64 x1_2, .slice a1_3 x1_3.length c1_3]] [] F (codec_Entries_Put.f k x1_0 x1_1 x1_2 x1_3) (fun (r : List UInt8 × Int) (y : Option Addr × Nat) => .tuple #[.slice y.1 r.1.length y.2, .int .i64 r.2]) (fun r y => [Row 5 1 y.1 r.1.length y.2 (encB r.1)]) := by
 unfold codec_Entries_Put.f
 refine fn_intro 13 Tryz.func85 rfl Tryz.ntmps85 rfl ?_
 refine sr ?_
 refine simL_eff (re_box rfl rfl rfl) rfl rfl rfl ?_
 intro b1v
 refine simL_eff (re_box rfl rfl rfl) rfl rfl rfl ?_
 intro b2v
 refine va rfl rfl ?_
 refine va rfl rfl (nx ?_)
 refine vq (q_loado 1 rfl rfl Tryz.isAgg131 Tryz.sizeOf131 rfl rfl) rfl ?_
 refine vq (q_loado 0 rfl rfl Tryz.isAgg35 Tryz.sizeOf35 rfl rfl) rfl ?_
 refine simL_bind (fun s3v hs4v => ?_)
 refine simL_eff (re_call (vs := [.agg #[], .agg #[.int .i64 x1_0, .int .i64 x1_1, .int .i64 x1_2, .slice a1_3 x1_3.length c1_3]]) (cap := []) (A := []) (rst := [obj b2v 35 [.int .i64 x1_0, .int .i64 x1_1, .int .i64 x1_2, .slice a1_3 x1_3.length c1_3], obj b1v 131 [], F]) rfl rfl rfl rfl rfl rfl Tryz.call79 (.sel 0 rfl (.sel 0 rfl (.sel 0 rfl (.nil _)))) (codec_Entries_Check.calls _ _ x1_0 x1_1 x1_2 a1_3 c1_3 x1_3 (h1_3.lend 2 rfl) hc1_3 hm1_3) hs4v) rfl rfl rfl ?_
 intro y5v
 refine vq (q_mkfn rfl rfl rfl) rfl ?_
 refine simL_bind (fun s6v hs7v => ?_)
 refine simL_eff (re_call (vs := [.int .i64 s3v, .func (.func 109) #[] #[.pointer (some ⟨b2v, 0, none⟩)]]) (cap := []) (A := [obj b2v 35 [.int .i64 x1_0, .int .i64 x1_1, .int .i64 x1_2, .slice a1_3 x1_3.length c1_3]]) (rst := [obj b1v 131 [], F]) rfl rfl rfl rfl rfl rfl Tryz.call108 (.sel 0 rfl (.sel 0 rfl (.sel 0 rfl (.nil _)))) (codec_text_codec_Entries_Put_1.calls _ _ k s3v b2v x1_0 x1_1 x1_2 a1_3 c1_3 x1_3 (h1_3.lend 1 rfl) hc1_3 hm1_3) hs7v) rfl rfl rfl ?_
 intro y8v
 refine vq (q_ext rfl rfl rfl) rfl ?_
 refine vq (q_ext rfl rfl rfl) rfl ?_
 refine va rfl rfl ?_
 refine va rfl rfl (simL_nil (nrm_then (sim_rtn ?_)))
 exact rtn_fn (y8v.1, y8v.2) rfl rfl rfl (.sel 0 rfl (.sel 2 rfl (.nil _)))

def frame_four.f (x0 : Int) : Option (List UInt8) := if 0 ≤ IntKind.u8.wrap x0 ∧ IntKind.u8.wrap x0 < 256 then (if 0 ≤ IntKind.u8.wrap (Int.fdiv x0 (2 ^ (min (8 : Int).toNat IntKind.u32.bits))) ∧ IntKind.u8.wrap (Int.fdiv x0 (2 ^ (min (8 : Int).toNat IntKind.u32.bits))) < 256 then (if 0 ≤ IntKind.u8.wrap (Int.fdiv x0 (2 ^ (min (16 : Int).toNat IntKind.u32.bits))) ∧ IntKind.u8.wrap (Int.fdiv x0 (2 ^ (min (16 : Int).toNat IntKind.u32.bits))) < 256 then (if 0 ≤ IntKind.u8.wrap (Int.fdiv x0 (2 ^ (min (24 : Int).toNat IntKind.u32.bits))) ∧ IntKind.u8.wrap (Int.fdiv x0 (2 ^ (min (24 : Int).toNat IntKind.u32.bits))) < 256 then (some ([(byte (IntKind.u8.wrap x0)), (byte (IntKind.u8.wrap (Int.fdiv x0 (2 ^ (min (8 : Int).toNat IntKind.u32.bits))))), (byte (IntKind.u8.wrap (Int.fdiv x0 (2 ^ (min (16 : Int).toNat IntKind.u32.bits))))), (byte (IntKind.u8.wrap (Int.fdiv x0 (2 ^ (min (24 : Int).toNat IntKind.u32.bits)))))] : List UInt8)) else none) else none) else none) else none
theorem frame_four.calls (W : World) (F : HA) (x0 : Int)  :
    Fn Tryz.prog W 127 [.int .u32 x0] [] F (frame_four.f x0) (fun (r : List UInt8) (y : Option Addr × Nat) => .slice y.1 r.length y.2) (fun r y => [Row 5 1 y.1 r.length y.2 (encB r)]) := by
 unfold frame_four.f
 refine fn_intro 15 Tryz.func127 rfl Tryz.ntmps127 rfl ?_
 refine sr ?_
 refine va rfl rfl (nx ?_)
 refine vm rfl rfl ?_
 refine vq (q_conv rfl rfl Tryz.underlying149 Tryz.underlying5) rfl ?_
 refine vm rfl rfl ?_
 refine vq (q_shr rfl rfl rfl (by decide)) rfl ?_
 refine vq (q_conv rfl rfl Tryz.underlying149 Tryz.underlying5) rfl ?_
 refine vm rfl rfl ?_
 refine vq (q_shr rfl rfl rfl (by decide)) rfl ?_
 refine vq (q_conv rfl rfl Tryz.underlying149 Tryz.underlying5) rfl ?_
 refine vm rfl rfl ?_
 refine vq (q_shr rfl rfl rfl (by decide)) rfl ?_
 refine vq (q_conv rfl rfl Tryz.underlying149 Tryz.underlying5) rfl ?_
 refine simL_ask (fun hb3v => ?_)
 refine simL_ask (fun hb4v => ?_)
 refine simL_ask (fun hb5v => ?_)
 refine simL_ask (fun hb6v => ?_)
 refine simL_eff (re_litb (cs := [.int .u8 (IntKind.u8.wrap x0), .int .u8 (IntKind.u8.wrap (Int.fdiv x0 (2 ^ (min (8 : Int).toNat IntKind.u32.bits)))), .int .u8 (IntKind.u8.wrap (Int.fdiv x0 (2 ^ (min (16 : Int).toNat IntKind.u32.bits)))), .int .u8 (IntKind.u8.wrap (Int.fdiv x0 (2 ^ (min (24 : Int).toNat IntKind.u32.bits))))]) ([(byte (IntKind.u8.wrap x0)), (byte (IntKind.u8.wrap (Int.fdiv x0 (2 ^ (min (8 : Int).toNat IntKind.u32.bits))))), (byte (IntKind.u8.wrap (Int.fdiv x0 (2 ^ (min (16 : Int).toNat IntKind.u32.bits))))), (byte (IntKind.u8.wrap (Int.fdiv x0 (2 ^ (min (24 : Int).toNat IntKind.u32.bits)))))] : List UInt8) rfl rfl Tryz.underlying33 elt5 rfl (by kernel_rfl) rfl rfl (lit_cons (byte_toNat hb3v.1 hb3v.2) (lit_cons (byte_toNat hb4v.1 hb4v.2) (lit_cons (byte_toNat hb5v.1 hb5v.2) (lit_cons (byte_toNat hb6v.1 hb6v.2) lit_nil))))) rfl rfl rfl ?_
 intro b1v
 refine va rfl rfl (simL_nil (nrm_then (sim_rtn ?_)))
 exact rtn_fn ((some ⟨b1v, 0, none⟩), 4) rfl rfl rfl (.sel 0 rfl (.sel 0 rfl (.nil _)))

def frame_more.l1 : Nat → Int → Int → Option (Int)
  | 0, _, _ => none
  | k + 1, z17v, z18v => if z18v < (8 : Int) then (if bitsV .and .u32 z17v 1 = (1 : Int) then (frame_more.l1 k (bitsV .xor .u32 (Int.fdiv z17v (2 ^ (min (1 : Int).toNat IntKind.u32.bits))) 2197175160) (IntKind.i64.wrap (z18v + 1))) else (frame_more.l1 k (Int.fdiv z17v (2 ^ (min (1 : Int).toNat IntKind.u32.bits))) (IntKind.i64.wrap (z18v + 1)))) else (some z17v)
def frame_more.l0 (x1 : List UInt8) : Nat → Int → Int → Option (Int)
  | 0, _, _ => none
  | k + 1, z5v, z6v => if z6v < (x1.length : Int) then ((if 0 ≤ z6v ∧ z6v < (x1.length : Int) then (frame_more.l1 k (bitsV .xor .u32 z5v (IntKind.u32.wrap ((x1.getD z6v.toNat 0).toNat : Int))) 0) else none).bind fun s9v => (frame_more.l0 x1 k s9v (IntKind.i64.wrap (z6v + 1)))) else (some z5v)
def frame_more.f (k : Nat) (x0 : Int) (x1 : List UInt8) : Option (Int) := (frame_more.l0 x1 k x0 0).bind fun s1v => (some s1v)
theorem frame_more.calls (W : World) (F : HA) (k : Nat) (x0 : Int) (a1 : Option Addr) (c1 : Nat) (x1 : List UInt8) (h1 : Rd F a1 (encB x1)) (hc1 : x1.length ≤ c1) (hm1 : c1 ≤ maxLen) :
    Fn Tryz.prog W 95 [.int .u32 x0, .slice a1 x1.length c1] [] F (frame_more.f k x0 x1) (fun (r : Int) (y : Unit) => .int .u32 r) (fun r y => []) := by
 unfold frame_more.f
 refine fn_intro 31 Tryz.func95 rfl Tryz.ntmps95 rfl ?_
 refine sr ?_
 refine va rfl rfl (simL_nil (nrm_then ?_))
 refine sim_cut (S := Int) (Unit) (fun s y => [(0, .int .u32 s)]) (fun s y => [F]) ?_ ?_
 refine sr ?_
 refine vm rfl rfl ?_
 refine vq (q_len rfl rfl rfl Tryz.underlying33) rfl ?_
 refine vm rfl rfl (simL_nil (nrm_then ?_))
 refine sim_block ?_
 refine sim_loop (S := Int × Int) (Unit) (fun k s => frame_more.l0 x1 k s.1 s.2) (fun s y => [(0, .int .u32 s.1), (8, .slice a1 x1.length c1), (9, .int .i64 (x1.length : Int)), (10, .int .i64 s.2)]) (fun s y => [F]) (fun _ => by rw [frame_more.l0]) ?_ k (x0, 0) () ⟨rfl, rfl, rfl, rfl, trivial⟩ (.sel 0 rfl (.nil _))
 intro k s3v y4v
 refine sim_eq (by rw [frame_more.l0]) ?_
 refine sr ?_
 refine vq (q_lss rfl rfl rfl) rfl (simL_nil (nrm_then (sim_seq ?_)))
 refine sim_cond rfl (fun h7v => ?_) (fun h8v => ?_)
 refine sim_skip ?_
 refine nrm_then ?_
 refine sim_cut (S := Int) (Unit) (fun s y => [(0, .int .u32 s), (8, .slice a1 x1.length c1), (9, .int .i64 (x1.length : Int)), (10, .int .i64 s3v.2)]) (fun s y => [F]) ?_ ?_
 refine sim_block ?_
 refine sr ?_
 refine simL_ask (fun hi11v => ?_)
 obtain ⟨b12v, b12vo, ha13v⟩ := h1.pos (encB_ne (j := s3v.2.toNat) (by omega))
 refine vq (q_idx1 rfl rfl rfl ha13v Tryz.underlying33 Tryz.sizeOf5 hi11v.1 hi11v.2) rfl ?_
 refine vq (q_load rfl rfl Tryz.isAgg5 (h1.cell 0 rfl ha13v (encB_get (by omega)))) rfl ?_
 refine va rfl rfl (nx ?_)
 refine vm rfl rfl ?_
 refine vm rfl rfl ?_
 refine vq (q_conv rfl rfl Tryz.underlying5 Tryz.underlying149) rfl ?_
 refine vq (q_xor_ rfl rfl rfl) rfl ?_
 refine va rfl rfl (nx ?_)
 refine vm rfl rfl (simL_nil (nrm_then ?_))
 refine sim_block ?_
 refine sim_loop (S := Int × Int) (Unit) (fun k s => frame_more.l1 k s.1 s.2) (fun s y => [(0, .int .u32 s.1), (8, .slice a1 x1.length c1), (9, .int .i64 (x1.length : Int)), (10, .int .i64 s3v.2), (18, .int .i64 s.2)]) (fun s y => [F]) (fun _ => by rw [frame_more.l1]) ?_ k (bitsV .xor .u32 s3v.1 (IntKind.u32.wrap ((x1.getD s3v.2.toNat 0).toNat : Int)), 0) () ⟨rfl, rfl, rfl, rfl, rfl, trivial⟩ (.sel 0 rfl (.nil _))
 intro k s15v y16v
 refine sim_eq (by rw [frame_more.l1]) ?_
 refine sr ?_
 refine vq (q_lss rfl rfl rfl) rfl (simL_nil (nrm_then (sim_seq ?_)))
 refine sim_cond rfl (fun h19v => ?_) (fun h20v => ?_)
 refine sim_skip ?_
 refine nrm_then (sim_seq ?_)
 refine sim_block ?_
 refine sr ?_
 refine vm rfl rfl ?_
 refine vq (q_and_ rfl rfl rfl) rfl ?_
 refine va rfl rfl (nx ?_)
 refine vm rfl rfl ?_
 refine vq (q_shr rfl rfl rfl (by decide)) rfl ?_
 refine va rfl rfl (nx ?_)
 refine vm rfl rfl ?_
 refine vq (q_eql rfl rfl rfl) rfl (simL_nil (nrm_then ?_))
 refine sim_cond rfl (fun h21v => ?_) (fun h22v => ?_)
 refine sim_region ?_
 refine vm rfl rfl ?_
 refine vq (q_xor_ rfl rfl rfl) rfl ?_
 refine va rfl rfl (simL_nil (nrm_block (nrm_then (sim_region ?_))))
 refine vq (q_add rfl rfl rfl) rfl ?_
 refine vm rfl rfl (simL_nil ?_)
 exact nrm_again (s := (bitsV .xor .u32 (Int.fdiv s15v.1 (2 ^ (min (1 : Int).toNat IntKind.u32.bits))) 2197175160, IntKind.i64.wrap (s15v.2 + 1))) () ⟨rfl, rfl, rfl, rfl, rfl, trivial⟩ (.sel 0 rfl (.nil _))
 refine sim_skip ?_
 refine nrm_block (nrm_then (sim_region ?_))
 refine vq (q_add rfl rfl rfl) rfl ?_
 refine vm rfl rfl (simL_nil ?_)
 exact nrm_again (s := (Int.fdiv s15v.1 (2 ^ (min (1 : Int).toNat IntKind.u32.bits)), IntKind.i64.wrap (s15v.2 + 1))) () ⟨rfl, rfl, rfl, rfl, rfl, trivial⟩ (.sel 0 rfl (.nil _))
 refine sim_exi ?_
 refine exi_then ?_
 refine exi_loop ?_
 refine exi_here ?_
 refine nrm_block ?_
 exact nrm_cut (s := s15v.1) () ⟨rfl, rfl, rfl, rfl, trivial⟩ (.sel 0 rfl (.nil _))
 intro s9v y10v
 refine sim_region ?_
 refine vq (q_add rfl rfl rfl) rfl ?_
 refine vm rfl rfl (simL_nil ?_)
 exact nrm_again (s := (s9v, IntKind.i64.wrap (s3v.2 + 1))) () ⟨rfl, rfl, rfl, rfl, trivial⟩ (.sel 0 rfl (.nil _))
 refine sim_exi ?_
 refine exi_then ?_
 refine exi_loop ?_
 refine exi_here ?_
 exact nrm_cut (s := s3v.1) () ⟨rfl, trivial⟩ (.sel 0 rfl (.nil _))
 intro s1v y2v
 refine sr ?_
 refine vm rfl rfl ?_
 refine va rfl rfl (simL_nil (nrm_then (sim_rtn ?_)))
 exact rtn_fn () rfl rfl rfl (.sel 0 rfl (.nil _))

def frame_lay.f (k : Nat) (x0 : List UInt8) (x1 : List UInt8) : Option (List UInt8) := (frame_four.f (IntKind.u32.wrap (x1.length : Int))).bind fun s1v => ((frame_more.f k (4294967295 : Int) s1v).bind fun s8v => ((frame_more.f k s8v x1).bind fun s11v => (if (x0.length + s1v.length) * 1 ≤ 140737488355328 then ((frame_four.f (bitsV .xor .u32 (if IntKind.u32.signed then -1 else IntKind.u32.max) s11v)).bind fun s16v => (if ((x0 ++ s1v).length + s16v.length) * 1 ≤ 140737488355328 then (if (((x0 ++ s1v) ++ s16v).length + x1.length) * 1 ≤ 140737488355328 then (some (((x0 ++ s1v) ++ s16v) ++ x1)) else none) else none)) else none)))
theorem frame_lay.calls (W : World) (F : HA) (k : Nat) (a0 : Option Addr) (c0 : Nat) (x0 : List UInt8) (a1 : Option Addr) (c1 : Nat) (x1 : List UInt8) (h1 : Rd F a1 (encB x1)) (hc1 : x1.length ≤ c1) (hm1 : c1 ≤ maxLen) :
    Fn Tryz.prog W 111 [.slice a0 x0.length c0, .slice a1 x1.length c1] [Row 5 1 a0 x0.length c0 (encB x0)] F (frame_lay.f k x0 x1) (fun (r : List UInt8) (y : Option Addr × Nat) => .slice y.1 r.length y.2) (fun r y => [Row 5 1 y.1 r.length y.2 (encB r)]) := by
 unfold frame_lay.f
 refine fn_intro 26 Tryz.func111 rfl Tryz.ntmps111 rfl ?_
 refine sr ?_
 refine va rfl rfl (nx ?_)
 refine vm rfl rfl ?_
 refine vq (q_len rfl rfl rfl Tryz.underlying33) rfl ?_
 refine vq (q_conv rfl rfl Tryz.underlying3 Tryz.underlying149) rfl ?_
 refine simL_bind (fun s1v hs2v => ?_)
 refine simL_eff (re_call (vs := [.int .u32 (IntKind.u32.wrap (x1.length : Int))]) (cap := []) (A := []) (rst := [Row 5 1 a0 x0.length c0 (encB x0), F]) rfl rfl rfl rfl rfl rfl Tryz.call127 (.sel 0 rfl (.sel 0 rfl (.nil _))) (frame_four.calls _ _ (IntKind.u32.wrap (x1.length : Int)) ) hs2v) rfl rfl rfl ?_
 intro y3v
 refine va rfl rfl (nx ?_)
 refine vm rfl rfl ?_
 refine simL_bind (fun s8v hs9v => ?_)
 refine simL_lend 0 rfl (fun hq4v hq5v hq6v hq7v => ?_)
 refine simL_eff (re_call (vs := [.int .u32 4294967295, .slice y3v.1 s1v.length y3v.2]) (cap := []) (A := []) (rst := [Row 5 1 y3v.1 s1v.length y3v.2 (encB s1v), Row 5 1 a0 x0.length c0 (encB x0), F]) rfl rfl rfl rfl rfl rfl Tryz.call95 (.sel 0 rfl (.sel 0 rfl (.sel 0 rfl (.nil _)))) (frame_more.calls _ _ k (4294967295 : Int) y3v.1 y3v.2 s1v (hq4v.lend 0 rfl) hq5v hq6v) hs9v) rfl rfl rfl ?_
 intro y10v
 refine vm rfl rfl ?_
 refine simL_bind (fun s11v hs12v => ?_)
 refine simL_eff (re_call (vs := [.int .u32 s8v, .slice a1 x1.length c1]) (cap := []) (A := []) (rst := [Row 5 1 y3v.1 s1v.length y3v.2 (encB s1v), Row 5 1 a0 x0.length c0 (encB x0), F]) rfl rfl rfl rfl rfl rfl Tryz.call95 (.sel 0 rfl (.sel 0 rfl (.sel 0 rfl (.nil _)))) (frame_more.calls _ _ k s8v a1 c1 x1 (h1.lend 2 rfl) hc1 hm1) hs12v) rfl rfl rfl ?_
 intro y13v
 refine vq (q_com rfl rfl) rfl ?_
 refine va rfl rfl (nx ?_)
 refine vm rfl rfl ?_
 refine vm rfl rfl ?_
 refine simL_ask (fun hb15v => ?_)
 refine simL_eff (re_appendb 1 rfl rfl rfl Tryz.underlying33 elt5 rfl (Rds.row 0 rfl) hb15v) rfl rfl rfl ?_
 intro y14v
 refine va rfl rfl (nx ?_)
 refine vm rfl rfl ?_
 refine vm rfl rfl ?_
 refine simL_bind (fun s16v hs17v => ?_)
 refine simL_eff (re_call (vs := [.int .u32 (bitsV .xor .u32 (if IntKind.u32.signed then -1 else IntKind.u32.max) s11v)]) (cap := []) (A := []) (rst := [Row 5 1 y3v.1 s1v.length y3v.2 (encB s1v), Row 5 1 y14v.1 (x0 ++ s1v).length y14v.2 (encB (x0 ++ s1v)), F]) rfl rfl rfl rfl rfl rfl Tryz.call127 (.sel 0 rfl (.sel 0 rfl (.sel 0 rfl (.nil _)))) (frame_four.calls _ _ (bitsV .xor .u32 (if IntKind.u32.signed then -1 else IntKind.u32.max) s11v) ) hs17v) rfl rfl rfl ?_
 intro y18v
 refine simL_ask (fun hb20v => ?_)
 refine simL_eff (re_appendb 2 rfl rfl rfl Tryz.underlying33 elt5 rfl (Rds.row 0 rfl) hb20v) rfl rfl rfl ?_
 intro y19v
 refine va rfl rfl (nx ?_)
 refine vm rfl rfl ?_
 refine vm rfl rfl ?_
 refine simL_ask (fun hb22v => ?_)
 refine simL_eff (re_appendb 2 rfl rfl rfl Tryz.underlying33 elt5 rfl (h1.rds 2 rfl) hb22v) rfl rfl rfl ?_
 intro y21v
 refine va rfl rfl (simL_nil (nrm_then (sim_rtn ?_)))
 exact rtn_fn (y21v.1, y21v.2) rfl rfl rfl (.sel 2 rfl (.sel 2 rfl (.nil _)))

def frame_Put.f (k : Nat) (x0 : List UInt8) : Option (List UInt8 × Int) := if (1048576 : Int) < (x0.length : Int) then (some (([] : List UInt8), 3)) else (if 0 ≤ (0 : Int) ∧ (0 : Int) ≤ IntKind.i64.wrap (8 + (x0.length : Int)) ∧ IntKind.i64.wrap (8 + (x0.length : Int)) * 1 ≤ 140737488355328 then ((frame_lay.f k (List.replicate (0 : Int).toNat (0 : UInt8)) x0).bind fun s5v => (some (s5v, 0))) else none)
theorem frame_Put.calls (W : World) (F : HA) (k : Nat) (a0 : Option Addr) (c0 : Nat) (x0 : List UInt8) (h0 : Rd F a0 (encB x0)) (hc0 : x0.length ≤ c0) (hm0 : c0 ≤ maxLen) :
    Fn Tryz.prog W 88 [.slice a0 x0.length c0] [] F (frame_Put.f k x0) (fun (r : List UInt8 × Int) (y : Option Addr × Nat) => .tuple #[.slice y.1 r.1.length y.2, .int .i64 r.2]) (fun r y => [Row 5 1 y.1 r.1.length y.2 (encB r.1)]) := by
 unfold frame_Put.f
 refine fn_intro 13 Tryz.func88 rfl Tryz.ntmps88 rfl ?_
 refine sr ?_
 refine va rfl rfl ?_
 refine va rfl rfl (simL_nil (nrm_then (sim_seq (sr ?_))))
 refine vm rfl rfl ?_
 refine vq (q_len rfl rfl rfl Tryz.underlying33) rfl ?_
 refine vq (q_gtr rfl rfl rfl) rfl (simL_nil (nrm_then ?_))
 refine sim_cond rfl (fun h1v => ?_) (fun h2v => ?_)
 refine sr ?_
 refine va rfl rfl ?_
 refine va rfl rfl (simL_nil (nrm_then (sim_rtn ?_)))
 refine rtn_then ?_
 exact rtn_fn (none, 0) rfl rfl rfl (.row_nil (.sel 0 rfl (.nil _)))
 refine sim_skip ?_
 refine nrm_then (sr ?_)
 refine vm rfl rfl ?_
 refine vq (q_len rfl rfl rfl Tryz.underlying33) rfl ?_
 refine vq (q_add rfl rfl rfl) rfl ?_
 refine simL_ask (fun hb4v => ?_)
 refine simL_eff (re_makeb rfl rfl rfl Tryz.underlying33 elt5 hb4v.1 hb4v.2.1 hb4v.2.2) rfl rfl rfl ?_
 intro b3v
 refine vm rfl rfl ?_
 refine simL_bind (fun s5v hs6v => ?_)
 refine simL_eff (re_call (vs := [.slice (some ⟨b3v, 0, none⟩) ((List.replicate (0 : Int).toNat (0 : UInt8)).length) ((IntKind.i64.wrap (8 + (x0.length : Int))).toNat), .slice a0 x0.length c0]) (cap := []) (A := [Row 5 1 (some ⟨b3v, 0, none⟩) (List.replicate (0 : Int).toNat (0 : UInt8)).length ((IntKind.i64.wrap (8 + (x0.length : Int))).toNat) (encB (List.replicate (0 : Int).toNat (0 : UInt8)))]) (rst := [F]) rfl rfl rfl rfl rfl rfl Tryz.call111 (.sel 0 rfl (.sel 0 rfl (.nil _))) (frame_lay.calls _ _ k (some ⟨b3v, 0, none⟩) ((IntKind.i64.wrap (8 + (x0.length : Int))).toNat) (List.replicate (0 : Int).toNat (0 : UInt8)) a0 c0 x0 (h0.lend 0 rfl) hc0 hm0) hs6v) rfl rfl rfl ?_
 intro y7v
 refine va rfl rfl ?_
 refine va rfl rfl (simL_nil (nrm_then (sim_rtn ?_)))
 exact rtn_fn (y7v.1, y7v.2) rfl rfl rfl (.sel 0 rfl (.sel 0 rfl (.nil _)))

def wal_record_frame.f (k : Nat) (x0_0 : Int) (x0_1 : Int) (x0_2 : Int) (x0_3 : Int) (x0_4 : Int) (x0_5 : Int) (x0_6 : Int) (x0_7 : Int) (x0_8 : Int) (x0_9 : Int) (x0_10 : List UInt8) : Option (List UInt8) := (wire_NewWriter.f).bind fun s2v => ((wire_Writer_Int.f k s2v.1 s2v.2 x0_0).bind fun s5v => ((if x0_0 = (0 : Int) then ((wire_Writer_Int.f k s5v.1 s5v.2 x0_1).bind fun s12v => (some (s12v.1, s12v.2))) else (some (s5v.1, s5v.2))).bind fun s8v => ((if ((decide (x0_0 = (0 : Int))) || (decide (x0_0 = (1 : Int)))) = true then ((wire_Writer_Int.f k s8v.1 s8v.2 x0_2).bind fun s19v => ((wire_Writer_Int.f k s19v.1 s19v.2 x0_3).bind fun s22v => ((wire_Writer_Int.f k s22v.1 s22v.2 x0_4).bind fun s25v => (some (s25v.1, s25v.2))))) else (some (s8v.1, s8v.2))).bind fun s15v => ((if ((decide (x0_0 = (0 : Int))) || (decide (x0_0 = (3 : Int)))) = true then ((wire_Writer_Int.f k s15v.1 s15v.2 x0_5).bind fun s35v => ((wire_Writer_Int.f k s35v.1 s35v.2 x0_6).bind fun s38v => (some (s38v.1, s38v.2)))) else (some (s15v.1, s15v.2))).bind fun s31v => ((if x0_0 = (2 : Int) then ((codec_Entries_Put.f k x0_7 x0_8 x0_9 x0_10).bind fun s48v => ((wal_must.f s48v.2).bind fun s51v => ((wire_Writer_Bytes.f k s31v.1 s31v.2 s48v.1 (8192 : Int)).bind fun s58v => (some (s58v.1, s58v.2))))) else (some (s31v.1, s31v.2))).bind fun s44v => ((wire_Writer_Done.f s44v.1 s44v.2).bind fun s65v => ((wal_must.f s65v.2).bind fun s68v => ((frame_Put.f k s65v.1).bind fun s75v => ((wal_must.f s75v.2).bind fun s78v => (some s75v.1))))))))))
theorem wal_record_frame.calls (W : World) (F : HA) (k : Nat) (x0_0 : Int) (x0_1 : Int) (x0_2 : Int) (x0_3 : Int) (x0_4 : Int) (x0_5 : Int) (x0_6 : Int) (x0_7 : Int) (x0_8 : Int) (x0_9 : Int) (a0_10 : Option Addr) (c0_10 : Nat) (x0_10 : List UInt8) (h0_10 : Rd F a0_10 (encB x0_10)) (hc0_10 : x0_10.length ≤ c0_10) (hm0_10 : c0_10 ≤ maxLen) :
    Fn Tryz.prog W 52 [.agg #[.int .i64 x0_0, .int .i64 x0_1, .int .i64 x0_2, .int .i64 x0_3, .int .i64 x0_4, .int .i64 x0_5, .int .i64 x0_6, .int .i64 x0_7, .int .i64 x0_8, .int .i64 x0_9, .slice a0_10 x0_10.length c0_10]] [] F (wal_record_frame.f k x0_0 x0_1 x0_2 x0_3 x0_4 x0_5 x0_6 x0_7 x0_8 x0_9 x0_10) (fun (r : List UInt8) (y : Option Addr × Nat) => .slice y.1 r.length y.2) (fun r y => [Row 5 1 y.1 r.length y.2 (encB r)]) := by
 unfold wal_record_frame.f
 refine fn_intro 90 Tryz.func52 rfl Tryz.ntmps52 rfl ?_
 refine sr ?_
 refine simL_eff (re_box rfl rfl rfl) rfl rfl rfl ?_
 intro b1v
 refine va rfl rfl (nx ?_)
 refine simL_bind (fun s2v hs3v => ?_)
 refine simL_eff (re_call (vs := []) (cap := []) (A := []) (rst := [obj b1v 102 [.int .i64 x0_0, .int .i64 x0_1, .int .i64 x0_2, .int .i64 x0_3, .int .i64 x0_4, .int .i64 x0_5, .int .i64 x0_6, .int .i64 x0_7, .int .i64 x0_8, .int .i64 x0_9, .slice a0_10 x0_10.length c0_10], F]) rfl rfl rfl rfl rfl rfl Tryz.call83 (.sel 0 rfl (.sel 0 rfl (.nil _))) (wire_NewWriter.calls _ _  ) hs3v) rfl rfl rfl ?_
 intro y4v
 refine va rfl rfl (nx ?_)
 refine vm rfl rfl ?_
 refine vq (q_fa rfl rfl Tryz.underlying102 rfl rfl Tryz.sizeOf3 rfl) rfl ?_
 refine vq (q_load rfl rfl Tryz.isAgg3 (.obj 2 rfl rfl)) rfl ?_
 refine simL_bind (fun s5v hs6v => ?_)
 refine simL_eff (re_call (vs := [.pointer (some ⟨y4v.1, 0, none⟩), .int .i64 x0_0]) (cap := []) (A := [obj y4v.1 160 [.slice y4v.2.1 s2v.1.length y4v.2.2, .int .i64 s2v.2], Row 5 1 y4v.2.1 s2v.1.length y4v.2.2 (encB s2v.1)]) (rst := [obj b1v 102 [.int .i64 x0_0, .int .i64 x0_1, .int .i64 x0_2, .int .i64 x0_3, .int .i64 x0_4, .int .i64 x0_5, .int .i64 x0_6, .int .i64 x0_7, .int .i64 x0_8, .int .i64 x0_9, .slice a0_10 x0_10.length c0_10], F]) rfl rfl rfl rfl rfl rfl Tryz.call84 (.sel 0 rfl (.sel 0 rfl (.sel 0 rfl (.sel 0 rfl (.nil _))))) (wire_Writer_Int.calls _ _ k y4v.1 y4v.2.1 y4v.2.2 s2v.1 s2v.2 x0_0 ) hs6v) rfl rfl rfl ?_
 intro y7v
 refine simL_nil (nrm_then ?_)
 refine sim_cut (S := List UInt8 × Int) (Option Addr × Nat) (fun s y => [(1, .pointer (some ⟨b1v, 0, none⟩)), (3, .pointer (some ⟨y4v.1, 0, none⟩))]) (fun s y => [obj y4v.1 160 [.slice y.1 s.1.length y.2, .int .i64 s.2], obj b1v 102 [.int .i64 x0_0, .int .i64 x0_1, .int .i64 x0_2, .int .i64 x0_3, .int .i64 x0_4, .int .i64 x0_5, .int .i64 x0_6, .int .i64 x0_7, .int .i64 x0_8, .int .i64 x0_9, .slice a0_10 x0_10.length c0_10], Row 5 1 y.1 s.1.length y.2 (encB s.1), F]) ?_ ?_
 refine sr ?_
 refine vq (q_fa rfl rfl Tryz.underlying102 rfl rfl Tryz.sizeOf3 rfl) rfl ?_
 refine vq (q_load rfl rfl Tryz.isAgg3 (.obj 2 rfl rfl)) rfl ?_
 refine vq (q_eql rfl rfl rfl) rfl (simL_nil (nrm_then ?_))
 refine sim_cond rfl (fun h10v => ?_) (fun h11v => ?_)
 refine sim_region ?_
 refine vm rfl rfl ?_
 refine vq (q_fa rfl rfl Tryz.underlying102 rfl rfl Tryz.sizeOf3 rfl) rfl ?_
 refine vq (q_load rfl rfl Tryz.isAgg3 (.obj 2 rfl rfl)) rfl ?_
 refine simL_bind (fun s12v hs13v => ?_)
 refine simL_eff (re_call (vs := [.pointer (some ⟨y4v.1, 0, none⟩), .int .i64 x0_1]) (cap := []) (A := [obj y4v.1 160 [.slice y7v.1 s5v.1.length y7v.2, .int .i64 s5v.2], Row 5 1 y7v.1 s5v.1.length y7v.2 (encB s5v.1)]) (rst := [obj b1v 102 [.int .i64 x0_0, .int .i64 x0_1, .int .i64 x0_2, .int .i64 x0_3, .int .i64 x0_4, .int .i64 x0_5, .int .i64 x0_6, .int .i64 x0_7, .int .i64 x0_8, .int .i64 x0_9, .slice a0_10 x0_10.length c0_10], F]) rfl rfl rfl rfl rfl rfl Tryz.call84 (.sel 0 rfl (.sel 0 rfl (.sel 0 rfl (.sel 0 rfl (.nil _))))) (wire_Writer_Int.calls _ _ k y4v.1 y7v.1 y7v.2 s5v.1 s5v.2 x0_1 ) hs13v) rfl rfl rfl ?_
 intro y14v
 refine simL_nil ?_
 exact nrm_cut (s := (s12v.1, s12v.2)) (y14v.1, y14v.2) ⟨rfl, rfl, trivial⟩ (.sel 0 rfl (.sel 1 rfl (.sel 0 rfl (.sel 0 rfl (.nil _)))))
 refine sim_skip ?_
 exact nrm_cut (s := (s5v.1, s5v.2)) (y7v.1, y7v.2) ⟨rfl, rfl, trivial⟩ (.sel 0 rfl (.sel 1 rfl (.sel 0 rfl (.sel 0 rfl (.nil _)))))
 intro s8v y9v
 refine sim_cut (S := List UInt8 × Int) (Option Addr × Nat) (fun s y => [(1, .pointer (some ⟨b1v, 0, none⟩)), (3, .pointer (some ⟨y4v.1, 0, none⟩))]) (fun s y => [obj y4v.1 160 [.slice y.1 s.1.length y.2, .int .i64 s.2], obj b1v 102 [.int .i64 x0_0, .int .i64 x0_1, .int .i64 x0_2, .int .i64 x0_3, .int .i64 x0_4, .int .i64 x0_5, .int .i64 x0_6, .int .i64 x0_7, .int .i64 x0_8, .int .i64 x0_9, .slice a0_10 x0_10.length c0_10], Row 5 1 y.1 s.1.length y.2 (encB s.1), F]) ?_ ?_
 refine sr ?_
 refine vq (q_fa rfl rfl Tryz.underlying102 rfl rfl Tryz.sizeOf3 rfl) rfl ?_
 refine vq (q_load rfl rfl Tryz.isAgg3 (.obj 1 rfl rfl)) rfl ?_
 refine vq (q_eql rfl rfl rfl) rfl ?_
 refine vm rfl rfl ?_
 refine simL_valc (b := decide (x0_0 = (0 : Int))) (fun hb30v => RQ.sub (E' := [(1, .pointer (some ⟨b1v, 0, none⟩))]) ⟨rfl, trivial⟩ (q_fa rfl rfl Tryz.underlying102 rfl rfl Tryz.sizeOf3 rfl)) rfl rfl rfl rfl rfl ?_
 refine simL_valc (b := decide (x0_0 = (0 : Int))) (fun hb29v => RQ.sub (E' := [(25, .pointer (some ⟨b1v, 0, none⟩))]) ⟨lk_cv rfl hb29v, trivial⟩ (q_load rfl rfl Tryz.isAgg3 (.obj 1 rfl rfl))) rfl rfl rfl rfl rfl ?_
 refine simL_valc (b := decide (x0_0 = (0 : Int))) (fun hb28v => RQ.sub (E' := [(26, .int .i64 x0_0)]) ⟨lk_cv rfl hb28v, trivial⟩ (q_eql rfl rfl rfl)) rfl rfl rfl rfl rfl ?_
 refine vq (q_or rfl rfl rfl) rfl (simL_nil (nrm_then ?_))
 refine sim_condb rfl (fun h17v => ?_) (fun h18v => ?_)
 refine sr ?_
 refine vm rfl rfl ?_
 refine vq (q_fa rfl rfl Tryz.underlying102 rfl rfl Tryz.sizeOf43 rfl) rfl ?_
 refine vq (q_fa rfl rfl Tryz.underlying43 rfl rfl Tryz.sizeOf3 rfl) rfl ?_
 refine vq (q_load rfl rfl Tryz.isAgg3 (.obj 1 rfl rfl)) rfl ?_
 refine simL_bind (fun s19v hs20v => ?_)
 refine simL_eff (re_call (vs := [.pointer (some ⟨y4v.1, 0, none⟩), .int .i64 x0_2]) (cap := []) (A := [obj y4v.1 160 [.slice y9v.1 s8v.1.length y9v.2, .int .i64 s8v.2], Row 5 1 y9v.1 s8v.1.length y9v.2 (encB s8v.1)]) (rst := [obj b1v 102 [.int .i64 x0_0, .int .i64 x0_1, .int .i64 x0_2, .int .i64 x0_3, .int .i64 x0_4, .int .i64 x0_5, .int .i64 x0_6, .int .i64 x0_7, .int .i64 x0_8, .int .i64 x0_9, .slice a0_10 x0_10.length c0_10], F]) rfl rfl rfl rfl rfl rfl Tryz.call84 (.sel 0 rfl (.sel 1 rfl (.sel 0 rfl (.sel 0 rfl (.nil _))))) (wire_Writer_Int.calls _ _ k y4v.1 y9v.1 y9v.2 s8v.1 s8v.2 x0_2 ) hs20v) rfl rfl rfl ?_
 intro y21v
 refine nx ?_
 refine vm rfl rfl ?_
 refine vq (q_fa rfl rfl Tryz.underlying102 rfl rfl Tryz.sizeOf43 rfl) rfl ?_
 refine vq (q_fa rfl rfl Tryz.underlying43 rfl rfl Tryz.sizeOf3 rfl) rfl ?_
 refine vq (q_load rfl rfl Tryz.isAgg3 (.obj 2 rfl rfl)) rfl ?_
 refine simL_bind (fun s22v hs23v => ?_)
 refine simL_eff (re_call (vs := [.pointer (some ⟨y4v.1, 0, none⟩), .int .i64 x0_3]) (cap := []) (A := [obj y4v.1 160 [.slice y21v.1 s19v.1.length y21v.2, .int .i64 s19v.2], Row 5 1 y21v.1 s19v.1.length y21v.2 (encB s19v.1)]) (rst := [obj b1v 102 [.int .i64 x0_0, .int .i64 x0_1, .int .i64 x0_2, .int .i64 x0_3, .int .i64 x0_4, .int .i64 x0_5, .int .i64 x0_6, .int .i64 x0_7, .int .i64 x0_8, .int .i64 x0_9, .slice a0_10 x0_10.length c0_10], F]) rfl rfl rfl rfl rfl rfl Tryz.call84 (.sel 0 rfl (.sel 0 rfl (.sel 0 rfl (.sel 0 rfl (.nil _))))) (wire_Writer_Int.calls _ _ k y4v.1 y21v.1 y21v.2 s19v.1 s19v.2 x0_3 ) hs23v) rfl rfl rfl ?_
 intro y24v
 refine ny ?_
 refine vm rfl rfl ?_
 refine vq (q_fa rfl rfl Tryz.underlying102 rfl rfl Tryz.sizeOf43 rfl) rfl ?_
 refine vq (q_fa rfl rfl Tryz.underlying43 rfl rfl Tryz.sizeOf3 rfl) rfl ?_
 refine vq (q_load rfl rfl Tryz.isAgg3 (.obj 2 rfl rfl)) rfl ?_
 refine simL_bind (fun s25v hs26v => ?_)
 refine simL_eff (re_call (vs := [.pointer (some ⟨y4v.1, 0, none⟩), .int .i64 x0_4]) (cap := []) (A := [obj y4v.1 160 [.slice y24v.1 s22v.1.length y24v.2, .int .i64 s22v.2], Row 5 1 y24v.1 s22v.1.length y24v.2 (encB s22v.1)]) (rst := [obj b1v 102 [.int .i64 x0_0, .int .i64 x0_1, .int .i64 x0_2, .int .i64 x0_3, .int .i64 x0_4, .int .i64 x0_5, .int .i64 x0_6, .int .i64 x0_7, .int .i64 x0_8, .int .i64 x0_9, .slice a0_10 x0_10.length c0_10], F]) rfl rfl rfl rfl rfl rfl Tryz.call84 (.sel 0 rfl (.sel 0 rfl (.sel 0 rfl (.sel 0 rfl (.nil _))))) (wire_Writer_Int.calls _ _ k y4v.1 y24v.1 y24v.2 s22v.1 s22v.2 x0_4 ) hs26v) rfl rfl rfl ?_
 intro y27v
 refine simL_nil ?_
 exact nrm_cut (s := (s25v.1, s25v.2)) (y27v.1, y27v.2) ⟨rfl, rfl, trivial⟩ (.sel 0 rfl (.sel 1 rfl (.sel 0 rfl (.sel 0 rfl (.nil _)))))
 refine sim_skip ?_
 exact nrm_cut (s := (s8v.1, s8v.2)) (y9v.1, y9v.2) ⟨rfl, rfl, trivial⟩ (.sel 0 rfl (.sel 0 rfl (.sel 0 rfl (.sel 0 rfl (.nil _)))))
 intro s15v y16v
 refine sim_cut (S := List UInt8 × Int) (Option Addr × Nat) (fun s y => [(1, .pointer (some ⟨b1v, 0, none⟩)), (3, .pointer (some ⟨y4v.1, 0, none⟩))]) (fun s y => [obj y4v.1 160 [.slice y.1 s.1.length y.2, .int .i64 s.2], obj b1v 102 [.int .i64 x0_0, .int .i64 x0_1, .int .i64 x0_2, .int .i64 x0_3, .int .i64 x0_4, .int .i64 x0_5, .int .i64 x0_6, .int .i64 x0_7, .int .i64 x0_8, .int .i64 x0_9, .slice a0_10 x0_10.length c0_10], Row 5 1 y.1 s.1.length y.2 (encB s.1), F]) ?_ ?_
 refine sr ?_
 refine vq (q_fa rfl rfl Tryz.underlying102 rfl rfl Tryz.sizeOf3 rfl) rfl ?_
 refine vq (q_load rfl rfl Tryz.isAgg3 (.obj 1 rfl rfl)) rfl ?_
 refine vq (q_eql rfl rfl rfl) rfl ?_
 refine vm rfl rfl ?_
 refine simL_valc (b := decide (x0_0 = (0 : Int))) (fun hb43v => RQ.sub (E' := [(1, .pointer (some ⟨b1v, 0, none⟩))]) ⟨rfl, trivial⟩ (q_fa rfl rfl Tryz.underlying102 rfl rfl Tryz.sizeOf3 rfl)) rfl rfl rfl rfl rfl ?_
 refine simL_valc (b := decide (x0_0 = (0 : Int))) (fun hb42v => RQ.sub (E' := [(48, .pointer (some ⟨b1v, 0, none⟩))]) ⟨lk_cv rfl hb42v, trivial⟩ (q_load rfl rfl Tryz.isAgg3 (.obj 1 rfl rfl))) rfl rfl rfl rfl rfl ?_
 refine simL_valc (b := decide (x0_0 = (0 : Int))) (fun hb41v => RQ.sub (E' := [(49, .int .i64 x0_0)]) ⟨lk_cv rfl hb41v, trivial⟩ (q_eql rfl rfl rfl)) rfl rfl rfl rfl rfl ?_
 refine vq (q_or rfl rfl rfl) rfl (simL_nil (nrm_then ?_))
 refine sim_condb rfl (fun h33v => ?_) (fun h34v => ?_)
 refine sr ?_
 refine vm rfl rfl ?_
 refine vq (q_fa rfl rfl Tryz.underlying102 rfl rfl Tryz.sizeOf3 rfl) rfl ?_
 refine vq (q_load rfl rfl Tryz.isAgg3 (.obj 1 rfl rfl)) rfl ?_
 refine simL_bind (fun s35v hs36v => ?_)
 refine simL_eff (re_call (vs := [.pointer (some ⟨y4v.1, 0, none⟩), .int .i64 x0_5]) (cap := []) (A := [obj y4v.1 160 [.slice y16v.1 s15v.1.length y16v.2, .int .i64 s15v.2], Row 5 1 y16v.1 s15v.1.length y16v.2 (encB s15v.1)]) (rst := [obj b1v 102 [.int .i64 x0_0, .int .i64 x0_1, .int .i64 x0_2, .int .i64 x0_3, .int .i64 x0_4, .int .i64 x0_5, .int .i64 x0_6, .int .i64 x0_7, .int .i64 x0_8, .int .i64 x0_9, .slice a0_10 x0_10.length c0_10], F]) rfl rfl rfl rfl rfl rfl Tryz.call84 (.sel 0 rfl (.sel 1 rfl (.sel 0 rfl (.sel 0 rfl (.nil _))))) (wire_Writer_Int.calls _ _ k y4v.1 y16v.1 y16v.2 s15v.1 s15v.2 x0_5 ) hs36v) rfl rfl rfl ?_
 intro y37v
 refine ny ?_
 refine vm rfl rfl ?_
 refine vq (q_fa rfl rfl Tryz.underlying102 rfl rfl Tryz.sizeOf3 rfl) rfl ?_
 refine vq (q_load rfl rfl Tryz.isAgg3 (.obj 2 rfl rfl)) rfl ?_
 refine simL_bind (fun s38v hs39v => ?_)
 refine simL_eff (re_call (vs := [.pointer (some ⟨y4v.1, 0, none⟩), .int .i64 x0_6]) (cap := []) (A := [obj y4v.1 160 [.slice y37v.1 s35v.1.length y37v.2, .int .i64 s35v.2], Row 5 1 y37v.1 s35v.1.length y37v.2 (encB s35v.1)]) (rst := [obj b1v 102 [.int .i64 x0_0, .int .i64 x0_1, .int .i64 x0_2, .int .i64 x0_3, .int .i64 x0_4, .int .i64 x0_5, .int .i64 x0_6, .int .i64 x0_7, .int .i64 x0_8, .int .i64 x0_9, .slice a0_10 x0_10.length c0_10], F]) rfl rfl rfl rfl rfl rfl Tryz.call84 (.sel 0 rfl (.sel 0 rfl (.sel 0 rfl (.sel 0 rfl (.nil _))))) (wire_Writer_Int.calls _ _ k y4v.1 y37v.1 y37v.2 s35v.1 s35v.2 x0_6 ) hs39v) rfl rfl rfl ?_
 intro y40v
 refine simL_nil ?_
 exact nrm_cut (s := (s38v.1, s38v.2)) (y40v.1, y40v.2) ⟨rfl, rfl, trivial⟩ (.sel 0 rfl (.sel 1 rfl (.sel 0 rfl (.sel 0 rfl (.nil _)))))
 refine sim_skip ?_
 exact nrm_cut (s := (s15v.1, s15v.2)) (y16v.1, y16v.2) ⟨rfl, rfl, trivial⟩ (.sel 0 rfl (.sel 0 rfl (.sel 0 rfl (.sel 0 rfl (.nil _)))))
 intro s31v y32v
 refine sim_cut (S := List UInt8 × Int) (Option Addr × Nat) (fun s y => [(3, .pointer (some ⟨y4v.1, 0, none⟩))]) (fun s y => [obj y4v.1 160 [.slice y.1 s.1.length y.2, .int .i64 s.2], Row 5 1 y.1 s.1.length y.2 (encB s.1), F]) ?_ ?_
 refine sr ?_
 refine vq (q_fa rfl rfl Tryz.underlying102 rfl rfl Tryz.sizeOf3 rfl) rfl ?_
 refine vq (q_load rfl rfl Tryz.isAgg3 (.obj 1 rfl rfl)) rfl ?_
 refine vq (q_eql rfl rfl rfl) rfl (simL_nil (nrm_then ?_))
 refine sim_cond rfl (fun h46v => ?_) (fun h47v => ?_)
 refine sr ?_
 refine vq (q_build (v := .agg #[]) rfl rfl (fun _ => by kernel_rfl)) rfl ?_
 refine vq (q_fa rfl rfl Tryz.underlying102 rfl rfl Tryz.sizeOf35 rfl) rfl ?_
 refine vq (q_loads (vs := [.int .i64 x0_7, .int .i64 x0_8, .int .i64 x0_9, .slice a0_10 x0_10.length c0_10]) rfl rfl Tryz.isAgg35 Tryz.sizeOf35 rfl (cells_obj 1 rfl (cells_lit rfl))) rfl ?_
 refine simL_bind (fun s48v hs49v => ?_)
 refine simL_eff (re_call (vs := [.agg #[], .agg #[.int .i64 x0_7, .int .i64 x0_8, .int .i64 x0_9, .slice a0_10 x0_10.length c0_10]]) (cap := []) (A := []) (rst := [obj y4v.1 160 [.slice y32v.1 s31v.1.length y32v.2, .int .i64 s31v.2], obj b1v 102 [.int .i64 x0_0, .int .i64 x0_1, .int .i64 x0_2, .int .i64 x0_3, .int .i64 x0_4, .int .i64 x0_5, .int .i64 x0_6, .int .i64 x0_7, .int .i64 x0_8, .int .i64 x0_9, .slice a0_10 x0_10.length c0_10], Row 5 1 y32v.1 s31v.1.length y32v.2 (encB s31v.1), F]) rfl rfl rfl rfl rfl rfl Tryz.call85 (.sel 0 rfl (.sel 0 rfl (.sel 0 rfl (.sel 0 rfl (.nil _))))) (codec_Entries_Put.calls _ _ k x0_7 x0_8 x0_9 a0_10 c0_10 x0_10 (h0_10.lend 3 rfl) hc0_10 hm0_10) hs49v) rfl rfl rfl ?_
 intro y50v
 refine vm rfl rfl ?_
 refine vq (q_ext rfl rfl rfl) rfl ?_
 refine vq (q_ext rfl rfl rfl) rfl ?_
 refine va rfl rfl ?_
 refine va rfl rfl (nx ?_)
 refine vm rfl rfl ?_
 refine simL_bind (fun s51v hs52v => ?_)
 refine simL_eff (re_call (vs := [.int .i64 s48v.2]) (cap := []) (A := []) (rst := [Row 5 1 y50v.1 s48v.1.length y50v.2 (encB s48v.1), obj y4v.1 160 [.slice y32v.1 s31v.1.length y32v.2, .int .i64 s31v.2], obj b1v 102 [.int .i64 x0_0, .int .i64 x0_1, .int .i64 x0_2, .int .i64 x0_3, .int .i64 x0_4, .int .i64 x0_5, .int .i64 x0_6, .int .i64 x0_7, .int .i64 x0_8, .int .i64 x0_9, .slice a0_10 x0_10.length c0_10], Row 5 1 y32v.1 s31v.1.length y32v.2 (encB s31v.1), F]) rfl rfl rfl rfl rfl rfl Tryz.call43 (.sel 0 rfl (.sel 0 rfl (.sel 0 rfl (.sel 0 rfl (.sel 0 rfl (.nil _)))))) (wal_must.calls _ _ s48v.2 ) hs52v) rfl rfl rfl ?_
 intro y53v
 refine ny ?_
 refine vm rfl rfl ?_
 refine vm rfl rfl ?_
 refine simL_bind (fun s58v hs59v => ?_)
 refine simL_lend 0 rfl (fun hq54v hq55v hq56v hq57v => ?_)
 refine simL_eff (re_call (vs := [.pointer (some ⟨y4v.1, 0, none⟩), .slice y50v.1 s48v.1.length y50v.2, .int .i64 8192]) (cap := []) (A := [obj y4v.1 160 [.slice y32v.1 s31v.1.length y32v.2, .int .i64 s31v.2], Row 5 1 y32v.1 s31v.1.length y32v.2 (encB s31v.1)]) (rst := [Row 5 1 y50v.1 s48v.1.length y50v.2 (encB s48v.1), obj b1v 102 [.int .i64 x0_0, .int .i64 x0_1, .int .i64 x0_2, .int .i64 x0_3, .int .i64 x0_4, .int .i64 x0_5, .int .i64 x0_6, .int .i64 x0_7, .int .i64 x0_8, .int .i64 x0_9, .slice a0_10 x0_10.length c0_10], F]) rfl rfl rfl rfl rfl rfl Tryz.call86 (.sel 1 rfl (.sel 2 rfl (.sel 0 rfl (.sel 0 rfl (.sel 0 rfl (.nil _)))))) (wire_Writer_Bytes.calls _ _ k y4v.1 y32v.1 y32v.2 s31v.1 s31v.2 y50v.1 y50v.2 s48v.1 (8192 : Int) (hq54v.lend 0 rfl) hq55v hq56v) hs59v) rfl rfl rfl ?_
 intro y60v
 refine simL_nil ?_
 exact nrm_cut (s := (s58v.1, s58v.2)) (y60v.1, y60v.2) ⟨rfl, trivial⟩ (.sel 0 rfl (.sel 0 rfl (.sel 2 rfl (.nil _))))
 refine sim_skip ?_
 exact nrm_cut (s := (s31v.1, s31v.2)) (y32v.1, y32v.2) ⟨rfl, trivial⟩ (.sel 0 rfl (.sel 1 rfl (.sel 1 rfl (.nil _))))
 intro s44v y45v
 refine sr ?_
 refine vm rfl rfl ?_
 refine simL_bind (fun s65v hs66v => ?_)
 refine simL_lend 1 rfl (fun hq61v hq62v hq63v hq64v => ?_)
 refine simL_eff (re_call (vs := [.pointer (some ⟨y4v.1, 0, none⟩)]) (cap := []) (A := [obj y4v.1 160 [.slice y45v.1 s44v.1.length y45v.2, .int .i64 s44v.2]]) (rst := [Row 5 1 y45v.1 s44v.1.length y45v.2 (encB s44v.1), F]) rfl rfl rfl rfl rfl rfl Tryz.call87 (.sel 0 rfl (.sel 0 rfl (.sel 0 rfl (.nil _)))) (wire_Writer_Done.calls _ _ y4v.1 y45v.1 y45v.2 s44v.1 s44v.2 (hq61v.lend 0 rfl) hq62v hq63v) hs66v) rfl rfl rfl ?_
 intro y67v
 refine vm rfl rfl ?_
 refine vq (q_ext rfl rfl rfl) rfl ?_
 refine vq (q_ext rfl rfl rfl) rfl ?_
 refine va rfl rfl ?_
 refine va rfl rfl (nx ?_)
 refine vm rfl rfl ?_
 refine simL_bind (fun s68v hs69v => ?_)
 refine simL_eff (re_call (vs := [.int .i64 s65v.2]) (cap := []) (A := []) (rst := [Row 5 1 y67v.1 s65v.1.length y67v.2 (encB s65v.1), obj y4v.1 160 [.slice y45v.1 s44v.1.length y45v.2, .int .i64 s44v.2], Row 5 1 y45v.1 s44v.1.length y45v.2 (encB s44v.1), F]) rfl rfl rfl rfl rfl rfl Tryz.call43 (.sel 0 rfl (.sel 0 rfl (.sel 0 rfl (.sel 0 rfl (.nil _))))) (wal_must.calls _ _ s65v.2 ) hs69v) rfl rfl rfl ?_
 intro y70v
 refine nx ?_
 refine vm rfl rfl ?_
 refine simL_bind (fun s75v hs76v => ?_)
 refine simL_lend 0 rfl (fun hq71v hq72v hq73v hq74v => ?_)
 refine simL_eff (re_call (vs := [.slice y67v.1 s65v.1.length y67v.2]) (cap := []) (A := []) (rst := [Row 5 1 y67v.1 s65v.1.length y67v.2 (encB s65v.1), obj y4v.1 160 [.slice y45v.1 s44v.1.length y45v.2, .int .i64 s44v.2], Row 5 1 y45v.1 s44v.1.length y45v.2 (encB s44v.1), F]) rfl rfl rfl rfl rfl rfl Tryz.call88 (.sel 0 rfl (.sel 0 rfl (.sel 0 rfl (.sel 0 rfl (.nil _))))) (frame_Put.calls _ _ k y67v.1 y67v.2 s65v.1 (hq71v.lend 0 rfl) hq72v hq73v) hs76v) rfl rfl rfl ?_
 intro y77v
 refine vm rfl rfl ?_
 refine vq (q_ext rfl rfl rfl) rfl ?_
 refine vq (q_ext rfl rfl rfl) rfl ?_
 refine va rfl rfl ?_
 refine va rfl rfl (nx ?_)
 refine vm rfl rfl ?_
 refine simL_bind (fun s78v hs79v => ?_)
 refine simL_eff (re_call (vs := [.int .i64 s75v.2]) (cap := []) (A := []) (rst := [Row 5 1 y77v.1 s75v.1.length y77v.2 (encB s75v.1), Row 5 1 y67v.1 s65v.1.length y67v.2 (encB s65v.1), obj y4v.1 160 [.slice y45v.1 s44v.1.length y45v.2, .int .i64 s44v.2], Row 5 1 y45v.1 s44v.1.length y45v.2 (encB s44v.1), F]) rfl rfl rfl rfl rfl rfl Tryz.call43 (.sel 0 rfl (.sel 0 rfl (.sel 0 rfl (.sel 0 rfl (.sel 0 rfl (.nil _)))))) (wal_must.calls _ _ s75v.2 ) hs79v) rfl rfl rfl ?_
 intro y80v
 refine nx ?_
 refine vm rfl rfl ?_
 refine va rfl rfl (simL_nil (nrm_then (sim_rtn ?_)))
 exact rtn_fn (y77v.1, y77v.2) rfl rfl rfl (.sel 0 rfl (.sel 3 rfl (.nil _)))

def disk_Disk_Size.f (x0_0 : List ((List UInt8) × (List UInt8 × Int))) (x0_1 : List UInt8) (x0_2 : Int) (x0_3 : Bool) : Option (Int) := ((range0 (fun (s9v : Int) (x4v : List UInt8) (v5v : List UInt8 × Int) => some (IntKind.i64.wrap (s9v + (v5v.1.length : Int)))) 0 x0_0).bind fun s9v => (some s9v)).bind fun s1v => (some s1v)
theorem disk_Disk_Size.calls (W : World) (F : HA) (b0 : Nat) (m0_0 : Nat) (q0_0 : Kps) (x0_0 : List ((List UInt8) × (List UInt8 × Int))) (x0_1 : List UInt8) (x0_2 : Int) (x0_3 : Bool)  :
    Fn Tryz.prog W 59 [.pointer (some ⟨b0, 0, none⟩)] [obj b0 97 [.map (some m0_0), str x0_1, .int .i64 x0_2, .bool x0_3], mapF (mapO m0_0 enc9 encP q0_0) FA109 q0_0 x0_0] F (disk_Disk_Size.f x0_0 x0_1 x0_2 x0_3) (fun (r : Int) (y : Unit) => .int .i64 r) (fun r y => [obj b0 97 [.map (some m0_0), str x0_1, .int .i64 x0_2, .bool x0_3], mapF (mapO m0_0 enc9 encP q0_0) FA109 q0_0 x0_0]) := by
 unfold disk_Disk_Size.f
 refine fn_intro 23 Tryz.func59 rfl Tryz.ntmps59 rfl ?_
 refine sr ?_
 refine va rfl rfl (nx ?_)
 refine va rfl rfl (simL_nil (nrm_then ?_))
 refine sim_cut (S := Int) (Unit) (fun s y => [(3, .int .i64 s)]) (fun s y => [obj b0 97 [.map (some m0_0), str x0_1, .int .i64 x0_2, .bool x0_3], mapF (mapO m0_0 enc9 encP q0_0) FA109 q0_0 x0_0, F]) ?_ ?_
 refine sr ?_
 refine vm rfl rfl ?_
 refine vn rfl rfl ?_
 refine vq (q_fa rfl rfl Tryz.underlying97 rfl rfl Tryz.sizeOf95 rfl) rfl ?_
 refine vq (q_load rfl rfl Tryz.isAgg95 (.obj 0 rfl rfl)) rfl ?_
 refine simL_eff (re_rangeF 1 rfl rfl Tryz.underlying95 rfl) rfl rfl rfl ?_
 intro b3v
 refine simL_nil (nrm_then ?_)
 refine sim_block ?_
 refine sim_range0 (S := Int) (Y := Unit) (o2 := fun s9v => some s9v) (fun (s9v : Int) (x4v : List UInt8) (v5v : List UInt8 × Int) => some (IntKind.i64.wrap (s9v + (v5v.1.length : Int)))) (fun s y => [(3, .int .i64 s), (10, .pointer (some ⟨b3v, 0, none⟩))]) (fun s y => [obj b0 97 [.map (some m0_0), str x0_1, .int .i64 x0_2, .bool x0_3], F]) 0 () (fun x y e => by simpa [str] using e) (fun _ _ => rfl) rfl rfl (fun _ _ _ _ => ⟨rfl, rfl, trivial⟩) ⟨rfl, rfl, trivial⟩ ((.sel 1 rfl (.sel 0 rfl (.sel 0 rfl (.nil _))))) ?_ ?_
 intro kz6v td7v s9v y10v x4v v5v hv8v
 refine sim_eq (o' := some (IntKind.i64.wrap (s9v + (v5v.1.length : Int)))) rfl ?_
 refine sim_ent (H' := [mapF (itJ m0_0 b3v enc9 q0_0 td7v x4v) FA109 q0_0 kz6v, obj b0 97 [.map (some m0_0), str x0_1, .int .i64 x0_2, .bool x0_3], F]) (Ent.refl _) ?_
 refine sim_block ?_
 refine sr ?_
 refine vq (q_entry rfl rfl (ent_J 0 rfl)) rfl ?_
 refine vq (q_ext rfl rfl rfl) rfl ?_
 refine va rfl rfl (simL_nil (nrm_then ?_))
 refine sim_openF (v := v5v) 0 rfl hv8v (fun y12v => ?_)
 refine sim_ent (H' := [obj (fptr q0_0 x4v) 109 [.slice y12v.1 v5v.1.length y12v.2, .int .i64 v5v.2], Row 5 1 y12v.1 v5v.1.length y12v.2 (encB v5v.1), mapH (itJ m0_0 b3v enc9 q0_0 td7v x4v) FA109 q0_0 kz6v x4v, obj b0 97 [.map (some m0_0), str x0_1, .int .i64 x0_2, .bool x0_3], F]) (Ent.refl _) ?_
 refine sim_region ?_
 refine vm rfl rfl ?_
 refine vm rfl rfl ?_
 refine vn rfl rfl ?_
 refine vq (q_fa rfl rfl Tryz.underlying109 rfl rfl Tryz.sizeOf33 rfl) rfl ?_
 refine vq (q_load rfl rfl Tryz.isAgg33 (.obj 0 rfl rfl)) rfl ?_
 refine vq (q_len rfl rfl rfl Tryz.underlying33) rfl ?_
 refine vq (q_add rfl rfl rfl) rfl ?_
 refine va rfl rfl (simL_nil (nrm_block ?_))
 exact nrm_cut (s := IntKind.i64.wrap (s9v + (v5v.1.length : Int))) () ⟨rfl, rfl, trivial⟩ ((.foldF0 (x := x4v) (p := (fptr q0_0 x4v)) (v := v5v) (y12v.1, y12v.2) rfl hv8v (.sel 2 rfl (.sel 0 rfl (.sel 0 rfl (.sel 0 rfl (.sel 0 rfl (.nil _))))))))
 intro s9v y10v
 refine nrm_eq (o' := some s9v) rfl ?_
 refine nrm_ent (H' := [mapF (mapO m0_0 enc9 encP q0_0) FA109 q0_0 x0_0, obj b0 97 [.map (some m0_0), str x0_1, .int .i64 x0_2, .bool x0_3], F]) (Ent.refl _) ?_
 exact nrm_cut (s := s9v) () ⟨rfl, trivial⟩ (.sel 1 rfl (.sel 0 rfl (.sel 0 rfl (.nil _))))
 intro s1v y2v
 refine sr ?_
 refine vm rfl rfl ?_
 refine va rfl rfl (simL_nil (nrm_then (sim_rtn ?_)))
 exact rtn_fn () rfl rfl rfl (.sel 0 rfl (.sel 0 rfl (.sel 0 rfl (.nil _))))

def disk_Disk_Append.f (x0_0 : List ((List UInt8) × (List UInt8 × Int))) (x0_1 : List UInt8) (x0_2 : Int) (x0_3 : Bool) (x1 : List UInt8) (x2 : List UInt8) : Option (Int × (List ((List UInt8) × (List UInt8 × Int))) × List UInt8 × Int × Bool) := if (mget x0_0 x1).isSome = true then (if x0_3 = true then (some (11, x0_0, x0_1, x0_2, x0_3)) else ((disk_Disk_Size.f x0_0 x0_1 x0_2 x0_3).bind fun s4v => (if IntKind.i64.wrap (16777216 - s4v) < (x2.length : Int) then (some (10, x0_0, x0_1, x0_2, x0_3)) else (((disk_Disk_fails.f x0_0 x0_1 x0_2 x0_3).bind fun s11v => (if s11v.1 = true then (if 0 ≤ (0 : Int) ∧ (0 : Int) ≤ IntKind.i64.wrap (Int.tdiv (x2.length : Int) 2) ∧ IntKind.i64.wrap (Int.tdiv (x2.length : Int) 2) ≤ (x2.length : Int) then (some (cut x2 (0 : Int) (IntKind.i64.wrap (Int.tdiv (x2.length : Int) 2)), 11, s11v.2.1, s11v.2.2.1, s11v.2.2.2)) else none) else (some (x2, 0, s11v.2.1, s11v.2.2.1, s11v.2.2.2)))).bind fun s9v => (if ((((mget x0_0 x1).getD (([] : List UInt8), (0 : Int))).1).length + s9v.1.length) * 1 ≤ 140737488355328 then (some (s9v.2.1, mput x0_0 x1 ((((mget x0_0 x1).getD (([] : List UInt8), (0 : Int))).1) ++ s9v.1, ((mget x0_0 x1).getD (([] : List UInt8), (0 : Int))).2), x1, s9v.2.2.2.1, s9v.2.2.2.2)) else none))))) else (if x0_3 = true then (some (11, x0_0, x0_1, x0_2, x0_3)) else (some (8, x0_0, x0_1, x0_2, x0_3)))
theorem disk_Disk_Append.calls (W : World) (F : HA) (b0 : Nat) (m0_0 : Nat) (q0_0 : Kps) (x0_0 : List ((List UInt8) × (List UInt8 × Int))) (x0_1 : List UInt8) (x0_2 : Int) (x0_3 : Bool) (x1 : List UInt8) (a2 : Option Addr) (c2 : Nat) (x2 : List UInt8) (h2 : Rd F a2 (encB x2)) (hc2 : x2.length ≤ c2) (hm2 : c2 ≤ maxLen) :
    Fn Tryz.prog W 22 [.pointer (some ⟨b0, 0, none⟩), str x1, .slice a2 x2.length c2] [obj b0 97 [.map (some m0_0), str x0_1, .int .i64 x0_2, .bool x0_3], mapF (mapO m0_0 enc9 encP q0_0) FA109 q0_0 x0_0] F (disk_Disk_Append.f x0_0 x0_1 x0_2 x0_3 x1 x2) (fun (r : Int × (List ((List UInt8) × (List UInt8 × Int))) × List UInt8 × Int × Bool) (y : Nat × Kps) => .int .i64 r.1) (fun r y => [obj b0 97 [.map (some y.1), str r.2.2.1, .int .i64 r.2.2.2.1, .bool r.2.2.2.2], mapF (mapO y.1 enc9 encP y.2) FA109 y.2 r.2.1]) := by
 unfold disk_Disk_Append.f
 refine fn_intro 51 Tryz.func22 rfl Tryz.ntmps22 rfl ?_
 refine sr ?_
 refine va rfl rfl (simL_nil (nrm_then (sim_seq ?_)))
 refine sim_if (fun hk1v => ?_) (fun hk1v => ?_)
 refine sim_region ?_
 refine vm rfl rfl ?_
 refine vn rfl rfl ?_
 refine vq (q_fa rfl rfl Tryz.underlying97 rfl rfl Tryz.sizeOf95 rfl) rfl ?_
 refine vq (q_load rfl rfl Tryz.isAgg95 (.obj 0 rfl rfl)) rfl ?_
 refine vm rfl rfl ?_
 refine vq ((q_mlookY (ek := enc9) x1 (tellsF 1 rfl) hk1v rfl rfl rfl Tryz.underlying95 key9 : RQ _ _ _ _ (.pointer (some ⟨(fptr q0_0 x1), 0, none⟩)))) rfl ?_
 refine va rfl rfl (simL_nil (nrm_then (sim_seq ?_)))
 refine sim_block ?_
 refine sr ?_
 refine vm rfl rfl ?_
 refine vn rfl rfl ?_
 refine vq (q_fa rfl rfl Tryz.underlying97 rfl rfl Tryz.sizeOf4 rfl) rfl ?_
 refine vq (q_load rfl rfl Tryz.isAgg4 (.obj 0 rfl rfl)) rfl ?_
 refine va rfl rfl (simL_nil (nrm_then ?_))
 refine sim_condb rfl (fun h2v => ?_) (fun h3v => ?_)
 refine sr ?_
 refine va rfl rfl (simL_nil (nrm_then (sim_rtn ?_)))
 refine rtn_block ?_
 refine rtn_then ?_
 exact rtn_fn (m0_0, q0_0) rfl rfl rfl (.sel 0 rfl (.sel 0 rfl (.sel 0 rfl (.nil _))))
 refine sr ?_
 refine vm rfl rfl ?_
 refine vq (q_eqp rfl rfl rfl Tryz.underlying107) rfl ?_
 refine va rfl rfl (simL_nil (nrm_then ?_))
 refine sim_false rfl ?_
 refine sr ?_
 refine vm rfl rfl ?_
 refine vq (q_len rfl rfl rfl Tryz.underlying33) rfl ?_
 refine vm rfl rfl ?_
 refine simL_bind (fun s4v hs5v => ?_)
 refine simL_eff (re_call (vs := [.pointer (some ⟨b0, 0, none⟩)]) (cap := []) (A := [obj b0 97 [.map (some m0_0), str x0_1, .int .i64 x0_2, .bool x0_3], mapF (mapO m0_0 enc9 encP q0_0) FA109 q0_0 x0_0]) (rst := [F]) rfl rfl rfl rfl rfl rfl Tryz.call59 (.sel 0 rfl (.sel 0 rfl (.sel 0 rfl (.nil _)))) (disk_Disk_Size.calls _ _ b0 m0_0 q0_0 x0_0 x0_1 x0_2 x0_3 ) hs5v) rfl rfl rfl ?_
 intro y6v
 refine vq (q_sub rfl rfl rfl) rfl ?_
 refine vq (q_gtr rfl rfl rfl) rfl ?_
 refine va rfl rfl (simL_nil (nrm_then ?_))
 refine sim_cond rfl (fun h7v => ?_) (fun h8v => ?_)
 refine sr ?_
 refine va rfl rfl (simL_nil (nrm_then (sim_rtn ?_)))
 refine rtn_block ?_
 refine rtn_then ?_
 exact rtn_fn (m0_0, q0_0) rfl rfl rfl (.sel 0 rfl (.sel 0 rfl (.sel 0 rfl (.nil _))))
 refine sim_skip ?_
 refine nrm_block (nrm_then (sr ?_))
 refine va rfl rfl (simL_nil (nrm_then ?_))
 refine sim_cut (S := List UInt8 × Int × List UInt8 × Int × Bool) (Option Addr × Nat) (fun s y => [(0, .pointer (some ⟨b0, 0, none⟩)), (1, str x1), (2, .slice y.1 s.1.length y.2), (7, .pointer (some ⟨(fptr q0_0 x1), 0, none⟩)), (8, .int .i64 s.2.1)]) (fun s y => [pr (Rd F y.1 (encB s.1) ∧ s.1.length ≤ y.2 ∧ y.2 ≤ maxLen), obj b0 97 [.map (some m0_0), str s.2.2.1, .int .i64 s.2.2.2.1, .bool s.2.2.2.2], mapF (mapO m0_0 enc9 encP q0_0) FA109 q0_0 x0_0, F]) ?_ ?_
 refine sr ?_
 refine vm rfl rfl ?_
 refine simL_bind (fun s11v hs12v => ?_)
 refine simL_eff (re_call (vs := [.pointer (some ⟨b0, 0, none⟩)]) (cap := []) (A := [obj b0 97 [.map (some m0_0), str x0_1, .int .i64 x0_2, .bool x0_3], mapF (mapO m0_0 enc9 encP q0_0) FA109 q0_0 x0_0]) (rst := [F]) rfl rfl rfl rfl rfl rfl Tryz.call58 (.sel 0 rfl (.sel 0 rfl (.sel 0 rfl (.nil _)))) (disk_Disk_fails.calls _ _ b0 m0_0 q0_0 x0_0 x0_1 x0_2 x0_3 ) hs12v) rfl rfl rfl ?_
 intro y13v
 refine simL_nil (nrm_then ?_)
 refine sim_condb rfl (fun h14v => ?_) (fun h15v => ?_)
 refine sim_region ?_
 refine vm rfl rfl ?_
 refine vm rfl rfl ?_
 refine vq (q_len rfl rfl rfl Tryz.underlying33) rfl ?_
 refine vq (q_quo rfl rfl rfl (by decide)) rfl ?_
 refine simL_ask (fun hb17v => ?_)
 obtain ⟨a18v, c19v, hS20v, hr21v, hc22v, hm23v⟩ := slice_pre (lo := (0 : Int)) (hi := IntKind.i64.wrap (Int.tdiv (x2.length : Int) 2)) h2 hc2 hb17v
 refine vq (q_sub_ro (l := x2) (lo' := (0 : Int)) (hi' := IntKind.i64.wrap (Int.tdiv (x2.length : Int) 2)) rfl rfl rfl rfl Tryz.underlying33 Tryz.sizeOf5 (.inr ⟨_, rfl⟩) (.inl ⟨rfl, rfl⟩) hb17v hc2 hS20v) rfl ?_
 refine va rfl rfl ?_
 refine va rfl rfl (simL_nil ?_)
 exact nrm_cut (s := (cut x2 (0 : Int) (IntKind.i64.wrap (Int.tdiv (x2.length : Int) 2)), 11, s11v.2.1, s11v.2.2.1, s11v.2.2.2)) (a18v, c19v) ⟨rfl, rfl, rfl, rfl, rfl, trivial⟩ (.pr_in ⟨hr21v, hc22v, (Nat.le_trans hm23v hm2)⟩ (.sel 0 rfl (.sel 0 rfl (.sel 0 rfl (.nil _)))))
 refine sim_skip ?_
 exact nrm_cut (s := (x2, 0, s11v.2.1, s11v.2.2.1, s11v.2.2.2)) (a2, c2) ⟨rfl, rfl, rfl, rfl, rfl, trivial⟩ (.pr_in ⟨h2, hc2, hm2⟩ (.sel 0 rfl (.sel 0 rfl (.sel 0 rfl (.nil _)))))
 intro s9v y10v
 refine sim_pr (fun hj24v => ?_)
 refine sim_seq ?_
 refine sim_openF (v := ((mget x0_0 x1).getD (([] : List UInt8), (0 : Int)))) 1 rfl (getD_some hk1v) (fun y25v => ?_)
 refine sim_ent (H' := [obj (fptr q0_0 x1) 109 [.slice y25v.1 ((((mget x0_0 x1).getD (([] : List UInt8), (0 : Int))).1).length) y25v.2, .int .i64 (((mget x0_0 x1).getD (([] : List UInt8), (0 : Int))).2)], Row 5 1 y25v.1 (((mget x0_0 x1).getD (([] : List UInt8), (0 : Int))).1).length y25v.2 (encB (((mget x0_0 x1).getD (([] : List UInt8), (0 : Int))).1)), mapH (mapO m0_0 enc9 encP q0_0) FA109 q0_0 x0_0 x1, obj b0 97 [.map (some m0_0), str s9v.2.2.1, .int .i64 s9v.2.2.2.1, .bool s9v.2.2.2.2], F]) (Ent.refl _) ?_
 refine sim_region ?_
 refine vm rfl rfl ?_
 refine vm rfl rfl ?_
 refine vn rfl rfl ?_
 refine vq (q_fa rfl rfl Tryz.underlying109 rfl rfl Tryz.sizeOf33 rfl) rfl ?_
 refine vq (q_load rfl rfl Tryz.isAgg33 (.obj 0 rfl rfl)) rfl ?_
 refine vm rfl rfl ?_
 refine simL_ask (fun hb27v => ?_)
 refine simL_eff (re_appendb 1 rfl rfl rfl Tryz.underlying33 elt5 rfl (hj24v.1.rds 3 rfl) hb27v) rfl rfl rfl ?_
 intro y26v
 refine vn rfl rfl ?_
 refine vq (q_fa rfl rfl Tryz.underlying109 rfl rfl Tryz.sizeOf33 rfl) rfl ?_
 refine simL_do (re_store 0 rfl rfl rfl Tryz.sizeOf33 rfl rfl (one_of (by rfl)) rfl rfl) rfl rfl ?_
 intro _
 refine nx ?_
 refine vm rfl rfl ?_
 refine vm rfl rfl ?_
 refine vn rfl rfl ?_
 refine vq (q_fa rfl rfl Tryz.underlying97 rfl rfl Tryz.sizeOf9 rfl) rfl ?_
 refine simL_do (re_store 3 rfl rfl rfl Tryz.sizeOf9 rfl rfl (one_of (by rfl)) rfl rfl) rfl rfl ?_
 intro _
 refine nx ?_
 refine vm rfl rfl ?_
 refine va rfl rfl (simL_nil (nrm_then (sim_rtn ?_)))
 exact rtn_fn (m0_0, q0_0) rfl rfl rfl (.sel 3 rfl (.foldF (x := x1) (p := (fptr q0_0 x1)) (v := ((((mget x0_0 x1).getD (([] : List UInt8), (0 : Int))).1) ++ s9v.1, ((mget x0_0 x1).getD (([] : List UInt8), (0 : Int))).2)) (y26v.1, y26v.2) rfl (.sel 2 rfl (.sel 0 rfl (.sel 0 rfl (.sel 0 rfl (.nil _)))))))
 refine sim_region ?_
 refine vm rfl rfl ?_
 refine vn rfl rfl ?_
 refine vq (q_fa rfl rfl Tryz.underlying97 rfl rfl Tryz.sizeOf95 rfl) rfl ?_
 refine vq (q_load rfl rfl Tryz.isAgg95 (.obj 0 rfl rfl)) rfl ?_
 refine vm rfl rfl ?_
 refine vq (q_mlookN (ek := enc9) x1 (tellsF 1 rfl) (isNone_of hk1v) rfl rfl rfl Tryz.underlying95 key9 Tryz.zeroValue107) rfl ?_
 refine va rfl rfl (simL_nil (nrm_then (sim_seq ?_)))
 refine sim_block ?_
 refine sr ?_
 refine vm rfl rfl ?_
 refine vn rfl rfl ?_
 refine vq (q_fa rfl rfl Tryz.underlying97 rfl rfl Tryz.sizeOf4 rfl) rfl ?_
 refine vq (q_load rfl rfl Tryz.isAgg4 (.obj 0 rfl rfl)) rfl ?_
 refine va rfl rfl (simL_nil (nrm_then ?_))
 refine sim_condb rfl (fun h28v => ?_) (fun h29v => ?_)
 refine sr ?_
 refine va rfl rfl (simL_nil (nrm_then (sim_rtn ?_)))
 refine rtn_block ?_
 refine rtn_then ?_
 exact rtn_fn (m0_0, q0_0) rfl rfl rfl (.sel 0 rfl (.sel 0 rfl (.sel 0 rfl (.nil _))))
 refine sr ?_
 refine vm rfl rfl ?_
 refine vq (q_eqnn rfl rfl rfl Tryz.underlying107) rfl ?_
 refine va rfl rfl (simL_nil (nrm_then ?_))
 refine sim_true rfl ?_
 refine sr ?_
 refine va rfl rfl (simL_nil (nrm_then (sim_rtn ?_)))
 refine rtn_block ?_
 refine rtn_then ?_
 exact rtn_fn (m0_0, q0_0) rfl rfl rfl (.sel 0 rfl (.sel 0 rfl (.sel 0 rfl (.nil _))))

def disk_Disk_Sync.f (x0_0 : List ((List UInt8) × (List UInt8 × Int))) (x0_1 : List UInt8) (x0_2 : Int) (x0_3 : Bool) (x1 : List UInt8) : Option (Int × (List ((List UInt8) × (List UInt8 × Int))) × List UInt8 × Int × Bool) := if (mget x0_0 x1).isSome = true then (if x0_3 = true then (some (11, x0_0, x0_1, x0_2, x0_3)) else ((disk_Disk_fails.f x0_0 x0_1 x0_2 x0_3).bind fun s4v => (if s4v.1 = true then (some (11, x0_0, s4v.2.1, s4v.2.2.1, s4v.2.2.2)) else (some (0, mput x0_0 x1 (((mget x0_0 x1).getD (([] : List UInt8), (0 : Int))).1, ((((mget x0_0 x1).getD (([] : List UInt8), (0 : Int))).1).length : Int)), s4v.2.1, s4v.2.2.1, s4v.2.2.2))))) else (if x0_3 = true then (some (11, x0_0, x0_1, x0_2, x0_3)) else (some (8, x0_0, x0_1, x0_2, x0_3)))
theorem disk_Disk_Sync.calls (W : World) (F : HA) (b0 : Nat) (m0_0 : Nat) (q0_0 : Kps) (x0_0 : List ((List UInt8) × (List UInt8 × Int))) (x0_1 : List UInt8) (x0_2 : Int) (x0_3 : Bool) (x1 : List UInt8)  :
    Fn Tryz.prog W 46 [.pointer (some ⟨b0, 0, none⟩), str x1] [obj b0 97 [.map (some m0_0), str x0_1, .int .i64 x0_2, .bool x0_3], mapF (mapO m0_0 enc9 encP q0_0) FA109 q0_0 x0_0] F (disk_Disk_Sync.f x0_0 x0_1 x0_2 x0_3 x1) (fun (r : Int × (List ((List UInt8) × (List UInt8 × Int))) × List UInt8 × Int × Bool) (y : Nat × Kps) => .int .i64 r.1) (fun r y => [obj b0 97 [.map (some y.1), str r.2.2.1, .int .i64 r.2.2.2.1, .bool r.2.2.2.2], mapF (mapO y.1 enc9 encP y.2) FA109 y.2 r.2.1]) := by
 unfold disk_Disk_Sync.f
 refine fn_intro 31 Tryz.func46 rfl Tryz.ntmps46 rfl ?_
 refine sr ?_
 refine va rfl rfl (simL_nil (nrm_then (sim_seq ?_)))
 refine sim_if (fun hk1v => ?_) (fun hk1v => ?_)
 refine sim_region ?_
 refine vm rfl rfl ?_
 refine vn rfl rfl ?_
 refine vq (q_fa rfl rfl Tryz.underlying97 rfl rfl Tryz.sizeOf95 rfl) rfl ?_
 refine vq (q_load rfl rfl Tryz.isAgg95 (.obj 0 rfl rfl)) rfl ?_
 refine vm rfl rfl ?_
 refine vq ((q_mlookY (ek := enc9) x1 (tellsF 1 rfl) hk1v rfl rfl rfl Tryz.underlying95 key9 : RQ _ _ _ _ (.pointer (some ⟨(fptr q0_0 x1), 0, none⟩)))) rfl ?_
 refine va rfl rfl (simL_nil (nrm_then (sim_seq ?_)))
 refine sim_block ?_
 refine sr ?_
 refine vm rfl rfl ?_
 refine vn rfl rfl ?_
 refine vq (q_fa rfl rfl Tryz.underlying97 rfl rfl Tryz.sizeOf4 rfl) rfl ?_
 refine vq (q_load rfl rfl Tryz.isAgg4 (.obj 0 rfl rfl)) rfl ?_
 refine va rfl rfl (simL_nil (nrm_then ?_))
 refine sim_condb rfl (fun h2v => ?_) (fun h3v => ?_)
 refine sr ?_
 refine va rfl rfl (simL_nil (nrm_then (sim_rtn ?_)))
 refine rtn_block ?_
 refine rtn_then ?_
 exact rtn_fn (m0_0, q0_0) rfl rfl rfl (.sel 0 rfl (.sel 0 rfl (.sel 0 rfl (.nil _))))
 refine sr ?_
 refine vm rfl rfl ?_
 refine vq (q_eqp rfl rfl rfl Tryz.underlying107) rfl ?_
 refine va rfl rfl (simL_nil (nrm_then ?_))
 refine sim_false rfl ?_
 refine sr ?_
 refine vm rfl rfl ?_
 refine simL_bind (fun s4v hs5v => ?_)
 refine simL_eff (re_call (vs := [.pointer (some ⟨b0, 0, none⟩)]) (cap := []) (A := [obj b0 97 [.map (some m0_0), str x0_1, .int .i64 x0_2, .bool x0_3], mapF (mapO m0_0 enc9 encP q0_0) FA109 q0_0 x0_0]) (rst := [F]) rfl rfl rfl rfl rfl rfl Tryz.call58 (.sel 0 rfl (.sel 0 rfl (.sel 0 rfl (.nil _)))) (disk_Disk_fails.calls _ _ b0 m0_0 q0_0 x0_0 x0_1 x0_2 x0_3 ) hs5v) rfl rfl rfl ?_
 intro y6v
 refine va rfl rfl (simL_nil (nrm_then ?_))
 refine sim_condb rfl (fun h7v => ?_) (fun h8v => ?_)
 refine sr ?_
 refine va rfl rfl (simL_nil (nrm_then (sim_rtn ?_)))
 refine rtn_block ?_
 refine rtn_then ?_
 exact rtn_fn (m0_0, q0_0) rfl rfl rfl (.sel 0 rfl (.sel 0 rfl (.sel 0 rfl (.nil _))))
 refine sim_skip ?_
 refine nrm_block (nrm_then (sim_seq ?_))
 refine sim_openF (v := ((mget x0_0 x1).getD (([] : List UInt8), (0 : Int)))) 1 rfl (getD_some hk1v) (fun y9v => ?_)
 refine sim_ent (H' := [obj (fptr q0_0 x1) 109 [.slice y9v.1 ((((mget x0_0 x1).getD (([] : List UInt8), (0 : Int))).1).length) y9v.2, .int .i64 (((mget x0_0 x1).getD (([] : List UInt8), (0 : Int))).2)], Row 5 1 y9v.1 (((mget x0_0 x1).getD (([] : List UInt8), (0 : Int))).1).length y9v.2 (encB (((mget x0_0 x1).getD (([] : List UInt8), (0 : Int))).1)), mapH (mapO m0_0 enc9 encP q0_0) FA109 q0_0 x0_0 x1, obj b0 97 [.map (some m0_0), str s4v.2.1, .int .i64 s4v.2.2.1, .bool s4v.2.2.2], F]) (Ent.refl _) ?_
 refine sim_region ?_
 refine vm rfl rfl ?_
 refine vm rfl rfl ?_
 refine vn rfl rfl ?_
 refine vq (q_fa rfl rfl Tryz.underlying109 rfl rfl Tryz.sizeOf33 rfl) rfl ?_
 refine vq (q_load rfl rfl Tryz.isAgg33 (.obj 0 rfl rfl)) rfl ?_
 refine vq (q_len rfl rfl rfl Tryz.underlying33) rfl ?_
 refine vn rfl rfl ?_
 refine vq (q_fa rfl rfl Tryz.underlying109 rfl rfl Tryz.sizeOf3 rfl) rfl ?_
 refine simL_do (re_store 0 rfl rfl rfl Tryz.sizeOf3 rfl rfl (one_of (by rfl)) rfl rfl) rfl rfl ?_
 intro _
 refine nx ?_
 refine va rfl rfl (simL_nil (nrm_then (sim_rtn ?_)))
 exact rtn_fn (m0_0, q0_0) rfl rfl rfl (.sel 3 rfl (.foldF (x := x1) (p := (fptr q0_0 x1)) (v := (((mget x0_0 x1).getD (([] : List UInt8), (0 : Int))).1, ((((mget x0_0 x1).getD (([] : List UInt8), (0 : Int))).1).length : Int))) (y9v.1, y9v.2) rfl (.sel 2 rfl (.sel 0 rfl (.sel 0 rfl (.sel 0 rfl (.nil _)))))))
 refine sim_region ?_
 refine vm rfl rfl ?_
 refine vn rfl rfl ?_
 refine vq (q_fa rfl rfl Tryz.underlying97 rfl rfl Tryz.sizeOf95 rfl) rfl ?_
 refine vq (q_load rfl rfl Tryz.isAgg95 (.obj 0 rfl rfl)) rfl ?_
 refine vm rfl rfl ?_
 refine vq (q_mlookN (ek := enc9) x1 (tellsF 1 rfl) (isNone_of hk1v) rfl rfl rfl Tryz.underlying95 key9 Tryz.zeroValue107) rfl ?_
 refine va rfl rfl (simL_nil (nrm_then (sim_seq ?_)))
 refine sim_block ?_
 refine sr ?_
 refine vm rfl rfl ?_
 refine vn rfl rfl ?_
 refine vq (q_fa rfl rfl Tryz.underlying97 rfl rfl Tryz.sizeOf4 rfl) rfl ?_
 refine vq (q_load rfl rfl Tryz.isAgg4 (.obj 0 rfl rfl)) rfl ?_
 refine va rfl rfl (simL_nil (nrm_then ?_))
 refine sim_condb rfl (fun h10v => ?_) (fun h11v => ?_)
 refine sr ?_
 refine va rfl rfl (simL_nil (nrm_then (sim_rtn ?_)))
 refine rtn_block ?_
 refine rtn_then ?_
 exact rtn_fn (m0_0, q0_0) rfl rfl rfl (.sel 0 rfl (.sel 0 rfl (.sel 0 rfl (.nil _))))
 refine sr ?_
 refine vm rfl rfl ?_
 refine vq (q_eqnn rfl rfl rfl Tryz.underlying107) rfl ?_
 refine va rfl rfl (simL_nil (nrm_then ?_))
 refine sim_true rfl ?_
 refine sr ?_
 refine va rfl rfl (simL_nil (nrm_then (sim_rtn ?_)))
 refine rtn_block ?_
 refine rtn_then ?_
 exact rtn_fn (m0_0, q0_0) rfl rfl rfl (.sel 0 rfl (.sel 0 rfl (.sel 0 rfl (.nil _))))

def slices_Clone__int_int.f (x0 : List Int) : Option (List Int) := if (([] : List Int).length + x0.length) * 8 ≤ 140737488355328 then (some (([] : List Int) ++ x0)) else none
theorem slices_Clone__int_int.calls (W : World) (F : HA) (a0 : Option Addr) (c0 : Nat) (x0 : List Int) (h0 : RdV F 1 (V3 tt) a0 x0) (hc0 : x0.length ≤ c0) (hm0 : c0 ≤ maxLen) :
    Fn Tryz.prog W 44 [.slice a0 x0.length c0] [] F (slices_Clone__int_int.f x0) (fun (r : List Int) (y : Option Addr × Nat) => .slice y.1 r.length y.2) (fun r y => [RowV 3 1 (V3 tt) y.1 r y.2]) := by
 unfold slices_Clone__int_int.f
 refine fn_intro 8 Tryz.func44 rfl Tryz.ntmps44 rfl ?_
 rcases a0 with _ | p0
 have hx : x0 = [] := rdV_none rfl h0
 subst hx
 refine sim_eq (o' := some ([] : List Int)) (by simp) ?_
 refine sr ?_
 refine va rfl rfl (simL_nil (nrm_then (sim_seq (sr ?_))))
 refine vm rfl rfl ?_
 refine vq (q_slnilT rfl rfl Tryz.underlying78) rfl (simL_nil (nrm_then ?_))
 refine sim_true rfl ?_
 refine sr ?_
 refine va rfl rfl (simL_nil (nrm_then (sim_rtn ?_)))
 refine rtn_then ?_
 exact rtn_fn (none, 0) rfl rfl rfl (.rowV_nil (.sel 0 rfl (.nil _)))
 refine sr ?_
 refine va rfl rfl (simL_nil (nrm_then (sim_seq (sr ?_))))
 refine vm rfl rfl ?_
 refine vq (q_slnilF rfl rfl Tryz.underlying78) rfl (simL_nil (nrm_then ?_))
 refine sim_false rfl ?_
 refine sim_skip ?_
 refine nrm_then (sr ?_)
 refine simL_eff (re_lit0V (α := Int) (V := (V3 tt)) rfl Tryz.underlying78 elt3) rfl rfl rfl ?_
 intro b1v
 refine vm rfl rfl ?_
 refine simL_openV 0 rfl (fun rs6v hl7v => ?_)
 refine simL_ask (fun hb5v => ?_)
 refine simL_eff (re_appendV 0 rfl rfl rfl Tryz.underlying78 elt3 rfl hl7v (h0.rds 0 rfl) hb5v) rfl rfl rfl ?_
 intro y4v
 refine va rfl rfl (simL_nil (nrm_then (sim_rtn ?_)))
 exact rtn_fn (y4v.1, y4v.2) rfl rfl rfl (.sel 0 rfl (.sel 0 rfl (.nil _)))

def disk_fresh.f (x0 : List UInt8) : Option (List UInt8) := if 0 ≤ (0 : Int) ∧ (0 : Int) ≤ (x0.length : Int) ∧ (x0.length : Int) * 1 ≤ 140737488355328 then (if ((List.replicate (0 : Int).toNat (0 : UInt8)).length + x0.length) * 1 ≤ 140737488355328 then (some ((List.replicate (0 : Int).toNat (0 : UInt8)) ++ x0)) else none) else none
theorem disk_fresh.calls (W : World) (F : HA) (a0 : Option Addr) (c0 : Nat) (x0 : List UInt8) (h0 : Rd F a0 (encB x0)) (hc0 : x0.length ≤ c0) (hm0 : c0 ≤ maxLen) :
    Fn Tryz.prog W 66 [.slice a0 x0.length c0] [] F (disk_fresh.f x0) (fun (r : List UInt8) (y : Option Addr × Nat) => .slice y.1 r.length y.2) (fun r y => [Row 5 1 y.1 r.length y.2 (encB r)]) := by
 unfold disk_fresh.f
 refine fn_intro 8 Tryz.func66 rfl Tryz.ntmps66 rfl ?_
 refine sr ?_
 refine va rfl rfl (nx ?_)
 refine vm rfl rfl ?_
 refine vq (q_len rfl rfl rfl Tryz.underlying33) rfl ?_
 refine simL_ask (fun hb2v => ?_)
 refine simL_eff (re_makeb rfl rfl rfl Tryz.underlying33 elt5 hb2v.1 hb2v.2.1 hb2v.2.2) rfl rfl rfl ?_
 intro b1v
 refine vm rfl rfl ?_
 refine simL_ask (fun hb4v => ?_)
 refine simL_eff (re_appendb 0 rfl rfl rfl Tryz.underlying33 elt5 rfl (h0.rds 0 rfl) hb4v) rfl rfl rfl ?_
 intro y3v
 refine va rfl rfl (simL_nil (nrm_then (sim_rtn ?_)))
 exact rtn_fn (y3v.1, y3v.2) rfl rfl rfl (.sel 0 rfl (.sel 0 rfl (.nil _)))

def disk_Disk_Read.f (x0_0 : List ((List UInt8) × (List UInt8 × Int))) (x0_1 : List UInt8) (x0_2 : Int) (x0_3 : Bool) (x1 : List UInt8) : Option (List UInt8 × Int) := if (mget x0_0 x1).isSome = true then ((disk_fresh.f (((mget x0_0 x1).getD (([] : List UInt8), (0 : Int))).1)).bind fun s7v => (some (s7v, 0))) else (some (([] : List UInt8), 8))
theorem disk_Disk_Read.calls (W : World) (F : HA) (b0 : Nat) (m0_0 : Nat) (q0_0 : Kps) (x0_0 : List ((List UInt8) × (List UInt8 × Int))) (x0_1 : List UInt8) (x0_2 : Int) (x0_3 : Bool) (x1 : List UInt8)  :
    Fn Tryz.prog W 26 [.pointer (some ⟨b0, 0, none⟩), str x1] [obj b0 97 [.map (some m0_0), str x0_1, .int .i64 x0_2, .bool x0_3], mapF (mapO m0_0 enc9 encP q0_0) FA109 q0_0 x0_0] F (disk_Disk_Read.f x0_0 x0_1 x0_2 x0_3 x1) (fun (r : List UInt8 × Int) (y : Option Addr × Nat) => .tuple #[.slice y.1 r.1.length y.2, .int .i64 r.2]) (fun r y => [Row 5 1 y.1 r.1.length y.2 (encB r.1), obj b0 97 [.map (some m0_0), str x0_1, .int .i64 x0_2, .bool x0_3], mapF (mapO m0_0 enc9 encP q0_0) FA109 q0_0 x0_0]) := by
 unfold disk_Disk_Read.f
 refine fn_intro 20 Tryz.func26 rfl Tryz.ntmps26 rfl ?_
 refine sr ?_
 refine va rfl rfl ?_
 refine va rfl rfl (simL_nil (nrm_then (sim_seq ?_)))
 refine sim_if (fun hk1v => ?_) (fun hk1v => ?_)
 refine sim_region ?_
 refine vm rfl rfl ?_
 refine vn rfl rfl ?_
 refine vq (q_fa rfl rfl Tryz.underlying97 rfl rfl Tryz.sizeOf95 rfl) rfl ?_
 refine vq (q_load rfl rfl Tryz.isAgg95 (.obj 0 rfl rfl)) rfl ?_
 refine vm rfl rfl ?_
 refine vq ((q_mlookY (ek := enc9) x1 (tellsF 1 rfl) hk1v rfl rfl rfl Tryz.underlying95 key9 : RQ _ _ _ _ (.pointer (some ⟨(fptr q0_0 x1), 0, none⟩)))) rfl ?_
 refine va rfl rfl (simL_nil (nrm_then (sim_seq (sr ?_))))
 refine vm rfl rfl ?_
 refine vq (q_eqp rfl rfl rfl Tryz.underlying107) rfl (simL_nil (nrm_then ?_))
 refine sim_false rfl ?_
 refine sim_skip ?_
 refine nrm_then (sim_seq ?_)
 refine sim_openF (v := ((mget x0_0 x1).getD (([] : List UInt8), (0 : Int)))) 1 rfl (getD_some hk1v) (fun y2v => ?_)
 refine sim_ent (H' := [obj (fptr q0_0 x1) 109 [.slice y2v.1 ((((mget x0_0 x1).getD (([] : List UInt8), (0 : Int))).1).length) y2v.2, .int .i64 (((mget x0_0 x1).getD (([] : List UInt8), (0 : Int))).2)], Row 5 1 y2v.1 (((mget x0_0 x1).getD (([] : List UInt8), (0 : Int))).1).length y2v.2 (encB (((mget x0_0 x1).getD (([] : List UInt8), (0 : Int))).1)), mapH (mapO m0_0 enc9 encP q0_0) FA109 q0_0 x0_0 x1, obj b0 97 [.map (some m0_0), str x0_1, .int .i64 x0_2, .bool x0_3], F]) (Ent.refl _) ?_
 refine sim_region ?_
 refine vm rfl rfl ?_
 refine vn rfl rfl ?_
 refine vq (q_fa rfl rfl Tryz.underlying109 rfl rfl Tryz.sizeOf33 rfl) rfl ?_
 refine vq (q_load rfl rfl Tryz.isAgg33 (.obj 0 rfl rfl)) rfl ?_
 refine simL_bind (fun s7v hs8v => ?_)
 refine simL_lend 1 rfl (fun hq3v hq4v hq5v hq6v => ?_)
 refine simL_eff (re_call (vs := [.slice y2v.1 ((((mget x0_0 x1).getD (([] : List UInt8), (0 : Int))).1).length) y2v.2]) (cap := []) (A := []) (rst := [obj (fptr q0_0 x1) 109 [.slice y2v.1 ((((mget x0_0 x1).getD (([] : List UInt8), (0 : Int))).1).length) y2v.2, .int .i64 (((mget x0_0 x1).getD (([] : List UInt8), (0 : Int))).2)], Row 5 1 y2v.1 (((mget x0_0 x1).getD (([] : List UInt8), (0 : Int))).1).length y2v.2 (encB (((mget x0_0 x1).getD (([] : List UInt8), (0 : Int))).1)), mapH (mapO m0_0 enc9 encP q0_0) FA109 q0_0 x0_0 x1, obj b0 97 [.map (some m0_0), str x0_1, .int .i64 x0_2, .bool x0_3], F]) rfl rfl rfl rfl rfl rfl Tryz.call66 (.sel 0 rfl (.sel 0 rfl (.sel 0 rfl (.sel 0 rfl (.sel 0 rfl (.nil _)))))) (disk_fresh.calls _ _ y2v.1 y2v.2 (((mget x0_0 x1).getD (([] : List UInt8), (0 : Int))).1) (hq3v.lend 1 rfl) hq4v hq5v) hs8v) rfl rfl rfl ?_
 intro y9v
 refine va rfl rfl ?_
 refine va rfl rfl (simL_nil (nrm_then (sim_rtn ?_)))
 exact rtn_fn (y9v.1, y9v.2) rfl rfl rfl (.sel 0 rfl (.sel 3 rfl (.foldF0 (x := x1) (p := (fptr q0_0 x1)) (v := ((mget x0_0 x1).getD (([] : List UInt8), (0 : Int)))) (y2v.1, y2v.2) rfl (getD_some hk1v) (.sel 2 rfl (.sel 0 rfl (.sel 0 rfl (.sel 0 rfl (.nil _))))))))
 refine sim_region ?_
 refine vm rfl rfl ?_
 refine vn rfl rfl ?_
 refine vq (q_fa rfl rfl Tryz.underlying97 rfl rfl Tryz.sizeOf95 rfl) rfl ?_
 refine vq (q_load rfl rfl Tryz.isAgg95 (.obj 0 rfl rfl)) rfl ?_
 refine vm rfl rfl ?_
 refine vq (q_mlookN (ek := enc9) x1 (tellsF 1 rfl) (isNone_of hk1v) rfl rfl rfl Tryz.underlying95 key9 Tryz.zeroValue107) rfl ?_
 refine va rfl rfl (simL_nil (nrm_then (sim_seq (sr ?_))))
 refine vm rfl rfl ?_
 refine vq (q_eqnn rfl rfl rfl Tryz.underlying107) rfl (simL_nil (nrm_then ?_))
 refine sim_true rfl ?_
 refine sr ?_
 refine va rfl rfl ?_
 refine va rfl rfl (simL_nil (nrm_then (sim_rtn ?_)))
 refine rtn_then ?_
 exact rtn_fn (none, 0) rfl rfl rfl (.row_nil (.sel 0 rfl (.sel 0 rfl (.sel 0 rfl (.nil _)))))

def frame_read.f (x0 : List UInt8) : Option (Int) := if 0 ≤ (0 : Int) ∧ (0 : Int) < (x0.length : Int) then (if 0 ≤ (1 : Int) ∧ (1 : Int) < (x0.length : Int) then (if 0 ≤ (2 : Int) ∧ (2 : Int) < (x0.length : Int) then (if 0 ≤ (3 : Int) ∧ (3 : Int) < (x0.length : Int) then (some (bitsV .or .u32 (bitsV .or .u32 (bitsV .or .u32 (IntKind.u32.wrap ((x0.getD (0 : Int).toNat 0).toNat : Int)) (IntKind.u32.wrap ((IntKind.u32.wrap ((x0.getD (1 : Int).toNat 0).toNat : Int)) * 2 ^ (min (8 : Int).toNat IntKind.u32.bits)))) (IntKind.u32.wrap ((IntKind.u32.wrap ((x0.getD (2 : Int).toNat 0).toNat : Int)) * 2 ^ (min (16 : Int).toNat IntKind.u32.bits)))) (IntKind.u32.wrap ((IntKind.u32.wrap ((x0.getD (3 : Int).toNat 0).toNat : Int)) * 2 ^ (min (24 : Int).toNat IntKind.u32.bits))))) else none) else none) else none) else none
theorem frame_read.calls (W : World) (F : HA) (a0 : Option Addr) (c0 : Nat) (x0 : List UInt8) (h0 : Rd F a0 (encB x0)) (hc0 : x0.length ≤ c0) (hm0 : c0 ≤ maxLen) :
    Fn Tryz.prog W 94 [.slice a0 x0.length c0] [] F (frame_read.f x0) (fun (r : Int) (y : Unit) => .int .u32 r) (fun r y => []) := by
 unfold frame_read.f
 refine fn_intro 25 Tryz.func94 rfl Tryz.ntmps94 rfl ?_
 refine sr ?_
 refine va rfl rfl (simL_nil (nrm_then (sim_seq ?_)))
 refine sim_ask (fun hi1v => ?_)
 obtain ⟨b2v, b2vo, ha3v⟩ := h0.pos (encB_ne (j := (0 : Int).toNat) (by omega))
 refine sim_ask (fun hi5v => ?_)
 obtain ⟨b6v, b6vo, ha7v⟩ := h0.pos (encB_ne (j := (1 : Int).toNat) (by omega))
 refine sim_ask (fun hi9v => ?_)
 obtain ⟨b10v, b10vo, ha11v⟩ := h0.pos (encB_ne (j := (2 : Int).toNat) (by omega))
 refine sim_ask (fun hi13v => ?_)
 obtain ⟨b14v, b14vo, ha15v⟩ := h0.pos (encB_ne (j := (3 : Int).toNat) (by omega))
 refine sim_draw (Γ := Unit) () [[], [0], [0, 1], [0, 1, 2], [], [4], [4, 5], [4, 5, 6], [4, 5, 6, 7], rL 9, [], [10], [10, 11], [10, 11, 12], [10, 11, 12, 13], rL 15, [], [16], [16, 17], [16, 17, 18], [16, 17, 18, 19], rL 21, rL 22] [] [0, 1, 2, 3, 4, 5, 6, 7, 8, 9, 10, 11, 12, 13, 14, 15, 16, 17, 18, 19, 20, 21, 22] (fun i => [[0], [0], [0], [0], [0], [0], [0], [0], [0], [0], [0], [0], [0], [0], [0], [0], [0], [0], [0], [0], [0], [0], [0]].getD i []) (fun i => [[], [], [], [], [], [], [], [], [], [], [], [], [], [], [], [], [], [], [], [], [], [], []].getD i []) (fun γ i => [.slice a0 x0.length c0, .pointer (some ⟨b2v, b2vo + (0 : Int).toNat, none⟩), .int .u8 ((x0.getD (0 : Int).toNat 0).toNat : Int), .int .u32 (IntKind.u32.wrap ((x0.getD (0 : Int).toNat 0).toNat : Int)), .slice a0 x0.length c0, .pointer (some ⟨b6v, b6vo + (1 : Int).toNat, none⟩), .int .u8 ((x0.getD (1 : Int).toNat 0).toNat : Int), .int .u32 (IntKind.u32.wrap ((x0.getD (1 : Int).toNat 0).toNat : Int)), .int .u32 (IntKind.u32.wrap ((IntKind.u32.wrap ((x0.getD (1 : Int).toNat 0).toNat : Int)) * 2 ^ (min (8 : Int).toNat IntKind.u32.bits))), .int .u32 (bitsV .or .u32 (IntKind.u32.wrap ((x0.getD (0 : Int).toNat 0).toNat : Int)) (IntKind.u32.wrap ((IntKind.u32.wrap ((x0.getD (1 : Int).toNat 0).toNat : Int)) * 2 ^ (min (8 : Int).toNat IntKind.u32.bits)))), .slice a0 x0.length c0, .pointer (some ⟨b10v, b10vo + (2 : Int).toNat, none⟩), .int .u8 ((x0.getD (2 : Int).toNat 0).toNat : Int), .int .u32 (IntKind.u32.wrap ((x0.getD (2 : Int).toNat 0).toNat : Int)), .int .u32 (IntKind.u32.wrap ((IntKind.u32.wrap ((x0.getD (2 : Int).toNat 0).toNat : Int)) * 2 ^ (min (16 : Int).toNat IntKind.u32.bits))), .int .u32 (bitsV .or .u32 (bitsV .or .u32 (IntKind.u32.wrap ((x0.getD (0 : Int).toNat 0).toNat : Int)) (IntKind.u32.wrap ((IntKind.u32.wrap ((x0.getD (1 : Int).toNat 0).toNat : Int)) * 2 ^ (min (8 : Int).toNat IntKind.u32.bits)))) (IntKind.u32.wrap ((IntKind.u32.wrap ((x0.getD (2 : Int).toNat 0).toNat : Int)) * 2 ^ (min (16 : Int).toNat IntKind.u32.bits)))), .slice a0 x0.length c0, .pointer (some ⟨b14v, b14vo + (3 : Int).toNat, none⟩), .int .u8 ((x0.getD (3 : Int).toNat 0).toNat : Int), .int .u32 (IntKind.u32.wrap ((x0.getD (3 : Int).toNat 0).toNat : Int)), .int .u32 (IntKind.u32.wrap ((IntKind.u32.wrap ((x0.getD (3 : Int).toNat 0).toNat : Int)) * 2 ^ (min (24 : Int).toNat IntKind.u32.bits))), .int .u32 (bitsV .or .u32 (bitsV .or .u32 (bitsV .or .u32 (IntKind.u32.wrap ((x0.getD (0 : Int).toNat 0).toNat : Int)) (IntKind.u32.wrap ((IntKind.u32.wrap ((x0.getD (1 : Int).toNat 0).toNat : Int)) * 2 ^ (min (8 : Int).toNat IntKind.u32.bits)))) (IntKind.u32.wrap ((IntKind.u32.wrap ((x0.getD (2 : Int).toNat 0).toNat : Int)) * 2 ^ (min (16 : Int).toNat IntKind.u32.bits)))) (IntKind.u32.wrap ((IntKind.u32.wrap ((x0.getD (3 : Int).toNat 0).toNat : Int)) * 2 ^ (min (24 : Int).toNat IntKind.u32.bits)))), .int .u32 (bitsV .or .u32 (bitsV .or .u32 (bitsV .or .u32 (IntKind.u32.wrap ((x0.getD (0 : Int).toNat 0).toNat : Int)) (IntKind.u32.wrap ((IntKind.u32.wrap ((x0.getD (1 : Int).toNat 0).toNat : Int)) * 2 ^ (min (8 : Int).toNat IntKind.u32.bits)))) (IntKind.u32.wrap ((IntKind.u32.wrap ((x0.getD (2 : Int).toNat 0).toNat : Int)) * 2 ^ (min (16 : Int).toNat IntKind.u32.bits)))) (IntKind.u32.wrap ((IntKind.u32.wrap ((x0.getD (3 : Int).toNat 0).toNat : Int)) * 2 ^ (min (24 : Int).toNat IntKind.u32.bits))))].getD i undef) (fun j γ => [[F]].getD j []) (fun γ => [(2, .int .u32 (bitsV .or .u32 (bitsV .or .u32 (bitsV .or .u32 (IntKind.u32.wrap ((x0.getD (0 : Int).toNat 0).toNat : Int)) (IntKind.u32.wrap ((IntKind.u32.wrap ((x0.getD (1 : Int).toNat 0).toNat : Int)) * 2 ^ (min (8 : Int).toNat IntKind.u32.bits)))) (IntKind.u32.wrap ((IntKind.u32.wrap ((x0.getD (2 : Int).toNat 0).toNat : Int)) * 2 ^ (min (16 : Int).toNat IntKind.u32.bits)))) (IntKind.u32.wrap ((IntKind.u32.wrap ((x0.getD (3 : Int).toNat 0).toNat : Int)) * 2 ^ (min (24 : Int).toNat IntKind.u32.bits)))))]) mixed (by decide) (by decide) (by decide) (by decide) (by decide) (by decide) (by decide) 25 rfl (by decide) (by decide) (by decide) (Ent.refl _) ?_ ?_ (fun _ => ⟨rfl, trivial⟩) ?_
 exact (aq rfl (fun γ => qm rfl (.o (s := 0) rfl (by decide) .nil) rfl) (aq rfl (fun γ => qp rfl rfl (.v 0 rfl rfl .nil) (q_idx1 rfl rfl rfl ha3v Tryz.underlying33 Tryz.sizeOf5 hi1v.1 hi1v.2) rfl) (aq rfl (fun γ => qp rfl rfl (.v 1 rfl rfl .nil) (q_load rfl rfl Tryz.isAgg5 (h0.cell 0 rfl ha3v (encB_get (by omega)))) rfl) (aq rfl (fun γ => qp rfl rfl (.v 2 rfl rfl .nil) (q_conv rfl rfl Tryz.underlying5 Tryz.underlying149) rfl) (aq rfl (fun γ => qm rfl (.o (s := 0) rfl (by decide) .nil) rfl) (aq rfl (fun γ => qp rfl rfl (.v 4 rfl rfl .nil) (q_idx1 rfl rfl rfl ha7v Tryz.underlying33 Tryz.sizeOf5 hi5v.1 hi5v.2) rfl) (aq rfl (fun γ => qp rfl rfl (.v 5 rfl rfl .nil) (q_load rfl rfl Tryz.isAgg5 (h0.cell 0 rfl ha7v (encB_get (by omega)))) rfl) (aq rfl (fun γ => qp rfl rfl (.v 6 rfl rfl .nil) (q_conv rfl rfl Tryz.underlying5 Tryz.underlying149) rfl) (aq rfl (fun γ => qp rfl rfl (.v 7 rfl rfl .nil) (q_shl rfl rfl rfl (by decide)) rfl) (aq rfl (fun γ => qp rfl rfl (.v 3 rfl rfl (.v 8 rfl rfl .nil)) (q_or_ rfl rfl rfl) rfl) (aq rfl (fun γ => qm rfl (.o (s := 0) rfl (by decide) .nil) rfl) (aq rfl (fun γ => qp rfl rfl (.v 10 rfl rfl .nil) (q_idx1 rfl rfl rfl ha11v Tryz.underlying33 Tryz.sizeOf5 hi9v.1 hi9v.2) rfl) (aq rfl (fun γ => qp rfl rfl (.v 11 rfl rfl .nil) (q_load rfl rfl Tryz.isAgg5 (h0.cell 0 rfl ha11v (encB_get (by omega)))) rfl) (aq rfl (fun γ => qp rfl rfl (.v 12 rfl rfl .nil) (q_conv rfl rfl Tryz.underlying5 Tryz.underlying149) rfl) (aq rfl (fun γ => qp rfl rfl (.v 13 rfl rfl .nil) (q_shl rfl rfl rfl (by decide)) rfl) (aq rfl (fun γ => qp rfl rfl (.v 9 rfl rfl (.v 14 rfl rfl .nil)) (q_or_ rfl rfl rfl) rfl) (aq rfl (fun γ => qm rfl (.o (s := 0) rfl (by decide) .nil) rfl) (aq rfl (fun γ => qp rfl rfl (.v 16 rfl rfl .nil) (q_idx1 rfl rfl rfl ha15v Tryz.underlying33 Tryz.sizeOf5 hi13v.1 hi13v.2) rfl) (aq rfl (fun γ => qp rfl rfl (.v 17 rfl rfl .nil) (q_load rfl rfl Tryz.isAgg5 (h0.cell 0 rfl ha15v (encB_get (by omega)))) rfl) (aq rfl (fun γ => qp rfl rfl (.v 18 rfl rfl .nil) (q_conv rfl rfl Tryz.underlying5 Tryz.underlying149) rfl) (aq rfl (fun γ => qp rfl rfl (.v 19 rfl rfl .nil) (q_shl rfl rfl rfl (by decide)) rfl) (aq rfl (fun γ => qp rfl rfl (.v 15 rfl rfl (.v 20 rfl rfl .nil)) (q_or_ rfl rfl rfl) rfl) (aq rfl (fun γ => qp rfl rfl (.v 21 rfl rfl .nil) (q_asg rfl rfl) rfl) zA)))))))))))))))))))))))
 exact zA
 intro g17v
 refine nrm_then (sim_rtn ?_)
 exact rtn_fn () rfl rfl rfl (.sel 0 rfl (.nil _))
end Go.Proofs.YtndjkejhacfpdaaGreatDoor

/- Printed by gen.py: pure functions and the proofs that the Go functions simulate them. Conditions: as each theorem says. -/
import Derived.Test.YtlblpegbgbgliaaSh
import Derived.Test.YtlblpegbgbgliaaProg
namespace Go.Proofs.Ytlblpegbgbgliaa
open Go.RowKit
set_option linter.unusedVariables false
set_option maxRecDepth 20000
set_option maxHeartbeats 2000000
theorem elt5 : Elt Try.prog 5 1 1 [.int .u8 0] := .of (.int .u8 0) (by kernel_rfl) rfl rfl rfl rfl
abbrev Ty35 : Type := Int × Int × Int × List UInt8 × List UInt8 × List UInt8 × Int × Int × Int × List UInt8
abbrev dz35 : Ty35 := ((0 : Int), (0 : Int), (0 : Int), ([] : List UInt8), ([] : List UInt8), ([] : List UInt8), (0 : Int), (0 : Int), (0 : Int), ([] : List UInt8))
abbrev enc9 (x : List UInt8) : Value := str x
abbrev enc3 (x : Int) : Value := .int .i64 x
abbrev enc71 (x : Int × Bool × List UInt8) : Value := .agg #[.int .i64 x.1, .bool x.2.1, str x.2.2]
theorem key9 : KeyT Try.prog 9 enc9 := keyT_str Try.underlying9
theorem key71 : KeyT Try.prog 71 enc71 := keyT_struct (cs := fun x => #[.int .i64 x.1, .bool x.2.1, str x.2.2]) Try.underlying71 (fun _ => rfl) (fun x => ⟨⟨_, fun _ => part_of Try.isAgg3 rfl, chk_int Try.underlying3⟩, ⟨_, fun _ => part_of Try.isAgg4 rfl, chk_bool Try.underlying4⟩, ⟨_, fun _ => part_of Try.isAgg9 rfl, chk_str Try.underlying9⟩, trivial⟩) (by kernel_rfl) (fun d x y w => by
  have h := eqi_struct (d := d + 1) (w := w) (xs := #[.int .i64 x.1, .bool x.2.1, str x.2.2]) (ys := #[.int .i64 y.1, .bool y.2.1, str y.2.2]) Try.underlying71 (by kernel_rfl) (eqf_cons (by rfl) (part_of Try.isAgg3 rfl) (part_of Try.isAgg3 rfl) (eqi_int Try.underlying3) (eqf_cons (by rfl) (part_of Try.isAgg4 rfl) (part_of Try.isAgg4 rfl) (eqi_bool Try.underlying4) (eqf_last (by rfl) (part_of Try.isAgg9 rfl) (part_of Try.isAgg9 rfl) (eqi_str Try.underlying9))))
  refine h.trans (congrArg (fun b => Result.ok b w) ?_)
  obtain ⟨x0, x1, x2⟩ := x
  obtain ⟨y0, y1, y2⟩ := y
  rw [Bool.eq_iff_iff]
  simp) (fun n x => bits_agg [_, _, _] n (by simp [bits_int, bits_bool, bits_str]))
theorem elt35 : Elt Try.prog 35 10 112 [.int .i64 0, .int .i64 0, .int .i64 0, str ([] : List UInt8), str ([] : List UInt8), str ([] : List UInt8), .int .i64 0, .int .i64 0, .int .i64 0, str ([] : List UInt8)] := .of (.agg #[.int .i64 0, .int .i64 0, .int .i64 0, str ([] : List UInt8), str ([] : List UInt8), str ([] : List UInt8), .int .i64 0, .int .i64 0, .int .i64 0, str ([] : List UInt8)]) (by kernel_rfl) rfl rfl rfl rfl
theorem elt9 : Elt Try.prog 9 1 16 [str ([] : List UInt8)] := .of (str ([] : List UInt8)) (by kernel_rfl) rfl rfl rfl rfl
theorem elt3 : Elt Try.prog 3 1 8 [.int .i64 0] := .of (.int .i64 0) (by kernel_rfl) rfl rfl rfl rfl
def V35 (_ : HA) (x : Int × Int × Int × List UInt8 × List UInt8 × List UInt8 × Int × Int × Int × List UInt8) (r : List Value) : Prop := r = [.int .i64 x.1, .int .i64 x.2.1, .int .i64 x.2.2.1, str x.2.2.2.1, str x.2.2.2.2.1, str x.2.2.2.2.2.1, .int .i64 x.2.2.2.2.2.2.1, .int .i64 x.2.2.2.2.2.2.2.1, .int .i64 x.2.2.2.2.2.2.2.2.1, str x.2.2.2.2.2.2.2.2.2]
theorem V35.up {G F : HA} (_ : Up G F) : ∀ x r, V35 G x r → V35 F x r := fun _ _ h => h
def Ok35 (x : Int × Int × Int × List UInt8 × List UInt8 × List UInt8 × Int × Int × Int × List UInt8) : Prop := okI .i64 x.1 ∧ okI .i64 x.2.1 ∧ okI .i64 x.2.2.1 ∧ x.2.2.2.1.length ≤ 140737488351232 ∧ x.2.2.2.2.1.length ≤ 140737488351232 ∧ x.2.2.2.2.2.1.length ≤ 140737488351232 ∧ okI .i64 x.2.2.2.2.2.2.1 ∧ okI .i64 x.2.2.2.2.2.2.2.1 ∧ okI .i64 x.2.2.2.2.2.2.2.2.1 ∧ x.2.2.2.2.2.2.2.2.2.length ≤ 140737488351232
def V9 (_ : HA) (x : List UInt8) (r : List Value) : Prop := r = [str x]
theorem V9.up {G F : HA} (_ : Up G F) : ∀ x r, V9 G x r → V9 F x r := fun _ _ h => h
def Ok9 (x : List UInt8) : Prop := x.length ≤ 140737488351232
def V3 (_ : HA) (x : Int) (r : List Value) : Prop := r = [.int .i64 x]
theorem V3.up {G F : HA} (_ : Up G F) : ∀ x r, V3 G x r → V3 F x r := fun _ _ h => h
def Ok3 (x : Int) : Prop := okI .i64 x
theorem mixed : Try.prog.follows .mixedOrders = true := by kernel_rfl
def lin_open.f (x0_0 : Int) (x0_1 : Int) (x0_2 : Int) (x0_3 : List UInt8) (x0_4 : List UInt8) (x0_5 : List UInt8) (x0_6 : Int) (x0_7 : Int) (x0_8 : Int) (x0_9 : List UInt8) : Option (Bool) := some (decide (x0_7 = (0 : Int)))
theorem lin_open.calls (W : World) (F : HA) (x0_0 : Int) (x0_1 : Int) (x0_2 : Int) (x0_3 : List UInt8) (x0_4 : List UInt8) (x0_5 : List UInt8) (x0_6 : Int) (x0_7 : Int) (x0_8 : Int) (x0_9 : List UInt8)  :
    Fn Try.prog W 30 [.agg #[.int .i64 x0_0, .int .i64 x0_1, .int .i64 x0_2, str x0_3, str x0_4, str x0_5, .int .i64 x0_6, .int .i64 x0_7, .int .i64 x0_8, str x0_9]] [] F (lin_open.f x0_0 x0_1 x0_2 x0_3 x0_4 x0_5 x0_6 x0_7 x0_8 x0_9) (fun (r : Bool) (y : Unit) => .bool r) (fun r y => []) := by
 unfold lin_open.f
 refine fn_intro 6 Try.func30 rfl Try.ntmps30 rfl ?_
 refine sim_seq (sim_region ?_)
 refine simL_eff (re_box rfl rfl rfl) rfl rfl rfl ?_
 intro b1v
 refine simL_val (q_asg rfl rfl) rfl rfl rfl (simL_nil (nrm_then (sim_seq (sim_region ?_))))
 refine simL_val (q_fa rfl rfl Try.underlying35 rfl rfl Try.sizeOf3 rfl) rfl rfl rfl ?_
 refine simL_val (q_load rfl rfl Try.isAgg3 (.obj 0 rfl rfl)) rfl rfl rfl ?_
 refine simL_val (q_eql rfl rfl rfl) rfl rfl rfl ?_
 refine simL_val (q_asg rfl rfl) rfl rfl rfl (simL_nil (nrm_then (sim_rtn ?_)))
 exact rtn_fn () rfl rfl rfl (.sel 1 rfl (.nil _))
def lin_open.v (x0_0 : Int) (x0_1 : Int) (x0_2 : Int) (x0_3 : List UInt8) (x0_4 : List UInt8) (x0_5 : List UInt8) (x0_6 : Int) (x0_7 : Int) (x0_8 : Int) (x0_9 : List UInt8) : Bool := (lin_open.f x0_0 x0_1 x0_2 x0_3 x0_4 x0_5 x0_6 x0_7 x0_8 x0_9).getD false
theorem lin_open.tot (x0_0 : Int) (x0_1 : Int) (x0_2 : Int) (x0_3 : List UInt8) (x0_4 : List UInt8) (x0_5 : List UInt8) (x0_6 : Int) (x0_7 : Int) (x0_8 : Int) (x0_9 : List UInt8) : lin_open.f x0_0 x0_1 x0_2 x0_3 x0_4 x0_5 x0_6 x0_7 x0_8 x0_9 = some (lin_open.v x0_0 x0_1 x0_2 x0_3 x0_4 x0_5 x0_6 x0_7 x0_8 x0_9) := by
  have h : ∃ r, lin_open.f x0_0 x0_1 x0_2 x0_3 x0_4 x0_5 x0_6 x0_7 x0_8 x0_9 = some r := by
    unfold lin_open.f
    repeat' (first | exact ⟨_, rfl⟩ | split | simp only [Option.bind_some])
  obtain ⟨r, h⟩ := h
  unfold lin_open.v
  rw [h]; rfl

def lin_Counts.f (x0_0 : Int) (x0_1 : Int) (x0_2 : Int) (x0_3 : List UInt8) (x0_4 : List UInt8) (x0_5 : List UInt8) (x0_6 : Int) (x0_7 : Int) (x0_8 : Int) (x0_9 : List UInt8) : Option (Bool) := (lin_open.f x0_0 x0_1 x0_2 x0_3 x0_4 x0_5 x0_6 x0_7 x0_8 x0_9).bind fun s2v => (if s2v = true then (some (!decide (x0_2 = (1 : Int)))) else (some (((decide (x0_8 = (1 : Int))) || (decide (x0_8 = (2 : Int)))) || (decide (x0_8 = (3 : Int))))))
theorem lin_Counts.calls (W : World) (F : HA) (x0_0 : Int) (x0_1 : Int) (x0_2 : Int) (x0_3 : List UInt8) (x0_4 : List UInt8) (x0_5 : List UInt8) (x0_6 : Int) (x0_7 : Int) (x0_8 : Int) (x0_9 : List UInt8)  :
    Fn Try.prog W 18 [.agg #[.int .i64 x0_0, .int .i64 x0_1, .int .i64 x0_2, str x0_3, str x0_4, str x0_5, .int .i64 x0_6, .int .i64 x0_7, .int .i64 x0_8, str x0_9]] [] F (lin_Counts.f x0_0 x0_1 x0_2 x0_3 x0_4 x0_5 x0_6 x0_7 x0_8 x0_9) (fun (r : Bool) (y : Unit) => .bool r) (fun r y => []) := by
 unfold lin_Counts.f
 refine fn_intro 22 Try.func18 rfl Try.ntmps18 rfl ?_
 refine sim_seq (sim_region ?_)
 refine simL_eff (re_box rfl rfl rfl) rfl rfl rfl ?_
 intro b1v
 refine simL_val (q_asg rfl rfl) rfl rfl rfl (simL_nil (nrm_then (sim_seq (sim_seq (sim_region ?_)))))
 refine simL_val (q_loado 0 rfl rfl Try.isAgg35 Try.sizeOf35 rfl rfl) rfl rfl rfl ?_
 refine simL_bind (fun s2v hs4v => ?_)
 refine simL_eff (re_call (vs := [.agg #[.int .i64 x0_0, .int .i64 x0_1, .int .i64 x0_2, str x0_3, str x0_4, str x0_5, .int .i64 x0_6, .int .i64 x0_7, .int .i64 x0_8, str x0_9]]) (cap := []) (A := []) (rst := [obj b1v 35 [.int .i64 x0_0, .int .i64 x0_1, .int .i64 x0_2, str x0_3, str x0_4, str x0_5, .int .i64 x0_6, .int .i64 x0_7, .int .i64 x0_8, str x0_9], F]) rfl rfl rfl rfl rfl rfl Try.call30 (.sel 0 rfl (.sel 0 rfl (.nil _))) (lin_open.calls _ _ x0_0 x0_1 x0_2 x0_3 x0_4 x0_5 x0_6 x0_7 x0_8 x0_9 ) hs4v) rfl rfl rfl ?_
 intro y3v
 refine simL_nil (nrm_then ?_)
 refine sim_condb rfl (fun h5v => ?_) (fun h6v => ?_)
 refine sim_seq (sim_region ?_)
 refine simL_val (q_fa rfl rfl Try.underlying35 rfl rfl Try.sizeOf3 rfl) rfl rfl rfl ?_
 refine simL_val (q_load rfl rfl Try.isAgg3 (.obj 0 rfl rfl)) rfl rfl rfl ?_
 refine simL_val (q_neq rfl rfl rfl) rfl rfl rfl ?_
 refine simL_val (q_asg rfl rfl) rfl rfl rfl (simL_nil (nrm_then (sim_rtn ?_)))
 refine rtn_then ?_
 exact rtn_fn () rfl rfl rfl (.sel 1 rfl (.nil _))
 refine sim_skip ?_
 refine nrm_then (sim_seq (sim_region ?_))
 refine simL_val (q_fa rfl rfl Try.underlying35 rfl rfl Try.sizeOf33 rfl) rfl rfl rfl ?_
 refine simL_val (q_fa rfl rfl Try.underlying33 rfl rfl Try.sizeOf3 rfl) rfl rfl rfl ?_
 refine simL_val (q_load rfl rfl Try.isAgg3 (.obj 0 rfl rfl)) rfl rfl rfl ?_
 refine simL_val (q_asg rfl rfl) rfl rfl rfl (simL_nil (nrm_then (sim_seq (sim_region ?_))))
 refine simL_val (q_move rfl rfl) rfl rfl rfl ?_
 refine simL_val (q_eql rfl rfl rfl) rfl rfl rfl ?_
 refine simL_val (q_move rfl rfl) rfl rfl rfl ?_
 refine simL_valc (b := decide (x0_8 = (1 : Int))) (fun hb10v => RQ.sub (E' := [(3, .int .i64 x0_8)]) ⟨rfl, trivial⟩ (q_move rfl rfl)) rfl rfl rfl rfl rfl ?_
 refine simL_valc (b := decide (x0_8 = (1 : Int))) (fun hb9v => RQ.sub (E' := [(15, .int .i64 x0_8)]) ⟨lk_cv rfl hb9v, trivial⟩ (q_eql rfl rfl rfl)) rfl rfl rfl rfl rfl ?_
 refine simL_val (q_or rfl rfl rfl) rfl rfl rfl ?_
 refine simL_val (q_move rfl rfl) rfl rfl rfl ?_
 refine simL_valc (b := (decide (x0_8 = (1 : Int))) || (decide (x0_8 = (2 : Int)))) (fun hb8v => RQ.sub (E' := [(3, .int .i64 x0_8)]) ⟨rfl, trivial⟩ (q_move rfl rfl)) rfl rfl rfl rfl rfl ?_
 refine simL_valc (b := (decide (x0_8 = (1 : Int))) || (decide (x0_8 = (2 : Int)))) (fun hb7v => RQ.sub (E' := [(19, .int .i64 x0_8)]) ⟨lk_cv rfl hb7v, trivial⟩ (q_eql rfl rfl rfl)) rfl rfl rfl rfl rfl ?_
 refine simL_val (q_or rfl rfl rfl) rfl rfl rfl ?_
 refine simL_val (q_asg rfl rfl) rfl rfl rfl (simL_nil (nrm_then (sim_rtn ?_)))
 exact rtn_fn () rfl rfl rfl (.sel 1 rfl (.nil _))
def lin_Counts.v (x0_0 : Int) (x0_1 : Int) (x0_2 : Int) (x0_3 : List UInt8) (x0_4 : List UInt8) (x0_5 : List UInt8) (x0_6 : Int) (x0_7 : Int) (x0_8 : Int) (x0_9 : List UInt8) : Bool := (lin_Counts.f x0_0 x0_1 x0_2 x0_3 x0_4 x0_5 x0_6 x0_7 x0_8 x0_9).getD false
theorem lin_Counts.tot (x0_0 : Int) (x0_1 : Int) (x0_2 : Int) (x0_3 : List UInt8) (x0_4 : List UInt8) (x0_5 : List UInt8) (x0_6 : Int) (x0_7 : Int) (x0_8 : Int) (x0_9 : List UInt8) : lin_Counts.f x0_0 x0_1 x0_2 x0_3 x0_4 x0_5 x0_6 x0_7 x0_8 x0_9 = some (lin_Counts.v x0_0 x0_1 x0_2 x0_3 x0_4 x0_5 x0_6 x0_7 x0_8 x0_9) := by
  have h : ∃ r, lin_Counts.f x0_0 x0_1 x0_2 x0_3 x0_4 x0_5 x0_6 x0_7 x0_8 x0_9 = some r := by
    unfold lin_Counts.f
    repeat' (first | exact ⟨_, rfl⟩ | split | simp only [Option.bind_some, lin_open.tot])
  obtain ⟨r, h⟩ := h
  unfold lin_Counts.v
  rw [h]; rfl

def maps_Keys_map_string_int_string_int.f  : Option (Unit) := some ()
theorem maps_Keys_map_string_int_string_int.calls (W : World) (F : HA) (m0 : Nat)  :
    Fn Try.prog W 34 [.map (some m0)] [] F (maps_Keys_map_string_int_string_int.f ) (fun (r : Unit) (y : Nat) => .func (.func 39) #[] #[.pointer (some ⟨y, 0, none⟩)]) (fun r y => [obj y 53 [.map (some m0)]]) := by
 unfold maps_Keys_map_string_int_string_int.f
 refine fn_intro 4 Try.func34 rfl Try.ntmps34 rfl ?_
 refine sim_seq (sim_region ?_)
 refine simL_eff (re_box rfl rfl rfl) rfl rfl rfl ?_
 intro b1v
 refine simL_val (q_asg rfl rfl) rfl rfl rfl (simL_nil (nrm_then (sim_seq (sim_region ?_))))
 refine simL_val (q_mkfn rfl rfl rfl) rfl rfl rfl ?_
 refine simL_val (q_asg rfl rfl) rfl rfl rfl (simL_nil (nrm_then (sim_rtn ?_)))
 exact rtn_fn b1v rfl rfl rfl (.sel 0 rfl (.sel 0 rfl (.nil _)))

def slices_Sorted_string_maps_Keys_map_string_int_string_int_1.f (xp0_0 : List ((List UInt8) × (Int))) : Option (List (List UInt8)) := if (xp0_0.map (·.1)).Nodup ∧ xp0_0.length * 16 ≤ 140737488355328 ∧ ∀ p ∈ xp0_0, p.1.length ≤ 140737488351232 then some (keysS xp0_0) else none
theorem slices_Sorted_string_maps_Keys_map_string_int_string_int_1.calls (W : World) (F : HA) (bp0 : Nat) (mp0_0 : Nat) (xp0_0 : List ((List UInt8) × (Int))) :
    Fn Try.prog W 33 [.func (.func 39) #[] #[.pointer (some ⟨bp0, 0, none⟩)]] [obj bp0 53 [.map (some mp0_0)], mapO mp0_0 enc9 enc3 xp0_0] F (slices_Sorted_string_maps_Keys_map_string_int_string_int_1.f xp0_0) (fun (r : List (List UInt8)) (y : Option Addr × Nat) => .slice y.1 r.length y.2) (fun r y => [RowV 9 1 (V9 tt) y.1 r y.2, obj bp0 53 [.map (some mp0_0)], mapO mp0_0 enc9 enc3 xp0_0]) := by
  unfold slices_Sorted_string_maps_Keys_map_string_int_string_int_1.f
  exact fn_sortedS (V := (V9 tt)) (fun _ => rfl) Try.underlying9 (fun w D0 nn => lib_sorted33_39 w D0 nn mp0_0 bp0)

def lin_Keys.l0 (x0 : List (Ty35)) : Nat → List ((List UInt8) × (Int)) → Int → Option ((List ((List UInt8) × (Int))))
  | 0, _, _ => none
  | k + 1, z6v, z7v => if z7v < (x0.length : Int) then (if 0 ≤ z7v ∧ z7v < (x0.length : Int) then ((lin_Counts.f ((x0.getD z7v.toNat dz35).1) ((x0.getD z7v.toNat dz35).2.1) ((x0.getD z7v.toNat dz35).2.2.1) ((x0.getD z7v.toNat dz35).2.2.2.1) ((x0.getD z7v.toNat dz35).2.2.2.2.1) ((x0.getD z7v.toNat dz35).2.2.2.2.2.1) ((x0.getD z7v.toNat dz35).2.2.2.2.2.2.1) ((x0.getD z7v.toNat dz35).2.2.2.2.2.2.2.1) ((x0.getD z7v.toNat dz35).2.2.2.2.2.2.2.2.1) ((x0.getD z7v.toNat dz35).2.2.2.2.2.2.2.2.2)).bind fun s19v => (if s19v = true then (lin_Keys.l0 x0 k (mput z6v ((x0.getD z7v.toNat dz35).2.2.2.1) (IntKind.i64.wrap (((mget z6v ((x0.getD z7v.toNat dz35).2.2.2.1)).getD (0 : Int)) + 1))) (IntKind.i64.wrap (z7v + 1))) else (lin_Keys.l0 x0 k z6v (IntKind.i64.wrap (z7v + 1))))) else none) else (some z6v)
def lin_Keys.f (k : Nat) (x0 : List (Ty35)) : Option (List (List UInt8)) := (lin_Keys.l0 x0 k ([] : List ((List UInt8) × (Int))) 0).bind fun s2v => ((maps_Keys_map_string_int_string_int.f).bind fun s24v => ((slices_Sorted_string_maps_Keys_map_string_int_string_int_1.f s2v).bind fun s27v => (some s27v)))
theorem lin_Keys.calls (W : World) (F : HA) (k : Nat) (a0 : Option Addr) (c0 : Nat) (x0 : List (Ty35)) (h0 : RdV F 10 (V35 tt) a0 x0) (hc0 : x0.length ≤ c0) (hm0 : c0 ≤ maxLen) :
    Fn Try.prog W 15 [.slice a0 x0.length c0] [] F (lin_Keys.f k x0) (fun (r : List (List UInt8)) (y : Option Addr × Nat) => .slice y.1 r.length y.2) (fun r y => [RowV 9 1 (V9 tt) y.1 r y.2]) := by
 unfold lin_Keys.f
 refine fn_intro 24 Try.func15 rfl Try.ntmps15 rfl ?_
 refine sim_seq (sim_region ?_)
 refine simL_val (q_asg rfl rfl) rfl rfl rfl (simL_nil (nrm_then (sim_seq (sim_region ?_))))
 refine simL_eff (re_mkmap (ek := enc9) (ev := enc3) rfl) rfl rfl rfl ?_
 intro b1v
 refine simL_val (q_asg rfl rfl) rfl rfl rfl (simL_nil (nrm_then ?_))
 refine sim_cut (S := (List ((List UInt8) × (Int)))) (Unit) (fun s y => [(3, .map (some b1v))]) (fun s y => [mapO b1v enc9 enc3 s, F]) ?_ ?_
 refine sim_seq (sim_region ?_)
 refine simL_val (q_move rfl rfl) rfl rfl rfl ?_
 refine simL_val (q_len rfl rfl rfl Try.underlying22) rfl rfl rfl ?_
 refine simL_val (q_move rfl rfl) rfl rfl rfl (simL_nil (nrm_then ?_))
 refine sim_block ?_
 refine sim_loop (S := (List ((List UInt8) × (Int))) × Int) (Unit) (fun k s => lin_Keys.l0 x0 k s.1 s.2) (fun s y => [(3, .map (some b1v)), (7, .slice a0 x0.length c0), (8, .int .i64 (x0.length : Int)), (9, .int .i64 s.2)]) (fun s y => [mapO b1v enc9 enc3 s.1, F]) (fun _ => by rw [lin_Keys.l0]) ?_ k (([] : List ((List UInt8) × (Int))), 0) () ⟨rfl, rfl, rfl, rfl, trivial⟩ (.sel 0 rfl (.sel 0 rfl (.nil _)))
 intro k s4v y5v
 refine sim_eq (by rw [lin_Keys.l0]) ?_
 refine sim_seq (sim_region ?_)
 refine simL_val (q_lss rfl rfl rfl) rfl rfl rfl (simL_nil (nrm_then (sim_seq ?_)))
 refine sim_cond rfl (fun h8v => ?_) (fun h9v => ?_)
 refine sim_skip ?_
 refine nrm_then (sim_seq ?_)
 refine sim_block ?_
 refine sim_seq (sim_region ?_)
 refine simL_ask (fun hi10v => ?_)
 obtain ⟨b11v, b11vo, r14v, ha12v, hV15v, hlr16v, hcell17v⟩ := RdV.pos h0 (Up.refl _) rfl (i := s4v.2.toNat) (by omega) dz35
 obtain rfl := hV15v
 refine simL_val (q_idx rfl rfl rfl ha12v Try.underlying22 Try.sizeOf35 hi10v.1 hi10v.2) rfl rfl rfl ?_
 refine simL_val (q_loads rfl rfl Try.isAgg35 Try.sizeOf35 rfl (fun j v hj => hcell17v 1 rfl j v hj)) rfl rfl rfl ?_
 refine simL_eff (re_alloc rfl Try.zeroValue35 rfl) rfl rfl rfl ?_
 intro b18v
 refine simL_do (re_store 0 rfl rfl rfl Try.sizeOf35 rfl rfl (one_of (by rfl)) rfl rfl) rfl rfl ?_
 intro _
 refine simL_ent (H' := [obj b18v 35 [.int .i64 ((x0.getD s4v.2.toNat dz35).1), .int .i64 ((x0.getD s4v.2.toNat dz35).2.1), .int .i64 ((x0.getD s4v.2.toNat dz35).2.2.1), str ((x0.getD s4v.2.toNat dz35).2.2.2.1), str ((x0.getD s4v.2.toNat dz35).2.2.2.2.1), str ((x0.getD s4v.2.toNat dz35).2.2.2.2.2.1), .int .i64 ((x0.getD s4v.2.toNat dz35).2.2.2.2.2.2.1), .int .i64 ((x0.getD s4v.2.toNat dz35).2.2.2.2.2.2.2.1), .int .i64 ((x0.getD s4v.2.toNat dz35).2.2.2.2.2.2.2.2.1), str ((x0.getD s4v.2.toNat dz35).2.2.2.2.2.2.2.2.2)], mapO b1v enc9 enc3 s4v.1, F]) (Ent.refl _) ?_
 refine simL_nil (nrm_then (sim_seq (sim_region ?_)))
 refine simL_val (q_loado 0 rfl rfl Try.isAgg35 Try.sizeOf35 rfl rfl) rfl rfl rfl ?_
 refine simL_bind (fun s19v hs21v => ?_)
 refine simL_eff (re_call (vs := [.agg #[.int .i64 ((x0.getD s4v.2.toNat dz35).1), .int .i64 ((x0.getD s4v.2.toNat dz35).2.1), .int .i64 ((x0.getD s4v.2.toNat dz35).2.2.1), str ((x0.getD s4v.2.toNat dz35).2.2.2.1), str ((x0.getD s4v.2.toNat dz35).2.2.2.2.1), str ((x0.getD s4v.2.toNat dz35).2.2.2.2.2.1), .int .i64 ((x0.getD s4v.2.toNat dz35).2.2.2.2.2.2.1), .int .i64 ((x0.getD s4v.2.toNat dz35).2.2.2.2.2.2.2.1), .int .i64 ((x0.getD s4v.2.toNat dz35).2.2.2.2.2.2.2.2.1), str ((x0.getD s4v.2.toNat dz35).2.2.2.2.2.2.2.2.2)]]) (cap := []) (A := []) (rst := [obj b18v 35 [.int .i64 ((x0.getD s4v.2.toNat dz35).1), .int .i64 ((x0.getD s4v.2.toNat dz35).2.1), .int .i64 ((x0.getD s4v.2.toNat dz35).2.2.1), str ((x0.getD s4v.2.toNat dz35).2.2.2.1), str ((x0.getD s4v.2.toNat dz35).2.2.2.2.1), str ((x0.getD s4v.2.toNat dz35).2.2.2.2.2.1), .int .i64 ((x0.getD s4v.2.toNat dz35).2.2.2.2.2.2.1), .int .i64 ((x0.getD s4v.2.toNat dz35).2.2.2.2.2.2.2.1), .int .i64 ((x0.getD s4v.2.toNat dz35).2.2.2.2.2.2.2.2.1), str ((x0.getD s4v.2.toNat dz35).2.2.2.2.2.2.2.2.2)], mapO b1v enc9 enc3 s4v.1, F]) rfl rfl rfl rfl rfl rfl Try.call18 (.sel 0 rfl (.sel 0 rfl (.sel 0 rfl (.nil _)))) (lin_Counts.calls _ _ ((x0.getD s4v.2.toNat dz35).1) ((x0.getD s4v.2.toNat dz35).2.1) ((x0.getD s4v.2.toNat dz35).2.2.1) ((x0.getD s4v.2.toNat dz35).2.2.2.1) ((x0.getD s4v.2.toNat dz35).2.2.2.2.1) ((x0.getD s4v.2.toNat dz35).2.2.2.2.2.1) ((x0.getD s4v.2.toNat dz35).2.2.2.2.2.2.1) ((x0.getD s4v.2.toNat dz35).2.2.2.2.2.2.2.1) ((x0.getD s4v.2.toNat dz35).2.2.2.2.2.2.2.2.1) ((x0.getD s4v.2.toNat dz35).2.2.2.2.2.2.2.2.2) ) hs21v) rfl rfl rfl ?_
 intro y20v
 refine simL_nil (nrm_then ?_)
 refine sim_condb rfl (fun h22v => ?_) (fun h23v => ?_)
 refine sim_region ?_
 refine simL_val (q_move rfl rfl) rfl rfl rfl ?_
 refine simL_val (q_fa rfl rfl Try.underlying35 rfl rfl Try.sizeOf9 rfl) rfl rfl rfl ?_
 refine simL_val (q_load rfl rfl Try.isAgg9 (.obj 0 rfl rfl)) rfl rfl rfl ?_
 refine simL_val ((q_mlook (ek := enc9) (ev := enc3) (z := (0 : Int)) 1 ((x0.getD s4v.2.toNat dz35).2.2.2.1) rfl rfl rfl Try.underlying53 key9 Try.zeroValue3 rfl : RQ _ _ _ _ (.int .i64 ((mget s4v.1 ((x0.getD s4v.2.toNat dz35).2.2.2.1)).getD (0 : Int))))) rfl rfl rfl ?_
 refine simL_val (q_add rfl rfl rfl) rfl rfl rfl ?_
 refine simL_do (re_mput (ek := enc9) (ev := enc3) 1 ((x0.getD s4v.2.toNat dz35).2.2.2.1) (IntKind.i64.wrap (((mget s4v.1 ((x0.getD s4v.2.toNat dz35).2.2.2.1)).getD (0 : Int)) + 1)) rfl rfl rfl rfl Try.underlying53 key9 rfl) rfl rfl ?_
 intro _
 refine simL_nil (nrm_block (nrm_then (sim_region ?_)))
 refine simL_val (q_add rfl rfl rfl) rfl rfl rfl ?_
 refine simL_val (q_move rfl rfl) rfl rfl rfl (simL_nil ?_)
 exact nrm_again (s := (mput s4v.1 ((x0.getD s4v.2.toNat dz35).2.2.2.1) (IntKind.i64.wrap (((mget s4v.1 ((x0.getD s4v.2.toNat dz35).2.2.2.1)).getD (0 : Int)) + 1)), IntKind.i64.wrap (s4v.2 + 1))) () ⟨rfl, rfl, rfl, rfl, trivial⟩ (.sel 1 rfl (.sel 1 rfl (.nil _)))
 refine sim_skip ?_
 refine nrm_block (nrm_then (sim_region ?_))
 refine simL_val (q_add rfl rfl rfl) rfl rfl rfl ?_
 refine simL_val (q_move rfl rfl) rfl rfl rfl (simL_nil ?_)
 exact nrm_again (s := (s4v.1, IntKind.i64.wrap (s4v.2 + 1))) () ⟨rfl, rfl, rfl, rfl, trivial⟩ (.sel 1 rfl (.sel 1 rfl (.nil _)))
 refine sim_exi ?_
 refine exi_then ?_
 refine exi_loop ?_
 refine exi_here ?_
 exact nrm_cut (s := s4v.1) () ⟨rfl, trivial⟩ (.sel 0 rfl (.sel 0 rfl (.nil _)))
 intro s2v y3v
 refine sim_seq (sim_region ?_)
 refine simL_val (q_move rfl rfl) rfl rfl rfl ?_
 refine simL_bind (fun s24v hs26v => ?_)
 refine simL_eff (re_call (vs := [.map (some b1v)]) (cap := []) (A := []) (rst := [mapO b1v enc9 enc3 s2v, F]) rfl rfl rfl rfl rfl rfl Try.call34 (.sel 0 rfl (.sel 0 rfl (.nil _))) (maps_Keys_map_string_int_string_int.calls _ _ b1v ) hs26v) rfl rfl rfl ?_
 intro y25v
 refine simL_bind (fun s27v hs29v => ?_)
 refine simL_eff (re_call (vs := [.func (.func 39) #[] #[.pointer (some ⟨y25v, 0, none⟩)]]) (cap := []) (A := [obj y25v 53 [.map (some b1v)], mapO b1v enc9 enc3 s2v]) (rst := [F]) rfl rfl rfl rfl rfl rfl Try.call33 (.sel 0 rfl (.sel 0 rfl (.sel 0 rfl (.nil _)))) (slices_Sorted_string_maps_Keys_map_string_int_string_int_1.calls _ _ y25v b1v s2v ) hs29v) rfl rfl rfl ?_
 intro y28v
 refine simL_val (q_asg rfl rfl) rfl rfl rfl (simL_nil (nrm_then (sim_rtn ?_)))
 exact rtn_fn (y28v.1, y28v.2) rfl rfl rfl (.sel 0 rfl (.sel 2 rfl (.nil _)))

def lin_of.l0 (x0 : List (Ty35)) (x1 : List UInt8) : Nat → List Int → Int → Option (List Int)
  | 0, _, _ => none
  | k + 1, z5v, z6v => if z6v < (x0.length : Int) then (if 0 ≤ z6v ∧ z6v < (x0.length : Int) then ((if ((x0.getD z6v.toNat dz35).2.2.2.1) = x1 then ((lin_Counts.f ((x0.getD z6v.toNat dz35).1) ((x0.getD z6v.toNat dz35).2.1) ((x0.getD z6v.toNat dz35).2.2.1) ((x0.getD z6v.toNat dz35).2.2.2.1) ((x0.getD z6v.toNat dz35).2.2.2.2.1) ((x0.getD z6v.toNat dz35).2.2.2.2.2.1) ((x0.getD z6v.toNat dz35).2.2.2.2.2.2.1) ((x0.getD z6v.toNat dz35).2.2.2.2.2.2.2.1) ((x0.getD z6v.toNat dz35).2.2.2.2.2.2.2.2.1) ((x0.getD z6v.toNat dz35).2.2.2.2.2.2.2.2.2)).bind fun s20v => (some s20v)) else (some false)).bind fun s18v => (if s18v = true then (if (z5v.length + ([z6v] : List Int).length) * 8 ≤ 140737488355328 then (lin_of.l0 x0 x1 k (z5v ++ ([z6v] : List Int)) (IntKind.i64.wrap (z6v + 1))) else none) else (lin_of.l0 x0 x1 k z5v (IntKind.i64.wrap (z6v + 1))))) else none) else (some z5v)
def lin_of.f (k : Nat) (x0 : List (Ty35)) (x1 : List UInt8) : Option (List Int) := (lin_of.l0 x0 x1 k ([] : List Int) 0).bind fun s1v => (some s1v)
theorem lin_of.calls (W : World) (F : HA) (k : Nat) (a0 : Option Addr) (c0 : Nat) (x0 : List (Ty35)) (x1 : List UInt8) (h0 : RdV F 10 (V35 tt) a0 x0) (hc0 : x0.length ≤ c0) (hm0 : c0 ≤ maxLen) :
    Fn Try.prog W 31 [.slice a0 x0.length c0, str x1] [] F (lin_of.f k x0 x1) (fun (r : List Int) (y : Option Addr × Nat) => .slice y.1 r.length y.2) (fun r y => [RowV 3 1 (V3 tt) y.1 r y.2]) := by
 unfold lin_of.f
 refine fn_intro 29 Try.func31 rfl Try.ntmps31 rfl ?_
 refine sim_seq (sim_region ?_)
 refine simL_val (q_asg rfl rfl) rfl rfl rfl (simL_nil (nrm_then (sim_seq (sim_region ?_))))
 refine simL_val (q_asg rfl rfl) rfl rfl rfl (simL_nil (nrm_then ?_))
 refine sim_cut (S := List Int) (Option Addr × Nat) (fun s y => [(5, .slice y.1 s.length y.2)]) (fun s y => [RowV 3 1 (V3 tt) y.1 s y.2, F]) ?_ ?_
 refine sim_seq (sim_region ?_)
 refine simL_val (q_move rfl rfl) rfl rfl rfl ?_
 refine simL_val (q_len rfl rfl rfl Try.underlying22) rfl rfl rfl ?_
 refine simL_val (q_move rfl rfl) rfl rfl rfl (simL_nil (nrm_then ?_))
 refine sim_block ?_
 refine sim_loop (S := List Int × Int) (Option Addr × Nat) (fun k s => lin_of.l0 x0 x1 k s.1 s.2) (fun s y => [(1, str x1), (5, .slice y.1 s.1.length y.2), (8, .slice a0 x0.length c0), (9, .int .i64 (x0.length : Int)), (10, .int .i64 s.2)]) (fun s y => [RowV 3 1 (V3 tt) y.1 s.1 y.2, F]) (fun _ => by rw [lin_of.l0]) ?_ k (([] : List Int), 0) (none, 0) ⟨rfl, rfl, rfl, rfl, rfl, trivial⟩ (.rowV_nil (.sel 0 rfl (.nil _)))
 intro k s3v y4v
 refine sim_eq (by rw [lin_of.l0]) ?_
 refine sim_seq (sim_region ?_)
 refine simL_val (q_lss rfl rfl rfl) rfl rfl rfl (simL_nil (nrm_then (sim_seq ?_)))
 refine sim_cond rfl (fun h7v => ?_) (fun h8v => ?_)
 refine sim_skip ?_
 refine nrm_then (sim_seq ?_)
 refine sim_block ?_
 refine sim_seq (sim_region ?_)
 refine simL_val (q_move rfl rfl) rfl rfl rfl ?_
 refine simL_ask (fun hi9v => ?_)
 obtain ⟨b10v, b10vo, r13v, ha11v, hV14v, hlr15v, hcell16v⟩ := RdV.pos h0 (Up.refl _) rfl (i := s3v.2.toNat) (by omega) dz35
 obtain rfl := hV14v
 refine simL_val (q_idx rfl rfl rfl ha11v Try.underlying22 Try.sizeOf35 hi9v.1 hi9v.2) rfl rfl rfl ?_
 refine simL_val (q_loads rfl rfl Try.isAgg35 Try.sizeOf35 rfl (fun j v hj => hcell16v 1 rfl j v hj)) rfl rfl rfl ?_
 refine simL_eff (re_alloc rfl Try.zeroValue35 rfl) rfl rfl rfl ?_
 intro b17v
 refine simL_val (q_asg rfl rfl) rfl rfl rfl ?_
 refine simL_do (re_store 0 rfl rfl rfl Try.sizeOf35 rfl rfl (one_of (by rfl)) rfl rfl) rfl rfl ?_
 intro _
 refine simL_ent (H' := [obj b17v 35 [.int .i64 ((x0.getD s3v.2.toNat dz35).1), .int .i64 ((x0.getD s3v.2.toNat dz35).2.1), .int .i64 ((x0.getD s3v.2.toNat dz35).2.2.1), str ((x0.getD s3v.2.toNat dz35).2.2.2.1), str ((x0.getD s3v.2.toNat dz35).2.2.2.2.1), str ((x0.getD s3v.2.toNat dz35).2.2.2.2.2.1), .int .i64 ((x0.getD s3v.2.toNat dz35).2.2.2.2.2.2.1), .int .i64 ((x0.getD s3v.2.toNat dz35).2.2.2.2.2.2.2.1), .int .i64 ((x0.getD s3v.2.toNat dz35).2.2.2.2.2.2.2.2.1), str ((x0.getD s3v.2.toNat dz35).2.2.2.2.2.2.2.2.2)], RowV 3 1 (V3 tt) y4v.1 s3v.1 y4v.2, F]) (Ent.refl _) ?_
 refine simL_nil (nrm_then (sim_seq (sim_region ?_)))
 refine simL_val (q_fa rfl rfl Try.underlying35 rfl rfl Try.sizeOf9 rfl) rfl rfl rfl ?_
 refine simL_val (q_load rfl rfl Try.isAgg9 (.obj 0 rfl rfl)) rfl rfl rfl ?_
 refine simL_val (q_move rfl rfl) rfl rfl rfl ?_
 refine simL_val (q_eqs rfl rfl rfl) rfl rfl rfl ?_
 refine simL_val (q_move rfl rfl) rfl rfl rfl ?_
 refine simL_cut' 3 (S := Bool) (Unit) (fun s y => [(1, str x1), (5, .slice y4v.1 s3v.1.length y4v.2), (6, .int .i64 s3v.2), (8, .slice a0 x0.length c0), (9, .int .i64 (x0.length : Int)), (10, .int .i64 s3v.2), (22, .bool s)]) (fun s y => [RowV 3 1 (V3 tt) y4v.1 s3v.1 y4v.2, F]) ?_ ?_
 refine simL_casep (fun hb23v => ?_) (fun hb24v => ?_)
 rw [hb23v]
 refine simL_valg (q_loado 0 rfl rfl Try.isAgg35 Try.sizeOf35 rfl rfl) rfl rfl rfl rfl rfl rfl ?_
 refine simL_bind (fun s20v hs22v => ?_)
 refine simL_effg (re_call (vs := [.agg #[.int .i64 ((x0.getD s3v.2.toNat dz35).1), .int .i64 ((x0.getD s3v.2.toNat dz35).2.1), .int .i64 ((x0.getD s3v.2.toNat dz35).2.2.1), str ((x0.getD s3v.2.toNat dz35).2.2.2.1), str ((x0.getD s3v.2.toNat dz35).2.2.2.2.1), str ((x0.getD s3v.2.toNat dz35).2.2.2.2.2.1), .int .i64 ((x0.getD s3v.2.toNat dz35).2.2.2.2.2.2.1), .int .i64 ((x0.getD s3v.2.toNat dz35).2.2.2.2.2.2.2.1), .int .i64 ((x0.getD s3v.2.toNat dz35).2.2.2.2.2.2.2.2.1), str ((x0.getD s3v.2.toNat dz35).2.2.2.2.2.2.2.2.2)]]) (cap := []) (A := []) (rst := [obj b17v 35 [.int .i64 ((x0.getD s3v.2.toNat dz35).1), .int .i64 ((x0.getD s3v.2.toNat dz35).2.1), .int .i64 ((x0.getD s3v.2.toNat dz35).2.2.1), str ((x0.getD s3v.2.toNat dz35).2.2.2.1), str ((x0.getD s3v.2.toNat dz35).2.2.2.2.1), str ((x0.getD s3v.2.toNat dz35).2.2.2.2.2.1), .int .i64 ((x0.getD s3v.2.toNat dz35).2.2.2.2.2.2.1), .int .i64 ((x0.getD s3v.2.toNat dz35).2.2.2.2.2.2.2.1), .int .i64 ((x0.getD s3v.2.toNat dz35).2.2.2.2.2.2.2.2.1), str ((x0.getD s3v.2.toNat dz35).2.2.2.2.2.2.2.2.2)], RowV 3 1 (V3 tt) y4v.1 s3v.1 y4v.2, F]) rfl rfl rfl rfl rfl rfl Try.call18 (.sel 0 rfl (.sel 0 rfl (.sel 0 rfl (.nil _)))) (lin_Counts.calls _ _ ((x0.getD s3v.2.toNat dz35).1) ((x0.getD s3v.2.toNat dz35).2.1) ((x0.getD s3v.2.toNat dz35).2.2.1) ((x0.getD s3v.2.toNat dz35).2.2.2.1) ((x0.getD s3v.2.toNat dz35).2.2.2.2.1) ((x0.getD s3v.2.toNat dz35).2.2.2.2.2.1) ((x0.getD s3v.2.toNat dz35).2.2.2.2.2.2.1) ((x0.getD s3v.2.toNat dz35).2.2.2.2.2.2.2.1) ((x0.getD s3v.2.toNat dz35).2.2.2.2.2.2.2.2.1) ((x0.getD s3v.2.toNat dz35).2.2.2.2.2.2.2.2.2) ) hs22v) rfl rfl rfl rfl rfl rfl ?_
 intro y21v
 refine simL_val (q_pick rfl rfl rfl rfl rfl) rfl rfl rfl (simL_nil ?_)
 exact nrm_cut (s := s20v) () ⟨rfl, rfl, rfl, rfl, rfl, rfl, rfl, trivial⟩ (.sel 1 rfl (.sel 1 rfl (.nil _)))
 rw [hb24v]
 refine simL_skipd rfl rfl rfl rfl rfl rfl ?_
 refine simL_skipd rfl rfl rfl rfl rfl rfl ?_
 refine simL_val (q_pick rfl rfl rfl rfl rfl) rfl rfl rfl (simL_nil ?_)
 exact nrm_cut (s := false) () ⟨rfl, rfl, rfl, rfl, rfl, rfl, rfl, trivial⟩ (.sel 1 rfl (.sel 1 rfl (.nil _)))
 intro s18v y19v
 refine simL_nil (nrm_then ?_)
 refine sim_condb rfl (fun h25v => ?_) (fun h26v => ?_)
 refine sim_region ?_
 refine simL_val (q_move rfl rfl) rfl rfl rfl ?_
 refine simL_val (q_move rfl rfl) rfl rfl rfl ?_
 have hlb28v : ListV 1 (V3 tt) ([s3v.2] : List Int) [[.int .i64 s3v.2]] := ⟨⟨rfl, one_of (by rfl), rfl⟩, trivial⟩
 refine simL_eff (re_litV (V := (V3 tt)) (xs := ([s3v.2] : List Int)) [[.int .i64 s3v.2]] rfl rfl Try.underlying39 elt3 rfl (by kernel_rfl) rfl hlb28v rfl rfl) rfl rfl rfl ?_
 intro b28v
 refine simL_openV 1 rfl (fun rs33v hl34v => ?_)
 refine simL_ask (fun hb32v => ?_)
 refine simL_eff (re_appendV 1 rfl rfl rfl Try.underlying39 elt3 rfl hl34v (RdsV.row hlb28v 0 rfl) hb32v) rfl rfl rfl ?_
 intro y31v
 refine simL_val (q_asg rfl rfl) rfl rfl rfl (simL_nil (nrm_block (nrm_then (sim_region ?_))))
 refine simL_val (q_add rfl rfl rfl) rfl rfl rfl ?_
 refine simL_val (q_move rfl rfl) rfl rfl rfl (simL_nil ?_)
 exact nrm_again (s := (s3v.1 ++ ([s3v.2] : List Int), IntKind.i64.wrap (s3v.2 + 1))) (y31v.1, y31v.2) ⟨rfl, rfl, rfl, rfl, rfl, trivial⟩ (.sel 1 rfl (.sel 1 rfl (.nil _)))
 refine sim_skip ?_
 refine nrm_block (nrm_then (sim_region ?_))
 refine simL_val (q_add rfl rfl rfl) rfl rfl rfl ?_
 refine simL_val (q_move rfl rfl) rfl rfl rfl (simL_nil ?_)
 exact nrm_again (s := (s3v.1, IntKind.i64.wrap (s3v.2 + 1))) (y4v.1, y4v.2) ⟨rfl, rfl, rfl, rfl, rfl, trivial⟩ (.sel 0 rfl (.sel 0 rfl (.nil _)))
 refine sim_exi ?_
 refine exi_then ?_
 refine exi_loop ?_
 refine exi_here ?_
 exact nrm_cut (s := s3v.1) (y4v.1, y4v.2) ⟨rfl, trivial⟩ (.sel 0 rfl (.sel 0 rfl (.nil _)))
 intro s1v y2v
 refine sim_seq (sim_region ?_)
 refine simL_val (q_move rfl rfl) rfl rfl rfl ?_
 refine simL_val (q_asg rfl rfl) rfl rfl rfl (simL_nil (nrm_then (sim_rtn ?_)))
 exact rtn_fn (y2v.1, y2v.2) rfl rfl rfl (.sel 0 rfl (.sel 0 rfl (.nil _)))

def lin_Valid.l1 (x0 : List (Ty35)) (s65v : List (List UInt8)) : Nat → Int → Option ((Unit) ⊕ (Int))
  | 0, _ => none
  | k + 1, z70v => if z70v < (s65v.length : Int) then (if 0 ≤ z70v ∧ z70v < (s65v.length : Int) then ((lin_of.f k x0 (s65v.getD z70v.toNat ([] : List UInt8))).bind fun s83v => (if (12 : Int) < (s83v.length : Int) then (some (.inr 23)) else (lin_Valid.l1 x0 s65v k (IntKind.i64.wrap (z70v + 1))))) else none) else (some (.inl ()))
def lin_Valid.l0 (x0 : List (Ty35)) : Nat → Int → Option ((Unit) ⊕ (Int))
  | 0, _ => none
  | k + 1, z7v => if z7v < (x0.length : Int) then (if 0 ≤ z7v ∧ z7v < (x0.length : Int) then (if ((decide ((x0.getD z7v.toNat dz35).2.2.1 < (1 : Int))) || (decide ((4 : Int) < (x0.getD z7v.toNat dz35).2.2.1))) = true then (some (.inr 6)) else ((if ((decide ((x0.getD z7v.toNat dz35).2.2.2.2.2.2.1 < (1 : Int))) || (decide ((x0.getD z7v.toNat dz35).2.2.2.2.2.2.2.1 < (0 : Int)))) = true then (some true) else ((lin_open.f ((x0.getD z7v.toNat dz35).1) ((x0.getD z7v.toNat dz35).2.1) ((x0.getD z7v.toNat dz35).2.2.1) ((x0.getD z7v.toNat dz35).2.2.2.1) ((x0.getD z7v.toNat dz35).2.2.2.2.1) ((x0.getD z7v.toNat dz35).2.2.2.2.2.1) ((x0.getD z7v.toNat dz35).2.2.2.2.2.2.1) ((x0.getD z7v.toNat dz35).2.2.2.2.2.2.2.1) ((x0.getD z7v.toNat dz35).2.2.2.2.2.2.2.2.1) ((x0.getD z7v.toNat dz35).2.2.2.2.2.2.2.2.2)).bind fun s23v => (some ((!s23v) && (decide ((x0.getD z7v.toNat dz35).2.2.2.2.2.2.2.1 < (x0.getD z7v.toNat dz35).2.2.2.2.2.2.1)))))).bind fun s21v => (if s21v = true then (some (.inr 4)) else ((lin_open.f ((x0.getD z7v.toNat dz35).1) ((x0.getD z7v.toNat dz35).2.1) ((x0.getD z7v.toNat dz35).2.2.1) ((x0.getD z7v.toNat dz35).2.2.2.1) ((x0.getD z7v.toNat dz35).2.2.2.2.1) ((x0.getD z7v.toNat dz35).2.2.2.2.2.1) ((x0.getD z7v.toNat dz35).2.2.2.2.2.2.1) ((x0.getD z7v.toNat dz35).2.2.2.2.2.2.2.1) ((x0.getD z7v.toNat dz35).2.2.2.2.2.2.2.2.1) ((x0.getD z7v.toNat dz35).2.2.2.2.2.2.2.2.2)).bind fun s35v => (if (s35v && (!(decide ((x0.getD z7v.toNat dz35).2.2.2.2.2.2.2.2.1 = (0 : Int)) && (decide (((x0.getD z7v.toNat dz35).2.2.2.2.2.2.2.2.2) = ([] : List UInt8)))))) = true then (some (.inr 4)) else ((lin_open.f ((x0.getD z7v.toNat dz35).1) ((x0.getD z7v.toNat dz35).2.1) ((x0.getD z7v.toNat dz35).2.2.1) ((x0.getD z7v.toNat dz35).2.2.2.1) ((x0.getD z7v.toNat dz35).2.2.2.2.1) ((x0.getD z7v.toNat dz35).2.2.2.2.2.1) ((x0.getD z7v.toNat dz35).2.2.2.2.2.2.1) ((x0.getD z7v.toNat dz35).2.2.2.2.2.2.2.1) ((x0.getD z7v.toNat dz35).2.2.2.2.2.2.2.2.1) ((x0.getD z7v.toNat dz35).2.2.2.2.2.2.2.2.2)).bind fun s40v => ((if (!s40v) = true then (some ((decide ((x0.getD z7v.toNat dz35).2.2.2.2.2.2.2.2.1 < (1 : Int))) || (decide ((10 : Int) < (x0.getD z7v.toNat dz35).2.2.2.2.2.2.2.2.1)))) else (some false)).bind fun s43v => (if s43v = true then (some (.inr 4)) else (lin_Valid.l0 x0 k (IntKind.i64.wrap (z7v + 1))))))))))) else none) else (some (.inl ()))
def lin_Valid.f (k : Nat) (x0 : List (Ty35)) : Option (Int) := if (400 : Int) < (x0.length : Int) then (some 23) else (orR (lin_Valid.l0 x0 k 0) fun s3v => (orR ((lin_Keys.f k x0).bind fun s65v => (lin_Valid.l1 x0 s65v k 0)) fun s63v => (some 0)))
theorem lin_Valid.calls (W : World) (F : HA) (k : Nat) (a0 : Option Addr) (c0 : Nat) (x0 : List (Ty35)) (h0 : RdV F 10 (V35 tt) a0 x0) (hc0 : x0.length ≤ c0) (hm0 : c0 ≤ maxLen) :
    Fn Try.prog W 13 [.slice a0 x0.length c0] [] F (lin_Valid.f k x0) (fun (r : Int) (y : Unit) => .int .i64 r) (fun r y => []) := by
 unfold lin_Valid.f
 refine fn_intro 85 Try.func13 rfl Try.ntmps13 rfl ?_
 refine sim_seq (sim_region ?_)
 refine simL_val (q_asg rfl rfl) rfl rfl rfl (simL_nil (nrm_then (sim_seq (sim_seq (sim_region ?_)))))
 refine simL_val (q_move rfl rfl) rfl rfl rfl ?_
 refine simL_val (q_len rfl rfl rfl Try.underlying22) rfl rfl rfl ?_
 refine simL_val (q_gtr rfl rfl rfl) rfl rfl rfl (simL_nil (nrm_then ?_))
 refine sim_cond rfl (fun h1v => ?_) (fun h2v => ?_)
 refine sim_seq (sim_region ?_)
 refine simL_val (q_asg rfl rfl) rfl rfl rfl (simL_nil (nrm_then (sim_rtn ?_)))
 refine rtn_then ?_
 exact rtn_fn () rfl rfl rfl (.sel 0 rfl (.nil _))
 refine sim_skip ?_
 refine nrm_then ?_
 refine sim_cutR (S := Unit) (Unit) (fun s y => [(0, .slice a0 x0.length c0)]) (fun s y => [F]) ?_ ?_
 refine sim_seq (sim_region ?_)
 refine simL_val (q_move rfl rfl) rfl rfl rfl ?_
 refine simL_val (q_len rfl rfl rfl Try.underlying22) rfl rfl rfl ?_
 refine simL_val (q_move rfl rfl) rfl rfl rfl (simL_nil (nrm_then ?_))
 refine sim_block ?_
 refine sim_loop (S := Int) (Unit) (fun k s => lin_Valid.l0 x0 k s) (fun s y => [(0, .slice a0 x0.length c0), (10, .slice a0 x0.length c0), (11, .int .i64 (x0.length : Int)), (12, .int .i64 s)]) (fun s y => [F]) (fun _ => by rw [lin_Valid.l0]) ?_ k 0 () ⟨rfl, rfl, rfl, rfl, trivial⟩ (.sel 0 rfl (.nil _))
 intro k s5v y6v
 refine sim_eq (by rw [lin_Valid.l0]) ?_
 refine sim_seq (sim_region ?_)
 refine simL_val (q_lss rfl rfl rfl) rfl rfl rfl (simL_nil (nrm_then (sim_seq ?_)))
 refine sim_cond rfl (fun h8v => ?_) (fun h9v => ?_)
 refine sim_skip ?_
 refine nrm_then (sim_seq ?_)
 refine sim_block ?_
 refine sim_seq (sim_region ?_)
 refine simL_ask (fun hi10v => ?_)
 obtain ⟨b11v, b11vo, r14v, ha12v, hV15v, hlr16v, hcell17v⟩ := RdV.pos h0 (Up.refl _) rfl (i := s5v.toNat) (by omega) dz35
 obtain rfl := hV15v
 refine simL_val (q_idx rfl rfl rfl ha12v Try.underlying22 Try.sizeOf35 hi10v.1 hi10v.2) rfl rfl rfl ?_
 refine simL_val (q_loads rfl rfl Try.isAgg35 Try.sizeOf35 rfl (fun j v hj => hcell17v 0 rfl j v hj)) rfl rfl rfl ?_
 refine simL_eff (re_alloc rfl Try.zeroValue35 rfl) rfl rfl rfl ?_
 intro b18v
 refine simL_do (re_store 0 rfl rfl rfl Try.sizeOf35 rfl rfl (one_of (by rfl)) rfl rfl) rfl rfl ?_
 intro _
 refine simL_ent (H' := [obj b18v 35 [.int .i64 ((x0.getD s5v.toNat dz35).1), .int .i64 ((x0.getD s5v.toNat dz35).2.1), .int .i64 ((x0.getD s5v.toNat dz35).2.2.1), str ((x0.getD s5v.toNat dz35).2.2.2.1), str ((x0.getD s5v.toNat dz35).2.2.2.2.1), str ((x0.getD s5v.toNat dz35).2.2.2.2.2.1), .int .i64 ((x0.getD s5v.toNat dz35).2.2.2.2.2.2.1), .int .i64 ((x0.getD s5v.toNat dz35).2.2.2.2.2.2.2.1), .int .i64 ((x0.getD s5v.toNat dz35).2.2.2.2.2.2.2.2.1), str ((x0.getD s5v.toNat dz35).2.2.2.2.2.2.2.2.2)], F]) (Ent.refl _) ?_
 refine simL_nil (nrm_then ?_)
 refine sim_block ?_
 refine sim_seq (sim_region ?_)
 refine simL_val (q_fa rfl rfl Try.underlying35 rfl rfl Try.sizeOf3 rfl) rfl rfl rfl ?_
 refine simL_val (q_load rfl rfl Try.isAgg3 (.obj 0 rfl rfl)) rfl rfl rfl ?_
 refine simL_val (q_lss rfl rfl rfl) rfl rfl rfl ?_
 refine simL_val (q_move rfl rfl) rfl rfl rfl ?_
 refine simL_valc (b := decide ((x0.getD s5v.toNat dz35).2.2.1 < (1 : Int))) (fun hb62v => RQ.sub (E' := [(4, .pointer (some ⟨b18v, 0, none⟩))]) ⟨rfl, trivial⟩ (q_fa rfl rfl Try.underlying35 rfl rfl Try.sizeOf3 rfl)) rfl rfl rfl rfl rfl ?_
 refine simL_valc (b := decide ((x0.getD s5v.toNat dz35).2.2.1 < (1 : Int))) (fun hb61v => RQ.sub (E' := [(21, .pointer (some ⟨b18v, 2, none⟩))]) ⟨lk_cv rfl hb61v, trivial⟩ (q_load rfl rfl Try.isAgg3 (.obj 0 rfl rfl))) rfl rfl rfl rfl rfl ?_
 refine simL_valc (b := decide ((x0.getD s5v.toNat dz35).2.2.1 < (1 : Int))) (fun hb60v => RQ.sub (E' := [(22, .int .i64 ((x0.getD s5v.toNat dz35).2.2.1))]) ⟨lk_cv rfl hb60v, trivial⟩ (q_gtr rfl rfl rfl)) rfl rfl rfl rfl rfl ?_
 refine simL_val (q_or rfl rfl rfl) rfl rfl rfl ?_
 refine simL_val (q_asg rfl rfl) rfl rfl rfl (simL_nil (nrm_then ?_))
 refine sim_condb rfl (fun h19v => ?_) (fun h20v => ?_)
 refine sim_seq (sim_region ?_)
 refine simL_val (q_asg rfl rfl) rfl rfl rfl (simL_nil (nrm_then (sim_rtn ?_)))
 refine rtn_block ?_
 refine rtn_block ?_
 refine rtn_then ?_
 refine rtn_loop ?_
 refine rtn_block ?_
 refine rtn_cutR ?_
 exact rtn_fn () rfl rfl rfl (.sel 1 rfl (.nil _))
 refine sim_seq (sim_region ?_)
 refine simL_val (q_fa rfl rfl Try.underlying35 rfl rfl Try.sizeOf3 rfl) rfl rfl rfl ?_
 refine simL_val (q_load rfl rfl Try.isAgg3 (.obj 0 rfl rfl)) rfl rfl rfl ?_
 refine simL_val (q_lss rfl rfl rfl) rfl rfl rfl ?_
 refine simL_val (q_move rfl rfl) rfl rfl rfl ?_
 refine simL_valc (b := decide ((x0.getD s5v.toNat dz35).2.2.2.2.2.2.1 < (1 : Int))) (fun hb59v => RQ.sub (E' := [(4, .pointer (some ⟨b18v, 0, none⟩))]) ⟨rfl, trivial⟩ (q_fa rfl rfl Try.underlying35 rfl rfl Try.sizeOf3 rfl)) rfl rfl rfl rfl rfl ?_
 refine simL_valc (b := decide ((x0.getD s5v.toNat dz35).2.2.2.2.2.2.1 < (1 : Int))) (fun hb58v => RQ.sub (E' := [(30, .pointer (some ⟨b18v, 7, none⟩))]) ⟨lk_cv rfl hb58v, trivial⟩ (q_load rfl rfl Try.isAgg3 (.obj 0 rfl rfl))) rfl rfl rfl rfl rfl ?_
 refine simL_valc (b := decide ((x0.getD s5v.toNat dz35).2.2.2.2.2.2.1 < (1 : Int))) (fun hb57v => RQ.sub (E' := [(31, .int .i64 ((x0.getD s5v.toNat dz35).2.2.2.2.2.2.2.1))]) ⟨lk_cv rfl hb57v, trivial⟩ (q_lss rfl rfl rfl)) rfl rfl rfl rfl rfl ?_
 refine simL_val (q_or rfl rfl rfl) rfl rfl rfl ?_
 refine simL_val (q_move rfl rfl) rfl rfl rfl ?_
 refine simL_cut' 11 (S := Bool) (Unit) (fun s y => [(0, .slice a0 x0.length c0), (4, .pointer (some ⟨b18v, 0, none⟩)), (10, .slice a0 x0.length c0), (11, .int .i64 (x0.length : Int)), (12, .int .i64 s5v), (45, .bool s)]) (fun s y => [obj b18v 35 [.int .i64 ((x0.getD s5v.toNat dz35).1), .int .i64 ((x0.getD s5v.toNat dz35).2.1), .int .i64 ((x0.getD s5v.toNat dz35).2.2.1), str ((x0.getD s5v.toNat dz35).2.2.2.1), str ((x0.getD s5v.toNat dz35).2.2.2.2.1), str ((x0.getD s5v.toNat dz35).2.2.2.2.2.1), .int .i64 ((x0.getD s5v.toNat dz35).2.2.2.2.2.2.1), .int .i64 ((x0.getD s5v.toNat dz35).2.2.2.2.2.2.2.1), .int .i64 ((x0.getD s5v.toNat dz35).2.2.2.2.2.2.2.2.1), str ((x0.getD s5v.toNat dz35).2.2.2.2.2.2.2.2.2)], F]) ?_ ?_
 refine simL_caseb (fun hb31v => ?_) (fun hb32v => ?_)
 rw [hb31v]
 refine simL_skipd rfl rfl rfl rfl rfl rfl ?_
 refine simL_skipd rfl rfl rfl rfl rfl rfl ?_
 refine simL_skipd rfl rfl rfl rfl rfl rfl ?_
 refine simL_skipd rfl rfl rfl rfl rfl rfl ?_
 refine simL_skipu rfl rfl rfl rfl rfl ?_
 refine simL_skipu rfl rfl rfl rfl rfl ?_
 refine simL_skipu rfl rfl rfl rfl rfl ?_
 refine simL_skipu rfl rfl rfl rfl rfl ?_
 refine simL_skipu rfl rfl rfl rfl rfl ?_
 refine simL_skipd rfl rfl rfl rfl rfl rfl ?_
 refine simL_val (q_pick rfl rfl rfl rfl rfl) rfl rfl rfl (simL_nil ?_)
 exact nrm_cut (s := true) () ⟨rfl, rfl, rfl, rfl, rfl, rfl, trivial⟩ (.sel 0 rfl (.sel 0 rfl (.nil _)))
 rw [hb32v]
 refine simL_valg (q_loado 0 rfl rfl Try.isAgg35 Try.sizeOf35 rfl rfl) rfl rfl rfl rfl rfl rfl ?_
 refine simL_bind (fun s23v hs25v => ?_)
 refine simL_effg (re_call (vs := [.agg #[.int .i64 ((x0.getD s5v.toNat dz35).1), .int .i64 ((x0.getD s5v.toNat dz35).2.1), .int .i64 ((x0.getD s5v.toNat dz35).2.2.1), str ((x0.getD s5v.toNat dz35).2.2.2.1), str ((x0.getD s5v.toNat dz35).2.2.2.2.1), str ((x0.getD s5v.toNat dz35).2.2.2.2.2.1), .int .i64 ((x0.getD s5v.toNat dz35).2.2.2.2.2.2.1), .int .i64 ((x0.getD s5v.toNat dz35).2.2.2.2.2.2.2.1), .int .i64 ((x0.getD s5v.toNat dz35).2.2.2.2.2.2.2.2.1), str ((x0.getD s5v.toNat dz35).2.2.2.2.2.2.2.2.2)]]) (cap := []) (A := []) (rst := [obj b18v 35 [.int .i64 ((x0.getD s5v.toNat dz35).1), .int .i64 ((x0.getD s5v.toNat dz35).2.1), .int .i64 ((x0.getD s5v.toNat dz35).2.2.1), str ((x0.getD s5v.toNat dz35).2.2.2.1), str ((x0.getD s5v.toNat dz35).2.2.2.2.1), str ((x0.getD s5v.toNat dz35).2.2.2.2.2.1), .int .i64 ((x0.getD s5v.toNat dz35).2.2.2.2.2.2.1), .int .i64 ((x0.getD s5v.toNat dz35).2.2.2.2.2.2.2.1), .int .i64 ((x0.getD s5v.toNat dz35).2.2.2.2.2.2.2.2.1), str ((x0.getD s5v.toNat dz35).2.2.2.2.2.2.2.2.2)], F]) rfl rfl rfl rfl rfl rfl Try.call30 (.sel 0 rfl (.sel 0 rfl (.nil _))) (lin_open.calls _ _ ((x0.getD s5v.toNat dz35).1) ((x0.getD s5v.toNat dz35).2.1) ((x0.getD s5v.toNat dz35).2.2.1) ((x0.getD s5v.toNat dz35).2.2.2.1) ((x0.getD s5v.toNat dz35).2.2.2.2.1) ((x0.getD s5v.toNat dz35).2.2.2.2.2.1) ((x0.getD s5v.toNat dz35).2.2.2.2.2.2.1) ((x0.getD s5v.toNat dz35).2.2.2.2.2.2.2.1) ((x0.getD s5v.toNat dz35).2.2.2.2.2.2.2.2.1) ((x0.getD s5v.toNat dz35).2.2.2.2.2.2.2.2.2) ) hs25v) rfl rfl rfl rfl rfl rfl ?_
 intro y24v
 refine simL_valg (q_not rfl rfl) rfl rfl rfl rfl rfl rfl ?_
 refine simL_valg (q_move rfl rfl) rfl rfl rfl rfl rfl rfl ?_
 refine simL_valc (b := !s23v) (fun hb30v => RQ.sub (E' := [(4, .pointer (some ⟨b18v, 0, none⟩))]) ⟨rfl, trivial⟩ (q_fa rfl rfl Try.underlying35 rfl rfl Try.sizeOf3 rfl)) rfl rfl rfl rfl rfl ?_
 refine simL_valc (b := !s23v) (fun hb29v => RQ.sub (E' := [(39, .pointer (some ⟨b18v, 7, none⟩))]) ⟨lk_cv rfl hb29v, trivial⟩ (q_load rfl rfl Try.isAgg3 (.obj 0 rfl rfl))) rfl rfl rfl rfl rfl ?_
 refine simL_valc (b := !s23v) (fun hb28v => RQ.sub (E' := [(4, .pointer (some ⟨b18v, 0, none⟩))]) ⟨rfl, trivial⟩ (q_fa rfl rfl Try.underlying35 rfl rfl Try.sizeOf3 rfl)) rfl rfl rfl rfl rfl ?_
 refine simL_valc (b := !s23v) (fun hb27v => RQ.sub (E' := [(41, .pointer (some ⟨b18v, 6, none⟩))]) ⟨lk_cv rfl hb27v, trivial⟩ (q_load rfl rfl Try.isAgg3 (.obj 0 rfl rfl))) rfl rfl rfl rfl rfl ?_
 refine simL_valc (b := !s23v) (fun hb26v => RQ.sub (E' := [(40, .int .i64 ((x0.getD s5v.toNat dz35).2.2.2.2.2.2.2.1)), (42, .int .i64 ((x0.getD s5v.toNat dz35).2.2.2.2.2.2.1))]) ⟨lk_cv rfl hb26v, lk_cv rfl hb26v, trivial⟩ (q_lss rfl rfl rfl)) rfl rfl rfl rfl rfl ?_
 refine simL_valg (q_and rfl rfl rfl) rfl rfl rfl rfl rfl rfl ?_
 refine simL_val (q_pick rfl rfl rfl rfl rfl) rfl rfl rfl (simL_nil ?_)
 exact nrm_cut (s := (!s23v) && (decide ((x0.getD s5v.toNat dz35).2.2.2.2.2.2.2.1 < (x0.getD s5v.toNat dz35).2.2.2.2.2.2.1))) () ⟨rfl, rfl, rfl, rfl, rfl, rfl, trivial⟩ (.sel 0 rfl (.sel 0 rfl (.nil _)))
 intro s21v y22v
 refine simL_val (q_asg rfl rfl) rfl rfl rfl (simL_nil (nrm_then ?_))
 refine sim_condb rfl (fun h33v => ?_) (fun h34v => ?_)
 refine sim_seq (sim_region ?_)
 refine simL_val (q_asg rfl rfl) rfl rfl rfl (simL_nil (nrm_then (sim_rtn ?_)))
 refine rtn_block ?_
 refine rtn_block ?_
 refine rtn_then ?_
 refine rtn_loop ?_
 refine rtn_block ?_
 refine rtn_cutR ?_
 exact rtn_fn () rfl rfl rfl (.sel 1 rfl (.nil _))
 refine sim_seq (sim_region ?_)
 refine simL_val (q_loado 0 rfl rfl Try.isAgg35 Try.sizeOf35 rfl rfl) rfl rfl rfl ?_
 refine simL_bind (fun s35v hs37v => ?_)
 refine simL_eff (re_call (vs := [.agg #[.int .i64 ((x0.getD s5v.toNat dz35).1), .int .i64 ((x0.getD s5v.toNat dz35).2.1), .int .i64 ((x0.getD s5v.toNat dz35).2.2.1), str ((x0.getD s5v.toNat dz35).2.2.2.1), str ((x0.getD s5v.toNat dz35).2.2.2.2.1), str ((x0.getD s5v.toNat dz35).2.2.2.2.2.1), .int .i64 ((x0.getD s5v.toNat dz35).2.2.2.2.2.2.1), .int .i64 ((x0.getD s5v.toNat dz35).2.2.2.2.2.2.2.1), .int .i64 ((x0.getD s5v.toNat dz35).2.2.2.2.2.2.2.2.1), str ((x0.getD s5v.toNat dz35).2.2.2.2.2.2.2.2.2)]]) (cap := []) (A := []) (rst := [obj b18v 35 [.int .i64 ((x0.getD s5v.toNat dz35).1), .int .i64 ((x0.getD s5v.toNat dz35).2.1), .int .i64 ((x0.getD s5v.toNat dz35).2.2.1), str ((x0.getD s5v.toNat dz35).2.2.2.1), str ((x0.getD s5v.toNat dz35).2.2.2.2.1), str ((x0.getD s5v.toNat dz35).2.2.2.2.2.1), .int .i64 ((x0.getD s5v.toNat dz35).2.2.2.2.2.2.1), .int .i64 ((x0.getD s5v.toNat dz35).2.2.2.2.2.2.2.1), .int .i64 ((x0.getD s5v.toNat dz35).2.2.2.2.2.2.2.2.1), str ((x0.getD s5v.toNat dz35).2.2.2.2.2.2.2.2.2)], F]) rfl rfl rfl rfl rfl rfl Try.call30 (.sel 0 rfl (.sel 0 rfl (.nil _))) (lin_open.calls _ _ ((x0.getD s5v.toNat dz35).1) ((x0.getD s5v.toNat dz35).2.1) ((x0.getD s5v.toNat dz35).2.2.1) ((x0.getD s5v.toNat dz35).2.2.2.1) ((x0.getD s5v.toNat dz35).2.2.2.2.1) ((x0.getD s5v.toNat dz35).2.2.2.2.2.1) ((x0.getD s5v.toNat dz35).2.2.2.2.2.2.1) ((x0.getD s5v.toNat dz35).2.2.2.2.2.2.2.1) ((x0.getD s5v.toNat dz35).2.2.2.2.2.2.2.2.1) ((x0.getD s5v.toNat dz35).2.2.2.2.2.2.2.2.2) ) hs37v) rfl rfl rfl ?_
 intro y36v
 refine simL_val (q_move rfl rfl) rfl rfl rfl ?_
 refine simL_valc (b := s35v) (fun hb56v => RQ.sub (E' := [(4, .pointer (some ⟨b18v, 0, none⟩))]) ⟨rfl, trivial⟩ (q_fa rfl rfl Try.underlying35 rfl rfl Try.sizeOf33 rfl)) rfl rfl rfl rfl rfl ?_
 refine simL_valc (b := s35v) (fun hb55v => RQ.sub (E' := [(50, .pointer (some ⟨b18v, 8, none⟩))]) ⟨lk_cv rfl hb55v, trivial⟩ (q_loads (vs := [.int .i64 ((x0.getD s5v.toNat dz35).2.2.2.2.2.2.2.2.1), str ((x0.getD s5v.toNat dz35).2.2.2.2.2.2.2.2.2)]) rfl rfl Try.isAgg33 Try.sizeOf33 rfl (cells_obj 0 rfl (cells_lit rfl)))) rfl rfl rfl rfl rfl ?_
 refine simL_valc (b := s35v) (fun hb54v => RQ.sub (E' := []) trivial (q_build (v := .agg #[.int .i64 0, str ([] : List UInt8)]) rfl rfl (fun _ => by kernel_rfl))) rfl rfl rfl rfl rfl ?_
 refine simL_valc (b := s35v) (fun hb53v => RQ.sub (E' := [(51, .agg #[.int .i64 ((x0.getD s5v.toNat dz35).2.2.2.2.2.2.2.2.1), str ((x0.getD s5v.toNat dz35).2.2.2.2.2.2.2.2.2)]), (52, .agg #[.int .i64 0, str ([] : List UInt8)])]) ⟨lk_cv rfl hb53v, lk_cv rfl hb53v, trivial⟩ (q_neagg rfl rfl rfl (by kernel_rfl) (fun d w => eqi_struct Try.underlying33 (by kernel_rfl) (eqf_cons (by rfl) (part_of Try.isAgg3 rfl) (part_of Try.isAgg3 rfl) (eqi_int Try.underlying3) (eqf_last (by rfl) (part_of Try.isAgg9 rfl) (part_of Try.isAgg9 rfl) (eqi_str Try.underlying9)))))) rfl rfl rfl rfl rfl ?_
 refine simL_val (q_and rfl rfl rfl) rfl rfl rfl ?_
 refine simL_val (q_asg rfl rfl) rfl rfl rfl (simL_nil (nrm_then ?_))
 refine sim_condb rfl (fun h38v => ?_) (fun h39v => ?_)
 refine sim_seq (sim_region ?_)
 refine simL_val (q_asg rfl rfl) rfl rfl rfl (simL_nil (nrm_then (sim_rtn ?_)))
 refine rtn_block ?_
 refine rtn_block ?_
 refine rtn_then ?_
 refine rtn_loop ?_
 refine rtn_block ?_
 refine rtn_cutR ?_
 exact rtn_fn () rfl rfl rfl (.sel 1 rfl (.nil _))
 refine sim_seq (sim_region ?_)
 refine simL_val (q_loado 0 rfl rfl Try.isAgg35 Try.sizeOf35 rfl rfl) rfl rfl rfl ?_
 refine simL_bind (fun s40v hs42v => ?_)
 refine simL_eff (re_call (vs := [.agg #[.int .i64 ((x0.getD s5v.toNat dz35).1), .int .i64 ((x0.getD s5v.toNat dz35).2.1), .int .i64 ((x0.getD s5v.toNat dz35).2.2.1), str ((x0.getD s5v.toNat dz35).2.2.2.1), str ((x0.getD s5v.toNat dz35).2.2.2.2.1), str ((x0.getD s5v.toNat dz35).2.2.2.2.2.1), .int .i64 ((x0.getD s5v.toNat dz35).2.2.2.2.2.2.1), .int .i64 ((x0.getD s5v.toNat dz35).2.2.2.2.2.2.2.1), .int .i64 ((x0.getD s5v.toNat dz35).2.2.2.2.2.2.2.2.1), str ((x0.getD s5v.toNat dz35).2.2.2.2.2.2.2.2.2)]]) (cap := []) (A := []) (rst := [obj b18v 35 [.int .i64 ((x0.getD s5v.toNat dz35).1), .int .i64 ((x0.getD s5v.toNat dz35).2.1), .int .i64 ((x0.getD s5v.toNat dz35).2.2.1), str ((x0.getD s5v.toNat dz35).2.2.2.1), str ((x0.getD s5v.toNat dz35).2.2.2.2.1), str ((x0.getD s5v.toNat dz35).2.2.2.2.2.1), .int .i64 ((x0.getD s5v.toNat dz35).2.2.2.2.2.2.1), .int .i64 ((x0.getD s5v.toNat dz35).2.2.2.2.2.2.2.1), .int .i64 ((x0.getD s5v.toNat dz35).2.2.2.2.2.2.2.2.1), str ((x0.getD s5v.toNat dz35).2.2.2.2.2.2.2.2.2)], F]) rfl rfl rfl rfl rfl rfl Try.call30 (.sel 0 rfl (.sel 0 rfl (.nil _))) (lin_open.calls _ _ ((x0.getD s5v.toNat dz35).1) ((x0.getD s5v.toNat dz35).2.1) ((x0.getD s5v.toNat dz35).2.2.1) ((x0.getD s5v.toNat dz35).2.2.2.1) ((x0.getD s5v.toNat dz35).2.2.2.2.1) ((x0.getD s5v.toNat dz35).2.2.2.2.2.1) ((x0.getD s5v.toNat dz35).2.2.2.2.2.2.1) ((x0.getD s5v.toNat dz35).2.2.2.2.2.2.2.1) ((x0.getD s5v.toNat dz35).2.2.2.2.2.2.2.2.1) ((x0.getD s5v.toNat dz35).2.2.2.2.2.2.2.2.2) ) hs42v) rfl rfl rfl ?_
 intro y41v
 refine simL_val (q_not rfl rfl) rfl rfl rfl ?_
 refine simL_val (q_move rfl rfl) rfl rfl rfl ?_
 refine simL_cut' 11 (S := Bool) (Unit) (fun s y => [(0, .slice a0 x0.length c0), (10, .slice a0 x0.length c0), (11, .int .i64 (x0.length : Int)), (12, .int .i64 s5v), (70, .bool s)]) (fun s y => [F]) ?_ ?_
 refine simL_caseb (fun hb49v => ?_) (fun hb50v => ?_)
 rw [hb49v]
 refine simL_valg (q_fa rfl rfl Try.underlying35 rfl rfl Try.sizeOf33 rfl) rfl rfl rfl rfl rfl rfl ?_
 refine simL_valg (q_fa rfl rfl Try.underlying33 rfl rfl Try.sizeOf3 rfl) rfl rfl rfl rfl rfl rfl ?_
 refine simL_valg (q_load rfl rfl Try.isAgg3 (.obj 0 rfl rfl)) rfl rfl rfl rfl rfl rfl ?_
 refine simL_valg (q_lss rfl rfl rfl) rfl rfl rfl rfl rfl rfl ?_
 refine simL_valg (q_move rfl rfl) rfl rfl rfl rfl rfl rfl ?_
 refine simL_valc (b := decide ((x0.getD s5v.toNat dz35).2.2.2.2.2.2.2.2.1 < (1 : Int))) (fun hb48v => RQ.sub (E' := [(4, .pointer (some ⟨b18v, 0, none⟩))]) ⟨rfl, trivial⟩ (q_fa rfl rfl Try.underlying35 rfl rfl Try.sizeOf33 rfl)) rfl rfl rfl rfl rfl ?_
 refine simL_valc (b := decide ((x0.getD s5v.toNat dz35).2.2.2.2.2.2.2.2.1 < (1 : Int))) (fun hb47v => RQ.sub (E' := [(65, .pointer (some ⟨b18v, 8, none⟩))]) ⟨lk_cv rfl hb47v, trivial⟩ (q_fa rfl rfl Try.underlying33 rfl rfl Try.sizeOf3 rfl)) rfl rfl rfl rfl rfl ?_
 refine simL_valc (b := decide ((x0.getD s5v.toNat dz35).2.2.2.2.2.2.2.2.1 < (1 : Int))) (fun hb46v => RQ.sub (E' := [(66, .pointer (some ⟨b18v, 8, none⟩))]) ⟨lk_cv rfl hb46v, trivial⟩ (q_load rfl rfl Try.isAgg3 (.obj 0 rfl rfl))) rfl rfl rfl rfl rfl ?_
 refine simL_valc (b := decide ((x0.getD s5v.toNat dz35).2.2.2.2.2.2.2.2.1 < (1 : Int))) (fun hb45v => RQ.sub (E' := [(67, .int .i64 ((x0.getD s5v.toNat dz35).2.2.2.2.2.2.2.2.1))]) ⟨lk_cv rfl hb45v, trivial⟩ (q_gtr rfl rfl rfl)) rfl rfl rfl rfl rfl ?_
 refine simL_valg (q_or rfl rfl rfl) rfl rfl rfl rfl rfl rfl ?_
 refine simL_val (q_pick rfl rfl rfl rfl rfl) rfl rfl rfl (simL_nil ?_)
 exact nrm_cut (s := (decide ((x0.getD s5v.toNat dz35).2.2.2.2.2.2.2.2.1 < (1 : Int))) || (decide ((10 : Int) < (x0.getD s5v.toNat dz35).2.2.2.2.2.2.2.2.1))) () ⟨rfl, rfl, rfl, rfl, rfl, trivial⟩ (.sel 1 rfl (.nil _))
 rw [hb50v]
 refine simL_skipd rfl rfl rfl rfl rfl rfl ?_
 refine simL_skipd rfl rfl rfl rfl rfl rfl ?_
 refine simL_skipd rfl rfl rfl rfl rfl rfl ?_
 refine simL_skipd rfl rfl rfl rfl rfl rfl ?_
 refine simL_skipd rfl rfl rfl rfl rfl rfl ?_
 refine simL_skipu rfl rfl rfl rfl rfl ?_
 refine simL_skipu rfl rfl rfl rfl rfl ?_
 refine simL_skipu rfl rfl rfl rfl rfl ?_
 refine simL_skipu rfl rfl rfl rfl rfl ?_
 refine simL_skipd rfl rfl rfl rfl rfl rfl ?_
 refine simL_val (q_pick rfl rfl rfl rfl rfl) rfl rfl rfl (simL_nil ?_)
 exact nrm_cut (s := false) () ⟨rfl, rfl, rfl, rfl, rfl, trivial⟩ (.sel 1 rfl (.nil _))
 intro s43v y44v
 refine simL_val (q_asg rfl rfl) rfl rfl rfl (simL_nil (nrm_then ?_))
 refine sim_condb rfl (fun h51v => ?_) (fun h52v => ?_)
 refine sim_seq (sim_region ?_)
 refine simL_val (q_asg rfl rfl) rfl rfl rfl (simL_nil (nrm_then (sim_rtn ?_)))
 refine rtn_block ?_
 refine rtn_block ?_
 refine rtn_then ?_
 refine rtn_loop ?_
 refine rtn_block ?_
 refine rtn_cutR ?_
 exact rtn_fn () rfl rfl rfl (.sel 0 rfl (.nil _))
 refine sim_skip ?_
 refine nrm_block (nrm_block (nrm_then (sim_region ?_)))
 refine simL_val (q_add rfl rfl rfl) rfl rfl rfl ?_
 refine simL_val (q_move rfl rfl) rfl rfl rfl (simL_nil ?_)
 exact nrm_again (s := IntKind.i64.wrap (s5v + 1)) () ⟨rfl, rfl, rfl, rfl, trivial⟩ (.sel 0 rfl (.nil _))
 refine sim_exi ?_
 refine exi_then ?_
 refine exi_loop ?_
 refine exi_here ?_
 exact nrm_cutR (s := ()) () ⟨rfl, trivial⟩ (.sel 0 rfl (.nil _))
 intro s3v y4v
 refine sim_cutR (S := Unit) (Unit) (fun s y => []) (fun s y => [F]) ?_ ?_
 refine sim_seq (sim_region ?_)
 refine simL_val (q_move rfl rfl) rfl rfl rfl ?_
 refine simL_bind (fun s65v hs67v => ?_)
 refine simL_eff (re_call (vs := [.slice a0 x0.length c0]) (cap := []) (A := []) (rst := [F]) rfl rfl rfl rfl rfl rfl Try.call15 (.sel 0 rfl (.nil _)) (lin_Keys.calls _ _ k a0 c0 x0 (h0.up (Up.lend 0 rfl) (fun _ _ h => h)) hc0 hm0) hs67v) rfl rfl rfl ?_
 intro y66v
 refine simL_val (q_len rfl rfl rfl Try.underlying29) rfl rfl rfl ?_
 refine simL_val (q_move rfl rfl) rfl rfl rfl (simL_nil (nrm_then ?_))
 refine sim_block ?_
 refine sim_loop (S := Int) (Unit) (fun k s => lin_Valid.l1 x0 s65v k s) (fun s y => [(0, .slice a0 x0.length c0), (73, .slice y66v.1 s65v.length y66v.2), (74, .int .i64 (s65v.length : Int)), (75, .int .i64 s)]) (fun s y => [RowV 9 1 (V9 tt) y66v.1 s65v y66v.2, F]) (fun _ => by rw [lin_Valid.l1]) ?_ k 0 () ⟨rfl, rfl, rfl, rfl, trivial⟩ (.sel 0 rfl (.sel 0 rfl (.nil _)))
 intro k s68v y69v
 refine sim_eq (by rw [lin_Valid.l1]) ?_
 refine sim_seq (sim_region ?_)
 refine simL_val (q_lss rfl rfl rfl) rfl rfl rfl (simL_nil (nrm_then (sim_seq ?_)))
 refine sim_cond rfl (fun h71v => ?_) (fun h72v => ?_)
 refine sim_skip ?_
 refine nrm_then (sim_seq ?_)
 refine sim_block ?_
 refine sim_seq (sim_region ?_)
 refine simL_openV 0 rfl (fun rs81v hl82v => ?_)
 refine simL_ask (fun hi73v => ?_)
 refine simL_posV 0 rfl hl82v rfl (i := s68v.toNat) (by omega) ([] : List UInt8) (fun b74v b74vo r77v ha75v hV78v hlr79v hcell80v => ?_)
 obtain rfl := hV78v
 refine simL_val (q_idx rfl rfl rfl ha75v Try.underlying29 Try.sizeOf9 hi73v.1 hi73v.2) rfl rfl rfl ?_
 refine simL_val (q_load rfl rfl Try.isAgg9 (hcell80v 0 rfl 0 _ rfl)) rfl rfl rfl ?_
 refine simL_val (q_asg rfl rfl) rfl rfl rfl (simL_nil (nrm_then (sim_seq (sim_region ?_))))
 refine simL_val (q_move rfl rfl) rfl rfl rfl ?_
 refine simL_val (q_move rfl rfl) rfl rfl rfl ?_
 refine simL_bind (fun s83v hs85v => ?_)
 refine simL_eff (re_call (vs := [.slice a0 x0.length c0, str (s65v.getD s68v.toNat ([] : List UInt8))]) (cap := []) (A := []) (rst := [Row 9 1 y66v.1 s65v.length y66v.2 rs81v.flatten, F]) rfl rfl rfl rfl rfl rfl Try.call31 (.sel 0 rfl (.sel 0 rfl (.nil _))) (lin_of.calls _ _ k a0 c0 x0 (s65v.getD s68v.toNat ([] : List UInt8)) (h0.up (Up.lend 1 rfl) (fun _ _ h => h)) hc0 hm0) hs85v) rfl rfl rfl ?_
 intro y84v
 refine simL_val (q_len rfl rfl rfl Try.underlying39) rfl rfl rfl ?_
 refine simL_val (q_gtr rfl rfl rfl) rfl rfl rfl (simL_nil (nrm_then ?_))
 refine sim_cond rfl (fun h86v => ?_) (fun h87v => ?_)
 refine sim_seq (sim_region ?_)
 refine simL_val (q_asg rfl rfl) rfl rfl rfl (simL_nil (nrm_then (sim_rtn ?_)))
 refine rtn_block ?_
 refine rtn_then ?_
 refine rtn_loop ?_
 refine rtn_block ?_
 refine rtn_cutR ?_
 exact rtn_fn () rfl rfl rfl (.sel 2 rfl (.nil _))
 refine sim_skip ?_
 refine nrm_block (nrm_then (sim_region ?_))
 refine simL_val (q_add rfl rfl rfl) rfl rfl rfl ?_
 refine simL_val (q_move rfl rfl) rfl rfl rfl (simL_nil ?_)
 exact nrm_again (s := IntKind.i64.wrap (s68v + 1)) () ⟨rfl, rfl, rfl, rfl, trivial⟩ (.sel' 1 rfl (RowV.mk hl82v) (.sel 1 rfl (.nil _)))
 refine sim_exi ?_
 refine exi_then ?_
 refine exi_loop ?_
 refine exi_here ?_
 exact nrm_cutR (s := ()) () trivial (.sel 1 rfl (.nil _))
 intro s63v y64v
 refine sim_seq (sim_region ?_)
 refine simL_val (q_asg rfl rfl) rfl rfl rfl (simL_nil (nrm_then (sim_rtn ?_)))
 exact rtn_fn () rfl rfl rfl (.sel 0 rfl (.nil _))

def lin_search_whole.l0 (x0_0 : List (Ty35)) (x1 : Int) : Nat → Int → Option ((Unit) ⊕ (Bool))
  | 0, _ => none
  | k + 1, z5v => if z5v < (x0_0.length : Int) then (if 0 ≤ z5v ∧ z5v < (x0_0.length : Int) then ((lin_open.f ((x0_0.getD z5v.toNat dz35).1) ((x0_0.getD z5v.toNat dz35).2.1) ((x0_0.getD z5v.toNat dz35).2.2.1) ((x0_0.getD z5v.toNat dz35).2.2.2.1) ((x0_0.getD z5v.toNat dz35).2.2.2.2.1) ((x0_0.getD z5v.toNat dz35).2.2.2.2.2.1) ((x0_0.getD z5v.toNat dz35).2.2.2.2.2.2.1) ((x0_0.getD z5v.toNat dz35).2.2.2.2.2.2.2.1) ((x0_0.getD z5v.toNat dz35).2.2.2.2.2.2.2.2.1) ((x0_0.getD z5v.toNat dz35).2.2.2.2.2.2.2.2.2)).bind fun s17v => ((if (!s17v) = true then (if 0 ≤ z5v then (some (decide (bitsV .and .i64 x1 (IntKind.i64.wrap (1 * 2 ^ (min z5v.toNat IntKind.i64.bits))) = (0 : Int)))) else none) else (some false)).bind fun s20v => (if s20v = true then (some (.inr false)) else (lin_search_whole.l0 x0_0 x1 k (IntKind.i64.wrap (z5v + 1)))))) else none) else (some (.inl ()))
def lin_search_whole.f (k : Nat) (x0_0 : List (Ty35)) (x0_1 : List ((Int × Bool × List UInt8) × (Int))) (x0_2 : List Int) (x1 : Int) : Option (Bool) := orR (lin_search_whole.l0 x0_0 x1 k 0) fun s1v => (some true)
theorem lin_search_whole.calls (W : World) (F : HA) (k : Nat) (b0 : Nat) (a0_0 : Option Addr) (c0_0 : Nat) (x0_0 : List (Ty35)) (m0_1 : Nat) (x0_1 : List ((Int × Bool × List UInt8) × (Int))) (a0_2 : Option Addr) (c0_2 : Nat) (x0_2 : List Int) (x1 : Int) (h0_0 : RdV F 10 (V35 tt) a0_0 x0_0) (hc0_0 : x0_0.length ≤ c0_0) (hm0_0 : c0_0 ≤ maxLen) (h0_2 : RdV F 1 (V3 tt) a0_2 x0_2) (hc0_2 : x0_2.length ≤ c0_2) (hm0_2 : c0_2 ≤ maxLen) :
    Fn Try.prog W 42 [.pointer (some ⟨b0, 0, none⟩), .int .i64 x1] [obj b0 68 [.slice a0_0 x0_0.length c0_0, .map (some m0_1), .slice a0_2 x0_2.length c0_2], mapO m0_1 enc71 enc3 x0_1] F (lin_search_whole.f k x0_0 x0_1 x0_2 x1) (fun (r : Bool) (y : Unit) => .bool r) (fun r y => [obj b0 68 [.slice a0_0 x0_0.length c0_0, .map (some m0_1), .slice a0_2 x0_2.length c0_2], mapO m0_1 enc71 enc3 x0_1]) := by
 unfold lin_search_whole.f
 refine fn_intro 28 Try.func42 rfl Try.ntmps42 rfl ?_
 refine sim_seq (sim_region ?_)
 refine simL_val (q_asg rfl rfl) rfl rfl rfl (simL_nil (nrm_then ?_))
 refine sim_cutR (S := Unit) (Unit) (fun s y => []) (fun s y => [obj b0 68 [.slice a0_0 x0_0.length c0_0, .map (some m0_1), .slice a0_2 x0_2.length c0_2], mapO m0_1 enc71 enc3 x0_1, F]) ?_ ?_
 refine sim_seq (sim_region ?_)
 refine simL_val (q_move rfl rfl) rfl rfl rfl ?_
 refine simL_val (q_nil rfl rfl) rfl rfl rfl ?_
 refine simL_val (q_fa rfl rfl Try.underlying68 rfl rfl Try.sizeOf22 rfl) rfl rfl rfl ?_
 refine simL_val (q_load rfl rfl Try.isAgg22 (.obj 0 rfl rfl)) rfl rfl rfl ?_
 refine simL_val (q_len rfl rfl rfl Try.underlying22) rfl rfl rfl ?_
 refine simL_val (q_move rfl rfl) rfl rfl rfl (simL_nil (nrm_then ?_))
 refine sim_block ?_
 refine sim_loop (S := Int) (Unit) (fun k s => lin_search_whole.l0 x0_0 x1 k s) (fun s y => [(1, .int .i64 x1), (10, .slice a0_0 x0_0.length c0_0), (11, .int .i64 (x0_0.length : Int)), (12, .int .i64 s)]) (fun s y => [obj b0 68 [.slice a0_0 x0_0.length c0_0, .map (some m0_1), .slice a0_2 x0_2.length c0_2], mapO m0_1 enc71 enc3 x0_1, F]) (fun _ => by rw [lin_search_whole.l0]) ?_ k 0 () ⟨rfl, rfl, rfl, rfl, trivial⟩ (.sel 0 rfl (.sel 0 rfl (.sel 0 rfl (.nil _))))
 intro k s3v y4v
 refine sim_eq (by rw [lin_search_whole.l0]) ?_
 refine sim_seq (sim_region ?_)
 refine simL_val (q_lss rfl rfl rfl) rfl rfl rfl (simL_nil (nrm_then (sim_seq ?_)))
 refine sim_cond rfl (fun h6v => ?_) (fun h7v => ?_)
 refine sim_skip ?_
 refine nrm_then (sim_seq ?_)
 refine sim_block ?_
 refine sim_seq (sim_region ?_)
 refine simL_val (q_move rfl rfl) rfl rfl rfl ?_
 refine simL_ask (fun hi8v => ?_)
 obtain ⟨b9v, b9vo, r12v, ha10v, hV13v, hlr14v, hcell15v⟩ := RdV.pos h0_0 (Up.refl _) rfl (i := s3v.toNat) (by omega) dz35
 obtain rfl := hV13v
 refine simL_val (q_idx rfl rfl rfl ha10v Try.underlying22 Try.sizeOf35 hi8v.1 hi8v.2) rfl rfl rfl ?_
 refine simL_val (q_loads rfl rfl Try.isAgg35 Try.sizeOf35 rfl (fun j v hj => hcell15v 2 rfl j v hj)) rfl rfl rfl ?_
 refine simL_eff (re_alloc rfl Try.zeroValue35 rfl) rfl rfl rfl ?_
 intro b16v
 refine simL_val (q_asg rfl rfl) rfl rfl rfl ?_
 refine simL_do (re_store 0 rfl rfl rfl Try.sizeOf35 rfl rfl (one_of (by rfl)) rfl rfl) rfl rfl ?_
 intro _
 refine simL_ent (H' := [obj b16v 35 [.int .i64 ((x0_0.getD s3v.toNat dz35).1), .int .i64 ((x0_0.getD s3v.toNat dz35).2.1), .int .i64 ((x0_0.getD s3v.toNat dz35).2.2.1), str ((x0_0.getD s3v.toNat dz35).2.2.2.1), str ((x0_0.getD s3v.toNat dz35).2.2.2.2.1), str ((x0_0.getD s3v.toNat dz35).2.2.2.2.2.1), .int .i64 ((x0_0.getD s3v.toNat dz35).2.2.2.2.2.2.1), .int .i64 ((x0_0.getD s3v.toNat dz35).2.2.2.2.2.2.2.1), .int .i64 ((x0_0.getD s3v.toNat dz35).2.2.2.2.2.2.2.2.1), str ((x0_0.getD s3v.toNat dz35).2.2.2.2.2.2.2.2.2)], obj b0 68 [.slice a0_0 x0_0.length c0_0, .map (some m0_1), .slice a0_2 x0_2.length c0_2], mapO m0_1 enc71 enc3 x0_1, F]) (Ent.refl _) ?_
 refine simL_nil (nrm_then (sim_seq (sim_region ?_)))
 refine simL_val (q_loado 0 rfl rfl Try.isAgg35 Try.sizeOf35 rfl rfl) rfl rfl rfl ?_
 refine simL_bind (fun s17v hs19v => ?_)
 refine simL_eff (re_call (vs := [.agg #[.int .i64 ((x0_0.getD s3v.toNat dz35).1), .int .i64 ((x0_0.getD s3v.toNat dz35).2.1), .int .i64 ((x0_0.getD s3v.toNat dz35).2.2.1), str ((x0_0.getD s3v.toNat dz35).2.2.2.1), str ((x0_0.getD s3v.toNat dz35).2.2.2.2.1), str ((x0_0.getD s3v.toNat dz35).2.2.2.2.2.1), .int .i64 ((x0_0.getD s3v.toNat dz35).2.2.2.2.2.2.1), .int .i64 ((x0_0.getD s3v.toNat dz35).2.2.2.2.2.2.2.1), .int .i64 ((x0_0.getD s3v.toNat dz35).2.2.2.2.2.2.2.2.1), str ((x0_0.getD s3v.toNat dz35).2.2.2.2.2.2.2.2.2)]]) (cap := []) (A := []) (rst := [obj b16v 35 [.int .i64 ((x0_0.getD s3v.toNat dz35).1), .int .i64 ((x0_0.getD s3v.toNat dz35).2.1), .int .i64 ((x0_0.getD s3v.toNat dz35).2.2.1), str ((x0_0.getD s3v.toNat dz35).2.2.2.1), str ((x0_0.getD s3v.toNat dz35).2.2.2.2.1), str ((x0_0.getD s3v.toNat dz35).2.2.2.2.2.1), .int .i64 ((x0_0.getD s3v.toNat dz35).2.2.2.2.2.2.1), .int .i64 ((x0_0.getD s3v.toNat dz35).2.2.2.2.2.2.2.1), .int .i64 ((x0_0.getD s3v.toNat dz35).2.2.2.2.2.2.2.2.1), str ((x0_0.getD s3v.toNat dz35).2.2.2.2.2.2.2.2.2)], obj b0 68 [.slice a0_0 x0_0.length c0_0, .map (some m0_1), .slice a0_2 x0_2.length c0_2], mapO m0_1 enc71 enc3 x0_1, F]) rfl rfl rfl rfl rfl rfl Try.call30 (.sel 0 rfl (.sel 0 rfl (.sel 0 rfl (.sel 0 rfl (.nil _))))) (lin_open.calls _ _ ((x0_0.getD s3v.toNat dz35).1) ((x0_0.getD s3v.toNat dz35).2.1) ((x0_0.getD s3v.toNat dz35).2.2.1) ((x0_0.getD s3v.toNat dz35).2.2.2.1) ((x0_0.getD s3v.toNat dz35).2.2.2.2.1) ((x0_0.getD s3v.toNat dz35).2.2.2.2.2.1) ((x0_0.getD s3v.toNat dz35).2.2.2.2.2.2.1) ((x0_0.getD s3v.toNat dz35).2.2.2.2.2.2.2.1) ((x0_0.getD s3v.toNat dz35).2.2.2.2.2.2.2.2.1) ((x0_0.getD s3v.toNat dz35).2.2.2.2.2.2.2.2.2) ) hs19v) rfl rfl rfl ?_
 intro y18v
 refine simL_val (q_not rfl rfl) rfl rfl rfl ?_
 refine simL_val (q_move rfl rfl) rfl rfl rfl ?_
 refine simL_cut' 6 (S := Bool) (Unit) (fun s y => [(1, .int .i64 x1), (10, .slice a0_0 x0_0.length c0_0), (11, .int .i64 (x0_0.length : Int)), (12, .int .i64 s3v), (26, .bool s)]) (fun s y => [obj b0 68 [.slice a0_0 x0_0.length c0_0, .map (some m0_1), .slice a0_2 x0_2.length c0_2], mapO m0_1 enc71 enc3 x0_1, F]) ?_ ?_
 refine simL_caseb (fun hb23v => ?_) (fun hb24v => ?_)
 rw [hb23v]
 refine simL_valg (q_move rfl rfl) rfl rfl rfl rfl rfl rfl ?_
 refine simL_valg (q_move rfl rfl) rfl rfl rfl rfl rfl rfl ?_
 refine simL_ask (fun hb22v => ?_)
 refine simL_valg (q_shl rfl rfl rfl hb22v) rfl rfl rfl rfl rfl rfl ?_
 refine simL_valg (q_and_ rfl rfl rfl) rfl rfl rfl rfl rfl rfl ?_
 refine simL_valg (q_eql rfl rfl rfl) rfl rfl rfl rfl rfl rfl ?_
 refine simL_val (q_pick rfl rfl rfl rfl rfl) rfl rfl rfl (simL_nil ?_)
 exact nrm_cut (s := decide (bitsV .and .i64 x1 (IntKind.i64.wrap (1 * 2 ^ (min s3v.toNat IntKind.i64.bits))) = (0 : Int))) () ⟨rfl, rfl, rfl, rfl, rfl, trivial⟩ (.sel 1 rfl (.sel 1 rfl (.sel 1 rfl (.nil _))))
 rw [hb24v]
 refine simL_skipd rfl rfl rfl rfl rfl rfl ?_
 refine simL_skipd rfl rfl rfl rfl rfl rfl ?_
 refine simL_skipd rfl rfl rfl rfl rfl rfl ?_
 refine simL_skipd rfl rfl rfl rfl rfl rfl ?_
 refine simL_skipd rfl rfl rfl rfl rfl rfl ?_
 refine simL_val (q_pick rfl rfl rfl rfl rfl) rfl rfl rfl (simL_nil ?_)
 exact nrm_cut (s := false) () ⟨rfl, rfl, rfl, rfl, rfl, trivial⟩ (.sel 1 rfl (.sel 1 rfl (.sel 1 rfl (.nil _))))
 intro s20v y21v
 refine simL_nil (nrm_then ?_)
 refine sim_condb rfl (fun h25v => ?_) (fun h26v => ?_)
 refine sim_seq (sim_region ?_)
 refine simL_val (q_asg rfl rfl) rfl rfl rfl (simL_nil (nrm_then (sim_rtn ?_)))
 refine rtn_block ?_
 refine rtn_then ?_
 refine rtn_loop ?_
 refine rtn_block ?_
 refine rtn_cutR ?_
 exact rtn_fn () rfl rfl rfl (.sel 0 rfl (.sel 0 rfl (.sel 0 rfl (.nil _))))
 refine sim_skip ?_
 refine nrm_block (nrm_then (sim_region ?_))
 refine simL_val (q_add rfl rfl rfl) rfl rfl rfl ?_
 refine simL_val (q_move rfl rfl) rfl rfl rfl (simL_nil ?_)
 exact nrm_again (s := IntKind.i64.wrap (s3v + 1)) () ⟨rfl, rfl, rfl, rfl, trivial⟩ (.sel 0 rfl (.sel 0 rfl (.sel 0 rfl (.nil _))))
 refine sim_exi ?_
 refine exi_then ?_
 refine exi_loop ?_
 refine exi_here ?_
 exact nrm_cutR (s := ()) () trivial (.sel 0 rfl (.sel 0 rfl (.sel 0 rfl (.nil _))))
 intro s1v y2v
 refine sim_seq (sim_region ?_)
 refine simL_val (q_asg rfl rfl) rfl rfl rfl (simL_nil (nrm_then (sim_rtn ?_)))
 exact rtn_fn () rfl rfl rfl (.sel 0 rfl (.sel 0 rfl (.sel 0 rfl (.nil _))))

def lin_search_may.l0 (x0_0 : List (Ty35)) (x1 : Int) (x2 : Int) : Nat → Int → Option ((Unit) ⊕ (Bool))
  | 0, _ => none
  | k + 1, z8v => if z8v < (x0_0.length : Int) then (if 0 ≤ z8v ∧ z8v < (x0_0.length : Int) then ((if (!(lin_open.v ((x0_0.getD z8v.toNat dz35).1) ((x0_0.getD z8v.toNat dz35).2.1) ((x0_0.getD z8v.toNat dz35).2.2.1) ((x0_0.getD z8v.toNat dz35).2.2.2.1) ((x0_0.getD z8v.toNat dz35).2.2.2.2.1) ((x0_0.getD z8v.toNat dz35).2.2.2.2.2.1) ((x0_0.getD z8v.toNat dz35).2.2.2.2.2.2.1) ((x0_0.getD z8v.toNat dz35).2.2.2.2.2.2.2.1) ((x0_0.getD z8v.toNat dz35).2.2.2.2.2.2.2.2.1) ((x0_0.getD z8v.toNat dz35).2.2.2.2.2.2.2.2.2))) = true then (if 0 ≤ z8v then (if bitsV .and .i64 x1 (IntKind.i64.wrap (1 * 2 ^ (min z8v.toNat IntKind.i64.bits))) = (0 : Int) then (if 0 ≤ x2 ∧ x2 < (x0_0.length : Int) then (some (decide ((x0_0.getD z8v.toNat dz35).2.2.2.2.2.2.2.1 < (x0_0.getD x2.toNat dz35).2.2.2.2.2.2.1))) else none) else (some false)) else none) else (some false)).bind fun s20v => (if s20v = true then (some (.inr false)) else (lin_search_may.l0 x0_0 x1 x2 k (IntKind.i64.wrap (z8v + 1))))) else none) else (some (.inl ()))
def lin_search_may.f (k : Nat) (x0_0 : List (Ty35)) (x0_1 : List ((Int × Bool × List UInt8) × (Int))) (x0_2 : List Int) (x1 : Int) (x2 : Int) : Option (Bool) := if 0 ≤ x2 then (if bitsV .and .i64 x1 (IntKind.i64.wrap (1 * 2 ^ (min x2.toNat IntKind.i64.bits))) = (0 : Int) then (orR (lin_search_may.l0 x0_0 x1 x2 k 0) fun s4v => (some true)) else (some false)) else none
theorem lin_search_may.calls (W : World) (F : HA) (k : Nat) (b0 : Nat) (a0_0 : Option Addr) (c0_0 : Nat) (x0_0 : List (Ty35)) (m0_1 : Nat) (x0_1 : List ((Int × Bool × List UInt8) × (Int))) (a0_2 : Option Addr) (c0_2 : Nat) (x0_2 : List Int) (x1 : Int) (x2 : Int) (h0_0 : RdV F 10 (V35 tt) a0_0 x0_0) (hc0_0 : x0_0.length ≤ c0_0) (hm0_0 : c0_0 ≤ maxLen) (h0_2 : RdV F 1 (V3 tt) a0_2 x0_2) (hc0_2 : x0_2.length ≤ c0_2) (hm0_2 : c0_2 ≤ maxLen) :
    Fn Try.prog W 43 [.pointer (some ⟨b0, 0, none⟩), .int .i64 x1, .int .i64 x2] [obj b0 68 [.slice a0_0 x0_0.length c0_0, .map (some m0_1), .slice a0_2 x0_2.length c0_2], mapO m0_1 enc71 enc3 x0_1] F (lin_search_may.f k x0_0 x0_1 x0_2 x1 x2) (fun (r : Bool) (y : Unit) => .bool r) (fun r y => [obj b0 68 [.slice a0_0 x0_0.length c0_0, .map (some m0_1), .slice a0_2 x0_2.length c0_2], mapO m0_1 enc71 enc3 x0_1]) := by
 unfold lin_search_may.f
 refine fn_intro 48 Try.func43 rfl Try.ntmps43 rfl ?_
 refine sim_seq (sim_region ?_)
 refine simL_val (q_asg rfl rfl) rfl rfl rfl (simL_nil (nrm_then (sim_seq (sim_seq (sim_region ?_)))))
 refine simL_val (q_move rfl rfl) rfl rfl rfl ?_
 refine simL_val (q_move rfl rfl) rfl rfl rfl ?_
 refine simL_ask (fun hb1v => ?_)
 refine simL_val (q_shl rfl rfl rfl hb1v) rfl rfl rfl ?_
 refine simL_val (q_and_ rfl rfl rfl) rfl rfl rfl ?_
 refine simL_val (q_neq rfl rfl rfl) rfl rfl rfl (simL_nil (nrm_then ?_))
 refine sim_condn rfl (fun h2v => ?_) (fun h3v => ?_)
 refine sim_skip ?_
 refine nrm_then ?_
 refine sim_cutR (S := Unit) (Unit) (fun s y => []) (fun s y => [obj b0 68 [.slice a0_0 x0_0.length c0_0, .map (some m0_1), .slice a0_2 x0_2.length c0_2], mapO m0_1 enc71 enc3 x0_1, F]) ?_ ?_
 refine sim_seq (sim_region ?_)
 refine simL_val (q_move rfl rfl) rfl rfl rfl ?_
 refine simL_val (q_nil rfl rfl) rfl rfl rfl ?_
 refine simL_val (q_fa rfl rfl Try.underlying68 rfl rfl Try.sizeOf22 rfl) rfl rfl rfl ?_
 refine simL_val (q_load rfl rfl Try.isAgg22 (.obj 0 rfl rfl)) rfl rfl rfl ?_
 refine simL_val (q_len rfl rfl rfl Try.underlying22) rfl rfl rfl ?_
 refine simL_val (q_move rfl rfl) rfl rfl rfl (simL_nil (nrm_then ?_))
 refine sim_block ?_
 refine sim_loop (S := Int) (Unit) (fun k s => lin_search_may.l0 x0_0 x1 x2 k s) (fun s y => [(0, .pointer (some ⟨b0, 0, none⟩)), (1, .int .i64 x1), (2, .int .i64 x2), (17, .slice a0_0 x0_0.length c0_0), (18, .int .i64 (x0_0.length : Int)), (19, .int .i64 s)]) (fun s y => [obj b0 68 [.slice a0_0 x0_0.length c0_0, .map (some m0_1), .slice a0_2 x0_2.length c0_2], mapO m0_1 enc71 enc3 x0_1, F]) (fun _ => by rw [lin_search_may.l0]) ?_ k 0 () ⟨rfl, rfl, rfl, rfl, rfl, rfl, trivial⟩ (.sel 0 rfl (.sel 0 rfl (.sel 0 rfl (.nil _))))
 intro k s6v y7v
 refine sim_eq (by rw [lin_search_may.l0]) ?_
 refine sim_seq (sim_region ?_)
 refine simL_val (q_lss rfl rfl rfl) rfl rfl rfl (simL_nil (nrm_then (sim_seq ?_)))
 refine sim_cond rfl (fun h9v => ?_) (fun h10v => ?_)
 refine sim_skip ?_
 refine nrm_then (sim_seq ?_)
 refine sim_block ?_
 refine sim_seq (sim_region ?_)
 refine simL_val (q_move rfl rfl) rfl rfl rfl ?_
 refine simL_ask (fun hi11v => ?_)
 obtain ⟨b12v, b12vo, r15v, ha13v, hV16v, hlr17v, hcell18v⟩ := RdV.pos h0_0 (Up.refl _) rfl (i := s6v.toNat) (by omega) dz35
 obtain rfl := hV16v
 refine simL_val (q_idx rfl rfl rfl ha13v Try.underlying22 Try.sizeOf35 hi11v.1 hi11v.2) rfl rfl rfl ?_
 refine simL_val (q_loads rfl rfl Try.isAgg35 Try.sizeOf35 rfl (fun j v hj => hcell18v 2 rfl j v hj)) rfl rfl rfl ?_
 refine simL_eff (re_alloc rfl Try.zeroValue35 rfl) rfl rfl rfl ?_
 intro b19v
 refine simL_val (q_asg rfl rfl) rfl rfl rfl ?_
 refine simL_do (re_store 0 rfl rfl rfl Try.sizeOf35 rfl rfl (one_of (by rfl)) rfl rfl) rfl rfl ?_
 intro _
 refine simL_ent (H' := [obj b19v 35 [.int .i64 ((x0_0.getD s6v.toNat dz35).1), .int .i64 ((x0_0.getD s6v.toNat dz35).2.1), .int .i64 ((x0_0.getD s6v.toNat dz35).2.2.1), str ((x0_0.getD s6v.toNat dz35).2.2.2.1), str ((x0_0.getD s6v.toNat dz35).2.2.2.2.1), str ((x0_0.getD s6v.toNat dz35).2.2.2.2.2.1), .int .i64 ((x0_0.getD s6v.toNat dz35).2.2.2.2.2.2.1), .int .i64 ((x0_0.getD s6v.toNat dz35).2.2.2.2.2.2.2.1), .int .i64 ((x0_0.getD s6v.toNat dz35).2.2.2.2.2.2.2.2.1), str ((x0_0.getD s6v.toNat dz35).2.2.2.2.2.2.2.2.2)], obj b0 68 [.slice a0_0 x0_0.length c0_0, .map (some m0_1), .slice a0_2 x0_2.length c0_2], mapO m0_1 enc71 enc3 x0_1, F]) (Ent.refl _) ?_
 refine simL_nil (nrm_then ?_)
 refine sim_cut (S := Bool) (Unit) (fun s y => [(0, .pointer (some ⟨b0, 0, none⟩)), (1, .int .i64 x1), (2, .int .i64 x2), (17, .slice a0_0 x0_0.length c0_0), (18, .int .i64 (x0_0.length : Int)), (19, .int .i64 s6v), (46, .bool s)]) (fun s y => [obj b0 68 [.slice a0_0 x0_0.length c0_0, .map (some m0_1), .slice a0_2 x0_2.length c0_2], mapO m0_1 enc71 enc3 x0_1, F]) ?_ ?_
 refine sim_if (fun hk25v => ?_) (fun hk25v => ?_)
 refine sim_ask (fun hb26v => ?_)
 refine sim_if (fun hk27v => ?_) (fun hk27v => ?_)
 refine sim_ask (fun hi28v => ?_)
 obtain ⟨b29v, b29vo, r32v, ha30v, hV33v, hlr34v, hcell35v⟩ := RdV.pos h0_0 (Up.refl _) rfl (i := x2.toNat) (by omega) dz35
 obtain rfl := hV33v
 refine sim_draw (Γ := Unit) () [[], [0], [0, 1], [0, 1, 2], [0, 1, 2, 3], [0, 1, 2, 3], [0, 1, 2, 3, 5], [0, 1, 2, 3, 4, 5, 6], [0, 1, 2, 3, 4, 5, 6, 7], [0, 1, 2, 3, 4, 5, 6, 7, 8], [0, 1, 2, 3, 4, 5, 6, 7, 8, 9], [0, 1, 2, 3, 4, 5, 6, 7, 8, 9, 10], [0, 1, 2, 3, 4, 5, 6, 7, 8, 9, 10, 11], [0, 1, 2, 3, 4, 5, 6, 7, 8, 9, 10], [0, 1, 2, 3, 4, 5, 6, 7, 8, 9, 10, 13], [0, 1, 2, 3, 4, 5, 6, 7, 8, 9, 10, 13, 14], [0, 1, 2, 3, 4, 5, 6, 7, 8, 9, 10, 13, 14, 15], [0, 1, 2, 3, 4, 5, 6, 7, 8, 9, 10], [0, 1, 2, 3, 4, 5, 6, 7, 8, 9, 10, 13, 14, 15, 16, 17], [0, 1, 2, 3, 4, 5, 6, 7, 8, 9, 10, 13, 14, 15, 16, 17, 18], [0, 1, 2, 3, 4, 5, 6, 7, 8, 9, 10, 13, 14, 15, 16, 17, 18, 19], [0, 1, 2, 3, 4, 5, 6, 7, 8, 9, 10, 11, 12, 13, 14, 15, 16, 17, 18, 19, 20], [0, 1, 2, 3, 4, 5, 6, 7, 8, 9, 10, 11, 12, 13, 14, 15, 16, 17, 18, 19, 20, 21]] [] [0, 1, 2, 3, 4, 5, 6, 7, 8, 9, 10, 11, 12, 13, 14, 15, 16, 17, 18, 19, 20, 21, 22] (fun i => [[0], [0], [0], [0], [0], [0], [0], [0], [0], [0], [0], [0], [0], [0], [0], [0], [0], [0], [0], [0], [0], [0], [0]].getD i []) (fun i => [[], [], [], [], [], [], [], [], [], [], [], [], [], [], [], [], [], [], [], [], [], [], []].getD i []) (fun γ i => [.agg #[.int .i64 ((x0_0.getD s6v.toNat dz35).1), .int .i64 ((x0_0.getD s6v.toNat dz35).2.1), .int .i64 ((x0_0.getD s6v.toNat dz35).2.2.1), str ((x0_0.getD s6v.toNat dz35).2.2.2.1), str ((x0_0.getD s6v.toNat dz35).2.2.2.2.1), str ((x0_0.getD s6v.toNat dz35).2.2.2.2.2.1), .int .i64 ((x0_0.getD s6v.toNat dz35).2.2.2.2.2.2.1), .int .i64 ((x0_0.getD s6v.toNat dz35).2.2.2.2.2.2.2.1), .int .i64 ((x0_0.getD s6v.toNat dz35).2.2.2.2.2.2.2.2.1), str ((x0_0.getD s6v.toNat dz35).2.2.2.2.2.2.2.2.2)], .bool (lin_open.v ((x0_0.getD s6v.toNat dz35).1) ((x0_0.getD s6v.toNat dz35).2.1) ((x0_0.getD s6v.toNat dz35).2.2.1) ((x0_0.getD s6v.toNat dz35).2.2.2.1) ((x0_0.getD s6v.toNat dz35).2.2.2.2.1) ((x0_0.getD s6v.toNat dz35).2.2.2.2.2.1) ((x0_0.getD s6v.toNat dz35).2.2.2.2.2.2.1) ((x0_0.getD s6v.toNat dz35).2.2.2.2.2.2.2.1) ((x0_0.getD s6v.toNat dz35).2.2.2.2.2.2.2.2.1) ((x0_0.getD s6v.toNat dz35).2.2.2.2.2.2.2.2.2)), .bool (!(lin_open.v ((x0_0.getD s6v.toNat dz35).1) ((x0_0.getD s6v.toNat dz35).2.1) ((x0_0.getD s6v.toNat dz35).2.2.1) ((x0_0.getD s6v.toNat dz35).2.2.2.1) ((x0_0.getD s6v.toNat dz35).2.2.2.2.1) ((x0_0.getD s6v.toNat dz35).2.2.2.2.2.1) ((x0_0.getD s6v.toNat dz35).2.2.2.2.2.2.1) ((x0_0.getD s6v.toNat dz35).2.2.2.2.2.2.2.1) ((x0_0.getD s6v.toNat dz35).2.2.2.2.2.2.2.2.1) ((x0_0.getD s6v.toNat dz35).2.2.2.2.2.2.2.2.2))), .bool (!(lin_open.v ((x0_0.getD s6v.toNat dz35).1) ((x0_0.getD s6v.toNat dz35).2.1) ((x0_0.getD s6v.toNat dz35).2.2.1) ((x0_0.getD s6v.toNat dz35).2.2.2.1) ((x0_0.getD s6v.toNat dz35).2.2.2.2.1) ((x0_0.getD s6v.toNat dz35).2.2.2.2.2.1) ((x0_0.getD s6v.toNat dz35).2.2.2.2.2.2.1) ((x0_0.getD s6v.toNat dz35).2.2.2.2.2.2.2.1) ((x0_0.getD s6v.toNat dz35).2.2.2.2.2.2.2.2.1) ((x0_0.getD s6v.toNat dz35).2.2.2.2.2.2.2.2.2))), .int .i64 x1, .int .i64 s6v, .int .i64 (IntKind.i64.wrap (1 * 2 ^ (min s6v.toNat IntKind.i64.bits))), .int .i64 (bitsV .and .i64 x1 (IntKind.i64.wrap (1 * 2 ^ (min s6v.toNat IntKind.i64.bits)))), .bool (decide (bitsV .and .i64 x1 (IntKind.i64.wrap (1 * 2 ^ (min s6v.toNat IntKind.i64.bits))) = (0 : Int))), .bool (decide (bitsV .and .i64 x1 (IntKind.i64.wrap (1 * 2 ^ (min s6v.toNat IntKind.i64.bits))) = (0 : Int))), .bool (decide (bitsV .and .i64 x1 (IntKind.i64.wrap (1 * 2 ^ (min s6v.toNat IntKind.i64.bits))) = (0 : Int))), .pointer (some ⟨b19v, 7, none⟩), .int .i64 ((x0_0.getD s6v.toNat dz35).2.2.2.2.2.2.2.1), .pointer (some ⟨b0, 0, none⟩), .pointer (some ⟨b0, 0, none⟩), .pointer (some ⟨b0, 0, none⟩), .slice a0_0 x0_0.length c0_0, .int .i64 x2, .pointer (some ⟨b29v, b29vo + x2.toNat * 10, none⟩), .pointer (some ⟨b29v, b29vo + x2.toNat * 10 + 6, none⟩), .int .i64 ((x0_0.getD x2.toNat dz35).2.2.2.2.2.2.1), .bool (decide ((x0_0.getD s6v.toNat dz35).2.2.2.2.2.2.2.1 < (x0_0.getD x2.toNat dz35).2.2.2.2.2.2.1)), .bool (decide ((x0_0.getD s6v.toNat dz35).2.2.2.2.2.2.2.1 < (x0_0.getD x2.toNat dz35).2.2.2.2.2.2.1))].getD i undef) (fun j γ => [[obj b19v 35 [.int .i64 ((x0_0.getD s6v.toNat dz35).1), .int .i64 ((x0_0.getD s6v.toNat dz35).2.1), .int .i64 ((x0_0.getD s6v.toNat dz35).2.2.1), str ((x0_0.getD s6v.toNat dz35).2.2.2.1), str ((x0_0.getD s6v.toNat dz35).2.2.2.2.1), str ((x0_0.getD s6v.toNat dz35).2.2.2.2.2.1), .int .i64 ((x0_0.getD s6v.toNat dz35).2.2.2.2.2.2.1), .int .i64 ((x0_0.getD s6v.toNat dz35).2.2.2.2.2.2.2.1), .int .i64 ((x0_0.getD s6v.toNat dz35).2.2.2.2.2.2.2.2.1), str ((x0_0.getD s6v.toNat dz35).2.2.2.2.2.2.2.2.2)], obj b0 68 [.slice a0_0 x0_0.length c0_0, .map (some m0_1), .slice a0_2 x0_2.length c0_2], mapO m0_1 enc71 enc3 x0_1, F]].getD j []) (fun γ => [(0, .pointer (some ⟨b0, 0, none⟩)), (1, .int .i64 x1), (2, .int .i64 x2), (17, .slice a0_0 x0_0.length c0_0), (18, .int .i64 (x0_0.length : Int)), (19, .int .i64 s6v), (28, .int .i64 x1), (29, .int .i64 s6v), (30, .int .i64 (IntKind.i64.wrap (1 * 2 ^ (min s6v.toNat IntKind.i64.bits)))), (31, .int .i64 (bitsV .and .i64 x1 (IntKind.i64.wrap (1 * 2 ^ (min s6v.toNat IntKind.i64.bits))))), (32, .bool (decide (bitsV .and .i64 x1 (IntKind.i64.wrap (1 * 2 ^ (min s6v.toNat IntKind.i64.bits))) = (0 : Int)))), (35, .pointer (some ⟨b19v, 7, none⟩)), (36, .int .i64 ((x0_0.getD s6v.toNat dz35).2.2.2.2.2.2.2.1)), (37, .pointer (some ⟨b0, 0, none⟩)), (38, .pointer (some ⟨b0, 0, none⟩)), (39, .pointer (some ⟨b0, 0, none⟩)), (40, .slice a0_0 x0_0.length c0_0), (41, .int .i64 x2), (42, .pointer (some ⟨b29v, b29vo + x2.toNat * 10, none⟩)), (43, .pointer (some ⟨b29v, b29vo + x2.toNat * 10 + 6, none⟩)), (44, .int .i64 ((x0_0.getD x2.toNat dz35).2.2.2.2.2.2.1)), (45, .bool (decide ((x0_0.getD s6v.toNat dz35).2.2.2.2.2.2.2.1 < (x0_0.getD x2.toNat dz35).2.2.2.2.2.2.1))), (46, .bool (decide ((x0_0.getD s6v.toNat dz35).2.2.2.2.2.2.2.1 < (x0_0.getD x2.toNat dz35).2.2.2.2.2.2.1)))]) mixed (by decide) (by decide) (by decide) (by decide) (by decide) (by decide) (by decide) 48 rfl (by decide) (by decide) (by decide) (Ent.refl _) ?_ ?_ (fun _ => ⟨rfl, rfl, rfl, rfl, rfl, rfl, rfl, rfl, rfl, rfl, rfl, rfl, rfl, rfl, rfl, rfl, rfl, rfl, rfl, rfl, rfl, rfl, rfl, trivial⟩) ?_
 exact (All.cons (fun γ => (All.cons (QOb.plain [(8, .pointer (some ⟨b19v, 0, none⟩))] rfl rfl (.o rfl (by decide) .nil) (q_loado 0 rfl rfl Try.isAgg35 Try.sizeOf35 rfl rfl) rfl) All.nil)) (All.cons (fun γ => (All.cons (QOb.plain [(24, .agg #[.int .i64 ((x0_0.getD s6v.toNat dz35).1), .int .i64 ((x0_0.getD s6v.toNat dz35).2.1), .int .i64 ((x0_0.getD s6v.toNat dz35).2.2.1), str ((x0_0.getD s6v.toNat dz35).2.2.2.1), str ((x0_0.getD s6v.toNat dz35).2.2.2.2.1), str ((x0_0.getD s6v.toNat dz35).2.2.2.2.2.1), .int .i64 ((x0_0.getD s6v.toNat dz35).2.2.2.2.2.2.1), .int .i64 ((x0_0.getD s6v.toNat dz35).2.2.2.2.2.2.2.1), .int .i64 ((x0_0.getD s6v.toNat dz35).2.2.2.2.2.2.2.2.1), str ((x0_0.getD s6v.toNat dz35).2.2.2.2.2.2.2.2.2)])] rfl rfl (.w 0 rfl rfl rfl .nil) (RE.rq (re_call (vs := [.agg #[.int .i64 ((x0_0.getD s6v.toNat dz35).1), .int .i64 ((x0_0.getD s6v.toNat dz35).2.1), .int .i64 ((x0_0.getD s6v.toNat dz35).2.2.1), str ((x0_0.getD s6v.toNat dz35).2.2.2.1), str ((x0_0.getD s6v.toNat dz35).2.2.2.2.1), str ((x0_0.getD s6v.toNat dz35).2.2.2.2.2.1), .int .i64 ((x0_0.getD s6v.toNat dz35).2.2.2.2.2.2.1), .int .i64 ((x0_0.getD s6v.toNat dz35).2.2.2.2.2.2.2.1), .int .i64 ((x0_0.getD s6v.toNat dz35).2.2.2.2.2.2.2.2.1), str ((x0_0.getD s6v.toNat dz35).2.2.2.2.2.2.2.2.2)]]) (cap := []) (A := []) (rst := [obj b19v 35 [.int .i64 ((x0_0.getD s6v.toNat dz35).1), .int .i64 ((x0_0.getD s6v.toNat dz35).2.1), .int .i64 ((x0_0.getD s6v.toNat dz35).2.2.1), str ((x0_0.getD s6v.toNat dz35).2.2.2.1), str ((x0_0.getD s6v.toNat dz35).2.2.2.2.1), str ((x0_0.getD s6v.toNat dz35).2.2.2.2.2.1), .int .i64 ((x0_0.getD s6v.toNat dz35).2.2.2.2.2.2.1), .int .i64 ((x0_0.getD s6v.toNat dz35).2.2.2.2.2.2.2.1), .int .i64 ((x0_0.getD s6v.toNat dz35).2.2.2.2.2.2.2.2.1), str ((x0_0.getD s6v.toNat dz35).2.2.2.2.2.2.2.2.2)], obj b0 68 [.slice a0_0 x0_0.length c0_0, .map (some m0_1), .slice a0_2 x0_2.length c0_2], mapO m0_1 enc71 enc3 x0_1, F]) rfl rfl rfl rfl rfl rfl Try.call30 (.sel 0 rfl (.sel 0 rfl (.sel 0 rfl (.sel 0 rfl (.nil _))))) (lin_open.calls _ _ ((x0_0.getD s6v.toNat dz35).1) ((x0_0.getD s6v.toNat dz35).2.1) ((x0_0.getD s6v.toNat dz35).2.2.1) ((x0_0.getD s6v.toNat dz35).2.2.2.1) ((x0_0.getD s6v.toNat dz35).2.2.2.2.1) ((x0_0.getD s6v.toNat dz35).2.2.2.2.2.1) ((x0_0.getD s6v.toNat dz35).2.2.2.2.2.2.1) ((x0_0.getD s6v.toNat dz35).2.2.2.2.2.2.2.1) ((x0_0.getD s6v.toNat dz35).2.2.2.2.2.2.2.2.1) ((x0_0.getD s6v.toNat dz35).2.2.2.2.2.2.2.2.2) ) (lin_open.tot ((x0_0.getD s6v.toNat dz35).1) ((x0_0.getD s6v.toNat dz35).2.1) ((x0_0.getD s6v.toNat dz35).2.2.1) ((x0_0.getD s6v.toNat dz35).2.2.2.1) ((x0_0.getD s6v.toNat dz35).2.2.2.2.1) ((x0_0.getD s6v.toNat dz35).2.2.2.2.2.1) ((x0_0.getD s6v.toNat dz35).2.2.2.2.2.2.1) ((x0_0.getD s6v.toNat dz35).2.2.2.2.2.2.2.1) ((x0_0.getD s6v.toNat dz35).2.2.2.2.2.2.2.2.1) ((x0_0.getD s6v.toNat dz35).2.2.2.2.2.2.2.2.2))) (fun _ => rfl) (fun _ => (.sel 0 rfl (.sel 0 rfl (.sel 0 rfl (.sel 0 rfl (.nil _))))))) rfl) All.nil)) (All.cons (fun γ => (All.cons (QOb.plain [(25, .bool (lin_open.v ((x0_0.getD s6v.toNat dz35).1) ((x0_0.getD s6v.toNat dz35).2.1) ((x0_0.getD s6v.toNat dz35).2.2.1) ((x0_0.getD s6v.toNat dz35).2.2.2.1) ((x0_0.getD s6v.toNat dz35).2.2.2.2.1) ((x0_0.getD s6v.toNat dz35).2.2.2.2.2.1) ((x0_0.getD s6v.toNat dz35).2.2.2.2.2.2.1) ((x0_0.getD s6v.toNat dz35).2.2.2.2.2.2.2.1) ((x0_0.getD s6v.toNat dz35).2.2.2.2.2.2.2.2.1) ((x0_0.getD s6v.toNat dz35).2.2.2.2.2.2.2.2.2)))] rfl rfl (.w 1 rfl rfl rfl .nil) (q_not rfl rfl) rfl) All.nil)) (All.cons (fun γ => (All.cons (QOb.plain [(26, .bool (!(lin_open.v ((x0_0.getD s6v.toNat dz35).1) ((x0_0.getD s6v.toNat dz35).2.1) ((x0_0.getD s6v.toNat dz35).2.2.1) ((x0_0.getD s6v.toNat dz35).2.2.2.1) ((x0_0.getD s6v.toNat dz35).2.2.2.2.1) ((x0_0.getD s6v.toNat dz35).2.2.2.2.2.1) ((x0_0.getD s6v.toNat dz35).2.2.2.2.2.2.1) ((x0_0.getD s6v.toNat dz35).2.2.2.2.2.2.2.1) ((x0_0.getD s6v.toNat dz35).2.2.2.2.2.2.2.2.1) ((x0_0.getD s6v.toNat dz35).2.2.2.2.2.2.2.2.2))))] rfl rfl (.w 2 rfl rfl rfl .nil) (q_move rfl rfl) rfl) All.nil)) (All.cons (fun γ => (All.cons (QOb.yes (b := !(lin_open.v ((x0_0.getD s6v.toNat dz35).1) ((x0_0.getD s6v.toNat dz35).2.1) ((x0_0.getD s6v.toNat dz35).2.2.1) ((x0_0.getD s6v.toNat dz35).2.2.2.1) ((x0_0.getD s6v.toNat dz35).2.2.2.2.1) ((x0_0.getD s6v.toNat dz35).2.2.2.2.2.1) ((x0_0.getD s6v.toNat dz35).2.2.2.2.2.2.1) ((x0_0.getD s6v.toNat dz35).2.2.2.2.2.2.2.1) ((x0_0.getD s6v.toNat dz35).2.2.2.2.2.2.2.2.1) ((x0_0.getD s6v.toNat dz35).2.2.2.2.2.2.2.2.2))) [(1, .int .i64 x1), (27, .bool (!(lin_open.v ((x0_0.getD s6v.toNat dz35).1) ((x0_0.getD s6v.toNat dz35).2.1) ((x0_0.getD s6v.toNat dz35).2.2.1) ((x0_0.getD s6v.toNat dz35).2.2.2.1) ((x0_0.getD s6v.toNat dz35).2.2.2.2.1) ((x0_0.getD s6v.toNat dz35).2.2.2.2.2.1) ((x0_0.getD s6v.toNat dz35).2.2.2.2.2.2.1) ((x0_0.getD s6v.toNat dz35).2.2.2.2.2.2.2.1) ((x0_0.getD s6v.toNat dz35).2.2.2.2.2.2.2.2.1) ((x0_0.getD s6v.toNat dz35).2.2.2.2.2.2.2.2.2))))] rfl rfl rfl rfl (beq_yes hk25v) (.o rfl (by decide) (.w 3 rfl rfl rfl .nil)) (q_move rfl rfl) rfl) All.nil)) (All.cons (fun γ => (All.cons (QOb.yes (b := !(lin_open.v ((x0_0.getD s6v.toNat dz35).1) ((x0_0.getD s6v.toNat dz35).2.1) ((x0_0.getD s6v.toNat dz35).2.2.1) ((x0_0.getD s6v.toNat dz35).2.2.2.1) ((x0_0.getD s6v.toNat dz35).2.2.2.2.1) ((x0_0.getD s6v.toNat dz35).2.2.2.2.2.1) ((x0_0.getD s6v.toNat dz35).2.2.2.2.2.2.1) ((x0_0.getD s6v.toNat dz35).2.2.2.2.2.2.2.1) ((x0_0.getD s6v.toNat dz35).2.2.2.2.2.2.2.2.1) ((x0_0.getD s6v.toNat dz35).2.2.2.2.2.2.2.2.2))) [(7, .int .i64 s6v), (27, .bool (!(lin_open.v ((x0_0.getD s6v.toNat dz35).1) ((x0_0.getD s6v.toNat dz35).2.1) ((x0_0.getD s6v.toNat dz35).2.2.1) ((x0_0.getD s6v.toNat dz35).2.2.2.1) ((x0_0.getD s6v.toNat dz35).2.2.2.2.1) ((x0_0.getD s6v.toNat dz35).2.2.2.2.2.1) ((x0_0.getD s6v.toNat dz35).2.2.2.2.2.2.1) ((x0_0.getD s6v.toNat dz35).2.2.2.2.2.2.2.1) ((x0_0.getD s6v.toNat dz35).2.2.2.2.2.2.2.2.1) ((x0_0.getD s6v.toNat dz35).2.2.2.2.2.2.2.2.2))))] rfl rfl rfl rfl (beq_yes hk25v) (.o rfl (by decide) (.w 3 rfl rfl rfl .nil)) (q_move rfl rfl) rfl) All.nil)) (All.cons (fun γ => (All.cons (QOb.yes (b := !(lin_open.v ((x0_0.getD s6v.toNat dz35).1) ((x0_0.getD s6v.toNat dz35).2.1) ((x0_0.getD s6v.toNat dz35).2.2.1) ((x0_0.getD s6v.toNat dz35).2.2.2.1) ((x0_0.getD s6v.toNat dz35).2.2.2.2.1) ((x0_0.getD s6v.toNat dz35).2.2.2.2.2.1) ((x0_0.getD s6v.toNat dz35).2.2.2.2.2.2.1) ((x0_0.getD s6v.toNat dz35).2.2.2.2.2.2.2.1) ((x0_0.getD s6v.toNat dz35).2.2.2.2.2.2.2.2.1) ((x0_0.getD s6v.toNat dz35).2.2.2.2.2.2.2.2.2))) [(27, .bool (!(lin_open.v ((x0_0.getD s6v.toNat dz35).1) ((x0_0.getD s6v.toNat dz35).2.1) ((x0_0.getD s6v.toNat dz35).2.2.1) ((x0_0.getD s6v.toNat dz35).2.2.2.1) ((x0_0.getD s6v.toNat dz35).2.2.2.2.1) ((x0_0.getD s6v.toNat dz35).2.2.2.2.2.1) ((x0_0.getD s6v.toNat dz35).2.2.2.2.2.2.1) ((x0_0.getD s6v.toNat dz35).2.2.2.2.2.2.2.1) ((x0_0.getD s6v.toNat dz35).2.2.2.2.2.2.2.2.1) ((x0_0.getD s6v.toNat dz35).2.2.2.2.2.2.2.2.2)))), (29, .int .i64 s6v)] rfl rfl rfl rfl (beq_yes hk25v) (.w 3 rfl rfl rfl (.w 5 rfl rfl rfl .nil)) (q_shl rfl rfl rfl hb26v) rfl) All.nil)) (All.cons (fun γ => (All.cons (QOb.yes (b := !(lin_open.v ((x0_0.getD s6v.toNat dz35).1) ((x0_0.getD s6v.toNat dz35).2.1) ((x0_0.getD s6v.toNat dz35).2.2.1) ((x0_0.getD s6v.toNat dz35).2.2.2.1) ((x0_0.getD s6v.toNat dz35).2.2.2.2.1) ((x0_0.getD s6v.toNat dz35).2.2.2.2.2.1) ((x0_0.getD s6v.toNat dz35).2.2.2.2.2.2.1) ((x0_0.getD s6v.toNat dz35).2.2.2.2.2.2.2.1) ((x0_0.getD s6v.toNat dz35).2.2.2.2.2.2.2.2.1) ((x0_0.getD s6v.toNat dz35).2.2.2.2.2.2.2.2.2))) [(27, .bool (!(lin_open.v ((x0_0.getD s6v.toNat dz35).1) ((x0_0.getD s6v.toNat dz35).2.1) ((x0_0.getD s6v.toNat dz35).2.2.1) ((x0_0.getD s6v.toNat dz35).2.2.2.1) ((x0_0.getD s6v.toNat dz35).2.2.2.2.1) ((x0_0.getD s6v.toNat dz35).2.2.2.2.2.1) ((x0_0.getD s6v.toNat dz35).2.2.2.2.2.2.1) ((x0_0.getD s6v.toNat dz35).2.2.2.2.2.2.2.1) ((x0_0.getD s6v.toNat dz35).2.2.2.2.2.2.2.2.1) ((x0_0.getD s6v.toNat dz35).2.2.2.2.2.2.2.2.2)))), (28, .int .i64 x1), (30, .int .i64 (IntKind.i64.wrap (1 * 2 ^ (min s6v.toNat IntKind.i64.bits))))] rfl rfl rfl rfl (beq_yes hk25v) (.w 3 rfl rfl rfl (.w 4 rfl rfl rfl (.w 6 rfl rfl rfl .nil))) (q_and_ rfl rfl rfl) rfl) All.nil)) (All.cons (fun γ => (All.cons (QOb.yes (b := !(lin_open.v ((x0_0.getD s6v.toNat dz35).1) ((x0_0.getD s6v.toNat dz35).2.1) ((x0_0.getD s6v.toNat dz35).2.2.1) ((x0_0.getD s6v.toNat dz35).2.2.2.1) ((x0_0.getD s6v.toNat dz35).2.2.2.2.1) ((x0_0.getD s6v.toNat dz35).2.2.2.2.2.1) ((x0_0.getD s6v.toNat dz35).2.2.2.2.2.2.1) ((x0_0.getD s6v.toNat dz35).2.2.2.2.2.2.2.1) ((x0_0.getD s6v.toNat dz35).2.2.2.2.2.2.2.2.1) ((x0_0.getD s6v.toNat dz35).2.2.2.2.2.2.2.2.2))) [(27, .bool (!(lin_open.v ((x0_0.getD s6v.toNat dz35).1) ((x0_0.getD s6v.toNat dz35).2.1) ((x0_0.getD s6v.toNat dz35).2.2.1) ((x0_0.getD s6v.toNat dz35).2.2.2.1) ((x0_0.getD s6v.toNat dz35).2.2.2.2.1) ((x0_0.getD s6v.toNat dz35).2.2.2.2.2.1) ((x0_0.getD s6v.toNat dz35).2.2.2.2.2.2.1) ((x0_0.getD s6v.toNat dz35).2.2.2.2.2.2.2.1) ((x0_0.getD s6v.toNat dz35).2.2.2.2.2.2.2.2.1) ((x0_0.getD s6v.toNat dz35).2.2.2.2.2.2.2.2.2)))), (31, .int .i64 (bitsV .and .i64 x1 (IntKind.i64.wrap (1 * 2 ^ (min s6v.toNat IntKind.i64.bits)))))] rfl rfl rfl rfl (beq_yes hk25v) (.w 3 rfl rfl rfl (.w 7 rfl rfl rfl .nil)) (q_eql rfl rfl rfl) rfl) All.nil)) (All.cons (fun γ => (All.cons (QOb.plain [(27, .bool (!(lin_open.v ((x0_0.getD s6v.toNat dz35).1) ((x0_0.getD s6v.toNat dz35).2.1) ((x0_0.getD s6v.toNat dz35).2.2.1) ((x0_0.getD s6v.toNat dz35).2.2.2.1) ((x0_0.getD s6v.toNat dz35).2.2.2.2.1) ((x0_0.getD s6v.toNat dz35).2.2.2.2.2.1) ((x0_0.getD s6v.toNat dz35).2.2.2.2.2.2.1) ((x0_0.getD s6v.toNat dz35).2.2.2.2.2.2.2.1) ((x0_0.getD s6v.toNat dz35).2.2.2.2.2.2.2.2.1) ((x0_0.getD s6v.toNat dz35).2.2.2.2.2.2.2.2.2)))), (32, .bool (decide (bitsV .and .i64 x1 (IntKind.i64.wrap (1 * 2 ^ (min s6v.toNat IntKind.i64.bits))) = (0 : Int))))] rfl rfl (.w 3 rfl rfl rfl (.w 8 rfl rfl rfl .nil)) (q_pick rfl rfl rfl rfl (bif_yes hk25v _ _)) rfl) All.nil)) (All.cons (fun γ => (All.cons (QOb.plain [(33, .bool (decide (bitsV .and .i64 x1 (IntKind.i64.wrap (1 * 2 ^ (min s6v.toNat IntKind.i64.bits))) = (0 : Int))))] rfl rfl (.w 9 rfl rfl rfl .nil) (q_move rfl rfl) rfl) All.nil)) (All.cons (fun γ => (All.cons (QOb.yes (b := decide (bitsV .and .i64 x1 (IntKind.i64.wrap (1 * 2 ^ (min s6v.toNat IntKind.i64.bits))) = (0 : Int))) [(8, .pointer (some ⟨b19v, 0, none⟩)), (34, .bool (decide (bitsV .and .i64 x1 (IntKind.i64.wrap (1 * 2 ^ (min s6v.toNat IntKind.i64.bits))) = (0 : Int))))] rfl rfl rfl rfl (beq_yes (decide_eq_true hk27v)) (.o rfl (by decide) (.w 10 rfl rfl rfl .nil)) (q_fa rfl rfl Try.underlying35 rfl rfl Try.sizeOf3 rfl) rfl) All.nil)) (All.cons (fun γ => (All.cons (QOb.yes (b := decide (bitsV .and .i64 x1 (IntKind.i64.wrap (1 * 2 ^ (min s6v.toNat IntKind.i64.bits))) = (0 : Int))) [(34, .bool (decide (bitsV .and .i64 x1 (IntKind.i64.wrap (1 * 2 ^ (min s6v.toNat IntKind.i64.bits))) = (0 : Int)))), (35, .pointer (some ⟨b19v, 7, none⟩))] rfl rfl rfl rfl (beq_yes (decide_eq_true hk27v)) (.w 10 rfl rfl rfl (.w 11 rfl rfl rfl .nil)) (q_load rfl rfl Try.isAgg3 (.obj 0 rfl rfl)) rfl) All.nil)) (All.cons (fun γ => (All.cons (QOb.yes (b := decide (bitsV .and .i64 x1 (IntKind.i64.wrap (1 * 2 ^ (min s6v.toNat IntKind.i64.bits))) = (0 : Int))) [(0, .pointer (some ⟨b0, 0, none⟩)), (34, .bool (decide (bitsV .and .i64 x1 (IntKind.i64.wrap (1 * 2 ^ (min s6v.toNat IntKind.i64.bits))) = (0 : Int))))] rfl rfl rfl rfl (beq_yes (decide_eq_true hk27v)) (.o rfl (by decide) (.w 10 rfl rfl rfl .nil)) (q_move rfl rfl) rfl) All.nil)) (All.cons (fun γ => (All.cons (QOb.yes (b := decide (bitsV .and .i64 x1 (IntKind.i64.wrap (1 * 2 ^ (min s6v.toNat IntKind.i64.bits))) = (0 : Int))) [(34, .bool (decide (bitsV .and .i64 x1 (IntKind.i64.wrap (1 * 2 ^ (min s6v.toNat IntKind.i64.bits))) = (0 : Int)))), (37, .pointer (some ⟨b0, 0, none⟩))] rfl rfl rfl rfl (beq_yes (decide_eq_true hk27v)) (.w 10 rfl rfl rfl (.w 13 rfl rfl rfl .nil)) (q_nil rfl rfl) rfl) All.nil)) (All.cons (fun γ => (All.cons (QOb.yes (b := decide (bitsV .and .i64 x1 (IntKind.i64.wrap (1 * 2 ^ (min s6v.toNat IntKind.i64.bits))) = (0 : Int))) [(34, .bool (decide (bitsV .and .i64 x1 (IntKind.i64.wrap (1 * 2 ^ (min s6v.toNat IntKind.i64.bits))) = (0 : Int)))), (38, .pointer (some ⟨b0, 0, none⟩))] rfl rfl rfl rfl (beq_yes (decide_eq_true hk27v)) (.w 10 rfl rfl rfl (.w 14 rfl rfl rfl .nil)) (q_fa rfl rfl Try.underlying68 rfl rfl Try.sizeOf22 rfl) rfl) All.nil)) (All.cons (fun γ => (All.cons (QOb.yes (b := decide (bitsV .and .i64 x1 (IntKind.i64.wrap (1 * 2 ^ (min s6v.toNat IntKind.i64.bits))) = (0 : Int))) [(34, .bool (decide (bitsV .and .i64 x1 (IntKind.i64.wrap (1 * 2 ^ (min s6v.toNat IntKind.i64.bits))) = (0 : Int)))), (39, .pointer (some ⟨b0, 0, none⟩))] rfl rfl rfl rfl (beq_yes (decide_eq_true hk27v)) (.w 10 rfl rfl rfl (.w 15 rfl rfl rfl .nil)) (q_load rfl rfl Try.isAgg22 (.obj 1 rfl rfl)) rfl) All.nil)) (All.cons (fun γ => (All.cons (QOb.yes (b := decide (bitsV .and .i64 x1 (IntKind.i64.wrap (1 * 2 ^ (min s6v.toNat IntKind.i64.bits))) = (0 : Int))) [(2, .int .i64 x2), (34, .bool (decide (bitsV .and .i64 x1 (IntKind.i64.wrap (1 * 2 ^ (min s6v.toNat IntKind.i64.bits))) = (0 : Int))))] rfl rfl rfl rfl (beq_yes (decide_eq_true hk27v)) (.o rfl (by decide) (.w 10 rfl rfl rfl .nil)) (q_move rfl rfl) rfl) All.nil)) (All.cons (fun γ => (All.cons (QOb.yes (b := decide (bitsV .and .i64 x1 (IntKind.i64.wrap (1 * 2 ^ (min s6v.toNat IntKind.i64.bits))) = (0 : Int))) [(34, .bool (decide (bitsV .and .i64 x1 (IntKind.i64.wrap (1 * 2 ^ (min s6v.toNat IntKind.i64.bits))) = (0 : Int)))), (40, .slice a0_0 x0_0.length c0_0), (41, .int .i64 x2)] rfl rfl rfl rfl (beq_yes (decide_eq_true hk27v)) (.w 10 rfl rfl rfl (.w 16 rfl rfl rfl (.w 17 rfl rfl rfl .nil))) (q_idx rfl rfl rfl ha30v Try.underlying22 Try.sizeOf35 hi28v.1 hi28v.2) rfl) All.nil)) (All.cons (fun γ => (All.cons (QOb.yes (b := decide (bitsV .and .i64 x1 (IntKind.i64.wrap (1 * 2 ^ (min s6v.toNat IntKind.i64.bits))) = (0 : Int))) [(34, .bool (decide (bitsV .and .i64 x1 (IntKind.i64.wrap (1 * 2 ^ (min s6v.toNat IntKind.i64.bits))) = (0 : Int)))), (42, .pointer (some ⟨b29v, b29vo + x2.toNat * 10, none⟩))] rfl rfl rfl rfl (beq_yes (decide_eq_true hk27v)) (.w 10 rfl rfl rfl (.w 18 rfl rfl rfl .nil)) (q_fa rfl rfl Try.underlying35 rfl rfl Try.sizeOf3 rfl) rfl) All.nil)) (All.cons (fun γ => (All.cons (QOb.yes (b := decide (bitsV .and .i64 x1 (IntKind.i64.wrap (1 * 2 ^ (min s6v.toNat IntKind.i64.bits))) = (0 : Int))) [(34, .bool (decide (bitsV .and .i64 x1 (IntKind.i64.wrap (1 * 2 ^ (min s6v.toNat IntKind.i64.bits))) = (0 : Int)))), (43, .pointer (some ⟨b29v, b29vo + x2.toNat * 10 + 6, none⟩))] rfl rfl rfl rfl (beq_yes (decide_eq_true hk27v)) (.w 10 rfl rfl rfl (.w 19 rfl rfl rfl .nil)) (q_load rfl rfl Try.isAgg3 (hcell35v 3 rfl 6 _ rfl)) rfl) All.nil)) (All.cons (fun γ => (All.cons (QOb.yes (b := decide (bitsV .and .i64 x1 (IntKind.i64.wrap (1 * 2 ^ (min s6v.toNat IntKind.i64.bits))) = (0 : Int))) [(34, .bool (decide (bitsV .and .i64 x1 (IntKind.i64.wrap (1 * 2 ^ (min s6v.toNat IntKind.i64.bits))) = (0 : Int)))), (36, .int .i64 ((x0_0.getD s6v.toNat dz35).2.2.2.2.2.2.2.1)), (44, .int .i64 ((x0_0.getD x2.toNat dz35).2.2.2.2.2.2.1))] rfl rfl rfl rfl (beq_yes (decide_eq_true hk27v)) (.w 10 rfl rfl rfl (.w 12 rfl rfl rfl (.w 20 rfl rfl rfl .nil))) (q_lss rfl rfl rfl) rfl) All.nil)) (All.cons (fun γ => (All.cons (QOb.plain [(34, .bool (decide (bitsV .and .i64 x1 (IntKind.i64.wrap (1 * 2 ^ (min s6v.toNat IntKind.i64.bits))) = (0 : Int)))), (45, .bool (decide ((x0_0.getD s6v.toNat dz35).2.2.2.2.2.2.2.1 < (x0_0.getD x2.toNat dz35).2.2.2.2.2.2.1)))] rfl rfl (.w 10 rfl rfl rfl (.w 21 rfl rfl rfl .nil)) (q_pick rfl rfl rfl rfl (bif_yes (decide_eq_true hk27v) _ _)) rfl) All.nil)) All.nil)))))))))))))))))))))))
 exact All.nil
 intro g39v
 exact nrm_cut (s := decide ((x0_0.getD s6v.toNat dz35).2.2.2.2.2.2.2.1 < (x0_0.getD x2.toNat dz35).2.2.2.2.2.2.1)) () ⟨rfl, rfl, rfl, rfl, rfl, rfl, rfl, trivial⟩ (.sel 1 rfl (.sel 1 rfl (.sel 1 rfl (.nil _))))
 refine sim_draw (Γ := Unit) () [[], [0], [0, 1], [0, 1, 2], [0, 1, 2, 3], [0, 1, 2, 3], [0, 1, 2, 3, 5], [0, 1, 2, 3, 4, 5, 6], [0, 1, 2, 3, 4, 5, 6, 7], [0, 1, 2, 3, 4, 5, 6, 7, 8], [0, 1, 2, 3, 4, 5, 6, 7, 8, 9], [0, 1, 2, 3, 4, 5, 6, 7, 8, 9, 10], [0, 1, 2, 3, 4, 5, 6, 7, 8, 9, 10, 11], [0, 1, 2, 3, 4, 5, 6, 7, 8, 9, 10], [0, 1, 2, 3, 4, 5, 6, 7, 8, 9, 10, 13], [0, 1, 2, 3, 4, 5, 6, 7, 8, 9, 10, 13, 14], [0, 1, 2, 3, 4, 5, 6, 7, 8, 9, 10, 13, 14, 15], [0, 1, 2, 3, 4, 5, 6, 7, 8, 9, 10], [0, 1, 2, 3, 4, 5, 6, 7, 8, 9, 10, 13, 14, 15, 16, 17], [0, 1, 2, 3, 4, 5, 6, 7, 8, 9, 10, 13, 14, 15, 16, 17, 18], [0, 1, 2, 3, 4, 5, 6, 7, 8, 9, 10, 13, 14, 15, 16, 17, 18, 19], [0, 1, 2, 3, 4, 5, 6, 7, 8, 9, 10, 11, 12, 13, 14, 15, 16, 17, 18, 19, 20], [0, 1, 2, 3, 4, 5, 6, 7, 8, 9, 10, 11, 12, 13, 14, 15, 16, 17, 18, 19, 20, 21]] [] [0, 1, 2, 3, 4, 5, 6, 7, 8, 9, 10, 11, 12, 13, 14, 15, 16, 17, 18, 19, 20, 21, 22] (fun i => [[0], [0], [0], [0], [0], [0], [0], [0], [0], [0], [0], [0], [0], [0], [0], [0], [0], [0], [0], [0], [0], [0], [0]].getD i []) (fun i => [[], [], [], [], [], [], [], [], [], [], [], [], [], [], [], [], [], [], [], [], [], [], []].getD i []) (fun γ i => [.agg #[.int .i64 ((x0_0.getD s6v.toNat dz35).1), .int .i64 ((x0_0.getD s6v.toNat dz35).2.1), .int .i64 ((x0_0.getD s6v.toNat dz35).2.2.1), str ((x0_0.getD s6v.toNat dz35).2.2.2.1), str ((x0_0.getD s6v.toNat dz35).2.2.2.2.1), str ((x0_0.getD s6v.toNat dz35).2.2.2.2.2.1), .int .i64 ((x0_0.getD s6v.toNat dz35).2.2.2.2.2.2.1), .int .i64 ((x0_0.getD s6v.toNat dz35).2.2.2.2.2.2.2.1), .int .i64 ((x0_0.getD s6v.toNat dz35).2.2.2.2.2.2.2.2.1), str ((x0_0.getD s6v.toNat dz35).2.2.2.2.2.2.2.2.2)], .bool (lin_open.v ((x0_0.getD s6v.toNat dz35).1) ((x0_0.getD s6v.toNat dz35).2.1) ((x0_0.getD s6v.toNat dz35).2.2.1) ((x0_0.getD s6v.toNat dz35).2.2.2.1) ((x0_0.getD s6v.toNat dz35).2.2.2.2.1) ((x0_0.getD s6v.toNat dz35).2.2.2.2.2.1) ((x0_0.getD s6v.toNat dz35).2.2.2.2.2.2.1) ((x0_0.getD s6v.toNat dz35).2.2.2.2.2.2.2.1) ((x0_0.getD s6v.toNat dz35).2.2.2.2.2.2.2.2.1) ((x0_0.getD s6v.toNat dz35).2.2.2.2.2.2.2.2.2)), .bool (!(lin_open.v ((x0_0.getD s6v.toNat dz35).1) ((x0_0.getD s6v.toNat dz35).2.1) ((x0_0.getD s6v.toNat dz35).2.2.1) ((x0_0.getD s6v.toNat dz35).2.2.2.1) ((x0_0.getD s6v.toNat dz35).2.2.2.2.1) ((x0_0.getD s6v.toNat dz35).2.2.2.2.2.1) ((x0_0.getD s6v.toNat dz35).2.2.2.2.2.2.1) ((x0_0.getD s6v.toNat dz35).2.2.2.2.2.2.2.1) ((x0_0.getD s6v.toNat dz35).2.2.2.2.2.2.2.2.1) ((x0_0.getD s6v.toNat dz35).2.2.2.2.2.2.2.2.2))), .bool (!(lin_open.v ((x0_0.getD s6v.toNat dz35).1) ((x0_0.getD s6v.toNat dz35).2.1) ((x0_0.getD s6v.toNat dz35).2.2.1) ((x0_0.getD s6v.toNat dz35).2.2.2.1) ((x0_0.getD s6v.toNat dz35).2.2.2.2.1) ((x0_0.getD s6v.toNat dz35).2.2.2.2.2.1) ((x0_0.getD s6v.toNat dz35).2.2.2.2.2.2.1) ((x0_0.getD s6v.toNat dz35).2.2.2.2.2.2.2.1) ((x0_0.getD s6v.toNat dz35).2.2.2.2.2.2.2.2.1) ((x0_0.getD s6v.toNat dz35).2.2.2.2.2.2.2.2.2))), .int .i64 x1, .int .i64 s6v, .int .i64 (IntKind.i64.wrap (1 * 2 ^ (min s6v.toNat IntKind.i64.bits))), .int .i64 (bitsV .and .i64 x1 (IntKind.i64.wrap (1 * 2 ^ (min s6v.toNat IntKind.i64.bits)))), .bool (decide (bitsV .and .i64 x1 (IntKind.i64.wrap (1 * 2 ^ (min s6v.toNat IntKind.i64.bits))) = (0 : Int))), .bool (decide (bitsV .and .i64 x1 (IntKind.i64.wrap (1 * 2 ^ (min s6v.toNat IntKind.i64.bits))) = (0 : Int))), .bool (decide (bitsV .and .i64 x1 (IntKind.i64.wrap (1 * 2 ^ (min s6v.toNat IntKind.i64.bits))) = (0 : Int))), undef, undef, undef, undef, undef, undef, undef, undef, undef, undef, undef, .bool false].getD i undef) (fun j γ => [[obj b19v 35 [.int .i64 ((x0_0.getD s6v.toNat dz35).1), .int .i64 ((x0_0.getD s6v.toNat dz35).2.1), .int .i64 ((x0_0.getD s6v.toNat dz35).2.2.1), str ((x0_0.getD s6v.toNat dz35).2.2.2.1), str ((x0_0.getD s6v.toNat dz35).2.2.2.2.1), str ((x0_0.getD s6v.toNat dz35).2.2.2.2.2.1), .int .i64 ((x0_0.getD s6v.toNat dz35).2.2.2.2.2.2.1), .int .i64 ((x0_0.getD s6v.toNat dz35).2.2.2.2.2.2.2.1), .int .i64 ((x0_0.getD s6v.toNat dz35).2.2.2.2.2.2.2.2.1), str ((x0_0.getD s6v.toNat dz35).2.2.2.2.2.2.2.2.2)], obj b0 68 [.slice a0_0 x0_0.length c0_0, .map (some m0_1), .slice a0_2 x0_2.length c0_2], mapO m0_1 enc71 enc3 x0_1, F]].getD j []) (fun γ => [(0, .pointer (some ⟨b0, 0, none⟩)), (1, .int .i64 x1), (2, .int .i64 x2), (17, .slice a0_0 x0_0.length c0_0), (18, .int .i64 (x0_0.length : Int)), (19, .int .i64 s6v), (28, .int .i64 x1), (29, .int .i64 s6v), (30, .int .i64 (IntKind.i64.wrap (1 * 2 ^ (min s6v.toNat IntKind.i64.bits)))), (31, .int .i64 (bitsV .and .i64 x1 (IntKind.i64.wrap (1 * 2 ^ (min s6v.toNat IntKind.i64.bits))))), (32, .bool (decide (bitsV .and .i64 x1 (IntKind.i64.wrap (1 * 2 ^ (min s6v.toNat IntKind.i64.bits))) = (0 : Int)))), (35, undef), (36, undef), (37, undef), (38, undef), (39, undef), (40, undef), (41, undef), (42, undef), (43, undef), (44, undef), (45, undef), (46, .bool false)]) mixed (by decide) (by decide) (by decide) (by decide) (by decide) (by decide) (by decide) 48 rfl (by decide) (by decide) (by decide) (Ent.refl _) ?_ ?_ (fun _ => ⟨rfl, rfl, rfl, rfl, rfl, rfl, rfl, rfl, rfl, rfl, rfl, rfl, rfl, rfl, rfl, rfl, rfl, rfl, rfl, rfl, rfl, rfl, rfl, trivial⟩) ?_
 exact (All.cons (fun γ => (All.cons (QOb.plain [(8, .pointer (some ⟨b19v, 0, none⟩))] rfl rfl (.o rfl (by decide) .nil) (q_loado 0 rfl rfl Try.isAgg35 Try.sizeOf35 rfl rfl) rfl) All.nil)) (All.cons (fun γ => (All.cons (QOb.plain [(24, .agg #[.int .i64 ((x0_0.getD s6v.toNat dz35).1), .int .i64 ((x0_0.getD s6v.toNat dz35).2.1), .int .i64 ((x0_0.getD s6v.toNat dz35).2.2.1), str ((x0_0.getD s6v.toNat dz35).2.2.2.1), str ((x0_0.getD s6v.toNat dz35).2.2.2.2.1), str ((x0_0.getD s6v.toNat dz35).2.2.2.2.2.1), .int .i64 ((x0_0.getD s6v.toNat dz35).2.2.2.2.2.2.1), .int .i64 ((x0_0.getD s6v.toNat dz35).2.2.2.2.2.2.2.1), .int .i64 ((x0_0.getD s6v.toNat dz35).2.2.2.2.2.2.2.2.1), str ((x0_0.getD s6v.toNat dz35).2.2.2.2.2.2.2.2.2)])] rfl rfl (.w 0 rfl rfl rfl .nil) (RE.rq (re_call (vs := [.agg #[.int .i64 ((x0_0.getD s6v.toNat dz35).1), .int .i64 ((x0_0.getD s6v.toNat dz35).2.1), .int .i64 ((x0_0.getD s6v.toNat dz35).2.2.1), str ((x0_0.getD s6v.toNat dz35).2.2.2.1), str ((x0_0.getD s6v.toNat dz35).2.2.2.2.1), str ((x0_0.getD s6v.toNat dz35).2.2.2.2.2.1), .int .i64 ((x0_0.getD s6v.toNat dz35).2.2.2.2.2.2.1), .int .i64 ((x0_0.getD s6v.toNat dz35).2.2.2.2.2.2.2.1), .int .i64 ((x0_0.getD s6v.toNat dz35).2.2.2.2.2.2.2.2.1), str ((x0_0.getD s6v.toNat dz35).2.2.2.2.2.2.2.2.2)]]) (cap := []) (A := []) (rst := [obj b19v 35 [.int .i64 ((x0_0.getD s6v.toNat dz35).1), .int .i64 ((x0_0.getD s6v.toNat dz35).2.1), .int .i64 ((x0_0.getD s6v.toNat dz35).2.2.1), str ((x0_0.getD s6v.toNat dz35).2.2.2.1), str ((x0_0.getD s6v.toNat dz35).2.2.2.2.1), str ((x0_0.getD s6v.toNat dz35).2.2.2.2.2.1), .int .i64 ((x0_0.getD s6v.toNat dz35).2.2.2.2.2.2.1), .int .i64 ((x0_0.getD s6v.toNat dz35).2.2.2.2.2.2.2.1), .int .i64 ((x0_0.getD s6v.toNat dz35).2.2.2.2.2.2.2.2.1), str ((x0_0.getD s6v.toNat dz35).2.2.2.2.2.2.2.2.2)], obj b0 68 [.slice a0_0 x0_0.length c0_0, .map (some m0_1), .slice a0_2 x0_2.length c0_2], mapO m0_1 enc71 enc3 x0_1, F]) rfl rfl rfl rfl rfl rfl Try.call30 (.sel 0 rfl (.sel 0 rfl (.sel 0 rfl (.sel 0 rfl (.nil _))))) (lin_open.calls _ _ ((x0_0.getD s6v.toNat dz35).1) ((x0_0.getD s6v.toNat dz35).2.1) ((x0_0.getD s6v.toNat dz35).2.2.1) ((x0_0.getD s6v.toNat dz35).2.2.2.1) ((x0_0.getD s6v.toNat dz35).2.2.2.2.1) ((x0_0.getD s6v.toNat dz35).2.2.2.2.2.1) ((x0_0.getD s6v.toNat dz35).2.2.2.2.2.2.1) ((x0_0.getD s6v.toNat dz35).2.2.2.2.2.2.2.1) ((x0_0.getD s6v.toNat dz35).2.2.2.2.2.2.2.2.1) ((x0_0.getD s6v.toNat dz35).2.2.2.2.2.2.2.2.2) ) (lin_open.tot ((x0_0.getD s6v.toNat dz35).1) ((x0_0.getD s6v.toNat dz35).2.1) ((x0_0.getD s6v.toNat dz35).2.2.1) ((x0_0.getD s6v.toNat dz35).2.2.2.1) ((x0_0.getD s6v.toNat dz35).2.2.2.2.1) ((x0_0.getD s6v.toNat dz35).2.2.2.2.2.1) ((x0_0.getD s6v.toNat dz35).2.2.2.2.2.2.1) ((x0_0.getD s6v.toNat dz35).2.2.2.2.2.2.2.1) ((x0_0.getD s6v.toNat dz35).2.2.2.2.2.2.2.2.1) ((x0_0.getD s6v.toNat dz35).2.2.2.2.2.2.2.2.2))) (fun _ => rfl) (fun _ => (.sel 0 rfl (.sel 0 rfl (.sel 0 rfl (.sel 0 rfl (.nil _))))))) rfl) All.nil)) (All.cons (fun γ => (All.cons (QOb.plain [(25, .bool (lin_open.v ((x0_0.getD s6v.toNat dz35).1) ((x0_0.getD s6v.toNat dz35).2.1) ((x0_0.getD s6v.toNat dz35).2.2.1) ((x0_0.getD s6v.toNat dz35).2.2.2.1) ((x0_0.getD s6v.toNat dz35).2.2.2.2.1) ((x0_0.getD s6v.toNat dz35).2.2.2.2.2.1) ((x0_0.getD s6v.toNat dz35).2.2.2.2.2.2.1) ((x0_0.getD s6v.toNat dz35).2.2.2.2.2.2.2.1) ((x0_0.getD s6v.toNat dz35).2.2.2.2.2.2.2.2.1) ((x0_0.getD s6v.toNat dz35).2.2.2.2.2.2.2.2.2)))] rfl rfl (.w 1 rfl rfl rfl .nil) (q_not rfl rfl) rfl) All.nil)) (All.cons (fun γ => (All.cons (QOb.plain [(26, .bool (!(lin_open.v ((x0_0.getD s6v.toNat dz35).1) ((x0_0.getD s6v.toNat dz35).2.1) ((x0_0.getD s6v.toNat dz35).2.2.1) ((x0_0.getD s6v.toNat dz35).2.2.2.1) ((x0_0.getD s6v.toNat dz35).2.2.2.2.1) ((x0_0.getD s6v.toNat dz35).2.2.2.2.2.1) ((x0_0.getD s6v.toNat dz35).2.2.2.2.2.2.1) ((x0_0.getD s6v.toNat dz35).2.2.2.2.2.2.2.1) ((x0_0.getD s6v.toNat dz35).2.2.2.2.2.2.2.2.1) ((x0_0.getD s6v.toNat dz35).2.2.2.2.2.2.2.2.2))))] rfl rfl (.w 2 rfl rfl rfl .nil) (q_move rfl rfl) rfl) All.nil)) (All.cons (fun γ => (All.cons (QOb.yes (b := !(lin_open.v ((x0_0.getD s6v.toNat dz35).1) ((x0_0.getD s6v.toNat dz35).2.1) ((x0_0.getD s6v.toNat dz35).2.2.1) ((x0_0.getD s6v.toNat dz35).2.2.2.1) ((x0_0.getD s6v.toNat dz35).2.2.2.2.1) ((x0_0.getD s6v.toNat dz35).2.2.2.2.2.1) ((x0_0.getD s6v.toNat dz35).2.2.2.2.2.2.1) ((x0_0.getD s6v.toNat dz35).2.2.2.2.2.2.2.1) ((x0_0.getD s6v.toNat dz35).2.2.2.2.2.2.2.2.1) ((x0_0.getD s6v.toNat dz35).2.2.2.2.2.2.2.2.2))) [(1, .int .i64 x1), (27, .bool (!(lin_open.v ((x0_0.getD s6v.toNat dz35).1) ((x0_0.getD s6v.toNat dz35).2.1) ((x0_0.getD s6v.toNat dz35).2.2.1) ((x0_0.getD s6v.toNat dz35).2.2.2.1) ((x0_0.getD s6v.toNat dz35).2.2.2.2.1) ((x0_0.getD s6v.toNat dz35).2.2.2.2.2.1) ((x0_0.getD s6v.toNat dz35).2.2.2.2.2.2.1) ((x0_0.getD s6v.toNat dz35).2.2.2.2.2.2.2.1) ((x0_0.getD s6v.toNat dz35).2.2.2.2.2.2.2.2.1) ((x0_0.getD s6v.toNat dz35).2.2.2.2.2.2.2.2.2))))] rfl rfl rfl rfl (beq_yes hk25v) (.o rfl (by decide) (.w 3 rfl rfl rfl .nil)) (q_move rfl rfl) rfl) All.nil)) (All.cons (fun γ => (All.cons (QOb.yes (b := !(lin_open.v ((x0_0.getD s6v.toNat dz35).1) ((x0_0.getD s6v.toNat dz35).2.1) ((x0_0.getD s6v.toNat dz35).2.2.1) ((x0_0.getD s6v.toNat dz35).2.2.2.1) ((x0_0.getD s6v.toNat dz35).2.2.2.2.1) ((x0_0.getD s6v.toNat dz35).2.2.2.2.2.1) ((x0_0.getD s6v.toNat dz35).2.2.2.2.2.2.1) ((x0_0.getD s6v.toNat dz35).2.2.2.2.2.2.2.1) ((x0_0.getD s6v.toNat dz35).2.2.2.2.2.2.2.2.1) ((x0_0.getD s6v.toNat dz35).2.2.2.2.2.2.2.2.2))) [(7, .int .i64 s6v), (27, .bool (!(lin_open.v ((x0_0.getD s6v.toNat dz35).1) ((x0_0.getD s6v.toNat dz35).2.1) ((x0_0.getD s6v.toNat dz35).2.2.1) ((x0_0.getD s6v.toNat dz35).2.2.2.1) ((x0_0.getD s6v.toNat dz35).2.2.2.2.1) ((x0_0.getD s6v.toNat dz35).2.2.2.2.2.1) ((x0_0.getD s6v.toNat dz35).2.2.2.2.2.2.1) ((x0_0.getD s6v.toNat dz35).2.2.2.2.2.2.2.1) ((x0_0.getD s6v.toNat dz35).2.2.2.2.2.2.2.2.1) ((x0_0.getD s6v.toNat dz35).2.2.2.2.2.2.2.2.2))))] rfl rfl rfl rfl (beq_yes hk25v) (.o rfl (by decide) (.w 3 rfl rfl rfl .nil)) (q_move rfl rfl) rfl) All.nil)) (All.cons (fun γ => (All.cons (QOb.yes (b := !(lin_open.v ((x0_0.getD s6v.toNat dz35).1) ((x0_0.getD s6v.toNat dz35).2.1) ((x0_0.getD s6v.toNat dz35).2.2.1) ((x0_0.getD s6v.toNat dz35).2.2.2.1) ((x0_0.getD s6v.toNat dz35).2.2.2.2.1) ((x0_0.getD s6v.toNat dz35).2.2.2.2.2.1) ((x0_0.getD s6v.toNat dz35).2.2.2.2.2.2.1) ((x0_0.getD s6v.toNat dz35).2.2.2.2.2.2.2.1) ((x0_0.getD s6v.toNat dz35).2.2.2.2.2.2.2.2.1) ((x0_0.getD s6v.toNat dz35).2.2.2.2.2.2.2.2.2))) [(27, .bool (!(lin_open.v ((x0_0.getD s6v.toNat dz35).1) ((x0_0.getD s6v.toNat dz35).2.1) ((x0_0.getD s6v.toNat dz35).2.2.1) ((x0_0.getD s6v.toNat dz35).2.2.2.1) ((x0_0.getD s6v.toNat dz35).2.2.2.2.1) ((x0_0.getD s6v.toNat dz35).2.2.2.2.2.1) ((x0_0.getD s6v.toNat dz35).2.2.2.2.2.2.1) ((x0_0.getD s6v.toNat dz35).2.2.2.2.2.2.2.1) ((x0_0.getD s6v.toNat dz35).2.2.2.2.2.2.2.2.1) ((x0_0.getD s6v.toNat dz35).2.2.2.2.2.2.2.2.2)))), (29, .int .i64 s6v)] rfl rfl rfl rfl (beq_yes hk25v) (.w 3 rfl rfl rfl (.w 5 rfl rfl rfl .nil)) (q_shl rfl rfl rfl hb26v) rfl) All.nil)) (All.cons (fun γ => (All.cons (QOb.yes (b := !(lin_open.v ((x0_0.getD s6v.toNat dz35).1) ((x0_0.getD s6v.toNat dz35).2.1) ((x0_0.getD s6v.toNat dz35).2.2.1) ((x0_0.getD s6v.toNat dz35).2.2.2.1) ((x0_0.getD s6v.toNat dz35).2.2.2.2.1) ((x0_0.getD s6v.toNat dz35).2.2.2.2.2.1) ((x0_0.getD s6v.toNat dz35).2.2.2.2.2.2.1) ((x0_0.getD s6v.toNat dz35).2.2.2.2.2.2.2.1) ((x0_0.getD s6v.toNat dz35).2.2.2.2.2.2.2.2.1) ((x0_0.getD s6v.toNat dz35).2.2.2.2.2.2.2.2.2))) [(27, .bool (!(lin_open.v ((x0_0.getD s6v.toNat dz35).1) ((x0_0.getD s6v.toNat dz35).2.1) ((x0_0.getD s6v.toNat dz35).2.2.1) ((x0_0.getD s6v.toNat dz35).2.2.2.1) ((x0_0.getD s6v.toNat dz35).2.2.2.2.1) ((x0_0.getD s6v.toNat dz35).2.2.2.2.2.1) ((x0_0.getD s6v.toNat dz35).2.2.2.2.2.2.1) ((x0_0.getD s6v.toNat dz35).2.2.2.2.2.2.2.1) ((x0_0.getD s6v.toNat dz35).2.2.2.2.2.2.2.2.1) ((x0_0.getD s6v.toNat dz35).2.2.2.2.2.2.2.2.2)))), (28, .int .i64 x1), (30, .int .i64 (IntKind.i64.wrap (1 * 2 ^ (min s6v.toNat IntKind.i64.bits))))] rfl rfl rfl rfl (beq_yes hk25v) (.w 3 rfl rfl rfl (.w 4 rfl rfl rfl (.w 6 rfl rfl rfl .nil))) (q_and_ rfl rfl rfl) rfl) All.nil)) (All.cons (fun γ => (All.cons (QOb.yes (b := !(lin_open.v ((x0_0.getD s6v.toNat dz35).1) ((x0_0.getD s6v.toNat dz35).2.1) ((x0_0.getD s6v.toNat dz35).2.2.1) ((x0_0.getD s6v.toNat dz35).2.2.2.1) ((x0_0.getD s6v.toNat dz35).2.2.2.2.1) ((x0_0.getD s6v.toNat dz35).2.2.2.2.2.1) ((x0_0.getD s6v.toNat dz35).2.2.2.2.2.2.1) ((x0_0.getD s6v.toNat dz35).2.2.2.2.2.2.2.1) ((x0_0.getD s6v.toNat dz35).2.2.2.2.2.2.2.2.1) ((x0_0.getD s6v.toNat dz35).2.2.2.2.2.2.2.2.2))) [(27, .bool (!(lin_open.v ((x0_0.getD s6v.toNat dz35).1) ((x0_0.getD s6v.toNat dz35).2.1) ((x0_0.getD s6v.toNat dz35).2.2.1) ((x0_0.getD s6v.toNat dz35).2.2.2.1) ((x0_0.getD s6v.toNat dz35).2.2.2.2.1) ((x0_0.getD s6v.toNat dz35).2.2.2.2.2.1) ((x0_0.getD s6v.toNat dz35).2.2.2.2.2.2.1) ((x0_0.getD s6v.toNat dz35).2.2.2.2.2.2.2.1) ((x0_0.getD s6v.toNat dz35).2.2.2.2.2.2.2.2.1) ((x0_0.getD s6v.toNat dz35).2.2.2.2.2.2.2.2.2)))), (31, .int .i64 (bitsV .and .i64 x1 (IntKind.i64.wrap (1 * 2 ^ (min s6v.toNat IntKind.i64.bits)))))] rfl rfl rfl rfl (beq_yes hk25v) (.w 3 rfl rfl rfl (.w 7 rfl rfl rfl .nil)) (q_eql rfl rfl rfl) rfl) All.nil)) (All.cons (fun γ => (All.cons (QOb.plain [(27, .bool (!(lin_open.v ((x0_0.getD s6v.toNat dz35).1) ((x0_0.getD s6v.toNat dz35).2.1) ((x0_0.getD s6v.toNat dz35).2.2.1) ((x0_0.getD s6v.toNat dz35).2.2.2.1) ((x0_0.getD s6v.toNat dz35).2.2.2.2.1) ((x0_0.getD s6v.toNat dz35).2.2.2.2.2.1) ((x0_0.getD s6v.toNat dz35).2.2.2.2.2.2.1) ((x0_0.getD s6v.toNat dz35).2.2.2.2.2.2.2.1) ((x0_0.getD s6v.toNat dz35).2.2.2.2.2.2.2.2.1) ((x0_0.getD s6v.toNat dz35).2.2.2.2.2.2.2.2.2)))), (32, .bool (decide (bitsV .and .i64 x1 (IntKind.i64.wrap (1 * 2 ^ (min s6v.toNat IntKind.i64.bits))) = (0 : Int))))] rfl rfl (.w 3 rfl rfl rfl (.w 8 rfl rfl rfl .nil)) (q_pick rfl rfl rfl rfl (bif_yes hk25v _ _)) rfl) All.nil)) (All.cons (fun γ => (All.cons (QOb.plain [(33, .bool (decide (bitsV .and .i64 x1 (IntKind.i64.wrap (1 * 2 ^ (min s6v.toNat IntKind.i64.bits))) = (0 : Int))))] rfl rfl (.w 9 rfl rfl rfl .nil) (q_move rfl rfl) rfl) All.nil)) (All.cons (fun γ => (All.cons (QOb.no (b := decide (bitsV .and .i64 x1 (IntKind.i64.wrap (1 * 2 ^ (min s6v.toNat IntKind.i64.bits))) = (0 : Int))) [(8, .pointer (some ⟨b19v, 0, none⟩)), (34, .bool (decide (bitsV .and .i64 x1 (IntKind.i64.wrap (1 * 2 ^ (min s6v.toNat IntKind.i64.bits))) = (0 : Int))))] rfl rfl rfl rfl (beq_no' (decide_eq_false hk27v)) (.o rfl (by decide) (.w 10 rfl rfl rfl .nil)) rfl) All.nil)) (All.cons (fun γ => (All.cons (QOb.no (b := decide (bitsV .and .i64 x1 (IntKind.i64.wrap (1 * 2 ^ (min s6v.toNat IntKind.i64.bits))) = (0 : Int))) [(34, .bool (decide (bitsV .and .i64 x1 (IntKind.i64.wrap (1 * 2 ^ (min s6v.toNat IntKind.i64.bits))) = (0 : Int)))), (35, undef)] rfl rfl rfl rfl (beq_no' (decide_eq_false hk27v)) (.w 10 rfl rfl rfl (.w 11 rfl rfl rfl .nil)) rfl) All.nil)) (All.cons (fun γ => (All.cons (QOb.no (b := decide (bitsV .and .i64 x1 (IntKind.i64.wrap (1 * 2 ^ (min s6v.toNat IntKind.i64.bits))) = (0 : Int))) [(0, .pointer (some ⟨b0, 0, none⟩)), (34, .bool (decide (bitsV .and .i64 x1 (IntKind.i64.wrap (1 * 2 ^ (min s6v.toNat IntKind.i64.bits))) = (0 : Int))))] rfl rfl rfl rfl (beq_no' (decide_eq_false hk27v)) (.o rfl (by decide) (.w 10 rfl rfl rfl .nil)) rfl) All.nil)) (All.cons (fun γ => (All.cons (QOb.no (b := decide (bitsV .and .i64 x1 (IntKind.i64.wrap (1 * 2 ^ (min s6v.toNat IntKind.i64.bits))) = (0 : Int))) [(34, .bool (decide (bitsV .and .i64 x1 (IntKind.i64.wrap (1 * 2 ^ (min s6v.toNat IntKind.i64.bits))) = (0 : Int)))), (37, undef)] rfl rfl rfl rfl (beq_no' (decide_eq_false hk27v)) (.w 10 rfl rfl rfl (.w 13 rfl rfl rfl .nil)) rfl) All.nil)) (All.cons (fun γ => (All.cons (QOb.no (b := decide (bitsV .and .i64 x1 (IntKind.i64.wrap (1 * 2 ^ (min s6v.toNat IntKind.i64.bits))) = (0 : Int))) [(34, .bool (decide (bitsV .and .i64 x1 (IntKind.i64.wrap (1 * 2 ^ (min s6v.toNat IntKind.i64.bits))) = (0 : Int)))), (38, undef)] rfl rfl rfl rfl (beq_no' (decide_eq_false hk27v)) (.w 10 rfl rfl rfl (.w 14 rfl rfl rfl .nil)) rfl) All.nil)) (All.cons (fun γ => (All.cons (QOb.no (b := decide (bitsV .and .i64 x1 (IntKind.i64.wrap (1 * 2 ^ (min s6v.toNat IntKind.i64.bits))) = (0 : Int))) [(34, .bool (decide (bitsV .and .i64 x1 (IntKind.i64.wrap (1 * 2 ^ (min s6v.toNat IntKind.i64.bits))) = (0 : Int)))), (39, undef)] rfl rfl rfl rfl (beq_no' (decide_eq_false hk27v)) (.w 10 rfl rfl rfl (.w 15 rfl rfl rfl .nil)) rfl) All.nil)) (All.cons (fun γ => (All.cons (QOb.no (b := decide (bitsV .and .i64 x1 (IntKind.i64.wrap (1 * 2 ^ (min s6v.toNat IntKind.i64.bits))) = (0 : Int))) [(2, .int .i64 x2), (34, .bool (decide (bitsV .and .i64 x1 (IntKind.i64.wrap (1 * 2 ^ (min s6v.toNat IntKind.i64.bits))) = (0 : Int))))] rfl rfl rfl rfl (beq_no' (decide_eq_false hk27v)) (.o rfl (by decide) (.w 10 rfl rfl rfl .nil)) rfl) All.nil)) (All.cons (fun γ => (All.cons (QOb.no (b := decide (bitsV .and .i64 x1 (IntKind.i64.wrap (1 * 2 ^ (min s6v.toNat IntKind.i64.bits))) = (0 : Int))) [(34, .bool (decide (bitsV .and .i64 x1 (IntKind.i64.wrap (1 * 2 ^ (min s6v.toNat IntKind.i64.bits))) = (0 : Int)))), (40, undef), (41, undef)] rfl rfl rfl rfl (beq_no' (decide_eq_false hk27v)) (.w 10 rfl rfl rfl (.w 16 rfl rfl rfl (.w 17 rfl rfl rfl .nil))) rfl) All.nil)) (All.cons (fun γ => (All.cons (QOb.no (b := decide (bitsV .and .i64 x1 (IntKind.i64.wrap (1 * 2 ^ (min s6v.toNat IntKind.i64.bits))) = (0 : Int))) [(34, .bool (decide (bitsV .and .i64 x1 (IntKind.i64.wrap (1 * 2 ^ (min s6v.toNat IntKind.i64.bits))) = (0 : Int)))), (42, undef)] rfl rfl rfl rfl (beq_no' (decide_eq_false hk27v)) (.w 10 rfl rfl rfl (.w 18 rfl rfl rfl .nil)) rfl) All.nil)) (All.cons (fun γ => (All.cons (QOb.no (b := decide (bitsV .and .i64 x1 (IntKind.i64.wrap (1 * 2 ^ (min s6v.toNat IntKind.i64.bits))) = (0 : Int))) [(34, .bool (decide (bitsV .and .i64 x1 (IntKind.i64.wrap (1 * 2 ^ (min s6v.toNat IntKind.i64.bits))) = (0 : Int)))), (43, undef)] rfl rfl rfl rfl (beq_no' (decide_eq_false hk27v)) (.w 10 rfl rfl rfl (.w 19 rfl rfl rfl .nil)) rfl) All.nil)) (All.cons (fun γ => (All.cons (QOb.no (b := decide (bitsV .and .i64 x1 (IntKind.i64.wrap (1 * 2 ^ (min s6v.toNat IntKind.i64.bits))) = (0 : Int))) [(34, .bool (decide (bitsV .and .i64 x1 (IntKind.i64.wrap (1 * 2 ^ (min s6v.toNat IntKind.i64.bits))) = (0 : Int)))), (36, undef), (44, undef)] rfl rfl rfl rfl (beq_no' (decide_eq_false hk27v)) (.w 10 rfl rfl rfl (.w 12 rfl rfl rfl (.w 20 rfl rfl rfl .nil))) rfl) All.nil)) (All.cons (fun γ => (All.cons (QOb.plain [(34, .bool (decide (bitsV .and .i64 x1 (IntKind.i64.wrap (1 * 2 ^ (min s6v.toNat IntKind.i64.bits))) = (0 : Int)))), (45, undef)] rfl rfl (.w 10 rfl rfl rfl (.w 21 rfl rfl rfl .nil)) (q_pick rfl rfl rfl rfl (bif_no (decide_eq_false hk27v) _ _)) rfl) All.nil)) All.nil)))))))))))))))))))))))
 exact All.nil
 intro g43v
 exact nrm_cut (s := false) () ⟨rfl, rfl, rfl, rfl, rfl, rfl, rfl, trivial⟩ (.sel 1 rfl (.sel 1 rfl (.sel 1 rfl (.nil _))))
 refine sim_draw (Γ := Unit) () [[], [0], [0, 1], [0, 1, 2], [0, 1, 2, 3], [0, 1, 2, 3], [0, 1, 2, 3, 5], [0, 1, 2, 3, 4, 5, 6], [0, 1, 2, 3, 4, 5, 6, 7], [0, 1, 2, 3, 4, 5, 6, 7, 8], [0, 1, 2, 3, 4, 5, 6, 7, 8, 9], [0, 1, 2, 3, 4, 5, 6, 7, 8, 9, 10], [0, 1, 2, 3, 4, 5, 6, 7, 8, 9, 10, 11], [0, 1, 2, 3, 4, 5, 6, 7, 8, 9, 10], [0, 1, 2, 3, 4, 5, 6, 7, 8, 9, 10, 13], [0, 1, 2, 3, 4, 5, 6, 7, 8, 9, 10, 13, 14], [0, 1, 2, 3, 4, 5, 6, 7, 8, 9, 10, 13, 14, 15], [0, 1, 2, 3, 4, 5, 6, 7, 8, 9, 10], [0, 1, 2, 3, 4, 5, 6, 7, 8, 9, 10, 13, 14, 15, 16, 17], [0, 1, 2, 3, 4, 5, 6, 7, 8, 9, 10, 13, 14, 15, 16, 17, 18], [0, 1, 2, 3, 4, 5, 6, 7, 8, 9, 10, 13, 14, 15, 16, 17, 18, 19], [0, 1, 2, 3, 4, 5, 6, 7, 8, 9, 10, 11, 12, 13, 14, 15, 16, 17, 18, 19, 20], [0, 1, 2, 3, 4, 5, 6, 7, 8, 9, 10, 11, 12, 13, 14, 15, 16, 17, 18, 19, 20, 21]] [] [0, 1, 2, 3, 4, 5, 6, 7, 8, 9, 10, 11, 12, 13, 14, 15, 16, 17, 18, 19, 20, 21, 22] (fun i => [[0], [0], [0], [0], [0], [0], [0], [0], [0], [0], [0], [0], [0], [0], [0], [0], [0], [0], [0], [0], [0], [0], [0]].getD i []) (fun i => [[], [], [], [], [], [], [], [], [], [], [], [], [], [], [], [], [], [], [], [], [], [], []].getD i []) (fun γ i => [.agg #[.int .i64 ((x0_0.getD s6v.toNat dz35).1), .int .i64 ((x0_0.getD s6v.toNat dz35).2.1), .int .i64 ((x0_0.getD s6v.toNat dz35).2.2.1), str ((x0_0.getD s6v.toNat dz35).2.2.2.1), str ((x0_0.getD s6v.toNat dz35).2.2.2.2.1), str ((x0_0.getD s6v.toNat dz35).2.2.2.2.2.1), .int .i64 ((x0_0.getD s6v.toNat dz35).2.2.2.2.2.2.1), .int .i64 ((x0_0.getD s6v.toNat dz35).2.2.2.2.2.2.2.1), .int .i64 ((x0_0.getD s6v.toNat dz35).2.2.2.2.2.2.2.2.1), str ((x0_0.getD s6v.toNat dz35).2.2.2.2.2.2.2.2.2)], .bool (lin_open.v ((x0_0.getD s6v.toNat dz35).1) ((x0_0.getD s6v.toNat dz35).2.1) ((x0_0.getD s6v.toNat dz35).2.2.1) ((x0_0.getD s6v.toNat dz35).2.2.2.1) ((x0_0.getD s6v.toNat dz35).2.2.2.2.1) ((x0_0.getD s6v.toNat dz35).2.2.2.2.2.1) ((x0_0.getD s6v.toNat dz35).2.2.2.2.2.2.1) ((x0_0.getD s6v.toNat dz35).2.2.2.2.2.2.2.1) ((x0_0.getD s6v.toNat dz35).2.2.2.2.2.2.2.2.1) ((x0_0.getD s6v.toNat dz35).2.2.2.2.2.2.2.2.2)), .bool (!(lin_open.v ((x0_0.getD s6v.toNat dz35).1) ((x0_0.getD s6v.toNat dz35).2.1) ((x0_0.getD s6v.toNat dz35).2.2.1) ((x0_0.getD s6v.toNat dz35).2.2.2.1) ((x0_0.getD s6v.toNat dz35).2.2.2.2.1) ((x0_0.getD s6v.toNat dz35).2.2.2.2.2.1) ((x0_0.getD s6v.toNat dz35).2.2.2.2.2.2.1) ((x0_0.getD s6v.toNat dz35).2.2.2.2.2.2.2.1) ((x0_0.getD s6v.toNat dz35).2.2.2.2.2.2.2.2.1) ((x0_0.getD s6v.toNat dz35).2.2.2.2.2.2.2.2.2))), .bool (!(lin_open.v ((x0_0.getD s6v.toNat dz35).1) ((x0_0.getD s6v.toNat dz35).2.1) ((x0_0.getD s6v.toNat dz35).2.2.1) ((x0_0.getD s6v.toNat dz35).2.2.2.1) ((x0_0.getD s6v.toNat dz35).2.2.2.2.1) ((x0_0.getD s6v.toNat dz35).2.2.2.2.2.1) ((x0_0.getD s6v.toNat dz35).2.2.2.2.2.2.1) ((x0_0.getD s6v.toNat dz35).2.2.2.2.2.2.2.1) ((x0_0.getD s6v.toNat dz35).2.2.2.2.2.2.2.2.1) ((x0_0.getD s6v.toNat dz35).2.2.2.2.2.2.2.2.2))), undef, undef, undef, undef, undef, .bool false, .bool false, undef, undef, undef, undef, undef, undef, undef, undef, undef, undef, undef, .bool false].getD i undef) (fun j γ => [[obj b19v 35 [.int .i64 ((x0_0.getD s6v.toNat dz35).1), .int .i64 ((x0_0.getD s6v.toNat dz35).2.1), .int .i64 ((x0_0.getD s6v.toNat dz35).2.2.1), str ((x0_0.getD s6v.toNat dz35).2.2.2.1), str ((x0_0.getD s6v.toNat dz35).2.2.2.2.1), str ((x0_0.getD s6v.toNat dz35).2.2.2.2.2.1), .int .i64 ((x0_0.getD s6v.toNat dz35).2.2.2.2.2.2.1), .int .i64 ((x0_0.getD s6v.toNat dz35).2.2.2.2.2.2.2.1), .int .i64 ((x0_0.getD s6v.toNat dz35).2.2.2.2.2.2.2.2.1), str ((x0_0.getD s6v.toNat dz35).2.2.2.2.2.2.2.2.2)], obj b0 68 [.slice a0_0 x0_0.length c0_0, .map (some m0_1), .slice a0_2 x0_2.length c0_2], mapO m0_1 enc71 enc3 x0_1, F]].getD j []) (fun γ => [(0, .pointer (some ⟨b0, 0, none⟩)), (1, .int .i64 x1), (2, .int .i64 x2), (17, .slice a0_0 x0_0.length c0_0), (18, .int .i64 (x0_0.length : Int)), (19, .int .i64 s6v), (28, undef), (29, undef), (30, undef), (31, undef), (32, undef), (35, undef), (36, undef), (37, undef), (38, undef), (39, undef), (40, undef), (41, undef), (42, undef), (43, undef), (44, undef), (45, undef), (46, .bool false)]) mixed (by decide) (by decide) (by decide) (by decide) (by decide) (by decide) (by decide) 48 rfl (by decide) (by decide) (by decide) (Ent.refl _) ?_ ?_ (fun _ => ⟨rfl, rfl, rfl, rfl, rfl, rfl, rfl, rfl, rfl, rfl, rfl, rfl, rfl, rfl, rfl, rfl, rfl, rfl, rfl, rfl, rfl, rfl, rfl, trivial⟩) ?_
 exact (All.cons (fun γ => (All.cons (QOb.plain [(8, .pointer (some ⟨b19v, 0, none⟩))] rfl rfl (.o rfl (by decide) .nil) (q_loado 0 rfl rfl Try.isAgg35 Try.sizeOf35 rfl rfl) rfl) All.nil)) (All.cons (fun γ => (All.cons (QOb.plain [(24, .agg #[.int .i64 ((x0_0.getD s6v.toNat dz35).1), .int .i64 ((x0_0.getD s6v.toNat dz35).2.1), .int .i64 ((x0_0.getD s6v.toNat dz35).2.2.1), str ((x0_0.getD s6v.toNat dz35).2.2.2.1), str ((x0_0.getD s6v.toNat dz35).2.2.2.2.1), str ((x0_0.getD s6v.toNat dz35).2.2.2.2.2.1), .int .i64 ((x0_0.getD s6v.toNat dz35).2.2.2.2.2.2.1), .int .i64 ((x0_0.getD s6v.toNat dz35).2.2.2.2.2.2.2.1), .int .i64 ((x0_0.getD s6v.toNat dz35).2.2.2.2.2.2.2.2.1), str ((x0_0.getD s6v.toNat dz35).2.2.2.2.2.2.2.2.2)])] rfl rfl (.w 0 rfl rfl rfl .nil) (RE.rq (re_call (vs := [.agg #[.int .i64 ((x0_0.getD s6v.toNat dz35).1), .int .i64 ((x0_0.getD s6v.toNat dz35).2.1), .int .i64 ((x0_0.getD s6v.toNat dz35).2.2.1), str ((x0_0.getD s6v.toNat dz35).2.2.2.1), str ((x0_0.getD s6v.toNat dz35).2.2.2.2.1), str ((x0_0.getD s6v.toNat dz35).2.2.2.2.2.1), .int .i64 ((x0_0.getD s6v.toNat dz35).2.2.2.2.2.2.1), .int .i64 ((x0_0.getD s6v.toNat dz35).2.2.2.2.2.2.2.1), .int .i64 ((x0_0.getD s6v.toNat dz35).2.2.2.2.2.2.2.2.1), str ((x0_0.getD s6v.toNat dz35).2.2.2.2.2.2.2.2.2)]]) (cap := []) (A := []) (rst := [obj b19v 35 [.int .i64 ((x0_0.getD s6v.toNat dz35).1), .int .i64 ((x0_0.getD s6v.toNat dz35).2.1), .int .i64 ((x0_0.getD s6v.toNat dz35).2.2.1), str ((x0_0.getD s6v.toNat dz35).2.2.2.1), str ((x0_0.getD s6v.toNat dz35).2.2.2.2.1), str ((x0_0.getD s6v.toNat dz35).2.2.2.2.2.1), .int .i64 ((x0_0.getD s6v.toNat dz35).2.2.2.2.2.2.1), .int .i64 ((x0_0.getD s6v.toNat dz35).2.2.2.2.2.2.2.1), .int .i64 ((x0_0.getD s6v.toNat dz35).2.2.2.2.2.2.2.2.1), str ((x0_0.getD s6v.toNat dz35).2.2.2.2.2.2.2.2.2)], obj b0 68 [.slice a0_0 x0_0.length c0_0, .map (some m0_1), .slice a0_2 x0_2.length c0_2], mapO m0_1 enc71 enc3 x0_1, F]) rfl rfl rfl rfl rfl rfl Try.call30 (.sel 0 rfl (.sel 0 rfl (.sel 0 rfl (.sel 0 rfl (.nil _))))) (lin_open.calls _ _ ((x0_0.getD s6v.toNat dz35).1) ((x0_0.getD s6v.toNat dz35).2.1) ((x0_0.getD s6v.toNat dz35).2.2.1) ((x0_0.getD s6v.toNat dz35).2.2.2.1) ((x0_0.getD s6v.toNat dz35).2.2.2.2.1) ((x0_0.getD s6v.toNat dz35).2.2.2.2.2.1) ((x0_0.getD s6v.toNat dz35).2.2.2.2.2.2.1) ((x0_0.getD s6v.toNat dz35).2.2.2.2.2.2.2.1) ((x0_0.getD s6v.toNat dz35).2.2.2.2.2.2.2.2.1) ((x0_0.getD s6v.toNat dz35).2.2.2.2.2.2.2.2.2) ) (lin_open.tot ((x0_0.getD s6v.toNat dz35).1) ((x0_0.getD s6v.toNat dz35).2.1) ((x0_0.getD s6v.toNat dz35).2.2.1) ((x0_0.getD s6v.toNat dz35).2.2.2.1) ((x0_0.getD s6v.toNat dz35).2.2.2.2.1) ((x0_0.getD s6v.toNat dz35).2.2.2.2.2.1) ((x0_0.getD s6v.toNat dz35).2.2.2.2.2.2.1) ((x0_0.getD s6v.toNat dz35).2.2.2.2.2.2.2.1) ((x0_0.getD s6v.toNat dz35).2.2.2.2.2.2.2.2.1) ((x0_0.getD s6v.toNat dz35).2.2.2.2.2.2.2.2.2))) (fun _ => rfl) (fun _ => (.sel 0 rfl (.sel 0 rfl (.sel 0 rfl (.sel 0 rfl (.nil _))))))) rfl) All.nil)) (All.cons (fun γ => (All.cons (QOb.plain [(25, .bool (lin_open.v ((x0_0.getD s6v.toNat dz35).1) ((x0_0.getD s6v.toNat dz35).2.1) ((x0_0.getD s6v.toNat dz35).2.2.1) ((x0_0.getD s6v.toNat dz35).2.2.2.1) ((x0_0.getD s6v.toNat dz35).2.2.2.2.1) ((x0_0.getD s6v.toNat dz35).2.2.2.2.2.1) ((x0_0.getD s6v.toNat dz35).2.2.2.2.2.2.1) ((x0_0.getD s6v.toNat dz35).2.2.2.2.2.2.2.1) ((x0_0.getD s6v.toNat dz35).2.2.2.2.2.2.2.2.1) ((x0_0.getD s6v.toNat dz35).2.2.2.2.2.2.2.2.2)))] rfl rfl (.w 1 rfl rfl rfl .nil) (q_not rfl rfl) rfl) All.nil)) (All.cons (fun γ => (All.cons (QOb.plain [(26, .bool (!(lin_open.v ((x0_0.getD s6v.toNat dz35).1) ((x0_0.getD s6v.toNat dz35).2.1) ((x0_0.getD s6v.toNat dz35).2.2.1) ((x0_0.getD s6v.toNat dz35).2.2.2.1) ((x0_0.getD s6v.toNat dz35).2.2.2.2.1) ((x0_0.getD s6v.toNat dz35).2.2.2.2.2.1) ((x0_0.getD s6v.toNat dz35).2.2.2.2.2.2.1) ((x0_0.getD s6v.toNat dz35).2.2.2.2.2.2.2.1) ((x0_0.getD s6v.toNat dz35).2.2.2.2.2.2.2.2.1) ((x0_0.getD s6v.toNat dz35).2.2.2.2.2.2.2.2.2))))] rfl rfl (.w 2 rfl rfl rfl .nil) (q_move rfl rfl) rfl) All.nil)) (All.cons (fun γ => (All.cons (QOb.no (b := !(lin_open.v ((x0_0.getD s6v.toNat dz35).1) ((x0_0.getD s6v.toNat dz35).2.1) ((x0_0.getD s6v.toNat dz35).2.2.1) ((x0_0.getD s6v.toNat dz35).2.2.2.1) ((x0_0.getD s6v.toNat dz35).2.2.2.2.1) ((x0_0.getD s6v.toNat dz35).2.2.2.2.2.1) ((x0_0.getD s6v.toNat dz35).2.2.2.2.2.2.1) ((x0_0.getD s6v.toNat dz35).2.2.2.2.2.2.2.1) ((x0_0.getD s6v.toNat dz35).2.2.2.2.2.2.2.2.1) ((x0_0.getD s6v.toNat dz35).2.2.2.2.2.2.2.2.2))) [(1, .int .i64 x1), (27, .bool (!(lin_open.v ((x0_0.getD s6v.toNat dz35).1) ((x0_0.getD s6v.toNat dz35).2.1) ((x0_0.getD s6v.toNat dz35).2.2.1) ((x0_0.getD s6v.toNat dz35).2.2.2.1) ((x0_0.getD s6v.toNat dz35).2.2.2.2.1) ((x0_0.getD s6v.toNat dz35).2.2.2.2.2.1) ((x0_0.getD s6v.toNat dz35).2.2.2.2.2.2.1) ((x0_0.getD s6v.toNat dz35).2.2.2.2.2.2.2.1) ((x0_0.getD s6v.toNat dz35).2.2.2.2.2.2.2.2.1) ((x0_0.getD s6v.toNat dz35).2.2.2.2.2.2.2.2.2))))] rfl rfl rfl rfl (beq_no' (eq_false_of_ne_true hk25v)) (.o rfl (by decide) (.w 3 rfl rfl rfl .nil)) rfl) All.nil)) (All.cons (fun γ => (All.cons (QOb.no (b := !(lin_open.v ((x0_0.getD s6v.toNat dz35).1) ((x0_0.getD s6v.toNat dz35).2.1) ((x0_0.getD s6v.toNat dz35).2.2.1) ((x0_0.getD s6v.toNat dz35).2.2.2.1) ((x0_0.getD s6v.toNat dz35).2.2.2.2.1) ((x0_0.getD s6v.toNat dz35).2.2.2.2.2.1) ((x0_0.getD s6v.toNat dz35).2.2.2.2.2.2.1) ((x0_0.getD s6v.toNat dz35).2.2.2.2.2.2.2.1) ((x0_0.getD s6v.toNat dz35).2.2.2.2.2.2.2.2.1) ((x0_0.getD s6v.toNat dz35).2.2.2.2.2.2.2.2.2))) [(7, .int .i64 s6v), (27, .bool (!(lin_open.v ((x0_0.getD s6v.toNat dz35).1) ((x0_0.getD s6v.toNat dz35).2.1) ((x0_0.getD s6v.toNat dz35).2.2.1) ((x0_0.getD s6v.toNat dz35).2.2.2.1) ((x0_0.getD s6v.toNat dz35).2.2.2.2.1) ((x0_0.getD s6v.toNat dz35).2.2.2.2.2.1) ((x0_0.getD s6v.toNat dz35).2.2.2.2.2.2.1) ((x0_0.getD s6v.toNat dz35).2.2.2.2.2.2.2.1) ((x0_0.getD s6v.toNat dz35).2.2.2.2.2.2.2.2.1) ((x0_0.getD s6v.toNat dz35).2.2.2.2.2.2.2.2.2))))] rfl rfl rfl rfl (beq_no' (eq_false_of_ne_true hk25v)) (.o rfl (by decide) (.w 3 rfl rfl rfl .nil)) rfl) All.nil)) (All.cons (fun γ => (All.cons (QOb.no (b := !(lin_open.v ((x0_0.getD s6v.toNat dz35).1) ((x0_0.getD s6v.toNat dz35).2.1) ((x0_0.getD s6v.toNat dz35).2.2.1) ((x0_0.getD s6v.toNat dz35).2.2.2.1) ((x0_0.getD s6v.toNat dz35).2.2.2.2.1) ((x0_0.getD s6v.toNat dz35).2.2.2.2.2.1) ((x0_0.getD s6v.toNat dz35).2.2.2.2.2.2.1) ((x0_0.getD s6v.toNat dz35).2.2.2.2.2.2.2.1) ((x0_0.getD s6v.toNat dz35).2.2.2.2.2.2.2.2.1) ((x0_0.getD s6v.toNat dz35).2.2.2.2.2.2.2.2.2))) [(27, .bool (!(lin_open.v ((x0_0.getD s6v.toNat dz35).1) ((x0_0.getD s6v.toNat dz35).2.1) ((x0_0.getD s6v.toNat dz35).2.2.1) ((x0_0.getD s6v.toNat dz35).2.2.2.1) ((x0_0.getD s6v.toNat dz35).2.2.2.2.1) ((x0_0.getD s6v.toNat dz35).2.2.2.2.2.1) ((x0_0.getD s6v.toNat dz35).2.2.2.2.2.2.1) ((x0_0.getD s6v.toNat dz35).2.2.2.2.2.2.2.1) ((x0_0.getD s6v.toNat dz35).2.2.2.2.2.2.2.2.1) ((x0_0.getD s6v.toNat dz35).2.2.2.2.2.2.2.2.2)))), (29, undef)] rfl rfl rfl rfl (beq_no' (eq_false_of_ne_true hk25v)) (.w 3 rfl rfl rfl (.w 5 rfl rfl rfl .nil)) rfl) All.nil)) (All.cons (fun γ => (All.cons (QOb.no (b := !(lin_open.v ((x0_0.getD s6v.toNat dz35).1) ((x0_0.getD s6v.toNat dz35).2.1) ((x0_0.getD s6v.toNat dz35).2.2.1) ((x0_0.getD s6v.toNat dz35).2.2.2.1) ((x0_0.getD s6v.toNat dz35).2.2.2.2.1) ((x0_0.getD s6v.toNat dz35).2.2.2.2.2.1) ((x0_0.getD s6v.toNat dz35).2.2.2.2.2.2.1) ((x0_0.getD s6v.toNat dz35).2.2.2.2.2.2.2.1) ((x0_0.getD s6v.toNat dz35).2.2.2.2.2.2.2.2.1) ((x0_0.getD s6v.toNat dz35).2.2.2.2.2.2.2.2.2))) [(27, .bool (!(lin_open.v ((x0_0.getD s6v.toNat dz35).1) ((x0_0.getD s6v.toNat dz35).2.1) ((x0_0.getD s6v.toNat dz35).2.2.1) ((x0_0.getD s6v.toNat dz35).2.2.2.1) ((x0_0.getD s6v.toNat dz35).2.2.2.2.1) ((x0_0.getD s6v.toNat dz35).2.2.2.2.2.1) ((x0_0.getD s6v.toNat dz35).2.2.2.2.2.2.1) ((x0_0.getD s6v.toNat dz35).2.2.2.2.2.2.2.1) ((x0_0.getD s6v.toNat dz35).2.2.2.2.2.2.2.2.1) ((x0_0.getD s6v.toNat dz35).2.2.2.2.2.2.2.2.2)))), (28, undef), (30, undef)] rfl rfl rfl rfl (beq_no' (eq_false_of_ne_true hk25v)) (.w 3 rfl rfl rfl (.w 4 rfl rfl rfl (.w 6 rfl rfl rfl .nil))) rfl) All.nil)) (All.cons (fun γ => (All.cons (QOb.no (b := !(lin_open.v ((x0_0.getD s6v.toNat dz35).1) ((x0_0.getD s6v.toNat dz35).2.1) ((x0_0.getD s6v.toNat dz35).2.2.1) ((x0_0.getD s6v.toNat dz35).2.2.2.1) ((x0_0.getD s6v.toNat dz35).2.2.2.2.1) ((x0_0.getD s6v.toNat dz35).2.2.2.2.2.1) ((x0_0.getD s6v.toNat dz35).2.2.2.2.2.2.1) ((x0_0.getD s6v.toNat dz35).2.2.2.2.2.2.2.1) ((x0_0.getD s6v.toNat dz35).2.2.2.2.2.2.2.2.1) ((x0_0.getD s6v.toNat dz35).2.2.2.2.2.2.2.2.2))) [(27, .bool (!(lin_open.v ((x0_0.getD s6v.toNat dz35).1) ((x0_0.getD s6v.toNat dz35).2.1) ((x0_0.getD s6v.toNat dz35).2.2.1) ((x0_0.getD s6v.toNat dz35).2.2.2.1) ((x0_0.getD s6v.toNat dz35).2.2.2.2.1) ((x0_0.getD s6v.toNat dz35).2.2.2.2.2.1) ((x0_0.getD s6v.toNat dz35).2.2.2.2.2.2.1) ((x0_0.getD s6v.toNat dz35).2.2.2.2.2.2.2.1) ((x0_0.getD s6v.toNat dz35).2.2.2.2.2.2.2.2.1) ((x0_0.getD s6v.toNat dz35).2.2.2.2.2.2.2.2.2)))), (31, undef)] rfl rfl rfl rfl (beq_no' (eq_false_of_ne_true hk25v)) (.w 3 rfl rfl rfl (.w 7 rfl rfl rfl .nil)) rfl) All.nil)) (All.cons (fun γ => (All.cons (QOb.plain [(27, .bool (!(lin_open.v ((x0_0.getD s6v.toNat dz35).1) ((x0_0.getD s6v.toNat dz35).2.1) ((x0_0.getD s6v.toNat dz35).2.2.1) ((x0_0.getD s6v.toNat dz35).2.2.2.1) ((x0_0.getD s6v.toNat dz35).2.2.2.2.1) ((x0_0.getD s6v.toNat dz35).2.2.2.2.2.1) ((x0_0.getD s6v.toNat dz35).2.2.2.2.2.2.1) ((x0_0.getD s6v.toNat dz35).2.2.2.2.2.2.2.1) ((x0_0.getD s6v.toNat dz35).2.2.2.2.2.2.2.2.1) ((x0_0.getD s6v.toNat dz35).2.2.2.2.2.2.2.2.2)))), (32, undef)] rfl rfl (.w 3 rfl rfl rfl (.w 8 rfl rfl rfl .nil)) (q_pick rfl rfl rfl rfl (bif_no (eq_false_of_ne_true hk25v) _ _)) rfl) All.nil)) (All.cons (fun γ => (All.cons (QOb.plain [(33, .bool false)] rfl rfl (.w 9 rfl rfl rfl .nil) (q_move rfl rfl) rfl) All.nil)) (All.cons (fun γ => (All.cons (QOb.no (b := false) [(8, .pointer (some ⟨b19v, 0, none⟩)), (34, .bool false)] rfl rfl rfl rfl rfl (.o rfl (by decide) (.w 10 rfl rfl rfl .nil)) rfl) All.nil)) (All.cons (fun γ => (All.cons (QOb.no (b := false) [(34, .bool false), (35, undef)] rfl rfl rfl rfl rfl (.w 10 rfl rfl rfl (.w 11 rfl rfl rfl .nil)) rfl) All.nil)) (All.cons (fun γ => (All.cons (QOb.no (b := false) [(0, .pointer (some ⟨b0, 0, none⟩)), (34, .bool false)] rfl rfl rfl rfl rfl (.o rfl (by decide) (.w 10 rfl rfl rfl .nil)) rfl) All.nil)) (All.cons (fun γ => (All.cons (QOb.no (b := false) [(34, .bool false), (37, undef)] rfl rfl rfl rfl rfl (.w 10 rfl rfl rfl (.w 13 rfl rfl rfl .nil)) rfl) All.nil)) (All.cons (fun γ => (All.cons (QOb.no (b := false) [(34, .bool false), (38, undef)] rfl rfl rfl rfl rfl (.w 10 rfl rfl rfl (.w 14 rfl rfl rfl .nil)) rfl) All.nil)) (All.cons (fun γ => (All.cons (QOb.no (b := false) [(34, .bool false), (39, undef)] rfl rfl rfl rfl rfl (.w 10 rfl rfl rfl (.w 15 rfl rfl rfl .nil)) rfl) All.nil)) (All.cons (fun γ => (All.cons (QOb.no (b := false) [(2, .int .i64 x2), (34, .bool false)] rfl rfl rfl rfl rfl (.o rfl (by decide) (.w 10 rfl rfl rfl .nil)) rfl) All.nil)) (All.cons (fun γ => (All.cons (QOb.no (b := false) [(34, .bool false), (40, undef), (41, undef)] rfl rfl rfl rfl rfl (.w 10 rfl rfl rfl (.w 16 rfl rfl rfl (.w 17 rfl rfl rfl .nil))) rfl) All.nil)) (All.cons (fun γ => (All.cons (QOb.no (b := false) [(34, .bool false), (42, undef)] rfl rfl rfl rfl rfl (.w 10 rfl rfl rfl (.w 18 rfl rfl rfl .nil)) rfl) All.nil)) (All.cons (fun γ => (All.cons (QOb.no (b := false) [(34, .bool false), (43, undef)] rfl rfl rfl rfl rfl (.w 10 rfl rfl rfl (.w 19 rfl rfl rfl .nil)) rfl) All.nil)) (All.cons (fun γ => (All.cons (QOb.no (b := false) [(34, .bool false), (36, undef), (44, undef)] rfl rfl rfl rfl rfl (.w 10 rfl rfl rfl (.w 12 rfl rfl rfl (.w 20 rfl rfl rfl .nil))) rfl) All.nil)) (All.cons (fun γ => (All.cons (QOb.plain [(34, .bool false), (45, undef)] rfl rfl (.w 10 rfl rfl rfl (.w 21 rfl rfl rfl .nil)) (q_pick rfl rfl rfl rfl rfl) rfl) All.nil)) All.nil)))))))))))))))))))))))
 exact All.nil
 intro g47v
 exact nrm_cut (s := false) () ⟨rfl, rfl, rfl, rfl, rfl, rfl, rfl, trivial⟩ (.sel 1 rfl (.sel 1 rfl (.sel 1 rfl (.nil _))))
 intro s20v y21v
 refine sim_condb rfl (fun h48v => ?_) (fun h49v => ?_)
 refine sim_seq (sim_region ?_)
 refine simL_val (q_asg rfl rfl) rfl rfl rfl (simL_nil (nrm_then (sim_rtn ?_)))
 refine rtn_block ?_
 refine rtn_then ?_
 refine rtn_loop ?_
 refine rtn_block ?_
 refine rtn_cutR ?_
 exact rtn_fn () rfl rfl rfl (.sel 0 rfl (.sel 0 rfl (.sel 0 rfl (.nil _))))
 refine sim_skip ?_
 refine nrm_block (nrm_then (sim_region ?_))
 refine simL_val (q_add rfl rfl rfl) rfl rfl rfl ?_
 refine simL_val (q_move rfl rfl) rfl rfl rfl (simL_nil ?_)
 exact nrm_again (s := IntKind.i64.wrap (s6v + 1)) () ⟨rfl, rfl, rfl, rfl, rfl, rfl, trivial⟩ (.sel 0 rfl (.sel 0 rfl (.sel 0 rfl (.nil _))))
 refine sim_exi ?_
 refine exi_then ?_
 refine exi_loop ?_
 refine exi_here ?_
 exact nrm_cutR (s := ()) () trivial (.sel 0 rfl (.sel 0 rfl (.sel 0 rfl (.nil _))))
 intro s4v y5v
 refine sim_seq (sim_region ?_)
 refine simL_val (q_asg rfl rfl) rfl rfl rfl (simL_nil (nrm_then (sim_rtn ?_)))
 exact rtn_fn () rfl rfl rfl (.sel 0 rfl (.sel 0 rfl (.sel 0 rfl (.nil _))))
 refine sim_seq (sim_region ?_)
 refine simL_val (q_asg rfl rfl) rfl rfl rfl (simL_nil (nrm_then (sim_rtn ?_)))
 refine rtn_then ?_
 exact rtn_fn () rfl rfl rfl (.sel 0 rfl (.sel 0 rfl (.sel 0 rfl (.nil _))))

def lin_Step.f (x0 : Bool) (x1 : List UInt8) (x2_0 : Int) (x2_1 : Int) (x2_2 : Int) (x2_3 : List UInt8) (x2_4 : List UInt8) (x2_5 : List UInt8) (x2_6 : Int) (x2_7 : Int) (x2_8 : Int) (x2_9 : List UInt8) : Option (Bool × List UInt8 × Int × List UInt8) := (if (!x0) = true then (some ([] : List UInt8)) else (some x1)).bind fun s3v => (if x2_2 = (1 : Int) then (if x0 = true then (some (true, s3v, 1, s3v)) else (some (false, ([] : List UInt8), 2, ([] : List UInt8)))) else (if x2_2 = (2 : Int) then (some (true, x2_4, 1, ([] : List UInt8))) else (if x2_2 = (3 : Int) then (if x0 = true then (some (false, ([] : List UInt8), 1, ([] : List UInt8))) else (some (false, ([] : List UInt8), 2, ([] : List UInt8)))) else (if x2_2 = (4 : Int) then (if (!x0) = true then (some (false, ([] : List UInt8), 2, ([] : List UInt8))) else (if s3v = x2_5 then (some (true, x2_4, 1, ([] : List UInt8))) else (some (true, s3v, 3, s3v)))) else (some (x0, s3v, 0, ([] : List UInt8)))))))
theorem lin_Step.calls (W : World) (F : HA) (x0 : Bool) (x1 : List UInt8) (x2_0 : Int) (x2_1 : Int) (x2_2 : Int) (x2_3 : List UInt8) (x2_4 : List UInt8) (x2_5 : List UInt8) (x2_6 : Int) (x2_7 : Int) (x2_8 : Int) (x2_9 : List UInt8)  :
    Fn Try.prog W 26 [.bool x0, str x1, .agg #[.int .i64 x2_0, .int .i64 x2_1, .int .i64 x2_2, str x2_3, str x2_4, str x2_5, .int .i64 x2_6, .int .i64 x2_7, .int .i64 x2_8, str x2_9]] [] F (lin_Step.f x0 x1 x2_0 x2_1 x2_2 x2_3 x2_4 x2_5 x2_6 x2_7 x2_8 x2_9) (fun (r : Bool × List UInt8 × Int × List UInt8) (y : Unit) => .tuple #[.bool r.1, str r.2.1, .agg #[.int .i64 r.2.2.1, str r.2.2.2]]) (fun r y => []) := by
 unfold lin_Step.f
 refine fn_intro 52 Try.func26 rfl Try.ntmps26 rfl ?_
 refine sim_seq (sim_region ?_)
 refine simL_eff (re_box rfl rfl rfl) rfl rfl rfl ?_
 intro b1v
 refine simL_val (q_asg rfl rfl) rfl rfl rfl ?_
 refine simL_val (q_asg rfl rfl) rfl rfl rfl ?_
 refine simL_eff (re_alloc rfl Try.zeroValue33 rfl) rfl rfl rfl ?_
 intro b2v
 refine simL_nil (nrm_then ?_)
 refine sim_cut (S := List UInt8) (Unit) (fun s y => [(0, .bool x0), (1, str s), (5, .pointer (some ⟨b1v, 0, none⟩)), (8, .pointer (some ⟨b2v, 0, none⟩))]) (fun s y => [obj b2v 33 [.int .i64 0, str ([] : List UInt8)], obj b1v 35 [.int .i64 x2_0, .int .i64 x2_1, .int .i64 x2_2, str x2_3, str x2_4, str x2_5, .int .i64 x2_6, .int .i64 x2_7, .int .i64 x2_8, str x2_9], F]) ?_ ?_
 refine sim_seq (sim_region ?_)
 refine simL_val (q_move rfl rfl) rfl rfl rfl ?_
 refine simL_val (q_not rfl rfl) rfl rfl rfl (simL_nil (nrm_then ?_))
 refine sim_condb rfl (fun h5v => ?_) (fun h6v => ?_)
 refine sim_region ?_
 refine simL_val (q_asg rfl rfl) rfl rfl rfl (simL_nil ?_)
 exact nrm_cut (s := ([] : List UInt8)) () ⟨rfl, rfl, rfl, rfl, trivial⟩ (.sel 0 rfl (.sel 0 rfl (.sel 0 rfl (.nil _))))
 refine sim_skip ?_
 exact nrm_cut (s := x1) () ⟨rfl, rfl, rfl, rfl, trivial⟩ (.sel 0 rfl (.sel 0 rfl (.sel 0 rfl (.nil _))))
 intro s3v y4v
 refine sim_seq (sim_region ?_)
 refine simL_val (q_build (v := .agg #[.int .i64 1, str ([] : List UInt8)]) rfl rfl (fun _ => by kernel_rfl)) rfl rfl rfl ?_
 refine simL_val (q_build (v := .agg #[.int .i64 2, str ([] : List UInt8)]) rfl rfl (fun _ => by kernel_rfl)) rfl rfl rfl ?_
 refine simL_eff (re_alloc rfl Try.zeroValue33 rfl) rfl rfl rfl ?_
 intro b7v
 refine simL_eff (re_alloc rfl Try.zeroValue33 rfl) rfl rfl rfl ?_
 intro b8v
 refine simL_do (re_store 1 rfl rfl rfl Try.sizeOf33 rfl rfl (one_of (by rfl)) rfl rfl) rfl rfl ?_
 intro _
 refine simL_do (re_store 0 rfl rfl rfl Try.sizeOf33 rfl rfl (one_of (by rfl)) rfl rfl) rfl rfl ?_
 intro _
 refine simL_nil (nrm_then (sim_seq (sim_seq (sim_region ?_))))
 refine simL_val (q_fa rfl rfl Try.underlying35 rfl rfl Try.sizeOf3 rfl) rfl rfl rfl ?_
 refine simL_val (q_load rfl rfl Try.isAgg3 (.obj 3 rfl rfl)) rfl rfl rfl (simL_nil (nrm_then ?_))
 refine sim_block ?_
 refine sim_seq (sim_region ?_)
 refine simL_val (q_eql rfl rfl rfl) rfl rfl rfl ?_
 refine simL_val (q_asg rfl rfl) rfl rfl rfl (simL_nil (nrm_then ?_))
 refine sim_cond rfl (fun h9v => ?_) (fun h10v => ?_)
 refine sim_seq (sim_seq (sim_region ?_))
 refine simL_val (q_move rfl rfl) rfl rfl rfl (simL_nil (nrm_then ?_))
 refine sim_condb rfl (fun h11v => ?_) (fun h12v => ?_)
 refine sim_seq (sim_region ?_)
 refine simL_val (q_move rfl rfl) rfl rfl rfl ?_
 refine simL_val (q_move rfl rfl) rfl rfl rfl ?_
 refine simL_val (q_build (v := .agg #[.int .i64 1, str s3v]) rfl rfl (fun _ => by kernel_rfl)) rfl rfl rfl ?_
 refine simL_val (q_asg rfl rfl) rfl rfl rfl ?_
 refine simL_val (q_asg rfl rfl) rfl rfl rfl ?_
 refine simL_do (re_store 2 rfl rfl rfl Try.sizeOf33 rfl rfl (one_of (by rfl)) rfl rfl) rfl rfl ?_
 intro _
 refine simL_nil (nrm_then (sim_rtn ?_))
 refine rtn_then ?_
 refine rtn_block ?_
 refine rtn_then ?_
 exact rtn_fnC (vs := [.bool true, str s3v, .agg #[.int .i64 1, str s3v]]) () rfl ⟨rfl, rfl, ⟨b2v, rfl, load_agg 2 Try.isAgg33 Try.sizeOf33 rfl rfl⟩, trivial⟩ rfl (.sel 4 rfl (.nil _))
 refine sim_skip ?_
 refine nrm_then (sim_seq ?_)
 refine sim_draw (Γ := Unit) () [[], [], [1], [0, 1, 2]] [3] [0, 1, 2] (fun i => [[0], [0], [0], []].getD i []) (fun i => [[], [], [], [0, 1, 2]].getD i []) (fun γ i => [.agg #[.int .i64 2, str ([] : List UInt8)], .bool false, str ([] : List UInt8), undef].getD i undef) (fun j γ => [[obj b8v 33 [.int .i64 2, str ([] : List UInt8)], obj b7v 33 [.int .i64 1, str ([] : List UInt8)], obj b2v 33 [.int .i64 0, str ([] : List UInt8)], obj b1v 35 [.int .i64 x2_0, .int .i64 x2_1, .int .i64 x2_2, str x2_3, str x2_4, str x2_5, .int .i64 x2_6, .int .i64 x2_7, .int .i64 x2_8, str x2_9], F], [obj b8v 33 [.int .i64 2, str ([] : List UInt8)], obj b7v 33 [.int .i64 1, str ([] : List UInt8)], obj b2v 33 [.int .i64 2, str ([] : List UInt8)], obj b1v 35 [.int .i64 x2_0, .int .i64 x2_1, .int .i64 x2_2, str x2_3, str x2_4, str x2_5, .int .i64 x2_6, .int .i64 x2_7, .int .i64 x2_8, str x2_9], F]].getD j []) (fun γ => [(6, .bool false), (7, str ([] : List UInt8)), (8, .pointer (some ⟨b2v, 0, none⟩))]) mixed (by decide) (by decide) (by decide) (by decide) (by decide) (by decide) (by decide) 52 rfl (by decide) (by decide) (by decide) (Ent.refl _) ?_ ?_ (fun _ => ⟨rfl, rfl, rfl, trivial⟩) ?_
 exact (All.cons (fun γ => (All.cons (QOb.plain [(10, .pointer (some ⟨b8v, 0, none⟩))] rfl rfl (.o rfl (by decide) .nil) (q_loado 0 rfl rfl Try.isAgg33 Try.sizeOf33 rfl rfl) rfl) All.nil)) (All.cons (fun γ => (All.cons (QOb.plain [] rfl rfl .nil (q_asg rfl rfl) rfl) All.nil)) (All.cons (fun γ => (All.cons (QOb.plain [] rfl rfl .nil (q_asg rfl rfl) rfl) All.nil)) All.nil)))
 exact (All.cons (fun γ => EOb.mk (Z := Unit) [(8, .pointer (some ⟨b2v, 0, none⟩)), (23, .agg #[.int .i64 2, str ([] : List UInt8)])] (fun z => ()) rfl rfl (.o rfl (by decide) (.w 0 rfl rfl rfl .nil)) (re_store 2 rfl rfl rfl Try.sizeOf33 rfl rfl (one_of (by rfl)) rfl rfl) (fun _ => ⟨rfl, rfl, rfl, trivial⟩) (fun _ => .inl rfl) (fun z => Ent.refl _)) All.nil)
 intro g13v
 refine nrm_then (sim_rtn ?_)
 refine rtn_block ?_
 refine rtn_then ?_
 exact rtn_fnC (vs := [.bool false, str ([] : List UInt8), .agg #[.int .i64 2, str ([] : List UInt8)]]) () rfl ⟨rfl, rfl, ⟨b2v, rfl, load_agg 2 Try.isAgg33 Try.sizeOf33 rfl rfl⟩, trivial⟩ rfl (.sel 4 rfl (.nil _))
 refine sim_seq (sim_region ?_)
 refine simL_val (q_eql rfl rfl rfl) rfl rfl rfl ?_
 refine simL_val (q_asg rfl rfl) rfl rfl rfl (simL_nil (nrm_then ?_))
 refine sim_cond rfl (fun h14v => ?_) (fun h15v => ?_)
 refine sim_seq ?_
 refine sim_draw (Γ := Unit) () [[], [0], [], [], [0, 1, 3], [0, 1, 2, 3, 4]] [5] [0, 1, 2, 3, 4] (fun i => [[0], [0], [0], [0], [0], []].getD i []) (fun i => [[], [], [], [], [], [0, 1, 2, 3, 4]].getD i []) (fun γ i => [.pointer (some ⟨b1v, 4, none⟩), str x2_4, .agg #[.int .i64 1, str ([] : List UInt8)], .bool true, str x2_4, undef].getD i undef) (fun j γ => [[obj b8v 33 [.int .i64 2, str ([] : List UInt8)], obj b7v 33 [.int .i64 1, str ([] : List UInt8)], obj b2v 33 [.int .i64 0, str ([] : List UInt8)], obj b1v 35 [.int .i64 x2_0, .int .i64 x2_1, .int .i64 x2_2, str x2_3, str x2_4, str x2_5, .int .i64 x2_6, .int .i64 x2_7, .int .i64 x2_8, str x2_9], F], [obj b8v 33 [.int .i64 2, str ([] : List UInt8)], obj b7v 33 [.int .i64 1, str ([] : List UInt8)], obj b2v 33 [.int .i64 1, str ([] : List UInt8)], obj b1v 35 [.int .i64 x2_0, .int .i64 x2_1, .int .i64 x2_2, str x2_3, str x2_4, str x2_5, .int .i64 x2_6, .int .i64 x2_7, .int .i64 x2_8, str x2_9], F]].getD j []) (fun γ => [(6, .bool true), (7, str x2_4), (8, .pointer (some ⟨b2v, 0, none⟩))]) mixed (by decide) (by decide) (by decide) (by decide) (by decide) (by decide) (by decide) 52 rfl (by decide) (by decide) (by decide) (Ent.refl _) ?_ ?_ (fun _ => ⟨rfl, rfl, rfl, trivial⟩) ?_
 exact (All.cons (fun γ => (All.cons (QOb.plain [(5, .pointer (some ⟨b1v, 0, none⟩))] rfl rfl (.o rfl (by decide) .nil) (q_fa rfl rfl Try.underlying35 rfl rfl Try.sizeOf9 rfl) rfl) All.nil)) (All.cons (fun γ => (All.cons (QOb.plain [(26, .pointer (some ⟨b1v, 4, none⟩))] rfl rfl (.w 0 rfl rfl rfl .nil) (q_load rfl rfl Try.isAgg9 (.obj 3 rfl rfl)) rfl) All.nil)) (All.cons (fun γ => (All.cons (QOb.plain [(9, .pointer (some ⟨b7v, 0, none⟩))] rfl rfl (.o rfl (by decide) .nil) (q_loado 1 rfl rfl Try.isAgg33 Try.sizeOf33 rfl rfl) rfl) All.nil)) (All.cons (fun γ => (All.cons (QOb.plain [] rfl rfl .nil (q_asg rfl rfl) rfl) All.nil)) (All.cons (fun γ => (All.cons (QOb.plain [(27, str x2_4)] rfl rfl (.w 1 rfl rfl rfl .nil) (q_asg rfl rfl) rfl) All.nil)) All.nil)))))
 exact (All.cons (fun γ => EOb.mk (Z := Unit) [(8, .pointer (some ⟨b2v, 0, none⟩)), (28, .agg #[.int .i64 1, str ([] : List UInt8)])] (fun z => ()) rfl rfl (.o rfl (by decide) (.w 2 rfl rfl rfl .nil)) (re_store 2 rfl rfl rfl Try.sizeOf33 rfl rfl (one_of (by rfl)) rfl rfl) (fun _ => ⟨rfl, rfl, rfl, rfl, rfl, trivial⟩) (fun _ => .inl rfl) (fun z => Ent.refl _)) All.nil)
 intro g16v
 refine nrm_then (sim_rtn ?_)
 refine rtn_block ?_
 refine rtn_then ?_
 exact rtn_fnC (vs := [.bool true, str x2_4, .agg #[.int .i64 1, str ([] : List UInt8)]]) () rfl ⟨rfl, rfl, ⟨b2v, rfl, load_agg 2 Try.isAgg33 Try.sizeOf33 rfl rfl⟩, trivial⟩ rfl (.sel 4 rfl (.nil _))
 refine sim_seq (sim_region ?_)
 refine simL_val (q_eql rfl rfl rfl) rfl rfl rfl ?_
 refine simL_val (q_asg rfl rfl) rfl rfl rfl (simL_nil (nrm_then ?_))
 refine sim_cond rfl (fun h17v => ?_) (fun h18v => ?_)
 refine sim_seq (sim_seq (sim_region ?_))
 refine simL_val (q_move rfl rfl) rfl rfl rfl (simL_nil (nrm_then ?_))
 refine sim_condb rfl (fun h19v => ?_) (fun h20v => ?_)
 refine sim_seq ?_
 refine sim_draw (Γ := Unit) () [[], [], [1], [0, 1, 2]] [3] [0, 1, 2] (fun i => [[0], [0], [0], []].getD i []) (fun i => [[], [], [], [0, 1, 2]].getD i []) (fun γ i => [.agg #[.int .i64 1, str ([] : List UInt8)], .bool false, str ([] : List UInt8), undef].getD i undef) (fun j γ => [[obj b8v 33 [.int .i64 2, str ([] : List UInt8)], obj b7v 33 [.int .i64 1, str ([] : List UInt8)], obj b2v 33 [.int .i64 0, str ([] : List UInt8)], obj b1v 35 [.int .i64 x2_0, .int .i64 x2_1, .int .i64 x2_2, str x2_3, str x2_4, str x2_5, .int .i64 x2_6, .int .i64 x2_7, .int .i64 x2_8, str x2_9], F], [obj b8v 33 [.int .i64 2, str ([] : List UInt8)], obj b7v 33 [.int .i64 1, str ([] : List UInt8)], obj b2v 33 [.int .i64 1, str ([] : List UInt8)], obj b1v 35 [.int .i64 x2_0, .int .i64 x2_1, .int .i64 x2_2, str x2_3, str x2_4, str x2_5, .int .i64 x2_6, .int .i64 x2_7, .int .i64 x2_8, str x2_9], F]].getD j []) (fun γ => [(6, .bool false), (7, str ([] : List UInt8)), (8, .pointer (some ⟨b2v, 0, none⟩))]) mixed (by decide) (by decide) (by decide) (by decide) (by decide) (by decide) (by decide) 52 rfl (by decide) (by decide) (by decide) (Ent.refl _) ?_ ?_ (fun _ => ⟨rfl, rfl, rfl, trivial⟩) ?_
 exact (All.cons (fun γ => (All.cons (QOb.plain [(9, .pointer (some ⟨b7v, 0, none⟩))] rfl rfl (.o rfl (by decide) .nil) (q_loado 1 rfl rfl Try.isAgg33 Try.sizeOf33 rfl rfl) rfl) All.nil)) (All.cons (fun γ => (All.cons (QOb.plain [] rfl rfl .nil (q_asg rfl rfl) rfl) All.nil)) (All.cons (fun γ => (All.cons (QOb.plain [] rfl rfl .nil (q_asg rfl rfl) rfl) All.nil)) All.nil)))
 exact (All.cons (fun γ => EOb.mk (Z := Unit) [(8, .pointer (some ⟨b2v, 0, none⟩)), (32, .agg #[.int .i64 1, str ([] : List UInt8)])] (fun z => ()) rfl rfl (.o rfl (by decide) (.w 0 rfl rfl rfl .nil)) (re_store 2 rfl rfl rfl Try.sizeOf33 rfl rfl (one_of (by rfl)) rfl rfl) (fun _ => ⟨rfl, rfl, rfl, trivial⟩) (fun _ => .inl rfl) (fun z => Ent.refl _)) All.nil)
 intro g21v
 refine nrm_then (sim_rtn ?_)
 refine rtn_then ?_
 refine rtn_block ?_
 refine rtn_then ?_
 exact rtn_fnC (vs := [.bool false, str ([] : List UInt8), .agg #[.int .i64 1, str ([] : List UInt8)]]) () rfl ⟨rfl, rfl, ⟨b2v, rfl, load_agg 2 Try.isAgg33 Try.sizeOf33 rfl rfl⟩, trivial⟩ rfl (.sel 4 rfl (.nil _))
 refine sim_skip ?_
 refine nrm_then (sim_seq ?_)
 refine sim_draw (Γ := Unit) () [[], [], [1], [0, 1, 2]] [3] [0, 1, 2] (fun i => [[0], [0], [0], []].getD i []) (fun i => [[], [], [], [0, 1, 2]].getD i []) (fun γ i => [.agg #[.int .i64 2, str ([] : List UInt8)], .bool false, str ([] : List UInt8), undef].getD i undef) (fun j γ => [[obj b8v 33 [.int .i64 2, str ([] : List UInt8)], obj b7v 33 [.int .i64 1, str ([] : List UInt8)], obj b2v 33 [.int .i64 0, str ([] : List UInt8)], obj b1v 35 [.int .i64 x2_0, .int .i64 x2_1, .int .i64 x2_2, str x2_3, str x2_4, str x2_5, .int .i64 x2_6, .int .i64 x2_7, .int .i64 x2_8, str x2_9], F], [obj b8v 33 [.int .i64 2, str ([] : List UInt8)], obj b7v 33 [.int .i64 1, str ([] : List UInt8)], obj b2v 33 [.int .i64 2, str ([] : List UInt8)], obj b1v 35 [.int .i64 x2_0, .int .i64 x2_1, .int .i64 x2_2, str x2_3, str x2_4, str x2_5, .int .i64 x2_6, .int .i64 x2_7, .int .i64 x2_8, str x2_9], F]].getD j []) (fun γ => [(6, .bool false), (7, str ([] : List UInt8)), (8, .pointer (some ⟨b2v, 0, none⟩))]) mixed (by decide) (by decide) (by decide) (by decide) (by decide) (by decide) (by decide) 52 rfl (by decide) (by decide) (by decide) (Ent.refl _) ?_ ?_ (fun _ => ⟨rfl, rfl, rfl, trivial⟩) ?_
 exact (All.cons (fun γ => (All.cons (QOb.plain [(10, .pointer (some ⟨b8v, 0, none⟩))] rfl rfl (.o rfl (by decide) .nil) (q_loado 0 rfl rfl Try.isAgg33 Try.sizeOf33 rfl rfl) rfl) All.nil)) (All.cons (fun γ => (All.cons (QOb.plain [] rfl rfl .nil (q_asg rfl rfl) rfl) All.nil)) (All.cons (fun γ => (All.cons (QOb.plain [] rfl rfl .nil (q_asg rfl rfl) rfl) All.nil)) All.nil)))
 exact (All.cons (fun γ => EOb.mk (Z := Unit) [(8, .pointer (some ⟨b2v, 0, none⟩)), (33, .agg #[.int .i64 2, str ([] : List UInt8)])] (fun z => ()) rfl rfl (.o rfl (by decide) (.w 0 rfl rfl rfl .nil)) (re_store 2 rfl rfl rfl Try.sizeOf33 rfl rfl (one_of (by rfl)) rfl rfl) (fun _ => ⟨rfl, rfl, rfl, trivial⟩) (fun _ => .inl rfl) (fun z => Ent.refl _)) All.nil)
 intro g22v
 refine nrm_then (sim_rtn ?_)
 refine rtn_block ?_
 refine rtn_then ?_
 exact rtn_fnC (vs := [.bool false, str ([] : List UInt8), .agg #[.int .i64 2, str ([] : List UInt8)]]) () rfl ⟨rfl, rfl, ⟨b2v, rfl, load_agg 2 Try.isAgg33 Try.sizeOf33 rfl rfl⟩, trivial⟩ rfl (.sel 4 rfl (.nil _))
 refine sim_seq (sim_region ?_)
 refine simL_val (q_eql rfl rfl rfl) rfl rfl rfl ?_
 refine simL_val (q_asg rfl rfl) rfl rfl rfl (simL_nil (nrm_then ?_))
 refine sim_cond rfl (fun h23v => ?_) (fun h24v => ?_)
 refine sim_seq (sim_seq (sim_region ?_))
 refine simL_val (q_move rfl rfl) rfl rfl rfl ?_
 refine simL_val (q_not rfl rfl) rfl rfl rfl (simL_nil (nrm_then ?_))
 refine sim_condb rfl (fun h25v => ?_) (fun h26v => ?_)
 refine sim_seq ?_
 refine sim_draw (Γ := Unit) () [[], [], [1], [0, 1, 2]] [3] [0, 1, 2] (fun i => [[0], [0], [0], []].getD i []) (fun i => [[], [], [], [0, 1, 2]].getD i []) (fun γ i => [.agg #[.int .i64 2, str ([] : List UInt8)], .bool false, str ([] : List UInt8), undef].getD i undef) (fun j γ => [[obj b8v 33 [.int .i64 2, str ([] : List UInt8)], obj b7v 33 [.int .i64 1, str ([] : List UInt8)], obj b2v 33 [.int .i64 0, str ([] : List UInt8)], obj b1v 35 [.int .i64 x2_0, .int .i64 x2_1, .int .i64 x2_2, str x2_3, str x2_4, str x2_5, .int .i64 x2_6, .int .i64 x2_7, .int .i64 x2_8, str x2_9], F], [obj b8v 33 [.int .i64 2, str ([] : List UInt8)], obj b7v 33 [.int .i64 1, str ([] : List UInt8)], obj b2v 33 [.int .i64 2, str ([] : List UInt8)], obj b1v 35 [.int .i64 x2_0, .int .i64 x2_1, .int .i64 x2_2, str x2_3, str x2_4, str x2_5, .int .i64 x2_6, .int .i64 x2_7, .int .i64 x2_8, str x2_9], F]].getD j []) (fun γ => [(6, .bool false), (7, str ([] : List UInt8)), (8, .pointer (some ⟨b2v, 0, none⟩))]) mixed (by decide) (by decide) (by decide) (by decide) (by decide) (by decide) (by decide) 52 rfl (by decide) (by decide) (by decide) (Ent.refl _) ?_ ?_ (fun _ => ⟨rfl, rfl, rfl, trivial⟩) ?_
 exact (All.cons (fun γ => (All.cons (QOb.plain [(10, .pointer (some ⟨b8v, 0, none⟩))] rfl rfl (.o rfl (by decide) .nil) (q_loado 0 rfl rfl Try.isAgg33 Try.sizeOf33 rfl rfl) rfl) All.nil)) (All.cons (fun γ => (All.cons (QOb.plain [] rfl rfl .nil (q_asg rfl rfl) rfl) All.nil)) (All.cons (fun γ => (All.cons (QOb.plain [] rfl rfl .nil (q_asg rfl rfl) rfl) All.nil)) All.nil)))
 exact (All.cons (fun γ => EOb.mk (Z := Unit) [(8, .pointer (some ⟨b2v, 0, none⟩)), (38, .agg #[.int .i64 2, str ([] : List UInt8)])] (fun z => ()) rfl rfl (.o rfl (by decide) (.w 0 rfl rfl rfl .nil)) (re_store 2 rfl rfl rfl Try.sizeOf33 rfl rfl (one_of (by rfl)) rfl rfl) (fun _ => ⟨rfl, rfl, rfl, trivial⟩) (fun _ => .inl rfl) (fun z => Ent.refl _)) All.nil)
 intro g27v
 refine nrm_then (sim_rtn ?_)
 refine rtn_then ?_
 refine rtn_block ?_
 refine rtn_then ?_
 exact rtn_fnC (vs := [.bool false, str ([] : List UInt8), .agg #[.int .i64 2, str ([] : List UInt8)]]) () rfl ⟨rfl, rfl, ⟨b2v, rfl, load_agg 2 Try.isAgg33 Try.sizeOf33 rfl rfl⟩, trivial⟩ rfl (.sel 4 rfl (.nil _))
 refine sim_skip ?_
 refine nrm_then (sim_seq (sim_seq (sim_region ?_)))
 refine simL_val (q_move rfl rfl) rfl rfl rfl ?_
 refine simL_val (q_fa rfl rfl Try.underlying35 rfl rfl Try.sizeOf9 rfl) rfl rfl rfl ?_
 refine simL_val (q_load rfl rfl Try.isAgg9 (.obj 3 rfl rfl)) rfl rfl rfl ?_
 refine simL_val (q_nes rfl rfl rfl) rfl rfl rfl (simL_nil (nrm_then ?_))
 refine sim_condn rfl (fun h28v => ?_) (fun h29v => ?_)
 refine sim_skip ?_
 refine nrm_then (sim_seq ?_)
 refine sim_draw (Γ := Unit) () [[], [0], [], [], [0, 1, 3], [0, 1, 2, 3, 4]] [5] [0, 1, 2, 3, 4] (fun i => [[0], [0], [0], [0], [0], []].getD i []) (fun i => [[], [], [], [], [], [0, 1, 2, 3, 4]].getD i []) (fun γ i => [.pointer (some ⟨b1v, 4, none⟩), str x2_4, .agg #[.int .i64 1, str ([] : List UInt8)], .bool true, str x2_4, undef].getD i undef) (fun j γ => [[obj b8v 33 [.int .i64 2, str ([] : List UInt8)], obj b7v 33 [.int .i64 1, str ([] : List UInt8)], obj b2v 33 [.int .i64 0, str ([] : List UInt8)], obj b1v 35 [.int .i64 x2_0, .int .i64 x2_1, .int .i64 x2_2, str x2_3, str x2_4, str x2_5, .int .i64 x2_6, .int .i64 x2_7, .int .i64 x2_8, str x2_9], F], [obj b8v 33 [.int .i64 2, str ([] : List UInt8)], obj b7v 33 [.int .i64 1, str ([] : List UInt8)], obj b2v 33 [.int .i64 1, str ([] : List UInt8)], obj b1v 35 [.int .i64 x2_0, .int .i64 x2_1, .int .i64 x2_2, str x2_3, str x2_4, str x2_5, .int .i64 x2_6, .int .i64 x2_7, .int .i64 x2_8, str x2_9], F]].getD j []) (fun γ => [(6, .bool true), (7, str x2_4), (8, .pointer (some ⟨b2v, 0, none⟩))]) mixed (by decide) (by decide) (by decide) (by decide) (by decide) (by decide) (by decide) 52 rfl (by decide) (by decide) (by decide) (Ent.refl _) ?_ ?_ (fun _ => ⟨rfl, rfl, rfl, trivial⟩) ?_
 exact (All.cons (fun γ => (All.cons (QOb.plain [(5, .pointer (some ⟨b1v, 0, none⟩))] rfl rfl (.o rfl (by decide) .nil) (q_fa rfl rfl Try.underlying35 rfl rfl Try.sizeOf9 rfl) rfl) All.nil)) (All.cons (fun γ => (All.cons (QOb.plain [(46, .pointer (some ⟨b1v, 4, none⟩))] rfl rfl (.w 0 rfl rfl rfl .nil) (q_load rfl rfl Try.isAgg9 (.obj 3 rfl rfl)) rfl) All.nil)) (All.cons (fun γ => (All.cons (QOb.plain [(9, .pointer (some ⟨b7v, 0, none⟩))] rfl rfl (.o rfl (by decide) .nil) (q_loado 1 rfl rfl Try.isAgg33 Try.sizeOf33 rfl rfl) rfl) All.nil)) (All.cons (fun γ => (All.cons (QOb.plain [] rfl rfl .nil (q_asg rfl rfl) rfl) All.nil)) (All.cons (fun γ => (All.cons (QOb.plain [(47, str x2_4)] rfl rfl (.w 1 rfl rfl rfl .nil) (q_asg rfl rfl) rfl) All.nil)) All.nil)))))
 exact (All.cons (fun γ => EOb.mk (Z := Unit) [(8, .pointer (some ⟨b2v, 0, none⟩)), (48, .agg #[.int .i64 1, str ([] : List UInt8)])] (fun z => ()) rfl rfl (.o rfl (by decide) (.w 2 rfl rfl rfl .nil)) (re_store 2 rfl rfl rfl Try.sizeOf33 rfl rfl (one_of (by rfl)) rfl rfl) (fun _ => ⟨rfl, rfl, rfl, rfl, rfl, trivial⟩) (fun _ => .inl rfl) (fun z => Ent.refl _)) All.nil)
 intro g30v
 refine nrm_then (sim_rtn ?_)
 refine rtn_block ?_
 refine rtn_then ?_
 exact rtn_fnC (vs := [.bool true, str x2_4, .agg #[.int .i64 1, str ([] : List UInt8)]]) () rfl ⟨rfl, rfl, ⟨b2v, rfl, load_agg 2 Try.isAgg33 Try.sizeOf33 rfl rfl⟩, trivial⟩ rfl (.sel 4 rfl (.nil _))
 refine sim_seq (sim_region ?_)
 refine simL_val (q_move rfl rfl) rfl rfl rfl ?_
 refine simL_val (q_move rfl rfl) rfl rfl rfl ?_
 refine simL_val (q_build (v := .agg #[.int .i64 3, str s3v]) rfl rfl (fun _ => by kernel_rfl)) rfl rfl rfl ?_
 refine simL_val (q_asg rfl rfl) rfl rfl rfl ?_
 refine simL_val (q_asg rfl rfl) rfl rfl rfl ?_
 refine simL_do (re_store 2 rfl rfl rfl Try.sizeOf33 rfl rfl (one_of (by rfl)) rfl rfl) rfl rfl ?_
 intro _
 refine simL_nil (nrm_then (sim_rtn ?_))
 refine rtn_then ?_
 refine rtn_block ?_
 refine rtn_then ?_
 exact rtn_fnC (vs := [.bool true, str s3v, .agg #[.int .i64 3, str s3v]]) () rfl ⟨rfl, rfl, ⟨b2v, rfl, load_agg 2 Try.isAgg33 Try.sizeOf33 rfl rfl⟩, trivial⟩ rfl (.sel 4 rfl (.nil _))
 refine sim_skip ?_
 refine nrm_block (nrm_then (sim_seq (sim_region ?_)))
 refine simL_val (q_move rfl rfl) rfl rfl rfl ?_
 refine simL_val (q_move rfl rfl) rfl rfl rfl ?_
 refine simL_val (q_build (v := .agg #[.int .i64 0, str ([] : List UInt8)]) rfl rfl (fun _ => by kernel_rfl)) rfl rfl rfl ?_
 refine simL_val (q_asg rfl rfl) rfl rfl rfl ?_
 refine simL_val (q_asg rfl rfl) rfl rfl rfl ?_
 refine simL_do (re_store 2 rfl rfl rfl Try.sizeOf33 rfl rfl (one_of (by rfl)) rfl rfl) rfl rfl ?_
 intro _
 refine simL_nil (nrm_then (sim_rtn ?_))
 exact rtn_fnC (vs := [.bool x0, str s3v, .agg #[.int .i64 0, str ([] : List UInt8)]]) () rfl ⟨rfl, rfl, ⟨b2v, rfl, load_agg 2 Try.isAgg33 Try.sizeOf33 rfl rfl⟩, trivial⟩ rfl (.sel 4 rfl (.nil _))
def lin_Step.v (x0 : Bool) (x1 : List UInt8) (x2_0 : Int) (x2_1 : Int) (x2_2 : Int) (x2_3 : List UInt8) (x2_4 : List UInt8) (x2_5 : List UInt8) (x2_6 : Int) (x2_7 : Int) (x2_8 : Int) (x2_9 : List UInt8) : Bool × List UInt8 × Int × List UInt8 := (lin_Step.f x0 x1 x2_0 x2_1 x2_2 x2_3 x2_4 x2_5 x2_6 x2_7 x2_8 x2_9).getD (false, [], 0, [])
theorem lin_Step.tot (x0 : Bool) (x1 : List UInt8) (x2_0 : Int) (x2_1 : Int) (x2_2 : Int) (x2_3 : List UInt8) (x2_4 : List UInt8) (x2_5 : List UInt8) (x2_6 : Int) (x2_7 : Int) (x2_8 : Int) (x2_9 : List UInt8) : lin_Step.f x0 x1 x2_0 x2_1 x2_2 x2_3 x2_4 x2_5 x2_6 x2_7 x2_8 x2_9 = some (lin_Step.v x0 x1 x2_0 x2_1 x2_2 x2_3 x2_4 x2_5 x2_6 x2_7 x2_8 x2_9) := by
  have h : ∃ r, lin_Step.f x0 x1 x2_0 x2_1 x2_2 x2_3 x2_4 x2_5 x2_6 x2_7 x2_8 x2_9 = some r := by
    unfold lin_Step.f
    repeat' (first | exact ⟨_, rfl⟩ | split | simp only [Option.bind_some])
  obtain ⟨r, h⟩ := h
  unfold lin_Step.v
  rw [h]; rfl
end Go.Proofs.Ytlblpegbgbgliaa

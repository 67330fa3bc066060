/- Texts that lead to the law TextOpts: G6. Conditions: as each says. -/
import Derived.Test.YtbcnegennmpliaaDoorM6
namespace Go.Proofs.YtbcnegennmpliaaDoor
open Go.RowKit
set_option linter.unusedVariables false
set_option linter.unusedSimpArgs false
set_option maxRecDepth 20000
set_option maxHeartbeats 20000000
def synodref17_plain.f (x0 : Int) : Option (Bool) := some ((((decide ((32 : Int) ≤ x0)) && (decide (x0 ≤ (126 : Int)))) && (!decide (x0 = (34 : Int)))) && (!decide (x0 = (92 : Int))))
theorem synodref17_plain.calls (W : World) (F : HA) (x0 : Int)  :
    Fn Tryd.prog W 42 [.int .u8 x0] [] F (synodref17_plain.f x0) (fun (r : Bool) (y : Unit) => .bool r) (fun r y => []) := by
 unfold synodref17_plain.f
 refine fn_intro 17 Tryd.func42 rfl Tryd.ntmps42 rfl ?_
 refine sr ?_
 refine va rfl rfl (nx ?_)
 refine vm rfl rfl ?_
 refine vq (q_geq rfl rfl rfl) rfl ?_
 refine vm rfl rfl ?_
 refine simL_valc (b := decide ((32 : Int) ≤ x0)) (fun hb6v => RQ.sub (E' := [(0, .int .u8 x0)]) ⟨rfl, trivial⟩ (q_move rfl rfl)) rfl rfl rfl rfl rfl ?_
 refine simL_valc (b := decide ((32 : Int) ≤ x0)) (fun hb5v => RQ.sub (E' := [(6, .int .u8 x0)]) ⟨lk_cv rfl hb5v, trivial⟩ (q_leq rfl rfl rfl)) rfl rfl rfl rfl rfl ?_
 refine vq (q_and rfl rfl rfl) rfl ?_
 refine vm rfl rfl ?_
 refine simL_valc (b := (decide ((32 : Int) ≤ x0)) && (decide (x0 ≤ (126 : Int)))) (fun hb4v => RQ.sub (E' := [(0, .int .u8 x0)]) ⟨rfl, trivial⟩ (q_move rfl rfl)) rfl rfl rfl rfl rfl ?_
 refine simL_valc (b := (decide ((32 : Int) ≤ x0)) && (decide (x0 ≤ (126 : Int)))) (fun hb3v => RQ.sub (E' := [(10, .int .u8 x0)]) ⟨lk_cv rfl hb3v, trivial⟩ (q_neq rfl rfl rfl)) rfl rfl rfl rfl rfl ?_
 refine vq (q_and rfl rfl rfl) rfl ?_
 refine vm rfl rfl ?_
 refine simL_valc (b := ((decide ((32 : Int) ≤ x0)) && (decide (x0 ≤ (126 : Int)))) && (!decide (x0 = (34 : Int)))) (fun hb2v => RQ.sub (E' := [(0, .int .u8 x0)]) ⟨rfl, trivial⟩ (q_move rfl rfl)) rfl rfl rfl rfl rfl ?_
 refine simL_valc (b := ((decide ((32 : Int) ≤ x0)) && (decide (x0 ≤ (126 : Int)))) && (!decide (x0 = (34 : Int)))) (fun hb1v => RQ.sub (E' := [(14, .int .u8 x0)]) ⟨lk_cv rfl hb1v, trivial⟩ (q_neq rfl rfl rfl)) rfl rfl rfl rfl rfl ?_
 refine vq (q_and rfl rfl rfl) rfl ?_
 refine va rfl rfl (simL_nil (nrm_then (sim_rtn ?_)))
 exact rtn_fn () rfl rfl rfl (.sel 0 rfl (.nil _))

def synodref17_digit.f (x0 : Int) : Option (Int) := if 0 ≤ x0 ∧ x0 < (([48, 49, 50, 51, 52, 53, 54, 55, 56, 57, 97, 98, 99, 100, 101, 102] : List UInt8).length : Int) then (some ((([48, 49, 50, 51, 52, 53, 54, 55, 56, 57, 97, 98, 99, 100, 101, 102] : List UInt8).getD x0.toNat 0).toNat : Int)) else none
theorem synodref17_digit.calls (W : World) (F : HA) (x0 : Int)  :
    Fn Tryd.prog W 43 [.int .i64 x0] [] F (synodref17_digit.f x0) (fun (r : Int) (y : Unit) => .int .u8 r) (fun r y => []) := by
 unfold synodref17_digit.f
 refine fn_intro 5 Tryd.func43 rfl Tryd.ntmps43 rfl ?_
 refine sr ?_
 refine va rfl rfl (nx ?_)
 refine vm rfl rfl ?_
 refine simL_ask (fun hi1v => ?_)
 refine vq (q_sidx rfl rfl rfl Tryd.underlying9 hi1v.1 hi1v.2) rfl ?_
 refine va rfl rfl (simL_nil (nrm_then (sim_rtn ?_)))
 exact rtn_fn () rfl rfl rfl (.sel 0 rfl (.nil _))

def synodref17_value.l0 (x0 : Int) : Nat → Int → Option ((Unit) ⊕ (Int))
  | 0, _ => none
  | k + 1, z5v => if z5v < (16 : Int) then ((synodref17_digit.f z5v).bind fun s8v => (if s8v = x0 then (some (.inr z5v)) else (synodref17_value.l0 x0 k (IntKind.i64.wrap (z5v + 1))))) else (some (.inl ()))
def synodref17_value.f (k : Nat) (x0 : Int) : Option (Int) := orR (synodref17_value.l0 x0 k 0) fun s1v => (some (-1))
theorem synodref17_value.calls (W : World) (F : HA) (k : Nat) (x0 : Int)  :
    Fn Tryd.prog W 64 [.int .u8 x0] [] F (synodref17_value.f k x0) (fun (r : Int) (y : Unit) => .int .i64 r) (fun r y => []) := by
 unfold synodref17_value.f
 refine fn_intro 13 Tryd.func64 rfl Tryd.ntmps64 rfl ?_
 refine sr ?_
 refine va rfl rfl (simL_nil (nrm_then ?_))
 refine sim_cutR (S := Unit) (Unit) (fun s y => []) (fun s y => [F]) ?_ ?_
 refine sr ?_
 refine va rfl rfl (simL_nil (nrm_then ?_))
 refine sim_block ?_
 refine sim_loop (S := Int) (Unit) (fun k s => synodref17_value.l0 x0 k s) (fun s y => [(0, .int .u8 x0), (3, .int .i64 s)]) (fun s y => [F]) (fun _ => by rw [synodref17_value.l0]) ?_ k 0 () ⟨rfl, rfl, trivial⟩ (.sel 0 rfl (.nil _))
 intro k s3v y4v
 refine sim_eq (by rw [synodref17_value.l0]) ?_
 refine sim_seq (sr ?_)
 refine vm rfl rfl ?_
 refine vq (q_lss rfl rfl rfl) rfl (simL_nil (nrm_then ?_))
 refine sim_cond rfl (fun h6v => ?_) (fun h7v => ?_)
 refine sim_skip ?_
 refine nrm_then (sim_seq ?_)
 refine sim_block ?_
 refine sr ?_
 refine vm rfl rfl ?_
 refine simL_bind (fun s8v hs9v => ?_)
 refine simL_eff (re_call (vs := [.int .i64 s3v]) (cap := []) (A := []) (rst := [F]) rfl rfl rfl rfl rfl rfl Tryd.call43 (.sel 0 rfl (.nil _)) (synodref17_digit.calls _ _ s3v ) hs9v) rfl rfl rfl ?_
 intro y10v
 refine vm rfl rfl ?_
 refine vq (q_eql rfl rfl rfl) rfl (simL_nil (nrm_then ?_))
 refine sim_cond rfl (fun h11v => ?_) (fun h12v => ?_)
 refine sr ?_
 refine vm rfl rfl ?_
 refine va rfl rfl (simL_nil (nrm_then (sim_rtn ?_)))
 refine rtn_block ?_
 refine rtn_then ?_
 refine rtn_loop ?_
 refine rtn_block ?_
 refine rtn_cutR ?_
 exact rtn_fn () rfl rfl rfl (.sel 0 rfl (.nil _))
 refine sim_skip ?_
 refine nrm_block (nrm_then (sim_region ?_))
 refine vm rfl rfl ?_
 refine vq (q_add rfl rfl rfl) rfl ?_
 refine va rfl rfl (simL_nil ?_)
 exact nrm_again (s := IntKind.i64.wrap (s3v + 1)) () ⟨rfl, rfl, trivial⟩ (.sel 0 rfl (.nil _))
 refine sim_exi ?_
 refine exi_then ?_
 refine exi_loop ?_
 refine exi_here ?_
 exact nrm_cutR (s := ()) () trivial (.sel 0 rfl (.nil _))
 intro s1v y2v
 refine sr ?_
 refine va rfl rfl (simL_nil (nrm_then (sim_rtn ?_)))
 exact rtn_fn () rfl rfl rfl (.sel 0 rfl (.nil _))

def synodref17_quoted.l0 (x0 : List UInt8) : Nat → List UInt8 → Int → Option ((Unit) ⊕ (List UInt8 × Int))
  | 0, _, _ => none
  | k + 1, z5v, z6v => if z6v < (x0.length : Int) then (if 0 ≤ z6v ∧ z6v < (x0.length : Int) then (if ((x0.getD z6v.toNat 0).toNat : Int) = (34 : Int) then (some (.inr (z5v, IntKind.i64.wrap (z6v + 1)))) else ((synodref17_plain.f ((x0.getD z6v.toNat 0).toNat : Int)).bind fun s12v => (if s12v = true then (if (z5v.length + ([(x0.getD z6v.toNat 0)] : List UInt8).length) * 1 ≤ 140737488355328 then (synodref17_quoted.l0 x0 k (z5v ++ ([(x0.getD z6v.toNat 0)] : List UInt8)) (IntKind.i64.wrap (z6v + 1))) else none) else (if ((!decide (((x0.getD z6v.toNat 0).toNat : Int) = (92 : Int))) || (decide ((x0.length : Int) ≤ IntKind.i64.wrap (z6v + 1)))) = true then (some (.inr (([] : List UInt8), (-1)))) else (if 0 ≤ IntKind.i64.wrap (z6v + 1) ∧ IntKind.i64.wrap (z6v + 1) < (x0.length : Int) then (if ((decide (((x0.getD (IntKind.i64.wrap (z6v + 1)).toNat 0).toNat : Int) = (34 : Int))) || (decide (((x0.getD (IntKind.i64.wrap (z6v + 1)).toNat 0).toNat : Int) = (92 : Int)))) = true then (if (z5v.length + ([(x0.getD (IntKind.i64.wrap (z6v + 1)).toNat 0)] : List UInt8).length) * 1 ≤ 140737488355328 then (synodref17_quoted.l0 x0 k (z5v ++ ([(x0.getD (IntKind.i64.wrap (z6v + 1)).toNat 0)] : List UInt8)) (IntKind.i64.wrap (z6v + 2))) else none) else ((if ((!decide (((x0.getD (IntKind.i64.wrap (z6v + 1)).toNat 0).toNat : Int) = (120 : Int))) || (decide ((x0.length : Int) ≤ IntKind.i64.wrap (z6v + 3)))) = true then (some true) else (if 0 ≤ IntKind.i64.wrap (z6v + 2) ∧ IntKind.i64.wrap (z6v + 2) < (x0.length : Int) then ((synodref17_value.f k ((x0.getD (IntKind.i64.wrap (z6v + 2)).toNat 0).toNat : Int)).bind fun s33v => (some (decide (s33v < (0 : Int))))) else none)).bind fun s30v => ((if s30v = true then (some true) else (if 0 ≤ IntKind.i64.wrap (z6v + 3) ∧ IntKind.i64.wrap (z6v + 3) < (x0.length : Int) then ((synodref17_value.f k ((x0.getD (IntKind.i64.wrap (z6v + 3)).toNat 0).toNat : Int)).bind fun s41v => (some (decide (s41v < (0 : Int))))) else none)).bind fun s38v => (if s38v = true then (some (.inr (([] : List UInt8), (-1)))) else (if 0 ≤ IntKind.i64.wrap (z6v + 2) ∧ IntKind.i64.wrap (z6v + 2) < (x0.length : Int) then ((synodref17_value.f k ((x0.getD (IntKind.i64.wrap (z6v + 2)).toNat 0).toNat : Int)).bind fun s49v => (if 0 ≤ IntKind.i64.wrap (z6v + 3) ∧ IntKind.i64.wrap (z6v + 3) < (x0.length : Int) then ((synodref17_value.f k ((x0.getD (IntKind.i64.wrap (z6v + 3)).toNat 0).toNat : Int)).bind fun s53v => (if ((decide ((32 : Int) ≤ IntKind.u8.wrap (IntKind.i64.wrap ((IntKind.i64.wrap (16 * s49v)) + s53v)))) && (decide (IntKind.u8.wrap (IntKind.i64.wrap ((IntKind.i64.wrap (16 * s49v)) + s53v)) ≤ (126 : Int)))) = true then (some (.inr (([] : List UInt8), (-1)))) else (if 0 ≤ IntKind.u8.wrap (IntKind.i64.wrap ((IntKind.i64.wrap (16 * s49v)) + s53v)) ∧ IntKind.u8.wrap (IntKind.i64.wrap ((IntKind.i64.wrap (16 * s49v)) + s53v)) < 256 then (if (z5v.length + ([(byte (IntKind.u8.wrap (IntKind.i64.wrap ((IntKind.i64.wrap (16 * s49v)) + s53v))))] : List UInt8).length) * 1 ≤ 140737488355328 then (synodref17_quoted.l0 x0 k (z5v ++ ([(byte (IntKind.u8.wrap (IntKind.i64.wrap ((IntKind.i64.wrap (16 * s49v)) + s53v))))] : List UInt8)) (IntKind.i64.wrap (z6v + 4))) else none) else none))) else none)) else none))))) else none))))) else none) else (some (.inl ()))
def synodref17_quoted.f (k : Nat) (x0 : List UInt8) (x1 : Int) : Option (List UInt8 × Int) := orR (synodref17_quoted.l0 x0 k ([] : List UInt8) (IntKind.i64.wrap (x1 + 1))) fun s1v => (some (([] : List UInt8), (-1)))
theorem synodref17_quoted.calls (W : World) (F : HA) (k : Nat) (x0 : List UInt8) (x1 : Int)  :
    Fn Tryd.prog W 39 [str x0, .int .i64 x1] [] F (synodref17_quoted.f k x0 x1) (fun (r : List UInt8 × Int) (y : Unit) => .tuple #[str r.1, .int .i64 r.2]) (fun r y => []) := by
 unfold synodref17_quoted.f
 refine fn_intro 109 Tryd.func39 rfl Tryd.ntmps39 rfl ?_
 refine sr ?_
 refine va rfl rfl ?_
 refine va rfl rfl (nx ?_)
 refine va rfl rfl (nx ?_)
 refine vm rfl rfl ?_
 refine vq (q_add rfl rfl rfl) rfl ?_
 refine va rfl rfl (simL_nil (nrm_then ?_))
 refine sim_cutR (S := Unit) (Unit) (fun s y => []) (fun s y => [F]) ?_ ?_
 refine sim_block ?_
 refine sim_loop (S := List UInt8 × Int) (Option Addr × Nat) (fun k s => synodref17_quoted.l0 x0 k s.1 s.2) (fun s y => [(0, str x0), (6, .slice y.1 s.1.length y.2), (7, .int .i64 s.2)]) (fun s y => [Row 5 1 y.1 s.1.length y.2 (encB s.1), F]) (fun _ => by rw [synodref17_quoted.l0]) ?_ k (([] : List UInt8), IntKind.i64.wrap (x1 + 1)) (none, 0) ⟨rfl, rfl, rfl, trivial⟩ (.row_nil (.sel 0 rfl (.nil _)))
 intro k s3v y4v
 refine sim_eq (by rw [synodref17_quoted.l0]) ?_
 refine sim_seq (sr ?_)
 refine vm rfl rfl ?_
 refine vm rfl rfl ?_
 refine vq (q_lens rfl rfl rfl Tryd.underlying9) rfl ?_
 refine vq (q_lss rfl rfl rfl) rfl (simL_nil (nrm_then ?_))
 refine sim_cond rfl (fun h7v => ?_) (fun h8v => ?_)
 refine sim_skip ?_
 refine nrm_then ?_
 refine sim_block ?_
 refine sr ?_
 refine vm rfl rfl ?_
 refine vm rfl rfl ?_
 refine simL_ask (fun hi9v => ?_)
 refine vq (q_sidx rfl rfl rfl Tryd.underlying9 hi9v.1 hi9v.2) rfl ?_
 refine va rfl rfl (simL_nil (nrm_then (sim_seq (sr ?_))))
 refine vm rfl rfl ?_
 refine vq (q_eql rfl rfl rfl) rfl (simL_nil (nrm_then ?_))
 refine sim_cond rfl (fun h10v => ?_) (fun h11v => ?_)
 refine sr ?_
 refine vm rfl rfl ?_
 refine vq (q_tostr rfl rfl Tryd.underlying93 Tryd.underlying5 Tryd.underlying9 (Rds.row 0 rfl) rfl) rfl ?_
 refine vm rfl rfl ?_
 refine vq (q_add rfl rfl rfl) rfl ?_
 refine va rfl rfl ?_
 refine va rfl rfl (simL_nil (nrm_then (sim_rtn ?_)))
 refine rtn_then ?_
 refine rtn_block ?_
 refine rtn_loop ?_
 refine rtn_block ?_
 refine rtn_cutR ?_
 exact rtn_fn () rfl rfl rfl (.sel 1 rfl (.nil _))
 refine sim_skip ?_
 refine nrm_then (sim_seq (sr ?_))
 refine vm rfl rfl ?_
 refine simL_bind (fun s12v hs13v => ?_)
 refine simL_eff (re_call (vs := [.int .u8 ((x0.getD s3v.2.toNat 0).toNat : Int)]) (cap := []) (A := []) (rst := [Row 5 1 y4v.1 s3v.1.length y4v.2 (encB s3v.1), F]) rfl rfl rfl rfl rfl rfl Tryd.call42 (.sel 0 rfl (.sel 0 rfl (.nil _))) (synodref17_plain.calls _ _ ((x0.getD s3v.2.toNat 0).toNat : Int) ) hs13v) rfl rfl rfl ?_
 intro y14v
 refine simL_nil (nrm_then ?_)
 refine sim_condb rfl (fun h15v => ?_) (fun h16v => ?_)
 refine sr ?_
 refine vm rfl rfl ?_
 refine vm rfl rfl ?_
 refine simL_eff (re_litb (cs := [.int .u8 ((x0.getD s3v.2.toNat 0).toNat : Int)]) ([(x0.getD s3v.2.toNat 0)] : List UInt8) rfl rfl Tryd.underlying93 elt5 rfl (by kernel_rfl) rfl rfl rfl) rfl rfl rfl ?_
 intro b17v
 refine simL_ask (fun hb20v => ?_)
 refine simL_eff (re_appendb 1 rfl rfl rfl Tryd.underlying93 elt5 rfl (Rds.row 0 rfl) hb20v) rfl rfl rfl ?_
 intro y19v
 refine va rfl rfl (nx ?_)
 refine vm rfl rfl ?_
 refine vq (q_add rfl rfl rfl) rfl ?_
 refine va rfl rfl (simL_nil (nrm_then ?_))
 refine sim_exi ?_
 refine exi_then ?_
 refine exi_here ?_
 exact nrm_again (s := (s3v.1 ++ ([(x0.getD s3v.2.toNat 0)] : List UInt8), IntKind.i64.wrap (s3v.2 + 1))) (y19v.1, y19v.2) ⟨rfl, rfl, rfl, trivial⟩ (.sel 1 rfl (.sel 1 rfl (.nil _)))
 refine sim_skip ?_
 refine nrm_then (sim_seq (sr ?_))
 refine vm rfl rfl ?_
 refine vq (q_neq rfl rfl rfl) rfl ?_
 refine vm rfl rfl ?_
 refine simL_valc (b := !decide (((x0.getD s3v.2.toNat 0).toNat : Int) = (92 : Int))) (fun hb76v => RQ.sub (E' := [(7, .int .i64 s3v.2)]) ⟨rfl, trivial⟩ (q_move rfl rfl)) rfl rfl rfl rfl rfl ?_
 refine simL_valc (b := !decide (((x0.getD s3v.2.toNat 0).toNat : Int) = (92 : Int))) (fun hb75v => RQ.sub (E' := [(37, .int .i64 s3v.2)]) ⟨lk_cv rfl hb75v, trivial⟩ (q_add rfl rfl rfl)) rfl rfl rfl rfl rfl ?_
 refine simL_valc (b := !decide (((x0.getD s3v.2.toNat 0).toNat : Int) = (92 : Int))) (fun hb74v => RQ.sub (E' := [(0, str x0)]) ⟨rfl, trivial⟩ (q_move rfl rfl)) rfl rfl rfl rfl rfl ?_
 refine simL_valc (b := !decide (((x0.getD s3v.2.toNat 0).toNat : Int) = (92 : Int))) (fun hb73v => RQ.sub (E' := [(39, str x0)]) ⟨lk_cv rfl hb73v, trivial⟩ (q_lens rfl rfl rfl Tryd.underlying9)) rfl rfl rfl rfl rfl ?_
 refine simL_valc (b := !decide (((x0.getD s3v.2.toNat 0).toNat : Int) = (92 : Int))) (fun hb72v => RQ.sub (E' := [(38, .int .i64 (IntKind.i64.wrap (s3v.2 + 1))), (40, .int .i64 (x0.length : Int))]) ⟨lk_cv rfl hb72v, lk_cv rfl hb72v, trivial⟩ (q_geq rfl rfl rfl)) rfl rfl rfl rfl rfl ?_
 refine vq (q_or rfl rfl rfl) rfl (simL_nil (nrm_then ?_))
 refine sim_condb rfl (fun h21v => ?_) (fun h22v => ?_)
 refine sr ?_
 refine va rfl rfl ?_
 refine va rfl rfl (simL_nil (nrm_then (sim_rtn ?_)))
 refine rtn_then ?_
 refine rtn_block ?_
 refine rtn_loop ?_
 refine rtn_block ?_
 refine rtn_cutR ?_
 exact rtn_fn () rfl rfl rfl (.sel 1 rfl (.nil _))
 refine sim_skip ?_
 refine nrm_then (sr ?_)
 refine vm rfl rfl ?_
 refine vm rfl rfl ?_
 refine vq (q_add rfl rfl rfl) rfl ?_
 refine simL_ask (fun hi23v => ?_)
 refine vq (q_sidx rfl rfl rfl Tryd.underlying9 hi23v.1 hi23v.2) rfl ?_
 refine va rfl rfl (simL_nil (nrm_then (sim_seq (sr ?_))))
 refine vm rfl rfl ?_
 refine vq (q_eql rfl rfl rfl) rfl ?_
 refine vm rfl rfl ?_
 refine simL_valc (b := decide (((x0.getD (IntKind.i64.wrap (s3v.2 + 1)).toNat 0).toNat : Int) = (34 : Int))) (fun hb71v => RQ.sub (E' := [(9, .int .u8 ((x0.getD (IntKind.i64.wrap (s3v.2 + 1)).toNat 0).toNat : Int))]) ⟨rfl, trivial⟩ (q_move rfl rfl)) rfl rfl rfl rfl rfl ?_
 refine simL_valc (b := decide (((x0.getD (IntKind.i64.wrap (s3v.2 + 1)).toNat 0).toNat : Int) = (34 : Int))) (fun hb70v => RQ.sub (E' := [(50, .int .u8 ((x0.getD (IntKind.i64.wrap (s3v.2 + 1)).toNat 0).toNat : Int))]) ⟨lk_cv rfl hb70v, trivial⟩ (q_eql rfl rfl rfl)) rfl rfl rfl rfl rfl ?_
 refine vq (q_or rfl rfl rfl) rfl (simL_nil (nrm_then ?_))
 refine sim_condb rfl (fun h24v => ?_) (fun h25v => ?_)
 refine sr ?_
 refine vm rfl rfl ?_
 refine vm rfl rfl ?_
 refine simL_eff (re_litb (cs := [.int .u8 ((x0.getD (IntKind.i64.wrap (s3v.2 + 1)).toNat 0).toNat : Int)]) ([(x0.getD (IntKind.i64.wrap (s3v.2 + 1)).toNat 0)] : List UInt8) rfl rfl Tryd.underlying93 elt5 rfl (by kernel_rfl) rfl rfl rfl) rfl rfl rfl ?_
 intro b26v
 refine simL_ask (fun hb29v => ?_)
 refine simL_eff (re_appendb 1 rfl rfl rfl Tryd.underlying93 elt5 rfl (Rds.row 0 rfl) hb29v) rfl rfl rfl ?_
 intro y28v
 refine va rfl rfl (nx ?_)
 refine vm rfl rfl ?_
 refine vq (q_add rfl rfl rfl) rfl ?_
 refine va rfl rfl (simL_nil (nrm_then ?_))
 refine sim_exi ?_
 refine exi_then ?_
 refine exi_here ?_
 exact nrm_again (s := (s3v.1 ++ ([(x0.getD (IntKind.i64.wrap (s3v.2 + 1)).toNat 0)] : List UInt8), IntKind.i64.wrap (s3v.2 + 2))) (y28v.1, y28v.2) ⟨rfl, rfl, rfl, trivial⟩ (.sel 1 rfl (.sel 1 rfl (.nil _)))
 refine sim_skip ?_
 refine nrm_then (sim_seq (sr ?_))
 refine vm rfl rfl ?_
 refine vq (q_neq rfl rfl rfl) rfl ?_
 refine vm rfl rfl ?_
 refine simL_valc (b := !decide (((x0.getD (IntKind.i64.wrap (s3v.2 + 1)).toNat 0).toNat : Int) = (120 : Int))) (fun hb69v => RQ.sub (E' := [(7, .int .i64 s3v.2)]) ⟨rfl, trivial⟩ (q_move rfl rfl)) rfl rfl rfl rfl rfl ?_
 refine simL_valc (b := !decide (((x0.getD (IntKind.i64.wrap (s3v.2 + 1)).toNat 0).toNat : Int) = (120 : Int))) (fun hb68v => RQ.sub (E' := [(62, .int .i64 s3v.2)]) ⟨lk_cv rfl hb68v, trivial⟩ (q_add rfl rfl rfl)) rfl rfl rfl rfl rfl ?_
 refine simL_valc (b := !decide (((x0.getD (IntKind.i64.wrap (s3v.2 + 1)).toNat 0).toNat : Int) = (120 : Int))) (fun hb67v => RQ.sub (E' := [(0, str x0)]) ⟨rfl, trivial⟩ (q_move rfl rfl)) rfl rfl rfl rfl rfl ?_
 refine simL_valc (b := !decide (((x0.getD (IntKind.i64.wrap (s3v.2 + 1)).toNat 0).toNat : Int) = (120 : Int))) (fun hb66v => RQ.sub (E' := [(64, str x0)]) ⟨lk_cv rfl hb66v, trivial⟩ (q_lens rfl rfl rfl Tryd.underlying9)) rfl rfl rfl rfl rfl ?_
 refine simL_valc (b := !decide (((x0.getD (IntKind.i64.wrap (s3v.2 + 1)).toNat 0).toNat : Int) = (120 : Int))) (fun hb65v => RQ.sub (E' := [(63, .int .i64 (IntKind.i64.wrap (s3v.2 + 3))), (65, .int .i64 (x0.length : Int))]) ⟨lk_cv rfl hb65v, lk_cv rfl hb65v, trivial⟩ (q_geq rfl rfl rfl)) rfl rfl rfl rfl rfl ?_
 refine vq (q_or rfl rfl rfl) rfl ?_
 refine vm rfl rfl ?_
 refine simL_cut' 7 (S := Bool) (Unit) (fun s y => [(0, str x0), (6, .slice y4v.1 s3v.1.length y4v.2), (7, .int .i64 s3v.2), (75, .bool s)]) (fun s y => [Row 5 1 y4v.1 s3v.1.length y4v.2 (encB s3v.1), F]) ?_ ?_
 refine simL_caseb (fun hb36v => ?_) (fun hb37v => ?_)
 rw [hb36v]
 refine simL_skipd rfl rfl rfl rfl rfl rfl ?_
 refine simL_skipd rfl rfl rfl rfl rfl rfl ?_
 refine simL_skipd rfl rfl rfl rfl rfl rfl ?_
 refine simL_skipd rfl rfl rfl rfl rfl rfl ?_
 refine simL_skipd rfl rfl rfl rfl rfl rfl ?_
 refine simL_skipd rfl rfl rfl rfl rfl rfl ?_
 refine vq (q_pick rfl rfl rfl rfl rfl) rfl (simL_nil ?_)
 exact nrm_cut (s := true) () ⟨rfl, rfl, rfl, rfl, trivial⟩ (.sel 0 rfl (.sel 0 rfl (.nil _)))
 rw [hb37v]
 refine simL_valg (q_move rfl rfl) rfl rfl rfl rfl rfl rfl ?_
 refine simL_valg (q_move rfl rfl) rfl rfl rfl rfl rfl rfl ?_
 refine simL_valg (q_add rfl rfl rfl) rfl rfl rfl rfl rfl rfl ?_
 refine simL_ask (fun hi32v => ?_)
 refine simL_valg (q_sidx rfl rfl rfl Tryd.underlying9 hi32v.1 hi32v.2) rfl rfl rfl rfl rfl rfl ?_
 refine simL_bind (fun s33v hs34v => ?_)
 refine simL_effg (re_call (vs := [.int .u8 ((x0.getD (IntKind.i64.wrap (s3v.2 + 2)).toNat 0).toNat : Int)]) (cap := []) (A := []) (rst := [Row 5 1 y4v.1 s3v.1.length y4v.2 (encB s3v.1), F]) rfl rfl rfl rfl rfl rfl Tryd.call64 (.sel 0 rfl (.sel 0 rfl (.nil _))) (synodref17_value.calls _ _ k ((x0.getD (IntKind.i64.wrap (s3v.2 + 2)).toNat 0).toNat : Int) ) hs34v) rfl rfl rfl rfl rfl rfl ?_
 intro y35v
 refine simL_valg (q_lss rfl rfl rfl) rfl rfl rfl rfl rfl rfl ?_
 refine vq (q_pick rfl rfl rfl rfl rfl) rfl (simL_nil ?_)
 exact nrm_cut (s := decide (s33v < (0 : Int))) () ⟨rfl, rfl, rfl, rfl, trivial⟩ (.sel 0 rfl (.sel 0 rfl (.nil _)))
 intro s30v y31v
 refine vm rfl rfl ?_
 refine simL_cut' 7 (S := Bool) (Unit) (fun s y => [(0, str x0), (6, .slice y4v.1 s3v.1.length y4v.2), (7, .int .i64 s3v.2), (83, .bool s)]) (fun s y => [Row 5 1 y4v.1 s3v.1.length y4v.2 (encB s3v.1), F]) ?_ ?_
 refine simL_caseb (fun hb44v => ?_) (fun hb45v => ?_)
 rw [hb44v]
 refine simL_skipd rfl rfl rfl rfl rfl rfl ?_
 refine simL_skipd rfl rfl rfl rfl rfl rfl ?_
 refine simL_skipd rfl rfl rfl rfl rfl rfl ?_
 refine simL_skipd rfl rfl rfl rfl rfl rfl ?_
 refine simL_skipd rfl rfl rfl rfl rfl rfl ?_
 refine simL_skipd rfl rfl rfl rfl rfl rfl ?_
 refine vq (q_pick rfl rfl rfl rfl rfl) rfl (simL_nil ?_)
 exact nrm_cut (s := true) () ⟨rfl, rfl, rfl, rfl, trivial⟩ (.sel 0 rfl (.sel 0 rfl (.nil _)))
 rw [hb45v]
 refine simL_valg (q_move rfl rfl) rfl rfl rfl rfl rfl rfl ?_
 refine simL_valg (q_move rfl rfl) rfl rfl rfl rfl rfl rfl ?_
 refine simL_valg (q_add rfl rfl rfl) rfl rfl rfl rfl rfl rfl ?_
 refine simL_ask (fun hi40v => ?_)
 refine simL_valg (q_sidx rfl rfl rfl Tryd.underlying9 hi40v.1 hi40v.2) rfl rfl rfl rfl rfl rfl ?_
 refine simL_bind (fun s41v hs42v => ?_)
 refine simL_effg (re_call (vs := [.int .u8 ((x0.getD (IntKind.i64.wrap (s3v.2 + 3)).toNat 0).toNat : Int)]) (cap := []) (A := []) (rst := [Row 5 1 y4v.1 s3v.1.length y4v.2 (encB s3v.1), F]) rfl rfl rfl rfl rfl rfl Tryd.call64 (.sel 0 rfl (.sel 0 rfl (.nil _))) (synodref17_value.calls _ _ k ((x0.getD (IntKind.i64.wrap (s3v.2 + 3)).toNat 0).toNat : Int) ) hs42v) rfl rfl rfl rfl rfl rfl ?_
 intro y43v
 refine simL_valg (q_lss rfl rfl rfl) rfl rfl rfl rfl rfl rfl ?_
 refine vq (q_pick rfl rfl rfl rfl rfl) rfl (simL_nil ?_)
 exact nrm_cut (s := decide (s41v < (0 : Int))) () ⟨rfl, rfl, rfl, rfl, trivial⟩ (.sel 0 rfl (.sel 0 rfl (.nil _)))
 intro s38v y39v
 refine simL_nil (nrm_then ?_)
 refine sim_condb rfl (fun h46v => ?_) (fun h47v => ?_)
 refine sr ?_
 refine va rfl rfl ?_
 refine va rfl rfl (simL_nil (nrm_then (sim_rtn ?_)))
 refine rtn_then ?_
 refine rtn_block ?_
 refine rtn_loop ?_
 refine rtn_block ?_
 refine rtn_cutR ?_
 exact rtn_fn () rfl rfl rfl (.sel 1 rfl (.nil _))
 refine sim_skip ?_
 refine nrm_then (sim_seq ?_)
 refine sim_ask (fun hi48v => ?_)
 refine sim_bind (fun s49v hs50v => ?_)
 refine sim_ask (fun hi52v => ?_)
 refine sim_bind (fun s53v hs54v => ?_)
 refine sim_draw (Γ := Unit) () [[], [], [1], [0, 1, 2], rL 4, rL 5, [], [], [7], [6, 7, 8], [0, 1, 2, 3, 4, 6, 7, 8, 9], rL 11, rL 12, rL 13] [4, 10] [0, 1, 2, 3, 5, 6, 7, 8, 9, 11, 12, 13] (fun i => [[0], [0], [0], [0], [], [1, 2], [0, 1], [0, 1], [0, 1], [0, 1], [], [2], [2], [2]].getD i []) (fun i => [[], [], [], [], [0, 1, 2, 3, 6, 7, 8, 9], [], [], [], [], [], rL 10, [], [], []].getD i []) (fun γ i => [str x0, .int .i64 s3v.2, .int .i64 (IntKind.i64.wrap (s3v.2 + 2)), .int .u8 ((x0.getD (IntKind.i64.wrap (s3v.2 + 2)).toNat 0).toNat : Int), .int .i64 s49v, .int .i64 (IntKind.i64.wrap (16 * s49v)), str x0, .int .i64 s3v.2, .int .i64 (IntKind.i64.wrap (s3v.2 + 3)), .int .u8 ((x0.getD (IntKind.i64.wrap (s3v.2 + 3)).toNat 0).toNat : Int), .int .i64 s53v, .int .i64 (IntKind.i64.wrap ((IntKind.i64.wrap (16 * s49v)) + s53v)), .int .u8 (IntKind.u8.wrap (IntKind.i64.wrap ((IntKind.i64.wrap (16 * s49v)) + s53v))), .int .u8 (IntKind.u8.wrap (IntKind.i64.wrap ((IntKind.i64.wrap (16 * s49v)) + s53v)))].getD i undef) (fun j γ => [[Row 5 1 y4v.1 s3v.1.length y4v.2 (encB s3v.1), F], [Row 5 1 y4v.1 s3v.1.length y4v.2 (encB s3v.1), F], [Row 5 1 y4v.1 s3v.1.length y4v.2 (encB s3v.1), F]].getD j []) (fun γ => [(0, str x0), (6, .slice y4v.1 s3v.1.length y4v.2), (7, .int .i64 s3v.2), (10, .int .u8 (IntKind.u8.wrap (IntKind.i64.wrap ((IntKind.i64.wrap (16 * s49v)) + s53v))))]) mixed (by decide) (by decide) (by decide) (by decide) (by decide) (by decide) (by decide) 109 rfl (by decide) (by decide) (by decide) (Ent.refl _) ?_ ?_ (fun _ => ⟨rfl, rfl, rfl, rfl, trivial⟩) ?_
 exact (aq rfl (fun γ => qm rfl (.o (s := 0) rfl (by decide) .nil) rfl) (aq rfl (fun γ => qm rfl (.o (s := 7) rfl (by decide) .nil) rfl) (aq rfl (fun γ => qp rfl rfl (.v 1 rfl rfl .nil) (q_add rfl rfl rfl) rfl) (aq rfl (fun γ => qp rfl rfl (.v 0 rfl rfl (.v 2 rfl rfl .nil)) (q_sidx rfl rfl rfl Tryd.underlying9 hi48v.1 hi48v.2) rfl) (ac (fun γ => (ac (qp rfl rfl (.v 4 rfl rfl .nil) (q_mul rfl rfl rfl) rfl) (ac (qp rfl rfl (.v 4 rfl rfl .nil) (q_mul rfl rfl rfl) rfl) zA))) (ac (fun γ => (ac (qm rfl (.o (s := 0) rfl (by decide) .nil) rfl) (ac (qm rfl (.o (s := 0) rfl (by decide) .nil) rfl) zA))) (ac (fun γ => (ac (qm rfl (.o (s := 7) rfl (by decide) .nil) rfl) (ac (qm rfl (.o (s := 7) rfl (by decide) .nil) rfl) zA))) (ac (fun γ => (ac (qp rfl rfl (.v 7 rfl rfl .nil) (q_add rfl rfl rfl) rfl) (ac (qp rfl rfl (.v 7 rfl rfl .nil) (q_add rfl rfl rfl) rfl) zA))) (ac (fun γ => (ac (qp rfl rfl (.v 6 rfl rfl (.v 8 rfl rfl .nil)) (q_sidx rfl rfl rfl Tryd.underlying9 hi52v.1 hi52v.2) rfl) (ac (qp rfl rfl (.v 6 rfl rfl (.v 8 rfl rfl .nil)) (q_sidx rfl rfl rfl Tryd.underlying9 hi52v.1 hi52v.2) rfl) zA))) (aq rfl (fun γ => qp rfl rfl (.v 5 rfl rfl (.v 10 rfl rfl .nil)) (q_add rfl rfl rfl) rfl) (aq rfl (fun γ => qp rfl rfl (.v 11 rfl rfl .nil) (q_conv rfl rfl Tryd.underlying3 Tryd.underlying5) rfl) (aq rfl (fun γ => qp rfl rfl (.v 12 rfl rfl .nil) (q_asg rfl rfl) rfl) zA))))))))))))
 exact (ac (fun γ => eo (Z := Unit) (fun z => ()) rfl rfl (.v 3 rfl rfl .nil) (re_call (vs := [.int .u8 ((x0.getD (IntKind.i64.wrap (s3v.2 + 2)).toNat 0).toNat : Int)]) (cap := []) (A := []) (rst := [Row 5 1 y4v.1 s3v.1.length y4v.2 (encB s3v.1), F]) rfl rfl rfl rfl rfl rfl Tryd.call64 (.sel 0 rfl (.sel 0 rfl (.nil _))) (synodref17_value.calls _ _ k ((x0.getD (IntKind.i64.wrap (s3v.2 + 2)).toNat 0).toNat : Int) ) hs50v) (fun _ => ⟨rfl, rfl, rfl, rfl, rfl, rfl, rfl, rfl, trivial⟩) (fun _ => .inr rfl) (fun z => Ent.refl _)) (ac (fun γ => eo (Z := Unit) (fun z => ()) rfl rfl (.v 9 rfl rfl .nil) (re_call (vs := [.int .u8 ((x0.getD (IntKind.i64.wrap (s3v.2 + 3)).toNat 0).toNat : Int)]) (cap := []) (A := []) (rst := [Row 5 1 y4v.1 s3v.1.length y4v.2 (encB s3v.1), F]) rfl rfl rfl rfl rfl rfl Tryd.call64 (.sel 0 rfl (.sel 0 rfl (.nil _))) (synodref17_value.calls _ _ k ((x0.getD (IntKind.i64.wrap (s3v.2 + 3)).toNat 0).toNat : Int) ) hs54v) (fun _ => ⟨rfl, rfl, rfl, rfl, rfl, rfl, rfl, rfl, rfl, rfl, trivial⟩) (fun _ => .inr rfl) (fun z => Ent.refl _)) zA))
 intro g56v
 refine nrm_then (sim_seq (sr ?_))
 refine vm rfl rfl ?_
 refine vq (q_geq rfl rfl rfl) rfl ?_
 refine vm rfl rfl ?_
 refine simL_valc (b := decide ((32 : Int) ≤ IntKind.u8.wrap (IntKind.i64.wrap ((IntKind.i64.wrap (16 * s49v)) + s53v)))) (fun hb64v => RQ.sub (E' := [(10, .int .u8 (IntKind.u8.wrap (IntKind.i64.wrap ((IntKind.i64.wrap (16 * s49v)) + s53v))))]) ⟨rfl, trivial⟩ (q_move rfl rfl)) rfl rfl rfl rfl rfl ?_
 refine simL_valc (b := decide ((32 : Int) ≤ IntKind.u8.wrap (IntKind.i64.wrap ((IntKind.i64.wrap (16 * s49v)) + s53v)))) (fun hb63v => RQ.sub (E' := [(100, .int .u8 (IntKind.u8.wrap (IntKind.i64.wrap ((IntKind.i64.wrap (16 * s49v)) + s53v))))]) ⟨lk_cv rfl hb63v, trivial⟩ (q_leq rfl rfl rfl)) rfl rfl rfl rfl rfl ?_
 refine vq (q_and rfl rfl rfl) rfl (simL_nil (nrm_then ?_))
 refine sim_condb rfl (fun h57v => ?_) (fun h58v => ?_)
 refine sr ?_
 refine va rfl rfl ?_
 refine va rfl rfl (simL_nil (nrm_then (sim_rtn ?_)))
 refine rtn_then ?_
 refine rtn_block ?_
 refine rtn_loop ?_
 refine rtn_block ?_
 refine rtn_cutR ?_
 exact rtn_fn () rfl rfl rfl (.sel 1 rfl (.nil _))
 refine sim_skip ?_
 refine nrm_then (sr ?_)
 refine vm rfl rfl ?_
 refine vm rfl rfl ?_
 refine simL_ask (fun hb60v => ?_)
 refine simL_eff (re_litb (cs := [.int .u8 (IntKind.u8.wrap (IntKind.i64.wrap ((IntKind.i64.wrap (16 * s49v)) + s53v)))]) ([(byte (IntKind.u8.wrap (IntKind.i64.wrap ((IntKind.i64.wrap (16 * s49v)) + s53v))))] : List UInt8) rfl rfl Tryd.underlying93 elt5 rfl (by kernel_rfl) rfl rfl (byte_lit1 hb60v)) rfl rfl rfl ?_
 intro b59v
 refine simL_ask (fun hb62v => ?_)
 refine simL_eff (re_appendb 1 rfl rfl rfl Tryd.underlying93 elt5 rfl (Rds.row 0 rfl) hb62v) rfl rfl rfl ?_
 intro y61v
 refine va rfl rfl (ny ?_)
 refine vm rfl rfl ?_
 refine vq (q_add rfl rfl rfl) rfl ?_
 refine va rfl rfl (simL_nil (nrm_block ?_))
 exact nrm_again (s := (s3v.1 ++ ([(byte (IntKind.u8.wrap (IntKind.i64.wrap ((IntKind.i64.wrap (16 * s49v)) + s53v))))] : List UInt8), IntKind.i64.wrap (s3v.2 + 4))) (y61v.1, y61v.2) ⟨rfl, rfl, rfl, trivial⟩ (.sel 1 rfl (.sel 1 rfl (.nil _)))
 refine sim_exi ?_
 refine exi_then ?_
 refine exi_loop ?_
 refine exi_here ?_
 exact nrm_cutR (s := ()) () trivial (.sel 1 rfl (.nil _))
 intro s1v y2v
 refine sr ?_
 refine va rfl rfl ?_
 refine va rfl rfl (simL_nil (nrm_then (sim_rtn ?_)))
 exact rtn_fn () rfl rfl rfl (.sel 0 rfl (.nil _))

def synodref17_bare.f (x0 : Int) : Option (Bool) := some (((decide ((32 : Int) < x0)) && (decide (x0 ≤ (126 : Int)))) && (!decide (x0 = (34 : Int))))
theorem synodref17_bare.calls (W : World) (F : HA) (x0 : Int)  :
    Fn Tryd.prog W 40 [.int .u8 x0] [] F (synodref17_bare.f x0) (fun (r : Bool) (y : Unit) => .bool r) (fun r y => []) := by
 unfold synodref17_bare.f
 refine fn_intro 13 Tryd.func40 rfl Tryd.ntmps40 rfl ?_
 refine sr ?_
 refine va rfl rfl (nx ?_)
 refine vm rfl rfl ?_
 refine vq (q_gtr rfl rfl rfl) rfl ?_
 refine vm rfl rfl ?_
 refine simL_valc (b := decide ((32 : Int) < x0)) (fun hb4v => RQ.sub (E' := [(0, .int .u8 x0)]) ⟨rfl, trivial⟩ (q_move rfl rfl)) rfl rfl rfl rfl rfl ?_
 refine simL_valc (b := decide ((32 : Int) < x0)) (fun hb3v => RQ.sub (E' := [(6, .int .u8 x0)]) ⟨lk_cv rfl hb3v, trivial⟩ (q_leq rfl rfl rfl)) rfl rfl rfl rfl rfl ?_
 refine vq (q_and rfl rfl rfl) rfl ?_
 refine vm rfl rfl ?_
 refine simL_valc (b := (decide ((32 : Int) < x0)) && (decide (x0 ≤ (126 : Int)))) (fun hb2v => RQ.sub (E' := [(0, .int .u8 x0)]) ⟨rfl, trivial⟩ (q_move rfl rfl)) rfl rfl rfl rfl rfl ?_
 refine simL_valc (b := (decide ((32 : Int) < x0)) && (decide (x0 ≤ (126 : Int)))) (fun hb1v => RQ.sub (E' := [(10, .int .u8 x0)]) ⟨lk_cv rfl hb1v, trivial⟩ (q_neq rfl rfl rfl)) rfl rfl rfl rfl rfl ?_
 refine vq (q_and rfl rfl rfl) rfl ?_
 refine va rfl rfl (simL_nil (nrm_then (sim_rtn ?_)))
 exact rtn_fn () rfl rfl rfl (.sel 0 rfl (.nil _))

def synodref17_Words.l1 (x0 : List UInt8) : Nat → Int → Option (Int)
  | 0, _ => none
  | k + 1, z26v => (if z26v < (x0.length : Int) then (if 0 ≤ z26v ∧ z26v < (x0.length : Int) then ((synodref17_bare.f ((x0.getD z26v.toNat 0).toNat : Int)).bind fun s30v => (some s30v)) else none) else (some false)).bind fun s27v => (if s27v = true then (synodref17_Words.l1 x0 k (IntKind.i64.wrap (z26v + 1))) else (some z26v))
def synodref17_Words.l0 (x0 : List UInt8) : Nat → List (List UInt8) → Int → Option ((List (List UInt8)) ⊕ (List (List UInt8) × Int))
  | 0, _, _ => none
  | k + 1, z7v, z8v => if z8v < (x0.length : Int) then (if 0 ≤ z8v ∧ z8v < (x0.length : Int) then (if ((x0.getD z8v.toNat 0).toNat : Int) = (32 : Int) then (synodref17_Words.l0 x0 k z7v (IntKind.i64.wrap (z8v + 1))) else ((if 0 ≤ z8v ∧ z8v < (x0.length : Int) then (if ((x0.getD z8v.toNat 0).toNat : Int) = (34 : Int) then ((synodref17_quoted.f k x0 z8v).bind fun s19v => (some (s19v.1, s19v.2))) else ((synodref17_Words.l1 x0 k z8v).bind fun s22v => (if 0 ≤ z8v ∧ z8v ≤ s22v ∧ s22v ≤ (x0.length : Int) then (some (cut x0 z8v s22v, s22v)) else none))) else none).bind fun s14v => ((if s14v.2 < (0 : Int) then (some true) else ((if s14v.2 < (x0.length : Int) then (if 0 ≤ s14v.2 ∧ s14v.2 < (x0.length : Int) then (some (true, true, !decide (((x0.getD s14v.2.toNat 0).toNat : Int) = (32 : Int)))) else none) else (some (false, false, false))).bind fun s40v => (some s40v.2.2))).bind fun s38v => (if s38v = true then (some (.inr (([] : List (List UInt8)), 4))) else (if (z7v.length + ([s14v.1] : List (List UInt8)).length) * 16 ≤ 140737488355328 then (synodref17_Words.l0 x0 k (z7v ++ ([s14v.1] : List (List UInt8))) s14v.2) else none))))) else none) else (some (.inl z7v))
def synodref17_Words.f (k : Nat) (x0 : List UInt8) : Option (List (List UInt8) × Int) := if (4096 : Int) < (x0.length : Int) then (some (([] : List (List UInt8)), 3)) else (orR (synodref17_Words.l0 x0 k ([] : List (List UInt8)) 0) fun s3v => (some (s3v, 0)))
theorem synodref17_Words.calls (W : World) (F : HA) (k : Nat) (x0 : List UInt8)  :
    Fn Tryd.prog W 13 [str x0] [] F (synodref17_Words.f k x0) (fun (r : List (List UInt8) × Int) (y : Option Addr × Nat) => .tuple #[.slice y.1 r.1.length y.2, .int .i64 r.2]) (fun r y => [RowV 9 1 (V9 tt) y.1 r.1 y.2]) := by
 unfold synodref17_Words.f
 refine fn_intro 68 Tryd.func13 rfl Tryd.ntmps13 rfl ?_
 refine sr ?_
 refine va rfl rfl ?_
 refine va rfl rfl (simL_nil (nrm_then (sim_seq (sr ?_))))
 refine vm rfl rfl ?_
 refine vq (q_lens rfl rfl rfl Tryd.underlying9) rfl ?_
 refine vq (q_gtr rfl rfl rfl) rfl (simL_nil (nrm_then ?_))
 refine sim_cond rfl (fun h1v => ?_) (fun h2v => ?_)
 refine sr ?_
 refine va rfl rfl ?_
 refine va rfl rfl (simL_nil (nrm_then (sim_rtn ?_)))
 refine rtn_then ?_
 exact rtn_fn (none, 0) rfl rfl rfl (.rowV_nil (.sel 0 rfl (.nil _)))
 refine sim_skip ?_
 refine nrm_then (sr ?_)
 refine va rfl rfl (nx ?_)
 refine va rfl rfl (simL_nil (nrm_then ?_))
 refine sim_cutR (S := List (List UInt8)) (Option Addr × Nat) (fun s y => [(4, .slice y.1 s.length y.2)]) (fun s y => [RowV 9 1 (V9 tt) y.1 s y.2, F]) ?_ ?_
 refine sim_block ?_
 refine sim_loop (S := List (List UInt8) × Int) (Option Addr × Nat) (fun k s => synodref17_Words.l0 x0 k s.1 s.2) (fun s y => [(0, str x0), (4, .slice y.1 s.1.length y.2), (5, .int .i64 s.2)]) (fun s y => [RowV 9 1 (V9 tt) y.1 s.1 y.2, F]) (fun _ => by rw [synodref17_Words.l0]) ?_ k (([] : List (List UInt8)), 0) (none, 0) ⟨rfl, rfl, rfl, trivial⟩ (.rowV_nil (.sel 0 rfl (.nil _)))
 intro k s5v y6v
 refine sim_eq (by rw [synodref17_Words.l0]) ?_
 refine sim_seq (sr ?_)
 refine vm rfl rfl ?_
 refine vm rfl rfl ?_
 refine vq (q_lens rfl rfl rfl Tryd.underlying9) rfl ?_
 refine vq (q_lss rfl rfl rfl) rfl (simL_nil (nrm_then ?_))
 refine sim_cond rfl (fun h9v => ?_) (fun h10v => ?_)
 refine sim_skip ?_
 refine nrm_then ?_
 refine sim_block ?_
 refine sim_seq (sr ?_)
 refine vm rfl rfl ?_
 refine vm rfl rfl ?_
 refine simL_ask (fun hi11v => ?_)
 refine vq (q_sidx rfl rfl rfl Tryd.underlying9 hi11v.1 hi11v.2) rfl ?_
 refine vq (q_eql rfl rfl rfl) rfl (simL_nil (nrm_then ?_))
 refine sim_cond rfl (fun h12v => ?_) (fun h13v => ?_)
 refine sr ?_
 refine vm rfl rfl ?_
 refine vq (q_add rfl rfl rfl) rfl ?_
 refine va rfl rfl (simL_nil (nrm_then ?_))
 refine sim_exi ?_
 refine exi_then ?_
 refine exi_here ?_
 exact nrm_again (s := (s5v.1, IntKind.i64.wrap (s5v.2 + 1))) (y6v.1, y6v.2) ⟨rfl, rfl, rfl, trivial⟩ (.sel 0 rfl (.sel 0 rfl (.nil _)))
 refine sim_skip ?_
 refine nrm_then (sr ?_)
 refine va rfl rfl (nx ?_)
 refine vm rfl rfl ?_
 refine va rfl rfl (simL_nil (nrm_then ?_))
 refine sim_cut (S := List UInt8 × Int) (Unit) (fun s y => [(0, str x0), (4, .slice y6v.1 s5v.1.length y6v.2), (6, str s.1), (7, .int .i64 s.2)]) (fun s y => [RowV 9 1 (V9 tt) y6v.1 s5v.1 y6v.2, F]) ?_ ?_
 refine sr ?_
 refine vm rfl rfl ?_
 refine vm rfl rfl ?_
 refine simL_ask (fun hi16v => ?_)
 refine vq (q_sidx rfl rfl rfl Tryd.underlying9 hi16v.1 hi16v.2) rfl ?_
 refine vq (q_eql rfl rfl rfl) rfl (simL_nil (nrm_then ?_))
 refine sim_cond rfl (fun h17v => ?_) (fun h18v => ?_)
 refine sim_region ?_
 refine vm rfl rfl ?_
 refine vm rfl rfl ?_
 refine simL_bind (fun s19v hs20v => ?_)
 refine simL_eff (re_call (vs := [str x0, .int .i64 s5v.2]) (cap := []) (A := []) (rst := [RowV 9 1 (V9 tt) y6v.1 s5v.1 y6v.2, F]) rfl rfl rfl rfl rfl rfl Tryd.call39 (.sel 0 rfl (.sel 0 rfl (.nil _))) (synodref17_quoted.calls _ _ k x0 s5v.2 ) hs20v) rfl rfl rfl ?_
 intro y21v
 refine vm rfl rfl ?_
 refine vq (q_ext rfl rfl rfl) rfl ?_
 refine vq (q_ext rfl rfl rfl) rfl ?_
 refine va rfl rfl ?_
 refine va rfl rfl (simL_nil ?_)
 exact nrm_cut (s := (s19v.1, s19v.2)) () ⟨rfl, rfl, rfl, rfl, trivial⟩ (.sel 0 rfl (.sel 0 rfl (.nil _)))
 refine sim_cut (S := Int) (Unit) (fun s y => [(0, str x0), (4, .slice y6v.1 s5v.1.length y6v.2), (5, .int .i64 s5v.2), (7, .int .i64 s)]) (fun s y => [RowV 9 1 (V9 tt) y6v.1 s5v.1 y6v.2, F]) ?_ ?_
 refine sim_block ?_
 refine sim_loop (S := Int) (Unit) (fun k s => synodref17_Words.l1 x0 k s) (fun s y => [(0, str x0), (4, .slice y6v.1 s5v.1.length y6v.2), (5, .int .i64 s5v.2), (7, .int .i64 s)]) (fun s y => [RowV 9 1 (V9 tt) y6v.1 s5v.1 y6v.2, F]) (fun _ => by rw [synodref17_Words.l1]) ?_ k s5v.2 () ⟨rfl, rfl, rfl, rfl, trivial⟩ (.sel 0 rfl (.sel 0 rfl (.nil _)))
 intro k s24v y25v
 refine sim_eq (by rw [synodref17_Words.l1]) ?_
 refine sim_seq (sr ?_)
 refine vm rfl rfl ?_
 refine vm rfl rfl ?_
 refine vq (q_lens rfl rfl rfl Tryd.underlying9) rfl ?_
 refine vq (q_lss rfl rfl rfl) rfl ?_
 refine vm rfl rfl ?_
 refine simL_cut' 5 (S := Bool) (Unit) (fun s y => [(0, str x0), (4, .slice y6v.1 s5v.1.length y6v.2), (5, .int .i64 s5v.2), (7, .int .i64 s24v), (41, .bool s)]) (fun s y => [RowV 9 1 (V9 tt) y6v.1 s5v.1 y6v.2, F]) ?_ ?_
 refine simL_casep (fun hb33v => ?_) (fun hb34v => ?_)
 rw [hb33v]
 refine simL_valg (q_move rfl rfl) rfl rfl rfl rfl rfl rfl ?_
 refine simL_valg (q_move rfl rfl) rfl rfl rfl rfl rfl rfl ?_
 refine simL_ask (fun hi29v => ?_)
 refine simL_valg (q_sidx rfl rfl rfl Tryd.underlying9 hi29v.1 hi29v.2) rfl rfl rfl rfl rfl rfl ?_
 refine simL_bind (fun s30v hs31v => ?_)
 refine simL_effg (re_call (vs := [.int .u8 ((x0.getD s24v.toNat 0).toNat : Int)]) (cap := []) (A := []) (rst := [RowV 9 1 (V9 tt) y6v.1 s5v.1 y6v.2, F]) rfl rfl rfl rfl rfl rfl Tryd.call40 (.sel 0 rfl (.sel 0 rfl (.nil _))) (synodref17_bare.calls _ _ ((x0.getD s24v.toNat 0).toNat : Int) ) hs31v) rfl rfl rfl rfl rfl rfl ?_
 intro y32v
 refine vq (q_pick rfl rfl rfl rfl rfl) rfl (simL_nil ?_)
 exact nrm_cut (s := s30v) () ⟨rfl, rfl, rfl, rfl, rfl, trivial⟩ (.sel 0 rfl (.sel 0 rfl (.nil _)))
 rw [hb34v]
 refine simL_skipd rfl rfl rfl rfl rfl rfl ?_
 refine simL_skipd rfl rfl rfl rfl rfl rfl ?_
 refine simL_skipd rfl rfl rfl rfl rfl rfl ?_
 refine simL_skipd rfl rfl rfl rfl rfl rfl ?_
 refine vq (q_pick rfl rfl rfl rfl rfl) rfl (simL_nil ?_)
 exact nrm_cut (s := false) () ⟨rfl, rfl, rfl, rfl, rfl, trivial⟩ (.sel 0 rfl (.sel 0 rfl (.nil _)))
 intro s27v y28v
 refine simL_nil (nrm_then ?_)
 refine sim_condb rfl (fun h35v => ?_) (fun h36v => ?_)
 refine sim_skip ?_
 refine nrm_then ?_
 refine sim_block ?_
 refine sim_region ?_
 refine vm rfl rfl ?_
 refine vq (q_add rfl rfl rfl) rfl ?_
 refine va rfl rfl (simL_nil (nrm_block ?_))
 exact nrm_again (s := IntKind.i64.wrap (s24v + 1)) () ⟨rfl, rfl, rfl, rfl, trivial⟩ (.sel 0 rfl (.sel 0 rfl (.nil _)))
 refine sim_exi ?_
 refine exi_then ?_
 refine exi_loop ?_
 refine exi_here ?_
 exact nrm_cut (s := s24v) () ⟨rfl, rfl, rfl, rfl, trivial⟩ (.sel 0 rfl (.sel 0 rfl (.nil _)))
 intro s22v y23v
 refine sim_region ?_
 refine vm rfl rfl ?_
 refine vm rfl rfl ?_
 refine vm rfl rfl ?_
 refine simL_ask (fun hb37v => ?_)
 refine vq (q_cutS (lo' := s5v.2) (hi' := s22v) rfl rfl rfl rfl Tryd.underlying9 (.inr ⟨_, rfl⟩) (.inr ⟨_, rfl⟩) hb37v) rfl ?_
 refine va rfl rfl (simL_nil ?_)
 exact nrm_cut (s := (cut x0 s5v.2 s22v, s22v)) () ⟨rfl, rfl, rfl, rfl, trivial⟩ (.sel 0 rfl (.sel 0 rfl (.nil _)))
 intro s14v y15v
 refine sim_seq (sr ?_)
 refine vm rfl rfl ?_
 refine vq (q_lss rfl rfl rfl) rfl ?_
 refine vm rfl rfl ?_
 refine simL_cut' 11 (S := Bool) (Unit) (fun s y => [(0, str x0), (4, .slice y6v.1 s5v.1.length y6v.2), (6, str s14v.1), (7, .int .i64 s14v.2), (61, .bool s)]) (fun s y => [RowV 9 1 (V9 tt) y6v.1 s5v.1 y6v.2, F]) ?_ ?_
 refine simL_casep (fun hb45v => ?_) (fun hb46v => ?_)
 rw [hb45v]
 refine simL_skipd rfl rfl rfl rfl rfl rfl ?_
 refine simL_skipd rfl rfl rfl rfl rfl rfl ?_
 refine simL_skipd rfl rfl rfl rfl rfl rfl ?_
 refine simL_skipd rfl rfl rfl rfl rfl rfl ?_
 refine simL_skipd rfl rfl rfl rfl rfl rfl ?_
 refine simL_skipu rfl rfl rfl rfl rfl ?_
 refine simL_skipu rfl rfl rfl rfl rfl ?_
 refine simL_skipu rfl rfl rfl rfl rfl ?_
 refine simL_skipu rfl rfl rfl rfl rfl ?_
 refine simL_skipd rfl rfl rfl rfl rfl rfl ?_
 refine vq (q_pick rfl rfl rfl rfl rfl) rfl (simL_nil ?_)
 exact nrm_cut (s := true) () ⟨rfl, rfl, rfl, rfl, rfl, trivial⟩ (.sel 0 rfl (.sel 0 rfl (.nil _)))
 rw [hb46v]
 refine simL_valg (q_move rfl rfl) rfl rfl rfl rfl rfl rfl ?_
 refine simL_valg (q_move rfl rfl) rfl rfl rfl rfl rfl rfl ?_
 refine simL_valg (q_lens rfl rfl rfl Tryd.underlying9) rfl rfl rfl rfl rfl rfl ?_
 refine simL_valg (q_lss rfl rfl rfl) rfl rfl rfl rfl rfl rfl ?_
 refine simL_valg (q_move rfl rfl) rfl rfl rfl rfl rfl rfl ?_
 refine simL_cut' 5 (S := Bool × Bool × Bool) (Unit) (fun s y => [(0, str x0), (4, .slice y6v.1 s5v.1.length y6v.2), (6, str s14v.1), (7, .int .i64 s14v.2), (50, .bool false), (51, .int .i64 s14v.2), (52, str x0), (53, .int .i64 (x0.length : Int)), (54, .bool s.1), (55, .bool s.2.1), (60, .bool s.2.2)]) (fun s y => [RowV 9 1 (V9 tt) y6v.1 s5v.1 y6v.2, F]) ?_ ?_
 refine simL_casep (fun hb43v => ?_) (fun hb44v => ?_)
 rw [hb43v]
 refine simL_valg (q_move rfl rfl) rfl rfl rfl rfl rfl rfl ?_
 refine simL_valg (q_move rfl rfl) rfl rfl rfl rfl rfl rfl ?_
 refine simL_ask (fun hi42v => ?_)
 refine simL_valg (q_sidx rfl rfl rfl Tryd.underlying9 hi42v.1 hi42v.2) rfl rfl rfl rfl rfl rfl ?_
 refine simL_valg (q_neq rfl rfl rfl) rfl rfl rfl rfl rfl rfl ?_
 refine simL_valg (q_pick rfl rfl rfl rfl rfl) rfl rfl rfl rfl rfl rfl ?_
 refine simL_nil ?_
 exact nrm_cut (s := (true, true, !decide (((x0.getD s14v.2.toNat 0).toNat : Int) = (32 : Int)))) () ⟨rfl, rfl, rfl, rfl, rfl, rfl, rfl, rfl, rfl, rfl, rfl, trivial⟩ (.sel 0 rfl (.sel 0 rfl (.nil _)))
 rw [hb44v]
 refine simL_skipd rfl rfl rfl rfl rfl rfl ?_
 refine simL_skipd rfl rfl rfl rfl rfl rfl ?_
 refine simL_skipd rfl rfl rfl rfl rfl rfl ?_
 refine simL_skipd rfl rfl rfl rfl rfl rfl ?_
 refine simL_valg (q_pick rfl rfl rfl rfl rfl) rfl rfl rfl rfl rfl rfl ?_
 refine simL_nil ?_
 exact nrm_cut (s := (false, false, false)) () ⟨rfl, rfl, rfl, rfl, rfl, rfl, rfl, rfl, rfl, rfl, rfl, trivial⟩ (.sel 0 rfl (.sel 0 rfl (.nil _)))
 intro s40v y41v
 refine vq (q_pick rfl rfl rfl rfl rfl) rfl (simL_nil ?_)
 exact nrm_cut (s := s40v.2.2) () ⟨rfl, rfl, rfl, rfl, rfl, trivial⟩ (.sel 0 rfl (.sel 0 rfl (.nil _)))
 intro s38v y39v
 refine simL_nil (nrm_then ?_)
 refine sim_condb rfl (fun h47v => ?_) (fun h48v => ?_)
 refine sr ?_
 refine va rfl rfl ?_
 refine va rfl rfl (simL_nil (nrm_then (sim_rtn ?_)))
 refine rtn_then ?_
 refine rtn_block ?_
 refine rtn_loop ?_
 refine rtn_block ?_
 refine rtn_cutR ?_
 exact rtn_fn (none, 0) rfl rfl rfl (.rowV_nil (.sel 1 rfl (.nil _)))
 refine sim_skip ?_
 refine nrm_then (sr ?_)
 refine vm rfl rfl ?_
 refine vm rfl rfl ?_
 have hlb50v : ListV 1 (V9 tt) ([s14v.1] : List (List UInt8)) [[str s14v.1]] := ⟨⟨rfl, one_of (by rfl), rfl⟩, trivial⟩
 refine simL_eff (re_litV (V := (V9 tt)) (xs := ([s14v.1] : List (List UInt8))) [[str s14v.1]] rfl rfl Tryd.underlying23 elt9 rfl (by kernel_rfl) rfl hlb50v rfl rfl) rfl rfl rfl ?_
 intro b50v
 refine simL_openV 1 rfl (fun rs55v hl56v => ?_)
 refine simL_ask (fun hb54v => ?_)
 refine simL_eff (re_appendV 1 rfl rfl rfl Tryd.underlying23 elt9 rfl hl56v (RdsV.row hlb50v 0 rfl) hb54v) rfl rfl rfl ?_
 intro y53v
 refine va rfl rfl (ny ?_)
 refine vm rfl rfl ?_
 refine va rfl rfl (simL_nil (nrm_block ?_))
 exact nrm_again (s := (s5v.1 ++ ([s14v.1] : List (List UInt8)), s14v.2)) (y53v.1, y53v.2) ⟨rfl, rfl, rfl, trivial⟩ (.sel 1 rfl (.sel 1 rfl (.nil _)))
 refine sim_exi ?_
 refine exi_then ?_
 refine exi_loop ?_
 refine exi_here ?_
 exact nrm_cutR (s := s5v.1) (y6v.1, y6v.2) ⟨rfl, trivial⟩ (.sel 0 rfl (.sel 0 rfl (.nil _)))
 intro s3v y4v
 refine sr ?_
 refine vm rfl rfl ?_
 refine va rfl rfl ?_
 refine va rfl rfl (simL_nil (nrm_then (sim_rtn ?_)))
 exact rtn_fn (y4v.1, y4v.2) rfl rfl rfl (.sel 0 rfl (.sel 0 rfl (.nil _)))

def synodref17_number.l0 (s1v : List UInt8) : Nat → Int → Int → Option ((Int) ⊕ (Int × Bool))
  | 0, _, _ => none
  | k + 1, z24v, z25v => if z25v < (s1v.length : Int) then (if 0 ≤ z25v ∧ z25v < (s1v.length : Int) then ((if ((s1v.getD z25v.toNat 0).toNat : Int) < (48 : Int) then (some true) else (if 0 ≤ z25v ∧ z25v < (s1v.length : Int) then (some (decide ((57 : Int) < ((s1v.getD z25v.toNat 0).toNat : Int)))) else none)).bind fun s29v => (if (s29v || (decide ((461168601842738790 : Int) < z24v))) = true then (some (.inr (0, false))) else (if 0 ≤ z25v ∧ z25v < (s1v.length : Int) then (synodref17_number.l0 s1v k (IntKind.i64.wrap ((IntKind.i64.wrap (10 * z24v)) + (IntKind.i64.wrap (IntKind.u8.wrap (((s1v.getD z25v.toNat 0).toNat : Int) - 48))))) (IntKind.i64.wrap (z25v + 1))) else none))) else none) else (some (.inl z24v))
def synodref17_number.f (k : Nat) (x0 : List UInt8) : Option (Int × Bool) := ((if (0 : Int) < (x0.length : Int) then (if 0 ≤ (0 : Int) ∧ (0 : Int) < (x0.length : Int) then (some (decide (((x0.getD (0 : Int).toNat 0).toNat : Int) = (45 : Int)))) else none) else (some false)).bind fun s3v => (if s3v = true then (if 0 ≤ (1 : Int) ∧ (1 : Int) ≤ (x0.length : Int) ∧ (x0.length : Int) ≤ (x0.length : Int) then (some (cut x0 (1 : Int) (x0.length : Int))) else none) else (some x0))).bind fun s1v => ((if ((decide (s1v = ([] : List UInt8))) || (decide ((19 : Int) < (s1v.length : Int)))) = true then (some true) else (if 0 ≤ (0 : Int) ∧ (0 : Int) < (s1v.length : Int) then (some ((decide (((s1v.getD (0 : Int).toNat 0).toNat : Int) = (48 : Int))) && (!decide (x0 = ([48] : List UInt8))))) else none)).bind fun s11v => (if s11v = true then (some (0, false)) else (orR (synodref17_number.l0 s1v k 0 0) fun s20v => (if (4611686018427387904 : Int) < s20v then (some (0, false)) else ((if s1v = x0 then (some s20v) else (some (IntKind.i64.wrap (-s20v)))).bind fun s41v => (some (s41v, true)))))))
theorem synodref17_number.calls (W : World) (F : HA) (k : Nat) (x0 : List UInt8)  :
    Fn Tryd.prog W 56 [str x0] [] F (synodref17_number.f k x0) (fun (r : Int × Bool) (y : Unit) => .tuple #[.int .i64 r.1, .bool r.2]) (fun r y => []) := by
 unfold synodref17_number.f
 refine fn_intro 70 Tryd.func56 rfl Tryd.ntmps56 rfl ?_
 refine sr ?_
 refine va rfl rfl ?_
 refine va rfl rfl (nx ?_)
 refine vm rfl rfl ?_
 refine va rfl rfl (simL_nil (nrm_then ?_))
 refine sim_cut (S := List UInt8) (Unit) (fun s y => [(0, str x0), (4, str s)]) (fun s y => [F]) ?_ ?_
 refine sr ?_
 refine vm rfl rfl ?_
 refine vq (q_lens rfl rfl rfl Tryd.underlying9) rfl ?_
 refine vq (q_gtr rfl rfl rfl) rfl ?_
 refine vm rfl rfl ?_
 refine simL_cut' 4 (S := Bool) (Unit) (fun s y => [(0, str x0), (4, str x0), (15, .bool s)]) (fun s y => [F]) ?_ ?_
 refine simL_casep (fun hb6v => ?_) (fun hb7v => ?_)
 rw [hb6v]
 refine simL_valg (q_move rfl rfl) rfl rfl rfl rfl rfl rfl ?_
 refine simL_ask (fun hi5v => ?_)
 refine simL_valg (q_sidx rfl rfl rfl Tryd.underlying9 hi5v.1 hi5v.2) rfl rfl rfl rfl rfl rfl ?_
 refine simL_valg (q_eql rfl rfl rfl) rfl rfl rfl rfl rfl rfl ?_
 refine vq (q_pick rfl rfl rfl rfl rfl) rfl (simL_nil ?_)
 exact nrm_cut (s := decide (((x0.getD (0 : Int).toNat 0).toNat : Int) = (45 : Int))) () ⟨rfl, rfl, rfl, trivial⟩ (.sel 0 rfl (.nil _))
 rw [hb7v]
 refine simL_skipd rfl rfl rfl rfl rfl rfl ?_
 refine simL_skipd rfl rfl rfl rfl rfl rfl ?_
 refine simL_skipd rfl rfl rfl rfl rfl rfl ?_
 refine vq (q_pick rfl rfl rfl rfl rfl) rfl (simL_nil ?_)
 exact nrm_cut (s := false) () ⟨rfl, rfl, rfl, trivial⟩ (.sel 0 rfl (.nil _))
 intro s3v y4v
 refine simL_nil (nrm_then ?_)
 refine sim_condb rfl (fun h8v => ?_) (fun h9v => ?_)
 refine sim_region ?_
 refine vm rfl rfl ?_
 refine simL_ask (fun hb10v => ?_)
 refine vq (q_cutS (lo' := (1 : Int)) (hi' := (x0.length : Int)) rfl rfl rfl rfl Tryd.underlying9 (.inl ⟨rfl, rfl⟩) (.inr ⟨_, rfl⟩) hb10v) rfl ?_
 refine va rfl rfl (simL_nil ?_)
 exact nrm_cut (s := cut x0 (1 : Int) (x0.length : Int)) () ⟨rfl, rfl, trivial⟩ (.sel 0 rfl (.nil _))
 refine sim_skip ?_
 exact nrm_cut (s := x0) () ⟨rfl, rfl, trivial⟩ (.sel 0 rfl (.nil _))
 intro s1v y2v
 refine sim_seq (sr ?_)
 refine vm rfl rfl ?_
 refine vq (q_eqs rfl rfl rfl) rfl ?_
 refine vm rfl rfl ?_
 refine simL_valc (b := decide (s1v = ([] : List UInt8))) (fun hb47v => RQ.sub (E' := [(4, str s1v)]) ⟨rfl, trivial⟩ (q_move rfl rfl)) rfl rfl rfl rfl rfl ?_
 refine simL_valc (b := decide (s1v = ([] : List UInt8))) (fun hb46v => RQ.sub (E' := [(21, str s1v)]) ⟨lk_cv rfl hb46v, trivial⟩ (q_lens rfl rfl rfl Tryd.underlying9)) rfl rfl rfl rfl rfl ?_
 refine simL_valc (b := decide (s1v = ([] : List UInt8))) (fun hb45v => RQ.sub (E' := [(22, .int .i64 (s1v.length : Int))]) ⟨lk_cv rfl hb45v, trivial⟩ (q_gtr rfl rfl rfl)) rfl rfl rfl rfl rfl ?_
 refine vq (q_or rfl rfl rfl) rfl ?_
 refine vm rfl rfl ?_
 refine simL_cut' 8 (S := Bool) (Unit) (fun s y => [(0, str x0), (4, str s1v), (33, .bool s)]) (fun s y => [F]) ?_ ?_
 refine simL_caseb (fun hb16v => ?_) (fun hb17v => ?_)
 rw [hb16v]
 refine simL_skipd rfl rfl rfl rfl rfl rfl ?_
 refine simL_skipd rfl rfl rfl rfl rfl rfl ?_
 refine simL_skipd rfl rfl rfl rfl rfl rfl ?_
 refine simL_skipd rfl rfl rfl rfl rfl rfl ?_
 refine simL_skipu rfl rfl rfl rfl rfl ?_
 refine simL_skipu rfl rfl rfl rfl rfl ?_
 refine simL_skipd rfl rfl rfl rfl rfl rfl ?_
 refine vq (q_pick rfl rfl rfl rfl rfl) rfl (simL_nil ?_)
 exact nrm_cut (s := true) () ⟨rfl, rfl, rfl, trivial⟩ (.sel 0 rfl (.nil _))
 rw [hb17v]
 refine simL_valg (q_move rfl rfl) rfl rfl rfl rfl rfl rfl ?_
 refine simL_ask (fun hi13v => ?_)
 refine simL_valg (q_sidx rfl rfl rfl Tryd.underlying9 hi13v.1 hi13v.2) rfl rfl rfl rfl rfl rfl ?_
 refine simL_valg (q_eql rfl rfl rfl) rfl rfl rfl rfl rfl rfl ?_
 refine simL_valg (q_move rfl rfl) rfl rfl rfl rfl rfl rfl ?_
 refine simL_valc (b := decide (((s1v.getD (0 : Int).toNat 0).toNat : Int) = (48 : Int))) (fun hb15v => RQ.sub (E' := [(0, str x0)]) ⟨rfl, trivial⟩ (q_move rfl rfl)) rfl rfl rfl rfl rfl ?_
 refine simL_valc (b := decide (((s1v.getD (0 : Int).toNat 0).toNat : Int) = (48 : Int))) (fun hb14v => RQ.sub (E' := [(30, str x0)]) ⟨lk_cv rfl hb14v, trivial⟩ (q_nes rfl rfl rfl)) rfl rfl rfl rfl rfl ?_
 refine simL_valg (q_and rfl rfl rfl) rfl rfl rfl rfl rfl rfl ?_
 refine vq (q_pick rfl rfl rfl rfl rfl) rfl (simL_nil ?_)
 exact nrm_cut (s := (decide (((s1v.getD (0 : Int).toNat 0).toNat : Int) = (48 : Int))) && (!decide (x0 = ([48] : List UInt8)))) () ⟨rfl, rfl, rfl, trivial⟩ (.sel 0 rfl (.nil _))
 intro s11v y12v
 refine simL_nil (nrm_then ?_)
 refine sim_condb rfl (fun h18v => ?_) (fun h19v => ?_)
 refine sr ?_
 refine va rfl rfl ?_
 refine va rfl rfl (simL_nil (nrm_then (sim_rtn ?_)))
 refine rtn_then ?_
 exact rtn_fn () rfl rfl rfl (.sel 0 rfl (.nil _))
 refine sim_skip ?_
 refine nrm_then (sr ?_)
 refine va rfl rfl (simL_nil (nrm_then ?_))
 refine sim_cutR (S := Int) (Unit) (fun s y => [(0, str x0), (4, str s1v), (5, .int .i64 s)]) (fun s y => [F]) ?_ ?_
 refine sr ?_
 refine va rfl rfl (simL_nil (nrm_then ?_))
 refine sim_block ?_
 refine sim_loop (S := Int × Int) (Unit) (fun k s => synodref17_number.l0 s1v k s.1 s.2) (fun s y => [(0, str x0), (4, str s1v), (5, .int .i64 s.1), (6, .int .i64 s.2)]) (fun s y => [F]) (fun _ => by rw [synodref17_number.l0]) ?_ k (0, 0) () ⟨rfl, rfl, rfl, rfl, trivial⟩ (.sel 0 rfl (.nil _))
 intro k s22v y23v
 refine sim_eq (by rw [synodref17_number.l0]) ?_
 refine sim_seq (sr ?_)
 refine vm rfl rfl ?_
 refine vm rfl rfl ?_
 refine vq (q_lens rfl rfl rfl Tryd.underlying9) rfl ?_
 refine vq (q_lss rfl rfl rfl) rfl (simL_nil (nrm_then ?_))
 refine sim_cond rfl (fun h26v => ?_) (fun h27v => ?_)
 refine sim_skip ?_
 refine nrm_then (sim_seq ?_)
 refine sim_block ?_
 refine sim_seq (sr ?_)
 refine vm rfl rfl ?_
 refine vm rfl rfl ?_
 refine simL_ask (fun hi28v => ?_)
 refine vq (q_sidx rfl rfl rfl Tryd.underlying9 hi28v.1 hi28v.2) rfl ?_
 refine vq (q_lss rfl rfl rfl) rfl ?_
 refine vm rfl rfl ?_
 refine simL_cut' 5 (S := Bool) (Unit) (fun s y => [(0, str x0), (4, str s1v), (5, .int .i64 s22v.1), (6, .int .i64 s22v.2), (49, .bool s)]) (fun s y => [F]) ?_ ?_
 refine simL_casep (fun hb32v => ?_) (fun hb33v => ?_)
 rw [hb32v]
 refine simL_skipd rfl rfl rfl rfl rfl rfl ?_
 refine simL_skipd rfl rfl rfl rfl rfl rfl ?_
 refine simL_skipd rfl rfl rfl rfl rfl rfl ?_
 refine simL_skipd rfl rfl rfl rfl rfl rfl ?_
 refine vq (q_pick rfl rfl rfl rfl rfl) rfl (simL_nil ?_)
 exact nrm_cut (s := true) () ⟨rfl, rfl, rfl, rfl, rfl, trivial⟩ (.sel 0 rfl (.nil _))
 rw [hb33v]
 refine simL_valg (q_move rfl rfl) rfl rfl rfl rfl rfl rfl ?_
 refine simL_valg (q_move rfl rfl) rfl rfl rfl rfl rfl rfl ?_
 refine simL_ask (fun hi31v => ?_)
 refine simL_valg (q_sidx rfl rfl rfl Tryd.underlying9 hi31v.1 hi31v.2) rfl rfl rfl rfl rfl rfl ?_
 refine simL_valg (q_gtr rfl rfl rfl) rfl rfl rfl rfl rfl rfl ?_
 refine vq (q_pick rfl rfl rfl rfl rfl) rfl (simL_nil ?_)
 exact nrm_cut (s := decide ((57 : Int) < ((s1v.getD s22v.2.toNat 0).toNat : Int))) () ⟨rfl, rfl, rfl, rfl, rfl, trivial⟩ (.sel 0 rfl (.nil _))
 intro s29v y30v
 refine vm rfl rfl ?_
 refine simL_valc (b := s29v) (fun hb38v => RQ.sub (E' := [(5, .int .i64 s22v.1)]) ⟨rfl, trivial⟩ (q_move rfl rfl)) rfl rfl rfl rfl rfl ?_
 refine simL_valc (b := s29v) (fun hb37v => RQ.sub (E' := [(51, .int .i64 s22v.1)]) ⟨lk_cv rfl hb37v, trivial⟩ (q_gtr rfl rfl rfl)) rfl rfl rfl rfl rfl ?_
 refine vq (q_or rfl rfl rfl) rfl (simL_nil (nrm_then ?_))
 refine sim_condb rfl (fun h34v => ?_) (fun h35v => ?_)
 refine sr ?_
 refine va rfl rfl ?_
 refine va rfl rfl (simL_nil (nrm_then (sim_rtn ?_)))
 refine rtn_then ?_
 refine rtn_block ?_
 refine rtn_then ?_
 refine rtn_loop ?_
 refine rtn_block ?_
 refine rtn_cutR ?_
 exact rtn_fn () rfl rfl rfl (.sel 0 rfl (.nil _))
 refine sim_skip ?_
 refine nrm_then (sim_region ?_)
 refine vm rfl rfl ?_
 refine vq (q_mul rfl rfl rfl) rfl ?_
 refine vm rfl rfl ?_
 refine vm rfl rfl ?_
 refine simL_ask (fun hi36v => ?_)
 refine vq (q_sidx rfl rfl rfl Tryd.underlying9 hi36v.1 hi36v.2) rfl ?_
 refine vq (q_sub rfl rfl rfl) rfl ?_
 refine vq (q_conv rfl rfl Tryd.underlying5 Tryd.underlying3) rfl ?_
 refine vq (q_add rfl rfl rfl) rfl ?_
 refine va rfl rfl (simL_nil (nrm_block (nrm_then (sim_region ?_))))
 refine vm rfl rfl ?_
 refine vq (q_add rfl rfl rfl) rfl ?_
 refine va rfl rfl (simL_nil ?_)
 exact nrm_again (s := (IntKind.i64.wrap ((IntKind.i64.wrap (10 * s22v.1)) + (IntKind.i64.wrap (IntKind.u8.wrap (((s1v.getD s22v.2.toNat 0).toNat : Int) - 48)))), IntKind.i64.wrap (s22v.2 + 1))) () ⟨rfl, rfl, rfl, rfl, trivial⟩ (.sel 0 rfl (.nil _))
 refine sim_exi ?_
 refine exi_then ?_
 refine exi_loop ?_
 refine exi_here ?_
 exact nrm_cutR (s := s22v.1) () ⟨rfl, rfl, rfl, trivial⟩ (.sel 0 rfl (.nil _))
 intro s20v y21v
 refine sim_seq (sr ?_)
 refine vm rfl rfl ?_
 refine vq (q_gtr rfl rfl rfl) rfl (simL_nil (nrm_then ?_))
 refine sim_cond rfl (fun h39v => ?_) (fun h40v => ?_)
 refine sr ?_
 refine va rfl rfl ?_
 refine va rfl rfl (simL_nil (nrm_then (sim_rtn ?_)))
 refine rtn_then ?_
 exact rtn_fn () rfl rfl rfl (.sel 0 rfl (.nil _))
 refine sim_skip ?_
 refine nrm_then ?_
 refine sim_cut (S := Int) (Unit) (fun s y => [(5, .int .i64 s)]) (fun s y => [F]) ?_ ?_
 refine sr ?_
 refine vm rfl rfl ?_
 refine vm rfl rfl ?_
 refine vq (q_nes rfl rfl rfl) rfl (simL_nil (nrm_then ?_))
 refine sim_condn rfl (fun h43v => ?_) (fun h44v => ?_)
 refine sim_skip ?_
 exact nrm_cut (s := s20v) () ⟨rfl, trivial⟩ (.sel 0 rfl (.nil _))
 refine sim_region ?_
 refine vm rfl rfl ?_
 refine vq (q_neg rfl rfl) rfl ?_
 refine va rfl rfl (simL_nil ?_)
 exact nrm_cut (s := IntKind.i64.wrap (-s20v)) () ⟨rfl, trivial⟩ (.sel 0 rfl (.nil _))
 intro s41v y42v
 refine sr ?_
 refine vm rfl rfl ?_
 refine va rfl rfl ?_
 refine va rfl rfl (simL_nil (nrm_then (sim_rtn ?_)))
 exact rtn_fn () rfl rfl rfl (.sel 0 rfl (.nil _))

def synodref17_ParseOpts.l0 (s2v : List (List UInt8) × Int) : Nat → List Int → Int → Option ((List Int) ⊕ (Int × Int × Int × Int × Int × Int × Int × Int × Int × Int × Int × Int × Int × Int × Int × Int × Int × Int × Int × Int))
  | 0, _, _ => none
  | k + 1, z29v, z30v => if z30v < (19 : Int) then (if 0 ≤ z30v ∧ z30v < (s2v.1.length : Int) then ((synodref17_number.f k (s2v.1.getD z30v.toNat ([] : List UInt8))).bind fun s43v => ((if (!s43v.2) = true then (some true) else (some ((decide (z30v = (18 : Int))) && (!decide (s43v.1 = (0 : Int)))))).bind fun s46v => (if s46v = true then (some (.inr (0, 0, 0, 0, 0, 0, 0, 0, 0, 0, 0, 0, 0, 0, 0, 0, 0, 0, 0, 22))) else (if (z29v.length + ([s43v.1] : List Int).length) * 8 ≤ 140737488355328 then (synodref17_ParseOpts.l0 s2v k (z29v ++ ([s43v.1] : List Int)) (IntKind.i64.wrap (z30v + 1))) else none)))) else none) else (some (.inl z29v))
def synodref17_ParseOpts.f (k : Nat) (x0 : List UInt8) : Option (Int × Int × Int × Int × Int × Int × Int × Int × Int × Int × Int × Int × Int × Int × Int × Int × Int × Int × Int × Int) := (synodref17_Words.f k x0).bind fun s2v => (if s2v.2 = (0 : Int) then ((if (s2v.1.length : Int) = (0 : Int) then (some true) else (if 0 ≤ (0 : Int) ∧ (0 : Int) < (s2v.1.length : Int) then (some (!decide ((s2v.1.getD (0 : Int).toNat ([] : List UInt8)) = ([119, 111, 114, 108, 100] : List UInt8)))) else none)).bind fun s7v => (if s7v = true then (some (0, 0, 0, 0, 0, 0, 0, 0, 0, 0, 0, 0, 0, 0, 0, 0, 0, 0, 0, 20)) else (if (s2v.1.length : Int) = (19 : Int) then (orR (synodref17_ParseOpts.l0 s2v k ([] : List Int) 1) fun s25v => (if 0 ≤ (8 : Int) ∧ (8 : Int) < (s25v.length : Int) then (if 0 ≤ (9 : Int) ∧ (9 : Int) < (s25v.length : Int) then (if 0 ≤ (10 : Int) ∧ (10 : Int) < (s25v.length : Int) then (if 0 ≤ (11 : Int) ∧ (11 : Int) < (s25v.length : Int) then (if 0 ≤ (12 : Int) ∧ (12 : Int) < (s25v.length : Int) then (if 0 ≤ (13 : Int) ∧ (13 : Int) < (s25v.length : Int) then (if 0 ≤ (14 : Int) ∧ (14 : Int) < (s25v.length : Int) then (if 0 ≤ (15 : Int) ∧ (15 : Int) < (s25v.length : Int) then (if 0 ≤ (16 : Int) ∧ (16 : Int) < (s25v.length : Int) then (if 0 ≤ (2 : Int) ∧ (2 : Int) < (s25v.length : Int) then (if 0 ≤ (3 : Int) ∧ (3 : Int) < (s25v.length : Int) then (if 0 ≤ (4 : Int) ∧ (4 : Int) < (s25v.length : Int) then (if 0 ≤ (5 : Int) ∧ (5 : Int) < (s25v.length : Int) then (if 0 ≤ (6 : Int) ∧ (6 : Int) < (s25v.length : Int) then (if 0 ≤ (7 : Int) ∧ (7 : Int) < (s25v.length : Int) then (if 0 ≤ (0 : Int) ∧ (0 : Int) < (s25v.length : Int) then (if 0 ≤ (1 : Int) ∧ (1 : Int) < (s25v.length : Int) then (some ((s25v.getD (0 : Int).toNat (0 : Int)), (s25v.getD (1 : Int).toNat (0 : Int)), 0, 0, (s25v.getD (2 : Int).toNat (0 : Int)), (s25v.getD (3 : Int).toNat (0 : Int)), (s25v.getD (4 : Int).toNat (0 : Int)), (s25v.getD (5 : Int).toNat (0 : Int)), (s25v.getD (6 : Int).toNat (0 : Int)), (s25v.getD (7 : Int).toNat (0 : Int)), (s25v.getD (8 : Int).toNat (0 : Int)), (s25v.getD (9 : Int).toNat (0 : Int)), (s25v.getD (10 : Int).toNat (0 : Int)), (s25v.getD (11 : Int).toNat (0 : Int)), (s25v.getD (12 : Int).toNat (0 : Int)), (s25v.getD (13 : Int).toNat (0 : Int)), (s25v.getD (14 : Int).toNat (0 : Int)), (s25v.getD (15 : Int).toNat (0 : Int)), (s25v.getD (16 : Int).toNat (0 : Int)), 0)) else none) else none) else none) else none) else none) else none) else none) else none) else none) else none) else none) else none) else none) else none) else none) else none) else none)) else (some (0, 0, 0, 0, 0, 0, 0, 0, 0, 0, 0, 0, 0, 0, 0, 0, 0, 0, 0, 21))))) else (some (0, 0, 0, 0, 0, 0, 0, 0, 0, 0, 0, 0, 0, 0, 0, 0, 0, 0, 0, s2v.2)))
theorem synodref17_ParseOpts.calls (W : World) (F : HA) (k : Nat) (x0 : List UInt8)  :
    Fn Tryd.prog W 25 [str x0] [] F (synodref17_ParseOpts.f k x0) (fun (r : Int × Int × Int × Int × Int × Int × Int × Int × Int × Int × Int × Int × Int × Int × Int × Int × Int × Int × Int × Int) (y : Unit) => .tuple #[.agg #[.int .i64 r.1, .int .i64 r.2.1, .int .i64 r.2.2.1, .int .i64 r.2.2.2.1, .int .i64 r.2.2.2.2.1, .int .i64 r.2.2.2.2.2.1, .int .i64 r.2.2.2.2.2.2.1, .int .i64 r.2.2.2.2.2.2.2.1, .int .i64 r.2.2.2.2.2.2.2.2.1, .int .i64 r.2.2.2.2.2.2.2.2.2.1, .int .i64 r.2.2.2.2.2.2.2.2.2.2.1, .int .i64 r.2.2.2.2.2.2.2.2.2.2.2.1, .int .i64 r.2.2.2.2.2.2.2.2.2.2.2.2.1, .int .i64 r.2.2.2.2.2.2.2.2.2.2.2.2.2.1, .int .i64 r.2.2.2.2.2.2.2.2.2.2.2.2.2.2.1, .int .i64 r.2.2.2.2.2.2.2.2.2.2.2.2.2.2.2.1, .int .i64 r.2.2.2.2.2.2.2.2.2.2.2.2.2.2.2.2.1, .int .i64 r.2.2.2.2.2.2.2.2.2.2.2.2.2.2.2.2.2.1, .int .i64 r.2.2.2.2.2.2.2.2.2.2.2.2.2.2.2.2.2.2.1], .int .i64 r.2.2.2.2.2.2.2.2.2.2.2.2.2.2.2.2.2.2.2]) (fun r y => []) := by
 unfold synodref17_ParseOpts.f
 refine fn_intro 127 Tryd.func25 rfl Tryd.ntmps25 rfl ?_
 refine sr ?_
 refine simL_eff (re_alloc rfl Tryd.zeroValue61 rfl) rfl rfl rfl ?_
 intro b1v
 refine va rfl rfl (nx ?_)
 refine vm rfl rfl ?_
 refine simL_bind (fun s2v hs3v => ?_)
 refine simL_eff (re_call (vs := [str x0]) (cap := []) (A := []) (rst := [obj b1v 61 [.int .i64 0, .int .i64 0, .int .i64 0, .int .i64 0, .int .i64 0, .int .i64 0, .int .i64 0, .int .i64 0, .int .i64 0, .int .i64 0, .int .i64 0, .int .i64 0, .int .i64 0, .int .i64 0, .int .i64 0, .int .i64 0, .int .i64 0, .int .i64 0, .int .i64 0], F]) rfl rfl rfl rfl rfl rfl Tryd.call13 (.sel 0 rfl (.sel 0 rfl (.nil _))) (synodref17_Words.calls _ _ k x0 ) hs3v) rfl rfl rfl ?_
 intro y4v
 refine vm rfl rfl ?_
 refine vq (q_ext rfl rfl rfl) rfl ?_
 refine vq (q_ext rfl rfl rfl) rfl ?_
 refine va rfl rfl ?_
 refine va rfl rfl (simL_nil (nrm_then (sim_seq (sr ?_))))
 refine vm rfl rfl ?_
 refine vq (q_neq rfl rfl rfl) rfl (simL_nil (nrm_then ?_))
 refine sim_condn rfl (fun h5v => ?_) (fun h6v => ?_)
 refine sim_skip ?_
 refine nrm_then (sim_seq (sr ?_))
 refine vm rfl rfl ?_
 refine vq (q_len rfl rfl rfl Tryd.underlying23) rfl ?_
 refine vq (q_eql rfl rfl rfl) rfl ?_
 refine vm rfl rfl ?_
 refine simL_cut' 5 (S := Bool) (Unit) (fun s y => [(2, .pointer (some ⟨b1v, 0, none⟩)), (4, .slice y4v.1 s2v.1.length y4v.2), (28, .bool s)]) (fun s y => [obj b1v 61 [.int .i64 0, .int .i64 0, .int .i64 0, .int .i64 0, .int .i64 0, .int .i64 0, .int .i64 0, .int .i64 0, .int .i64 0, .int .i64 0, .int .i64 0, .int .i64 0, .int .i64 0, .int .i64 0, .int .i64 0, .int .i64 0, .int .i64 0, .int .i64 0, .int .i64 0], RowV 9 1 (V9 tt) y4v.1 s2v.1 y4v.2, F]) ?_ ?_
 refine simL_casep (fun hb19v => ?_) (fun hb20v => ?_)
 rw [hb19v]
 refine simL_skipd rfl rfl rfl rfl rfl rfl ?_
 refine simL_skipd rfl rfl rfl rfl rfl rfl ?_
 refine simL_skipd rfl rfl rfl rfl rfl rfl ?_
 refine simL_skipd rfl rfl rfl rfl rfl rfl ?_
 refine vq (q_pick rfl rfl rfl rfl rfl) rfl (simL_nil ?_)
 exact nrm_cut (s := true) () ⟨rfl, rfl, rfl, trivial⟩ (.sel 1 rfl (.sel 0 rfl (.sel 0 rfl (.nil _))))
 rw [hb20v]
 refine simL_valg (q_move rfl rfl) rfl rfl rfl rfl rfl rfl ?_
 refine simL_openV 0 rfl (fun rs17v hl18v => ?_)
 refine simL_ask (fun hi9v => ?_)
 refine simL_posV 0 rfl hl18v rfl (i := (0 : Int).toNat) (by omega) ([] : List UInt8) (fun b10v b10vo r13v ha11v hV14v hlr15v hcell16v => ?_)
 obtain rfl := hV14v
 refine simL_valg (q_idx rfl rfl rfl ha11v Tryd.underlying23 Tryd.sizeOf9 hi9v.1 hi9v.2) rfl rfl rfl rfl rfl rfl ?_
 refine simL_valg (q_load rfl rfl Tryd.isAgg9 (hcell16v 0 rfl 0 _ rfl)) rfl rfl rfl rfl rfl rfl ?_
 refine simL_valg (q_nes rfl rfl rfl) rfl rfl rfl rfl rfl rfl ?_
 refine vq (q_pick rfl rfl rfl rfl rfl) rfl (simL_nil ?_)
 exact nrm_cut (s := !decide ((s2v.1.getD (0 : Int).toNat ([] : List UInt8)) = ([119, 111, 114, 108, 100] : List UInt8))) () ⟨rfl, rfl, rfl, trivial⟩ (.sel 1 rfl (.sel' 0 rfl (RowV.mk hl18v) (.sel 0 rfl (.nil _))))
 intro s7v y8v
 refine simL_nil (nrm_then ?_)
 refine sim_condb rfl (fun h21v => ?_) (fun h22v => ?_)
 refine sr ?_
 refine vq (q_build (v := .agg #[.int .i64 0, .int .i64 0, .int .i64 0, .int .i64 0, .int .i64 0, .int .i64 0, .int .i64 0, .int .i64 0, .int .i64 0, .int .i64 0, .int .i64 0, .int .i64 0, .int .i64 0, .int .i64 0, .int .i64 0, .int .i64 0, .int .i64 0, .int .i64 0, .int .i64 0]) rfl rfl (fun _ => by kernel_rfl)) rfl ?_
 refine simL_do (re_store 0 rfl rfl rfl Tryd.sizeOf61 rfl rfl (one_of (by rfl)) rfl rfl) rfl rfl ?_
 intro _
 refine simL_ent (H' := [obj b1v 61 [.int .i64 0, .int .i64 0, .int .i64 0, .int .i64 0, .int .i64 0, .int .i64 0, .int .i64 0, .int .i64 0, .int .i64 0, .int .i64 0, .int .i64 0, .int .i64 0, .int .i64 0, .int .i64 0, .int .i64 0, .int .i64 0, .int .i64 0, .int .i64 0, .int .i64 0], RowV 9 1 (V9 tt) y4v.1 s2v.1 y4v.2, F]) (Ent.refl _) ?_
 refine va rfl rfl (simL_nil (nrm_then (sim_rtn ?_)))
 refine rtn_then ?_
 exact rtn_fnC (vs := [.agg #[.int .i64 0, .int .i64 0, .int .i64 0, .int .i64 0, .int .i64 0, .int .i64 0, .int .i64 0, .int .i64 0, .int .i64 0, .int .i64 0, .int .i64 0, .int .i64 0, .int .i64 0, .int .i64 0, .int .i64 0, .int .i64 0, .int .i64 0, .int .i64 0, .int .i64 0], .int .i64 20]) () rfl ⟨⟨b1v, rfl, load_agg 0 Tryd.isAgg61 Tryd.sizeOf61 rfl rfl⟩, rfl, trivial⟩ rfl (.sel 2 rfl (.nil _))
 refine sim_skip ?_
 refine nrm_then (sim_seq (sr ?_))
 refine vm rfl rfl ?_
 refine vq (q_len rfl rfl rfl Tryd.underlying23) rfl ?_
 refine vq (q_neq rfl rfl rfl) rfl (simL_nil (nrm_then ?_))
 refine sim_condn rfl (fun h23v => ?_) (fun h24v => ?_)
 refine sim_skip ?_
 refine nrm_then (sr ?_)
 refine va rfl rfl (simL_nil (nrm_then ?_))
 refine sim_cutR (S := List Int) (Option Addr × Nat) (fun s y => [(2, .pointer (some ⟨b1v, 0, none⟩)), (6, .slice y.1 s.length y.2)]) (fun s y => [obj b1v 61 [.int .i64 0, .int .i64 0, .int .i64 0, .int .i64 0, .int .i64 0, .int .i64 0, .int .i64 0, .int .i64 0, .int .i64 0, .int .i64 0, .int .i64 0, .int .i64 0, .int .i64 0, .int .i64 0, .int .i64 0, .int .i64 0, .int .i64 0, .int .i64 0, .int .i64 0], RowV 3 1 (V3 tt) y.1 s y.2, F]) ?_ ?_
 refine sr ?_
 refine va rfl rfl (simL_nil (nrm_then ?_))
 refine sim_block ?_
 refine sim_loop (S := List Int × Int) (Option Addr × Nat) (fun k s => synodref17_ParseOpts.l0 s2v k s.1 s.2) (fun s y => [(2, .pointer (some ⟨b1v, 0, none⟩)), (4, .slice y4v.1 s2v.1.length y4v.2), (6, .slice y.1 s.1.length y.2), (7, .int .i64 s.2)]) (fun s y => [obj b1v 61 [.int .i64 0, .int .i64 0, .int .i64 0, .int .i64 0, .int .i64 0, .int .i64 0, .int .i64 0, .int .i64 0, .int .i64 0, .int .i64 0, .int .i64 0, .int .i64 0, .int .i64 0, .int .i64 0, .int .i64 0, .int .i64 0, .int .i64 0, .int .i64 0, .int .i64 0], RowV 9 1 (V9 tt) y4v.1 s2v.1 y4v.2, RowV 3 1 (V3 tt) y.1 s.1 y.2, F]) (fun _ => by rw [synodref17_ParseOpts.l0]) ?_ k (([] : List Int), 1) (none, 0) ⟨rfl, rfl, rfl, rfl, trivial⟩ (.sel 0 rfl (.sel 0 rfl (.rowV_nil (.sel 0 rfl (.nil _)))))
 intro k s27v y28v
 refine sim_eq (by rw [synodref17_ParseOpts.l0]) ?_
 refine sim_seq (sr ?_)
 refine vm rfl rfl ?_
 refine vq (q_lss rfl rfl rfl) rfl (simL_nil (nrm_then ?_))
 refine sim_cond rfl (fun h31v => ?_) (fun h32v => ?_)
 refine sim_skip ?_
 refine nrm_then (sim_seq ?_)
 refine sim_block ?_
 refine sr ?_
 refine vm rfl rfl ?_
 refine vm rfl rfl ?_
 refine simL_openV 1 rfl (fun rs41v hl42v => ?_)
 refine simL_ask (fun hi33v => ?_)
 refine simL_posV 1 rfl hl42v rfl (i := s27v.2.toNat) (by omega) ([] : List UInt8) (fun b34v b34vo r37v ha35v hV38v hlr39v hcell40v => ?_)
 obtain rfl := hV38v
 refine vq (q_idx rfl rfl rfl ha35v Tryd.underlying23 Tryd.sizeOf9 hi33v.1 hi33v.2) rfl ?_
 refine vq (q_load rfl rfl Tryd.isAgg9 (hcell40v 1 rfl 0 _ rfl)) rfl ?_
 refine simL_bind (fun s43v hs44v => ?_)
 refine simL_eff (re_call (vs := [str (s2v.1.getD s27v.2.toNat ([] : List UInt8))]) (cap := []) (A := []) (rst := [obj b1v 61 [.int .i64 0, .int .i64 0, .int .i64 0, .int .i64 0, .int .i64 0, .int .i64 0, .int .i64 0, .int .i64 0, .int .i64 0, .int .i64 0, .int .i64 0, .int .i64 0, .int .i64 0, .int .i64 0, .int .i64 0, .int .i64 0, .int .i64 0, .int .i64 0, .int .i64 0], Row 9 1 y4v.1 s2v.1.length y4v.2 rs41v.flatten, RowV 3 1 (V3 tt) y28v.1 s27v.1 y28v.2, F]) rfl rfl rfl rfl rfl rfl Tryd.call56 (.sel 0 rfl (.sel 0 rfl (.sel 0 rfl (.sel 0 rfl (.nil _))))) (synodref17_number.calls _ _ k (s2v.1.getD s27v.2.toNat ([] : List UInt8)) ) hs44v) rfl rfl rfl ?_
 intro y45v
 refine vm rfl rfl ?_
 refine vq (q_ext rfl rfl rfl) rfl ?_
 refine vq (q_ext rfl rfl rfl) rfl ?_
 refine va rfl rfl ?_
 refine va rfl rfl (simL_nil (nrm_then (sim_seq (sr ?_))))
 refine vm rfl rfl ?_
 refine vq (q_not rfl rfl) rfl ?_
 refine vm rfl rfl ?_
 refine simL_cut' 7 (S := Bool) (Unit) (fun s y => [(2, .pointer (some ⟨b1v, 0, none⟩)), (4, .slice y4v.1 s2v.1.length y4v.2), (6, .slice y28v.1 s27v.1.length y28v.2), (7, .int .i64 s27v.2), (8, .int .i64 s43v.1), (55, .bool s)]) (fun s y => [obj b1v 61 [.int .i64 0, .int .i64 0, .int .i64 0, .int .i64 0, .int .i64 0, .int .i64 0, .int .i64 0, .int .i64 0, .int .i64 0, .int .i64 0, .int .i64 0, .int .i64 0, .int .i64 0, .int .i64 0, .int .i64 0, .int .i64 0, .int .i64 0, .int .i64 0, .int .i64 0], RowV 9 1 (V9 tt) y4v.1 s2v.1 y4v.2, RowV 3 1 (V3 tt) y28v.1 s27v.1 y28v.2, F]) ?_ ?_
 refine simL_caseb (fun hb50v => ?_) (fun hb51v => ?_)
 rw [hb50v]
 refine simL_skipd rfl rfl rfl rfl rfl rfl ?_
 refine simL_skipd rfl rfl rfl rfl rfl rfl ?_
 refine simL_skipd rfl rfl rfl rfl rfl rfl ?_
 refine simL_skipu rfl rfl rfl rfl rfl ?_
 refine simL_skipu rfl rfl rfl rfl rfl ?_
 refine simL_skipd rfl rfl rfl rfl rfl rfl ?_
 refine vq (q_pick rfl rfl rfl rfl rfl) rfl (simL_nil ?_)
 exact nrm_cut (s := true) () ⟨rfl, rfl, rfl, rfl, rfl, rfl, trivial⟩ (.sel 0 rfl (.sel' 0 rfl (RowV.mk hl42v) (.sel 0 rfl (.sel 0 rfl (.nil _)))))
 rw [hb51v]
 refine simL_valg (q_move rfl rfl) rfl rfl rfl rfl rfl rfl ?_
 refine simL_valg (q_eql rfl rfl rfl) rfl rfl rfl rfl rfl rfl ?_
 refine simL_valg (q_move rfl rfl) rfl rfl rfl rfl rfl rfl ?_
 refine simL_valc (b := decide (s27v.2 = (18 : Int))) (fun hb49v => RQ.sub (E' := [(8, .int .i64 s43v.1)]) ⟨rfl, trivial⟩ (q_move rfl rfl)) rfl rfl rfl rfl rfl ?_
 refine simL_valc (b := decide (s27v.2 = (18 : Int))) (fun hb48v => RQ.sub (E' := [(52, .int .i64 s43v.1)]) ⟨lk_cv rfl hb48v, trivial⟩ (q_neq rfl rfl rfl)) rfl rfl rfl rfl rfl ?_
 refine simL_valg (q_and rfl rfl rfl) rfl rfl rfl rfl rfl rfl ?_
 refine vq (q_pick rfl rfl rfl rfl rfl) rfl (simL_nil ?_)
 exact nrm_cut (s := (decide (s27v.2 = (18 : Int))) && (!decide (s43v.1 = (0 : Int)))) () ⟨rfl, rfl, rfl, rfl, rfl, rfl, trivial⟩ (.sel 0 rfl (.sel' 0 rfl (RowV.mk hl42v) (.sel 0 rfl (.sel 0 rfl (.nil _)))))
 intro s46v y47v
 refine simL_nil (nrm_then ?_)
 refine sim_condb rfl (fun h52v => ?_) (fun h53v => ?_)
 refine sr ?_
 refine vq (q_build (v := .agg #[.int .i64 0, .int .i64 0, .int .i64 0, .int .i64 0, .int .i64 0, .int .i64 0, .int .i64 0, .int .i64 0, .int .i64 0, .int .i64 0, .int .i64 0, .int .i64 0, .int .i64 0, .int .i64 0, .int .i64 0, .int .i64 0, .int .i64 0, .int .i64 0, .int .i64 0]) rfl rfl (fun _ => by kernel_rfl)) rfl ?_
 refine simL_do (re_store 0 rfl rfl rfl Tryd.sizeOf61 rfl rfl (one_of (by rfl)) rfl rfl) rfl rfl ?_
 intro _
 refine simL_ent (H' := [obj b1v 61 [.int .i64 0, .int .i64 0, .int .i64 0, .int .i64 0, .int .i64 0, .int .i64 0, .int .i64 0, .int .i64 0, .int .i64 0, .int .i64 0, .int .i64 0, .int .i64 0, .int .i64 0, .int .i64 0, .int .i64 0, .int .i64 0, .int .i64 0, .int .i64 0, .int .i64 0], RowV 9 1 (V9 tt) y4v.1 s2v.1 y4v.2, RowV 3 1 (V3 tt) y28v.1 s27v.1 y28v.2, F]) (Ent.refl _) ?_
 refine va rfl rfl (simL_nil (nrm_then (sim_rtn ?_)))
 refine rtn_then ?_
 refine rtn_block ?_
 refine rtn_then ?_
 refine rtn_loop ?_
 refine rtn_block ?_
 refine rtn_cutR ?_
 exact rtn_fnC (vs := [.agg #[.int .i64 0, .int .i64 0, .int .i64 0, .int .i64 0, .int .i64 0, .int .i64 0, .int .i64 0, .int .i64 0, .int .i64 0, .int .i64 0, .int .i64 0, .int .i64 0, .int .i64 0, .int .i64 0, .int .i64 0, .int .i64 0, .int .i64 0, .int .i64 0, .int .i64 0], .int .i64 22]) () rfl ⟨⟨b1v, rfl, load_agg 0 Tryd.isAgg61 Tryd.sizeOf61 rfl rfl⟩, rfl, trivial⟩ rfl (.sel 3 rfl (.nil _))
 refine sim_skip ?_
 refine nrm_then (sim_region ?_)
 refine vm rfl rfl ?_
 refine vm rfl rfl ?_
 have hlb55v : ListV 1 (V3 tt) ([s43v.1] : List Int) [[.int .i64 s43v.1]] := ⟨⟨rfl, one_of (by rfl), rfl⟩, trivial⟩
 refine simL_eff (re_litV (V := (V3 tt)) (xs := ([s43v.1] : List Int)) [[.int .i64 s43v.1]] rfl rfl Tryd.underlying68 elt3 rfl (by kernel_rfl) rfl hlb55v rfl rfl) rfl rfl rfl ?_
 intro b55v
 refine simL_openV 3 rfl (fun rs60v hl61v => ?_)
 refine simL_ask (fun hb59v => ?_)
 refine simL_eff (re_appendV 3 rfl rfl rfl Tryd.underlying68 elt3 rfl hl61v (RdsV.row hlb55v 0 rfl) hb59v) rfl rfl rfl ?_
 intro y58v
 refine va rfl rfl (simL_nil (nrm_block (nrm_then (sim_region ?_))))
 refine vm rfl rfl ?_
 refine vq (q_add rfl rfl rfl) rfl ?_
 refine va rfl rfl (simL_nil ?_)
 exact nrm_again (s := (s27v.1 ++ ([s43v.1] : List Int), IntKind.i64.wrap (s27v.2 + 1))) (y58v.1, y58v.2) ⟨rfl, rfl, rfl, rfl, trivial⟩ (.sel 1 rfl (.sel 1 rfl (.sel 1 rfl (.sel 1 rfl (.nil _)))))
 refine sim_exi ?_
 refine exi_then ?_
 refine exi_loop ?_
 refine exi_here ?_
 exact nrm_cutR (s := s27v.1) (y28v.1, y28v.2) ⟨rfl, rfl, trivial⟩ (.sel 0 rfl (.sel 1 rfl (.sel 1 rfl (.nil _))))
 intro s25v y26v
 refine sim_seq ?_
 refine sim_openV 1 rfl (fun rs62v hl63v => ?_)
 refine sim_ask (fun hi64v => ?_)
 refine sim_posV 1 rfl hl63v rfl (i := (8 : Int).toNat) (by omega) (0 : Int) (fun b65v b65vo r68v ha66v hV69v hlr70v hcell71v => ?_)
 obtain rfl := hV69v
 refine sim_ask (fun hi72v => ?_)
 refine sim_posV 1 rfl hl63v rfl (i := (9 : Int).toNat) (by omega) (0 : Int) (fun b73v b73vo r76v ha74v hV77v hlr78v hcell79v => ?_)
 obtain rfl := hV77v
 refine sim_ask (fun hi80v => ?_)
 refine sim_posV 1 rfl hl63v rfl (i := (10 : Int).toNat) (by omega) (0 : Int) (fun b81v b81vo r84v ha82v hV85v hlr86v hcell87v => ?_)
 obtain rfl := hV85v
 refine sim_ask (fun hi88v => ?_)
 refine sim_posV 1 rfl hl63v rfl (i := (11 : Int).toNat) (by omega) (0 : Int) (fun b89v b89vo r92v ha90v hV93v hlr94v hcell95v => ?_)
 obtain rfl := hV93v
 refine sim_ask (fun hi96v => ?_)
 refine sim_posV 1 rfl hl63v rfl (i := (12 : Int).toNat) (by omega) (0 : Int) (fun b97v b97vo r100v ha98v hV101v hlr102v hcell103v => ?_)
 obtain rfl := hV101v
 refine sim_ask (fun hi104v => ?_)
 refine sim_posV 1 rfl hl63v rfl (i := (13 : Int).toNat) (by omega) (0 : Int) (fun b105v b105vo r108v ha106v hV109v hlr110v hcell111v => ?_)
 obtain rfl := hV109v
 refine sim_ask (fun hi112v => ?_)
 refine sim_posV 1 rfl hl63v rfl (i := (14 : Int).toNat) (by omega) (0 : Int) (fun b113v b113vo r116v ha114v hV117v hlr118v hcell119v => ?_)
 obtain rfl := hV117v
 refine sim_ask (fun hi120v => ?_)
 refine sim_posV 1 rfl hl63v rfl (i := (15 : Int).toNat) (by omega) (0 : Int) (fun b121v b121vo r124v ha122v hV125v hlr126v hcell127v => ?_)
 obtain rfl := hV125v
 refine sim_ask (fun hi128v => ?_)
 refine sim_posV 1 rfl hl63v rfl (i := (16 : Int).toNat) (by omega) (0 : Int) (fun b129v b129vo r132v ha130v hV133v hlr134v hcell135v => ?_)
 obtain rfl := hV133v
 refine sim_draw (Γ := Nat) 0 [[], [0], [0, 1], [], [3], [3, 4], [], [6], [6, 7], [], [9], [9, 10], [], [12], [12, 13], [], [15], [15, 16], [], [18], [18, 19], [], [21], [21, 22], [], [24], [24, 25], rL 27, [], rL 29] [28, 29] [0, 1, 2, 3, 4, 5, 6, 7, 8, 9, 10, 11, 12, 13, 14, 15, 16, 17, 18, 19, 20, 21, 22, 23, 24, 25, 26, 27] (fun i => [[0, 1], [0, 1], [0, 1], [0, 1], [0, 1], [0, 1], [0, 1], [0, 1], [0, 1], [0, 1], [0, 1], [0, 1], [0, 1], [0, 1], [0, 1], [0, 1], [0, 1], [0, 1], [0, 1], [0, 1], [0, 1], [0, 1], [0, 1], [0, 1], [0, 1], [0, 1], [0, 1], [0, 1], [], []].getD i []) (fun i => [[], [], [], [], [], [], [], [], [], [], [], [], [], [], [], [], [], [], [], [], [], [], [], [], [], [], [], [], rL 28, rL 29].getD i []) (fun γ i => [.slice y26v.1 s25v.length y26v.2, .pointer (some ⟨b65v, b65vo + (8 : Int).toNat * 1, none⟩), .int .i64 (s25v.getD (8 : Int).toNat (0 : Int)), .slice y26v.1 s25v.length y26v.2, .pointer (some ⟨b73v, b73vo + (9 : Int).toNat * 1, none⟩), .int .i64 (s25v.getD (9 : Int).toNat (0 : Int)), .slice y26v.1 s25v.length y26v.2, .pointer (some ⟨b81v, b81vo + (10 : Int).toNat * 1, none⟩), .int .i64 (s25v.getD (10 : Int).toNat (0 : Int)), .slice y26v.1 s25v.length y26v.2, .pointer (some ⟨b89v, b89vo + (11 : Int).toNat * 1, none⟩), .int .i64 (s25v.getD (11 : Int).toNat (0 : Int)), .slice y26v.1 s25v.length y26v.2, .pointer (some ⟨b97v, b97vo + (12 : Int).toNat * 1, none⟩), .int .i64 (s25v.getD (12 : Int).toNat (0 : Int)), .slice y26v.1 s25v.length y26v.2, .pointer (some ⟨b105v, b105vo + (13 : Int).toNat * 1, none⟩), .int .i64 (s25v.getD (13 : Int).toNat (0 : Int)), .slice y26v.1 s25v.length y26v.2, .pointer (some ⟨b113v, b113vo + (14 : Int).toNat * 1, none⟩), .int .i64 (s25v.getD (14 : Int).toNat (0 : Int)), .slice y26v.1 s25v.length y26v.2, .pointer (some ⟨b121v, b121vo + (15 : Int).toNat * 1, none⟩), .int .i64 (s25v.getD (15 : Int).toNat (0 : Int)), .slice y26v.1 s25v.length y26v.2, .pointer (some ⟨b129v, b129vo + (16 : Int).toNat * 1, none⟩), .int .i64 (s25v.getD (16 : Int).toNat (0 : Int)), .agg #[.int .i64 0, .int .i64 0, .int .i64 0, .int .i64 0, .int .i64 0, .int .i64 0, .int .i64 0, .int .i64 0, .int .i64 (s25v.getD (8 : Int).toNat (0 : Int)), .int .i64 (s25v.getD (9 : Int).toNat (0 : Int)), .int .i64 (s25v.getD (10 : Int).toNat (0 : Int)), .int .i64 (s25v.getD (11 : Int).toNat (0 : Int)), .int .i64 (s25v.getD (12 : Int).toNat (0 : Int)), .int .i64 (s25v.getD (13 : Int).toNat (0 : Int)), .int .i64 (s25v.getD (14 : Int).toNat (0 : Int)), .int .i64 (s25v.getD (15 : Int).toNat (0 : Int)), .int .i64 (s25v.getD (16 : Int).toNat (0 : Int))], .pointer (some ⟨γ, 0, none⟩), undef].getD i undef) (fun j γ => [[obj b1v 61 [.int .i64 0, .int .i64 0, .int .i64 0, .int .i64 0, .int .i64 0, .int .i64 0, .int .i64 0, .int .i64 0, .int .i64 0, .int .i64 0, .int .i64 0, .int .i64 0, .int .i64 0, .int .i64 0, .int .i64 0, .int .i64 0, .int .i64 0, .int .i64 0, .int .i64 0], Row 3 1 y26v.1 s25v.length y26v.2 rs62v.flatten, F], [obj γ 59 [.int .i64 0, .int .i64 0, .int .i64 0, .int .i64 0, .int .i64 0, .int .i64 0, .int .i64 0, .int .i64 0, .int .i64 0, .int .i64 0, .int .i64 0, .int .i64 0, .int .i64 0, .int .i64 0, .int .i64 0, .int .i64 0, .int .i64 0], obj b1v 61 [.int .i64 0, .int .i64 0, .int .i64 0, .int .i64 0, .int .i64 0, .int .i64 0, .int .i64 0, .int .i64 0, .int .i64 0, .int .i64 0, .int .i64 0, .int .i64 0, .int .i64 0, .int .i64 0, .int .i64 0, .int .i64 0, .int .i64 0, .int .i64 0, .int .i64 0], Row 3 1 y26v.1 s25v.length y26v.2 rs62v.flatten, F], [obj γ 59 [.int .i64 0, .int .i64 0, .int .i64 0, .int .i64 0, .int .i64 0, .int .i64 0, .int .i64 0, .int .i64 0, .int .i64 (s25v.getD (8 : Int).toNat (0 : Int)), .int .i64 (s25v.getD (9 : Int).toNat (0 : Int)), .int .i64 (s25v.getD (10 : Int).toNat (0 : Int)), .int .i64 (s25v.getD (11 : Int).toNat (0 : Int)), .int .i64 (s25v.getD (12 : Int).toNat (0 : Int)), .int .i64 (s25v.getD (13 : Int).toNat (0 : Int)), .int .i64 (s25v.getD (14 : Int).toNat (0 : Int)), .int .i64 (s25v.getD (15 : Int).toNat (0 : Int)), .int .i64 (s25v.getD (16 : Int).toNat (0 : Int))], obj b1v 61 [.int .i64 0, .int .i64 0, .int .i64 0, .int .i64 0, .int .i64 0, .int .i64 0, .int .i64 0, .int .i64 0, .int .i64 0, .int .i64 0, .int .i64 0, .int .i64 0, .int .i64 0, .int .i64 0, .int .i64 0, .int .i64 0, .int .i64 0, .int .i64 0, .int .i64 0], Row 3 1 y26v.1 s25v.length y26v.2 rs62v.flatten, F]].getD j []) (fun γ => [(2, .pointer (some ⟨b1v, 0, none⟩)), (6, .slice y26v.1 s25v.length y26v.2), (10, .pointer (some ⟨γ, 0, none⟩))]) mixed (by decide) (by decide) (by decide) (by decide) (by decide) (by decide) (by decide) 127 rfl (by decide) (by decide) (by decide) (Ent.refl _) ?_ ?_ (fun _ => ⟨rfl, rfl, rfl, trivial⟩) ?_
 exact (ac (fun γ => (ac (qm rfl (.o (s := 6) rfl (by decide) .nil) rfl) (ac (qm rfl (.o (s := 6) rfl (by decide) .nil) rfl) zA))) (ac (fun γ => (ac (qp rfl rfl (.v 0 rfl rfl .nil) (q_idx rfl rfl rfl ha66v Tryd.underlying68 Tryd.sizeOf3 hi64v.1 hi64v.2) rfl) (ac (qp rfl rfl (.v 0 rfl rfl .nil) (q_idx rfl rfl rfl ha66v Tryd.underlying68 Tryd.sizeOf3 hi64v.1 hi64v.2) rfl) zA))) (ac (fun γ => (ac (qp rfl rfl (.v 1 rfl rfl .nil) (q_load rfl rfl Tryd.isAgg3 (hcell71v 1 rfl 0 _ rfl)) rfl) (ac (qp rfl rfl (.v 1 rfl rfl .nil) (q_load rfl rfl Tryd.isAgg3 (hcell71v 2 rfl 0 _ rfl)) rfl) zA))) (ac (fun γ => (ac (qm rfl (.o (s := 6) rfl (by decide) .nil) rfl) (ac (qm rfl (.o (s := 6) rfl (by decide) .nil) rfl) zA))) (ac (fun γ => (ac (qp rfl rfl (.v 3 rfl rfl .nil) (q_idx rfl rfl rfl ha74v Tryd.underlying68 Tryd.sizeOf3 hi72v.1 hi72v.2) rfl) (ac (qp rfl rfl (.v 3 rfl rfl .nil) (q_idx rfl rfl rfl ha74v Tryd.underlying68 Tryd.sizeOf3 hi72v.1 hi72v.2) rfl) zA))) (ac (fun γ => (ac (qp rfl rfl (.v 4 rfl rfl .nil) (q_load rfl rfl Tryd.isAgg3 (hcell79v 1 rfl 0 _ rfl)) rfl) (ac (qp rfl rfl (.v 4 rfl rfl .nil) (q_load rfl rfl Tryd.isAgg3 (hcell79v 2 rfl 0 _ rfl)) rfl) zA))) (ac (fun γ => (ac (qm rfl (.o (s := 6) rfl (by decide) .nil) rfl) (ac (qm rfl (.o (s := 6) rfl (by decide) .nil) rfl) zA))) (ac (fun γ => (ac (qp rfl rfl (.v 6 rfl rfl .nil) (q_idx rfl rfl rfl ha82v Tryd.underlying68 Tryd.sizeOf3 hi80v.1 hi80v.2) rfl) (ac (qp rfl rfl (.v 6 rfl rfl .nil) (q_idx rfl rfl rfl ha82v Tryd.underlying68 Tryd.sizeOf3 hi80v.1 hi80v.2) rfl) zA))) (ac (fun γ => (ac (qp rfl rfl (.v 7 rfl rfl .nil) (q_load rfl rfl Tryd.isAgg3 (hcell87v 1 rfl 0 _ rfl)) rfl) (ac (qp rfl rfl (.v 7 rfl rfl .nil) (q_load rfl rfl Tryd.isAgg3 (hcell87v 2 rfl 0 _ rfl)) rfl) zA))) (ac (fun γ => (ac (qm rfl (.o (s := 6) rfl (by decide) .nil) rfl) (ac (qm rfl (.o (s := 6) rfl (by decide) .nil) rfl) zA))) (ac (fun γ => (ac (qp rfl rfl (.v 9 rfl rfl .nil) (q_idx rfl rfl rfl ha90v Tryd.underlying68 Tryd.sizeOf3 hi88v.1 hi88v.2) rfl) (ac (qp rfl rfl (.v 9 rfl rfl .nil) (q_idx rfl rfl rfl ha90v Tryd.underlying68 Tryd.sizeOf3 hi88v.1 hi88v.2) rfl) zA))) (ac (fun γ => (ac (qp rfl rfl (.v 10 rfl rfl .nil) (q_load rfl rfl Tryd.isAgg3 (hcell95v 1 rfl 0 _ rfl)) rfl) (ac (qp rfl rfl (.v 10 rfl rfl .nil) (q_load rfl rfl Tryd.isAgg3 (hcell95v 2 rfl 0 _ rfl)) rfl) zA))) (ac (fun γ => (ac (qm rfl (.o (s := 6) rfl (by decide) .nil) rfl) (ac (qm rfl (.o (s := 6) rfl (by decide) .nil) rfl) zA))) (ac (fun γ => (ac (qp rfl rfl (.v 12 rfl rfl .nil) (q_idx rfl rfl rfl ha98v Tryd.underlying68 Tryd.sizeOf3 hi96v.1 hi96v.2) rfl) (ac (qp rfl rfl (.v 12 rfl rfl .nil) (q_idx rfl rfl rfl ha98v Tryd.underlying68 Tryd.sizeOf3 hi96v.1 hi96v.2) rfl) zA))) (ac (fun γ => (ac (qp rfl rfl (.v 13 rfl rfl .nil) (q_load rfl rfl Tryd.isAgg3 (hcell103v 1 rfl 0 _ rfl)) rfl) (ac (qp rfl rfl (.v 13 rfl rfl .nil) (q_load rfl rfl Tryd.isAgg3 (hcell103v 2 rfl 0 _ rfl)) rfl) zA))) (ac (fun γ => (ac (qm rfl (.o (s := 6) rfl (by decide) .nil) rfl) (ac (qm rfl (.o (s := 6) rfl (by decide) .nil) rfl) zA))) (ac (fun γ => (ac (qp rfl rfl (.v 15 rfl rfl .nil) (q_idx rfl rfl rfl ha106v Tryd.underlying68 Tryd.sizeOf3 hi104v.1 hi104v.2) rfl) (ac (qp rfl rfl (.v 15 rfl rfl .nil) (q_idx rfl rfl rfl ha106v Tryd.underlying68 Tryd.sizeOf3 hi104v.1 hi104v.2) rfl) zA))) (ac (fun γ => (ac (qp rfl rfl (.v 16 rfl rfl .nil) (q_load rfl rfl Tryd.isAgg3 (hcell111v 1 rfl 0 _ rfl)) rfl) (ac (qp rfl rfl (.v 16 rfl rfl .nil) (q_load rfl rfl Tryd.isAgg3 (hcell111v 2 rfl 0 _ rfl)) rfl) zA))) (ac (fun γ => (ac (qm rfl (.o (s := 6) rfl (by decide) .nil) rfl) (ac (qm rfl (.o (s := 6) rfl (by decide) .nil) rfl) zA))) (ac (fun γ => (ac (qp rfl rfl (.v 18 rfl rfl .nil) (q_idx rfl rfl rfl ha114v Tryd.underlying68 Tryd.sizeOf3 hi112v.1 hi112v.2) rfl) (ac (qp rfl rfl (.v 18 rfl rfl .nil) (q_idx rfl rfl rfl ha114v Tryd.underlying68 Tryd.sizeOf3 hi112v.1 hi112v.2) rfl) zA))) (ac (fun γ => (ac (qp rfl rfl (.v 19 rfl rfl .nil) (q_load rfl rfl Tryd.isAgg3 (hcell119v 1 rfl 0 _ rfl)) rfl) (ac (qp rfl rfl (.v 19 rfl rfl .nil) (q_load rfl rfl Tryd.isAgg3 (hcell119v 2 rfl 0 _ rfl)) rfl) zA))) (ac (fun γ => (ac (qm rfl (.o (s := 6) rfl (by decide) .nil) rfl) (ac (qm rfl (.o (s := 6) rfl (by decide) .nil) rfl) zA))) (ac (fun γ => (ac (qp rfl rfl (.v 21 rfl rfl .nil) (q_idx rfl rfl rfl ha122v Tryd.underlying68 Tryd.sizeOf3 hi120v.1 hi120v.2) rfl) (ac (qp rfl rfl (.v 21 rfl rfl .nil) (q_idx rfl rfl rfl ha122v Tryd.underlying68 Tryd.sizeOf3 hi120v.1 hi120v.2) rfl) zA))) (ac (fun γ => (ac (qp rfl rfl (.v 22 rfl rfl .nil) (q_load rfl rfl Tryd.isAgg3 (hcell127v 1 rfl 0 _ rfl)) rfl) (ac (qp rfl rfl (.v 22 rfl rfl .nil) (q_load rfl rfl Tryd.isAgg3 (hcell127v 2 rfl 0 _ rfl)) rfl) zA))) (ac (fun γ => (ac (qm rfl (.o (s := 6) rfl (by decide) .nil) rfl) (ac (qm rfl (.o (s := 6) rfl (by decide) .nil) rfl) zA))) (ac (fun γ => (ac (qp rfl rfl (.v 24 rfl rfl .nil) (q_idx rfl rfl rfl ha130v Tryd.underlying68 Tryd.sizeOf3 hi128v.1 hi128v.2) rfl) (ac (qp rfl rfl (.v 24 rfl rfl .nil) (q_idx rfl rfl rfl ha130v Tryd.underlying68 Tryd.sizeOf3 hi128v.1 hi128v.2) rfl) zA))) (ac (fun γ => (ac (qp rfl rfl (.v 25 rfl rfl .nil) (q_load rfl rfl Tryd.isAgg3 (hcell135v 1 rfl 0 _ rfl)) rfl) (ac (qp rfl rfl (.v 25 rfl rfl .nil) (q_load rfl rfl Tryd.isAgg3 (hcell135v 2 rfl 0 _ rfl)) rfl) zA))) (ac (fun γ => (ac (qp rfl rfl (.v 2 rfl rfl (.v 5 rfl rfl (.v 8 rfl rfl (.v 11 rfl rfl (.v 14 rfl rfl (.v 17 rfl rfl (.v 20 rfl rfl (.v 23 rfl rfl (.v 26 rfl rfl .nil))))))))) (q_build (v := .agg #[.int .i64 0, .int .i64 0, .int .i64 0, .int .i64 0, .int .i64 0, .int .i64 0, .int .i64 0, .int .i64 0, .int .i64 (s25v.getD (8 : Int).toNat (0 : Int)), .int .i64 (s25v.getD (9 : Int).toNat (0 : Int)), .int .i64 (s25v.getD (10 : Int).toNat (0 : Int)), .int .i64 (s25v.getD (11 : Int).toNat (0 : Int)), .int .i64 (s25v.getD (12 : Int).toNat (0 : Int)), .int .i64 (s25v.getD (13 : Int).toNat (0 : Int)), .int .i64 (s25v.getD (14 : Int).toNat (0 : Int)), .int .i64 (s25v.getD (15 : Int).toNat (0 : Int)), .int .i64 (s25v.getD (16 : Int).toNat (0 : Int))]) rfl rfl (fun _ => by kernel_rfl)) rfl) (ac (qp rfl rfl (.v 2 rfl rfl (.v 5 rfl rfl (.v 8 rfl rfl (.v 11 rfl rfl (.v 14 rfl rfl (.v 17 rfl rfl (.v 20 rfl rfl (.v 23 rfl rfl (.v 26 rfl rfl .nil))))))))) (q_build (v := .agg #[.int .i64 0, .int .i64 0, .int .i64 0, .int .i64 0, .int .i64 0, .int .i64 0, .int .i64 0, .int .i64 0, .int .i64 (s25v.getD (8 : Int).toNat (0 : Int)), .int .i64 (s25v.getD (9 : Int).toNat (0 : Int)), .int .i64 (s25v.getD (10 : Int).toNat (0 : Int)), .int .i64 (s25v.getD (11 : Int).toNat (0 : Int)), .int .i64 (s25v.getD (12 : Int).toNat (0 : Int)), .int .i64 (s25v.getD (13 : Int).toNat (0 : Int)), .int .i64 (s25v.getD (14 : Int).toNat (0 : Int)), .int .i64 (s25v.getD (15 : Int).toNat (0 : Int)), .int .i64 (s25v.getD (16 : Int).toNat (0 : Int))]) rfl rfl (fun _ => by kernel_rfl)) rfl) zA))) zA))))))))))))))))))))))))))))
 exact (ac (fun γ => eo (Z := Nat) (fun z => z) rfl rfl .nil (re_alloc rfl Tryd.zeroValue59 rfl) (fun _ => ⟨rfl, rfl, rfl, rfl, rfl, rfl, rfl, rfl, rfl, rfl, rfl, rfl, rfl, rfl, rfl, rfl, rfl, rfl, rfl, rfl, rfl, rfl, rfl, rfl, rfl, rfl, rfl, rfl, trivial⟩) (fun _ => .inr rfl) (fun z => Ent.refl _)) (ac (fun γ => eo (Z := Unit) (fun z => γ) rfl rfl (.v 28 rfl rfl (.v 27 rfl rfl .nil)) (re_store 0 rfl rfl rfl Tryd.sizeOf59 rfl rfl (one_of (by rfl)) rfl rfl) (fun _ => ⟨rfl, rfl, rfl, rfl, rfl, rfl, rfl, rfl, rfl, rfl, rfl, rfl, rfl, rfl, rfl, rfl, rfl, rfl, rfl, rfl, rfl, rfl, rfl, rfl, rfl, rfl, rfl, rfl, rfl, trivial⟩) (fun _ => .inl rfl) (fun z => Ent.refl _)) zA))
 intro g137v
 refine nrm_then (sr ?_)
 refine vm rfl rfl ?_
 refine simL_ask (fun hi138v => ?_)
 refine simL_posV 2 rfl hl63v rfl (i := (2 : Int).toNat) (by omega) (0 : Int) (fun b139v b139vo r142v ha140v hV143v hlr144v hcell145v => ?_)
 obtain rfl := hV143v
 refine vq (q_idx rfl rfl rfl ha140v Tryd.underlying68 Tryd.sizeOf3 hi138v.1 hi138v.2) rfl ?_
 refine vq (q_load rfl rfl Tryd.isAgg3 (hcell145v 2 rfl 0 _ rfl)) rfl ?_
 refine vq (q_fa rfl rfl Tryd.underlying59 rfl rfl Tryd.sizeOf57 rfl) rfl ?_
 refine vq (q_fa rfl rfl Tryd.underlying57 rfl rfl Tryd.sizeOf3 rfl) rfl ?_
 refine simL_do (re_store 0 rfl rfl rfl Tryd.sizeOf3 rfl rfl (one_of (by rfl)) rfl rfl) rfl rfl ?_
 intro _
 refine simL_ent (H' := [obj g137v 59 [.int .i64 0, .int .i64 0, .int .i64 (s25v.getD (2 : Int).toNat (0 : Int)), .int .i64 0, .int .i64 0, .int .i64 0, .int .i64 0, .int .i64 0, .int .i64 (s25v.getD (8 : Int).toNat (0 : Int)), .int .i64 (s25v.getD (9 : Int).toNat (0 : Int)), .int .i64 (s25v.getD (10 : Int).toNat (0 : Int)), .int .i64 (s25v.getD (11 : Int).toNat (0 : Int)), .int .i64 (s25v.getD (12 : Int).toNat (0 : Int)), .int .i64 (s25v.getD (13 : Int).toNat (0 : Int)), .int .i64 (s25v.getD (14 : Int).toNat (0 : Int)), .int .i64 (s25v.getD (15 : Int).toNat (0 : Int)), .int .i64 (s25v.getD (16 : Int).toNat (0 : Int))], obj b1v 61 [.int .i64 0, .int .i64 0, .int .i64 0, .int .i64 0, .int .i64 0, .int .i64 0, .int .i64 0, .int .i64 0, .int .i64 0, .int .i64 0, .int .i64 0, .int .i64 0, .int .i64 0, .int .i64 0, .int .i64 0, .int .i64 0, .int .i64 0, .int .i64 0, .int .i64 0], Row 3 1 y26v.1 s25v.length y26v.2 rs62v.flatten, F]) (Ent.refl _) ?_
 refine nx ?_
 refine vm rfl rfl ?_
 refine simL_ask (fun hi146v => ?_)
 refine simL_posV 2 rfl hl63v rfl (i := (3 : Int).toNat) (by omega) (0 : Int) (fun b147v b147vo r150v ha148v hV151v hlr152v hcell153v => ?_)
 obtain rfl := hV151v
 refine vq (q_idx rfl rfl rfl ha148v Tryd.underlying68 Tryd.sizeOf3 hi146v.1 hi146v.2) rfl ?_
 refine vq (q_load rfl rfl Tryd.isAgg3 (hcell153v 2 rfl 0 _ rfl)) rfl ?_
 refine vq (q_fa rfl rfl Tryd.underlying59 rfl rfl Tryd.sizeOf57 rfl) rfl ?_
 refine vq (q_fa rfl rfl Tryd.underlying57 rfl rfl Tryd.sizeOf3 rfl) rfl ?_
 refine simL_do (re_store 0 rfl rfl rfl Tryd.sizeOf3 rfl rfl (one_of (by rfl)) rfl rfl) rfl rfl ?_
 intro _
 refine simL_ent (H' := [obj g137v 59 [.int .i64 0, .int .i64 0, .int .i64 (s25v.getD (2 : Int).toNat (0 : Int)), .int .i64 (s25v.getD (3 : Int).toNat (0 : Int)), .int .i64 0, .int .i64 0, .int .i64 0, .int .i64 0, .int .i64 (s25v.getD (8 : Int).toNat (0 : Int)), .int .i64 (s25v.getD (9 : Int).toNat (0 : Int)), .int .i64 (s25v.getD (10 : Int).toNat (0 : Int)), .int .i64 (s25v.getD (11 : Int).toNat (0 : Int)), .int .i64 (s25v.getD (12 : Int).toNat (0 : Int)), .int .i64 (s25v.getD (13 : Int).toNat (0 : Int)), .int .i64 (s25v.getD (14 : Int).toNat (0 : Int)), .int .i64 (s25v.getD (15 : Int).toNat (0 : Int)), .int .i64 (s25v.getD (16 : Int).toNat (0 : Int))], obj b1v 61 [.int .i64 0, .int .i64 0, .int .i64 0, .int .i64 0, .int .i64 0, .int .i64 0, .int .i64 0, .int .i64 0, .int .i64 0, .int .i64 0, .int .i64 0, .int .i64 0, .int .i64 0, .int .i64 0, .int .i64 0, .int .i64 0, .int .i64 0, .int .i64 0, .int .i64 0], Row 3 1 y26v.1 s25v.length y26v.2 rs62v.flatten, F]) (Ent.refl _) ?_
 refine nx ?_
 refine vm rfl rfl ?_
 refine simL_ask (fun hi154v => ?_)
 refine simL_posV 2 rfl hl63v rfl (i := (4 : Int).toNat) (by omega) (0 : Int) (fun b155v b155vo r158v ha156v hV159v hlr160v hcell161v => ?_)
 obtain rfl := hV159v
 refine vq (q_idx rfl rfl rfl ha156v Tryd.underlying68 Tryd.sizeOf3 hi154v.1 hi154v.2) rfl ?_
 refine vq (q_load rfl rfl Tryd.isAgg3 (hcell161v 2 rfl 0 _ rfl)) rfl ?_
 refine vq (q_fa rfl rfl Tryd.underlying59 rfl rfl Tryd.sizeOf57 rfl) rfl ?_
 refine vq (q_fa rfl rfl Tryd.underlying57 rfl rfl Tryd.sizeOf3 rfl) rfl ?_
 refine simL_do (re_store 0 rfl rfl rfl Tryd.sizeOf3 rfl rfl (one_of (by rfl)) rfl rfl) rfl rfl ?_
 intro _
 refine simL_ent (H' := [obj g137v 59 [.int .i64 0, .int .i64 0, .int .i64 (s25v.getD (2 : Int).toNat (0 : Int)), .int .i64 (s25v.getD (3 : Int).toNat (0 : Int)), .int .i64 (s25v.getD (4 : Int).toNat (0 : Int)), .int .i64 0, .int .i64 0, .int .i64 0, .int .i64 (s25v.getD (8 : Int).toNat (0 : Int)), .int .i64 (s25v.getD (9 : Int).toNat (0 : Int)), .int .i64 (s25v.getD (10 : Int).toNat (0 : Int)), .int .i64 (s25v.getD (11 : Int).toNat (0 : Int)), .int .i64 (s25v.getD (12 : Int).toNat (0 : Int)), .int .i64 (s25v.getD (13 : Int).toNat (0 : Int)), .int .i64 (s25v.getD (14 : Int).toNat (0 : Int)), .int .i64 (s25v.getD (15 : Int).toNat (0 : Int)), .int .i64 (s25v.getD (16 : Int).toNat (0 : Int))], obj b1v 61 [.int .i64 0, .int .i64 0, .int .i64 0, .int .i64 0, .int .i64 0, .int .i64 0, .int .i64 0, .int .i64 0, .int .i64 0, .int .i64 0, .int .i64 0, .int .i64 0, .int .i64 0, .int .i64 0, .int .i64 0, .int .i64 0, .int .i64 0, .int .i64 0, .int .i64 0], Row 3 1 y26v.1 s25v.length y26v.2 rs62v.flatten, F]) (Ent.refl _) ?_
 refine nx ?_
 refine vm rfl rfl ?_
 refine simL_ask (fun hi162v => ?_)
 refine simL_posV 2 rfl hl63v rfl (i := (5 : Int).toNat) (by omega) (0 : Int) (fun b163v b163vo r166v ha164v hV167v hlr168v hcell169v => ?_)
 obtain rfl := hV167v
 refine vq (q_idx rfl rfl rfl ha164v Tryd.underlying68 Tryd.sizeOf3 hi162v.1 hi162v.2) rfl ?_
 refine vq (q_load rfl rfl Tryd.isAgg3 (hcell169v 2 rfl 0 _ rfl)) rfl ?_
 refine vq (q_fa rfl rfl Tryd.underlying59 rfl rfl Tryd.sizeOf57 rfl) rfl ?_
 refine vq (q_fa rfl rfl Tryd.underlying57 rfl rfl Tryd.sizeOf3 rfl) rfl ?_
 refine simL_do (re_store 0 rfl rfl rfl Tryd.sizeOf3 rfl rfl (one_of (by rfl)) rfl rfl) rfl rfl ?_
 intro _
 refine simL_ent (H' := [obj g137v 59 [.int .i64 0, .int .i64 0, .int .i64 (s25v.getD (2 : Int).toNat (0 : Int)), .int .i64 (s25v.getD (3 : Int).toNat (0 : Int)), .int .i64 (s25v.getD (4 : Int).toNat (0 : Int)), .int .i64 (s25v.getD (5 : Int).toNat (0 : Int)), .int .i64 0, .int .i64 0, .int .i64 (s25v.getD (8 : Int).toNat (0 : Int)), .int .i64 (s25v.getD (9 : Int).toNat (0 : Int)), .int .i64 (s25v.getD (10 : Int).toNat (0 : Int)), .int .i64 (s25v.getD (11 : Int).toNat (0 : Int)), .int .i64 (s25v.getD (12 : Int).toNat (0 : Int)), .int .i64 (s25v.getD (13 : Int).toNat (0 : Int)), .int .i64 (s25v.getD (14 : Int).toNat (0 : Int)), .int .i64 (s25v.getD (15 : Int).toNat (0 : Int)), .int .i64 (s25v.getD (16 : Int).toNat (0 : Int))], obj b1v 61 [.int .i64 0, .int .i64 0, .int .i64 0, .int .i64 0, .int .i64 0, .int .i64 0, .int .i64 0, .int .i64 0, .int .i64 0, .int .i64 0, .int .i64 0, .int .i64 0, .int .i64 0, .int .i64 0, .int .i64 0, .int .i64 0, .int .i64 0, .int .i64 0, .int .i64 0], Row 3 1 y26v.1 s25v.length y26v.2 rs62v.flatten, F]) (Ent.refl _) ?_
 refine nx ?_
 refine vm rfl rfl ?_
 refine simL_ask (fun hi170v => ?_)
 refine simL_posV 2 rfl hl63v rfl (i := (6 : Int).toNat) (by omega) (0 : Int) (fun b171v b171vo r174v ha172v hV175v hlr176v hcell177v => ?_)
 obtain rfl := hV175v
 refine vq (q_idx rfl rfl rfl ha172v Tryd.underlying68 Tryd.sizeOf3 hi170v.1 hi170v.2) rfl ?_
 refine vq (q_load rfl rfl Tryd.isAgg3 (hcell177v 2 rfl 0 _ rfl)) rfl ?_
 refine vq (q_fa rfl rfl Tryd.underlying59 rfl rfl Tryd.sizeOf57 rfl) rfl ?_
 refine vq (q_fa rfl rfl Tryd.underlying57 rfl rfl Tryd.sizeOf3 rfl) rfl ?_
 refine simL_do (re_store 0 rfl rfl rfl Tryd.sizeOf3 rfl rfl (one_of (by rfl)) rfl rfl) rfl rfl ?_
 intro _
 refine simL_ent (H' := [obj g137v 59 [.int .i64 0, .int .i64 0, .int .i64 (s25v.getD (2 : Int).toNat (0 : Int)), .int .i64 (s25v.getD (3 : Int).toNat (0 : Int)), .int .i64 (s25v.getD (4 : Int).toNat (0 : Int)), .int .i64 (s25v.getD (5 : Int).toNat (0 : Int)), .int .i64 (s25v.getD (6 : Int).toNat (0 : Int)), .int .i64 0, .int .i64 (s25v.getD (8 : Int).toNat (0 : Int)), .int .i64 (s25v.getD (9 : Int).toNat (0 : Int)), .int .i64 (s25v.getD (10 : Int).toNat (0 : Int)), .int .i64 (s25v.getD (11 : Int).toNat (0 : Int)), .int .i64 (s25v.getD (12 : Int).toNat (0 : Int)), .int .i64 (s25v.getD (13 : Int).toNat (0 : Int)), .int .i64 (s25v.getD (14 : Int).toNat (0 : Int)), .int .i64 (s25v.getD (15 : Int).toNat (0 : Int)), .int .i64 (s25v.getD (16 : Int).toNat (0 : Int))], obj b1v 61 [.int .i64 0, .int .i64 0, .int .i64 0, .int .i64 0, .int .i64 0, .int .i64 0, .int .i64 0, .int .i64 0, .int .i64 0, .int .i64 0, .int .i64 0, .int .i64 0, .int .i64 0, .int .i64 0, .int .i64 0, .int .i64 0, .int .i64 0, .int .i64 0, .int .i64 0], Row 3 1 y26v.1 s25v.length y26v.2 rs62v.flatten, F]) (Ent.refl _) ?_
 refine nx ?_
 refine vm rfl rfl ?_
 refine simL_ask (fun hi178v => ?_)
 refine simL_posV 2 rfl hl63v rfl (i := (7 : Int).toNat) (by omega) (0 : Int) (fun b179v b179vo r182v ha180v hV183v hlr184v hcell185v => ?_)
 obtain rfl := hV183v
 refine vq (q_idx rfl rfl rfl ha180v Tryd.underlying68 Tryd.sizeOf3 hi178v.1 hi178v.2) rfl ?_
 refine vq (q_load rfl rfl Tryd.isAgg3 (hcell185v 2 rfl 0 _ rfl)) rfl ?_
 refine vq (q_fa rfl rfl Tryd.underlying59 rfl rfl Tryd.sizeOf57 rfl) rfl ?_
 refine vq (q_fa rfl rfl Tryd.underlying57 rfl rfl Tryd.sizeOf3 rfl) rfl ?_
 refine simL_do (re_store 0 rfl rfl rfl Tryd.sizeOf3 rfl rfl (one_of (by rfl)) rfl rfl) rfl rfl ?_
 intro _
 refine simL_ent (H' := [obj g137v 59 [.int .i64 0, .int .i64 0, .int .i64 (s25v.getD (2 : Int).toNat (0 : Int)), .int .i64 (s25v.getD (3 : Int).toNat (0 : Int)), .int .i64 (s25v.getD (4 : Int).toNat (0 : Int)), .int .i64 (s25v.getD (5 : Int).toNat (0 : Int)), .int .i64 (s25v.getD (6 : Int).toNat (0 : Int)), .int .i64 (s25v.getD (7 : Int).toNat (0 : Int)), .int .i64 (s25v.getD (8 : Int).toNat (0 : Int)), .int .i64 (s25v.getD (9 : Int).toNat (0 : Int)), .int .i64 (s25v.getD (10 : Int).toNat (0 : Int)), .int .i64 (s25v.getD (11 : Int).toNat (0 : Int)), .int .i64 (s25v.getD (12 : Int).toNat (0 : Int)), .int .i64 (s25v.getD (13 : Int).toNat (0 : Int)), .int .i64 (s25v.getD (14 : Int).toNat (0 : Int)), .int .i64 (s25v.getD (15 : Int).toNat (0 : Int)), .int .i64 (s25v.getD (16 : Int).toNat (0 : Int))], obj b1v 61 [.int .i64 0, .int .i64 0, .int .i64 0, .int .i64 0, .int .i64 0, .int .i64 0, .int .i64 0, .int .i64 0, .int .i64 0, .int .i64 0, .int .i64 0, .int .i64 0, .int .i64 0, .int .i64 0, .int .i64 0, .int .i64 0, .int .i64 0, .int .i64 0, .int .i64 0], Row 3 1 y26v.1 s25v.length y26v.2 rs62v.flatten, F]) (Ent.refl _) ?_
 refine simL_nil (nrm_then (sim_seq ?_))
 refine sim_ask (fun hi186v => ?_)
 refine sim_posV 2 rfl hl63v rfl (i := (0 : Int).toNat) (by omega) (0 : Int) (fun b187v b187vo r190v ha188v hV191v hlr192v hcell193v => ?_)
 obtain rfl := hV191v
 refine sim_ask (fun hi194v => ?_)
 refine sim_posV 2 rfl hl63v rfl (i := (1 : Int).toNat) (by omega) (0 : Int) (fun b195v b195vo r198v ha196v hV199v hlr200v hcell201v => ?_)
 obtain rfl := hV199v
 refine sim_draw (Γ := Unit) () [[], [0], [0, 1], [], [3], [3, 4], [], rL 7, rL 8, rL 9] [8] [0, 1, 2, 3, 4, 5, 6, 7, 9] (fun i => [[0], [0], [0], [0], [0], [0], [0], [0], [], [1]].getD i []) (fun i => [[], [], [], [], [], [], [], [], rL 8, []].getD i []) (fun γ i => [.slice y26v.1 s25v.length y26v.2, .pointer (some ⟨b187v, b187vo + (0 : Int).toNat * 1, none⟩), .int .i64 (s25v.getD (0 : Int).toNat (0 : Int)), .slice y26v.1 s25v.length y26v.2, .pointer (some ⟨b195v, b195vo + (1 : Int).toNat * 1, none⟩), .int .i64 (s25v.getD (1 : Int).toNat (0 : Int)), .agg #[.int .i64 0, .int .i64 0, .int .i64 (s25v.getD (2 : Int).toNat (0 : Int)), .int .i64 (s25v.getD (3 : Int).toNat (0 : Int)), .int .i64 (s25v.getD (4 : Int).toNat (0 : Int)), .int .i64 (s25v.getD (5 : Int).toNat (0 : Int)), .int .i64 (s25v.getD (6 : Int).toNat (0 : Int)), .int .i64 (s25v.getD (7 : Int).toNat (0 : Int)), .int .i64 (s25v.getD (8 : Int).toNat (0 : Int)), .int .i64 (s25v.getD (9 : Int).toNat (0 : Int)), .int .i64 (s25v.getD (10 : Int).toNat (0 : Int)), .int .i64 (s25v.getD (11 : Int).toNat (0 : Int)), .int .i64 (s25v.getD (12 : Int).toNat (0 : Int)), .int .i64 (s25v.getD (13 : Int).toNat (0 : Int)), .int .i64 (s25v.getD (14 : Int).toNat (0 : Int)), .int .i64 (s25v.getD (15 : Int).toNat (0 : Int)), .int .i64 (s25v.getD (16 : Int).toNat (0 : Int))], .agg #[.int .i64 (s25v.getD (0 : Int).toNat (0 : Int)), .int .i64 (s25v.getD (1 : Int).toNat (0 : Int)), .int .i64 0, .int .i64 0, .int .i64 (s25v.getD (2 : Int).toNat (0 : Int)), .int .i64 (s25v.getD (3 : Int).toNat (0 : Int)), .int .i64 (s25v.getD (4 : Int).toNat (0 : Int)), .int .i64 (s25v.getD (5 : Int).toNat (0 : Int)), .int .i64 (s25v.getD (6 : Int).toNat (0 : Int)), .int .i64 (s25v.getD (7 : Int).toNat (0 : Int)), .int .i64 (s25v.getD (8 : Int).toNat (0 : Int)), .int .i64 (s25v.getD (9 : Int).toNat (0 : Int)), .int .i64 (s25v.getD (10 : Int).toNat (0 : Int)), .int .i64 (s25v.getD (11 : Int).toNat (0 : Int)), .int .i64 (s25v.getD (12 : Int).toNat (0 : Int)), .int .i64 (s25v.getD (13 : Int).toNat (0 : Int)), .int .i64 (s25v.getD (14 : Int).toNat (0 : Int)), .int .i64 (s25v.getD (15 : Int).toNat (0 : Int)), .int .i64 (s25v.getD (16 : Int).toNat (0 : Int))], undef, .int .i64 0].getD i undef) (fun j γ => [[obj g137v 59 [.int .i64 0, .int .i64 0, .int .i64 (s25v.getD (2 : Int).toNat (0 : Int)), .int .i64 (s25v.getD (3 : Int).toNat (0 : Int)), .int .i64 (s25v.getD (4 : Int).toNat (0 : Int)), .int .i64 (s25v.getD (5 : Int).toNat (0 : Int)), .int .i64 (s25v.getD (6 : Int).toNat (0 : Int)), .int .i64 (s25v.getD (7 : Int).toNat (0 : Int)), .int .i64 (s25v.getD (8 : Int).toNat (0 : Int)), .int .i64 (s25v.getD (9 : Int).toNat (0 : Int)), .int .i64 (s25v.getD (10 : Int).toNat (0 : Int)), .int .i64 (s25v.getD (11 : Int).toNat (0 : Int)), .int .i64 (s25v.getD (12 : Int).toNat (0 : Int)), .int .i64 (s25v.getD (13 : Int).toNat (0 : Int)), .int .i64 (s25v.getD (14 : Int).toNat (0 : Int)), .int .i64 (s25v.getD (15 : Int).toNat (0 : Int)), .int .i64 (s25v.getD (16 : Int).toNat (0 : Int))], obj b1v 61 [.int .i64 0, .int .i64 0, .int .i64 0, .int .i64 0, .int .i64 0, .int .i64 0, .int .i64 0, .int .i64 0, .int .i64 0, .int .i64 0, .int .i64 0, .int .i64 0, .int .i64 0, .int .i64 0, .int .i64 0, .int .i64 0, .int .i64 0, .int .i64 0, .int .i64 0], Row 3 1 y26v.1 s25v.length y26v.2 rs62v.flatten, F], [obj g137v 59 [.int .i64 0, .int .i64 0, .int .i64 (s25v.getD (2 : Int).toNat (0 : Int)), .int .i64 (s25v.getD (3 : Int).toNat (0 : Int)), .int .i64 (s25v.getD (4 : Int).toNat (0 : Int)), .int .i64 (s25v.getD (5 : Int).toNat (0 : Int)), .int .i64 (s25v.getD (6 : Int).toNat (0 : Int)), .int .i64 (s25v.getD (7 : Int).toNat (0 : Int)), .int .i64 (s25v.getD (8 : Int).toNat (0 : Int)), .int .i64 (s25v.getD (9 : Int).toNat (0 : Int)), .int .i64 (s25v.getD (10 : Int).toNat (0 : Int)), .int .i64 (s25v.getD (11 : Int).toNat (0 : Int)), .int .i64 (s25v.getD (12 : Int).toNat (0 : Int)), .int .i64 (s25v.getD (13 : Int).toNat (0 : Int)), .int .i64 (s25v.getD (14 : Int).toNat (0 : Int)), .int .i64 (s25v.getD (15 : Int).toNat (0 : Int)), .int .i64 (s25v.getD (16 : Int).toNat (0 : Int))], obj b1v 61 [.int .i64 (s25v.getD (0 : Int).toNat (0 : Int)), .int .i64 (s25v.getD (1 : Int).toNat (0 : Int)), .int .i64 0, .int .i64 0, .int .i64 (s25v.getD (2 : Int).toNat (0 : Int)), .int .i64 (s25v.getD (3 : Int).toNat (0 : Int)), .int .i64 (s25v.getD (4 : Int).toNat (0 : Int)), .int .i64 (s25v.getD (5 : Int).toNat (0 : Int)), .int .i64 (s25v.getD (6 : Int).toNat (0 : Int)), .int .i64 (s25v.getD (7 : Int).toNat (0 : Int)), .int .i64 (s25v.getD (8 : Int).toNat (0 : Int)), .int .i64 (s25v.getD (9 : Int).toNat (0 : Int)), .int .i64 (s25v.getD (10 : Int).toNat (0 : Int)), .int .i64 (s25v.getD (11 : Int).toNat (0 : Int)), .int .i64 (s25v.getD (12 : Int).toNat (0 : Int)), .int .i64 (s25v.getD (13 : Int).toNat (0 : Int)), .int .i64 (s25v.getD (14 : Int).toNat (0 : Int)), .int .i64 (s25v.getD (15 : Int).toNat (0 : Int)), .int .i64 (s25v.getD (16 : Int).toNat (0 : Int))], Row 3 1 y26v.1 s25v.length y26v.2 rs62v.flatten, F]].getD j []) (fun γ => [(2, .pointer (some ⟨b1v, 0, none⟩)), (3, .int .i64 0)]) mixed (by decide) (by decide) (by decide) (by decide) (by decide) (by decide) (by decide) 127 rfl (by decide) (by decide) (by decide) (Ent.refl _) ?_ ?_ (fun _ => ⟨rfl, rfl, trivial⟩) ?_
 exact (aq rfl (fun γ => qm rfl (.o (s := 6) rfl (by decide) .nil) rfl) (aq rfl (fun γ => qp rfl rfl (.v 0 rfl rfl .nil) (q_idx rfl rfl rfl ha188v Tryd.underlying68 Tryd.sizeOf3 hi186v.1 hi186v.2) rfl) (aq rfl (fun γ => qp rfl rfl (.v 1 rfl rfl .nil) (q_load rfl rfl Tryd.isAgg3 (hcell193v 2 rfl 0 _ rfl)) rfl) (aq rfl (fun γ => qm rfl (.o (s := 6) rfl (by decide) .nil) rfl) (aq rfl (fun γ => qp rfl rfl (.v 3 rfl rfl .nil) (q_idx rfl rfl rfl ha196v Tryd.underlying68 Tryd.sizeOf3 hi194v.1 hi194v.2) rfl) (aq rfl (fun γ => qp rfl rfl (.v 4 rfl rfl .nil) (q_load rfl rfl Tryd.isAgg3 (hcell201v 2 rfl 0 _ rfl)) rfl) (aq rfl (fun γ => qp rfl rfl (.o (s := 10) rfl (by decide) .nil) (q_loado 0 rfl rfl Tryd.isAgg59 Tryd.sizeOf59 rfl rfl) rfl) (aq rfl (fun γ => qp rfl rfl (.v 2 rfl rfl (.v 5 rfl rfl (.v 6 rfl rfl .nil))) (q_build (v := .agg #[.int .i64 (s25v.getD (0 : Int).toNat (0 : Int)), .int .i64 (s25v.getD (1 : Int).toNat (0 : Int)), .int .i64 0, .int .i64 0, .int .i64 (s25v.getD (2 : Int).toNat (0 : Int)), .int .i64 (s25v.getD (3 : Int).toNat (0 : Int)), .int .i64 (s25v.getD (4 : Int).toNat (0 : Int)), .int .i64 (s25v.getD (5 : Int).toNat (0 : Int)), .int .i64 (s25v.getD (6 : Int).toNat (0 : Int)), .int .i64 (s25v.getD (7 : Int).toNat (0 : Int)), .int .i64 (s25v.getD (8 : Int).toNat (0 : Int)), .int .i64 (s25v.getD (9 : Int).toNat (0 : Int)), .int .i64 (s25v.getD (10 : Int).toNat (0 : Int)), .int .i64 (s25v.getD (11 : Int).toNat (0 : Int)), .int .i64 (s25v.getD (12 : Int).toNat (0 : Int)), .int .i64 (s25v.getD (13 : Int).toNat (0 : Int)), .int .i64 (s25v.getD (14 : Int).toNat (0 : Int)), .int .i64 (s25v.getD (15 : Int).toNat (0 : Int)), .int .i64 (s25v.getD (16 : Int).toNat (0 : Int))]) rfl rfl (fun _ => by kernel_rfl)) rfl) (aq rfl (fun γ => qp rfl rfl .nil (q_asg rfl rfl) rfl) zA)))))))))
 exact (ac (fun γ => eo (Z := Unit) (fun z => ()) rfl rfl (.o (s := 2) rfl (by decide) (.v 7 rfl rfl .nil)) (re_store 1 rfl rfl rfl Tryd.sizeOf61 rfl rfl (one_of (by rfl)) rfl rfl) (fun _ => ⟨rfl, rfl, rfl, rfl, rfl, rfl, rfl, rfl, trivial⟩) (fun _ => .inl rfl) (fun z => Ent.refl _)) zA)
 intro g202v
 refine nrm_then (sim_rtn ?_)
 exact rtn_fnC (vs := [.agg #[.int .i64 (s25v.getD (0 : Int).toNat (0 : Int)), .int .i64 (s25v.getD (1 : Int).toNat (0 : Int)), .int .i64 0, .int .i64 0, .int .i64 (s25v.getD (2 : Int).toNat (0 : Int)), .int .i64 (s25v.getD (3 : Int).toNat (0 : Int)), .int .i64 (s25v.getD (4 : Int).toNat (0 : Int)), .int .i64 (s25v.getD (5 : Int).toNat (0 : Int)), .int .i64 (s25v.getD (6 : Int).toNat (0 : Int)), .int .i64 (s25v.getD (7 : Int).toNat (0 : Int)), .int .i64 (s25v.getD (8 : Int).toNat (0 : Int)), .int .i64 (s25v.getD (9 : Int).toNat (0 : Int)), .int .i64 (s25v.getD (10 : Int).toNat (0 : Int)), .int .i64 (s25v.getD (11 : Int).toNat (0 : Int)), .int .i64 (s25v.getD (12 : Int).toNat (0 : Int)), .int .i64 (s25v.getD (13 : Int).toNat (0 : Int)), .int .i64 (s25v.getD (14 : Int).toNat (0 : Int)), .int .i64 (s25v.getD (15 : Int).toNat (0 : Int)), .int .i64 (s25v.getD (16 : Int).toNat (0 : Int))], .int .i64 0]) () rfl ⟨⟨b1v, rfl, load_agg 1 Tryd.isAgg61 Tryd.sizeOf61 rfl rfl⟩, rfl, trivial⟩ rfl (.sel 3 rfl (.nil _))
 refine sr ?_
 refine vq (q_build (v := .agg #[.int .i64 0, .int .i64 0, .int .i64 0, .int .i64 0, .int .i64 0, .int .i64 0, .int .i64 0, .int .i64 0, .int .i64 0, .int .i64 0, .int .i64 0, .int .i64 0, .int .i64 0, .int .i64 0, .int .i64 0, .int .i64 0, .int .i64 0, .int .i64 0, .int .i64 0]) rfl rfl (fun _ => by kernel_rfl)) rfl ?_
 refine simL_do (re_store 0 rfl rfl rfl Tryd.sizeOf61 rfl rfl (one_of (by rfl)) rfl rfl) rfl rfl ?_
 intro _
 refine simL_ent (H' := [obj b1v 61 [.int .i64 0, .int .i64 0, .int .i64 0, .int .i64 0, .int .i64 0, .int .i64 0, .int .i64 0, .int .i64 0, .int .i64 0, .int .i64 0, .int .i64 0, .int .i64 0, .int .i64 0, .int .i64 0, .int .i64 0, .int .i64 0, .int .i64 0, .int .i64 0, .int .i64 0], RowV 9 1 (V9 tt) y4v.1 s2v.1 y4v.2, F]) (Ent.refl _) ?_
 refine va rfl rfl (simL_nil (nrm_then (sim_rtn ?_)))
 refine rtn_then ?_
 exact rtn_fnC (vs := [.agg #[.int .i64 0, .int .i64 0, .int .i64 0, .int .i64 0, .int .i64 0, .int .i64 0, .int .i64 0, .int .i64 0, .int .i64 0, .int .i64 0, .int .i64 0, .int .i64 0, .int .i64 0, .int .i64 0, .int .i64 0, .int .i64 0, .int .i64 0, .int .i64 0, .int .i64 0], .int .i64 21]) () rfl ⟨⟨b1v, rfl, load_agg 0 Tryd.isAgg61 Tryd.sizeOf61 rfl rfl⟩, rfl, trivial⟩ rfl (.sel 2 rfl (.nil _))
 refine sr ?_
 refine vq (q_build (v := .agg #[.int .i64 0, .int .i64 0, .int .i64 0, .int .i64 0, .int .i64 0, .int .i64 0, .int .i64 0, .int .i64 0, .int .i64 0, .int .i64 0, .int .i64 0, .int .i64 0, .int .i64 0, .int .i64 0, .int .i64 0, .int .i64 0, .int .i64 0, .int .i64 0, .int .i64 0]) rfl rfl (fun _ => by kernel_rfl)) rfl ?_
 refine vm rfl rfl ?_
 refine simL_do (re_store 1 rfl rfl rfl Tryd.sizeOf61 rfl rfl (one_of (by rfl)) rfl rfl) rfl rfl ?_
 intro _
 refine simL_ent (H' := [RowV 9 1 (V9 tt) y4v.1 s2v.1 y4v.2, obj b1v 61 [.int .i64 0, .int .i64 0, .int .i64 0, .int .i64 0, .int .i64 0, .int .i64 0, .int .i64 0, .int .i64 0, .int .i64 0, .int .i64 0, .int .i64 0, .int .i64 0, .int .i64 0, .int .i64 0, .int .i64 0, .int .i64 0, .int .i64 0, .int .i64 0, .int .i64 0], F]) (Ent.refl _) ?_
 refine va rfl rfl (simL_nil (nrm_then (sim_rtn ?_)))
 refine rtn_then ?_
 exact rtn_fnC (vs := [.agg #[.int .i64 0, .int .i64 0, .int .i64 0, .int .i64 0, .int .i64 0, .int .i64 0, .int .i64 0, .int .i64 0, .int .i64 0, .int .i64 0, .int .i64 0, .int .i64 0, .int .i64 0, .int .i64 0, .int .i64 0, .int .i64 0, .int .i64 0, .int .i64 0, .int .i64 0], .int .i64 s2v.2]) () rfl ⟨⟨b1v, rfl, load_agg 1 Tryd.isAgg61 Tryd.sizeOf61 rfl rfl⟩, rfl, trivial⟩ rfl (.sel 2 rfl (.nil _))

def synodlaw10_Opts.f (x0_0 : Int) (x0_1 : Int) (x0_2 : Int) (x0_3 : Int) (x0_4 : Int) (x0_5 : Int) (x0_6 : Int) (x0_7 : Int) : Option (Int × Int × Int × Int × Int × Int × Int × Int) := some (x0_0, x0_1, x0_2, x0_3, x0_4, x0_5, x0_6, x0_7)
theorem synodlaw10_Opts.calls (W : World) (F : HA) (x0_0 : Int) (x0_1 : Int) (x0_2 : Int) (x0_3 : Int) (x0_4 : Int) (x0_5 : Int) (x0_6 : Int) (x0_7 : Int)  :
    Fn Tryd.prog W 81 [.agg #[.int .i64 x0_0, .int .i64 x0_1, .int .i64 x0_2, .int .i64 x0_3, .int .i64 x0_4, .int .i64 x0_5, .int .i64 x0_6, .int .i64 x0_7]] [] F (synodlaw10_Opts.f x0_0 x0_1 x0_2 x0_3 x0_4 x0_5 x0_6 x0_7) (fun (r : Int × Int × Int × Int × Int × Int × Int × Int) (y : Unit) => .agg #[.int .i64 r.1, .int .i64 r.2.1, .int .i64 r.2.2.1, .int .i64 r.2.2.2.1, .int .i64 r.2.2.2.2.1, .int .i64 r.2.2.2.2.2.1, .int .i64 r.2.2.2.2.2.2.1, .int .i64 r.2.2.2.2.2.2.2]) (fun r y => []) := by
 unfold synodlaw10_Opts.f
 refine fn_intro 20 Tryd.func81 rfl Tryd.ntmps81 rfl ?_
 refine sr ?_
 refine simL_eff (re_box rfl rfl rfl) rfl rfl rfl ?_
 intro b1v
 refine simL_eff (re_alloc rfl Tryd.zeroValue57 rfl) rfl rfl rfl ?_
 intro b2v
 refine nx ?_
 refine vq (q_fa rfl rfl Tryd.underlying50 rfl rfl Tryd.sizeOf3 rfl) rfl ?_
 refine vq (q_load rfl rfl Tryd.isAgg3 (.obj 1 rfl rfl)) rfl ?_
 refine vq (q_fa rfl rfl Tryd.underlying50 rfl rfl Tryd.sizeOf3 rfl) rfl ?_
 refine vq (q_load rfl rfl Tryd.isAgg3 (.obj 1 rfl rfl)) rfl ?_
 refine vq (q_fa rfl rfl Tryd.underlying50 rfl rfl Tryd.sizeOf3 rfl) rfl ?_
 refine vq (q_load rfl rfl Tryd.isAgg3 (.obj 1 rfl rfl)) rfl ?_
 refine vq (q_fa rfl rfl Tryd.underlying50 rfl rfl Tryd.sizeOf3 rfl) rfl ?_
 refine vq (q_load rfl rfl Tryd.isAgg3 (.obj 1 rfl rfl)) rfl ?_
 refine vq (q_fa rfl rfl Tryd.underlying50 rfl rfl Tryd.sizeOf3 rfl) rfl ?_
 refine vq (q_load rfl rfl Tryd.isAgg3 (.obj 1 rfl rfl)) rfl ?_
 refine vq (q_fa rfl rfl Tryd.underlying50 rfl rfl Tryd.sizeOf3 rfl) rfl ?_
 refine vq (q_load rfl rfl Tryd.isAgg3 (.obj 1 rfl rfl)) rfl ?_
 refine vq (q_fa rfl rfl Tryd.underlying50 rfl rfl Tryd.sizeOf3 rfl) rfl ?_
 refine vq (q_load rfl rfl Tryd.isAgg3 (.obj 1 rfl rfl)) rfl ?_
 refine vq (q_fa rfl rfl Tryd.underlying50 rfl rfl Tryd.sizeOf3 rfl) rfl ?_
 refine vq (q_load rfl rfl Tryd.isAgg3 (.obj 1 rfl rfl)) rfl ?_
 refine vq (q_build (v := .agg #[.int .i64 x0_0, .int .i64 x0_1, .int .i64 x0_2, .int .i64 x0_3, .int .i64 x0_4, .int .i64 x0_5, .int .i64 x0_6, .int .i64 x0_7]) rfl rfl (fun _ => by kernel_rfl)) rfl ?_
 refine simL_do (re_store 0 rfl rfl rfl Tryd.sizeOf57 rfl rfl (one_of (by rfl)) rfl rfl) rfl rfl ?_
 intro _
 refine simL_ent (H' := [obj b2v 57 [.int .i64 x0_0, .int .i64 x0_1, .int .i64 x0_2, .int .i64 x0_3, .int .i64 x0_4, .int .i64 x0_5, .int .i64 x0_6, .int .i64 x0_7], obj b1v 50 [.int .i64 x0_0, .int .i64 x0_1, .int .i64 x0_2, .int .i64 x0_3, .int .i64 x0_4, .int .i64 x0_5, .int .i64 x0_6, .int .i64 x0_7], F]) (Ent.refl _) ?_
 refine simL_nil (nrm_then (sim_rtn ?_))
 exact rtn_fnC (vs := [.agg #[.int .i64 x0_0, .int .i64 x0_1, .int .i64 x0_2, .int .i64 x0_3, .int .i64 x0_4, .int .i64 x0_5, .int .i64 x0_6, .int .i64 x0_7]]) () rfl ⟨⟨b2v, rfl, load_agg 0 Tryd.isAgg57 Tryd.sizeOf57 rfl rfl⟩, trivial⟩ rfl (.sel 2 rfl (.nil _))
def synodlaw10_Opts.v (x0_0 : Int) (x0_1 : Int) (x0_2 : Int) (x0_3 : Int) (x0_4 : Int) (x0_5 : Int) (x0_6 : Int) (x0_7 : Int) : Int × Int × Int × Int × Int × Int × Int × Int := (synodlaw10_Opts.f x0_0 x0_1 x0_2 x0_3 x0_4 x0_5 x0_6 x0_7).getD (0, 0, 0, 0, 0, 0, 0, 0)
theorem synodlaw10_Opts.tot (x0_0 : Int) (x0_1 : Int) (x0_2 : Int) (x0_3 : Int) (x0_4 : Int) (x0_5 : Int) (x0_6 : Int) (x0_7 : Int) : synodlaw10_Opts.f x0_0 x0_1 x0_2 x0_3 x0_4 x0_5 x0_6 x0_7 = some (synodlaw10_Opts.v x0_0 x0_1 x0_2 x0_3 x0_4 x0_5 x0_6 x0_7) := by
  have h : ∃ r, synodlaw10_Opts.f x0_0 x0_1 x0_2 x0_3 x0_4 x0_5 x0_6 x0_7 = some r := by
    unfold synodlaw10_Opts.f
    repeat' (first | exact ⟨_, rfl⟩ | split | simp only [Option.bind_some])
  obtain ⟨r, h⟩ := h
  unfold synodlaw10_Opts.v
  rw [h]; rfl

def synodlaw12_Opts.f (x0_0 : Int) (x0_1 : Int) (x0_2 : Int) (x0_3 : Int) (x0_4 : Int) (x0_5 : Int) (x0_6 : Int) (x0_7 : Int) (x0_8 : Int) (x0_9 : Int) (x0_10 : Int) (x0_11 : Int) (x0_12 : Int) (x0_13 : Int) (x0_14 : Int) (x0_15 : Int) (x0_16 : Int) : Option (Int × Int × Int × Int × Int × Int × Int × Int × Int × Int × Int × Int × Int × Int × Int × Int × Int) := some ((synodlaw10_Opts.v x0_0 x0_1 x0_2 x0_3 x0_4 x0_5 x0_6 x0_7).1, (synodlaw10_Opts.v x0_0 x0_1 x0_2 x0_3 x0_4 x0_5 x0_6 x0_7).2.1, (synodlaw10_Opts.v x0_0 x0_1 x0_2 x0_3 x0_4 x0_5 x0_6 x0_7).2.2.1, (synodlaw10_Opts.v x0_0 x0_1 x0_2 x0_3 x0_4 x0_5 x0_6 x0_7).2.2.2.1, (synodlaw10_Opts.v x0_0 x0_1 x0_2 x0_3 x0_4 x0_5 x0_6 x0_7).2.2.2.2.1, (synodlaw10_Opts.v x0_0 x0_1 x0_2 x0_3 x0_4 x0_5 x0_6 x0_7).2.2.2.2.2.1, (synodlaw10_Opts.v x0_0 x0_1 x0_2 x0_3 x0_4 x0_5 x0_6 x0_7).2.2.2.2.2.2.1, (synodlaw10_Opts.v x0_0 x0_1 x0_2 x0_3 x0_4 x0_5 x0_6 x0_7).2.2.2.2.2.2.2, x0_8, x0_9, x0_10, x0_11, x0_12, x0_13, x0_14, x0_15, x0_16)
theorem synodlaw12_Opts.calls (W : World) (F : HA) (x0_0 : Int) (x0_1 : Int) (x0_2 : Int) (x0_3 : Int) (x0_4 : Int) (x0_5 : Int) (x0_6 : Int) (x0_7 : Int) (x0_8 : Int) (x0_9 : Int) (x0_10 : Int) (x0_11 : Int) (x0_12 : Int) (x0_13 : Int) (x0_14 : Int) (x0_15 : Int) (x0_16 : Int)  :
    Fn Tryd.prog W 57 [.agg #[.int .i64 x0_0, .int .i64 x0_1, .int .i64 x0_2, .int .i64 x0_3, .int .i64 x0_4, .int .i64 x0_5, .int .i64 x0_6, .int .i64 x0_7, .int .i64 x0_8, .int .i64 x0_9, .int .i64 x0_10, .int .i64 x0_11, .int .i64 x0_12, .int .i64 x0_13, .int .i64 x0_14, .int .i64 x0_15, .int .i64 x0_16]] [] F (synodlaw12_Opts.f x0_0 x0_1 x0_2 x0_3 x0_4 x0_5 x0_6 x0_7 x0_8 x0_9 x0_10 x0_11 x0_12 x0_13 x0_14 x0_15 x0_16) (fun (r : Int × Int × Int × Int × Int × Int × Int × Int × Int × Int × Int × Int × Int × Int × Int × Int × Int) (y : Unit) => .agg #[.int .i64 r.1, .int .i64 r.2.1, .int .i64 r.2.2.1, .int .i64 r.2.2.2.1, .int .i64 r.2.2.2.2.1, .int .i64 r.2.2.2.2.2.1, .int .i64 r.2.2.2.2.2.2.1, .int .i64 r.2.2.2.2.2.2.2.1, .int .i64 r.2.2.2.2.2.2.2.2.1, .int .i64 r.2.2.2.2.2.2.2.2.2.1, .int .i64 r.2.2.2.2.2.2.2.2.2.2.1, .int .i64 r.2.2.2.2.2.2.2.2.2.2.2.1, .int .i64 r.2.2.2.2.2.2.2.2.2.2.2.2.1, .int .i64 r.2.2.2.2.2.2.2.2.2.2.2.2.2.1, .int .i64 r.2.2.2.2.2.2.2.2.2.2.2.2.2.2.1, .int .i64 r.2.2.2.2.2.2.2.2.2.2.2.2.2.2.2.1, .int .i64 r.2.2.2.2.2.2.2.2.2.2.2.2.2.2.2.2]) (fun r y => []) := by
 unfold synodlaw12_Opts.f
 refine fn_intro 25 Tryd.func57 rfl Tryd.ntmps57 rfl ?_
 refine sr ?_
 refine simL_eff (re_box rfl rfl rfl) rfl rfl rfl ?_
 intro b1v
 refine simL_eff (re_alloc rfl Tryd.zeroValue59 rfl) rfl rfl rfl ?_
 intro b2v
 refine simL_nil (nrm_then (sim_seq ?_))
 refine sim_draw (Γ := Unit) () [[], [0], [0, 1], [], [3], [], [5], [], [7], [], [9], [], [11], [], [13], [], [15], [], [17], [], [19], rL 21, rL 22] [22] [0, 1, 2, 3, 4, 5, 6, 7, 8, 9, 10, 11, 12, 13, 14, 15, 16, 17, 18, 19, 20, 21] (fun i => [[0], [0], [0], [0], [0], [0], [0], [0], [0], [0], [0], [0], [0], [0], [0], [0], [0], [0], [0], [0], [0], [0], []].getD i []) (fun i => [[], [], [], [], [], [], [], [], [], [], [], [], [], [], [], [], [], [], [], [], [], [], rL 22].getD i []) (fun γ i => [.pointer (some ⟨b1v, 0, none⟩), .agg #[.int .i64 x0_0, .int .i64 x0_1, .int .i64 x0_2, .int .i64 x0_3, .int .i64 x0_4, .int .i64 x0_5, .int .i64 x0_6, .int .i64 x0_7], .agg #[.int .i64 ((synodlaw10_Opts.v x0_0 x0_1 x0_2 x0_3 x0_4 x0_5 x0_6 x0_7).1), .int .i64 ((synodlaw10_Opts.v x0_0 x0_1 x0_2 x0_3 x0_4 x0_5 x0_6 x0_7).2.1), .int .i64 ((synodlaw10_Opts.v x0_0 x0_1 x0_2 x0_3 x0_4 x0_5 x0_6 x0_7).2.2.1), .int .i64 ((synodlaw10_Opts.v x0_0 x0_1 x0_2 x0_3 x0_4 x0_5 x0_6 x0_7).2.2.2.1), .int .i64 ((synodlaw10_Opts.v x0_0 x0_1 x0_2 x0_3 x0_4 x0_5 x0_6 x0_7).2.2.2.2.1), .int .i64 ((synodlaw10_Opts.v x0_0 x0_1 x0_2 x0_3 x0_4 x0_5 x0_6 x0_7).2.2.2.2.2.1), .int .i64 ((synodlaw10_Opts.v x0_0 x0_1 x0_2 x0_3 x0_4 x0_5 x0_6 x0_7).2.2.2.2.2.2.1), .int .i64 ((synodlaw10_Opts.v x0_0 x0_1 x0_2 x0_3 x0_4 x0_5 x0_6 x0_7).2.2.2.2.2.2.2)], .pointer (some ⟨b1v, 8, none⟩), .int .i64 x0_8, .pointer (some ⟨b1v, 9, none⟩), .int .i64 x0_9, .pointer (some ⟨b1v, 10, none⟩), .int .i64 x0_10, .pointer (some ⟨b1v, 11, none⟩), .int .i64 x0_11, .pointer (some ⟨b1v, 12, none⟩), .int .i64 x0_12, .pointer (some ⟨b1v, 13, none⟩), .int .i64 x0_13, .pointer (some ⟨b1v, 14, none⟩), .int .i64 x0_14, .pointer (some ⟨b1v, 15, none⟩), .int .i64 x0_15, .pointer (some ⟨b1v, 16, none⟩), .int .i64 x0_16, .agg #[.int .i64 ((synodlaw10_Opts.v x0_0 x0_1 x0_2 x0_3 x0_4 x0_5 x0_6 x0_7).1), .int .i64 ((synodlaw10_Opts.v x0_0 x0_1 x0_2 x0_3 x0_4 x0_5 x0_6 x0_7).2.1), .int .i64 ((synodlaw10_Opts.v x0_0 x0_1 x0_2 x0_3 x0_4 x0_5 x0_6 x0_7).2.2.1), .int .i64 ((synodlaw10_Opts.v x0_0 x0_1 x0_2 x0_3 x0_4 x0_5 x0_6 x0_7).2.2.2.1), .int .i64 ((synodlaw10_Opts.v x0_0 x0_1 x0_2 x0_3 x0_4 x0_5 x0_6 x0_7).2.2.2.2.1), .int .i64 ((synodlaw10_Opts.v x0_0 x0_1 x0_2 x0_3 x0_4 x0_5 x0_6 x0_7).2.2.2.2.2.1), .int .i64 ((synodlaw10_Opts.v x0_0 x0_1 x0_2 x0_3 x0_4 x0_5 x0_6 x0_7).2.2.2.2.2.2.1), .int .i64 ((synodlaw10_Opts.v x0_0 x0_1 x0_2 x0_3 x0_4 x0_5 x0_6 x0_7).2.2.2.2.2.2.2), .int .i64 x0_8, .int .i64 x0_9, .int .i64 x0_10, .int .i64 x0_11, .int .i64 x0_12, .int .i64 x0_13, .int .i64 x0_14, .int .i64 x0_15, .int .i64 x0_16], undef].getD i undef) (fun j γ => [[obj b2v 59 [.int .i64 0, .int .i64 0, .int .i64 0, .int .i64 0, .int .i64 0, .int .i64 0, .int .i64 0, .int .i64 0, .int .i64 0, .int .i64 0, .int .i64 0, .int .i64 0, .int .i64 0, .int .i64 0, .int .i64 0, .int .i64 0, .int .i64 0], obj b1v 52 [.int .i64 x0_0, .int .i64 x0_1, .int .i64 x0_2, .int .i64 x0_3, .int .i64 x0_4, .int .i64 x0_5, .int .i64 x0_6, .int .i64 x0_7, .int .i64 x0_8, .int .i64 x0_9, .int .i64 x0_10, .int .i64 x0_11, .int .i64 x0_12, .int .i64 x0_13, .int .i64 x0_14, .int .i64 x0_15, .int .i64 x0_16], F], [obj b2v 59 [.int .i64 ((synodlaw10_Opts.v x0_0 x0_1 x0_2 x0_3 x0_4 x0_5 x0_6 x0_7).1), .int .i64 ((synodlaw10_Opts.v x0_0 x0_1 x0_2 x0_3 x0_4 x0_5 x0_6 x0_7).2.1), .int .i64 ((synodlaw10_Opts.v x0_0 x0_1 x0_2 x0_3 x0_4 x0_5 x0_6 x0_7).2.2.1), .int .i64 ((synodlaw10_Opts.v x0_0 x0_1 x0_2 x0_3 x0_4 x0_5 x0_6 x0_7).2.2.2.1), .int .i64 ((synodlaw10_Opts.v x0_0 x0_1 x0_2 x0_3 x0_4 x0_5 x0_6 x0_7).2.2.2.2.1), .int .i64 ((synodlaw10_Opts.v x0_0 x0_1 x0_2 x0_3 x0_4 x0_5 x0_6 x0_7).2.2.2.2.2.1), .int .i64 ((synodlaw10_Opts.v x0_0 x0_1 x0_2 x0_3 x0_4 x0_5 x0_6 x0_7).2.2.2.2.2.2.1), .int .i64 ((synodlaw10_Opts.v x0_0 x0_1 x0_2 x0_3 x0_4 x0_5 x0_6 x0_7).2.2.2.2.2.2.2), .int .i64 x0_8, .int .i64 x0_9, .int .i64 x0_10, .int .i64 x0_11, .int .i64 x0_12, .int .i64 x0_13, .int .i64 x0_14, .int .i64 x0_15, .int .i64 x0_16], obj b1v 52 [.int .i64 x0_0, .int .i64 x0_1, .int .i64 x0_2, .int .i64 x0_3, .int .i64 x0_4, .int .i64 x0_5, .int .i64 x0_6, .int .i64 x0_7, .int .i64 x0_8, .int .i64 x0_9, .int .i64 x0_10, .int .i64 x0_11, .int .i64 x0_12, .int .i64 x0_13, .int .i64 x0_14, .int .i64 x0_15, .int .i64 x0_16], F]].getD j []) (fun γ => [(2, .pointer (some ⟨b2v, 0, none⟩))]) mixed (by decide) (by decide) (by decide) (by decide) (by decide) (by decide) (by decide) 25 rfl (by decide) (by decide) (by decide) (Ent.refl _) ?_ ?_ (fun _ => ⟨rfl, trivial⟩) ?_
 exact (aq rfl (fun γ => qp rfl rfl (.o (s := 1) rfl (by decide) .nil) (q_fa rfl rfl Tryd.underlying52 rfl rfl Tryd.sizeOf50 rfl) rfl) (aq rfl (fun γ => qp rfl rfl (.v 0 rfl rfl .nil) (q_loads (vs := [.int .i64 x0_0, .int .i64 x0_1, .int .i64 x0_2, .int .i64 x0_3, .int .i64 x0_4, .int .i64 x0_5, .int .i64 x0_6, .int .i64 x0_7]) rfl rfl Tryd.isAgg50 Tryd.sizeOf50 rfl (cells_obj 1 rfl (cells_lit rfl))) rfl) (aq rfl (fun γ => qp rfl rfl (.v 1 rfl rfl .nil) (RE.rq (re_call (vs := [.agg #[.int .i64 x0_0, .int .i64 x0_1, .int .i64 x0_2, .int .i64 x0_3, .int .i64 x0_4, .int .i64 x0_5, .int .i64 x0_6, .int .i64 x0_7]]) (cap := []) (A := []) (rst := [obj b2v 59 [.int .i64 0, .int .i64 0, .int .i64 0, .int .i64 0, .int .i64 0, .int .i64 0, .int .i64 0, .int .i64 0, .int .i64 0, .int .i64 0, .int .i64 0, .int .i64 0, .int .i64 0, .int .i64 0, .int .i64 0, .int .i64 0, .int .i64 0], obj b1v 52 [.int .i64 x0_0, .int .i64 x0_1, .int .i64 x0_2, .int .i64 x0_3, .int .i64 x0_4, .int .i64 x0_5, .int .i64 x0_6, .int .i64 x0_7, .int .i64 x0_8, .int .i64 x0_9, .int .i64 x0_10, .int .i64 x0_11, .int .i64 x0_12, .int .i64 x0_13, .int .i64 x0_14, .int .i64 x0_15, .int .i64 x0_16], F]) rfl rfl rfl rfl rfl rfl Tryd.call81 (.sel 0 rfl (.sel 0 rfl (.sel 0 rfl (.nil _)))) (synodlaw10_Opts.calls _ _ x0_0 x0_1 x0_2 x0_3 x0_4 x0_5 x0_6 x0_7 ) (synodlaw10_Opts.tot x0_0 x0_1 x0_2 x0_3 x0_4 x0_5 x0_6 x0_7)) (fun _ => rfl) (fun _ => (.sel 0 rfl (.sel 0 rfl (.sel 0 rfl (.nil _)))))) rfl) (aq rfl (fun γ => qp rfl rfl (.o (s := 1) rfl (by decide) .nil) (q_fa rfl rfl Tryd.underlying52 rfl rfl Tryd.sizeOf3 rfl) rfl) (aq rfl (fun γ => qp rfl rfl (.v 3 rfl rfl .nil) (q_load rfl rfl Tryd.isAgg3 (.obj 1 rfl rfl)) rfl) (aq rfl (fun γ => qp rfl rfl (.o (s := 1) rfl (by decide) .nil) (q_fa rfl rfl Tryd.underlying52 rfl rfl Tryd.sizeOf3 rfl) rfl) (aq rfl (fun γ => qp rfl rfl (.v 5 rfl rfl .nil) (q_load rfl rfl Tryd.isAgg3 (.obj 1 rfl rfl)) rfl) (aq rfl (fun γ => qp rfl rfl (.o (s := 1) rfl (by decide) .nil) (q_fa rfl rfl Tryd.underlying52 rfl rfl Tryd.sizeOf3 rfl) rfl) (aq rfl (fun γ => qp rfl rfl (.v 7 rfl rfl .nil) (q_load rfl rfl Tryd.isAgg3 (.obj 1 rfl rfl)) rfl) (aq rfl (fun γ => qp rfl rfl (.o (s := 1) rfl (by decide) .nil) (q_fa rfl rfl Tryd.underlying52 rfl rfl Tryd.sizeOf3 rfl) rfl) (aq rfl (fun γ => qp rfl rfl (.v 9 rfl rfl .nil) (q_load rfl rfl Tryd.isAgg3 (.obj 1 rfl rfl)) rfl) (aq rfl (fun γ => qp rfl rfl (.o (s := 1) rfl (by decide) .nil) (q_fa rfl rfl Tryd.underlying52 rfl rfl Tryd.sizeOf3 rfl) rfl) (aq rfl (fun γ => qp rfl rfl (.v 11 rfl rfl .nil) (q_load rfl rfl Tryd.isAgg3 (.obj 1 rfl rfl)) rfl) (aq rfl (fun γ => qp rfl rfl (.o (s := 1) rfl (by decide) .nil) (q_fa rfl rfl Tryd.underlying52 rfl rfl Tryd.sizeOf3 rfl) rfl) (aq rfl (fun γ => qp rfl rfl (.v 13 rfl rfl .nil) (q_load rfl rfl Tryd.isAgg3 (.obj 1 rfl rfl)) rfl) (aq rfl (fun γ => qp rfl rfl (.o (s := 1) rfl (by decide) .nil) (q_fa rfl rfl Tryd.underlying52 rfl rfl Tryd.sizeOf3 rfl) rfl) (aq rfl (fun γ => qp rfl rfl (.v 15 rfl rfl .nil) (q_load rfl rfl Tryd.isAgg3 (.obj 1 rfl rfl)) rfl) (aq rfl (fun γ => qp rfl rfl (.o (s := 1) rfl (by decide) .nil) (q_fa rfl rfl Tryd.underlying52 rfl rfl Tryd.sizeOf3 rfl) rfl) (aq rfl (fun γ => qp rfl rfl (.v 17 rfl rfl .nil) (q_load rfl rfl Tryd.isAgg3 (.obj 1 rfl rfl)) rfl) (aq rfl (fun γ => qp rfl rfl (.o (s := 1) rfl (by decide) .nil) (q_fa rfl rfl Tryd.underlying52 rfl rfl Tryd.sizeOf3 rfl) rfl) (aq rfl (fun γ => qp rfl rfl (.v 19 rfl rfl .nil) (q_load rfl rfl Tryd.isAgg3 (.obj 1 rfl rfl)) rfl) (aq rfl (fun γ => qp rfl rfl (.v 2 rfl rfl (.v 4 rfl rfl (.v 6 rfl rfl (.v 8 rfl rfl (.v 10 rfl rfl (.v 12 rfl rfl (.v 14 rfl rfl (.v 16 rfl rfl (.v 18 rfl rfl (.v 20 rfl rfl .nil)))))))))) (q_build (v := .agg #[.int .i64 ((synodlaw10_Opts.v x0_0 x0_1 x0_2 x0_3 x0_4 x0_5 x0_6 x0_7).1), .int .i64 ((synodlaw10_Opts.v x0_0 x0_1 x0_2 x0_3 x0_4 x0_5 x0_6 x0_7).2.1), .int .i64 ((synodlaw10_Opts.v x0_0 x0_1 x0_2 x0_3 x0_4 x0_5 x0_6 x0_7).2.2.1), .int .i64 ((synodlaw10_Opts.v x0_0 x0_1 x0_2 x0_3 x0_4 x0_5 x0_6 x0_7).2.2.2.1), .int .i64 ((synodlaw10_Opts.v x0_0 x0_1 x0_2 x0_3 x0_4 x0_5 x0_6 x0_7).2.2.2.2.1), .int .i64 ((synodlaw10_Opts.v x0_0 x0_1 x0_2 x0_3 x0_4 x0_5 x0_6 x0_7).2.2.2.2.2.1), .int .i64 ((synodlaw10_Opts.v x0_0 x0_1 x0_2 x0_3 x0_4 x0_5 x0_6 x0_7).2.2.2.2.2.2.1), .int .i64 ((synodlaw10_Opts.v x0_0 x0_1 x0_2 x0_3 x0_4 x0_5 x0_6 x0_7).2.2.2.2.2.2.2), .int .i64 x0_8, .int .i64 x0_9, .int .i64 x0_10, .int .i64 x0_11, .int .i64 x0_12, .int .i64 x0_13, .int .i64 x0_14, .int .i64 x0_15, .int .i64 x0_16]) rfl rfl (fun _ => by kernel_rfl)) rfl) zA))))))))))))))))))))))
 exact (ac (fun γ => eo (Z := Unit) (fun z => ()) rfl rfl (.o (s := 2) rfl (by decide) (.v 21 rfl rfl .nil)) (re_store 0 rfl rfl rfl Tryd.sizeOf59 rfl rfl (one_of (by rfl)) rfl rfl) (fun _ => ⟨rfl, rfl, rfl, rfl, rfl, rfl, rfl, rfl, rfl, rfl, rfl, rfl, rfl, rfl, rfl, rfl, rfl, rfl, rfl, rfl, rfl, rfl, trivial⟩) (fun _ => .inl rfl) (fun z => Ent.refl _)) zA)
 intro g9v
 refine nrm_then (sim_rtn ?_)
 exact rtn_fnC (vs := [.agg #[.int .i64 ((synodlaw10_Opts.v x0_0 x0_1 x0_2 x0_3 x0_4 x0_5 x0_6 x0_7).1), .int .i64 ((synodlaw10_Opts.v x0_0 x0_1 x0_2 x0_3 x0_4 x0_5 x0_6 x0_7).2.1), .int .i64 ((synodlaw10_Opts.v x0_0 x0_1 x0_2 x0_3 x0_4 x0_5 x0_6 x0_7).2.2.1), .int .i64 ((synodlaw10_Opts.v x0_0 x0_1 x0_2 x0_3 x0_4 x0_5 x0_6 x0_7).2.2.2.1), .int .i64 ((synodlaw10_Opts.v x0_0 x0_1 x0_2 x0_3 x0_4 x0_5 x0_6 x0_7).2.2.2.2.1), .int .i64 ((synodlaw10_Opts.v x0_0 x0_1 x0_2 x0_3 x0_4 x0_5 x0_6 x0_7).2.2.2.2.2.1), .int .i64 ((synodlaw10_Opts.v x0_0 x0_1 x0_2 x0_3 x0_4 x0_5 x0_6 x0_7).2.2.2.2.2.2.1), .int .i64 ((synodlaw10_Opts.v x0_0 x0_1 x0_2 x0_3 x0_4 x0_5 x0_6 x0_7).2.2.2.2.2.2.2), .int .i64 x0_8, .int .i64 x0_9, .int .i64 x0_10, .int .i64 x0_11, .int .i64 x0_12, .int .i64 x0_13, .int .i64 x0_14, .int .i64 x0_15, .int .i64 x0_16]]) () rfl ⟨⟨b2v, rfl, load_agg 0 Tryd.isAgg59 Tryd.sizeOf59 rfl rfl⟩, trivial⟩ rfl (.sel 2 rfl (.nil _))
def synodlaw12_Opts.v (x0_0 : Int) (x0_1 : Int) (x0_2 : Int) (x0_3 : Int) (x0_4 : Int) (x0_5 : Int) (x0_6 : Int) (x0_7 : Int) (x0_8 : Int) (x0_9 : Int) (x0_10 : Int) (x0_11 : Int) (x0_12 : Int) (x0_13 : Int) (x0_14 : Int) (x0_15 : Int) (x0_16 : Int) : Int × Int × Int × Int × Int × Int × Int × Int × Int × Int × Int × Int × Int × Int × Int × Int × Int := (synodlaw12_Opts.f x0_0 x0_1 x0_2 x0_3 x0_4 x0_5 x0_6 x0_7 x0_8 x0_9 x0_10 x0_11 x0_12 x0_13 x0_14 x0_15 x0_16).getD (0, 0, 0, 0, 0, 0, 0, 0, 0, 0, 0, 0, 0, 0, 0, 0, 0)
theorem synodlaw12_Opts.tot (x0_0 : Int) (x0_1 : Int) (x0_2 : Int) (x0_3 : Int) (x0_4 : Int) (x0_5 : Int) (x0_6 : Int) (x0_7 : Int) (x0_8 : Int) (x0_9 : Int) (x0_10 : Int) (x0_11 : Int) (x0_12 : Int) (x0_13 : Int) (x0_14 : Int) (x0_15 : Int) (x0_16 : Int) : synodlaw12_Opts.f x0_0 x0_1 x0_2 x0_3 x0_4 x0_5 x0_6 x0_7 x0_8 x0_9 x0_10 x0_11 x0_12 x0_13 x0_14 x0_15 x0_16 = some (synodlaw12_Opts.v x0_0 x0_1 x0_2 x0_3 x0_4 x0_5 x0_6 x0_7 x0_8 x0_9 x0_10 x0_11 x0_12 x0_13 x0_14 x0_15 x0_16) := by
  have h : ∃ r, synodlaw12_Opts.f x0_0 x0_1 x0_2 x0_3 x0_4 x0_5 x0_6 x0_7 x0_8 x0_9 x0_10 x0_11 x0_12 x0_13 x0_14 x0_15 x0_16 = some r := by
    unfold synodlaw12_Opts.f
    repeat' (first | exact ⟨_, rfl⟩ | split | simp only [Option.bind_some, synodlaw10_Opts.tot])
  obtain ⟨r, h⟩ := h
  unfold synodlaw12_Opts.v
  rw [h]; rfl

def synodlaw15_Opts.f (x0_0 : Int) (x0_1 : Int) (x0_2 : Int) (x0_3 : Int) (x0_4 : Int) (x0_5 : Int) (x0_6 : Int) (x0_7 : Int) (x0_8 : Int) (x0_9 : Int) (x0_10 : Int) (x0_11 : Int) (x0_12 : Int) (x0_13 : Int) (x0_14 : Int) (x0_15 : Int) (x0_16 : Int) (x0_17 : Int) (x0_18 : Int) : Option (Int × Int × Int × Int × Int × Int × Int × Int × Int × Int × Int × Int × Int × Int × Int × Int × Int × Int × Int) := some (x0_0, x0_1, (synodlaw12_Opts.v x0_2 x0_3 x0_4 x0_5 x0_6 x0_7 x0_8 x0_9 x0_10 x0_11 x0_12 x0_13 x0_14 x0_15 x0_16 x0_17 x0_18).1, (synodlaw12_Opts.v x0_2 x0_3 x0_4 x0_5 x0_6 x0_7 x0_8 x0_9 x0_10 x0_11 x0_12 x0_13 x0_14 x0_15 x0_16 x0_17 x0_18).2.1, (synodlaw12_Opts.v x0_2 x0_3 x0_4 x0_5 x0_6 x0_7 x0_8 x0_9 x0_10 x0_11 x0_12 x0_13 x0_14 x0_15 x0_16 x0_17 x0_18).2.2.1, (synodlaw12_Opts.v x0_2 x0_3 x0_4 x0_5 x0_6 x0_7 x0_8 x0_9 x0_10 x0_11 x0_12 x0_13 x0_14 x0_15 x0_16 x0_17 x0_18).2.2.2.1, (synodlaw12_Opts.v x0_2 x0_3 x0_4 x0_5 x0_6 x0_7 x0_8 x0_9 x0_10 x0_11 x0_12 x0_13 x0_14 x0_15 x0_16 x0_17 x0_18).2.2.2.2.1, (synodlaw12_Opts.v x0_2 x0_3 x0_4 x0_5 x0_6 x0_7 x0_8 x0_9 x0_10 x0_11 x0_12 x0_13 x0_14 x0_15 x0_16 x0_17 x0_18).2.2.2.2.2.1, (synodlaw12_Opts.v x0_2 x0_3 x0_4 x0_5 x0_6 x0_7 x0_8 x0_9 x0_10 x0_11 x0_12 x0_13 x0_14 x0_15 x0_16 x0_17 x0_18).2.2.2.2.2.2.1, (synodlaw12_Opts.v x0_2 x0_3 x0_4 x0_5 x0_6 x0_7 x0_8 x0_9 x0_10 x0_11 x0_12 x0_13 x0_14 x0_15 x0_16 x0_17 x0_18).2.2.2.2.2.2.2.1, (synodlaw12_Opts.v x0_2 x0_3 x0_4 x0_5 x0_6 x0_7 x0_8 x0_9 x0_10 x0_11 x0_12 x0_13 x0_14 x0_15 x0_16 x0_17 x0_18).2.2.2.2.2.2.2.2.1, (synodlaw12_Opts.v x0_2 x0_3 x0_4 x0_5 x0_6 x0_7 x0_8 x0_9 x0_10 x0_11 x0_12 x0_13 x0_14 x0_15 x0_16 x0_17 x0_18).2.2.2.2.2.2.2.2.2.1, (synodlaw12_Opts.v x0_2 x0_3 x0_4 x0_5 x0_6 x0_7 x0_8 x0_9 x0_10 x0_11 x0_12 x0_13 x0_14 x0_15 x0_16 x0_17 x0_18).2.2.2.2.2.2.2.2.2.2.1, (synodlaw12_Opts.v x0_2 x0_3 x0_4 x0_5 x0_6 x0_7 x0_8 x0_9 x0_10 x0_11 x0_12 x0_13 x0_14 x0_15 x0_16 x0_17 x0_18).2.2.2.2.2.2.2.2.2.2.2.1, (synodlaw12_Opts.v x0_2 x0_3 x0_4 x0_5 x0_6 x0_7 x0_8 x0_9 x0_10 x0_11 x0_12 x0_13 x0_14 x0_15 x0_16 x0_17 x0_18).2.2.2.2.2.2.2.2.2.2.2.2.1, (synodlaw12_Opts.v x0_2 x0_3 x0_4 x0_5 x0_6 x0_7 x0_8 x0_9 x0_10 x0_11 x0_12 x0_13 x0_14 x0_15 x0_16 x0_17 x0_18).2.2.2.2.2.2.2.2.2.2.2.2.2.1, (synodlaw12_Opts.v x0_2 x0_3 x0_4 x0_5 x0_6 x0_7 x0_8 x0_9 x0_10 x0_11 x0_12 x0_13 x0_14 x0_15 x0_16 x0_17 x0_18).2.2.2.2.2.2.2.2.2.2.2.2.2.2.1, (synodlaw12_Opts.v x0_2 x0_3 x0_4 x0_5 x0_6 x0_7 x0_8 x0_9 x0_10 x0_11 x0_12 x0_13 x0_14 x0_15 x0_16 x0_17 x0_18).2.2.2.2.2.2.2.2.2.2.2.2.2.2.2.1, (synodlaw12_Opts.v x0_2 x0_3 x0_4 x0_5 x0_6 x0_7 x0_8 x0_9 x0_10 x0_11 x0_12 x0_13 x0_14 x0_15 x0_16 x0_17 x0_18).2.2.2.2.2.2.2.2.2.2.2.2.2.2.2.2)
theorem synodlaw15_Opts.calls (W : World) (F : HA) (x0_0 : Int) (x0_1 : Int) (x0_2 : Int) (x0_3 : Int) (x0_4 : Int) (x0_5 : Int) (x0_6 : Int) (x0_7 : Int) (x0_8 : Int) (x0_9 : Int) (x0_10 : Int) (x0_11 : Int) (x0_12 : Int) (x0_13 : Int) (x0_14 : Int) (x0_15 : Int) (x0_16 : Int) (x0_17 : Int) (x0_18 : Int)  :
    Fn Tryd.prog W 26 [.agg #[.int .i64 x0_0, .int .i64 x0_1, .int .i64 x0_2, .int .i64 x0_3, .int .i64 x0_4, .int .i64 x0_5, .int .i64 x0_6, .int .i64 x0_7, .int .i64 x0_8, .int .i64 x0_9, .int .i64 x0_10, .int .i64 x0_11, .int .i64 x0_12, .int .i64 x0_13, .int .i64 x0_14, .int .i64 x0_15, .int .i64 x0_16, .int .i64 x0_17, .int .i64 x0_18]] [] F (synodlaw15_Opts.f x0_0 x0_1 x0_2 x0_3 x0_4 x0_5 x0_6 x0_7 x0_8 x0_9 x0_10 x0_11 x0_12 x0_13 x0_14 x0_15 x0_16 x0_17 x0_18) (fun (r : Int × Int × Int × Int × Int × Int × Int × Int × Int × Int × Int × Int × Int × Int × Int × Int × Int × Int × Int) (y : Unit) => .agg #[.int .i64 r.1, .int .i64 r.2.1, .int .i64 r.2.2.1, .int .i64 r.2.2.2.1, .int .i64 r.2.2.2.2.1, .int .i64 r.2.2.2.2.2.1, .int .i64 r.2.2.2.2.2.2.1, .int .i64 r.2.2.2.2.2.2.2.1, .int .i64 r.2.2.2.2.2.2.2.2.1, .int .i64 r.2.2.2.2.2.2.2.2.2.1, .int .i64 r.2.2.2.2.2.2.2.2.2.2.1, .int .i64 r.2.2.2.2.2.2.2.2.2.2.2.1, .int .i64 r.2.2.2.2.2.2.2.2.2.2.2.2.1, .int .i64 r.2.2.2.2.2.2.2.2.2.2.2.2.2.1, .int .i64 r.2.2.2.2.2.2.2.2.2.2.2.2.2.2.1, .int .i64 r.2.2.2.2.2.2.2.2.2.2.2.2.2.2.2.1, .int .i64 r.2.2.2.2.2.2.2.2.2.2.2.2.2.2.2.2.1, .int .i64 r.2.2.2.2.2.2.2.2.2.2.2.2.2.2.2.2.2.1, .int .i64 r.2.2.2.2.2.2.2.2.2.2.2.2.2.2.2.2.2.2]) (fun r y => []) := by
 unfold synodlaw15_Opts.f
 refine fn_intro 11 Tryd.func26 rfl Tryd.ntmps26 rfl ?_
 refine sr ?_
 refine simL_eff (re_box rfl rfl rfl) rfl rfl rfl ?_
 intro b1v
 refine simL_eff (re_alloc rfl Tryd.zeroValue61 rfl) rfl rfl rfl ?_
 intro b2v
 refine simL_nil (nrm_then (sim_seq ?_))
 refine sim_draw (Γ := Unit) () [[], [0], [], [2], [], [4], [4, 5], rL 7, rL 8] [8] [0, 1, 2, 3, 4, 5, 6, 7] (fun i => [[0], [0], [0], [0], [0], [0], [0], [0], []].getD i []) (fun i => [[], [], [], [], [], [], [], [], rL 8].getD i []) (fun γ i => [.pointer (some ⟨b1v, 0, none⟩), .int .i64 x0_0, .pointer (some ⟨b1v, 1, none⟩), .int .i64 x0_1, .pointer (some ⟨b1v, 2, none⟩), .agg #[.int .i64 x0_2, .int .i64 x0_3, .int .i64 x0_4, .int .i64 x0_5, .int .i64 x0_6, .int .i64 x0_7, .int .i64 x0_8, .int .i64 x0_9, .int .i64 x0_10, .int .i64 x0_11, .int .i64 x0_12, .int .i64 x0_13, .int .i64 x0_14, .int .i64 x0_15, .int .i64 x0_16, .int .i64 x0_17, .int .i64 x0_18], .agg #[.int .i64 ((synodlaw12_Opts.v x0_2 x0_3 x0_4 x0_5 x0_6 x0_7 x0_8 x0_9 x0_10 x0_11 x0_12 x0_13 x0_14 x0_15 x0_16 x0_17 x0_18).1), .int .i64 ((synodlaw12_Opts.v x0_2 x0_3 x0_4 x0_5 x0_6 x0_7 x0_8 x0_9 x0_10 x0_11 x0_12 x0_13 x0_14 x0_15 x0_16 x0_17 x0_18).2.1), .int .i64 ((synodlaw12_Opts.v x0_2 x0_3 x0_4 x0_5 x0_6 x0_7 x0_8 x0_9 x0_10 x0_11 x0_12 x0_13 x0_14 x0_15 x0_16 x0_17 x0_18).2.2.1), .int .i64 ((synodlaw12_Opts.v x0_2 x0_3 x0_4 x0_5 x0_6 x0_7 x0_8 x0_9 x0_10 x0_11 x0_12 x0_13 x0_14 x0_15 x0_16 x0_17 x0_18).2.2.2.1), .int .i64 ((synodlaw12_Opts.v x0_2 x0_3 x0_4 x0_5 x0_6 x0_7 x0_8 x0_9 x0_10 x0_11 x0_12 x0_13 x0_14 x0_15 x0_16 x0_17 x0_18).2.2.2.2.1), .int .i64 ((synodlaw12_Opts.v x0_2 x0_3 x0_4 x0_5 x0_6 x0_7 x0_8 x0_9 x0_10 x0_11 x0_12 x0_13 x0_14 x0_15 x0_16 x0_17 x0_18).2.2.2.2.2.1), .int .i64 ((synodlaw12_Opts.v x0_2 x0_3 x0_4 x0_5 x0_6 x0_7 x0_8 x0_9 x0_10 x0_11 x0_12 x0_13 x0_14 x0_15 x0_16 x0_17 x0_18).2.2.2.2.2.2.1), .int .i64 ((synodlaw12_Opts.v x0_2 x0_3 x0_4 x0_5 x0_6 x0_7 x0_8 x0_9 x0_10 x0_11 x0_12 x0_13 x0_14 x0_15 x0_16 x0_17 x0_18).2.2.2.2.2.2.2.1), .int .i64 ((synodlaw12_Opts.v x0_2 x0_3 x0_4 x0_5 x0_6 x0_7 x0_8 x0_9 x0_10 x0_11 x0_12 x0_13 x0_14 x0_15 x0_16 x0_17 x0_18).2.2.2.2.2.2.2.2.1), .int .i64 ((synodlaw12_Opts.v x0_2 x0_3 x0_4 x0_5 x0_6 x0_7 x0_8 x0_9 x0_10 x0_11 x0_12 x0_13 x0_14 x0_15 x0_16 x0_17 x0_18).2.2.2.2.2.2.2.2.2.1), .int .i64 ((synodlaw12_Opts.v x0_2 x0_3 x0_4 x0_5 x0_6 x0_7 x0_8 x0_9 x0_10 x0_11 x0_12 x0_13 x0_14 x0_15 x0_16 x0_17 x0_18).2.2.2.2.2.2.2.2.2.2.1), .int .i64 ((synodlaw12_Opts.v x0_2 x0_3 x0_4 x0_5 x0_6 x0_7 x0_8 x0_9 x0_10 x0_11 x0_12 x0_13 x0_14 x0_15 x0_16 x0_17 x0_18).2.2.2.2.2.2.2.2.2.2.2.1), .int .i64 ((synodlaw12_Opts.v x0_2 x0_3 x0_4 x0_5 x0_6 x0_7 x0_8 x0_9 x0_10 x0_11 x0_12 x0_13 x0_14 x0_15 x0_16 x0_17 x0_18).2.2.2.2.2.2.2.2.2.2.2.2.1), .int .i64 ((synodlaw12_Opts.v x0_2 x0_3 x0_4 x0_5 x0_6 x0_7 x0_8 x0_9 x0_10 x0_11 x0_12 x0_13 x0_14 x0_15 x0_16 x0_17 x0_18).2.2.2.2.2.2.2.2.2.2.2.2.2.1), .int .i64 ((synodlaw12_Opts.v x0_2 x0_3 x0_4 x0_5 x0_6 x0_7 x0_8 x0_9 x0_10 x0_11 x0_12 x0_13 x0_14 x0_15 x0_16 x0_17 x0_18).2.2.2.2.2.2.2.2.2.2.2.2.2.2.1), .int .i64 ((synodlaw12_Opts.v x0_2 x0_3 x0_4 x0_5 x0_6 x0_7 x0_8 x0_9 x0_10 x0_11 x0_12 x0_13 x0_14 x0_15 x0_16 x0_17 x0_18).2.2.2.2.2.2.2.2.2.2.2.2.2.2.2.1), .int .i64 ((synodlaw12_Opts.v x0_2 x0_3 x0_4 x0_5 x0_6 x0_7 x0_8 x0_9 x0_10 x0_11 x0_12 x0_13 x0_14 x0_15 x0_16 x0_17 x0_18).2.2.2.2.2.2.2.2.2.2.2.2.2.2.2.2)], .agg #[.int .i64 x0_0, .int .i64 x0_1, .int .i64 ((synodlaw12_Opts.v x0_2 x0_3 x0_4 x0_5 x0_6 x0_7 x0_8 x0_9 x0_10 x0_11 x0_12 x0_13 x0_14 x0_15 x0_16 x0_17 x0_18).1), .int .i64 ((synodlaw12_Opts.v x0_2 x0_3 x0_4 x0_5 x0_6 x0_7 x0_8 x0_9 x0_10 x0_11 x0_12 x0_13 x0_14 x0_15 x0_16 x0_17 x0_18).2.1), .int .i64 ((synodlaw12_Opts.v x0_2 x0_3 x0_4 x0_5 x0_6 x0_7 x0_8 x0_9 x0_10 x0_11 x0_12 x0_13 x0_14 x0_15 x0_16 x0_17 x0_18).2.2.1), .int .i64 ((synodlaw12_Opts.v x0_2 x0_3 x0_4 x0_5 x0_6 x0_7 x0_8 x0_9 x0_10 x0_11 x0_12 x0_13 x0_14 x0_15 x0_16 x0_17 x0_18).2.2.2.1), .int .i64 ((synodlaw12_Opts.v x0_2 x0_3 x0_4 x0_5 x0_6 x0_7 x0_8 x0_9 x0_10 x0_11 x0_12 x0_13 x0_14 x0_15 x0_16 x0_17 x0_18).2.2.2.2.1), .int .i64 ((synodlaw12_Opts.v x0_2 x0_3 x0_4 x0_5 x0_6 x0_7 x0_8 x0_9 x0_10 x0_11 x0_12 x0_13 x0_14 x0_15 x0_16 x0_17 x0_18).2.2.2.2.2.1), .int .i64 ((synodlaw12_Opts.v x0_2 x0_3 x0_4 x0_5 x0_6 x0_7 x0_8 x0_9 x0_10 x0_11 x0_12 x0_13 x0_14 x0_15 x0_16 x0_17 x0_18).2.2.2.2.2.2.1), .int .i64 ((synodlaw12_Opts.v x0_2 x0_3 x0_4 x0_5 x0_6 x0_7 x0_8 x0_9 x0_10 x0_11 x0_12 x0_13 x0_14 x0_15 x0_16 x0_17 x0_18).2.2.2.2.2.2.2.1), .int .i64 ((synodlaw12_Opts.v x0_2 x0_3 x0_4 x0_5 x0_6 x0_7 x0_8 x0_9 x0_10 x0_11 x0_12 x0_13 x0_14 x0_15 x0_16 x0_17 x0_18).2.2.2.2.2.2.2.2.1), .int .i64 ((synodlaw12_Opts.v x0_2 x0_3 x0_4 x0_5 x0_6 x0_7 x0_8 x0_9 x0_10 x0_11 x0_12 x0_13 x0_14 x0_15 x0_16 x0_17 x0_18).2.2.2.2.2.2.2.2.2.1), .int .i64 ((synodlaw12_Opts.v x0_2 x0_3 x0_4 x0_5 x0_6 x0_7 x0_8 x0_9 x0_10 x0_11 x0_12 x0_13 x0_14 x0_15 x0_16 x0_17 x0_18).2.2.2.2.2.2.2.2.2.2.1), .int .i64 ((synodlaw12_Opts.v x0_2 x0_3 x0_4 x0_5 x0_6 x0_7 x0_8 x0_9 x0_10 x0_11 x0_12 x0_13 x0_14 x0_15 x0_16 x0_17 x0_18).2.2.2.2.2.2.2.2.2.2.2.1), .int .i64 ((synodlaw12_Opts.v x0_2 x0_3 x0_4 x0_5 x0_6 x0_7 x0_8 x0_9 x0_10 x0_11 x0_12 x0_13 x0_14 x0_15 x0_16 x0_17 x0_18).2.2.2.2.2.2.2.2.2.2.2.2.1), .int .i64 ((synodlaw12_Opts.v x0_2 x0_3 x0_4 x0_5 x0_6 x0_7 x0_8 x0_9 x0_10 x0_11 x0_12 x0_13 x0_14 x0_15 x0_16 x0_17 x0_18).2.2.2.2.2.2.2.2.2.2.2.2.2.1), .int .i64 ((synodlaw12_Opts.v x0_2 x0_3 x0_4 x0_5 x0_6 x0_7 x0_8 x0_9 x0_10 x0_11 x0_12 x0_13 x0_14 x0_15 x0_16 x0_17 x0_18).2.2.2.2.2.2.2.2.2.2.2.2.2.2.1), .int .i64 ((synodlaw12_Opts.v x0_2 x0_3 x0_4 x0_5 x0_6 x0_7 x0_8 x0_9 x0_10 x0_11 x0_12 x0_13 x0_14 x0_15 x0_16 x0_17 x0_18).2.2.2.2.2.2.2.2.2.2.2.2.2.2.2.1), .int .i64 ((synodlaw12_Opts.v x0_2 x0_3 x0_4 x0_5 x0_6 x0_7 x0_8 x0_9 x0_10 x0_11 x0_12 x0_13 x0_14 x0_15 x0_16 x0_17 x0_18).2.2.2.2.2.2.2.2.2.2.2.2.2.2.2.2)], undef].getD i undef) (fun j γ => [[obj b2v 61 [.int .i64 0, .int .i64 0, .int .i64 0, .int .i64 0, .int .i64 0, .int .i64 0, .int .i64 0, .int .i64 0, .int .i64 0, .int .i64 0, .int .i64 0, .int .i64 0, .int .i64 0, .int .i64 0, .int .i64 0, .int .i64 0, .int .i64 0, .int .i64 0, .int .i64 0], obj b1v 54 [.int .i64 x0_0, .int .i64 x0_1, .int .i64 x0_2, .int .i64 x0_3, .int .i64 x0_4, .int .i64 x0_5, .int .i64 x0_6, .int .i64 x0_7, .int .i64 x0_8, .int .i64 x0_9, .int .i64 x0_10, .int .i64 x0_11, .int .i64 x0_12, .int .i64 x0_13, .int .i64 x0_14, .int .i64 x0_15, .int .i64 x0_16, .int .i64 x0_17, .int .i64 x0_18], F], [obj b2v 61 [.int .i64 x0_0, .int .i64 x0_1, .int .i64 ((synodlaw12_Opts.v x0_2 x0_3 x0_4 x0_5 x0_6 x0_7 x0_8 x0_9 x0_10 x0_11 x0_12 x0_13 x0_14 x0_15 x0_16 x0_17 x0_18).1), .int .i64 ((synodlaw12_Opts.v x0_2 x0_3 x0_4 x0_5 x0_6 x0_7 x0_8 x0_9 x0_10 x0_11 x0_12 x0_13 x0_14 x0_15 x0_16 x0_17 x0_18).2.1), .int .i64 ((synodlaw12_Opts.v x0_2 x0_3 x0_4 x0_5 x0_6 x0_7 x0_8 x0_9 x0_10 x0_11 x0_12 x0_13 x0_14 x0_15 x0_16 x0_17 x0_18).2.2.1), .int .i64 ((synodlaw12_Opts.v x0_2 x0_3 x0_4 x0_5 x0_6 x0_7 x0_8 x0_9 x0_10 x0_11 x0_12 x0_13 x0_14 x0_15 x0_16 x0_17 x0_18).2.2.2.1), .int .i64 ((synodlaw12_Opts.v x0_2 x0_3 x0_4 x0_5 x0_6 x0_7 x0_8 x0_9 x0_10 x0_11 x0_12 x0_13 x0_14 x0_15 x0_16 x0_17 x0_18).2.2.2.2.1), .int .i64 ((synodlaw12_Opts.v x0_2 x0_3 x0_4 x0_5 x0_6 x0_7 x0_8 x0_9 x0_10 x0_11 x0_12 x0_13 x0_14 x0_15 x0_16 x0_17 x0_18).2.2.2.2.2.1), .int .i64 ((synodlaw12_Opts.v x0_2 x0_3 x0_4 x0_5 x0_6 x0_7 x0_8 x0_9 x0_10 x0_11 x0_12 x0_13 x0_14 x0_15 x0_16 x0_17 x0_18).2.2.2.2.2.2.1), .int .i64 ((synodlaw12_Opts.v x0_2 x0_3 x0_4 x0_5 x0_6 x0_7 x0_8 x0_9 x0_10 x0_11 x0_12 x0_13 x0_14 x0_15 x0_16 x0_17 x0_18).2.2.2.2.2.2.2.1), .int .i64 ((synodlaw12_Opts.v x0_2 x0_3 x0_4 x0_5 x0_6 x0_7 x0_8 x0_9 x0_10 x0_11 x0_12 x0_13 x0_14 x0_15 x0_16 x0_17 x0_18).2.2.2.2.2.2.2.2.1), .int .i64 ((synodlaw12_Opts.v x0_2 x0_3 x0_4 x0_5 x0_6 x0_7 x0_8 x0_9 x0_10 x0_11 x0_12 x0_13 x0_14 x0_15 x0_16 x0_17 x0_18).2.2.2.2.2.2.2.2.2.1), .int .i64 ((synodlaw12_Opts.v x0_2 x0_3 x0_4 x0_5 x0_6 x0_7 x0_8 x0_9 x0_10 x0_11 x0_12 x0_13 x0_14 x0_15 x0_16 x0_17 x0_18).2.2.2.2.2.2.2.2.2.2.1), .int .i64 ((synodlaw12_Opts.v x0_2 x0_3 x0_4 x0_5 x0_6 x0_7 x0_8 x0_9 x0_10 x0_11 x0_12 x0_13 x0_14 x0_15 x0_16 x0_17 x0_18).2.2.2.2.2.2.2.2.2.2.2.1), .int .i64 ((synodlaw12_Opts.v x0_2 x0_3 x0_4 x0_5 x0_6 x0_7 x0_8 x0_9 x0_10 x0_11 x0_12 x0_13 x0_14 x0_15 x0_16 x0_17 x0_18).2.2.2.2.2.2.2.2.2.2.2.2.1), .int .i64 ((synodlaw12_Opts.v x0_2 x0_3 x0_4 x0_5 x0_6 x0_7 x0_8 x0_9 x0_10 x0_11 x0_12 x0_13 x0_14 x0_15 x0_16 x0_17 x0_18).2.2.2.2.2.2.2.2.2.2.2.2.2.1), .int .i64 ((synodlaw12_Opts.v x0_2 x0_3 x0_4 x0_5 x0_6 x0_7 x0_8 x0_9 x0_10 x0_11 x0_12 x0_13 x0_14 x0_15 x0_16 x0_17 x0_18).2.2.2.2.2.2.2.2.2.2.2.2.2.2.1), .int .i64 ((synodlaw12_Opts.v x0_2 x0_3 x0_4 x0_5 x0_6 x0_7 x0_8 x0_9 x0_10 x0_11 x0_12 x0_13 x0_14 x0_15 x0_16 x0_17 x0_18).2.2.2.2.2.2.2.2.2.2.2.2.2.2.2.1), .int .i64 ((synodlaw12_Opts.v x0_2 x0_3 x0_4 x0_5 x0_6 x0_7 x0_8 x0_9 x0_10 x0_11 x0_12 x0_13 x0_14 x0_15 x0_16 x0_17 x0_18).2.2.2.2.2.2.2.2.2.2.2.2.2.2.2.2)], obj b1v 54 [.int .i64 x0_0, .int .i64 x0_1, .int .i64 x0_2, .int .i64 x0_3, .int .i64 x0_4, .int .i64 x0_5, .int .i64 x0_6, .int .i64 x0_7, .int .i64 x0_8, .int .i64 x0_9, .int .i64 x0_10, .int .i64 x0_11, .int .i64 x0_12, .int .i64 x0_13, .int .i64 x0_14, .int .i64 x0_15, .int .i64 x0_16, .int .i64 x0_17, .int .i64 x0_18], F]].getD j []) (fun γ => [(2, .pointer (some ⟨b2v, 0, none⟩))]) mixed (by decide) (by decide) (by decide) (by decide) (by decide) (by decide) (by decide) 11 rfl (by decide) (by decide) (by decide) (Ent.refl _) ?_ ?_ (fun _ => ⟨rfl, trivial⟩) ?_
 exact (aq rfl (fun γ => qp rfl rfl (.o (s := 1) rfl (by decide) .nil) (q_fa rfl rfl Tryd.underlying54 rfl rfl Tryd.sizeOf3 rfl) rfl) (aq rfl (fun γ => qp rfl rfl (.v 0 rfl rfl .nil) (q_load rfl rfl Tryd.isAgg3 (.obj 1 rfl rfl)) rfl) (aq rfl (fun γ => qp rfl rfl (.o (s := 1) rfl (by decide) .nil) (q_fa rfl rfl Tryd.underlying54 rfl rfl Tryd.sizeOf3 rfl) rfl) (aq rfl (fun γ => qp rfl rfl (.v 2 rfl rfl .nil) (q_load rfl rfl Tryd.isAgg3 (.obj 1 rfl rfl)) rfl) (aq rfl (fun γ => qp rfl rfl (.o (s := 1) rfl (by decide) .nil) (q_fa rfl rfl Tryd.underlying54 rfl rfl Tryd.sizeOf52 rfl) rfl) (aq rfl (fun γ => qp rfl rfl (.v 4 rfl rfl .nil) (q_loads (vs := [.int .i64 x0_2, .int .i64 x0_3, .int .i64 x0_4, .int .i64 x0_5, .int .i64 x0_6, .int .i64 x0_7, .int .i64 x0_8, .int .i64 x0_9, .int .i64 x0_10, .int .i64 x0_11, .int .i64 x0_12, .int .i64 x0_13, .int .i64 x0_14, .int .i64 x0_15, .int .i64 x0_16, .int .i64 x0_17, .int .i64 x0_18]) rfl rfl Tryd.isAgg52 Tryd.sizeOf52 rfl (cells_obj 1 rfl (cells_lit rfl))) rfl) (aq rfl (fun γ => qp rfl rfl (.v 5 rfl rfl .nil) (RE.rq (re_call (vs := [.agg #[.int .i64 x0_2, .int .i64 x0_3, .int .i64 x0_4, .int .i64 x0_5, .int .i64 x0_6, .int .i64 x0_7, .int .i64 x0_8, .int .i64 x0_9, .int .i64 x0_10, .int .i64 x0_11, .int .i64 x0_12, .int .i64 x0_13, .int .i64 x0_14, .int .i64 x0_15, .int .i64 x0_16, .int .i64 x0_17, .int .i64 x0_18]]) (cap := []) (A := []) (rst := [obj b2v 61 [.int .i64 0, .int .i64 0, .int .i64 0, .int .i64 0, .int .i64 0, .int .i64 0, .int .i64 0, .int .i64 0, .int .i64 0, .int .i64 0, .int .i64 0, .int .i64 0, .int .i64 0, .int .i64 0, .int .i64 0, .int .i64 0, .int .i64 0, .int .i64 0, .int .i64 0], obj b1v 54 [.int .i64 x0_0, .int .i64 x0_1, .int .i64 x0_2, .int .i64 x0_3, .int .i64 x0_4, .int .i64 x0_5, .int .i64 x0_6, .int .i64 x0_7, .int .i64 x0_8, .int .i64 x0_9, .int .i64 x0_10, .int .i64 x0_11, .int .i64 x0_12, .int .i64 x0_13, .int .i64 x0_14, .int .i64 x0_15, .int .i64 x0_16, .int .i64 x0_17, .int .i64 x0_18], F]) rfl rfl rfl rfl rfl rfl Tryd.call57 (.sel 0 rfl (.sel 0 rfl (.sel 0 rfl (.nil _)))) (synodlaw12_Opts.calls _ _ x0_2 x0_3 x0_4 x0_5 x0_6 x0_7 x0_8 x0_9 x0_10 x0_11 x0_12 x0_13 x0_14 x0_15 x0_16 x0_17 x0_18 ) (synodlaw12_Opts.tot x0_2 x0_3 x0_4 x0_5 x0_6 x0_7 x0_8 x0_9 x0_10 x0_11 x0_12 x0_13 x0_14 x0_15 x0_16 x0_17 x0_18)) (fun _ => rfl) (fun _ => (.sel 0 rfl (.sel 0 rfl (.sel 0 rfl (.nil _)))))) rfl) (aq rfl (fun γ => qp rfl rfl (.v 1 rfl rfl (.v 3 rfl rfl (.v 6 rfl rfl .nil))) (q_build (v := .agg #[.int .i64 x0_0, .int .i64 x0_1, .int .i64 ((synodlaw12_Opts.v x0_2 x0_3 x0_4 x0_5 x0_6 x0_7 x0_8 x0_9 x0_10 x0_11 x0_12 x0_13 x0_14 x0_15 x0_16 x0_17 x0_18).1), .int .i64 ((synodlaw12_Opts.v x0_2 x0_3 x0_4 x0_5 x0_6 x0_7 x0_8 x0_9 x0_10 x0_11 x0_12 x0_13 x0_14 x0_15 x0_16 x0_17 x0_18).2.1), .int .i64 ((synodlaw12_Opts.v x0_2 x0_3 x0_4 x0_5 x0_6 x0_7 x0_8 x0_9 x0_10 x0_11 x0_12 x0_13 x0_14 x0_15 x0_16 x0_17 x0_18).2.2.1), .int .i64 ((synodlaw12_Opts.v x0_2 x0_3 x0_4 x0_5 x0_6 x0_7 x0_8 x0_9 x0_10 x0_11 x0_12 x0_13 x0_14 x0_15 x0_16 x0_17 x0_18).2.2.2.1), .int .i64 ((synodlaw12_Opts.v x0_2 x0_3 x0_4 x0_5 x0_6 x0_7 x0_8 x0_9 x0_10 x0_11 x0_12 x0_13 x0_14 x0_15 x0_16 x0_17 x0_18).2.2.2.2.1), .int .i64 ((synodlaw12_Opts.v x0_2 x0_3 x0_4 x0_5 x0_6 x0_7 x0_8 x0_9 x0_10 x0_11 x0_12 x0_13 x0_14 x0_15 x0_16 x0_17 x0_18).2.2.2.2.2.1), .int .i64 ((synodlaw12_Opts.v x0_2 x0_3 x0_4 x0_5 x0_6 x0_7 x0_8 x0_9 x0_10 x0_11 x0_12 x0_13 x0_14 x0_15 x0_16 x0_17 x0_18).2.2.2.2.2.2.1), .int .i64 ((synodlaw12_Opts.v x0_2 x0_3 x0_4 x0_5 x0_6 x0_7 x0_8 x0_9 x0_10 x0_11 x0_12 x0_13 x0_14 x0_15 x0_16 x0_17 x0_18).2.2.2.2.2.2.2.1), .int .i64 ((synodlaw12_Opts.v x0_2 x0_3 x0_4 x0_5 x0_6 x0_7 x0_8 x0_9 x0_10 x0_11 x0_12 x0_13 x0_14 x0_15 x0_16 x0_17 x0_18).2.2.2.2.2.2.2.2.1), .int .i64 ((synodlaw12_Opts.v x0_2 x0_3 x0_4 x0_5 x0_6 x0_7 x0_8 x0_9 x0_10 x0_11 x0_12 x0_13 x0_14 x0_15 x0_16 x0_17 x0_18).2.2.2.2.2.2.2.2.2.1), .int .i64 ((synodlaw12_Opts.v x0_2 x0_3 x0_4 x0_5 x0_6 x0_7 x0_8 x0_9 x0_10 x0_11 x0_12 x0_13 x0_14 x0_15 x0_16 x0_17 x0_18).2.2.2.2.2.2.2.2.2.2.1), .int .i64 ((synodlaw12_Opts.v x0_2 x0_3 x0_4 x0_5 x0_6 x0_7 x0_8 x0_9 x0_10 x0_11 x0_12 x0_13 x0_14 x0_15 x0_16 x0_17 x0_18).2.2.2.2.2.2.2.2.2.2.2.1), .int .i64 ((synodlaw12_Opts.v x0_2 x0_3 x0_4 x0_5 x0_6 x0_7 x0_8 x0_9 x0_10 x0_11 x0_12 x0_13 x0_14 x0_15 x0_16 x0_17 x0_18).2.2.2.2.2.2.2.2.2.2.2.2.1), .int .i64 ((synodlaw12_Opts.v x0_2 x0_3 x0_4 x0_5 x0_6 x0_7 x0_8 x0_9 x0_10 x0_11 x0_12 x0_13 x0_14 x0_15 x0_16 x0_17 x0_18).2.2.2.2.2.2.2.2.2.2.2.2.2.1), .int .i64 ((synodlaw12_Opts.v x0_2 x0_3 x0_4 x0_5 x0_6 x0_7 x0_8 x0_9 x0_10 x0_11 x0_12 x0_13 x0_14 x0_15 x0_16 x0_17 x0_18).2.2.2.2.2.2.2.2.2.2.2.2.2.2.1), .int .i64 ((synodlaw12_Opts.v x0_2 x0_3 x0_4 x0_5 x0_6 x0_7 x0_8 x0_9 x0_10 x0_11 x0_12 x0_13 x0_14 x0_15 x0_16 x0_17 x0_18).2.2.2.2.2.2.2.2.2.2.2.2.2.2.2.1), .int .i64 ((synodlaw12_Opts.v x0_2 x0_3 x0_4 x0_5 x0_6 x0_7 x0_8 x0_9 x0_10 x0_11 x0_12 x0_13 x0_14 x0_15 x0_16 x0_17 x0_18).2.2.2.2.2.2.2.2.2.2.2.2.2.2.2.2)]) rfl rfl (fun _ => by kernel_rfl)) rfl) zA))))))))
 exact (ac (fun γ => eo (Z := Unit) (fun z => ()) rfl rfl (.o (s := 2) rfl (by decide) (.v 7 rfl rfl .nil)) (re_store 0 rfl rfl rfl Tryd.sizeOf61 rfl rfl (one_of (by rfl)) rfl rfl) (fun _ => ⟨rfl, rfl, rfl, rfl, rfl, rfl, rfl, rfl, trivial⟩) (fun _ => .inl rfl) (fun z => Ent.refl _)) zA)
 intro g9v
 refine nrm_then (sim_rtn ?_)
 exact rtn_fnC (vs := [.agg #[.int .i64 x0_0, .int .i64 x0_1, .int .i64 ((synodlaw12_Opts.v x0_2 x0_3 x0_4 x0_5 x0_6 x0_7 x0_8 x0_9 x0_10 x0_11 x0_12 x0_13 x0_14 x0_15 x0_16 x0_17 x0_18).1), .int .i64 ((synodlaw12_Opts.v x0_2 x0_3 x0_4 x0_5 x0_6 x0_7 x0_8 x0_9 x0_10 x0_11 x0_12 x0_13 x0_14 x0_15 x0_16 x0_17 x0_18).2.1), .int .i64 ((synodlaw12_Opts.v x0_2 x0_3 x0_4 x0_5 x0_6 x0_7 x0_8 x0_9 x0_10 x0_11 x0_12 x0_13 x0_14 x0_15 x0_16 x0_17 x0_18).2.2.1), .int .i64 ((synodlaw12_Opts.v x0_2 x0_3 x0_4 x0_5 x0_6 x0_7 x0_8 x0_9 x0_10 x0_11 x0_12 x0_13 x0_14 x0_15 x0_16 x0_17 x0_18).2.2.2.1), .int .i64 ((synodlaw12_Opts.v x0_2 x0_3 x0_4 x0_5 x0_6 x0_7 x0_8 x0_9 x0_10 x0_11 x0_12 x0_13 x0_14 x0_15 x0_16 x0_17 x0_18).2.2.2.2.1), .int .i64 ((synodlaw12_Opts.v x0_2 x0_3 x0_4 x0_5 x0_6 x0_7 x0_8 x0_9 x0_10 x0_11 x0_12 x0_13 x0_14 x0_15 x0_16 x0_17 x0_18).2.2.2.2.2.1), .int .i64 ((synodlaw12_Opts.v x0_2 x0_3 x0_4 x0_5 x0_6 x0_7 x0_8 x0_9 x0_10 x0_11 x0_12 x0_13 x0_14 x0_15 x0_16 x0_17 x0_18).2.2.2.2.2.2.1), .int .i64 ((synodlaw12_Opts.v x0_2 x0_3 x0_4 x0_5 x0_6 x0_7 x0_8 x0_9 x0_10 x0_11 x0_12 x0_13 x0_14 x0_15 x0_16 x0_17 x0_18).2.2.2.2.2.2.2.1), .int .i64 ((synodlaw12_Opts.v x0_2 x0_3 x0_4 x0_5 x0_6 x0_7 x0_8 x0_9 x0_10 x0_11 x0_12 x0_13 x0_14 x0_15 x0_16 x0_17 x0_18).2.2.2.2.2.2.2.2.1), .int .i64 ((synodlaw12_Opts.v x0_2 x0_3 x0_4 x0_5 x0_6 x0_7 x0_8 x0_9 x0_10 x0_11 x0_12 x0_13 x0_14 x0_15 x0_16 x0_17 x0_18).2.2.2.2.2.2.2.2.2.1), .int .i64 ((synodlaw12_Opts.v x0_2 x0_3 x0_4 x0_5 x0_6 x0_7 x0_8 x0_9 x0_10 x0_11 x0_12 x0_13 x0_14 x0_15 x0_16 x0_17 x0_18).2.2.2.2.2.2.2.2.2.2.1), .int .i64 ((synodlaw12_Opts.v x0_2 x0_3 x0_4 x0_5 x0_6 x0_7 x0_8 x0_9 x0_10 x0_11 x0_12 x0_13 x0_14 x0_15 x0_16 x0_17 x0_18).2.2.2.2.2.2.2.2.2.2.2.1), .int .i64 ((synodlaw12_Opts.v x0_2 x0_3 x0_4 x0_5 x0_6 x0_7 x0_8 x0_9 x0_10 x0_11 x0_12 x0_13 x0_14 x0_15 x0_16 x0_17 x0_18).2.2.2.2.2.2.2.2.2.2.2.2.1), .int .i64 ((synodlaw12_Opts.v x0_2 x0_3 x0_4 x0_5 x0_6 x0_7 x0_8 x0_9 x0_10 x0_11 x0_12 x0_13 x0_14 x0_15 x0_16 x0_17 x0_18).2.2.2.2.2.2.2.2.2.2.2.2.2.1), .int .i64 ((synodlaw12_Opts.v x0_2 x0_3 x0_4 x0_5 x0_6 x0_7 x0_8 x0_9 x0_10 x0_11 x0_12 x0_13 x0_14 x0_15 x0_16 x0_17 x0_18).2.2.2.2.2.2.2.2.2.2.2.2.2.2.1), .int .i64 ((synodlaw12_Opts.v x0_2 x0_3 x0_4 x0_5 x0_6 x0_7 x0_8 x0_9 x0_10 x0_11 x0_12 x0_13 x0_14 x0_15 x0_16 x0_17 x0_18).2.2.2.2.2.2.2.2.2.2.2.2.2.2.2.1), .int .i64 ((synodlaw12_Opts.v x0_2 x0_3 x0_4 x0_5 x0_6 x0_7 x0_8 x0_9 x0_10 x0_11 x0_12 x0_13 x0_14 x0_15 x0_16 x0_17 x0_18).2.2.2.2.2.2.2.2.2.2.2.2.2.2.2.2)]]) () rfl ⟨⟨b2v, rfl, load_agg 0 Tryd.isAgg61 Tryd.sizeOf61 rfl rfl⟩, trivial⟩ rfl (.sel 2 rfl (.nil _))
def synodlaw15_Opts.v (x0_0 : Int) (x0_1 : Int) (x0_2 : Int) (x0_3 : Int) (x0_4 : Int) (x0_5 : Int) (x0_6 : Int) (x0_7 : Int) (x0_8 : Int) (x0_9 : Int) (x0_10 : Int) (x0_11 : Int) (x0_12 : Int) (x0_13 : Int) (x0_14 : Int) (x0_15 : Int) (x0_16 : Int) (x0_17 : Int) (x0_18 : Int) : Int × Int × Int × Int × Int × Int × Int × Int × Int × Int × Int × Int × Int × Int × Int × Int × Int × Int × Int := (synodlaw15_Opts.f x0_0 x0_1 x0_2 x0_3 x0_4 x0_5 x0_6 x0_7 x0_8 x0_9 x0_10 x0_11 x0_12 x0_13 x0_14 x0_15 x0_16 x0_17 x0_18).getD (0, 0, 0, 0, 0, 0, 0, 0, 0, 0, 0, 0, 0, 0, 0, 0, 0, 0, 0)
theorem synodlaw15_Opts.tot (x0_0 : Int) (x0_1 : Int) (x0_2 : Int) (x0_3 : Int) (x0_4 : Int) (x0_5 : Int) (x0_6 : Int) (x0_7 : Int) (x0_8 : Int) (x0_9 : Int) (x0_10 : Int) (x0_11 : Int) (x0_12 : Int) (x0_13 : Int) (x0_14 : Int) (x0_15 : Int) (x0_16 : Int) (x0_17 : Int) (x0_18 : Int) : synodlaw15_Opts.f x0_0 x0_1 x0_2 x0_3 x0_4 x0_5 x0_6 x0_7 x0_8 x0_9 x0_10 x0_11 x0_12 x0_13 x0_14 x0_15 x0_16 x0_17 x0_18 = some (synodlaw15_Opts.v x0_0 x0_1 x0_2 x0_3 x0_4 x0_5 x0_6 x0_7 x0_8 x0_9 x0_10 x0_11 x0_12 x0_13 x0_14 x0_15 x0_16 x0_17 x0_18) := by
  have h : ∃ r, synodlaw15_Opts.f x0_0 x0_1 x0_2 x0_3 x0_4 x0_5 x0_6 x0_7 x0_8 x0_9 x0_10 x0_11 x0_12 x0_13 x0_14 x0_15 x0_16 x0_17 x0_18 = some r := by
    unfold synodlaw15_Opts.f
    repeat' (first | exact ⟨_, rfl⟩ | split | simp only [Option.bind_some, synodlaw12_Opts.tot])
  obtain ⟨r, h⟩ := h
  unfold synodlaw15_Opts.v
  rw [h]; rfl
def synodlaw15_Opts.u {R : Type} (t : Int × Int × Int × Int × Int × Int × Int × Int × Int × Int × Int × Int × Int × Int × Int × Int × Int × Int × Int × R) : Int × Int × Int × Int × Int × Int × Int × Int × Int × Int × Int × Int × Int × Int × Int × Int × Int × Int × Int := synodlaw15_Opts.v t.1 t.2.1 t.2.2.1 t.2.2.2.1 t.2.2.2.2.1 t.2.2.2.2.2.1 t.2.2.2.2.2.2.1 t.2.2.2.2.2.2.2.1 t.2.2.2.2.2.2.2.2.1 t.2.2.2.2.2.2.2.2.2.1 t.2.2.2.2.2.2.2.2.2.2.1 t.2.2.2.2.2.2.2.2.2.2.2.1 t.2.2.2.2.2.2.2.2.2.2.2.2.1 t.2.2.2.2.2.2.2.2.2.2.2.2.2.1 t.2.2.2.2.2.2.2.2.2.2.2.2.2.2.1 t.2.2.2.2.2.2.2.2.2.2.2.2.2.2.2.1 t.2.2.2.2.2.2.2.2.2.2.2.2.2.2.2.2.1 t.2.2.2.2.2.2.2.2.2.2.2.2.2.2.2.2.2.1 t.2.2.2.2.2.2.2.2.2.2.2.2.2.2.2.2.2.2.1
end Go.Proofs.YtbcnegennmpliaaDoor

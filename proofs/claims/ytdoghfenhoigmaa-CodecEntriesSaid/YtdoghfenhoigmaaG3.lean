/- Printed by gen.py: pure functions and the proofs that the Go functions simulate them. Conditions: as each theorem says. -/
import Derived.Test.YtdoghfenhoigmaaG2
namespace Go.Proofs.Ytdoghfenhoigmaa
open Go.RowKit
set_option linter.unusedVariables false
set_option maxRecDepth 20000
set_option maxHeartbeats 2000000
def synodref1_Int.l1 (x0 : List UInt8) (x1 : Int) : Nat → Int → Int → Option (Int)
  | 0, _, _ => none
  | k + 1, z42v, z43v => if (0 : Int) ≤ z43v then (if 0 ≤ IntKind.i64.wrap (x1 + z43v) ∧ IntKind.i64.wrap (x1 + z43v) < (x0.length : Int) then (synodref1_Int.l1 x0 x1 k (IntKind.i64.wrap ((IntKind.i64.wrap (z42v * 128)) + (Int.tmod (IntKind.i64.wrap ((x0.getD (IntKind.i64.wrap (x1 + z43v)).toNat 0).toNat : Int)) 128))) (IntKind.i64.wrap (z43v - 1))) else none) else (some z42v)
def synodref1_Int.l0 (x0 : List UInt8) (x1 : Int) : Nat → Int → Option (Int)
  | 0, _ => none
  | k + 1, z7v => (if ((decide (z7v < (9 : Int))) && (decide (IntKind.i64.wrap (x1 + z7v) < (x0.length : Int)))) = true then (if 0 ≤ IntKind.i64.wrap (x1 + z7v) ∧ IntKind.i64.wrap (x1 + z7v) < (x0.length : Int) then (some (decide ((128 : Int) ≤ ((x0.getD (IntKind.i64.wrap (x1 + z7v)).toNat 0).toNat : Int)))) else none) else (some false)).bind fun s8v => (if s8v = true then (synodref1_Int.l0 x0 x1 k (IntKind.i64.wrap (z7v + 1))) else (some z7v))
def synodref1_Int.f (k : Nat) (x0 : List UInt8) (x1 : Int) : Option (Int × Int × Int) := if ((decide (x1 < (0 : Int))) || (decide ((x0.length : Int) ≤ x1))) = true then (some (0, 0, 2)) else ((synodref1_Int.l0 x0 x1 k 0).bind fun s3v => (if s3v = (9 : Int) then (some (0, 0, 4)) else (if (x0.length : Int) ≤ IntKind.i64.wrap (x1 + s3v) then (some (0, 0, 2)) else ((if (0 : Int) < s3v then (if 0 ≤ IntKind.i64.wrap (x1 + s3v) ∧ IntKind.i64.wrap (x1 + s3v) < (x0.length : Int) then (some (decide (((x0.getD (IntKind.i64.wrap (x1 + s3v)).toNat 0).toNat : Int) = (0 : Int)))) else none) else (some false)).bind fun s28v => (if s28v = true then (some (0, 0, 4)) else ((synodref1_Int.l1 x0 x1 k 0 s3v).bind fun s38v => (if (4611686018427387904 : Int) < s38v then (some (0, 0, 1)) else (some (s38v, IntKind.i64.wrap (s3v + 1), 0)))))))))
theorem synodref1_Int.calls (W : World) (F : HA) (k : Nat) (a0 : Option Addr) (c0 : Nat) (x0 : List UInt8) (x1 : Int) (h0 : Rd F a0 (encB x0)) (hc0 : x0.length ≤ c0) (hm0 : c0 ≤ maxLen) :
    Fn Try.prog W 130 [.slice a0 x0.length c0, .int .i64 x1] [] F (synodref1_Int.f k x0 x1) (fun (r : Int × Int × Int) (y : Unit) => .tuple #[.int .i64 r.1, .int .i64 r.2.1, .int .i64 r.2.2]) (fun r y => []) := by
 unfold synodref1_Int.f
 refine fn_intro 79 Try.func130 rfl Try.ntmps130 rfl ?_
 refine sim_seq ?_
 refine sim_region ?_
 refine simL_val (q_asg rfl rfl) rfl rfl rfl ?_
 refine simL_val (q_asg rfl rfl) rfl rfl rfl ?_
 refine simL_val (q_asg rfl rfl) rfl rfl rfl ?_
 refine simL_nil ?_
 refine nrm_then ?_
 refine sim_seq ?_
 refine sim_seq ?_
 refine sim_region ?_
 refine simL_val (q_move rfl rfl) rfl rfl rfl ?_
 refine simL_val (q_lss rfl rfl rfl) rfl rfl rfl ?_
 refine simL_val (q_move rfl rfl) rfl rfl rfl ?_
 refine simL_valc (b := decide (x1 < (0 : Int))) (fun hb56v => RQ.sub (E' := [(1, .int .i64 x1)]) ⟨rfl, trivial⟩ (q_move rfl rfl)) rfl rfl rfl rfl rfl ?_
 refine simL_valc (b := decide (x1 < (0 : Int))) (fun hb55v => RQ.sub (E' := [(0, .slice a0 x0.length c0)]) ⟨rfl, trivial⟩ (q_move rfl rfl)) rfl rfl rfl rfl rfl ?_
 refine simL_valc (b := decide (x1 < (0 : Int))) (fun hb54v => RQ.sub (E' := [(14, .slice a0 x0.length c0)]) ⟨lk_cv rfl hb54v, trivial⟩ (q_len rfl rfl rfl Try.underlying27)) rfl rfl rfl rfl rfl ?_
 refine simL_valc (b := decide (x1 < (0 : Int))) (fun hb53v => RQ.sub (E' := [(13, .int .i64 x1), (15, .int .i64 (x0.length : Int))]) ⟨lk_cv rfl hb53v, lk_cv rfl hb53v, trivial⟩ (q_geq rfl rfl rfl)) rfl rfl rfl rfl rfl ?_
 refine simL_val (q_or rfl rfl rfl) rfl rfl rfl ?_
 refine simL_nil ?_
 refine nrm_then ?_
 refine sim_condb rfl (fun h1v => ?_) (fun h2v => ?_)
 refine sim_seq ?_
 refine sim_region ?_
 refine simL_val (q_asg rfl rfl) rfl rfl rfl ?_
 refine simL_val (q_asg rfl rfl) rfl rfl rfl ?_
 refine simL_val (q_asg rfl rfl) rfl rfl rfl ?_
 refine simL_nil ?_
 refine nrm_then ?_
 refine sim_rtn ?_
 refine rtn_then ?_
 exact rtn_fn () rfl rfl rfl (.sel 0 rfl (.nil _))
 refine sim_skip ?_
 refine nrm_then ?_
 refine sim_seq ?_
 refine sim_region ?_
 refine simL_val (q_asg rfl rfl) rfl rfl rfl ?_
 refine simL_nil ?_
 refine nrm_then ?_
 refine sim_cut (S := Int) (Unit) (fun s y => [(0, .slice a0 x0.length c0), (1, .int .i64 x1), (7, .int .i64 s)]) (fun s y => [F]) ?_ ?_
 refine sim_block ?_
 refine sim_loop (S := Int) (Unit) (fun k s => synodref1_Int.l0 x0 x1 k s) (fun s y => [(0, .slice a0 x0.length c0), (1, .int .i64 x1), (7, .int .i64 s)]) (fun s y => [F]) (fun _ => by rw [synodref1_Int.l0]) ?_ k 0 () ⟨rfl, rfl, rfl, trivial⟩ (.sel 0 rfl (.nil _))
 intro k s5v y6v
 refine sim_eq (by rw [synodref1_Int.l0]) ?_
 refine sim_seq ?_
 refine sim_seq ?_
 refine sim_region ?_
 refine simL_val (q_move rfl rfl) rfl rfl rfl ?_
 refine simL_val (q_lss rfl rfl rfl) rfl rfl rfl ?_
 refine simL_val (q_move rfl rfl) rfl rfl rfl ?_
 refine simL_valc (b := decide (s5v < (9 : Int))) (fun hb23v => RQ.sub (E' := [(1, .int .i64 x1)]) ⟨rfl, trivial⟩ (q_move rfl rfl)) rfl rfl rfl rfl rfl ?_
 refine simL_valc (b := decide (s5v < (9 : Int))) (fun hb22v => RQ.sub (E' := [(7, .int .i64 s5v)]) ⟨rfl, trivial⟩ (q_move rfl rfl)) rfl rfl rfl rfl rfl ?_
 refine simL_valc (b := decide (s5v < (9 : Int))) (fun hb21v => RQ.sub (E' := [(21, .int .i64 x1), (22, .int .i64 s5v)]) ⟨lk_cv rfl hb21v, lk_cv rfl hb21v, trivial⟩ (q_add rfl rfl rfl)) rfl rfl rfl rfl rfl ?_
 refine simL_valc (b := decide (s5v < (9 : Int))) (fun hb20v => RQ.sub (E' := [(0, .slice a0 x0.length c0)]) ⟨rfl, trivial⟩ (q_move rfl rfl)) rfl rfl rfl rfl rfl ?_
 refine simL_valc (b := decide (s5v < (9 : Int))) (fun hb19v => RQ.sub (E' := [(24, .slice a0 x0.length c0)]) ⟨lk_cv rfl hb19v, trivial⟩ (q_len rfl rfl rfl Try.underlying27)) rfl rfl rfl rfl rfl ?_
 refine simL_valc (b := decide (s5v < (9 : Int))) (fun hb18v => RQ.sub (E' := [(23, .int .i64 (IntKind.i64.wrap (x1 + s5v))), (25, .int .i64 (x0.length : Int))]) ⟨lk_cv rfl hb18v, lk_cv rfl hb18v, trivial⟩ (q_lss rfl rfl rfl)) rfl rfl rfl rfl rfl ?_
 refine simL_val (q_and rfl rfl rfl) rfl rfl rfl ?_
 refine simL_val (q_move rfl rfl) rfl rfl rfl ?_
 refine simL_cut' 8 (S := Bool) (Unit) (fun s y => [(0, .slice a0 x0.length c0), (1, .int .i64 x1), (7, .int .i64 s5v), (36, .bool s)]) (fun s y => [F]) ?_ ?_
 refine simL_caseb (fun hb14v => ?_) (fun hb15v => ?_)
 rw [hb14v]
 refine simL_valg (q_move rfl rfl) rfl rfl rfl rfl rfl rfl ?_
 refine simL_valg (q_move rfl rfl) rfl rfl rfl rfl rfl rfl ?_
 refine simL_valg (q_move rfl rfl) rfl rfl rfl rfl rfl rfl ?_
 refine simL_valg (q_add rfl rfl rfl) rfl rfl rfl rfl rfl rfl ?_
 refine simL_ask (fun hi10v => ?_)
 obtain ⟨b11v, b11vo, ha12v⟩ := h0.pos (encB_ne (j := (IntKind.i64.wrap (x1 + s5v)).toNat) (by omega))
 refine simL_valg (q_idx1 rfl rfl rfl ha12v Try.underlying27 Try.sizeOf5 hi10v.1 hi10v.2) rfl rfl rfl rfl rfl rfl ?_
 refine simL_valg (q_load rfl rfl Try.isAgg5 (h0.cell 0 rfl ha12v (encB_get (by omega)))) rfl rfl rfl rfl rfl rfl ?_
 refine simL_valg (q_geq rfl rfl rfl) rfl rfl rfl rfl rfl rfl ?_
 refine simL_val (q_pick rfl rfl rfl rfl rfl) rfl rfl rfl ?_
 refine simL_nil ?_
 exact nrm_cut (s := decide ((128 : Int) ≤ ((x0.getD (IntKind.i64.wrap (x1 + s5v)).toNat 0).toNat : Int))) () ⟨rfl, rfl, rfl, rfl, trivial⟩ (.sel 0 rfl (.nil _))
 rw [hb15v]
 refine simL_skipd rfl rfl rfl rfl rfl rfl ?_
 refine simL_skipd rfl rfl rfl rfl rfl rfl ?_
 refine simL_skipd rfl rfl rfl rfl rfl rfl ?_
 refine simL_skipd rfl rfl rfl rfl rfl rfl ?_
 refine simL_skipd rfl rfl rfl rfl rfl rfl ?_
 refine simL_skipd rfl rfl rfl rfl rfl rfl ?_
 refine simL_skipd rfl rfl rfl rfl rfl rfl ?_
 refine simL_val (q_pick rfl rfl rfl rfl rfl) rfl rfl rfl ?_
 refine simL_nil ?_
 exact nrm_cut (s := false) () ⟨rfl, rfl, rfl, rfl, trivial⟩ (.sel 0 rfl (.nil _))
 intro s8v y9v
 refine simL_nil ?_
 refine nrm_then ?_
 refine sim_condb rfl (fun h16v => ?_) (fun h17v => ?_)
 refine sim_skip ?_
 refine nrm_then ?_
 refine sim_block ?_
 refine sim_region ?_
 refine simL_val (q_move rfl rfl) rfl rfl rfl ?_
 refine simL_val (q_add rfl rfl rfl) rfl rfl rfl ?_
 refine simL_val (q_asg rfl rfl) rfl rfl rfl ?_
 refine simL_nil ?_
 refine nrm_block ?_
 exact nrm_again (s := IntKind.i64.wrap (s5v + 1)) () ⟨rfl, rfl, rfl, trivial⟩ (.sel 0 rfl (.nil _))
 refine sim_exi ?_
 refine exi_then ?_
 refine exi_loop ?_
 refine exi_here ?_
 exact nrm_cut (s := s5v) () ⟨rfl, rfl, rfl, trivial⟩ (.sel 0 rfl (.nil _))
 intro s3v y4v
 refine sim_seq ?_
 refine sim_seq ?_
 refine sim_region ?_
 refine simL_val (q_move rfl rfl) rfl rfl rfl ?_
 refine simL_val (q_eql rfl rfl rfl) rfl rfl rfl ?_
 refine simL_nil ?_
 refine nrm_then ?_
 refine sim_cond rfl (fun h24v => ?_) (fun h25v => ?_)
 refine sim_seq ?_
 refine sim_region ?_
 refine simL_val (q_asg rfl rfl) rfl rfl rfl ?_
 refine simL_val (q_asg rfl rfl) rfl rfl rfl ?_
 refine simL_val (q_asg rfl rfl) rfl rfl rfl ?_
 refine simL_nil ?_
 refine nrm_then ?_
 refine sim_rtn ?_
 refine rtn_then ?_
 exact rtn_fn () rfl rfl rfl (.sel 0 rfl (.nil _))
 refine sim_skip ?_
 refine nrm_then ?_
 refine sim_seq ?_
 refine sim_seq ?_
 refine sim_region ?_
 refine simL_val (q_move rfl rfl) rfl rfl rfl ?_
 refine simL_val (q_move rfl rfl) rfl rfl rfl ?_
 refine simL_val (q_add rfl rfl rfl) rfl rfl rfl ?_
 refine simL_val (q_move rfl rfl) rfl rfl rfl ?_
 refine simL_val (q_len rfl rfl rfl Try.underlying27) rfl rfl rfl ?_
 refine simL_val (q_geq rfl rfl rfl) rfl rfl rfl ?_
 refine simL_nil ?_
 refine nrm_then ?_
 refine sim_cond rfl (fun h26v => ?_) (fun h27v => ?_)
 refine sim_seq ?_
 refine sim_region ?_
 refine simL_val (q_asg rfl rfl) rfl rfl rfl ?_
 refine simL_val (q_asg rfl rfl) rfl rfl rfl ?_
 refine simL_val (q_asg rfl rfl) rfl rfl rfl ?_
 refine simL_nil ?_
 refine nrm_then ?_
 refine sim_rtn ?_
 refine rtn_then ?_
 exact rtn_fn () rfl rfl rfl (.sel 0 rfl (.nil _))
 refine sim_skip ?_
 refine nrm_then ?_
 refine sim_seq ?_
 refine sim_seq ?_
 refine sim_region ?_
 refine simL_val (q_move rfl rfl) rfl rfl rfl ?_
 refine simL_val (q_gtr rfl rfl rfl) rfl rfl rfl ?_
 refine simL_val (q_move rfl rfl) rfl rfl rfl ?_
 refine simL_cut' 8 (S := Bool) (Unit) (fun s y => [(0, .slice a0 x0.length c0), (1, .int .i64 x1), (7, .int .i64 s3v), (57, .bool s)]) (fun s y => [F]) ?_ ?_
 refine simL_casep (fun hb34v => ?_) (fun hb35v => ?_)
 rw [hb34v]
 refine simL_valg (q_move rfl rfl) rfl rfl rfl rfl rfl rfl ?_
 refine simL_valg (q_move rfl rfl) rfl rfl rfl rfl rfl rfl ?_
 refine simL_valg (q_move rfl rfl) rfl rfl rfl rfl rfl rfl ?_
 refine simL_valg (q_add rfl rfl rfl) rfl rfl rfl rfl rfl rfl ?_
 refine simL_ask (fun hi30v => ?_)
 obtain ⟨b31v, b31vo, ha32v⟩ := h0.pos (encB_ne (j := (IntKind.i64.wrap (x1 + s3v)).toNat) (by omega))
 refine simL_valg (q_idx1 rfl rfl rfl ha32v Try.underlying27 Try.sizeOf5 hi30v.1 hi30v.2) rfl rfl rfl rfl rfl rfl ?_
 refine simL_valg (q_load rfl rfl Try.isAgg5 (h0.cell 0 rfl ha32v (encB_get (by omega)))) rfl rfl rfl rfl rfl rfl ?_
 refine simL_valg (q_eql rfl rfl rfl) rfl rfl rfl rfl rfl rfl ?_
 refine simL_val (q_pick rfl rfl rfl rfl rfl) rfl rfl rfl ?_
 refine simL_nil ?_
 exact nrm_cut (s := decide (((x0.getD (IntKind.i64.wrap (x1 + s3v)).toNat 0).toNat : Int) = (0 : Int))) () ⟨rfl, rfl, rfl, rfl, trivial⟩ (.sel 0 rfl (.nil _))
 rw [hb35v]
 refine simL_skipd rfl rfl rfl rfl rfl rfl ?_
 refine simL_skipd rfl rfl rfl rfl rfl rfl ?_
 refine simL_skipd rfl rfl rfl rfl rfl rfl ?_
 refine simL_skipd rfl rfl rfl rfl rfl rfl ?_
 refine simL_skipd rfl rfl rfl rfl rfl rfl ?_
 refine simL_skipd rfl rfl rfl rfl rfl rfl ?_
 refine simL_skipd rfl rfl rfl rfl rfl rfl ?_
 refine simL_val (q_pick rfl rfl rfl rfl rfl) rfl rfl rfl ?_
 refine simL_nil ?_
 exact nrm_cut (s := false) () ⟨rfl, rfl, rfl, rfl, trivial⟩ (.sel 0 rfl (.nil _))
 intro s28v y29v
 refine simL_nil ?_
 refine nrm_then ?_
 refine sim_condb rfl (fun h36v => ?_) (fun h37v => ?_)
 refine sim_seq ?_
 refine sim_region ?_
 refine simL_val (q_asg rfl rfl) rfl rfl rfl ?_
 refine simL_val (q_asg rfl rfl) rfl rfl rfl ?_
 refine simL_val (q_asg rfl rfl) rfl rfl rfl ?_
 refine simL_nil ?_
 refine nrm_then ?_
 refine sim_rtn ?_
 refine rtn_then ?_
 exact rtn_fn () rfl rfl rfl (.sel 0 rfl (.nil _))
 refine sim_skip ?_
 refine nrm_then ?_
 refine sim_seq ?_
 refine sim_region ?_
 refine simL_val (q_asg rfl rfl) rfl rfl rfl ?_
 refine simL_nil ?_
 refine nrm_then ?_
 refine sim_cut (S := Int) (Unit) (fun s y => [(7, .int .i64 s3v), (8, .int .i64 s)]) (fun s y => [F]) ?_ ?_
 refine sim_seq ?_
 refine sim_region ?_
 refine simL_val (q_move rfl rfl) rfl rfl rfl ?_
 refine simL_val (q_asg rfl rfl) rfl rfl rfl ?_
 refine simL_nil ?_
 refine nrm_then ?_
 refine sim_block ?_
 refine sim_loop (S := Int × Int) (Unit) (fun k s => synodref1_Int.l1 x0 x1 k s.1 s.2) (fun s y => [(0, .slice a0 x0.length c0), (1, .int .i64 x1), (7, .int .i64 s3v), (8, .int .i64 s.1), (9, .int .i64 s.2)]) (fun s y => [F]) (fun _ => by rw [synodref1_Int.l1]) ?_ k (0, s3v) () ⟨rfl, rfl, rfl, rfl, rfl, trivial⟩ (.sel 0 rfl (.nil _))
 intro k s40v y41v
 refine sim_eq (by rw [synodref1_Int.l1]) ?_
 refine sim_seq ?_
 refine sim_seq ?_
 refine sim_region ?_
 refine simL_val (q_move rfl rfl) rfl rfl rfl ?_
 refine simL_val (q_geq rfl rfl rfl) rfl rfl rfl ?_
 refine simL_nil ?_
 refine nrm_then ?_
 refine sim_cond rfl (fun h44v => ?_) (fun h45v => ?_)
 refine sim_skip ?_
 refine nrm_then ?_
 refine sim_seq ?_
 refine sim_block ?_
 refine sim_region ?_
 refine simL_val (q_move rfl rfl) rfl rfl rfl ?_
 refine simL_val (q_mul rfl rfl rfl) rfl rfl rfl ?_
 refine simL_val (q_move rfl rfl) rfl rfl rfl ?_
 refine simL_val (q_move rfl rfl) rfl rfl rfl ?_
 refine simL_val (q_move rfl rfl) rfl rfl rfl ?_
 refine simL_val (q_add rfl rfl rfl) rfl rfl rfl ?_
 refine simL_ask (fun hi46v => ?_)
 obtain ⟨b47v, b47vo, ha48v⟩ := h0.pos (encB_ne (j := (IntKind.i64.wrap (x1 + s40v.2)).toNat) (by omega))
 refine simL_val (q_idx1 rfl rfl rfl ha48v Try.underlying27 Try.sizeOf5 hi46v.1 hi46v.2) rfl rfl rfl ?_
 refine simL_val (q_load rfl rfl Try.isAgg5 (h0.cell 0 rfl ha48v (encB_get (by omega)))) rfl rfl rfl ?_
 refine simL_val (q_conv rfl rfl Try.underlying5 Try.underlying3) rfl rfl rfl ?_
 refine simL_val (q_rem rfl rfl rfl (by decide)) rfl rfl rfl ?_
 refine simL_val (q_add rfl rfl rfl) rfl rfl rfl ?_
 refine simL_val (q_asg rfl rfl) rfl rfl rfl ?_
 refine simL_nil ?_
 refine nrm_block ?_
 refine nrm_then ?_
 refine sim_region ?_
 refine simL_val (q_move rfl rfl) rfl rfl rfl ?_
 refine simL_val (q_sub rfl rfl rfl) rfl rfl rfl ?_
 refine simL_val (q_asg rfl rfl) rfl rfl rfl ?_
 refine simL_nil ?_
 exact nrm_again (s := (IntKind.i64.wrap ((IntKind.i64.wrap (s40v.1 * 128)) + (Int.tmod (IntKind.i64.wrap ((x0.getD (IntKind.i64.wrap (x1 + s40v.2)).toNat 0).toNat : Int)) 128)), IntKind.i64.wrap (s40v.2 - 1))) () ⟨rfl, rfl, rfl, rfl, rfl, trivial⟩ (.sel 0 rfl (.nil _))
 refine sim_exi ?_
 refine exi_then ?_
 refine exi_loop ?_
 refine exi_here ?_
 exact nrm_cut (s := s40v.1) () ⟨rfl, rfl, trivial⟩ (.sel 0 rfl (.nil _))
 intro s38v y39v
 refine sim_seq ?_
 refine sim_seq ?_
 refine sim_region ?_
 refine simL_val (q_move rfl rfl) rfl rfl rfl ?_
 refine simL_val (q_gtr rfl rfl rfl) rfl rfl rfl ?_
 refine simL_nil ?_
 refine nrm_then ?_
 refine sim_cond rfl (fun h51v => ?_) (fun h52v => ?_)
 refine sim_seq ?_
 refine sim_region ?_
 refine simL_val (q_asg rfl rfl) rfl rfl rfl ?_
 refine simL_val (q_asg rfl rfl) rfl rfl rfl ?_
 refine simL_val (q_asg rfl rfl) rfl rfl rfl ?_
 refine simL_nil ?_
 refine nrm_then ?_
 refine sim_rtn ?_
 refine rtn_then ?_
 exact rtn_fn () rfl rfl rfl (.sel 0 rfl (.nil _))
 refine sim_skip ?_
 refine nrm_then ?_
 refine sim_seq ?_
 refine sim_region ?_
 refine simL_val (q_move rfl rfl) rfl rfl rfl ?_
 refine simL_val (q_move rfl rfl) rfl rfl rfl ?_
 refine simL_val (q_add rfl rfl rfl) rfl rfl rfl ?_
 refine simL_val (q_asg rfl rfl) rfl rfl rfl ?_
 refine simL_val (q_asg rfl rfl) rfl rfl rfl ?_
 refine simL_val (q_asg rfl rfl) rfl rfl rfl ?_
 refine simL_nil ?_
 refine nrm_then ?_
 refine sim_rtn ?_
 exact rtn_fn () rfl rfl rfl (.sel 0 rfl (.nil _))

def synodref1_Reader_Int.f (k : Nat) (x0_0 : List UInt8) (x0_1 : Int) (x0_2 : Int) : Option (Int × Int × Int) := if x0_2 = (0 : Int) then ((synodref1_Int.f k x0_0 x0_1).bind fun s3v => (some (s3v.1, IntKind.i64.wrap (x0_1 + s3v.2.1), s3v.2.2))) else (some (0, x0_1, x0_2))
theorem synodref1_Reader_Int.calls (W : World) (F : HA) (k : Nat) (b0 : Nat) (a0_0 : Option Addr) (c0_0 : Nat) (x0_0 : List UInt8) (x0_1 : Int) (x0_2 : Int) (h0_0 : Rd F a0_0 (encB x0_0)) (hc0_0 : x0_0.length ≤ c0_0) (hm0_0 : c0_0 ≤ maxLen) :
    Fn Try.prog W 85 [.pointer (some ⟨b0, 0, none⟩)] [obj b0 152 [.slice a0_0 x0_0.length c0_0, .int .i64 x0_1, .int .i64 x0_2]] F (synodref1_Reader_Int.f k x0_0 x0_1 x0_2) (fun (r : Int × Int × Int) (y : Unit) => .int .i64 r.1) (fun r y => [obj b0 152 [.slice a0_0 x0_0.length c0_0, .int .i64 r.2.1, .int .i64 r.2.2]]) := by
 unfold synodref1_Reader_Int.f
 refine fn_intro 38 Try.func85 rfl Try.ntmps85 rfl ?_
 refine sim_seq ?_
 refine sim_region ?_
 refine simL_val (q_asg rfl rfl) rfl rfl rfl ?_
 refine simL_nil ?_
 refine nrm_then ?_
 refine sim_seq ?_
 refine sim_seq ?_
 refine sim_region ?_
 refine simL_val (q_move rfl rfl) rfl rfl rfl ?_
 refine simL_val (q_nil rfl rfl) rfl rfl rfl ?_
 refine simL_val (q_fa rfl rfl Try.underlying152 rfl rfl Try.sizeOf3 rfl) rfl rfl rfl ?_
 refine simL_val (q_load rfl rfl Try.isAgg3 (.obj 0 rfl rfl)) rfl rfl rfl ?_
 refine simL_val (q_neq rfl rfl rfl) rfl rfl rfl ?_
 refine simL_nil ?_
 refine nrm_then ?_
 refine sim_condn rfl (fun h1v => ?_) (fun h2v => ?_)
 refine sim_skip ?_
 refine nrm_then ?_
 refine sim_seq ?_
 refine sim_bind (fun s3v hs5v => ?_)
 refine sim_draw (Γ := Unit) () [[], [0], [0, 1], [0, 1, 2], [], [4], [4, 5], [4, 5, 6], [0, 1, 2, 3, 4, 5, 6, 7], [0, 1, 2, 3, 4, 5, 6, 7, 8], [0, 1, 2, 3, 4, 5, 6, 7, 8, 9], [0, 1, 2, 3, 4, 5, 6, 7, 8, 9], [0, 1, 2, 3, 4, 5, 6, 7, 8, 9], [0, 1, 2, 3, 4, 5, 6, 7, 8, 9, 10], [0, 1, 2, 3, 4, 5, 6, 7, 8, 9, 10, 11, 13], [0, 1, 2, 3, 4, 5, 6, 7, 8, 9, 10, 11, 12, 13, 14]] [8] [0, 1, 2, 3, 4, 5, 6, 7, 9, 10, 11, 12, 13, 14, 15] (fun i => [[0], [0], [0], [0], [0], [0], [0], [0], [], [1], [1], [1], [1], [1], [1], [1]].getD i []) (fun i => [[], [], [], [], [], [], [], [], [0, 1, 2, 3, 4, 5, 6, 7], [], [], [], [], [], [], []].getD i []) (fun γ i => [.pointer (some ⟨b0, 0, none⟩), .pointer (some ⟨b0, 0, none⟩), .pointer (some ⟨b0, 0, none⟩), .slice a0_0 x0_0.length c0_0, .pointer (some ⟨b0, 0, none⟩), .pointer (some ⟨b0, 0, none⟩), .pointer (some ⟨b0, 1, none⟩), .int .i64 x0_1, .tuple #[.int .i64 s3v.1, .int .i64 s3v.2.1, .int .i64 s3v.2.2], .tuple #[.int .i64 s3v.1, .int .i64 s3v.2.1, .int .i64 s3v.2.2], .int .i64 s3v.1, .int .i64 s3v.2.1, .int .i64 s3v.2.2, .int .i64 s3v.1, .int .i64 s3v.2.1, .int .i64 s3v.2.2].getD i undef) (fun j γ => [[obj b0 152 [.slice a0_0 x0_0.length c0_0, .int .i64 x0_1, .int .i64 x0_2], F], [obj b0 152 [.slice a0_0 x0_0.length c0_0, .int .i64 x0_1, .int .i64 x0_2], F]].getD j []) (fun γ => [(0, .pointer (some ⟨b0, 0, none⟩)), (3, .int .i64 s3v.1), (4, .int .i64 s3v.2.1), (5, .int .i64 s3v.2.2)]) mixed (by decide) (by decide) (by decide) (by decide) (by decide) (by decide) (by decide) 38 rfl (by decide) (by decide) (by decide) (Ent.refl _) ?_ ?_ (fun _ => ⟨rfl, rfl, rfl, rfl, trivial⟩) ?_
 exact (All.cons (fun γ => (All.cons (QOb.plain [(0, .pointer (some ⟨b0, 0, none⟩))] rfl rfl (.o rfl (by decide) .nil) (q_move rfl rfl) rfl) All.nil)) (All.cons (fun γ => (All.cons (QOb.plain [(12, .pointer (some ⟨b0, 0, none⟩))] rfl rfl (.w 0 rfl rfl rfl .nil) (q_nil rfl rfl) rfl) All.nil)) (All.cons (fun γ => (All.cons (QOb.plain [(13, .pointer (some ⟨b0, 0, none⟩))] rfl rfl (.w 1 rfl rfl rfl .nil) (q_fa rfl rfl Try.underlying152 rfl rfl Try.sizeOf27 rfl) rfl) All.nil)) (All.cons (fun γ => (All.cons (QOb.plain [(14, .pointer (some ⟨b0, 0, none⟩))] rfl rfl (.w 2 rfl rfl rfl .nil) (q_load rfl rfl Try.isAgg27 (.obj 0 rfl rfl)) rfl) All.nil)) (All.cons (fun γ => (All.cons (QOb.plain [(0, .pointer (some ⟨b0, 0, none⟩))] rfl rfl (.o rfl (by decide) .nil) (q_move rfl rfl) rfl) All.nil)) (All.cons (fun γ => (All.cons (QOb.plain [(16, .pointer (some ⟨b0, 0, none⟩))] rfl rfl (.w 4 rfl rfl rfl .nil) (q_nil rfl rfl) rfl) All.nil)) (All.cons (fun γ => (All.cons (QOb.plain [(17, .pointer (some ⟨b0, 0, none⟩))] rfl rfl (.w 5 rfl rfl rfl .nil) (q_fa rfl rfl Try.underlying152 rfl rfl Try.sizeOf3 rfl) rfl) All.nil)) (All.cons (fun γ => (All.cons (QOb.plain [(18, .pointer (some ⟨b0, 1, none⟩))] rfl rfl (.w 6 rfl rfl rfl .nil) (q_load rfl rfl Try.isAgg3 (.obj 0 rfl rfl)) rfl) All.nil)) (All.cons (fun γ => (All.cons (QOb.plain [(20, .tuple #[.int .i64 s3v.1, .int .i64 s3v.2.1, .int .i64 s3v.2.2])] rfl rfl (.w 8 rfl rfl rfl .nil) (q_move rfl rfl) rfl) All.nil)) (All.cons (fun γ => (All.cons (QOb.plain [(11, .tuple #[.int .i64 s3v.1, .int .i64 s3v.2.1, .int .i64 s3v.2.2])] rfl rfl (.w 9 rfl rfl rfl .nil) (q_ext rfl rfl rfl) rfl) All.nil)) (All.cons (fun γ => (All.cons (QOb.plain [(11, .tuple #[.int .i64 s3v.1, .int .i64 s3v.2.1, .int .i64 s3v.2.2])] rfl rfl (.w 9 rfl rfl rfl .nil) (q_ext rfl rfl rfl) rfl) All.nil)) (All.cons (fun γ => (All.cons (QOb.plain [(11, .tuple #[.int .i64 s3v.1, .int .i64 s3v.2.1, .int .i64 s3v.2.2])] rfl rfl (.w 9 rfl rfl rfl .nil) (q_ext rfl rfl rfl) rfl) All.nil)) (All.cons (fun γ => (All.cons (QOb.plain [(21, .int .i64 s3v.1)] rfl rfl (.w 10 rfl rfl rfl .nil) (q_asg rfl rfl) rfl) All.nil)) (All.cons (fun γ => (All.cons (QOb.plain [(22, .int .i64 s3v.2.1)] rfl rfl (.w 11 rfl rfl rfl .nil) (q_asg rfl rfl) rfl) All.nil)) (All.cons (fun γ => (All.cons (QOb.plain [(23, .int .i64 s3v.2.2)] rfl rfl (.w 12 rfl rfl rfl .nil) (q_asg rfl rfl) rfl) All.nil)) All.nil)))))))))))))))
 exact (All.cons (fun γ => EOb.mk (Z := Unit) [(15, .slice a0_0 x0_0.length c0_0), (19, .int .i64 x0_1)] (fun z => ()) rfl rfl (.w 3 rfl rfl rfl (.w 7 rfl rfl rfl .nil)) (re_call (vs := [.slice a0_0 x0_0.length c0_0, .int .i64 x0_1]) (cap := []) (A := []) (rst := [obj b0 152 [.slice a0_0 x0_0.length c0_0, .int .i64 x0_1, .int .i64 x0_2], F]) rfl rfl rfl rfl rfl rfl Try.call130 (.sel 0 rfl (.sel 0 rfl (.nil _))) (synodref1_Int.calls _ _ k a0_0 c0_0 x0_0 x0_1 (h0_0.lend 1 rfl) hc0_0 hm0_0) hs5v) (fun _ => ⟨rfl, rfl, rfl, rfl, rfl, rfl, rfl, rfl, trivial⟩) (fun _ => .inr rfl) (fun z => Ent.refl _)) All.nil)
 intro g6v
 refine nrm_then ?_
 refine sim_seq ?_
 refine sim_region ?_
 refine simL_val (q_move rfl rfl) rfl rfl rfl ?_
 refine simL_val (q_move rfl rfl) rfl rfl rfl ?_
 refine simL_val (q_nil rfl rfl) rfl rfl rfl ?_
 refine simL_val (q_fa rfl rfl Try.underlying152 rfl rfl Try.sizeOf3 rfl) rfl rfl rfl ?_
 refine simL_do (re_store 0 rfl rfl rfl Try.sizeOf3 rfl rfl (one_of (by rfl)) rfl rfl) rfl rfl ?_
 intro _
 refine simL_nil ?_
 refine nrm_then ?_
 refine sim_seq ?_
 refine sim_region ?_
 refine simL_val (q_move rfl rfl) rfl rfl rfl ?_
 refine simL_val (q_move rfl rfl) rfl rfl rfl ?_
 refine simL_val (q_nil rfl rfl) rfl rfl rfl ?_
 refine simL_val (q_fa rfl rfl Try.underlying152 rfl rfl Try.sizeOf3 rfl) rfl rfl rfl ?_
 refine simL_val (q_load rfl rfl Try.isAgg3 (.obj 0 rfl rfl)) rfl rfl rfl ?_
 refine simL_val (q_move rfl rfl) rfl rfl rfl ?_
 refine simL_val (q_add rfl rfl rfl) rfl rfl rfl ?_
 refine simL_val (q_nil rfl rfl) rfl rfl rfl ?_
 refine simL_val (q_fa rfl rfl Try.underlying152 rfl rfl Try.sizeOf3 rfl) rfl rfl rfl ?_
 refine simL_do (re_store 0 rfl rfl rfl Try.sizeOf3 rfl rfl (one_of (by rfl)) rfl rfl) rfl rfl ?_
 intro _
 refine simL_nil ?_
 refine nrm_then ?_
 refine sim_seq ?_
 refine sim_region ?_
 refine simL_val (q_move rfl rfl) rfl rfl rfl ?_
 refine simL_val (q_asg rfl rfl) rfl rfl rfl ?_
 refine simL_nil ?_
 refine nrm_then ?_
 refine sim_rtn ?_
 exact rtn_fn () rfl rfl rfl (.sel 0 rfl (.sel 0 rfl (.nil _)))
 refine sim_seq ?_
 refine sim_region ?_
 refine simL_val (q_asg rfl rfl) rfl rfl rfl ?_
 refine simL_nil ?_
 refine nrm_then ?_
 refine sim_rtn ?_
 refine rtn_then ?_
 exact rtn_fn () rfl rfl rfl (.sel 0 rfl (.sel 0 rfl (.nil _)))

def synodref1_Reader_Bytes.f (k : Nat) (x0_0 : List UInt8) (x0_1 : Int) (x0_2 : Int) (x1 : Int) : Option (List UInt8 × Int × Int) := (synodref1_Reader_Int.f k x0_0 x0_1 x0_2).bind fun s1v => (if s1v.2.2 = (0 : Int) then ((if max x1 (0 : Int) < s1v.1 then (some 3) else (if IntKind.i64.wrap ((x0_0.length : Int) - s1v.2.1) < s1v.1 then (some 2) else (some s1v.2.2))).bind fun s6v => (if s6v = (0 : Int) then (if 0 ≤ IntKind.i64.wrap ((IntKind.i64.wrap (s1v.2.1 + s1v.1)) - s1v.1) ∧ IntKind.i64.wrap ((IntKind.i64.wrap (s1v.2.1 + s1v.1)) - s1v.1) ≤ IntKind.i64.wrap (s1v.2.1 + s1v.1) ∧ IntKind.i64.wrap (s1v.2.1 + s1v.1) ≤ (x0_0.length : Int) then ((synodref_Bytes.f (cut x0_0 (IntKind.i64.wrap ((IntKind.i64.wrap (s1v.2.1 + s1v.1)) - s1v.1)) (IntKind.i64.wrap (s1v.2.1 + s1v.1)))).bind fun s22v => (some (s22v, IntKind.i64.wrap (s1v.2.1 + s1v.1), s6v))) else none) else (some (([] : List UInt8), x0_1, s6v)))) else (some (([] : List UInt8), s1v.2.1, s1v.2.2)))
theorem synodref1_Reader_Bytes.calls (W : World) (F : HA) (k : Nat) (b0 : Nat) (a0_0 : Option Addr) (c0_0 : Nat) (x0_0 : List UInt8) (x0_1 : Int) (x0_2 : Int) (x1 : Int) (h0_0 : Rd F a0_0 (encB x0_0)) (hc0_0 : x0_0.length ≤ c0_0) (hm0_0 : c0_0 ≤ maxLen) :
    Fn Try.prog W 92 [.pointer (some ⟨b0, 0, none⟩), .int .i64 x1] [obj b0 152 [.slice a0_0 x0_0.length c0_0, .int .i64 x0_1, .int .i64 x0_2]] F (synodref1_Reader_Bytes.f k x0_0 x0_1 x0_2 x1) (fun (r : List UInt8 × Int × Int) (y : Option Addr × Nat) => .slice y.1 r.1.length y.2) (fun r y => [Row 5 1 y.1 r.1.length y.2 (encB r.1), obj b0 152 [.slice a0_0 x0_0.length c0_0, .int .i64 r.2.1, .int .i64 r.2.2]]) := by
 unfold synodref1_Reader_Bytes.f
 refine fn_intro 74 Try.func92 rfl Try.ntmps92 rfl ?_
 refine sim_seq ?_
 refine sim_region ?_
 refine simL_val (q_asg rfl rfl) rfl rfl rfl ?_
 refine simL_nil ?_
 refine nrm_then ?_
 refine sim_seq ?_
 refine sim_region ?_
 refine simL_val (q_move rfl rfl) rfl rfl rfl ?_
 refine simL_val (q_nil rfl rfl) rfl rfl rfl ?_
 refine simL_val (q_fa rfl rfl Try.underlying152 rfl rfl Try.sizeOf3 rfl) rfl rfl rfl ?_
 refine simL_val (q_load rfl rfl Try.isAgg3 (.obj 0 rfl rfl)) rfl rfl rfl ?_
 refine simL_val (q_asg rfl rfl) rfl rfl rfl ?_
 refine simL_nil ?_
 refine nrm_then ?_
 refine sim_seq ?_
 refine sim_region ?_
 refine simL_val (q_move rfl rfl) rfl rfl rfl ?_
 refine simL_bind (fun s1v hs3v => ?_)
 refine simL_eff (re_call (vs := [.pointer (some ⟨b0, 0, none⟩)]) (cap := []) (A := [obj b0 152 [.slice a0_0 x0_0.length c0_0, .int .i64 x0_1, .int .i64 x0_2]]) (rst := [F]) rfl rfl rfl rfl rfl rfl Try.call85 (.sel 0 rfl (.sel 0 rfl (.nil _))) (synodref1_Reader_Int.calls _ _ k b0 a0_0 c0_0 x0_0 x0_1 x0_2 (h0_0.lend 0 rfl) hc0_0 hm0_0) hs3v) rfl rfl rfl ?_
 intro y2v
 refine simL_val (q_asg rfl rfl) rfl rfl rfl ?_
 refine simL_nil ?_
 refine nrm_then ?_
 refine sim_seq ?_
 refine sim_seq ?_
 refine sim_region ?_
 refine simL_val (q_move rfl rfl) rfl rfl rfl ?_
 refine simL_val (q_nil rfl rfl) rfl rfl rfl ?_
 refine simL_val (q_fa rfl rfl Try.underlying152 rfl rfl Try.sizeOf3 rfl) rfl rfl rfl ?_
 refine simL_val (q_load rfl rfl Try.isAgg3 (.obj 0 rfl rfl)) rfl rfl rfl ?_
 refine simL_val (q_neq rfl rfl rfl) rfl rfl rfl ?_
 refine simL_nil ?_
 refine nrm_then ?_
 refine sim_condn rfl (fun h4v => ?_) (fun h5v => ?_)
 refine sim_skip ?_
 refine nrm_then ?_
 refine sim_cut (S := Int) (Unit) (fun s y => [(0, .pointer (some ⟨b0, 0, none⟩)), (5, .int .i64 x0_1), (6, .int .i64 s1v.1)]) (fun s y => [obj b0 152 [.slice a0_0 x0_0.length c0_0, .int .i64 s1v.2.1, .int .i64 s], F]) ?_ ?_
 refine sim_seq ?_
 refine sim_region ?_
 refine simL_val (q_move rfl rfl) rfl rfl rfl ?_
 refine simL_val (q_move rfl rfl) rfl rfl rfl ?_
 refine simL_val (q_max rfl rfl rfl) rfl rfl rfl ?_
 refine simL_val (q_gtr rfl rfl rfl) rfl rfl rfl ?_
 refine simL_nil ?_
 refine nrm_then ?_
 refine sim_cond rfl (fun h8v => ?_) (fun h9v => ?_)
 refine sim_region ?_
 refine simL_val (q_move rfl rfl) rfl rfl rfl ?_
 refine simL_val (q_nil rfl rfl) rfl rfl rfl ?_
 refine simL_val (q_fa rfl rfl Try.underlying152 rfl rfl Try.sizeOf3 rfl) rfl rfl rfl ?_
 refine simL_do (re_store 0 rfl rfl rfl Try.sizeOf3 rfl rfl (one_of (by rfl)) rfl rfl) rfl rfl ?_
 intro _
 refine simL_nil ?_
 exact nrm_cut (s := 3) () ⟨rfl, rfl, rfl, trivial⟩ (.sel 0 rfl (.sel 0 rfl (.nil _)))
 refine sim_seq ?_
 refine sim_draw (Γ := Unit) () [[], [], [1], [1, 2], [1, 2, 3], [1, 2, 3, 4], [], [6], [6, 7], [6, 7, 8], [1, 2, 3, 4, 5, 6, 7, 8, 9], [0, 1, 2, 3, 4, 5, 6, 7, 8, 9, 10]] [] [0, 1, 2, 3, 4, 5, 6, 7, 8, 9, 10, 11] (fun i => [[0], [0], [0], [0], [0], [0], [0], [0], [0], [0], [0], [0]].getD i []) (fun i => [[], [], [], [], [], [], [], [], [], [], [], []].getD i []) (fun γ i => [.int .i64 s1v.1, .pointer (some ⟨b0, 0, none⟩), .pointer (some ⟨b0, 0, none⟩), .pointer (some ⟨b0, 0, none⟩), .slice a0_0 x0_0.length c0_0, .int .i64 (x0_0.length : Int), .pointer (some ⟨b0, 0, none⟩), .pointer (some ⟨b0, 0, none⟩), .pointer (some ⟨b0, 1, none⟩), .int .i64 s1v.2.1, .int .i64 (IntKind.i64.wrap ((x0_0.length : Int) - s1v.2.1)), .bool (decide (IntKind.i64.wrap ((x0_0.length : Int) - s1v.2.1) < s1v.1))].getD i undef) (fun j γ => [[obj b0 152 [.slice a0_0 x0_0.length c0_0, .int .i64 s1v.2.1, .int .i64 s1v.2.2], F]].getD j []) (fun γ => [(0, .pointer (some ⟨b0, 0, none⟩)), (5, .int .i64 x0_1), (6, .int .i64 s1v.1), (36, .bool (decide (IntKind.i64.wrap ((x0_0.length : Int) - s1v.2.1) < s1v.1)))]) mixed (by decide) (by decide) (by decide) (by decide) (by decide) (by decide) (by decide) 74 rfl (by decide) (by decide) (by decide) (Ent.refl _) ?_ ?_ (fun _ => ⟨rfl, rfl, rfl, rfl, trivial⟩) ?_
 exact (All.cons (fun γ => (All.cons (QOb.plain [(6, .int .i64 s1v.1)] rfl rfl (.o rfl (by decide) .nil) (q_move rfl rfl) rfl) All.nil)) (All.cons (fun γ => (All.cons (QOb.plain [(0, .pointer (some ⟨b0, 0, none⟩))] rfl rfl (.o rfl (by decide) .nil) (q_move rfl rfl) rfl) All.nil)) (All.cons (fun γ => (All.cons (QOb.plain [(26, .pointer (some ⟨b0, 0, none⟩))] rfl rfl (.w 1 rfl rfl rfl .nil) (q_nil rfl rfl) rfl) All.nil)) (All.cons (fun γ => (All.cons (QOb.plain [(27, .pointer (some ⟨b0, 0, none⟩))] rfl rfl (.w 2 rfl rfl rfl .nil) (q_fa rfl rfl Try.underlying152 rfl rfl Try.sizeOf27 rfl) rfl) All.nil)) (All.cons (fun γ => (All.cons (QOb.plain [(28, .pointer (some ⟨b0, 0, none⟩))] rfl rfl (.w 3 rfl rfl rfl .nil) (q_load rfl rfl Try.isAgg27 (.obj 0 rfl rfl)) rfl) All.nil)) (All.cons (fun γ => (All.cons (QOb.plain [(29, .slice a0_0 x0_0.length c0_0)] rfl rfl (.w 4 rfl rfl rfl .nil) (q_len rfl rfl rfl Try.underlying27) rfl) All.nil)) (All.cons (fun γ => (All.cons (QOb.plain [(0, .pointer (some ⟨b0, 0, none⟩))] rfl rfl (.o rfl (by decide) .nil) (q_move rfl rfl) rfl) All.nil)) (All.cons (fun γ => (All.cons (QOb.plain [(31, .pointer (some ⟨b0, 0, none⟩))] rfl rfl (.w 6 rfl rfl rfl .nil) (q_nil rfl rfl) rfl) All.nil)) (All.cons (fun γ => (All.cons (QOb.plain [(32, .pointer (some ⟨b0, 0, none⟩))] rfl rfl (.w 7 rfl rfl rfl .nil) (q_fa rfl rfl Try.underlying152 rfl rfl Try.sizeOf3 rfl) rfl) All.nil)) (All.cons (fun γ => (All.cons (QOb.plain [(33, .pointer (some ⟨b0, 1, none⟩))] rfl rfl (.w 8 rfl rfl rfl .nil) (q_load rfl rfl Try.isAgg3 (.obj 0 rfl rfl)) rfl) All.nil)) (All.cons (fun γ => (All.cons (QOb.plain [(30, .int .i64 (x0_0.length : Int)), (34, .int .i64 s1v.2.1)] rfl rfl (.w 5 rfl rfl rfl (.w 9 rfl rfl rfl .nil)) (q_sub rfl rfl rfl) rfl) All.nil)) (All.cons (fun γ => (All.cons (QOb.plain [(25, .int .i64 s1v.1), (35, .int .i64 (IntKind.i64.wrap ((x0_0.length : Int) - s1v.2.1)))] rfl rfl (.w 0 rfl rfl rfl (.w 10 rfl rfl rfl .nil)) (q_gtr rfl rfl rfl) rfl) All.nil)) All.nil))))))))))))
 exact All.nil
 intro g10v
 refine nrm_then ?_
 refine sim_cond rfl (fun h11v => ?_) (fun h12v => ?_)
 refine sim_region ?_
 refine simL_val (q_move rfl rfl) rfl rfl rfl ?_
 refine simL_val (q_nil rfl rfl) rfl rfl rfl ?_
 refine simL_val (q_fa rfl rfl Try.underlying152 rfl rfl Try.sizeOf3 rfl) rfl rfl rfl ?_
 refine simL_do (re_store 0 rfl rfl rfl Try.sizeOf3 rfl rfl (one_of (by rfl)) rfl rfl) rfl rfl ?_
 intro _
 refine simL_nil ?_
 exact nrm_cut (s := 2) () ⟨rfl, rfl, rfl, trivial⟩ (.sel 0 rfl (.sel 0 rfl (.nil _)))
 refine sim_skip ?_
 exact nrm_cut (s := s1v.2.2) () ⟨rfl, rfl, rfl, trivial⟩ (.sel 0 rfl (.sel 0 rfl (.nil _)))
 intro s6v y7v
 refine sim_seq ?_
 refine sim_seq ?_
 refine sim_region ?_
 refine simL_val (q_move rfl rfl) rfl rfl rfl ?_
 refine simL_val (q_nil rfl rfl) rfl rfl rfl ?_
 refine simL_val (q_fa rfl rfl Try.underlying152 rfl rfl Try.sizeOf3 rfl) rfl rfl rfl ?_
 refine simL_val (q_load rfl rfl Try.isAgg3 (.obj 0 rfl rfl)) rfl rfl rfl ?_
 refine simL_val (q_neq rfl rfl rfl) rfl rfl rfl ?_
 refine simL_nil ?_
 refine nrm_then ?_
 refine sim_condn rfl (fun h13v => ?_) (fun h14v => ?_)
 refine sim_skip ?_
 refine nrm_then ?_
 refine sim_seq ?_
 refine sim_region ?_
 refine simL_val (q_move rfl rfl) rfl rfl rfl ?_
 refine simL_val (q_move rfl rfl) rfl rfl rfl ?_
 refine simL_val (q_nil rfl rfl) rfl rfl rfl ?_
 refine simL_val (q_fa rfl rfl Try.underlying152 rfl rfl Try.sizeOf3 rfl) rfl rfl rfl ?_
 refine simL_val (q_load rfl rfl Try.isAgg3 (.obj 0 rfl rfl)) rfl rfl rfl ?_
 refine simL_val (q_move rfl rfl) rfl rfl rfl ?_
 refine simL_val (q_add rfl rfl rfl) rfl rfl rfl ?_
 refine simL_val (q_nil rfl rfl) rfl rfl rfl ?_
 refine simL_val (q_fa rfl rfl Try.underlying152 rfl rfl Try.sizeOf3 rfl) rfl rfl rfl ?_
 refine simL_do (re_store 0 rfl rfl rfl Try.sizeOf3 rfl rfl (one_of (by rfl)) rfl rfl) rfl rfl ?_
 intro _
 refine simL_nil ?_
 refine nrm_then ?_
 refine sim_seq ?_
 refine sim_ask (fun hb15v => ?_)
 obtain ⟨a16v, c17v, hS18v, hr19v, hc20v, hm21v⟩ := slice_pre (lo := IntKind.i64.wrap ((IntKind.i64.wrap (s1v.2.1 + s1v.1)) - s1v.1)) (hi := IntKind.i64.wrap (s1v.2.1 + s1v.1)) h0_0 hc0_0 hb15v
 refine sim_bind (fun s22v hs24v => ?_)
 refine sim_draw (Γ := (Option Addr × Nat)) (none, 0) [[], [0], [0, 1], [0, 1, 2], [], [4], [4, 5], [4, 5, 6], [], [4, 5, 6, 7, 8], [], [10], [10, 11], [10, 11, 12], [0, 1, 2, 3, 4, 5, 6, 7, 8, 9, 10, 11, 12, 13], [0, 1, 2, 3, 4, 5, 6, 7, 8, 9, 10, 11, 12, 13, 14], [0, 1, 2, 3, 4, 5, 6, 7, 8, 9, 10, 11, 12, 13, 14, 15]] [15] [0, 1, 2, 3, 4, 5, 6, 7, 8, 9, 10, 11, 12, 13, 14, 16] (fun i => [[0], [0], [0], [0], [0], [0], [0], [0], [0], [0], [0], [0], [0], [0], [0], [], [1]].getD i []) (fun i => [[], [], [], [], [], [], [], [], [], [], [], [], [], [], [], [0, 1, 2, 3, 4, 5, 6, 7, 8, 9, 10, 11, 12, 13, 14], []].getD i []) (fun γ i => [.pointer (some ⟨b0, 0, none⟩), .pointer (some ⟨b0, 0, none⟩), .pointer (some ⟨b0, 0, none⟩), .slice a0_0 x0_0.length c0_0, .pointer (some ⟨b0, 0, none⟩), .pointer (some ⟨b0, 0, none⟩), .pointer (some ⟨b0, 1, none⟩), .int .i64 (IntKind.i64.wrap (s1v.2.1 + s1v.1)), .int .i64 s1v.1, .int .i64 (IntKind.i64.wrap ((IntKind.i64.wrap (s1v.2.1 + s1v.1)) - s1v.1)), .pointer (some ⟨b0, 0, none⟩), .pointer (some ⟨b0, 0, none⟩), .pointer (some ⟨b0, 1, none⟩), .int .i64 (IntKind.i64.wrap (s1v.2.1 + s1v.1)), .slice a16v ((cut x0_0 (IntKind.i64.wrap ((IntKind.i64.wrap (s1v.2.1 + s1v.1)) - s1v.1)) (IntKind.i64.wrap (s1v.2.1 + s1v.1))).length) c17v, .slice γ.1 s22v.length γ.2, .slice γ.1 s22v.length γ.2].getD i undef) (fun j γ => [[obj b0 152 [.slice a0_0 x0_0.length c0_0, .int .i64 (IntKind.i64.wrap (s1v.2.1 + s1v.1)), .int .i64 s6v], F], [Row 5 1 γ.1 s22v.length γ.2 (encB s22v), obj b0 152 [.slice a0_0 x0_0.length c0_0, .int .i64 (IntKind.i64.wrap (s1v.2.1 + s1v.1)), .int .i64 s6v], F]].getD j []) (fun γ => [(4, .slice γ.1 s22v.length γ.2)]) mixed (by decide) (by decide) (by decide) (by decide) (by decide) (by decide) (by decide) 74 rfl (by decide) (by decide) (by decide) (Ent.refl _) ?_ ?_ (fun _ => ⟨rfl, trivial⟩) ?_
 exact (All.cons (fun γ => (All.cons (QOb.plain [(0, .pointer (some ⟨b0, 0, none⟩))] rfl rfl (.o rfl (by decide) .nil) (q_move rfl rfl) rfl) All.nil)) (All.cons (fun γ => (All.cons (QOb.plain [(58, .pointer (some ⟨b0, 0, none⟩))] rfl rfl (.w 0 rfl rfl rfl .nil) (q_nil rfl rfl) rfl) All.nil)) (All.cons (fun γ => (All.cons (QOb.plain [(59, .pointer (some ⟨b0, 0, none⟩))] rfl rfl (.w 1 rfl rfl rfl .nil) (q_fa rfl rfl Try.underlying152 rfl rfl Try.sizeOf27 rfl) rfl) All.nil)) (All.cons (fun γ => (All.cons (QOb.plain [(60, .pointer (some ⟨b0, 0, none⟩))] rfl rfl (.w 2 rfl rfl rfl .nil) (q_load rfl rfl Try.isAgg27 (.obj 0 rfl rfl)) rfl) All.nil)) (All.cons (fun γ => (All.cons (QOb.plain [(0, .pointer (some ⟨b0, 0, none⟩))] rfl rfl (.o rfl (by decide) .nil) (q_move rfl rfl) rfl) All.nil)) (All.cons (fun γ => (All.cons (QOb.plain [(62, .pointer (some ⟨b0, 0, none⟩))] rfl rfl (.w 4 rfl rfl rfl .nil) (q_nil rfl rfl) rfl) All.nil)) (All.cons (fun γ => (All.cons (QOb.plain [(63, .pointer (some ⟨b0, 0, none⟩))] rfl rfl (.w 5 rfl rfl rfl .nil) (q_fa rfl rfl Try.underlying152 rfl rfl Try.sizeOf3 rfl) rfl) All.nil)) (All.cons (fun γ => (All.cons (QOb.plain [(64, .pointer (some ⟨b0, 1, none⟩))] rfl rfl (.w 6 rfl rfl rfl .nil) (q_load rfl rfl Try.isAgg3 (.obj 0 rfl rfl)) rfl) All.nil)) (All.cons (fun γ => (All.cons (QOb.plain [(6, .int .i64 s1v.1)] rfl rfl (.o rfl (by decide) .nil) (q_move rfl rfl) rfl) All.nil)) (All.cons (fun γ => (All.cons (QOb.plain [(65, .int .i64 (IntKind.i64.wrap (s1v.2.1 + s1v.1))), (66, .int .i64 s1v.1)] rfl rfl (.w 7 rfl rfl rfl (.w 8 rfl rfl rfl .nil)) (q_sub rfl rfl rfl) rfl) All.nil)) (All.cons (fun γ => (All.cons (QOb.plain [(0, .pointer (some ⟨b0, 0, none⟩))] rfl rfl (.o rfl (by decide) .nil) (q_move rfl rfl) rfl) All.nil)) (All.cons (fun γ => (All.cons (QOb.plain [(68, .pointer (some ⟨b0, 0, none⟩))] rfl rfl (.w 10 rfl rfl rfl .nil) (q_nil rfl rfl) rfl) All.nil)) (All.cons (fun γ => (All.cons (QOb.plain [(69, .pointer (some ⟨b0, 0, none⟩))] rfl rfl (.w 11 rfl rfl rfl .nil) (q_fa rfl rfl Try.underlying152 rfl rfl Try.sizeOf3 rfl) rfl) All.nil)) (All.cons (fun γ => (All.cons (QOb.plain [(70, .pointer (some ⟨b0, 1, none⟩))] rfl rfl (.w 12 rfl rfl rfl .nil) (q_load rfl rfl Try.isAgg3 (.obj 0 rfl rfl)) rfl) All.nil)) (All.cons (fun γ => (All.cons (QOb.plain [(61, .slice a0_0 x0_0.length c0_0), (67, .int .i64 (IntKind.i64.wrap ((IntKind.i64.wrap (s1v.2.1 + s1v.1)) - s1v.1))), (71, .int .i64 (IntKind.i64.wrap (s1v.2.1 + s1v.1)))] rfl rfl (.w 3 rfl rfl rfl (.w 9 rfl rfl rfl (.w 13 rfl rfl rfl .nil))) (q_sub_ro (l := x0_0) (lo' := IntKind.i64.wrap ((IntKind.i64.wrap (s1v.2.1 + s1v.1)) - s1v.1)) (hi' := IntKind.i64.wrap (s1v.2.1 + s1v.1)) rfl rfl rfl rfl Try.underlying27 Try.sizeOf5 (.inr ⟨_, rfl⟩) (.inr ⟨_, rfl⟩) hb15v hc0_0 hS18v) rfl) All.nil)) (All.cons (fun γ => (All.cons (QOb.plain [(73, .slice γ.1 s22v.length γ.2)] rfl rfl (.w 15 rfl rfl rfl .nil) (q_asg rfl rfl) rfl) All.nil)) All.nil))))))))))))))))
 exact (All.cons (fun γ => EOb.mk (Z := Option Addr × Nat) [(72, .slice a16v ((cut x0_0 (IntKind.i64.wrap ((IntKind.i64.wrap (s1v.2.1 + s1v.1)) - s1v.1)) (IntKind.i64.wrap (s1v.2.1 + s1v.1))).length) c17v)] (fun z => z) rfl rfl (.w 14 rfl rfl rfl .nil) (re_call (vs := [.slice a16v ((cut x0_0 (IntKind.i64.wrap ((IntKind.i64.wrap (s1v.2.1 + s1v.1)) - s1v.1)) (IntKind.i64.wrap (s1v.2.1 + s1v.1))).length) c17v]) (cap := []) (A := []) (rst := [obj b0 152 [.slice a0_0 x0_0.length c0_0, .int .i64 (IntKind.i64.wrap (s1v.2.1 + s1v.1)), .int .i64 s6v], F]) rfl rfl rfl rfl rfl rfl Try.call62 (.sel 0 rfl (.sel 0 rfl (.nil _))) (synodref_Bytes.calls _ _ a16v c17v (cut x0_0 (IntKind.i64.wrap ((IntKind.i64.wrap (s1v.2.1 + s1v.1)) - s1v.1)) (IntKind.i64.wrap (s1v.2.1 + s1v.1))) (hr19v.lend 1 rfl) hc20v (Nat.le_trans hm21v hm0_0)) hs24v) (fun _ => ⟨rfl, rfl, rfl, rfl, rfl, rfl, rfl, rfl, rfl, rfl, rfl, rfl, rfl, rfl, rfl, trivial⟩) (fun _ => .inr rfl) (fun z => Ent.refl _)) All.nil)
 intro g25v
 refine nrm_then ?_
 refine sim_rtn ?_
 exact rtn_fn (g25v.1, g25v.2) rfl rfl rfl (.sel 0 rfl (.sel 0 rfl (.sel 0 rfl (.nil _))))
 refine sim_seq ?_
 refine sim_region ?_
 refine simL_val (q_move rfl rfl) rfl rfl rfl ?_
 refine simL_val (q_move rfl rfl) rfl rfl rfl ?_
 refine simL_val (q_nil rfl rfl) rfl rfl rfl ?_
 refine simL_val (q_fa rfl rfl Try.underlying152 rfl rfl Try.sizeOf3 rfl) rfl rfl rfl ?_
 refine simL_do (re_store 0 rfl rfl rfl Try.sizeOf3 rfl rfl (one_of (by rfl)) rfl rfl) rfl rfl ?_
 intro _
 refine simL_nil ?_
 refine nrm_then ?_
 refine sim_seq ?_
 refine sim_region ?_
 refine simL_val (q_asg rfl rfl) rfl rfl rfl ?_
 refine simL_nil ?_
 refine nrm_then ?_
 refine sim_rtn ?_
 refine rtn_then ?_
 exact rtn_fn (none, 0) rfl rfl rfl (.row_nil (.sel 0 rfl (.sel 0 rfl (.nil _))))
 refine sim_seq ?_
 refine sim_region ?_
 refine simL_val (q_asg rfl rfl) rfl rfl rfl ?_
 refine simL_nil ?_
 refine nrm_then ?_
 refine sim_rtn ?_
 refine rtn_then ?_
 exact rtn_fn (none, 0) rfl rfl rfl (.row_nil (.sel 0 rfl (.sel 0 rfl (.nil _))))

def synodref1_Reader_Left.f (x0_0 : List UInt8) (x0_1 : Int) (x0_2 : Int) : Option (Int) := some (IntKind.i64.wrap ((x0_0.length : Int) - x0_1))
theorem synodref1_Reader_Left.calls (W : World) (F : HA) (b0 : Nat) (a0_0 : Option Addr) (c0_0 : Nat) (x0_0 : List UInt8) (x0_1 : Int) (x0_2 : Int) (h0_0 : Rd F a0_0 (encB x0_0)) (hc0_0 : x0_0.length ≤ c0_0) (hm0_0 : c0_0 ≤ maxLen) :
    Fn Try.prog W 131 [.pointer (some ⟨b0, 0, none⟩)] [obj b0 152 [.slice a0_0 x0_0.length c0_0, .int .i64 x0_1, .int .i64 x0_2]] F (synodref1_Reader_Left.f x0_0 x0_1 x0_2) (fun (r : Int) (y : Unit) => .int .i64 r) (fun r y => [obj b0 152 [.slice a0_0 x0_0.length c0_0, .int .i64 x0_1, .int .i64 x0_2]]) := by
 unfold synodref1_Reader_Left.f
 refine fn_intro 13 Try.func131 rfl Try.ntmps131 rfl ?_
 refine sim_seq ?_
 refine sim_region ?_
 refine simL_val (q_asg rfl rfl) rfl rfl rfl ?_
 refine simL_nil ?_
 refine nrm_then ?_
 refine sim_seq ?_
 refine sim_draw (Γ := Unit) () [[], [0], [0, 1], [0, 1, 2], [0, 1, 2, 3], [], [5], [5, 6], [5, 6, 7], [0, 1, 2, 3, 4, 5, 6, 7, 8], [0, 1, 2, 3, 4, 5, 6, 7, 8, 9]] [] [0, 1, 2, 3, 4, 5, 6, 7, 8, 9, 10] (fun i => [[0], [0], [0], [0], [0], [0], [0], [0], [0], [0], [0]].getD i []) (fun i => [[], [], [], [], [], [], [], [], [], [], []].getD i []) (fun γ i => [.pointer (some ⟨b0, 0, none⟩), .pointer (some ⟨b0, 0, none⟩), .pointer (some ⟨b0, 0, none⟩), .slice a0_0 x0_0.length c0_0, .int .i64 (x0_0.length : Int), .pointer (some ⟨b0, 0, none⟩), .pointer (some ⟨b0, 0, none⟩), .pointer (some ⟨b0, 1, none⟩), .int .i64 x0_1, .int .i64 (IntKind.i64.wrap ((x0_0.length : Int) - x0_1)), .int .i64 (IntKind.i64.wrap ((x0_0.length : Int) - x0_1))].getD i undef) (fun j γ => [[obj b0 152 [.slice a0_0 x0_0.length c0_0, .int .i64 x0_1, .int .i64 x0_2], F]].getD j []) (fun γ => [(2, .int .i64 (IntKind.i64.wrap ((x0_0.length : Int) - x0_1)))]) mixed (by decide) (by decide) (by decide) (by decide) (by decide) (by decide) (by decide) 13 rfl (by decide) (by decide) (by decide) (Ent.refl _) ?_ ?_ (fun _ => ⟨rfl, trivial⟩) ?_
 exact (All.cons (fun γ => (All.cons (QOb.plain [(0, .pointer (some ⟨b0, 0, none⟩))] rfl rfl (.o rfl (by decide) .nil) (q_move rfl rfl) rfl) All.nil)) (All.cons (fun γ => (All.cons (QOb.plain [(3, .pointer (some ⟨b0, 0, none⟩))] rfl rfl (.w 0 rfl rfl rfl .nil) (q_nil rfl rfl) rfl) All.nil)) (All.cons (fun γ => (All.cons (QOb.plain [(4, .pointer (some ⟨b0, 0, none⟩))] rfl rfl (.w 1 rfl rfl rfl .nil) (q_fa rfl rfl Try.underlying152 rfl rfl Try.sizeOf27 rfl) rfl) All.nil)) (All.cons (fun γ => (All.cons (QOb.plain [(5, .pointer (some ⟨b0, 0, none⟩))] rfl rfl (.w 2 rfl rfl rfl .nil) (q_load rfl rfl Try.isAgg27 (.obj 0 rfl rfl)) rfl) All.nil)) (All.cons (fun γ => (All.cons (QOb.plain [(6, .slice a0_0 x0_0.length c0_0)] rfl rfl (.w 3 rfl rfl rfl .nil) (q_len rfl rfl rfl Try.underlying27) rfl) All.nil)) (All.cons (fun γ => (All.cons (QOb.plain [(0, .pointer (some ⟨b0, 0, none⟩))] rfl rfl (.o rfl (by decide) .nil) (q_move rfl rfl) rfl) All.nil)) (All.cons (fun γ => (All.cons (QOb.plain [(8, .pointer (some ⟨b0, 0, none⟩))] rfl rfl (.w 5 rfl rfl rfl .nil) (q_nil rfl rfl) rfl) All.nil)) (All.cons (fun γ => (All.cons (QOb.plain [(9, .pointer (some ⟨b0, 0, none⟩))] rfl rfl (.w 6 rfl rfl rfl .nil) (q_fa rfl rfl Try.underlying152 rfl rfl Try.sizeOf3 rfl) rfl) All.nil)) (All.cons (fun γ => (All.cons (QOb.plain [(10, .pointer (some ⟨b0, 1, none⟩))] rfl rfl (.w 7 rfl rfl rfl .nil) (q_load rfl rfl Try.isAgg3 (.obj 0 rfl rfl)) rfl) All.nil)) (All.cons (fun γ => (All.cons (QOb.plain [(7, .int .i64 (x0_0.length : Int)), (11, .int .i64 x0_1)] rfl rfl (.w 4 rfl rfl rfl (.w 8 rfl rfl rfl .nil)) (q_sub rfl rfl rfl) rfl) All.nil)) (All.cons (fun γ => (All.cons (QOb.plain [(12, .int .i64 (IntKind.i64.wrap ((x0_0.length : Int) - x0_1)))] rfl rfl (.w 9 rfl rfl rfl .nil) (q_asg rfl rfl) rfl) All.nil)) All.nil)))))))))))
 exact All.nil
 intro g1v
 refine nrm_then ?_
 refine sim_rtn ?_
 exact rtn_fn () rfl rfl rfl (.sel 0 rfl (.sel 0 rfl (.nil _)))
def synodref1_Reader_Left.v (x0_0 : List UInt8) (x0_1 : Int) (x0_2 : Int) : Int := (synodref1_Reader_Left.f x0_0 x0_1 x0_2).getD 0
theorem synodref1_Reader_Left.tot (x0_0 : List UInt8) (x0_1 : Int) (x0_2 : Int) : synodref1_Reader_Left.f x0_0 x0_1 x0_2 = some (synodref1_Reader_Left.v x0_0 x0_1 x0_2) := by
  have h : ∃ r, synodref1_Reader_Left.f x0_0 x0_1 x0_2 = some r := by
    unfold synodref1_Reader_Left.f
    repeat' (first | exact ⟨_, rfl⟩ | split | simp only [Option.bind_some])
  obtain ⟨r, h⟩ := h
  unfold synodref1_Reader_Left.v
  rw [h]; rfl

def synodref1_Reader_Done.f (x0_0 : List UInt8) (x0_1 : Int) (x0_2 : Int) : Option (Int) := (if x0_2 = (0 : Int) then ((synodref1_Reader_Left.f x0_0 x0_1 x0_2).bind fun s3v => (some (decide ((0 : Int) < s3v)))) else (some false)).bind fun s1v => (if s1v = true then (some 3) else (some x0_2))
theorem synodref1_Reader_Done.calls (W : World) (F : HA) (b0 : Nat) (a0_0 : Option Addr) (c0_0 : Nat) (x0_0 : List UInt8) (x0_1 : Int) (x0_2 : Int) (h0_0 : Rd F a0_0 (encB x0_0)) (hc0_0 : x0_0.length ≤ c0_0) (hm0_0 : c0_0 ≤ maxLen) :
    Fn Try.prog W 86 [.pointer (some ⟨b0, 0, none⟩)] [obj b0 152 [.slice a0_0 x0_0.length c0_0, .int .i64 x0_1, .int .i64 x0_2]] F (synodref1_Reader_Done.f x0_0 x0_1 x0_2) (fun (r : Int) (y : Unit) => .int .i64 r) (fun r y => [obj b0 152 [.slice a0_0 x0_0.length c0_0, .int .i64 x0_1, .int .i64 x0_2]]) := by
 unfold synodref1_Reader_Done.f
 refine fn_intro 17 Try.func86 rfl Try.ntmps86 rfl ?_
 refine sim_seq ?_
 refine sim_region ?_
 refine simL_val (q_asg rfl rfl) rfl rfl rfl ?_
 refine simL_nil ?_
 refine nrm_then ?_
 refine sim_seq ?_
 refine sim_seq ?_
 refine sim_region ?_
 refine simL_val (q_move rfl rfl) rfl rfl rfl ?_
 refine simL_val (q_nil rfl rfl) rfl rfl rfl ?_
 refine simL_val (q_fa rfl rfl Try.underlying152 rfl rfl Try.sizeOf3 rfl) rfl rfl rfl ?_
 refine simL_val (q_load rfl rfl Try.isAgg3 (.obj 0 rfl rfl)) rfl rfl rfl ?_
 refine simL_val (q_eql rfl rfl rfl) rfl rfl rfl ?_
 refine simL_val (q_move rfl rfl) rfl rfl rfl ?_
 refine simL_cut' 4 (S := Bool) (Unit) (fun s y => [(0, .pointer (some ⟨b0, 0, none⟩)), (12, .bool s)]) (fun s y => [obj b0 152 [.slice a0_0 x0_0.length c0_0, .int .i64 x0_1, .int .i64 x0_2], F]) ?_ ?_
 refine simL_casep (fun hb6v => ?_) (fun hb7v => ?_)
 rw [hb6v]
 refine simL_valg (q_move rfl rfl) rfl rfl rfl rfl rfl rfl ?_
 refine simL_bind (fun s3v hs5v => ?_)
 refine simL_effg (re_call (vs := [.pointer (some ⟨b0, 0, none⟩)]) (cap := []) (A := [obj b0 152 [.slice a0_0 x0_0.length c0_0, .int .i64 x0_1, .int .i64 x0_2]]) (rst := [F]) rfl rfl rfl rfl rfl rfl Try.call131 (.sel 0 rfl (.sel 0 rfl (.nil _))) (synodref1_Reader_Left.calls _ _ b0 a0_0 c0_0 x0_0 x0_1 x0_2 (h0_0.lend 0 rfl) hc0_0 hm0_0) hs5v) rfl rfl rfl rfl rfl rfl ?_
 intro y4v
 refine simL_valg (q_gtr rfl rfl rfl) rfl rfl rfl rfl rfl rfl ?_
 refine simL_val (q_pick rfl rfl rfl rfl rfl) rfl rfl rfl ?_
 refine simL_nil ?_
 exact nrm_cut (s := decide ((0 : Int) < s3v)) () ⟨rfl, rfl, trivial⟩ (.sel 0 rfl (.sel 0 rfl (.nil _)))
 rw [hb7v]
 refine simL_skipd rfl rfl rfl rfl rfl rfl ?_
 refine simL_skipd rfl rfl rfl rfl rfl rfl ?_
 refine simL_skipd rfl rfl rfl rfl rfl rfl ?_
 refine simL_val (q_pick rfl rfl rfl rfl rfl) rfl rfl rfl ?_
 refine simL_nil ?_
 exact nrm_cut (s := false) () ⟨rfl, rfl, trivial⟩ (.sel 0 rfl (.sel 0 rfl (.nil _)))
 intro s1v y2v
 refine simL_nil ?_
 refine nrm_then ?_
 refine sim_condb rfl (fun h8v => ?_) (fun h9v => ?_)
 refine sim_seq ?_
 refine sim_region ?_
 refine simL_val (q_asg rfl rfl) rfl rfl rfl ?_
 refine simL_nil ?_
 refine nrm_then ?_
 refine sim_rtn ?_
 refine rtn_then ?_
 exact rtn_fn () rfl rfl rfl (.sel 0 rfl (.sel 0 rfl (.nil _)))
 refine sim_skip ?_
 refine nrm_then ?_
 refine sim_seq ?_
 refine sim_region ?_
 refine simL_val (q_move rfl rfl) rfl rfl rfl ?_
 refine simL_val (q_nil rfl rfl) rfl rfl rfl ?_
 refine simL_val (q_fa rfl rfl Try.underlying152 rfl rfl Try.sizeOf3 rfl) rfl rfl rfl ?_
 refine simL_val (q_load rfl rfl Try.isAgg3 (.obj 0 rfl rfl)) rfl rfl rfl ?_
 refine simL_val (q_asg rfl rfl) rfl rfl rfl ?_
 refine simL_nil ?_
 refine nrm_then ?_
 refine sim_rtn ?_
 exact rtn_fn () rfl rfl rfl (.sel 0 rfl (.sel 0 rfl (.nil _)))
def synodref1_Reader_Done.v (x0_0 : List UInt8) (x0_1 : Int) (x0_2 : Int) : Int := (synodref1_Reader_Done.f x0_0 x0_1 x0_2).getD 0
theorem synodref1_Reader_Done.tot (x0_0 : List UInt8) (x0_1 : Int) (x0_2 : Int) : synodref1_Reader_Done.f x0_0 x0_1 x0_2 = some (synodref1_Reader_Done.v x0_0 x0_1 x0_2) := by
  have h : ∃ r, synodref1_Reader_Done.f x0_0 x0_1 x0_2 = some r := by
    unfold synodref1_Reader_Done.f
    repeat' (first | exact ⟨_, rfl⟩ | split | simp only [Option.bind_some, synodref1_Reader_Left.tot])
  obtain ⟨r, h⟩ := h
  unfold synodref1_Reader_Done.v
  rw [h]; rfl

def synodref3_GetEntry.f (k : Nat) (x0 : List UInt8) : Option (Int × Int × Int × List UInt8 × Int) := (synodref1_Reader_Int.f k x0 (0 : Int) (0 : Int)).bind fun s3v => ((synodref1_Reader_Int.f k x0 s3v.2.1 s3v.2.2).bind fun s6v => ((synodref1_Reader_Int.f k x0 s6v.2.1 s6v.2.2).bind fun s9v => ((synodref1_Reader_Bytes.f k x0 s9v.2.1 s9v.2.2 (4096 : Int)).bind fun s12v => ((synodref1_Reader_Done.f x0 s12v.2.1 s12v.2.2).bind fun s16v => ((if s16v = (0 : Int) then ((synodref3_CheckEntry.f s3v.1 s6v.1 s9v.1 s12v.1).bind fun s27v => (some s27v)) else (some s16v)).bind fun s19v => (if s19v = (0 : Int) then (some (s3v.1, s6v.1, s9v.1, s12v.1, s19v)) else (some (0, 0, 0, ([] : List UInt8), s19v))))))))
theorem synodref3_GetEntry.calls (W : World) (F : HA) (k : Nat) (a0 : Option Addr) (c0 : Nat) (x0 : List UInt8) (h0 : Rd F a0 (encB x0)) (hc0 : x0.length ≤ c0) (hm0 : c0 ≤ maxLen) :
    Fn Try.prog W 37 [.slice a0 x0.length c0] [] F (synodref3_GetEntry.f k x0) (fun (r : Int × Int × Int × List UInt8 × Int) (y : Option Addr × Nat) => .tuple #[.agg #[.int .i64 r.1, .int .i64 r.2.1, .int .i64 r.2.2.1, .slice y.1 r.2.2.2.1.length y.2], .int .i64 r.2.2.2.2]) (fun r y => [Row 5 1 y.1 r.2.2.2.1.length y.2 (encB r.2.2.2.1)]) := by
 unfold synodref3_GetEntry.f
 refine fn_intro 31 Try.func37 rfl Try.ntmps37 rfl ?_
 refine sim_seq ?_
 refine sim_region ?_
 refine simL_eff (re_alloc rfl Try.zeroValue61 rfl) rfl rfl rfl ?_
 intro b1v
 refine simL_val (q_asg rfl rfl) rfl rfl rfl ?_
 refine simL_nil ?_
 refine nrm_then ?_
 refine sim_seq ?_
 refine sim_region ?_
 refine simL_val (q_move rfl rfl) rfl rfl rfl ?_
 refine simL_val (q_build (v := .agg #[.slice a0 x0.length c0, .int .i64 0, .int .i64 0]) rfl rfl (fun _ => by kernel_rfl)) rfl rfl rfl ?_
 refine simL_eff (re_box rfl rfl rfl) rfl rfl rfl ?_
 intro b2v
 refine simL_val (q_asg rfl rfl) rfl rfl rfl ?_
 refine simL_nil ?_
 refine nrm_then ?_
 refine sim_seq ?_
 refine sim_region ?_
 refine simL_val (q_move rfl rfl) rfl rfl rfl ?_
 refine simL_bind (fun s3v hs5v => ?_)
 refine simL_eff (re_call (vs := [.pointer (some ⟨b2v, 0, none⟩)]) (cap := []) (A := [obj b2v 152 [.slice a0 x0.length c0, .int .i64 0, .int .i64 0]]) (rst := [obj b1v 61 [.int .i64 0, .int .i64 0, .int .i64 0, .slice none 0 0], F]) rfl rfl rfl rfl rfl rfl Try.call85 (.sel 0 rfl (.sel 0 rfl (.sel 0 rfl (.nil _)))) (synodref1_Reader_Int.calls _ _ k b2v a0 c0 x0 (0 : Int) (0 : Int) (h0.lend 1 rfl) hc0 hm0) hs5v) rfl rfl rfl ?_
 intro y4v
 refine simL_val (q_move rfl rfl) rfl rfl rfl ?_
 refine simL_bind (fun s6v hs8v => ?_)
 refine simL_eff (re_call (vs := [.pointer (some ⟨b2v, 0, none⟩)]) (cap := []) (A := [obj b2v 152 [.slice a0 x0.length c0, .int .i64 s3v.2.1, .int .i64 s3v.2.2]]) (rst := [obj b1v 61 [.int .i64 0, .int .i64 0, .int .i64 0, .slice none 0 0], F]) rfl rfl rfl rfl rfl rfl Try.call85 (.sel 0 rfl (.sel 0 rfl (.sel 0 rfl (.nil _)))) (synodref1_Reader_Int.calls _ _ k b2v a0 c0 x0 s3v.2.1 s3v.2.2 (h0.lend 1 rfl) hc0 hm0) hs8v) rfl rfl rfl ?_
 intro y7v
 refine simL_val (q_move rfl rfl) rfl rfl rfl ?_
 refine simL_bind (fun s9v hs11v => ?_)
 refine simL_eff (re_call (vs := [.pointer (some ⟨b2v, 0, none⟩)]) (cap := []) (A := [obj b2v 152 [.slice a0 x0.length c0, .int .i64 s6v.2.1, .int .i64 s6v.2.2]]) (rst := [obj b1v 61 [.int .i64 0, .int .i64 0, .int .i64 0, .slice none 0 0], F]) rfl rfl rfl rfl rfl rfl Try.call85 (.sel 0 rfl (.sel 0 rfl (.sel 0 rfl (.nil _)))) (synodref1_Reader_Int.calls _ _ k b2v a0 c0 x0 s6v.2.1 s6v.2.2 (h0.lend 1 rfl) hc0 hm0) hs11v) rfl rfl rfl ?_
 intro y10v
 refine simL_val (q_move rfl rfl) rfl rfl rfl ?_
 refine simL_bind (fun s12v hs14v => ?_)
 refine simL_eff (re_call (vs := [.pointer (some ⟨b2v, 0, none⟩), .int .i64 4096]) (cap := []) (A := [obj b2v 152 [.slice a0 x0.length c0, .int .i64 s9v.2.1, .int .i64 s9v.2.2]]) (rst := [obj b1v 61 [.int .i64 0, .int .i64 0, .int .i64 0, .slice none 0 0], F]) rfl rfl rfl rfl rfl rfl Try.call92 (.sel 0 rfl (.sel 0 rfl (.sel 0 rfl (.nil _)))) (synodref1_Reader_Bytes.calls _ _ k b2v a0 c0 x0 s9v.2.1 s9v.2.2 (4096 : Int) (h0.lend 1 rfl) hc0 hm0) hs14v) rfl rfl rfl ?_
 intro y13v
 refine simL_val (q_build (v := .agg #[.int .i64 s3v.1, .int .i64 s6v.1, .int .i64 s9v.1, .slice y13v.1 s12v.1.length y13v.2]) rfl rfl (fun _ => by kernel_rfl)) rfl rfl rfl ?_
 refine simL_eff (re_alloc rfl Try.zeroValue61 rfl) rfl rfl rfl ?_
 intro b15v
 refine simL_do (re_store 0 rfl rfl rfl Try.sizeOf61 rfl rfl (one_of (by rfl)) rfl rfl) rfl rfl ?_
 intro _
 refine simL_nil ?_
 refine nrm_then ?_
 refine sim_seq ?_
 refine sim_region ?_
 refine simL_val (q_move rfl rfl) rfl rfl rfl ?_
 refine simL_bind (fun s16v hs18v => ?_)
 refine simL_eff (re_call (vs := [.pointer (some ⟨b2v, 0, none⟩)]) (cap := []) (A := [obj b2v 152 [.slice a0 x0.length c0, .int .i64 s12v.2.1, .int .i64 s12v.2.2]]) (rst := [obj b15v 61 [.int .i64 s3v.1, .int .i64 s6v.1, .int .i64 s9v.1, .slice y13v.1 s12v.1.length y13v.2], Row 5 1 y13v.1 s12v.1.length y13v.2 (encB s12v.1), obj b1v 61 [.int .i64 0, .int .i64 0, .int .i64 0, .slice none 0 0], F]) rfl rfl rfl rfl rfl rfl Try.call86 (.sel 2 rfl (.sel 0 rfl (.sel 0 rfl (.sel 0 rfl (.sel 0 rfl (.nil _)))))) (synodref1_Reader_Done.calls _ _ b2v a0 c0 x0 s12v.2.1 s12v.2.2 (h0.lend 3 rfl) hc0 hm0) hs18v) rfl rfl rfl ?_
 intro y17v
 refine simL_val (q_asg rfl rfl) rfl rfl rfl ?_
 refine simL_nil ?_
 refine nrm_then ?_
 refine sim_cut (S := Int) (Unit) (fun s y => [(2, .pointer (some ⟨b1v, 0, none⟩)), (5, .pointer (some ⟨b15v, 0, none⟩)), (6, .int .i64 s)]) (fun s y => [obj b15v 61 [.int .i64 s3v.1, .int .i64 s6v.1, .int .i64 s9v.1, .slice y13v.1 s12v.1.length y13v.2], obj b1v 61 [.int .i64 0, .int .i64 0, .int .i64 0, .slice none 0 0], Row 5 1 y13v.1 s12v.1.length y13v.2 (encB s12v.1), F]) ?_ ?_
 refine sim_seq ?_
 refine sim_region ?_
 refine simL_val (q_move rfl rfl) rfl rfl rfl ?_
 refine simL_val (q_eql rfl rfl rfl) rfl rfl rfl ?_
 refine simL_nil ?_
 refine nrm_then ?_
 refine sim_cond rfl (fun h21v => ?_) (fun h22v => ?_)
 refine sim_region ?_
 refine simL_val (q_loado 1 rfl rfl Try.isAgg61 Try.sizeOf61 rfl rfl) rfl rfl rfl ?_
 refine simL_bind (fun s27v hs29v => ?_)
 refine simL_lend 2 rfl (fun hq23v hq24v hq25v hq26v => ?_)
 refine simL_eff (re_call (vs := [.agg #[.int .i64 s3v.1, .int .i64 s6v.1, .int .i64 s9v.1, .slice y13v.1 s12v.1.length y13v.2]]) (cap := []) (A := []) (rst := [obj b2v 152 [.slice a0 x0.length c0, .int .i64 s12v.2.1, .int .i64 s12v.2.2], obj b15v 61 [.int .i64 s3v.1, .int .i64 s6v.1, .int .i64 s9v.1, .slice y13v.1 s12v.1.length y13v.2], Row 5 1 y13v.1 s12v.1.length y13v.2 (encB s12v.1), obj b1v 61 [.int .i64 0, .int .i64 0, .int .i64 0, .slice none 0 0], F]) rfl rfl rfl rfl rfl rfl Try.call35 (.sel 0 rfl (.sel 0 rfl (.sel 0 rfl (.sel 0 rfl (.sel 0 rfl (.nil _)))))) (synodref3_CheckEntry.calls _ _ s3v.1 s6v.1 s9v.1 y13v.1 y13v.2 s12v.1 (hq23v.lend 2 rfl) hq24v hq25v) hs29v) rfl rfl rfl ?_
 intro y28v
 refine simL_val (q_asg rfl rfl) rfl rfl rfl ?_
 refine simL_nil ?_
 exact nrm_cut (s := s27v) () ⟨rfl, rfl, rfl, trivial⟩ (.sel 1 rfl (.sel 2 rfl (.sel 1 rfl (.sel 1 rfl (.nil _)))))
 refine sim_skip ?_
 exact nrm_cut (s := s16v) () ⟨rfl, rfl, rfl, trivial⟩ (.sel 1 rfl (.sel 2 rfl (.sel 1 rfl (.sel 1 rfl (.nil _)))))
 intro s19v y20v
 refine sim_seq ?_
 refine sim_seq ?_
 refine sim_region ?_
 refine simL_val (q_move rfl rfl) rfl rfl rfl ?_
 refine simL_val (q_neq rfl rfl rfl) rfl rfl rfl ?_
 refine simL_nil ?_
 refine nrm_then ?_
 refine sim_condn rfl (fun h30v => ?_) (fun h31v => ?_)
 refine sim_skip ?_
 refine nrm_then ?_
 refine sim_seq ?_
 refine sim_region ?_
 refine simL_val (q_loado 0 rfl rfl Try.isAgg61 Try.sizeOf61 rfl rfl) rfl rfl rfl ?_
 refine simL_val (q_move rfl rfl) rfl rfl rfl ?_
 refine simL_do (re_store 1 rfl rfl rfl Try.sizeOf61 rfl rfl (one_of (by rfl)) rfl rfl) rfl rfl ?_
 intro _
 refine simL_val (q_asg rfl rfl) rfl rfl rfl ?_
 refine simL_nil ?_
 refine nrm_then ?_
 refine sim_rtn ?_
 exact rtn_fnC (vs := [.agg #[.int .i64 s3v.1, .int .i64 s6v.1, .int .i64 s9v.1, .slice y13v.1 s12v.1.length y13v.2], .int .i64 s19v]) (y13v.1, y13v.2) rfl ⟨⟨b1v, rfl, load_agg 1 Try.isAgg61 Try.sizeOf61 rfl rfl⟩, rfl, trivial⟩ rfl (.sel 2 rfl (.sel 2 rfl (.nil _)))
 refine sim_seq ?_
 refine sim_region ?_
 refine simL_val (q_build (v := .agg #[.int .i64 0, .int .i64 0, .int .i64 0, .slice none 0 0]) rfl rfl (fun _ => by kernel_rfl)) rfl rfl rfl ?_
 refine simL_val (q_move rfl rfl) rfl rfl rfl ?_
 refine simL_do (re_store 1 rfl rfl rfl Try.sizeOf61 rfl rfl (one_of (by rfl)) rfl rfl) rfl rfl ?_
 intro _
 refine simL_val (q_asg rfl rfl) rfl rfl rfl ?_
 refine simL_nil ?_
 refine nrm_then ?_
 refine sim_rtn ?_
 refine rtn_then ?_
 exact rtn_fnC (vs := [.agg #[.int .i64 0, .int .i64 0, .int .i64 0, .slice none 0 0], .int .i64 s19v]) (none, 0) rfl ⟨⟨b1v, rfl, load_agg 1 Try.isAgg61 Try.sizeOf61 rfl rfl⟩, rfl, trivial⟩ rfl (.row_nil (.sel 3 rfl (.nil _)))

def synodref_Kept.f (k : Nat) (x0 : List UInt8) (z0 : List UInt8) (x1 : List UInt8) : Option (Bool) := (synodref_SameBytes.f k x0 x1).bind fun s1v => ((if (s1v && (decide ((x0.length : Int) = (x1.length : Int)))) = true then (if 0 ≤ (0 : Int) ∧ (0 : Int) ≤ IntKind.i64.wrap ((x1.length : Int) + 1) ∧ IntKind.i64.wrap ((x1.length : Int) + 1) ≤ ((x0 ++ z0).length : Int) then (if 0 ≤ (x1.length : Int) ∧ (x1.length : Int) < ((cut (x0 ++ z0) (0 : Int) (IntKind.i64.wrap ((x1.length : Int) + 1))).length : Int) then (some (decide ((((cut (x0 ++ z0) (0 : Int) (IntKind.i64.wrap ((x1.length : Int) + 1))).getD (x1.length : Int).toNat 0).toNat : Int) = (201 : Int)))) else none) else none) else (some false)).bind fun s4v => (some s4v))
theorem synodref_Kept.calls (W : World) (F : HA) (k : Nat) (a0 : Option Addr) (c0 : Nat) (x0 z0 : List UInt8) (a1 : Option Addr) (c1 : Nat) (x1 : List UInt8) (h0 : Rd F a0 (encB (x0 ++ z0))) (hc0 : (x0 ++ z0).length ≤ c0) (hm0 : c0 ≤ maxLen) (h1 : Rd F a1 (encB x1)) (hc1 : x1.length ≤ c1) (hm1 : c1 ≤ maxLen) :
    Fn Try.prog W 31 [.slice a0 x0.length c0, .slice a1 x1.length c1] [] F (synodref_Kept.f k x0 z0 x1) (fun (r : Bool) (y : Unit) => .bool r) (fun r y => []) := by
 unfold synodref_Kept.f
 refine fn_intro 29 Try.func31 rfl Try.ntmps31 rfl ?_
 refine sim_seq ?_
 refine sim_region ?_
 refine simL_val (q_asg rfl rfl) rfl rfl rfl ?_
 refine simL_nil ?_
 refine nrm_then ?_
 refine sim_seq ?_
 refine sim_region ?_
 refine simL_val (q_move rfl rfl) rfl rfl rfl ?_
 refine simL_val (q_move rfl rfl) rfl rfl rfl ?_
 refine simL_bind (fun s1v hs3v => ?_)
 refine simL_eff (re_call (vs := [.slice a0 x0.length c0, .slice a1 x1.length c1]) (cap := []) (A := []) (rst := [F]) rfl rfl rfl rfl rfl rfl Try.call25 (.sel 0 rfl (.nil _)) (synodref_SameBytes.calls _ _ k a0 c0 x0 a1 c1 x1 ((rd_front h0).lend 0 rfl) (front_len hc0) hm0 (h1.lend 0 rfl) hc1 hm1) hs3v) rfl rfl rfl ?_
 intro y2v
 refine simL_val (q_asg rfl rfl) rfl rfl rfl ?_
 refine simL_nil ?_
 refine nrm_then ?_
 refine sim_seq ?_
 refine sim_region ?_
 refine simL_val (q_move rfl rfl) rfl rfl rfl ?_
 refine simL_val (q_move rfl rfl) rfl rfl rfl ?_
 refine simL_valc (b := s1v) (fun hb23v => RQ.sub (E' := [(0, .slice a0 x0.length c0)]) ⟨rfl, trivial⟩ (q_move rfl rfl)) rfl rfl rfl rfl rfl ?_
 refine simL_valc (b := s1v) (fun hb22v => RQ.sub (E' := [(11, .slice a0 x0.length c0)]) ⟨lk_cv rfl hb22v, trivial⟩ (q_len rfl rfl rfl Try.underlying27)) rfl rfl rfl rfl rfl ?_
 refine simL_valc (b := s1v) (fun hb21v => RQ.sub (E' := [(1, .slice a1 x1.length c1)]) ⟨rfl, trivial⟩ (q_move rfl rfl)) rfl rfl rfl rfl rfl ?_
 refine simL_valc (b := s1v) (fun hb20v => RQ.sub (E' := [(13, .slice a1 x1.length c1)]) ⟨lk_cv rfl hb20v, trivial⟩ (q_len rfl rfl rfl Try.underlying27)) rfl rfl rfl rfl rfl ?_
 refine simL_valc (b := s1v) (fun hb19v => RQ.sub (E' := [(12, .int .i64 (x0.length : Int)), (14, .int .i64 (x1.length : Int))]) ⟨lk_cv rfl hb19v, lk_cv rfl hb19v, trivial⟩ (q_eql rfl rfl rfl)) rfl rfl rfl rfl rfl ?_
 refine simL_val (q_and rfl rfl rfl) rfl rfl rfl ?_
 refine simL_val (q_move rfl rfl) rfl rfl rfl ?_
 refine simL_cut' 11 (S := Bool) (Unit) (fun s y => [(28, .bool s)]) (fun s y => [F]) ?_ ?_
 refine simL_caseb (fun hb17v => ?_) (fun hb18v => ?_)
 rw [hb17v]
 refine simL_valg (q_move rfl rfl) rfl rfl rfl rfl rfl rfl ?_
 refine simL_valg (q_move rfl rfl) rfl rfl rfl rfl rfl rfl ?_
 refine simL_valg (q_len rfl rfl rfl Try.underlying27) rfl rfl rfl rfl rfl rfl ?_
 refine simL_valg (q_add rfl rfl rfl) rfl rfl rfl rfl rfl rfl ?_
 refine simL_ask (fun hb6v => ?_)
 obtain ⟨a7v, c8v, hS9v, hr10v, hc11v, hm12v⟩ := slice_pre (lo := (0 : Int)) (hi := IntKind.i64.wrap ((x1.length : Int) + 1)) h0 hc0 hb6v
 refine simL_valg (q_sub_ro (l := (x0 ++ z0)) (lo' := (0 : Int)) (hi' := IntKind.i64.wrap ((x1.length : Int) + 1)) rfl rfl rfl rfl Try.underlying27 Try.sizeOf5 (.inr ⟨_, rfl⟩) (.inl ⟨rfl, rfl⟩) hb6v hc0 hS9v) rfl rfl rfl rfl rfl rfl ?_
 refine simL_valg (q_move rfl rfl) rfl rfl rfl rfl rfl rfl ?_
 refine simL_valg (q_len rfl rfl rfl Try.underlying27) rfl rfl rfl rfl rfl rfl ?_
 refine simL_ask (fun hi13v => ?_)
 obtain ⟨b14v, b14vo, ha15v⟩ := hr10v.pos (encB_ne (j := (x1.length : Int).toNat) (by omega))
 refine simL_valg (q_idx1 rfl rfl rfl ha15v Try.underlying27 Try.sizeOf5 hi13v.1 hi13v.2) rfl rfl rfl rfl rfl rfl ?_
 refine simL_valg (q_load rfl rfl Try.isAgg5 (hr10v.cell 0 rfl ha15v (encB_get (by omega)))) rfl rfl rfl rfl rfl rfl ?_
 refine simL_valg (q_eql rfl rfl rfl) rfl rfl rfl rfl rfl rfl ?_
 refine simL_val (q_pick rfl rfl rfl rfl rfl) rfl rfl rfl ?_
 refine simL_nil ?_
 exact nrm_cut (s := decide ((((cut (x0 ++ z0) (0 : Int) (IntKind.i64.wrap ((x1.length : Int) + 1))).getD (x1.length : Int).toNat 0).toNat : Int) = (201 : Int))) () ⟨rfl, trivial⟩ (.sel 0 rfl (.nil _))
 rw [hb18v]
 refine simL_skipd rfl rfl rfl rfl rfl rfl ?_
 refine simL_skipd rfl rfl rfl rfl rfl rfl ?_
 refine simL_skipd rfl rfl rfl rfl rfl rfl ?_
 refine simL_skipd rfl rfl rfl rfl rfl rfl ?_
 refine simL_skipd rfl rfl rfl rfl rfl rfl ?_
 refine simL_skipd rfl rfl rfl rfl rfl rfl ?_
 refine simL_skipd rfl rfl rfl rfl rfl rfl ?_
 refine simL_skipd rfl rfl rfl rfl rfl rfl ?_
 refine simL_skipd rfl rfl rfl rfl rfl rfl ?_
 refine simL_skipd rfl rfl rfl rfl rfl rfl ?_
 refine simL_val (q_pick rfl rfl rfl rfl rfl) rfl rfl rfl ?_
 refine simL_nil ?_
 exact nrm_cut (s := false) () ⟨rfl, trivial⟩ (.sel 0 rfl (.nil _))
 intro s4v y5v
 refine simL_val (q_asg rfl rfl) rfl rfl rfl ?_
 refine simL_nil ?_
 refine nrm_then ?_
 refine sim_rtn ?_
 exact rtn_fn () rfl rfl rfl (.sel 0 rfl (.nil _))

def synodref_SameEntry.f (k : Nat) (x0_0 : Int) (x0_1 : Int) (x0_2 : Int) (x0_3 : List UInt8) (x1_0 : Int) (x1_1 : Int) (x1_2 : Int) (x1_3 : List UInt8) : Option (Bool) := (synodref_SameBytes.f k x0_3 x1_3).bind fun s3v => (some (((s3v && (decide (x0_0 = x1_0))) && (decide (x0_1 = x1_1))) && (decide (x0_2 = x1_2))))
theorem synodref_SameEntry.calls (W : World) (F : HA) (k : Nat) (x0_0 : Int) (x0_1 : Int) (x0_2 : Int) (a0_3 : Option Addr) (c0_3 : Nat) (x0_3 : List UInt8) (x1_0 : Int) (x1_1 : Int) (x1_2 : Int) (a1_3 : Option Addr) (c1_3 : Nat) (x1_3 : List UInt8) (h0_3 : Rd F a0_3 (encB x0_3)) (hc0_3 : x0_3.length ≤ c0_3) (hm0_3 : c0_3 ≤ maxLen) (h1_3 : Rd F a1_3 (encB x1_3)) (hc1_3 : x1_3.length ≤ c1_3) (hm1_3 : c1_3 ≤ maxLen) :
    Fn Try.prog W 38 [.agg #[.int .i64 x0_0, .int .i64 x0_1, .int .i64 x0_2, .slice a0_3 x0_3.length c0_3], .agg #[.int .i64 x1_0, .int .i64 x1_1, .int .i64 x1_2, .slice a1_3 x1_3.length c1_3]] [] F (synodref_SameEntry.f k x0_0 x0_1 x0_2 x0_3 x1_0 x1_1 x1_2 x1_3) (fun (r : Bool) (y : Unit) => .bool r) (fun r y => []) := by
 unfold synodref_SameEntry.f
 refine fn_intro 33 Try.func38 rfl Try.ntmps38 rfl ?_
 refine sim_seq ?_
 refine sim_region ?_
 refine simL_eff (re_box rfl rfl rfl) rfl rfl rfl ?_
 intro b1v
 refine simL_eff (re_box rfl rfl rfl) rfl rfl rfl ?_
 intro b2v
 refine simL_val (q_asg rfl rfl) rfl rfl rfl ?_
 refine simL_nil ?_
 refine nrm_then ?_
 refine sim_seq ?_
 refine sim_region ?_
 refine simL_val (q_fa rfl rfl Try.underlying61 rfl rfl Try.sizeOf27 rfl) rfl rfl rfl ?_
 refine simL_val (q_load rfl rfl Try.isAgg27 (.obj 1 rfl rfl)) rfl rfl rfl ?_
 refine simL_val (q_fa rfl rfl Try.underlying61 rfl rfl Try.sizeOf27 rfl) rfl rfl rfl ?_
 refine simL_val (q_load rfl rfl Try.isAgg27 (.obj 0 rfl rfl)) rfl rfl rfl ?_
 refine simL_bind (fun s3v hs5v => ?_)
 refine simL_eff (re_call (vs := [.slice a0_3 x0_3.length c0_3, .slice a1_3 x1_3.length c1_3]) (cap := []) (A := []) (rst := [obj b2v 61 [.int .i64 x1_0, .int .i64 x1_1, .int .i64 x1_2, .slice a1_3 x1_3.length c1_3], obj b1v 61 [.int .i64 x0_0, .int .i64 x0_1, .int .i64 x0_2, .slice a0_3 x0_3.length c0_3], F]) rfl rfl rfl rfl rfl rfl Try.call25 (.sel 0 rfl (.sel 0 rfl (.sel 0 rfl (.nil _)))) (synodref_SameBytes.calls _ _ k a0_3 c0_3 x0_3 a1_3 c1_3 x1_3 (h0_3.lend 2 rfl) hc0_3 hm0_3 (h1_3.lend 2 rfl) hc1_3 hm1_3) hs5v) rfl rfl rfl ?_
 intro y4v
 refine simL_val (q_asg rfl rfl) rfl rfl rfl ?_
 refine simL_nil ?_
 refine nrm_then ?_
 refine sim_seq ?_
 refine sim_region ?_
 refine simL_val (q_move rfl rfl) rfl rfl rfl ?_
 refine simL_val (q_move rfl rfl) rfl rfl rfl ?_
 refine simL_valc (b := s3v) (fun hb20v => RQ.sub (E' := [(2, .pointer (some ⟨b1v, 0, none⟩))]) ⟨rfl, trivial⟩ (q_fa rfl rfl Try.underlying61 rfl rfl Try.sizeOf3 rfl)) rfl rfl rfl rfl rfl ?_
 refine simL_valc (b := s3v) (fun hb19v => RQ.sub (E' := [(13, .pointer (some ⟨b1v, 0, none⟩))]) ⟨lk_cv rfl hb19v, trivial⟩ (q_load rfl rfl Try.isAgg3 (.obj 1 rfl rfl))) rfl rfl rfl rfl rfl ?_
 refine simL_valc (b := s3v) (fun hb18v => RQ.sub (E' := [(3, .pointer (some ⟨b2v, 0, none⟩))]) ⟨rfl, trivial⟩ (q_fa rfl rfl Try.underlying61 rfl rfl Try.sizeOf3 rfl)) rfl rfl rfl rfl rfl ?_
 refine simL_valc (b := s3v) (fun hb17v => RQ.sub (E' := [(15, .pointer (some ⟨b2v, 0, none⟩))]) ⟨lk_cv rfl hb17v, trivial⟩ (q_load rfl rfl Try.isAgg3 (.obj 0 rfl rfl))) rfl rfl rfl rfl rfl ?_
 refine simL_valc (b := s3v) (fun hb16v => RQ.sub (E' := [(14, .int .i64 x0_0), (16, .int .i64 x1_0)]) ⟨lk_cv rfl hb16v, lk_cv rfl hb16v, trivial⟩ (q_eql rfl rfl rfl)) rfl rfl rfl rfl rfl ?_
 refine simL_val (q_and rfl rfl rfl) rfl rfl rfl ?_
 refine simL_val (q_move rfl rfl) rfl rfl rfl ?_
 refine simL_valc (b := s3v && (decide (x0_0 = x1_0))) (fun hb15v => RQ.sub (E' := [(2, .pointer (some ⟨b1v, 0, none⟩))]) ⟨rfl, trivial⟩ (q_fa rfl rfl Try.underlying61 rfl rfl Try.sizeOf3 rfl)) rfl rfl rfl rfl rfl ?_
 refine simL_valc (b := s3v && (decide (x0_0 = x1_0))) (fun hb14v => RQ.sub (E' := [(20, .pointer (some ⟨b1v, 1, none⟩))]) ⟨lk_cv rfl hb14v, trivial⟩ (q_load rfl rfl Try.isAgg3 (.obj 1 rfl rfl))) rfl rfl rfl rfl rfl ?_
 refine simL_valc (b := s3v && (decide (x0_0 = x1_0))) (fun hb13v => RQ.sub (E' := [(3, .pointer (some ⟨b2v, 0, none⟩))]) ⟨rfl, trivial⟩ (q_fa rfl rfl Try.underlying61 rfl rfl Try.sizeOf3 rfl)) rfl rfl rfl rfl rfl ?_
 refine simL_valc (b := s3v && (decide (x0_0 = x1_0))) (fun hb12v => RQ.sub (E' := [(22, .pointer (some ⟨b2v, 1, none⟩))]) ⟨lk_cv rfl hb12v, trivial⟩ (q_load rfl rfl Try.isAgg3 (.obj 0 rfl rfl))) rfl rfl rfl rfl rfl ?_
 refine simL_valc (b := s3v && (decide (x0_0 = x1_0))) (fun hb11v => RQ.sub (E' := [(21, .int .i64 x0_1), (23, .int .i64 x1_1)]) ⟨lk_cv rfl hb11v, lk_cv rfl hb11v, trivial⟩ (q_eql rfl rfl rfl)) rfl rfl rfl rfl rfl ?_
 refine simL_val (q_and rfl rfl rfl) rfl rfl rfl ?_
 refine simL_val (q_move rfl rfl) rfl rfl rfl ?_
 refine simL_valc (b := (s3v && (decide (x0_0 = x1_0))) && (decide (x0_1 = x1_1))) (fun hb10v => RQ.sub (E' := [(2, .pointer (some ⟨b1v, 0, none⟩))]) ⟨rfl, trivial⟩ (q_fa rfl rfl Try.underlying61 rfl rfl Try.sizeOf3 rfl)) rfl rfl rfl rfl rfl ?_
 refine simL_valc (b := (s3v && (decide (x0_0 = x1_0))) && (decide (x0_1 = x1_1))) (fun hb9v => RQ.sub (E' := [(27, .pointer (some ⟨b1v, 2, none⟩))]) ⟨lk_cv rfl hb9v, trivial⟩ (q_load rfl rfl Try.isAgg3 (.obj 1 rfl rfl))) rfl rfl rfl rfl rfl ?_
 refine simL_valc (b := (s3v && (decide (x0_0 = x1_0))) && (decide (x0_1 = x1_1))) (fun hb8v => RQ.sub (E' := [(3, .pointer (some ⟨b2v, 0, none⟩))]) ⟨rfl, trivial⟩ (q_fa rfl rfl Try.underlying61 rfl rfl Try.sizeOf3 rfl)) rfl rfl rfl rfl rfl ?_
 refine simL_valc (b := (s3v && (decide (x0_0 = x1_0))) && (decide (x0_1 = x1_1))) (fun hb7v => RQ.sub (E' := [(29, .pointer (some ⟨b2v, 2, none⟩))]) ⟨lk_cv rfl hb7v, trivial⟩ (q_load rfl rfl Try.isAgg3 (.obj 0 rfl rfl))) rfl rfl rfl rfl rfl ?_
 refine simL_valc (b := (s3v && (decide (x0_0 = x1_0))) && (decide (x0_1 = x1_1))) (fun hb6v => RQ.sub (E' := [(28, .int .i64 x0_2), (30, .int .i64 x1_2)]) ⟨lk_cv rfl hb6v, lk_cv rfl hb6v, trivial⟩ (q_eql rfl rfl rfl)) rfl rfl rfl rfl rfl ?_
 refine simL_val (q_and rfl rfl rfl) rfl rfl rfl ?_
 refine simL_val (q_asg rfl rfl) rfl rfl rfl ?_
 refine simL_nil ?_
 refine nrm_then ?_
 refine sim_rtn ?_
 exact rtn_fn () rfl rfl rfl (.sel 2 rfl (.nil _))

def synodlaw3_CodecEntries.l0 : Nat → List UInt8 → Int → Option (Unit)
  | 0, _, _ => none
  | k + 1, z126v, z127v => if z127v < (z126v.length : Int) then (if 0 ≤ z127v ∧ z127v < (z126v.length : Int) then (synodlaw3_CodecEntries.l0 k (z126v.set z127v.toNat 255) (IntKind.i64.wrap (z127v + 1))) else none) else (some ())
def synodlaw3_CodecEntries.f (k : Nat) (x0_0 : Int) (x0_1 : Int) (x0_2 : Int) (x0_3 : List UInt8) (x1 : List UInt8) : Option (Bool) := (synodlaw3_first.f k).bind fun s2v => (if ((!s2v) || (!((decide ((x0_3.length : Int) ≤ (20000 : Int))) && (decide ((x1.length : Int) ≤ (20000 : Int)))))) = true then (some s2v) else ((codec_Entries_Put.f k x0_0 x0_1 x0_2 x0_3).bind fun s8v => ((synodref3_PutEntry.f k x0_0 x0_1 x0_2 x0_3).bind fun s11v => ((synodref_SameBytes.f k s8v.1 s11v.1).bind fun s22v => (if (((!s22v) || (!decide ((synodref_Num.v s8v.2) = s11v.2))) || (!decide ((synodref_Num.v (codec_Entries_Check.v x0_0 x0_1 x0_2 x0_3)) = (synodref3_CheckEntry.v x0_0 x0_1 x0_2 x0_3)))) = true then (some false) else ((synodref_Lent.f x1).bind fun s63v => ((codec_Entries_Get.f k s63v.1).bind fun s70v => ((synodref3_GetEntry.f k x1).bind fun s74v => ((synodref_Kept.f k s63v.1 s63v.2 x1).bind fun s82v => ((synodref_SameEntry.f k s70v.1 s70v.2.1 s70v.2.2.1 s70v.2.2.2.1 s74v.1 s74v.2.1 s74v.2.2.1 s74v.2.2.2.1).bind fun s93v => ((if (!s93v) = true then (some true) else ((synodref_Num.f s70v.2.2.2.2).bind fun s98v => (some (!decide (s98v = s74v.2.2.2.2))))).bind fun s96v => (if (s96v || (!s82v)) = true then (some false) else (if s11v.2 = (0 : Int) then ((codec_Entries_Get.f k s8v.1).bind fun s111v => ((synodref_SameEntry.f k s111v.1 s111v.2.1 s111v.2.2.1 s111v.2.2.2.1 x0_0 x0_1 x0_2 x0_3).bind fun s119v => ((synodlaw3_CodecEntries.l0 k s8v.1 0).bind fun s122v => ((if s119v = true then ((synodref_Num.f s111v.2.2.2.2).bind fun s137v => (some (decide (s137v = (0 : Int))))) else (some false)).bind fun s135v => ((if s135v = true then ((synodref_SameEntry.f k s111v.1 s111v.2.1 s111v.2.2.1 s111v.2.2.2.1 x0_0 x0_1 x0_2 x0_3).bind fun s148v => (some s148v)) else (some false)).bind fun s142v => (some s142v)))))) else (some true))))))))))))))
theorem synodlaw3_CodecEntries.calls (W : World) (F : HA) (k : Nat) (x0_0 : Int) (x0_1 : Int) (x0_2 : Int) (a0_3 : Option Addr) (c0_3 : Nat) (x0_3 : List UInt8) (a1 : Option Addr) (c1 : Nat) (x1 : List UInt8) (h0_3 : Rd F a0_3 (encB x0_3)) (hc0_3 : x0_3.length ≤ c0_3) (hm0_3 : c0_3 ≤ maxLen) (h1 : Rd F a1 (encB x1)) (hc1 : x1.length ≤ c1) (hm1 : c1 ≤ maxLen) :
    Fn Try.prog W 5 [.agg #[.int .i64 x0_0, .int .i64 x0_1, .int .i64 x0_2, .slice a0_3 x0_3.length c0_3], .slice a1 x1.length c1] [] F (synodlaw3_CodecEntries.f k x0_0 x0_1 x0_2 x0_3 x1) (fun (r : Bool) (y : Unit) => .bool r) (fun r y => []) := by
 unfold synodlaw3_CodecEntries.f
 refine fn_intro 135 Try.func5 rfl Try.ntmps5 rfl ?_
 refine sim_seq ?_
 refine sim_region ?_
 refine simL_eff (re_box rfl rfl rfl) rfl rfl rfl ?_
 intro b1v
 refine simL_val (q_asg rfl rfl) rfl rfl rfl ?_
 refine simL_nil ?_
 refine nrm_then ?_
 refine sim_seq ?_
 refine sim_region ?_
 refine simL_bind (fun s2v hs4v => ?_)
 refine simL_eff (re_call (vs := []) (cap := []) (A := []) (rst := [obj b1v 61 [.int .i64 x0_0, .int .i64 x0_1, .int .i64 x0_2, .slice a0_3 x0_3.length c0_3], F]) rfl rfl rfl rfl rfl rfl Try.call14 (.sel 0 rfl (.sel 0 rfl (.nil _))) (synodlaw3_first.calls _ _ k  ) hs4v) rfl rfl rfl ?_
 intro y3v
 refine simL_val (q_asg rfl rfl) rfl rfl rfl ?_
 refine simL_nil ?_
 refine nrm_then ?_
 refine sim_seq ?_
 refine sim_region ?_
 refine simL_val (q_fa rfl rfl Try.underlying61 rfl rfl Try.sizeOf27 rfl) rfl rfl rfl ?_
 refine simL_val (q_load rfl rfl Try.isAgg27 (.obj 0 rfl rfl)) rfl rfl rfl ?_
 refine simL_val (q_len rfl rfl rfl Try.underlying27) rfl rfl rfl ?_
 refine simL_val (q_leq rfl rfl rfl) rfl rfl rfl ?_
 refine simL_val (q_move rfl rfl) rfl rfl rfl ?_
 refine simL_valc (b := decide ((x0_3.length : Int) ≤ (20000 : Int))) (fun hb159v => RQ.sub (E' := [(1, .slice a1 x1.length c1)]) ⟨rfl, trivial⟩ (q_move rfl rfl)) rfl rfl rfl rfl rfl ?_
 refine simL_valc (b := decide ((x0_3.length : Int) ≤ (20000 : Int))) (fun hb158v => RQ.sub (E' := [(30, .slice a1 x1.length c1)]) ⟨lk_cv rfl hb158v, trivial⟩ (q_len rfl rfl rfl Try.underlying27)) rfl rfl rfl rfl rfl ?_
 refine simL_valc (b := decide ((x0_3.length : Int) ≤ (20000 : Int))) (fun hb157v => RQ.sub (E' := [(31, .int .i64 (x1.length : Int))]) ⟨lk_cv rfl hb157v, trivial⟩ (q_leq rfl rfl rfl)) rfl rfl rfl rfl rfl ?_
 refine simL_val (q_and rfl rfl rfl) rfl rfl rfl ?_
 refine simL_val (q_asg rfl rfl) rfl rfl rfl ?_
 refine simL_nil ?_
 refine nrm_then ?_
 refine sim_seq ?_
 refine sim_seq ?_
 refine sim_region ?_
 refine simL_val (q_move rfl rfl) rfl rfl rfl ?_
 refine simL_val (q_not rfl rfl) rfl rfl rfl ?_
 refine simL_val (q_move rfl rfl) rfl rfl rfl ?_
 refine simL_valc (b := !s2v) (fun hb156v => RQ.sub (E' := [(6, .bool ((decide ((x0_3.length : Int) ≤ (20000 : Int))) && (decide ((x1.length : Int) ≤ (20000 : Int)))))]) ⟨rfl, trivial⟩ (q_move rfl rfl)) rfl rfl rfl rfl rfl ?_
 refine simL_valc (b := !s2v) (fun hb155v => RQ.sub (E' := [(37, .bool ((decide ((x0_3.length : Int) ≤ (20000 : Int))) && (decide ((x1.length : Int) ≤ (20000 : Int)))))]) ⟨lk_cv rfl hb155v, trivial⟩ (q_not rfl rfl)) rfl rfl rfl rfl rfl ?_
 refine simL_val (q_or rfl rfl rfl) rfl rfl rfl ?_
 refine simL_nil ?_
 refine nrm_then ?_
 refine sim_condb rfl (fun h5v => ?_) (fun h6v => ?_)
 refine sim_seq ?_
 refine sim_region ?_
 refine simL_val (q_move rfl rfl) rfl rfl rfl ?_
 refine simL_val (q_asg rfl rfl) rfl rfl rfl ?_
 refine simL_nil ?_
 refine nrm_then ?_
 refine sim_rtn ?_
 refine rtn_then ?_
 exact rtn_fn () rfl rfl rfl (.sel 1 rfl (.nil _))
 refine sim_skip ?_
 refine nrm_then ?_
 refine sim_seq ?_
 refine sim_region ?_
 refine simL_val (q_build (v := .agg #[]) rfl rfl (fun _ => by kernel_rfl)) rfl rfl rfl ?_
 refine simL_eff (re_alloc rfl Try.zeroValue62 rfl) rfl rfl rfl ?_
 intro b7v
 refine simL_do (re_store 0 rfl rfl rfl Try.sizeOf62 rfl rfl (one_of (by rfl)) rfl rfl) rfl rfl ?_
 intro _
 refine simL_nil ?_
 refine nrm_then ?_
 refine sim_seq ?_
 refine sim_region ?_
 refine simL_val (q_loado 0 rfl rfl Try.isAgg62 Try.sizeOf62 rfl rfl) rfl rfl rfl ?_
 refine simL_val (q_loado 1 rfl rfl Try.isAgg61 Try.sizeOf61 rfl rfl) rfl rfl rfl ?_
 refine simL_bind (fun s8v hs10v => ?_)
 refine simL_eff (re_call (vs := [.agg #[], .agg #[.int .i64 x0_0, .int .i64 x0_1, .int .i64 x0_2, .slice a0_3 x0_3.length c0_3]]) (cap := []) (A := []) (rst := [obj b7v 62 [], obj b1v 61 [.int .i64 x0_0, .int .i64 x0_1, .int .i64 x0_2, .slice a0_3 x0_3.length c0_3], F]) rfl rfl rfl rfl rfl rfl Try.call32 (.sel 0 rfl (.sel 0 rfl (.sel 0 rfl (.nil _)))) (codec_Entries_Put.calls _ _ k x0_0 x0_1 x0_2 a0_3 c0_3 x0_3 (h0_3.lend 2 rfl) hc0_3 hm0_3) hs10v) rfl rfl rfl ?_
 intro y9v
 refine simL_val (q_move rfl rfl) rfl rfl rfl ?_
 refine simL_val (q_ext rfl rfl rfl) rfl rfl rfl ?_
 refine simL_val (q_ext rfl rfl rfl) rfl rfl rfl ?_
 refine simL_val (q_asg rfl rfl) rfl rfl rfl ?_
 refine simL_val (q_asg rfl rfl) rfl rfl rfl ?_
 refine simL_nil ?_
 refine nrm_then ?_
 refine sim_seq ?_
 refine sim_region ?_
 refine simL_val (q_loado 2 rfl rfl Try.isAgg61 Try.sizeOf61 rfl rfl) rfl rfl rfl ?_
 refine simL_bind (fun s11v hs13v => ?_)
 refine simL_eff (re_call (vs := [.agg #[.int .i64 x0_0, .int .i64 x0_1, .int .i64 x0_2, .slice a0_3 x0_3.length c0_3]]) (cap := []) (A := []) (rst := [Row 5 1 y9v.1 s8v.1.length y9v.2 (encB s8v.1), obj b7v 62 [], obj b1v 61 [.int .i64 x0_0, .int .i64 x0_1, .int .i64 x0_2, .slice a0_3 x0_3.length c0_3], F]) rfl rfl rfl rfl rfl rfl Try.call33 (.sel 0 rfl (.sel 0 rfl (.sel 0 rfl (.sel 0 rfl (.nil _))))) (synodref3_PutEntry.calls _ _ k x0_0 x0_1 x0_2 a0_3 c0_3 x0_3 (h0_3.lend 3 rfl) hc0_3 hm0_3) hs13v) rfl rfl rfl ?_
 intro y12v
 refine simL_val (q_move rfl rfl) rfl rfl rfl ?_
 refine simL_val (q_ext rfl rfl rfl) rfl rfl rfl ?_
 refine simL_val (q_ext rfl rfl rfl) rfl rfl rfl ?_
 refine simL_val (q_asg rfl rfl) rfl rfl rfl ?_
 refine simL_val (q_asg rfl rfl) rfl rfl rfl ?_
 refine simL_nil ?_
 refine nrm_then ?_
 refine sim_seq ?_
 refine sim_region ?_
 refine simL_val (q_move rfl rfl) rfl rfl rfl ?_
 refine simL_val (q_move rfl rfl) rfl rfl rfl ?_
 refine simL_bind (fun s22v hs24v => ?_)
 refine simL_lend 1 rfl (fun hq14v hq15v hq16v hq17v => ?_)
 refine simL_lend 0 rfl (fun hq18v hq19v hq20v hq21v => ?_)
 refine simL_eff (re_call (vs := [.slice y9v.1 s8v.1.length y9v.2, .slice y12v.1 s11v.1.length y12v.2]) (cap := []) (A := []) (rst := [Row 5 1 y12v.1 s11v.1.length y12v.2 (encB s11v.1), Row 5 1 y9v.1 s8v.1.length y9v.2 (encB s8v.1), obj b7v 62 [], obj b1v 61 [.int .i64 x0_0, .int .i64 x0_1, .int .i64 x0_2, .slice a0_3 x0_3.length c0_3], F]) rfl rfl rfl rfl rfl rfl Try.call25 (.sel 0 rfl (.sel 0 rfl (.sel 0 rfl (.sel 0 rfl (.sel 0 rfl (.nil _)))))) (synodref_SameBytes.calls _ _ k y9v.1 y9v.2 s8v.1 y12v.1 y12v.2 s11v.1 (hq14v.lend 1 rfl) hq15v hq16v (hq18v.lend 0 rfl) hq19v hq20v) hs24v) rfl rfl rfl ?_
 intro y23v
 refine simL_val (q_asg rfl rfl) rfl rfl rfl ?_
 refine simL_nil ?_
 refine nrm_then ?_
 refine sim_seq ?_
 refine sim_seq ?_
 refine sim_draw (Γ := Unit) () [[], [0], [0, 1], [0, 1, 2], [0, 1, 2, 3], [0, 1, 2], [0, 1, 2, 3, 4, 5], [0, 1, 2, 3, 4, 5, 6], [0, 1, 2, 3, 4, 5, 6, 7], [0, 1, 2, 3, 4, 5, 6, 7, 8], [0, 1, 2, 3, 4, 5, 6, 7, 8], [0, 1, 2, 3, 4, 5, 6, 7, 8, 9, 10], [0, 1, 2, 3, 4, 5, 6, 7, 8, 9, 10, 11], [0, 1, 2, 3, 4, 5, 6, 7, 8], [0, 1, 2, 3, 4, 5, 6, 7, 8, 9, 10, 11, 12, 13], [0, 1, 2, 3, 4, 5, 6, 7, 8, 9, 10, 11, 12, 13, 14], [0, 1, 2, 3, 4, 5, 6, 7, 8, 9, 10, 11, 12, 13, 14, 15]] [] [0, 1, 2, 3, 4, 5, 6, 7, 8, 9, 10, 11, 12, 13, 14, 15, 16] (fun i => [[0], [0], [0], [0], [0], [0], [0], [0], [0], [0], [0], [0], [0], [0], [0], [0], [0]].getD i []) (fun i => [[], [], [], [], [], [], [], [], [], [], [], [], [], [], [], [], []].getD i []) (fun γ i => [.bool s22v, .bool (!s22v), .bool (!s22v), cv ((!s22v) == false) (.int .i64 s8v.2), cv ((!s22v) == false) (.int .i64 (synodref_Num.v s8v.2)), cv ((!s22v) == false) (.int .i64 s11v.2), cv ((!s22v) == false) (.bool (!decide ((synodref_Num.v s8v.2) = s11v.2))), .bool ((!s22v) || (!decide ((synodref_Num.v s8v.2) = s11v.2))), .bool ((!s22v) || (!decide ((synodref_Num.v s8v.2) = s11v.2))), cv (((!s22v) || (!decide ((synodref_Num.v s8v.2) = s11v.2))) == false) (.agg #[]), cv (((!s22v) || (!decide ((synodref_Num.v s8v.2) = s11v.2))) == false) (.agg #[.int .i64 x0_0, .int .i64 x0_1, .int .i64 x0_2, .slice a0_3 x0_3.length c0_3]), cv (((!s22v) || (!decide ((synodref_Num.v s8v.2) = s11v.2))) == false) (.int .i64 (codec_Entries_Check.v x0_0 x0_1 x0_2 x0_3)), cv (((!s22v) || (!decide ((synodref_Num.v s8v.2) = s11v.2))) == false) (.int .i64 (synodref_Num.v (codec_Entries_Check.v x0_0 x0_1 x0_2 x0_3))), cv (((!s22v) || (!decide ((synodref_Num.v s8v.2) = s11v.2))) == false) (.agg #[.int .i64 x0_0, .int .i64 x0_1, .int .i64 x0_2, .slice a0_3 x0_3.length c0_3]), cv (((!s22v) || (!decide ((synodref_Num.v s8v.2) = s11v.2))) == false) (.int .i64 (synodref3_CheckEntry.v x0_0 x0_1 x0_2 x0_3)), cv (((!s22v) || (!decide ((synodref_Num.v s8v.2) = s11v.2))) == false) (.bool (!decide ((synodref_Num.v (codec_Entries_Check.v x0_0 x0_1 x0_2 x0_3)) = (synodref3_CheckEntry.v x0_0 x0_1 x0_2 x0_3)))), .bool (((!s22v) || (!decide ((synodref_Num.v s8v.2) = s11v.2))) || (!decide ((synodref_Num.v (codec_Entries_Check.v x0_0 x0_1 x0_2 x0_3)) = (synodref3_CheckEntry.v x0_0 x0_1 x0_2 x0_3))))].getD i undef) (fun j γ => [[Row 5 1 y12v.1 s11v.1.length y12v.2 (encB s11v.1), Row 5 1 y9v.1 s8v.1.length y9v.2 (encB s8v.1), obj b7v 62 [], obj b1v 61 [.int .i64 x0_0, .int .i64 x0_1, .int .i64 x0_2, .slice a0_3 x0_3.length c0_3], F]].getD j []) (fun γ => [(1, .slice a1 x1.length c1), (2, .pointer (some ⟨b1v, 0, none⟩)), (7, .pointer (some ⟨b7v, 0, none⟩)), (8, .slice y9v.1 s8v.1.length y9v.2), (11, .int .i64 s11v.2), (72, .bool (((!s22v) || (!decide ((synodref_Num.v s8v.2) = s11v.2))) || (!decide ((synodref_Num.v (codec_Entries_Check.v x0_0 x0_1 x0_2 x0_3)) = (synodref3_CheckEntry.v x0_0 x0_1 x0_2 x0_3)))))]) mixed (by decide) (by decide) (by decide) (by decide) (by decide) (by decide) (by decide) 135 rfl (by decide) (by decide) (by decide) (Ent.refl _) ?_ ?_ (fun _ => ⟨rfl, rfl, rfl, rfl, rfl, rfl, trivial⟩) ?_
 exact (All.cons (fun γ => (All.cons (QOb.plain [(12, .bool s22v)] rfl rfl (.o rfl (by decide) .nil) (q_move rfl rfl) rfl) All.nil)) (All.cons (fun γ => (All.cons (QOb.plain [(56, .bool s22v)] rfl rfl (.w 0 rfl rfl rfl .nil) (q_not rfl rfl) rfl) All.nil)) (All.cons (fun γ => (All.cons (QOb.plain [(57, .bool (!s22v))] rfl rfl (.w 1 rfl rfl rfl .nil) (q_move rfl rfl) rfl) All.nil)) (All.cons (fun γ => (All.cons (QOb.grd (b := !s22v) [(9, .int .i64 s8v.2), (58, .bool (!s22v))] rfl rfl rfl rfl (.o rfl (by decide) (.w 2 rfl rfl rfl .nil)) (fun hb37v => RQ.sub (E' := [(9, .int .i64 s8v.2)]) ⟨rfl, trivial⟩ (q_move rfl rfl)) rfl) All.nil)) (All.cons (fun γ => (All.cons (QOb.grd (b := !s22v) [(58, .bool (!s22v)), (59, cv ((!s22v) == false) (.int .i64 s8v.2))] rfl rfl rfl rfl (.w 2 rfl rfl rfl (.w 3 rfl rfl rfl .nil)) (fun hb41v => RQ.sub (E' := [(59, .int .i64 s8v.2)]) ⟨lk_cv rfl hb41v, trivial⟩ (RE.rq (re_call (vs := [.int .i64 s8v.2]) (cap := []) (A := []) (rst := [Row 5 1 y12v.1 s11v.1.length y12v.2 (encB s11v.1), Row 5 1 y9v.1 s8v.1.length y9v.2 (encB s8v.1), obj b7v 62 [], obj b1v 61 [.int .i64 x0_0, .int .i64 x0_1, .int .i64 x0_2, .slice a0_3 x0_3.length c0_3], F]) rfl rfl rfl rfl rfl rfl Try.call26 (.sel 0 rfl (.sel 0 rfl (.sel 0 rfl (.sel 0 rfl (.sel 0 rfl (.nil _)))))) (synodref_Num.calls _ _ s8v.2 ) (synodref_Num.tot s8v.2)) (fun _ => rfl) (fun _ => (.sel 0 rfl (.sel 0 rfl (.sel 0 rfl (.sel 0 rfl (.sel 0 rfl (.nil _))))))))) rfl) All.nil)) (All.cons (fun γ => (All.cons (QOb.grd (b := !s22v) [(11, .int .i64 s11v.2), (58, .bool (!s22v))] rfl rfl rfl rfl (.o rfl (by decide) (.w 2 rfl rfl rfl .nil)) (fun hb42v => RQ.sub (E' := [(11, .int .i64 s11v.2)]) ⟨rfl, trivial⟩ (q_move rfl rfl)) rfl) All.nil)) (All.cons (fun γ => (All.cons (QOb.grd (b := !s22v) [(58, .bool (!s22v)), (60, cv ((!s22v) == false) (.int .i64 (synodref_Num.v s8v.2))), (61, cv ((!s22v) == false) (.int .i64 s11v.2))] rfl rfl rfl rfl (.w 2 rfl rfl rfl (.w 4 rfl rfl rfl (.w 5 rfl rfl rfl .nil))) (fun hb43v => RQ.sub (E' := [(60, .int .i64 (synodref_Num.v s8v.2)), (61, .int .i64 s11v.2)]) ⟨lk_cv rfl hb43v, lk_cv rfl hb43v, trivial⟩ (q_neq rfl rfl rfl)) rfl) All.nil)) (All.cons (fun γ => (All.cons (QOb.plain [(58, .bool (!s22v)), (62, cv ((!s22v) == false) (.bool (!decide ((synodref_Num.v s8v.2) = s11v.2))))] rfl rfl (.w 2 rfl rfl rfl (.w 6 rfl rfl rfl .nil)) (q_or rfl rfl rfl) rfl) All.nil)) (All.cons (fun γ => (All.cons (QOb.plain [(63, .bool ((!s22v) || (!decide ((synodref_Num.v s8v.2) = s11v.2))))] rfl rfl (.w 7 rfl rfl rfl .nil) (q_move rfl rfl) rfl) All.nil)) (All.cons (fun γ => (All.cons (QOb.grd (b := (!s22v) || (!decide ((synodref_Num.v s8v.2) = s11v.2))) [(7, .pointer (some ⟨b7v, 0, none⟩)), (64, .bool ((!s22v) || (!decide ((synodref_Num.v s8v.2) = s11v.2))))] rfl rfl rfl rfl (.o rfl (by decide) (.w 8 rfl rfl rfl .nil)) (fun hb44v => RQ.sub (E' := [(7, .pointer (some ⟨b7v, 0, none⟩))]) ⟨rfl, trivial⟩ (q_loado 2 rfl rfl Try.isAgg62 Try.sizeOf62 rfl rfl)) rfl) All.nil)) (All.cons (fun γ => (All.cons (QOb.grd (b := (!s22v) || (!decide ((synodref_Num.v s8v.2) = s11v.2))) [(2, .pointer (some ⟨b1v, 0, none⟩)), (64, .bool ((!s22v) || (!decide ((synodref_Num.v s8v.2) = s11v.2))))] rfl rfl rfl rfl (.o rfl (by decide) (.w 8 rfl rfl rfl .nil)) (fun hb45v => RQ.sub (E' := [(2, .pointer (some ⟨b1v, 0, none⟩))]) ⟨rfl, trivial⟩ (q_loado 3 rfl rfl Try.isAgg61 Try.sizeOf61 rfl rfl)) rfl) All.nil)) (All.cons (fun γ => (All.cons (QOb.grd (b := (!s22v) || (!decide ((synodref_Num.v s8v.2) = s11v.2))) [(64, .bool ((!s22v) || (!decide ((synodref_Num.v s8v.2) = s11v.2)))), (65, cv (((!s22v) || (!decide ((synodref_Num.v s8v.2) = s11v.2))) == false) (.agg #[])), (66, cv (((!s22v) || (!decide ((synodref_Num.v s8v.2) = s11v.2))) == false) (.agg #[.int .i64 x0_0, .int .i64 x0_1, .int .i64 x0_2, .slice a0_3 x0_3.length c0_3]))] rfl rfl rfl rfl (.w 8 rfl rfl rfl (.w 9 rfl rfl rfl (.w 10 rfl rfl rfl .nil))) (fun hb49v => RQ.sub (E' := [(65, .agg #[]), (66, .agg #[.int .i64 x0_0, .int .i64 x0_1, .int .i64 x0_2, .slice a0_3 x0_3.length c0_3])]) ⟨lk_cv rfl hb49v, lk_cv rfl hb49v, trivial⟩ (RE.rq (re_call (vs := [.agg #[], .agg #[.int .i64 x0_0, .int .i64 x0_1, .int .i64 x0_2, .slice a0_3 x0_3.length c0_3]]) (cap := []) (A := []) (rst := [Row 5 1 y12v.1 s11v.1.length y12v.2 (encB s11v.1), Row 5 1 y9v.1 s8v.1.length y9v.2 (encB s8v.1), obj b7v 62 [], obj b1v 61 [.int .i64 x0_0, .int .i64 x0_1, .int .i64 x0_2, .slice a0_3 x0_3.length c0_3], F]) rfl rfl rfl rfl rfl rfl Try.call34 (.sel 0 rfl (.sel 0 rfl (.sel 0 rfl (.sel 0 rfl (.sel 0 rfl (.nil _)))))) (codec_Entries_Check.calls _ _ x0_0 x0_1 x0_2 a0_3 c0_3 x0_3 (h0_3.lend 4 rfl) hc0_3 hm0_3) (codec_Entries_Check.tot x0_0 x0_1 x0_2 x0_3)) (fun _ => rfl) (fun _ => (.sel 0 rfl (.sel 0 rfl (.sel 0 rfl (.sel 0 rfl (.sel 0 rfl (.nil _))))))))) rfl) All.nil)) (All.cons (fun γ => (All.cons (QOb.grd (b := (!s22v) || (!decide ((synodref_Num.v s8v.2) = s11v.2))) [(64, .bool ((!s22v) || (!decide ((synodref_Num.v s8v.2) = s11v.2)))), (67, cv (((!s22v) || (!decide ((synodref_Num.v s8v.2) = s11v.2))) == false) (.int .i64 (codec_Entries_Check.v x0_0 x0_1 x0_2 x0_3)))] rfl rfl rfl rfl (.w 8 rfl rfl rfl (.w 11 rfl rfl rfl .nil)) (fun hb53v => RQ.sub (E' := [(67, .int .i64 (codec_Entries_Check.v x0_0 x0_1 x0_2 x0_3))]) ⟨lk_cv rfl hb53v, trivial⟩ (RE.rq (re_call (vs := [.int .i64 (codec_Entries_Check.v x0_0 x0_1 x0_2 x0_3)]) (cap := []) (A := []) (rst := [Row 5 1 y12v.1 s11v.1.length y12v.2 (encB s11v.1), Row 5 1 y9v.1 s8v.1.length y9v.2 (encB s8v.1), obj b7v 62 [], obj b1v 61 [.int .i64 x0_0, .int .i64 x0_1, .int .i64 x0_2, .slice a0_3 x0_3.length c0_3], F]) rfl rfl rfl rfl rfl rfl Try.call26 (.sel 0 rfl (.sel 0 rfl (.sel 0 rfl (.sel 0 rfl (.sel 0 rfl (.nil _)))))) (synodref_Num.calls _ _ (codec_Entries_Check.v x0_0 x0_1 x0_2 x0_3) ) (synodref_Num.tot (codec_Entries_Check.v x0_0 x0_1 x0_2 x0_3))) (fun _ => rfl) (fun _ => (.sel 0 rfl (.sel 0 rfl (.sel 0 rfl (.sel 0 rfl (.sel 0 rfl (.nil _))))))))) rfl) All.nil)) (All.cons (fun γ => (All.cons (QOb.grd (b := (!s22v) || (!decide ((synodref_Num.v s8v.2) = s11v.2))) [(2, .pointer (some ⟨b1v, 0, none⟩)), (64, .bool ((!s22v) || (!decide ((synodref_Num.v s8v.2) = s11v.2))))] rfl rfl rfl rfl (.o rfl (by decide) (.w 8 rfl rfl rfl .nil)) (fun hb54v => RQ.sub (E' := [(2, .pointer (some ⟨b1v, 0, none⟩))]) ⟨rfl, trivial⟩ (q_loado 3 rfl rfl Try.isAgg61 Try.sizeOf61 rfl rfl)) rfl) All.nil)) (All.cons (fun γ => (All.cons (QOb.grd (b := (!s22v) || (!decide ((synodref_Num.v s8v.2) = s11v.2))) [(64, .bool ((!s22v) || (!decide ((synodref_Num.v s8v.2) = s11v.2)))), (69, cv (((!s22v) || (!decide ((synodref_Num.v s8v.2) = s11v.2))) == false) (.agg #[.int .i64 x0_0, .int .i64 x0_1, .int .i64 x0_2, .slice a0_3 x0_3.length c0_3]))] rfl rfl rfl rfl (.w 8 rfl rfl rfl (.w 13 rfl rfl rfl .nil)) (fun hb58v => RQ.sub (E' := [(69, .agg #[.int .i64 x0_0, .int .i64 x0_1, .int .i64 x0_2, .slice a0_3 x0_3.length c0_3])]) ⟨lk_cv rfl hb58v, trivial⟩ (RE.rq (re_call (vs := [.agg #[.int .i64 x0_0, .int .i64 x0_1, .int .i64 x0_2, .slice a0_3 x0_3.length c0_3]]) (cap := []) (A := []) (rst := [Row 5 1 y12v.1 s11v.1.length y12v.2 (encB s11v.1), Row 5 1 y9v.1 s8v.1.length y9v.2 (encB s8v.1), obj b7v 62 [], obj b1v 61 [.int .i64 x0_0, .int .i64 x0_1, .int .i64 x0_2, .slice a0_3 x0_3.length c0_3], F]) rfl rfl rfl rfl rfl rfl Try.call35 (.sel 0 rfl (.sel 0 rfl (.sel 0 rfl (.sel 0 rfl (.sel 0 rfl (.nil _)))))) (synodref3_CheckEntry.calls _ _ x0_0 x0_1 x0_2 a0_3 c0_3 x0_3 (h0_3.lend 4 rfl) hc0_3 hm0_3) (synodref3_CheckEntry.tot x0_0 x0_1 x0_2 x0_3)) (fun _ => rfl) (fun _ => (.sel 0 rfl (.sel 0 rfl (.sel 0 rfl (.sel 0 rfl (.sel 0 rfl (.nil _))))))))) rfl) All.nil)) (All.cons (fun γ => (All.cons (QOb.grd (b := (!s22v) || (!decide ((synodref_Num.v s8v.2) = s11v.2))) [(64, .bool ((!s22v) || (!decide ((synodref_Num.v s8v.2) = s11v.2)))), (68, cv (((!s22v) || (!decide ((synodref_Num.v s8v.2) = s11v.2))) == false) (.int .i64 (synodref_Num.v (codec_Entries_Check.v x0_0 x0_1 x0_2 x0_3)))), (70, cv (((!s22v) || (!decide ((synodref_Num.v s8v.2) = s11v.2))) == false) (.int .i64 (synodref3_CheckEntry.v x0_0 x0_1 x0_2 x0_3)))] rfl rfl rfl rfl (.w 8 rfl rfl rfl (.w 12 rfl rfl rfl (.w 14 rfl rfl rfl .nil))) (fun hb59v => RQ.sub (E' := [(68, .int .i64 (synodref_Num.v (codec_Entries_Check.v x0_0 x0_1 x0_2 x0_3))), (70, .int .i64 (synodref3_CheckEntry.v x0_0 x0_1 x0_2 x0_3))]) ⟨lk_cv rfl hb59v, lk_cv rfl hb59v, trivial⟩ (q_neq rfl rfl rfl)) rfl) All.nil)) (All.cons (fun γ => (All.cons (QOb.plain [(64, .bool ((!s22v) || (!decide ((synodref_Num.v s8v.2) = s11v.2)))), (71, cv (((!s22v) || (!decide ((synodref_Num.v s8v.2) = s11v.2))) == false) (.bool (!decide ((synodref_Num.v (codec_Entries_Check.v x0_0 x0_1 x0_2 x0_3)) = (synodref3_CheckEntry.v x0_0 x0_1 x0_2 x0_3)))))] rfl rfl (.w 8 rfl rfl rfl (.w 15 rfl rfl rfl .nil)) (q_or rfl rfl rfl) rfl) All.nil)) All.nil)))))))))))))))))
 exact All.nil
 intro g60v
 refine nrm_then ?_
 refine sim_condb rfl (fun h61v => ?_) (fun h62v => ?_)
 refine sim_seq ?_
 refine sim_region ?_
 refine simL_val (q_asg rfl rfl) rfl rfl rfl ?_
 refine simL_nil ?_
 refine nrm_then ?_
 refine sim_rtn ?_
 refine rtn_then ?_
 exact rtn_fn () rfl rfl rfl (.sel 4 rfl (.nil _))
 refine sim_skip ?_
 refine nrm_then ?_
 refine sim_seq ?_
 refine sim_region ?_
 refine simL_val (q_move rfl rfl) rfl rfl rfl ?_
 refine simL_bind (fun s63v hs65v => ?_)
 refine simL_eff (re_call (vs := [.slice a1 x1.length c1]) (cap := []) (A := []) (rst := [Row 5 1 y12v.1 s11v.1.length y12v.2 (encB s11v.1), Row 5 1 y9v.1 s8v.1.length y9v.2 (encB s8v.1), obj b7v 62 [], obj b1v 61 [.int .i64 x0_0, .int .i64 x0_1, .int .i64 x0_2, .slice a0_3 x0_3.length c0_3], F]) rfl rfl rfl rfl rfl rfl Try.call28 (.sel 0 rfl (.sel 0 rfl (.sel 0 rfl (.sel 0 rfl (.sel 0 rfl (.nil _)))))) (synodref_Lent.calls _ _ a1 c1 x1 (h1.lend 4 rfl) hc1 hm1) hs65v) rfl rfl rfl ?_
 intro y64v
 refine simL_val (q_asg rfl rfl) rfl rfl rfl ?_
 refine simL_nil ?_
 refine nrm_then ?_
 refine sim_seq ?_
 refine sim_region ?_
 refine simL_val (q_loado 3 rfl rfl Try.isAgg62 Try.sizeOf62 rfl rfl) rfl rfl rfl ?_
 refine simL_val (q_move rfl rfl) rfl rfl rfl ?_
 refine simL_bind (fun s70v hs72v => ?_)
 refine simL_lend 0 rfl (fun hq66v hq67v hq68v hq69v => ?_)
 refine simL_eff (re_call (vs := [.agg #[], .slice y64v.1 s63v.1.length y64v.2]) (cap := []) (A := []) (rst := [Row 5 1 y64v.1 s63v.1.length y64v.2 (encB (s63v.1 ++ s63v.2)), Row 5 1 y12v.1 s11v.1.length y12v.2 (encB s11v.1), Row 5 1 y9v.1 s8v.1.length y9v.2 (encB s8v.1), obj b7v 62 [], obj b1v 61 [.int .i64 x0_0, .int .i64 x0_1, .int .i64 x0_2, .slice a0_3 x0_3.length c0_3], F]) rfl rfl rfl rfl rfl rfl Try.call36 (.sel 0 rfl (.sel 0 rfl (.sel 0 rfl (.sel 0 rfl (.sel 0 rfl (.sel 0 rfl (.nil _))))))) (codec_Entries_Get.calls _ _ k y64v.1 y64v.2 s63v.1 ((rd_front hq66v).lend 0 rfl) hq67v hq68v) hs72v) rfl rfl rfl ?_
 intro y71v
 refine simL_val (q_move rfl rfl) rfl rfl rfl ?_
 refine simL_val (q_ext rfl rfl rfl) rfl rfl rfl ?_
 refine simL_val (q_ext rfl rfl rfl) rfl rfl rfl ?_
 refine simL_eff (re_alloc rfl Try.zeroValue61 rfl) rfl rfl rfl ?_
 intro b73v
 refine simL_do (re_store 0 rfl rfl rfl Try.sizeOf61 rfl rfl (one_of (by rfl)) rfl rfl) rfl rfl ?_
 intro _
 refine simL_val (q_asg rfl rfl) rfl rfl rfl ?_
 refine simL_nil ?_
 refine nrm_then ?_
 refine sim_seq ?_
 refine sim_region ?_
 refine simL_val (q_move rfl rfl) rfl rfl rfl ?_
 refine simL_bind (fun s74v hs76v => ?_)
 refine simL_eff (re_call (vs := [.slice a1 x1.length c1]) (cap := []) (A := []) (rst := [obj b73v 61 [.int .i64 s70v.1, .int .i64 s70v.2.1, .int .i64 s70v.2.2.1, .slice y71v.1 s70v.2.2.2.1.length y71v.2], Row 5 1 y71v.1 s70v.2.2.2.1.length y71v.2 (encB s70v.2.2.2.1), Row 5 1 y64v.1 s63v.1.length y64v.2 (encB (s63v.1 ++ s63v.2)), Row 5 1 y12v.1 s11v.1.length y12v.2 (encB s11v.1), Row 5 1 y9v.1 s8v.1.length y9v.2 (encB s8v.1), obj b7v 62 [], obj b1v 61 [.int .i64 x0_0, .int .i64 x0_1, .int .i64 x0_2, .slice a0_3 x0_3.length c0_3], F]) rfl rfl rfl rfl rfl rfl Try.call37 (.sel 0 rfl (.sel 0 rfl (.sel 0 rfl (.sel 0 rfl (.sel 0 rfl (.sel 0 rfl (.sel 0 rfl (.sel 0 rfl (.nil _))))))))) (synodref3_GetEntry.calls _ _ k a1 c1 x1 (h1.lend 7 rfl) hc1 hm1) hs76v) rfl rfl rfl ?_
 intro y75v
 refine simL_val (q_move rfl rfl) rfl rfl rfl ?_
 refine simL_val (q_ext rfl rfl rfl) rfl rfl rfl ?_
 refine simL_val (q_ext rfl rfl rfl) rfl rfl rfl ?_
 refine simL_eff (re_alloc rfl Try.zeroValue61 rfl) rfl rfl rfl ?_
 intro b77v
 refine simL_do (re_store 0 rfl rfl rfl Try.sizeOf61 rfl rfl (one_of (by rfl)) rfl rfl) rfl rfl ?_
 intro _
 refine simL_val (q_asg rfl rfl) rfl rfl rfl ?_
 refine simL_nil ?_
 refine nrm_then ?_
 refine sim_seq ?_
 refine sim_region ?_
 refine simL_val (q_move rfl rfl) rfl rfl rfl ?_
 refine simL_val (q_move rfl rfl) rfl rfl rfl ?_
 refine simL_bind (fun s82v hs84v => ?_)
 refine simL_lendt 4 rfl (fun hq78v hq79v hq80v => ?_)
 refine simL_eff (re_call (vs := [.slice y64v.1 s63v.1.length y64v.2, .slice a1 x1.length c1]) (cap := []) (A := []) (rst := [obj b77v 61 [.int .i64 s74v.1, .int .i64 s74v.2.1, .int .i64 s74v.2.2.1, .slice y75v.1 s74v.2.2.2.1.length y75v.2], Row 5 1 y75v.1 s74v.2.2.2.1.length y75v.2 (encB s74v.2.2.2.1), obj b73v 61 [.int .i64 s70v.1, .int .i64 s70v.2.1, .int .i64 s70v.2.2.1, .slice y71v.1 s70v.2.2.2.1.length y71v.2], Row 5 1 y71v.1 s70v.2.2.2.1.length y71v.2 (encB s70v.2.2.2.1), Row 5 1 y64v.1 s63v.1.length y64v.2 (encB (s63v.1 ++ s63v.2)), Row 5 1 y12v.1 s11v.1.length y12v.2 (encB s11v.1), Row 5 1 y9v.1 s8v.1.length y9v.2 (encB s8v.1), obj b7v 62 [], obj b1v 61 [.int .i64 x0_0, .int .i64 x0_1, .int .i64 x0_2, .slice a0_3 x0_3.length c0_3], F]) rfl rfl rfl rfl rfl rfl Try.call31 (.sel 0 rfl (.sel 0 rfl (.sel 0 rfl (.sel 0 rfl (.sel 0 rfl (.sel 0 rfl (.sel 0 rfl (.sel 0 rfl (.sel 0 rfl (.sel 0 rfl (.nil _))))))))))) (synodref_Kept.calls _ _ k y64v.1 y64v.2 s63v.1 s63v.2 a1 c1 x1 (hq78v.lend 4 rfl) (by rw [encB_length, Nat.mul_one] at hq79v; exact hq79v) hq80v (h1.lend 9 rfl) hc1 hm1) hs84v) rfl rfl rfl ?_
 intro y83v
 refine simL_val (q_asg rfl rfl) rfl rfl rfl ?_
 refine simL_nil ?_
 refine nrm_then ?_
 refine sim_seq ?_
 refine sim_region ?_
 refine simL_val (q_loado 2 rfl rfl Try.isAgg61 Try.sizeOf61 rfl rfl) rfl rfl rfl ?_
 refine simL_val (q_loado 0 rfl rfl Try.isAgg61 Try.sizeOf61 rfl rfl) rfl rfl rfl ?_
 refine simL_bind (fun s93v hs95v => ?_)
 refine simL_lend 3 rfl (fun hq85v hq86v hq87v hq88v => ?_)
 refine simL_lend 1 rfl (fun hq89v hq90v hq91v hq92v => ?_)
 refine simL_eff (re_call (vs := [.agg #[.int .i64 s70v.1, .int .i64 s70v.2.1, .int .i64 s70v.2.2.1, .slice y71v.1 s70v.2.2.2.1.length y71v.2], .agg #[.int .i64 s74v.1, .int .i64 s74v.2.1, .int .i64 s74v.2.2.1, .slice y75v.1 s74v.2.2.2.1.length y75v.2]]) (cap := []) (A := []) (rst := [obj b77v 61 [.int .i64 s74v.1, .int .i64 s74v.2.1, .int .i64 s74v.2.2.1, .slice y75v.1 s74v.2.2.2.1.length y75v.2], Row 5 1 y75v.1 s74v.2.2.2.1.length y75v.2 (encB s74v.2.2.2.1), obj b73v 61 [.int .i64 s70v.1, .int .i64 s70v.2.1, .int .i64 s70v.2.2.1, .slice y71v.1 s70v.2.2.2.1.length y71v.2], Row 5 1 y71v.1 s70v.2.2.2.1.length y71v.2 (encB s70v.2.2.2.1), Row 5 1 y64v.1 s63v.1.length y64v.2 (encB (s63v.1 ++ s63v.2)), Row 5 1 y12v.1 s11v.1.length y12v.2 (encB s11v.1), Row 5 1 y9v.1 s8v.1.length y9v.2 (encB s8v.1), obj b7v 62 [], obj b1v 61 [.int .i64 x0_0, .int .i64 x0_1, .int .i64 x0_2, .slice a0_3 x0_3.length c0_3], F]) rfl rfl rfl rfl rfl rfl Try.call38 (.sel 0 rfl (.sel 0 rfl (.sel 0 rfl (.sel 0 rfl (.sel 0 rfl (.sel 0 rfl (.sel 0 rfl (.sel 0 rfl (.sel 0 rfl (.sel 0 rfl (.nil _))))))))))) (synodref_SameEntry.calls _ _ k s70v.1 s70v.2.1 s70v.2.2.1 y71v.1 y71v.2 s70v.2.2.2.1 s74v.1 s74v.2.1 s74v.2.2.1 y75v.1 y75v.2 s74v.2.2.2.1 (hq85v.lend 3 rfl) hq86v hq87v (hq89v.lend 1 rfl) hq90v hq91v) hs95v) rfl rfl rfl ?_
 intro y94v
 refine simL_val (q_asg rfl rfl) rfl rfl rfl ?_
 refine simL_nil ?_
 refine nrm_then ?_
 refine sim_seq ?_
 refine sim_seq ?_
 refine sim_region ?_
 refine simL_val (q_move rfl rfl) rfl rfl rfl ?_
 refine simL_val (q_not rfl rfl) rfl rfl rfl ?_
 refine simL_val (q_move rfl rfl) rfl rfl rfl ?_
 refine simL_cut' 5 (S := Bool) (Unit) (fun s y => [(2, .pointer (some ⟨b1v, 0, none⟩)), (7, .pointer (some ⟨b7v, 0, none⟩)), (8, .slice y9v.1 s8v.1.length y9v.2), (11, .int .i64 s11v.2), (18, .bool s82v), (99, .bool s)]) (fun s y => [obj b7v 62 [], obj b1v 61 [.int .i64 x0_0, .int .i64 x0_1, .int .i64 x0_2, .slice a0_3 x0_3.length c0_3], Row 5 1 y9v.1 s8v.1.length y9v.2 (encB s8v.1), F]) ?_ ?_
 refine simL_caseb (fun hb101v => ?_) (fun hb102v => ?_)
 rw [hb101v]
 refine simL_skipd rfl rfl rfl rfl rfl rfl ?_
 refine simL_skipd rfl rfl rfl rfl rfl rfl ?_
 refine simL_skipd rfl rfl rfl rfl rfl rfl ?_
 refine simL_skipd rfl rfl rfl rfl rfl rfl ?_
 refine simL_val (q_pick rfl rfl rfl rfl rfl) rfl rfl rfl ?_
 refine simL_nil ?_
 exact nrm_cut (s := true) () ⟨rfl, rfl, rfl, rfl, rfl, rfl, trivial⟩ (.sel 7 rfl (.sel 7 rfl (.sel 6 rfl (.sel 6 rfl (.nil _)))))
 rw [hb102v]
 refine simL_valg (q_move rfl rfl) rfl rfl rfl rfl rfl rfl ?_
 refine simL_bind (fun s98v hs100v => ?_)
 refine simL_effg (re_call (vs := [.int .i64 s70v.2.2.2.2]) (cap := []) (A := []) (rst := [obj b77v 61 [.int .i64 s74v.1, .int .i64 s74v.2.1, .int .i64 s74v.2.2.1, .slice y75v.1 s74v.2.2.2.1.length y75v.2], Row 5 1 y75v.1 s74v.2.2.2.1.length y75v.2 (encB s74v.2.2.2.1), obj b73v 61 [.int .i64 s70v.1, .int .i64 s70v.2.1, .int .i64 s70v.2.2.1, .slice y71v.1 s70v.2.2.2.1.length y71v.2], Row 5 1 y71v.1 s70v.2.2.2.1.length y71v.2 (encB s70v.2.2.2.1), Row 5 1 y64v.1 s63v.1.length y64v.2 (encB (s63v.1 ++ s63v.2)), Row 5 1 y12v.1 s11v.1.length y12v.2 (encB s11v.1), Row 5 1 y9v.1 s8v.1.length y9v.2 (encB s8v.1), obj b7v 62 [], obj b1v 61 [.int .i64 x0_0, .int .i64 x0_1, .int .i64 x0_2, .slice a0_3 x0_3.length c0_3], F]) rfl rfl rfl rfl rfl rfl Try.call26 (.sel 0 rfl (.sel 0 rfl (.sel 0 rfl (.sel 0 rfl (.sel 0 rfl (.sel 0 rfl (.sel 0 rfl (.sel 0 rfl (.sel 0 rfl (.sel 0 rfl (.nil _))))))))))) (synodref_Num.calls _ _ s70v.2.2.2.2 ) hs100v) rfl rfl rfl rfl rfl rfl ?_
 intro y99v
 refine simL_valg (q_move rfl rfl) rfl rfl rfl rfl rfl rfl ?_
 refine simL_valg (q_neq rfl rfl rfl) rfl rfl rfl rfl rfl rfl ?_
 refine simL_val (q_pick rfl rfl rfl rfl rfl) rfl rfl rfl ?_
 refine simL_nil ?_
 exact nrm_cut (s := !decide (s98v = s74v.2.2.2.2)) () ⟨rfl, rfl, rfl, rfl, rfl, rfl, trivial⟩ (.sel 7 rfl (.sel 7 rfl (.sel 6 rfl (.sel 6 rfl (.nil _)))))
 intro s96v y97v
 refine simL_val (q_move rfl rfl) rfl rfl rfl ?_
 refine simL_valc (b := s96v) (fun hb154v => RQ.sub (E' := [(18, .bool s82v)]) ⟨rfl, trivial⟩ (q_move rfl rfl)) rfl rfl rfl rfl rfl ?_
 refine simL_valc (b := s96v) (fun hb153v => RQ.sub (E' := [(101, .bool s82v)]) ⟨lk_cv rfl hb153v, trivial⟩ (q_not rfl rfl)) rfl rfl rfl rfl rfl ?_
 refine simL_val (q_or rfl rfl rfl) rfl rfl rfl ?_
 refine simL_nil ?_
 refine nrm_then ?_
 refine sim_condb rfl (fun h103v => ?_) (fun h104v => ?_)
 refine sim_seq ?_
 refine sim_region ?_
 refine simL_val (q_asg rfl rfl) rfl rfl rfl ?_
 refine simL_nil ?_
 refine nrm_then ?_
 refine sim_rtn ?_
 refine rtn_then ?_
 exact rtn_fn () rfl rfl rfl (.sel 3 rfl (.nil _))
 refine sim_skip ?_
 refine nrm_then ?_
 refine sim_seq ?_
 refine sim_seq ?_
 refine sim_region ?_
 refine simL_val (q_move rfl rfl) rfl rfl rfl ?_
 refine simL_val (q_neq rfl rfl rfl) rfl rfl rfl ?_
 refine simL_nil ?_
 refine nrm_then ?_
 refine sim_condn rfl (fun h105v => ?_) (fun h106v => ?_)
 refine sim_skip ?_
 refine nrm_then ?_
 refine sim_seq ?_
 refine sim_region ?_
 refine simL_val (q_loado 0 rfl rfl Try.isAgg62 Try.sizeOf62 rfl rfl) rfl rfl rfl ?_
 refine simL_val (q_move rfl rfl) rfl rfl rfl ?_
 refine simL_bind (fun s111v hs113v => ?_)
 refine simL_lend 2 rfl (fun hq107v hq108v hq109v hq110v => ?_)
 refine simL_eff (re_call (vs := [.agg #[], .slice y9v.1 s8v.1.length y9v.2]) (cap := []) (A := []) (rst := [obj b7v 62 [], obj b1v 61 [.int .i64 x0_0, .int .i64 x0_1, .int .i64 x0_2, .slice a0_3 x0_3.length c0_3], Row 5 1 y9v.1 s8v.1.length y9v.2 (encB s8v.1), F]) rfl rfl rfl rfl rfl rfl Try.call36 (.sel 0 rfl (.sel 0 rfl (.sel 0 rfl (.sel 0 rfl (.nil _))))) (codec_Entries_Get.calls _ _ k y9v.1 y9v.2 s8v.1 (hq107v.lend 2 rfl) hq108v hq109v) hs113v) rfl rfl rfl ?_
 intro y112v
 refine simL_val (q_move rfl rfl) rfl rfl rfl ?_
 refine simL_val (q_ext rfl rfl rfl) rfl rfl rfl ?_
 refine simL_val (q_ext rfl rfl rfl) rfl rfl rfl ?_
 refine simL_eff (re_alloc rfl Try.zeroValue61 rfl) rfl rfl rfl ?_
 intro b114v
 refine simL_do (re_store 0 rfl rfl rfl Try.sizeOf61 rfl rfl (one_of (by rfl)) rfl rfl) rfl rfl ?_
 intro _
 refine simL_val (q_asg rfl rfl) rfl rfl rfl ?_
 refine simL_nil ?_
 refine nrm_then ?_
 refine sim_seq ?_
 refine sim_region ?_
 refine simL_val (q_loado 0 rfl rfl Try.isAgg61 Try.sizeOf61 rfl rfl) rfl rfl rfl ?_
 refine simL_val (q_loado 3 rfl rfl Try.isAgg61 Try.sizeOf61 rfl rfl) rfl rfl rfl ?_
 refine simL_bind (fun s119v hs121v => ?_)
 refine simL_lend 1 rfl (fun hq115v hq116v hq117v hq118v => ?_)
 refine simL_eff (re_call (vs := [.agg #[.int .i64 s111v.1, .int .i64 s111v.2.1, .int .i64 s111v.2.2.1, .slice y112v.1 s111v.2.2.2.1.length y112v.2], .agg #[.int .i64 x0_0, .int .i64 x0_1, .int .i64 x0_2, .slice a0_3 x0_3.length c0_3]]) (cap := []) (A := []) (rst := [obj b114v 61 [.int .i64 s111v.1, .int .i64 s111v.2.1, .int .i64 s111v.2.2.1, .slice y112v.1 s111v.2.2.2.1.length y112v.2], Row 5 1 y112v.1 s111v.2.2.2.1.length y112v.2 (encB s111v.2.2.2.1), obj b7v 62 [], obj b1v 61 [.int .i64 x0_0, .int .i64 x0_1, .int .i64 x0_2, .slice a0_3 x0_3.length c0_3], Row 5 1 y9v.1 s8v.1.length y9v.2 (encB s8v.1), F]) rfl rfl rfl rfl rfl rfl Try.call38 (.sel 0 rfl (.sel 0 rfl (.sel 0 rfl (.sel 0 rfl (.sel 0 rfl (.sel 0 rfl (.nil _))))))) (synodref_SameEntry.calls _ _ k s111v.1 s111v.2.1 s111v.2.2.1 y112v.1 y112v.2 s111v.2.2.2.1 x0_0 x0_1 x0_2 a0_3 c0_3 x0_3 (hq115v.lend 1 rfl) hq116v hq117v (h0_3.lend 5 rfl) hc0_3 hm0_3) hs121v) rfl rfl rfl ?_
 intro y120v
 refine simL_val (q_asg rfl rfl) rfl rfl rfl ?_
 refine simL_nil ?_
 refine nrm_then ?_
 refine sim_cut (S := Unit) (Unit) (fun s y => [(2, .pointer (some ⟨b1v, 0, none⟩)), (20, .pointer (some ⟨b114v, 0, none⟩)), (21, .int .i64 s111v.2.2.2.2), (22, .bool s119v)]) (fun s y => [obj b114v 61 [.int .i64 s111v.1, .int .i64 s111v.2.1, .int .i64 s111v.2.2.1, .slice y112v.1 s111v.2.2.2.1.length y112v.2], obj b1v 61 [.int .i64 x0_0, .int .i64 x0_1, .int .i64 x0_2, .slice a0_3 x0_3.length c0_3], Row 5 1 y112v.1 s111v.2.2.2.1.length y112v.2 (encB s111v.2.2.2.1), F]) ?_ ?_
 refine sim_seq ?_
 refine sim_region ?_
 refine simL_val (q_asg rfl rfl) rfl rfl rfl ?_
 refine simL_nil ?_
 refine nrm_then ?_
 refine sim_block ?_
 refine sim_loop (S := List UInt8 × Int) (Unit) (fun k s => synodlaw3_CodecEntries.l0 k s.1 s.2) (fun s y => [(2, .pointer (some ⟨b1v, 0, none⟩)), (8, .slice y9v.1 s.1.length y9v.2), (20, .pointer (some ⟨b114v, 0, none⟩)), (21, .int .i64 s111v.2.2.2.2), (22, .bool s119v), (23, .int .i64 s.2)]) (fun s y => [obj b114v 61 [.int .i64 s111v.1, .int .i64 s111v.2.1, .int .i64 s111v.2.2.1, .slice y112v.1 s111v.2.2.2.1.length y112v.2], obj b1v 61 [.int .i64 x0_0, .int .i64 x0_1, .int .i64 x0_2, .slice a0_3 x0_3.length c0_3], Row 5 1 y9v.1 s.1.length y9v.2 (encB s.1), Row 5 1 y112v.1 s111v.2.2.2.1.length y112v.2 (encB s111v.2.2.2.1), F]) (fun _ => by rw [synodlaw3_CodecEntries.l0]) ?_ k (s8v.1, 0) () ⟨rfl, rfl, rfl, rfl, rfl, rfl, trivial⟩ (.sel 0 rfl (.sel 2 rfl (.sel 2 rfl (.sel 0 rfl (.sel 1 rfl (.nil _))))))
 intro k s124v y125v
 refine sim_eq (by rw [synodlaw3_CodecEntries.l0]) ?_
 refine sim_seq ?_
 refine sim_seq ?_
 refine sim_region ?_
 refine simL_val (q_move rfl rfl) rfl rfl rfl ?_
 refine simL_val (q_move rfl rfl) rfl rfl rfl ?_
 refine simL_val (q_len rfl rfl rfl Try.underlying27) rfl rfl rfl ?_
 refine simL_val (q_lss rfl rfl rfl) rfl rfl rfl ?_
 refine simL_nil ?_
 refine nrm_then ?_
 refine sim_cond rfl (fun h128v => ?_) (fun h129v => ?_)
 refine sim_skip ?_
 refine nrm_then ?_
 refine sim_seq ?_
 refine sim_block ?_
 refine sim_region ?_
 refine simL_val (q_move rfl rfl) rfl rfl rfl ?_
 refine simL_val (q_move rfl rfl) rfl rfl rfl ?_
 refine simL_ask (fun hi130v => ?_)
 refine simL_row 2 rfl (encB_ne (j := s124v.2.toNat) (by omega)) (fun b131v b131vo ha132v => ?_)
 refine simL_val (q_idx1 rfl rfl rfl ha132v Try.underlying27 Try.sizeOf5 hi130v.1 hi130v.2) rfl rfl rfl ?_
 refine simL_do (re_storeb 255 2 rfl rfl rfl Try.sizeOf5 rfl ha132v hi130v.2 hi130v.1 rfl) rfl rfl ?_
 intro _
 refine simL_ren (.slice y9v.1 ((s124v.1.set s124v.2.toNat 255).length) y9v.2) (d := 8) rfl (slc_len (by simp)) ?_
 refine simL_ren (.slice y9v.1 ((s124v.1.set s124v.2.toNat 255).length) y9v.2) (d := 116) rfl (slc_len (by simp)) ?_
 refine simL_ren (.slice y9v.1 ((s124v.1.set s124v.2.toNat 255).length) y9v.2) (d := 121) rfl (slc_len (by simp)) ?_
 refine simL_nil ?_
 refine nrm_block ?_
 refine nrm_then ?_
 refine sim_region ?_
 refine simL_val (q_move rfl rfl) rfl rfl rfl ?_
 refine simL_val (q_add rfl rfl rfl) rfl rfl rfl ?_
 refine simL_val (q_asg rfl rfl) rfl rfl rfl ?_
 refine simL_nil ?_
 exact nrm_again (s := (s124v.1.set s124v.2.toNat 255, IntKind.i64.wrap (s124v.2 + 1))) () ⟨rfl, rfl, rfl, rfl, rfl, rfl, trivial⟩ (.sel 0 rfl (.sel 0 rfl (.sel 0 rfl (.sel 0 rfl (.sel 0 rfl (.nil _))))))
 refine sim_exi ?_
 refine exi_then ?_
 refine exi_loop ?_
 refine exi_here ?_
 exact nrm_cut (s := ()) () ⟨rfl, rfl, rfl, rfl, trivial⟩ (.sel 0 rfl (.sel 0 rfl (.sel 1 rfl (.sel 1 rfl (.nil _)))))
 intro s122v y123v
 refine sim_seq ?_
 refine sim_region ?_
 refine simL_val (q_move rfl rfl) rfl rfl rfl ?_
 refine simL_val (q_move rfl rfl) rfl rfl rfl ?_
 refine simL_cut' 4 (S := Bool) (Unit) (fun s y => [(2, .pointer (some ⟨b1v, 0, none⟩)), (20, .pointer (some ⟨b114v, 0, none⟩)), (129, .bool s)]) (fun s y => [obj b114v 61 [.int .i64 s111v.1, .int .i64 s111v.2.1, .int .i64 s111v.2.2.1, .slice y112v.1 s111v.2.2.2.1.length y112v.2], obj b1v 61 [.int .i64 x0_0, .int .i64 x0_1, .int .i64 x0_2, .slice a0_3 x0_3.length c0_3], Row 5 1 y112v.1 s111v.2.2.2.1.length y112v.2 (encB s111v.2.2.2.1), F]) ?_ ?_
 refine simL_caseb (fun hb140v => ?_) (fun hb141v => ?_)
 rw [hb140v]
 refine simL_valg (q_move rfl rfl) rfl rfl rfl rfl rfl rfl ?_
 refine simL_bind (fun s137v hs139v => ?_)
 refine simL_effg (re_call (vs := [.int .i64 s111v.2.2.2.2]) (cap := []) (A := []) (rst := [obj b114v 61 [.int .i64 s111v.1, .int .i64 s111v.2.1, .int .i64 s111v.2.2.1, .slice y112v.1 s111v.2.2.2.1.length y112v.2], obj b1v 61 [.int .i64 x0_0, .int .i64 x0_1, .int .i64 x0_2, .slice a0_3 x0_3.length c0_3], Row 5 1 y112v.1 s111v.2.2.2.1.length y112v.2 (encB s111v.2.2.2.1), F]) rfl rfl rfl rfl rfl rfl Try.call26 (.sel 0 rfl (.sel 0 rfl (.sel 0 rfl (.sel 0 rfl (.nil _))))) (synodref_Num.calls _ _ s111v.2.2.2.2 ) hs139v) rfl rfl rfl rfl rfl rfl ?_
 intro y138v
 refine simL_valg (q_eql rfl rfl rfl) rfl rfl rfl rfl rfl rfl ?_
 refine simL_val (q_pick rfl rfl rfl rfl rfl) rfl rfl rfl ?_
 refine simL_nil ?_
 exact nrm_cut (s := decide (s137v = (0 : Int))) () ⟨rfl, rfl, rfl, trivial⟩ (.sel 0 rfl (.sel 0 rfl (.sel 0 rfl (.sel 0 rfl (.nil _)))))
 rw [hb141v]
 refine simL_skipd rfl rfl rfl rfl rfl rfl ?_
 refine simL_skipd rfl rfl rfl rfl rfl rfl ?_
 refine simL_skipd rfl rfl rfl rfl rfl rfl ?_
 refine simL_val (q_pick rfl rfl rfl rfl rfl) rfl rfl rfl ?_
 refine simL_nil ?_
 exact nrm_cut (s := false) () ⟨rfl, rfl, rfl, trivial⟩ (.sel 0 rfl (.sel 0 rfl (.sel 0 rfl (.sel 0 rfl (.nil _)))))
 intro s135v y136v
 refine simL_val (q_move rfl rfl) rfl rfl rfl ?_
 refine simL_cut' 4 (S := Bool) (Unit) (fun s y => [(134, .bool s)]) (fun s y => [F]) ?_ ?_
 refine simL_caseb (fun hb151v => ?_) (fun hb152v => ?_)
 rw [hb151v]
 refine simL_valg (q_loado 0 rfl rfl Try.isAgg61 Try.sizeOf61 rfl rfl) rfl rfl rfl rfl rfl rfl ?_
 refine simL_valg (q_loado 1 rfl rfl Try.isAgg61 Try.sizeOf61 rfl rfl) rfl rfl rfl rfl rfl rfl ?_
 refine simL_bind (fun s148v hs150v => ?_)
 refine simL_lend 2 rfl (fun hq144v hq145v hq146v hq147v => ?_)
 refine simL_effg (re_call (vs := [.agg #[.int .i64 s111v.1, .int .i64 s111v.2.1, .int .i64 s111v.2.2.1, .slice y112v.1 s111v.2.2.2.1.length y112v.2], .agg #[.int .i64 x0_0, .int .i64 x0_1, .int .i64 x0_2, .slice a0_3 x0_3.length c0_3]]) (cap := []) (A := []) (rst := [obj b114v 61 [.int .i64 s111v.1, .int .i64 s111v.2.1, .int .i64 s111v.2.2.1, .slice y112v.1 s111v.2.2.2.1.length y112v.2], obj b1v 61 [.int .i64 x0_0, .int .i64 x0_1, .int .i64 x0_2, .slice a0_3 x0_3.length c0_3], Row 5 1 y112v.1 s111v.2.2.2.1.length y112v.2 (encB s111v.2.2.2.1), F]) rfl rfl rfl rfl rfl rfl Try.call38 (.sel 0 rfl (.sel 0 rfl (.sel 0 rfl (.sel 0 rfl (.nil _))))) (synodref_SameEntry.calls _ _ k s111v.1 s111v.2.1 s111v.2.2.1 y112v.1 y112v.2 s111v.2.2.2.1 x0_0 x0_1 x0_2 a0_3 c0_3 x0_3 (hq144v.lend 2 rfl) hq145v hq146v (h0_3.lend 3 rfl) hc0_3 hm0_3) hs150v) rfl rfl rfl rfl rfl rfl ?_
 intro y149v
 refine simL_val (q_pick rfl rfl rfl rfl rfl) rfl rfl rfl ?_
 refine simL_nil ?_
 exact nrm_cut (s := s148v) () ⟨rfl, trivial⟩ (.sel 3 rfl (.nil _))
 rw [hb152v]
 refine simL_skipd rfl rfl rfl rfl rfl rfl ?_
 refine simL_skipd rfl rfl rfl rfl rfl rfl ?_
 refine simL_skipd rfl rfl rfl rfl rfl rfl ?_
 refine simL_val (q_pick rfl rfl rfl rfl rfl) rfl rfl rfl ?_
 refine simL_nil ?_
 exact nrm_cut (s := false) () ⟨rfl, trivial⟩ (.sel 3 rfl (.nil _))
 intro s142v y143v
 refine simL_val (q_asg rfl rfl) rfl rfl rfl ?_
 refine simL_nil ?_
 refine nrm_then ?_
 refine sim_rtn ?_
 exact rtn_fn () rfl rfl rfl (.sel 0 rfl (.nil _))
 refine sim_seq ?_
 refine sim_region ?_
 refine simL_val (q_asg rfl rfl) rfl rfl rfl ?_
 refine simL_nil ?_
 refine nrm_then ?_
 refine sim_rtn ?_
 refine rtn_then ?_
 exact rtn_fn () rfl rfl rfl (.sel 3 rfl (.nil _))

def synodref3_None.f (x0_0 : Int) (x0_1 : Int) (x0_2 : List UInt8) : Option (Bool) := some (((decide (x0_0 = (0 : Int))) && (decide (x0_1 = (0 : Int)))) && (decide ((x0_2.length : Int) = (0 : Int))))
theorem synodref3_None.calls (W : World) (F : HA) (x0_0 : Int) (x0_1 : Int) (a0_2 : Option Addr) (c0_2 : Nat) (x0_2 : List UInt8) (h0_2 : Rd F a0_2 (encB x0_2)) (hc0_2 : x0_2.length ≤ c0_2) (hm0_2 : c0_2 ≤ maxLen) :
    Fn Try.prog W 74 [.agg #[.int .i64 x0_0, .int .i64 x0_1, .slice a0_2 x0_2.length c0_2]] [] F (synodref3_None.f x0_0 x0_1 x0_2) (fun (r : Bool) (y : Unit) => .bool r) (fun r y => []) := by
 unfold synodref3_None.f
 refine fn_intro 17 Try.func74 rfl Try.ntmps74 rfl ?_
 refine sim_seq ?_
 refine sim_region ?_
 refine simL_eff (re_box rfl rfl rfl) rfl rfl rfl ?_
 intro b1v
 refine simL_val (q_asg rfl rfl) rfl rfl rfl ?_
 refine simL_nil ?_
 refine nrm_then ?_
 refine sim_seq ?_
 refine sim_region ?_
 refine simL_val (q_fa rfl rfl Try.underlying29 rfl rfl Try.sizeOf3 rfl) rfl rfl rfl ?_
 refine simL_val (q_load rfl rfl Try.isAgg3 (.obj 0 rfl rfl)) rfl rfl rfl ?_
 refine simL_val (q_eql rfl rfl rfl) rfl rfl rfl ?_
 refine simL_val (q_move rfl rfl) rfl rfl rfl ?_
 refine simL_valc (b := decide (x0_0 = (0 : Int))) (fun hb8v => RQ.sub (E' := [(1, .pointer (some ⟨b1v, 0, none⟩))]) ⟨rfl, trivial⟩ (q_fa rfl rfl Try.underlying29 rfl rfl Try.sizeOf3 rfl)) rfl rfl rfl rfl rfl ?_
 refine simL_valc (b := decide (x0_0 = (0 : Int))) (fun hb7v => RQ.sub (E' := [(7, .pointer (some ⟨b1v, 1, none⟩))]) ⟨lk_cv rfl hb7v, trivial⟩ (q_load rfl rfl Try.isAgg3 (.obj 0 rfl rfl))) rfl rfl rfl rfl rfl ?_
 refine simL_valc (b := decide (x0_0 = (0 : Int))) (fun hb6v => RQ.sub (E' := [(8, .int .i64 x0_1)]) ⟨lk_cv rfl hb6v, trivial⟩ (q_eql rfl rfl rfl)) rfl rfl rfl rfl rfl ?_
 refine simL_val (q_and rfl rfl rfl) rfl rfl rfl ?_
 refine simL_val (q_move rfl rfl) rfl rfl rfl ?_
 refine simL_valc (b := (decide (x0_0 = (0 : Int))) && (decide (x0_1 = (0 : Int)))) (fun hb5v => RQ.sub (E' := [(1, .pointer (some ⟨b1v, 0, none⟩))]) ⟨rfl, trivial⟩ (q_fa rfl rfl Try.underlying29 rfl rfl Try.sizeOf27 rfl)) rfl rfl rfl rfl rfl ?_
 refine simL_valc (b := (decide (x0_0 = (0 : Int))) && (decide (x0_1 = (0 : Int)))) (fun hb4v => RQ.sub (E' := [(12, .pointer (some ⟨b1v, 2, none⟩))]) ⟨lk_cv rfl hb4v, trivial⟩ (q_load rfl rfl Try.isAgg27 (.obj 0 rfl rfl))) rfl rfl rfl rfl rfl ?_
 refine simL_valc (b := (decide (x0_0 = (0 : Int))) && (decide (x0_1 = (0 : Int)))) (fun hb3v => RQ.sub (E' := [(13, .slice a0_2 x0_2.length c0_2)]) ⟨lk_cv rfl hb3v, trivial⟩ (q_len rfl rfl rfl Try.underlying27)) rfl rfl rfl rfl rfl ?_
 refine simL_valc (b := (decide (x0_0 = (0 : Int))) && (decide (x0_1 = (0 : Int)))) (fun hb2v => RQ.sub (E' := [(14, .int .i64 (x0_2.length : Int))]) ⟨lk_cv rfl hb2v, trivial⟩ (q_eql rfl rfl rfl)) rfl rfl rfl rfl rfl ?_
 refine simL_val (q_and rfl rfl rfl) rfl rfl rfl ?_
 refine simL_val (q_asg rfl rfl) rfl rfl rfl ?_
 refine simL_nil ?_
 refine nrm_then ?_
 refine sim_rtn ?_
 exact rtn_fn () rfl rfl rfl (.sel 1 rfl (.nil _))
def synodref3_None.v (x0_0 : Int) (x0_1 : Int) (x0_2 : List UInt8) : Bool := (synodref3_None.f x0_0 x0_1 x0_2).getD false
theorem synodref3_None.tot (x0_0 : Int) (x0_1 : Int) (x0_2 : List UInt8) : synodref3_None.f x0_0 x0_1 x0_2 = some (synodref3_None.v x0_0 x0_1 x0_2) := by
  have h : ∃ r, synodref3_None.f x0_0 x0_1 x0_2 = some r := by
    unfold synodref3_None.f
    repeat' (first | exact ⟨_, rfl⟩ | split | simp only [Option.bind_some])
  obtain ⟨r, h⟩ := h
  unfold synodref3_None.v
  rw [h]; rfl

def synodref3_CheckSnap.f (x0_0 : Int) (x0_1 : Int) (x0_2 : List UInt8) : Option (Int) := (synodref3_None.f x0_0 x0_1 x0_2).bind fun s2v => (if s2v = true then (some 0) else ((synodref3_within.f x0_0 (1 : Int) (4611686018427387904 : Int)).bind fun s7v => ((if (!s7v) = true then (some true) else ((synodref3_within.f x0_1 (1 : Int) (4611686018427387904 : Int)).bind fun s12v => (some (!s12v)))).bind fun s10v => (if s10v = true then (some 1) else (if (524288 : Int) < (x0_2.length : Int) then (some 3) else (some 0))))))
theorem synodref3_CheckSnap.calls (W : World) (F : HA) (x0_0 : Int) (x0_1 : Int) (a0_2 : Option Addr) (c0_2 : Nat) (x0_2 : List UInt8) (h0_2 : Rd F a0_2 (encB x0_2)) (hc0_2 : x0_2.length ≤ c0_2) (hm0_2 : c0_2 ≤ maxLen) :
    Fn Try.prog W 42 [.agg #[.int .i64 x0_0, .int .i64 x0_1, .slice a0_2 x0_2.length c0_2]] [] F (synodref3_CheckSnap.f x0_0 x0_1 x0_2) (fun (r : Int) (y : Unit) => .int .i64 r) (fun r y => []) := by
 unfold synodref3_CheckSnap.f
 refine fn_intro 19 Try.func42 rfl Try.ntmps42 rfl ?_
 refine sim_seq ?_
 refine sim_region ?_
 refine simL_eff (re_box rfl rfl rfl) rfl rfl rfl ?_
 intro b1v
 refine simL_val (q_asg rfl rfl) rfl rfl rfl ?_
 refine simL_nil ?_
 refine nrm_then ?_
 refine sim_seq ?_
 refine sim_seq ?_
 refine sim_region ?_
 refine simL_val (q_loado 0 rfl rfl Try.isAgg29 Try.sizeOf29 rfl rfl) rfl rfl rfl ?_
 refine simL_bind (fun s2v hs4v => ?_)
 refine simL_eff (re_call (vs := [.agg #[.int .i64 x0_0, .int .i64 x0_1, .slice a0_2 x0_2.length c0_2]]) (cap := []) (A := []) (rst := [obj b1v 29 [.int .i64 x0_0, .int .i64 x0_1, .slice a0_2 x0_2.length c0_2], F]) rfl rfl rfl rfl rfl rfl Try.call74 (.sel 0 rfl (.sel 0 rfl (.nil _))) (synodref3_None.calls _ _ x0_0 x0_1 a0_2 c0_2 x0_2 (h0_2.lend 1 rfl) hc0_2 hm0_2) hs4v) rfl rfl rfl ?_
 intro y3v
 refine simL_nil ?_
 refine nrm_then ?_
 refine sim_condb rfl (fun h5v => ?_) (fun h6v => ?_)
 refine sim_seq ?_
 refine sim_region ?_
 refine simL_val (q_asg rfl rfl) rfl rfl rfl ?_
 refine simL_nil ?_
 refine nrm_then ?_
 refine sim_rtn ?_
 refine rtn_then ?_
 exact rtn_fn () rfl rfl rfl (.sel 1 rfl (.nil _))
 refine sim_skip ?_
 refine nrm_then ?_
 refine sim_seq ?_
 refine sim_seq ?_
 refine sim_region ?_
 refine simL_val (q_fa rfl rfl Try.underlying29 rfl rfl Try.sizeOf3 rfl) rfl rfl rfl ?_
 refine simL_val (q_load rfl rfl Try.isAgg3 (.obj 0 rfl rfl)) rfl rfl rfl ?_
 refine simL_bind (fun s7v hs9v => ?_)
 refine simL_eff (re_call (vs := [.int .i64 x0_0, .int .i64 1, .int .i64 4611686018427387904]) (cap := []) (A := []) (rst := [obj b1v 29 [.int .i64 x0_0, .int .i64 x0_1, .slice a0_2 x0_2.length c0_2], F]) rfl rfl rfl rfl rfl rfl Try.call69 (.sel 0 rfl (.sel 0 rfl (.nil _))) (synodref3_within.calls _ _ x0_0 (1 : Int) (4611686018427387904 : Int) ) hs9v) rfl rfl rfl ?_
 intro y8v
 refine simL_val (q_not rfl rfl) rfl rfl rfl ?_
 refine simL_val (q_move rfl rfl) rfl rfl rfl ?_
 refine simL_cut' 5 (S := Bool) (Unit) (fun s y => [(1, .pointer (some ⟨b1v, 0, none⟩)), (14, .bool s)]) (fun s y => [obj b1v 29 [.int .i64 x0_0, .int .i64 x0_1, .slice a0_2 x0_2.length c0_2], F]) ?_ ?_
 refine simL_caseb (fun hb15v => ?_) (fun hb16v => ?_)
 rw [hb15v]
 refine simL_skipd rfl rfl rfl rfl rfl rfl ?_
 refine simL_skipd rfl rfl rfl rfl rfl rfl ?_
 refine simL_skipd rfl rfl rfl rfl rfl rfl ?_
 refine simL_skipd rfl rfl rfl rfl rfl rfl ?_
 refine simL_val (q_pick rfl rfl rfl rfl rfl) rfl rfl rfl ?_
 refine simL_nil ?_
 exact nrm_cut (s := true) () ⟨rfl, rfl, trivial⟩ (.sel 0 rfl (.sel 0 rfl (.nil _)))
 rw [hb16v]
 refine simL_valg (q_fa rfl rfl Try.underlying29 rfl rfl Try.sizeOf3 rfl) rfl rfl rfl rfl rfl rfl ?_
 refine simL_valg (q_load rfl rfl Try.isAgg3 (.obj 0 rfl rfl)) rfl rfl rfl rfl rfl rfl ?_
 refine simL_bind (fun s12v hs14v => ?_)
 refine simL_effg (re_call (vs := [.int .i64 x0_1, .int .i64 1, .int .i64 4611686018427387904]) (cap := []) (A := []) (rst := [obj b1v 29 [.int .i64 x0_0, .int .i64 x0_1, .slice a0_2 x0_2.length c0_2], F]) rfl rfl rfl rfl rfl rfl Try.call69 (.sel 0 rfl (.sel 0 rfl (.nil _))) (synodref3_within.calls _ _ x0_1 (1 : Int) (4611686018427387904 : Int) ) hs14v) rfl rfl rfl rfl rfl rfl ?_
 intro y13v
 refine simL_valg (q_not rfl rfl) rfl rfl rfl rfl rfl rfl ?_
 refine simL_val (q_pick rfl rfl rfl rfl rfl) rfl rfl rfl ?_
 refine simL_nil ?_
 exact nrm_cut (s := !s12v) () ⟨rfl, rfl, trivial⟩ (.sel 0 rfl (.sel 0 rfl (.nil _)))
 intro s10v y11v
 refine simL_nil ?_
 refine nrm_then ?_
 refine sim_condb rfl (fun h17v => ?_) (fun h18v => ?_)
 refine sim_seq ?_
 refine sim_region ?_
 refine simL_val (q_asg rfl rfl) rfl rfl rfl ?_
 refine simL_nil ?_
 refine nrm_then ?_
 refine sim_rtn ?_
 refine rtn_then ?_
 exact rtn_fn () rfl rfl rfl (.sel 1 rfl (.nil _))
 refine sim_skip ?_
 refine nrm_then ?_
 refine sim_seq ?_
 refine sim_seq ?_
 refine sim_region ?_
 refine simL_val (q_fa rfl rfl Try.underlying29 rfl rfl Try.sizeOf27 rfl) rfl rfl rfl ?_
 refine simL_val (q_load rfl rfl Try.isAgg27 (.obj 0 rfl rfl)) rfl rfl rfl ?_
 refine simL_val (q_len rfl rfl rfl Try.underlying27) rfl rfl rfl ?_
 refine simL_val (q_gtr rfl rfl rfl) rfl rfl rfl ?_
 refine simL_nil ?_
 refine nrm_then ?_
 refine sim_cond rfl (fun h19v => ?_) (fun h20v => ?_)
 refine sim_seq ?_
 refine sim_region ?_
 refine simL_val (q_asg rfl rfl) rfl rfl rfl ?_
 refine simL_nil ?_
 refine nrm_then ?_
 refine sim_rtn ?_
 refine rtn_then ?_
 exact rtn_fn () rfl rfl rfl (.sel 1 rfl (.nil _))
 refine sim_skip ?_
 refine nrm_then ?_
 refine sim_seq ?_
 refine sim_region ?_
 refine simL_val (q_asg rfl rfl) rfl rfl rfl ?_
 refine simL_nil ?_
 refine nrm_then ?_
 refine sim_rtn ?_
 exact rtn_fn () rfl rfl rfl (.sel 1 rfl (.nil _))
def synodref3_CheckSnap.v (x0_0 : Int) (x0_1 : Int) (x0_2 : List UInt8) : Int := (synodref3_CheckSnap.f x0_0 x0_1 x0_2).getD 0
theorem synodref3_CheckSnap.tot (x0_0 : Int) (x0_1 : Int) (x0_2 : List UInt8) : synodref3_CheckSnap.f x0_0 x0_1 x0_2 = some (synodref3_CheckSnap.v x0_0 x0_1 x0_2) := by
  have h : ∃ r, synodref3_CheckSnap.f x0_0 x0_1 x0_2 = some r := by
    unfold synodref3_CheckSnap.f
    repeat' (first | exact ⟨_, rfl⟩ | split | simp only [Option.bind_some, synodref3_None.tot, synodref3_within.tot])
  obtain ⟨r, h⟩ := h
  unfold synodref3_CheckSnap.v
  rw [h]; rfl

def synodref3_PutSnap.f (k : Nat) (x0_0 : Int) (x0_1 : Int) (x0_2 : List UInt8) : Option (List UInt8 × Int) := (synodref3_CheckSnap.f x0_0 x0_1 x0_2).bind fun s2v => (if s2v = (0 : Int) then ((synodref1_Writer_Int.f k ([] : List UInt8) (0 : Int) x0_0).bind fun s8v => ((synodref1_Writer_Int.f k s8v.1 s8v.2 x0_1).bind fun s11v => ((synodref1_Writer_Bytes.f k s11v.1 s11v.2 x0_2 (524288 : Int)).bind fun s14v => ((synodref1_Writer_Done_s_c0p0.f s14v.1 s14v.2).bind fun s17v => (some (s17v.1, s17v.2)))))) else (some (([] : List UInt8), s2v)))
theorem synodref3_PutSnap.calls (W : World) (F : HA) (k : Nat) (x0_0 : Int) (x0_1 : Int) (a0_2 : Option Addr) (c0_2 : Nat) (x0_2 : List UInt8) (h0_2 : Rd F a0_2 (encB x0_2)) (hc0_2 : x0_2.length ≤ c0_2) (hm0_2 : c0_2 ≤ maxLen) :
    Fn Try.prog W 40 [.agg #[.int .i64 x0_0, .int .i64 x0_1, .slice a0_2 x0_2.length c0_2]] [] F (synodref3_PutSnap.f k x0_0 x0_1 x0_2) (fun (r : List UInt8 × Int) (y : Option Addr × Nat) => .tuple #[.slice y.1 r.1.length y.2, .int .i64 r.2]) (fun r y => [Row 5 1 y.1 r.1.length y.2 (encB r.1)]) := by
 unfold synodref3_PutSnap.f
 refine fn_intro 29 Try.func40 rfl Try.ntmps40 rfl ?_
 refine sim_seq ?_
 refine sim_region ?_
 refine simL_eff (re_box rfl rfl rfl) rfl rfl rfl ?_
 intro b1v
 refine simL_val (q_asg rfl rfl) rfl rfl rfl ?_
 refine simL_val (q_asg rfl rfl) rfl rfl rfl ?_
 refine simL_nil ?_
 refine nrm_then ?_
 refine sim_seq ?_
 refine sim_region ?_
 refine simL_val (q_loado 0 rfl rfl Try.isAgg29 Try.sizeOf29 rfl rfl) rfl rfl rfl ?_
 refine simL_bind (fun s2v hs4v => ?_)
 refine simL_eff (re_call (vs := [.agg #[.int .i64 x0_0, .int .i64 x0_1, .slice a0_2 x0_2.length c0_2]]) (cap := []) (A := []) (rst := [obj b1v 29 [.int .i64 x0_0, .int .i64 x0_1, .slice a0_2 x0_2.length c0_2], F]) rfl rfl rfl rfl rfl rfl Try.call42 (.sel 0 rfl (.sel 0 rfl (.nil _))) (synodref3_CheckSnap.calls _ _ x0_0 x0_1 a0_2 c0_2 x0_2 (h0_2.lend 1 rfl) hc0_2 hm0_2) hs4v) rfl rfl rfl ?_
 intro y3v
 refine simL_val (q_asg rfl rfl) rfl rfl rfl ?_
 refine simL_nil ?_
 refine nrm_then ?_
 refine sim_seq ?_
 refine sim_seq ?_
 refine sim_region ?_
 refine simL_val (q_move rfl rfl) rfl rfl rfl ?_
 refine simL_val (q_neq rfl rfl rfl) rfl rfl rfl ?_
 refine simL_nil ?_
 refine nrm_then ?_
 refine sim_condn rfl (fun h5v => ?_) (fun h6v => ?_)
 refine sim_skip ?_
 refine nrm_then ?_
 refine sim_seq ?_
 refine sim_region ?_
 refine simL_val (q_build (v := .agg #[.slice none 0 0, .int .i64 0]) rfl rfl (fun _ => by kernel_rfl)) rfl rfl rfl ?_
 refine simL_eff (re_box rfl rfl rfl) rfl rfl rfl ?_
 intro b7v
 refine simL_val (q_asg rfl rfl) rfl rfl rfl ?_
 refine simL_nil ?_
 refine nrm_then ?_
 refine sim_seq ?_
 refine sim_region ?_
 refine simL_val (q_move rfl rfl) rfl rfl rfl ?_
 refine simL_val (q_fa rfl rfl Try.underlying29 rfl rfl Try.sizeOf3 rfl) rfl rfl rfl ?_
 refine simL_val (q_load rfl rfl Try.isAgg3 (.obj 1 rfl rfl)) rfl rfl rfl ?_
 refine simL_bind (fun s8v hs10v => ?_)
 refine simL_eff (re_call (vs := [.pointer (some ⟨b7v, 0, none⟩), .int .i64 x0_0]) (cap := []) (A := [obj b7v 143 [.slice none 0 0, .int .i64 0], Row 5 1 none ([] : List UInt8).length 0 (encB ([] : List UInt8))]) (rst := [obj b1v 29 [.int .i64 x0_0, .int .i64 x0_1, .slice a0_2 x0_2.length c0_2], F]) rfl rfl rfl rfl rfl rfl Try.call79 (.sel 0 rfl (.row_nil (.sel 0 rfl (.sel 0 rfl (.nil _))))) (synodref1_Writer_Int.calls _ _ k b7v none 0 ([] : List UInt8) (0 : Int) x0_0 ) hs10v) rfl rfl rfl ?_
 intro y9v
 refine simL_nil ?_
 refine nrm_then ?_
 refine sim_seq ?_
 refine sim_region ?_
 refine simL_val (q_move rfl rfl) rfl rfl rfl ?_
 refine simL_val (q_fa rfl rfl Try.underlying29 rfl rfl Try.sizeOf3 rfl) rfl rfl rfl ?_
 refine simL_val (q_load rfl rfl Try.isAgg3 (.obj 2 rfl rfl)) rfl rfl rfl ?_
 refine simL_bind (fun s11v hs13v => ?_)
 refine simL_eff (re_call (vs := [.pointer (some ⟨b7v, 0, none⟩), .int .i64 x0_1]) (cap := []) (A := [obj b7v 143 [.slice y9v.1 s8v.1.length y9v.2, .int .i64 s8v.2], Row 5 1 y9v.1 s8v.1.length y9v.2 (encB s8v.1)]) (rst := [obj b1v 29 [.int .i64 x0_0, .int .i64 x0_1, .slice a0_2 x0_2.length c0_2], F]) rfl rfl rfl rfl rfl rfl Try.call79 (.sel 0 rfl (.sel 0 rfl (.sel 0 rfl (.sel 0 rfl (.nil _))))) (synodref1_Writer_Int.calls _ _ k b7v y9v.1 y9v.2 s8v.1 s8v.2 x0_1 ) hs13v) rfl rfl rfl ?_
 intro y12v
 refine simL_nil ?_
 refine nrm_then ?_
 refine sim_seq ?_
 refine sim_region ?_
 refine simL_val (q_move rfl rfl) rfl rfl rfl ?_
 refine simL_val (q_fa rfl rfl Try.underlying29 rfl rfl Try.sizeOf27 rfl) rfl rfl rfl ?_
 refine simL_val (q_load rfl rfl Try.isAgg27 (.obj 2 rfl rfl)) rfl rfl rfl ?_
 refine simL_bind (fun s14v hs16v => ?_)
 refine simL_eff (re_call (vs := [.pointer (some ⟨b7v, 0, none⟩), .slice a0_2 x0_2.length c0_2, .int .i64 524288]) (cap := []) (A := [obj b7v 143 [.slice y12v.1 s11v.1.length y12v.2, .int .i64 s11v.2], Row 5 1 y12v.1 s11v.1.length y12v.2 (encB s11v.1)]) (rst := [obj b1v 29 [.int .i64 x0_0, .int .i64 x0_1, .slice a0_2 x0_2.length c0_2], F]) rfl rfl rfl rfl rfl rfl Try.call89 (.sel 0 rfl (.sel 0 rfl (.sel 0 rfl (.sel 0 rfl (.nil _))))) (synodref1_Writer_Bytes.calls _ _ k b7v y12v.1 y12v.2 s11v.1 s11v.2 a0_2 c0_2 x0_2 (524288 : Int) (h0_2.lend 1 rfl) hc0_2 hm0_2) hs16v) rfl rfl rfl ?_
 intro y15v
 refine simL_nil ?_
 refine nrm_then ?_
 refine sim_seq ?_
 refine sim_region ?_
 refine simL_val (q_move rfl rfl) rfl rfl rfl ?_
 refine simL_bind (fun s17v hs19v => ?_)
 refine simL_eff (re_call (vs := [.pointer (some ⟨b7v, 0, none⟩)]) (cap := []) (A := [obj b7v 143 [.slice y15v.1 s14v.1.length y15v.2, .int .i64 s14v.2], Row 5 1 y15v.1 s14v.1.length y15v.2 (encB s14v.1)]) (rst := [obj b1v 29 [.int .i64 x0_0, .int .i64 x0_1, .slice a0_2 x0_2.length c0_2], F]) rfl rfl rfl rfl rfl rfl Try.call80 (.sel 0 rfl (.sel 0 rfl (.sel 0 rfl (.sel 0 rfl (.nil _))))) (synodref1_Writer_Done_s_c0p0.calls _ _ b7v y15v.1 y15v.2 s14v.1 s14v.2 ) hs19v) rfl rfl rfl ?_
 intro y18v
 refine simL_val (q_ext rfl rfl rfl) rfl rfl rfl ?_
 refine simL_val (q_ext rfl rfl rfl) rfl rfl rfl ?_
 refine simL_val (q_asg rfl rfl) rfl rfl rfl ?_
 refine simL_val (q_asg rfl rfl) rfl rfl rfl ?_
 refine simL_nil ?_
 refine nrm_then ?_
 refine sim_rtn ?_
 exact rtn_fn (y18v.1, y18v.2) rfl rfl rfl (.sel 0 rfl (.sel 1 rfl (.nil _)))
 refine sim_seq ?_
 refine sim_region ?_
 refine simL_val (q_move rfl rfl) rfl rfl rfl ?_
 refine simL_val (q_asg rfl rfl) rfl rfl rfl ?_
 refine simL_val (q_asg rfl rfl) rfl rfl rfl ?_
 refine simL_nil ?_
 refine nrm_then ?_
 refine sim_rtn ?_
 refine rtn_then ?_
 exact rtn_fn (none, 0) rfl rfl rfl (.row_nil (.sel 1 rfl (.nil _)))

def synodref3_GetSnap.f (k : Nat) (x0 : List UInt8) : Option (Int × Int × List UInt8 × Int) := (synodref1_Reader_Int.f k x0 (0 : Int) (0 : Int)).bind fun s3v => ((synodref1_Reader_Int.f k x0 s3v.2.1 s3v.2.2).bind fun s6v => ((synodref1_Reader_Bytes.f k x0 s6v.2.1 s6v.2.2 (524288 : Int)).bind fun s9v => ((synodref1_Reader_Done.f x0 s9v.2.1 s9v.2.2).bind fun s13v => ((if s13v = (0 : Int) then ((synodref3_CheckSnap.f s3v.1 s6v.1 s9v.1).bind fun s24v => (some s24v)) else (some s13v)).bind fun s16v => (if s16v = (0 : Int) then (some (s3v.1, s6v.1, s9v.1, s16v)) else (some (0, 0, ([] : List UInt8), s16v)))))))
theorem synodref3_GetSnap.calls (W : World) (F : HA) (k : Nat) (a0 : Option Addr) (c0 : Nat) (x0 : List UInt8) (h0 : Rd F a0 (encB x0)) (hc0 : x0.length ≤ c0) (hm0 : c0 ≤ maxLen) :
    Fn Try.prog W 44 [.slice a0 x0.length c0] [] F (synodref3_GetSnap.f k x0) (fun (r : Int × Int × List UInt8 × Int) (y : Option Addr × Nat) => .tuple #[.agg #[.int .i64 r.1, .int .i64 r.2.1, .slice y.1 r.2.2.1.length y.2], .int .i64 r.2.2.2]) (fun r y => [Row 5 1 y.1 r.2.2.1.length y.2 (encB r.2.2.1)]) := by
 unfold synodref3_GetSnap.f
 refine fn_intro 29 Try.func44 rfl Try.ntmps44 rfl ?_
 refine sim_seq ?_
 refine sim_region ?_
 refine simL_eff (re_alloc rfl Try.zeroValue29 rfl) rfl rfl rfl ?_
 intro b1v
 refine simL_val (q_asg rfl rfl) rfl rfl rfl ?_
 refine simL_nil ?_
 refine nrm_then ?_
 refine sim_seq ?_
 refine sim_region ?_
 refine simL_val (q_move rfl rfl) rfl rfl rfl ?_
 refine simL_val (q_build (v := .agg #[.slice a0 x0.length c0, .int .i64 0, .int .i64 0]) rfl rfl (fun _ => by kernel_rfl)) rfl rfl rfl ?_
 refine simL_eff (re_box rfl rfl rfl) rfl rfl rfl ?_
 intro b2v
 refine simL_val (q_asg rfl rfl) rfl rfl rfl ?_
 refine simL_nil ?_
 refine nrm_then ?_
 refine sim_seq ?_
 refine sim_region ?_
 refine simL_val (q_move rfl rfl) rfl rfl rfl ?_
 refine simL_bind (fun s3v hs5v => ?_)
 refine simL_eff (re_call (vs := [.pointer (some ⟨b2v, 0, none⟩)]) (cap := []) (A := [obj b2v 152 [.slice a0 x0.length c0, .int .i64 0, .int .i64 0]]) (rst := [obj b1v 29 [.int .i64 0, .int .i64 0, .slice none 0 0], F]) rfl rfl rfl rfl rfl rfl Try.call85 (.sel 0 rfl (.sel 0 rfl (.sel 0 rfl (.nil _)))) (synodref1_Reader_Int.calls _ _ k b2v a0 c0 x0 (0 : Int) (0 : Int) (h0.lend 1 rfl) hc0 hm0) hs5v) rfl rfl rfl ?_
 intro y4v
 refine simL_val (q_move rfl rfl) rfl rfl rfl ?_
 refine simL_bind (fun s6v hs8v => ?_)
 refine simL_eff (re_call (vs := [.pointer (some ⟨b2v, 0, none⟩)]) (cap := []) (A := [obj b2v 152 [.slice a0 x0.length c0, .int .i64 s3v.2.1, .int .i64 s3v.2.2]]) (rst := [obj b1v 29 [.int .i64 0, .int .i64 0, .slice none 0 0], F]) rfl rfl rfl rfl rfl rfl Try.call85 (.sel 0 rfl (.sel 0 rfl (.sel 0 rfl (.nil _)))) (synodref1_Reader_Int.calls _ _ k b2v a0 c0 x0 s3v.2.1 s3v.2.2 (h0.lend 1 rfl) hc0 hm0) hs8v) rfl rfl rfl ?_
 intro y7v
 refine simL_val (q_move rfl rfl) rfl rfl rfl ?_
 refine simL_bind (fun s9v hs11v => ?_)
 refine simL_eff (re_call (vs := [.pointer (some ⟨b2v, 0, none⟩), .int .i64 524288]) (cap := []) (A := [obj b2v 152 [.slice a0 x0.length c0, .int .i64 s6v.2.1, .int .i64 s6v.2.2]]) (rst := [obj b1v 29 [.int .i64 0, .int .i64 0, .slice none 0 0], F]) rfl rfl rfl rfl rfl rfl Try.call92 (.sel 0 rfl (.sel 0 rfl (.sel 0 rfl (.nil _)))) (synodref1_Reader_Bytes.calls _ _ k b2v a0 c0 x0 s6v.2.1 s6v.2.2 (524288 : Int) (h0.lend 1 rfl) hc0 hm0) hs11v) rfl rfl rfl ?_
 intro y10v
 refine simL_val (q_build (v := .agg #[.int .i64 s3v.1, .int .i64 s6v.1, .slice y10v.1 s9v.1.length y10v.2]) rfl rfl (fun _ => by kernel_rfl)) rfl rfl rfl ?_
 refine simL_eff (re_alloc rfl Try.zeroValue29 rfl) rfl rfl rfl ?_
 intro b12v
 refine simL_do (re_store 0 rfl rfl rfl Try.sizeOf29 rfl rfl (one_of (by rfl)) rfl rfl) rfl rfl ?_
 intro _
 refine simL_nil ?_
 refine nrm_then ?_
 refine sim_seq ?_
 refine sim_region ?_
 refine simL_val (q_move rfl rfl) rfl rfl rfl ?_
 refine simL_bind (fun s13v hs15v => ?_)
 refine simL_eff (re_call (vs := [.pointer (some ⟨b2v, 0, none⟩)]) (cap := []) (A := [obj b2v 152 [.slice a0 x0.length c0, .int .i64 s9v.2.1, .int .i64 s9v.2.2]]) (rst := [obj b12v 29 [.int .i64 s3v.1, .int .i64 s6v.1, .slice y10v.1 s9v.1.length y10v.2], Row 5 1 y10v.1 s9v.1.length y10v.2 (encB s9v.1), obj b1v 29 [.int .i64 0, .int .i64 0, .slice none 0 0], F]) rfl rfl rfl rfl rfl rfl Try.call86 (.sel 2 rfl (.sel 0 rfl (.sel 0 rfl (.sel 0 rfl (.sel 0 rfl (.nil _)))))) (synodref1_Reader_Done.calls _ _ b2v a0 c0 x0 s9v.2.1 s9v.2.2 (h0.lend 3 rfl) hc0 hm0) hs15v) rfl rfl rfl ?_
 intro y14v
 refine simL_val (q_asg rfl rfl) rfl rfl rfl ?_
 refine simL_nil ?_
 refine nrm_then ?_
 refine sim_cut (S := Int) (Unit) (fun s y => [(2, .pointer (some ⟨b1v, 0, none⟩)), (5, .pointer (some ⟨b12v, 0, none⟩)), (6, .int .i64 s)]) (fun s y => [obj b12v 29 [.int .i64 s3v.1, .int .i64 s6v.1, .slice y10v.1 s9v.1.length y10v.2], obj b1v 29 [.int .i64 0, .int .i64 0, .slice none 0 0], Row 5 1 y10v.1 s9v.1.length y10v.2 (encB s9v.1), F]) ?_ ?_
 refine sim_seq ?_
 refine sim_region ?_
 refine simL_val (q_move rfl rfl) rfl rfl rfl ?_
 refine simL_val (q_eql rfl rfl rfl) rfl rfl rfl ?_
 refine simL_nil ?_
 refine nrm_then ?_
 refine sim_cond rfl (fun h18v => ?_) (fun h19v => ?_)
 refine sim_region ?_
 refine simL_val (q_loado 1 rfl rfl Try.isAgg29 Try.sizeOf29 rfl rfl) rfl rfl rfl ?_
 refine simL_bind (fun s24v hs26v => ?_)
 refine simL_lend 2 rfl (fun hq20v hq21v hq22v hq23v => ?_)
 refine simL_eff (re_call (vs := [.agg #[.int .i64 s3v.1, .int .i64 s6v.1, .slice y10v.1 s9v.1.length y10v.2]]) (cap := []) (A := []) (rst := [obj b2v 152 [.slice a0 x0.length c0, .int .i64 s9v.2.1, .int .i64 s9v.2.2], obj b12v 29 [.int .i64 s3v.1, .int .i64 s6v.1, .slice y10v.1 s9v.1.length y10v.2], Row 5 1 y10v.1 s9v.1.length y10v.2 (encB s9v.1), obj b1v 29 [.int .i64 0, .int .i64 0, .slice none 0 0], F]) rfl rfl rfl rfl rfl rfl Try.call42 (.sel 0 rfl (.sel 0 rfl (.sel 0 rfl (.sel 0 rfl (.sel 0 rfl (.nil _)))))) (synodref3_CheckSnap.calls _ _ s3v.1 s6v.1 y10v.1 y10v.2 s9v.1 (hq20v.lend 2 rfl) hq21v hq22v) hs26v) rfl rfl rfl ?_
 intro y25v
 refine simL_val (q_asg rfl rfl) rfl rfl rfl ?_
 refine simL_nil ?_
 exact nrm_cut (s := s24v) () ⟨rfl, rfl, rfl, trivial⟩ (.sel 1 rfl (.sel 2 rfl (.sel 1 rfl (.sel 1 rfl (.nil _)))))
 refine sim_skip ?_
 exact nrm_cut (s := s13v) () ⟨rfl, rfl, rfl, trivial⟩ (.sel 1 rfl (.sel 2 rfl (.sel 1 rfl (.sel 1 rfl (.nil _)))))
 intro s16v y17v
 refine sim_seq ?_
 refine sim_seq ?_
 refine sim_region ?_
 refine simL_val (q_move rfl rfl) rfl rfl rfl ?_
 refine simL_val (q_neq rfl rfl rfl) rfl rfl rfl ?_
 refine simL_nil ?_
 refine nrm_then ?_
 refine sim_condn rfl (fun h27v => ?_) (fun h28v => ?_)
 refine sim_skip ?_
 refine nrm_then ?_
 refine sim_seq ?_
 refine sim_region ?_
 refine simL_val (q_loado 0 rfl rfl Try.isAgg29 Try.sizeOf29 rfl rfl) rfl rfl rfl ?_
 refine simL_val (q_move rfl rfl) rfl rfl rfl ?_
 refine simL_do (re_store 1 rfl rfl rfl Try.sizeOf29 rfl rfl (one_of (by rfl)) rfl rfl) rfl rfl ?_
 intro _
 refine simL_val (q_asg rfl rfl) rfl rfl rfl ?_
 refine simL_nil ?_
 refine nrm_then ?_
 refine sim_rtn ?_
 exact rtn_fnC (vs := [.agg #[.int .i64 s3v.1, .int .i64 s6v.1, .slice y10v.1 s9v.1.length y10v.2], .int .i64 s16v]) (y10v.1, y10v.2) rfl ⟨⟨b1v, rfl, load_agg 1 Try.isAgg29 Try.sizeOf29 rfl rfl⟩, rfl, trivial⟩ rfl (.sel 2 rfl (.sel 2 rfl (.nil _)))
 refine sim_seq ?_
 refine sim_region ?_
 refine simL_val (q_build (v := .agg #[.int .i64 0, .int .i64 0, .slice none 0 0]) rfl rfl (fun _ => by kernel_rfl)) rfl rfl rfl ?_
 refine simL_val (q_move rfl rfl) rfl rfl rfl ?_
 refine simL_do (re_store 1 rfl rfl rfl Try.sizeOf29 rfl rfl (one_of (by rfl)) rfl rfl) rfl rfl ?_
 intro _
 refine simL_val (q_asg rfl rfl) rfl rfl rfl ?_
 refine simL_nil ?_
 refine nrm_then ?_
 refine sim_rtn ?_
 refine rtn_then ?_
 exact rtn_fnC (vs := [.agg #[.int .i64 0, .int .i64 0, .slice none 0 0], .int .i64 s16v]) (none, 0) rfl ⟨⟨b1v, rfl, load_agg 1 Try.isAgg29 Try.sizeOf29 rfl rfl⟩, rfl, trivial⟩ rfl (.row_nil (.sel 3 rfl (.nil _)))

def synodref3_CheckState.f (x0_0 : Int) (x0_1 : Int) (x0_2 : Int) : Option (Int) := (synodref3_within.f x0_0 (0 : Int) (4611686018427387904 : Int)).bind fun s2v => ((if (!s2v) = true then (some true) else ((synodref3_within.f x0_2 (0 : Int) (4611686018427387904 : Int)).bind fun s7v => (some (!s7v)))).bind fun s5v => ((if s5v = true then (some true) else ((synodref3_within.f x0_1 (0 : Int) (7 : Int)).bind fun s14v => (some (!s14v)))).bind fun s12v => (if s12v = true then (some 1) else (if ((!decide (x0_1 = (0 : Int))) && (decide (x0_0 = (0 : Int)))) = true then (some 4) else (some 0)))))
theorem synodref3_CheckState.calls (W : World) (F : HA) (x0_0 : Int) (x0_1 : Int) (x0_2 : Int)  :
    Fn Try.prog W 16 [.agg #[.int .i64 x0_0, .int .i64 x0_1, .int .i64 x0_2]] [] F (synodref3_CheckState.f x0_0 x0_1 x0_2) (fun (r : Int) (y : Unit) => .int .i64 r) (fun r y => []) := by
 unfold synodref3_CheckState.f
 refine fn_intro 27 Try.func16 rfl Try.ntmps16 rfl ?_
 refine sim_seq ?_
 refine sim_region ?_
 refine simL_eff (re_box rfl rfl rfl) rfl rfl rfl ?_
 intro b1v
 refine simL_val (q_asg rfl rfl) rfl rfl rfl ?_
 refine simL_nil ?_
 refine nrm_then ?_
 refine sim_seq ?_
 refine sim_seq ?_
 refine sim_region ?_
 refine simL_val (q_fa rfl rfl Try.underlying23 rfl rfl Try.sizeOf3 rfl) rfl rfl rfl ?_
 refine simL_val (q_load rfl rfl Try.isAgg3 (.obj 0 rfl rfl)) rfl rfl rfl ?_
 refine simL_bind (fun s2v hs4v => ?_)
 refine simL_eff (re_call (vs := [.int .i64 x0_0, .int .i64 0, .int .i64 4611686018427387904]) (cap := []) (A := []) (rst := [obj b1v 23 [.int .i64 x0_0, .int .i64 x0_1, .int .i64 x0_2], F]) rfl rfl rfl rfl rfl rfl Try.call69 (.sel 0 rfl (.sel 0 rfl (.nil _))) (synodref3_within.calls _ _ x0_0 (0 : Int) (4611686018427387904 : Int) ) hs4v) rfl rfl rfl ?_
 intro y3v
 refine simL_val (q_not rfl rfl) rfl rfl rfl ?_
 refine simL_val (q_move rfl rfl) rfl rfl rfl ?_
 refine simL_cut' 5 (S := Bool) (Unit) (fun s y => [(1, .pointer (some ⟨b1v, 0, none⟩)), (12, .bool s)]) (fun s y => [obj b1v 23 [.int .i64 x0_0, .int .i64 x0_1, .int .i64 x0_2], F]) ?_ ?_
 refine simL_caseb (fun hb10v => ?_) (fun hb11v => ?_)
 rw [hb10v]
 refine simL_skipd rfl rfl rfl rfl rfl rfl ?_
 refine simL_skipd rfl rfl rfl rfl rfl rfl ?_
 refine simL_skipd rfl rfl rfl rfl rfl rfl ?_
 refine simL_skipd rfl rfl rfl rfl rfl rfl ?_
 refine simL_val (q_pick rfl rfl rfl rfl rfl) rfl rfl rfl ?_
 refine simL_nil ?_
 exact nrm_cut (s := true) () ⟨rfl, rfl, trivial⟩ (.sel 0 rfl (.sel 0 rfl (.nil _)))
 rw [hb11v]
 refine simL_valg (q_fa rfl rfl Try.underlying23 rfl rfl Try.sizeOf3 rfl) rfl rfl rfl rfl rfl rfl ?_
 refine simL_valg (q_load rfl rfl Try.isAgg3 (.obj 0 rfl rfl)) rfl rfl rfl rfl rfl rfl ?_
 refine simL_bind (fun s7v hs9v => ?_)
 refine simL_effg (re_call (vs := [.int .i64 x0_2, .int .i64 0, .int .i64 4611686018427387904]) (cap := []) (A := []) (rst := [obj b1v 23 [.int .i64 x0_0, .int .i64 x0_1, .int .i64 x0_2], F]) rfl rfl rfl rfl rfl rfl Try.call69 (.sel 0 rfl (.sel 0 rfl (.nil _))) (synodref3_within.calls _ _ x0_2 (0 : Int) (4611686018427387904 : Int) ) hs9v) rfl rfl rfl rfl rfl rfl ?_
 intro y8v
 refine simL_valg (q_not rfl rfl) rfl rfl rfl rfl rfl rfl ?_
 refine simL_val (q_pick rfl rfl rfl rfl rfl) rfl rfl rfl ?_
 refine simL_nil ?_
 exact nrm_cut (s := !s7v) () ⟨rfl, rfl, trivial⟩ (.sel 0 rfl (.sel 0 rfl (.nil _)))
 intro s5v y6v
 refine simL_val (q_move rfl rfl) rfl rfl rfl ?_
 refine simL_cut' 5 (S := Bool) (Unit) (fun s y => [(1, .pointer (some ⟨b1v, 0, none⟩)), (18, .bool s)]) (fun s y => [obj b1v 23 [.int .i64 x0_0, .int .i64 x0_1, .int .i64 x0_2], F]) ?_ ?_
 refine simL_caseb (fun hb17v => ?_) (fun hb18v => ?_)
 rw [hb17v]
 refine simL_skipd rfl rfl rfl rfl rfl rfl ?_
 refine simL_skipd rfl rfl rfl rfl rfl rfl ?_
 refine simL_skipd rfl rfl rfl rfl rfl rfl ?_
 refine simL_skipd rfl rfl rfl rfl rfl rfl ?_
 refine simL_val (q_pick rfl rfl rfl rfl rfl) rfl rfl rfl ?_
 refine simL_nil ?_
 exact nrm_cut (s := true) () ⟨rfl, rfl, trivial⟩ (.sel 0 rfl (.sel 0 rfl (.nil _)))
 rw [hb18v]
 refine simL_valg (q_fa rfl rfl Try.underlying23 rfl rfl Try.sizeOf3 rfl) rfl rfl rfl rfl rfl rfl ?_
 refine simL_valg (q_load rfl rfl Try.isAgg3 (.obj 0 rfl rfl)) rfl rfl rfl rfl rfl rfl ?_
 refine simL_bind (fun s14v hs16v => ?_)
 refine simL_effg (re_call (vs := [.int .i64 x0_1, .int .i64 0, .int .i64 7]) (cap := []) (A := []) (rst := [obj b1v 23 [.int .i64 x0_0, .int .i64 x0_1, .int .i64 x0_2], F]) rfl rfl rfl rfl rfl rfl Try.call69 (.sel 0 rfl (.sel 0 rfl (.nil _))) (synodref3_within.calls _ _ x0_1 (0 : Int) (7 : Int) ) hs16v) rfl rfl rfl rfl rfl rfl ?_
 intro y15v
 refine simL_valg (q_not rfl rfl) rfl rfl rfl rfl rfl rfl ?_
 refine simL_val (q_pick rfl rfl rfl rfl rfl) rfl rfl rfl ?_
 refine simL_nil ?_
 exact nrm_cut (s := !s14v) () ⟨rfl, rfl, trivial⟩ (.sel 0 rfl (.sel 0 rfl (.nil _)))
 intro s12v y13v
 refine simL_nil ?_
 refine nrm_then ?_
 refine sim_condb rfl (fun h19v => ?_) (fun h20v => ?_)
 refine sim_seq ?_
 refine sim_region ?_
 refine simL_val (q_asg rfl rfl) rfl rfl rfl ?_
 refine simL_nil ?_
 refine nrm_then ?_
 refine sim_rtn ?_
 refine rtn_then ?_
 exact rtn_fn () rfl rfl rfl (.sel 1 rfl (.nil _))
 refine sim_skip ?_
 refine nrm_then ?_
 refine sim_seq ?_
 refine sim_seq ?_
 refine sim_region ?_
 refine simL_val (q_fa rfl rfl Try.underlying23 rfl rfl Try.sizeOf3 rfl) rfl rfl rfl ?_
 refine simL_val (q_load rfl rfl Try.isAgg3 (.obj 0 rfl rfl)) rfl rfl rfl ?_
 refine simL_val (q_neq rfl rfl rfl) rfl rfl rfl ?_
 refine simL_val (q_move rfl rfl) rfl rfl rfl ?_
 refine simL_valc (b := !decide (x0_1 = (0 : Int))) (fun hb25v => RQ.sub (E' := [(1, .pointer (some ⟨b1v, 0, none⟩))]) ⟨rfl, trivial⟩ (q_fa rfl rfl Try.underlying23 rfl rfl Try.sizeOf3 rfl)) rfl rfl rfl rfl rfl ?_
 refine simL_valc (b := !decide (x0_1 = (0 : Int))) (fun hb24v => RQ.sub (E' := [(23, .pointer (some ⟨b1v, 0, none⟩))]) ⟨lk_cv rfl hb24v, trivial⟩ (q_load rfl rfl Try.isAgg3 (.obj 0 rfl rfl))) rfl rfl rfl rfl rfl ?_
 refine simL_valc (b := !decide (x0_1 = (0 : Int))) (fun hb23v => RQ.sub (E' := [(24, .int .i64 x0_0)]) ⟨lk_cv rfl hb23v, trivial⟩ (q_eql rfl rfl rfl)) rfl rfl rfl rfl rfl ?_
 refine simL_val (q_and rfl rfl rfl) rfl rfl rfl ?_
 refine simL_nil ?_
 refine nrm_then ?_
 refine sim_condb rfl (fun h21v => ?_) (fun h22v => ?_)
 refine sim_seq ?_
 refine sim_region ?_
 refine simL_val (q_asg rfl rfl) rfl rfl rfl ?_
 refine simL_nil ?_
 refine nrm_then ?_
 refine sim_rtn ?_
 refine rtn_then ?_
 exact rtn_fn () rfl rfl rfl (.sel 1 rfl (.nil _))
 refine sim_skip ?_
 refine nrm_then ?_
 refine sim_seq ?_
 refine sim_region ?_
 refine simL_val (q_asg rfl rfl) rfl rfl rfl ?_
 refine simL_nil ?_
 refine nrm_then ?_
 refine sim_rtn ?_
 exact rtn_fn () rfl rfl rfl (.sel 1 rfl (.nil _))
def synodref3_CheckState.v (x0_0 : Int) (x0_1 : Int) (x0_2 : Int) : Int := (synodref3_CheckState.f x0_0 x0_1 x0_2).getD 0
theorem synodref3_CheckState.tot (x0_0 : Int) (x0_1 : Int) (x0_2 : Int) : synodref3_CheckState.f x0_0 x0_1 x0_2 = some (synodref3_CheckState.v x0_0 x0_1 x0_2) := by
  have h : ∃ r, synodref3_CheckState.f x0_0 x0_1 x0_2 = some r := by
    unfold synodref3_CheckState.f
    repeat' (first | exact ⟨_, rfl⟩ | split | simp only [Option.bind_some, synodref3_within.tot])
  obtain ⟨r, h⟩ := h
  unfold synodref3_CheckState.v
  rw [h]; rfl

def synodref3_PutState.f (k : Nat) (x0_0 : Int) (x0_1 : Int) (x0_2 : Int) : Option (List UInt8 × Int) := (synodref3_CheckState.f x0_0 x0_1 x0_2).bind fun s2v => (if s2v = (0 : Int) then ((synodref1_Writer_Int.f k ([] : List UInt8) (0 : Int) x0_0).bind fun s8v => ((synodref1_Writer_Int.f k s8v.1 s8v.2 x0_1).bind fun s11v => ((synodref1_Writer_Int.f k s11v.1 s11v.2 x0_2).bind fun s14v => ((synodref1_Writer_Done_s_c0p0.f s14v.1 s14v.2).bind fun s17v => (some (s17v.1, s17v.2)))))) else (some (([] : List UInt8), s2v)))
theorem synodref3_PutState.calls (W : World) (F : HA) (k : Nat) (x0_0 : Int) (x0_1 : Int) (x0_2 : Int)  :
    Fn Try.prog W 24 [.agg #[.int .i64 x0_0, .int .i64 x0_1, .int .i64 x0_2]] [] F (synodref3_PutState.f k x0_0 x0_1 x0_2) (fun (r : List UInt8 × Int) (y : Option Addr × Nat) => .tuple #[.slice y.1 r.1.length y.2, .int .i64 r.2]) (fun r y => [Row 5 1 y.1 r.1.length y.2 (encB r.1)]) := by
 unfold synodref3_PutState.f
 refine fn_intro 29 Try.func24 rfl Try.ntmps24 rfl ?_
 refine sim_seq ?_
 refine sim_region ?_
 refine simL_eff (re_box rfl rfl rfl) rfl rfl rfl ?_
 intro b1v
 refine simL_val (q_asg rfl rfl) rfl rfl rfl ?_
 refine simL_val (q_asg rfl rfl) rfl rfl rfl ?_
 refine simL_nil ?_
 refine nrm_then ?_
 refine sim_seq ?_
 refine sim_region ?_
 refine simL_val (q_loado 0 rfl rfl Try.isAgg23 Try.sizeOf23 rfl rfl) rfl rfl rfl ?_
 refine simL_bind (fun s2v hs4v => ?_)
 refine simL_eff (re_call (vs := [.agg #[.int .i64 x0_0, .int .i64 x0_1, .int .i64 x0_2]]) (cap := []) (A := []) (rst := [obj b1v 23 [.int .i64 x0_0, .int .i64 x0_1, .int .i64 x0_2], F]) rfl rfl rfl rfl rfl rfl Try.call16 (.sel 0 rfl (.sel 0 rfl (.nil _))) (synodref3_CheckState.calls _ _ x0_0 x0_1 x0_2 ) hs4v) rfl rfl rfl ?_
 intro y3v
 refine simL_val (q_asg rfl rfl) rfl rfl rfl ?_
 refine simL_nil ?_
 refine nrm_then ?_
 refine sim_seq ?_
 refine sim_seq ?_
 refine sim_region ?_
 refine simL_val (q_move rfl rfl) rfl rfl rfl ?_
 refine simL_val (q_neq rfl rfl rfl) rfl rfl rfl ?_
 refine simL_nil ?_
 refine nrm_then ?_
 refine sim_condn rfl (fun h5v => ?_) (fun h6v => ?_)
 refine sim_skip ?_
 refine nrm_then ?_
 refine sim_seq ?_
 refine sim_region ?_
 refine simL_val (q_build (v := .agg #[.slice none 0 0, .int .i64 0]) rfl rfl (fun _ => by kernel_rfl)) rfl rfl rfl ?_
 refine simL_eff (re_box rfl rfl rfl) rfl rfl rfl ?_
 intro b7v
 refine simL_val (q_asg rfl rfl) rfl rfl rfl ?_
 refine simL_nil ?_
 refine nrm_then ?_
 refine sim_seq ?_
 refine sim_region ?_
 refine simL_val (q_move rfl rfl) rfl rfl rfl ?_
 refine simL_val (q_fa rfl rfl Try.underlying23 rfl rfl Try.sizeOf3 rfl) rfl rfl rfl ?_
 refine simL_val (q_load rfl rfl Try.isAgg3 (.obj 1 rfl rfl)) rfl rfl rfl ?_
 refine simL_bind (fun s8v hs10v => ?_)
 refine simL_eff (re_call (vs := [.pointer (some ⟨b7v, 0, none⟩), .int .i64 x0_0]) (cap := []) (A := [obj b7v 143 [.slice none 0 0, .int .i64 0], Row 5 1 none ([] : List UInt8).length 0 (encB ([] : List UInt8))]) (rst := [obj b1v 23 [.int .i64 x0_0, .int .i64 x0_1, .int .i64 x0_2], F]) rfl rfl rfl rfl rfl rfl Try.call79 (.sel 0 rfl (.row_nil (.sel 0 rfl (.sel 0 rfl (.nil _))))) (synodref1_Writer_Int.calls _ _ k b7v none 0 ([] : List UInt8) (0 : Int) x0_0 ) hs10v) rfl rfl rfl ?_
 intro y9v
 refine simL_nil ?_
 refine nrm_then ?_
 refine sim_seq ?_
 refine sim_region ?_
 refine simL_val (q_move rfl rfl) rfl rfl rfl ?_
 refine simL_val (q_fa rfl rfl Try.underlying23 rfl rfl Try.sizeOf3 rfl) rfl rfl rfl ?_
 refine simL_val (q_load rfl rfl Try.isAgg3 (.obj 2 rfl rfl)) rfl rfl rfl ?_
 refine simL_bind (fun s11v hs13v => ?_)
 refine simL_eff (re_call (vs := [.pointer (some ⟨b7v, 0, none⟩), .int .i64 x0_1]) (cap := []) (A := [obj b7v 143 [.slice y9v.1 s8v.1.length y9v.2, .int .i64 s8v.2], Row 5 1 y9v.1 s8v.1.length y9v.2 (encB s8v.1)]) (rst := [obj b1v 23 [.int .i64 x0_0, .int .i64 x0_1, .int .i64 x0_2], F]) rfl rfl rfl rfl rfl rfl Try.call79 (.sel 0 rfl (.sel 0 rfl (.sel 0 rfl (.sel 0 rfl (.nil _))))) (synodref1_Writer_Int.calls _ _ k b7v y9v.1 y9v.2 s8v.1 s8v.2 x0_1 ) hs13v) rfl rfl rfl ?_
 intro y12v
 refine simL_nil ?_
 refine nrm_then ?_
 refine sim_seq ?_
 refine sim_region ?_
 refine simL_val (q_move rfl rfl) rfl rfl rfl ?_
 refine simL_val (q_fa rfl rfl Try.underlying23 rfl rfl Try.sizeOf3 rfl) rfl rfl rfl ?_
 refine simL_val (q_load rfl rfl Try.isAgg3 (.obj 2 rfl rfl)) rfl rfl rfl ?_
 refine simL_bind (fun s14v hs16v => ?_)
 refine simL_eff (re_call (vs := [.pointer (some ⟨b7v, 0, none⟩), .int .i64 x0_2]) (cap := []) (A := [obj b7v 143 [.slice y12v.1 s11v.1.length y12v.2, .int .i64 s11v.2], Row 5 1 y12v.1 s11v.1.length y12v.2 (encB s11v.1)]) (rst := [obj b1v 23 [.int .i64 x0_0, .int .i64 x0_1, .int .i64 x0_2], F]) rfl rfl rfl rfl rfl rfl Try.call79 (.sel 0 rfl (.sel 0 rfl (.sel 0 rfl (.sel 0 rfl (.nil _))))) (synodref1_Writer_Int.calls _ _ k b7v y12v.1 y12v.2 s11v.1 s11v.2 x0_2 ) hs16v) rfl rfl rfl ?_
 intro y15v
 refine simL_nil ?_
 refine nrm_then ?_
 refine sim_seq ?_
 refine sim_region ?_
 refine simL_val (q_move rfl rfl) rfl rfl rfl ?_
 refine simL_bind (fun s17v hs19v => ?_)
 refine simL_eff (re_call (vs := [.pointer (some ⟨b7v, 0, none⟩)]) (cap := []) (A := [obj b7v 143 [.slice y15v.1 s14v.1.length y15v.2, .int .i64 s14v.2], Row 5 1 y15v.1 s14v.1.length y15v.2 (encB s14v.1)]) (rst := [obj b1v 23 [.int .i64 x0_0, .int .i64 x0_1, .int .i64 x0_2], F]) rfl rfl rfl rfl rfl rfl Try.call80 (.sel 0 rfl (.sel 0 rfl (.sel 0 rfl (.sel 0 rfl (.nil _))))) (synodref1_Writer_Done_s_c0p0.calls _ _ b7v y15v.1 y15v.2 s14v.1 s14v.2 ) hs19v) rfl rfl rfl ?_
 intro y18v
 refine simL_val (q_ext rfl rfl rfl) rfl rfl rfl ?_
 refine simL_val (q_ext rfl rfl rfl) rfl rfl rfl ?_
 refine simL_val (q_asg rfl rfl) rfl rfl rfl ?_
 refine simL_val (q_asg rfl rfl) rfl rfl rfl ?_
 refine simL_nil ?_
 refine nrm_then ?_
 refine sim_rtn ?_
 exact rtn_fn (y18v.1, y18v.2) rfl rfl rfl (.sel 0 rfl (.sel 1 rfl (.nil _)))
 refine sim_seq ?_
 refine sim_region ?_
 refine simL_val (q_move rfl rfl) rfl rfl rfl ?_
 refine simL_val (q_asg rfl rfl) rfl rfl rfl ?_
 refine simL_val (q_asg rfl rfl) rfl rfl rfl ?_
 refine simL_nil ?_
 refine nrm_then ?_
 refine sim_rtn ?_
 refine rtn_then ?_
 exact rtn_fn (none, 0) rfl rfl rfl (.row_nil (.sel 1 rfl (.nil _)))

def synodref3_GetState.f (k : Nat) (x0 : List UInt8) : Option (Int × Int × Int × Int) := (synodref1_Reader_Int.f k x0 (0 : Int) (0 : Int)).bind fun s3v => ((synodref1_Reader_Int.f k x0 s3v.2.1 s3v.2.2).bind fun s6v => ((synodref1_Reader_Int.f k x0 s6v.2.1 s6v.2.2).bind fun s9v => ((synodref1_Reader_Done.f x0 s9v.2.1 s9v.2.2).bind fun s13v => ((if s13v = (0 : Int) then ((synodref3_CheckState.f s3v.1 s6v.1 s9v.1).bind fun s20v => (some s20v)) else (some s13v)).bind fun s16v => (if s16v = (0 : Int) then (some (s3v.1, s6v.1, s9v.1, s16v)) else (some (0, 0, 0, s16v)))))))
theorem synodref3_GetState.calls (W : World) (F : HA) (k : Nat) (a0 : Option Addr) (c0 : Nat) (x0 : List UInt8) (h0 : Rd F a0 (encB x0)) (hc0 : x0.length ≤ c0) (hm0 : c0 ≤ maxLen) :
    Fn Try.prog W 30 [.slice a0 x0.length c0] [] F (synodref3_GetState.f k x0) (fun (r : Int × Int × Int × Int) (y : Unit) => .tuple #[.agg #[.int .i64 r.1, .int .i64 r.2.1, .int .i64 r.2.2.1], .int .i64 r.2.2.2]) (fun r y => []) := by
 unfold synodref3_GetState.f
 refine fn_intro 29 Try.func30 rfl Try.ntmps30 rfl ?_
 refine sim_seq ?_
 refine sim_region ?_
 refine simL_eff (re_alloc rfl Try.zeroValue23 rfl) rfl rfl rfl ?_
 intro b1v
 refine simL_val (q_asg rfl rfl) rfl rfl rfl ?_
 refine simL_nil ?_
 refine nrm_then ?_
 refine sim_seq ?_
 refine sim_region ?_
 refine simL_val (q_move rfl rfl) rfl rfl rfl ?_
 refine simL_val (q_build (v := .agg #[.slice a0 x0.length c0, .int .i64 0, .int .i64 0]) rfl rfl (fun _ => by kernel_rfl)) rfl rfl rfl ?_
 refine simL_eff (re_box rfl rfl rfl) rfl rfl rfl ?_
 intro b2v
 refine simL_val (q_asg rfl rfl) rfl rfl rfl ?_
 refine simL_nil ?_
 refine nrm_then ?_
 refine sim_seq ?_
 refine sim_region ?_
 refine simL_val (q_move rfl rfl) rfl rfl rfl ?_
 refine simL_bind (fun s3v hs5v => ?_)
 refine simL_eff (re_call (vs := [.pointer (some ⟨b2v, 0, none⟩)]) (cap := []) (A := [obj b2v 152 [.slice a0 x0.length c0, .int .i64 0, .int .i64 0]]) (rst := [obj b1v 23 [.int .i64 0, .int .i64 0, .int .i64 0], F]) rfl rfl rfl rfl rfl rfl Try.call85 (.sel 0 rfl (.sel 0 rfl (.sel 0 rfl (.nil _)))) (synodref1_Reader_Int.calls _ _ k b2v a0 c0 x0 (0 : Int) (0 : Int) (h0.lend 1 rfl) hc0 hm0) hs5v) rfl rfl rfl ?_
 intro y4v
 refine simL_val (q_move rfl rfl) rfl rfl rfl ?_
 refine simL_bind (fun s6v hs8v => ?_)
 refine simL_eff (re_call (vs := [.pointer (some ⟨b2v, 0, none⟩)]) (cap := []) (A := [obj b2v 152 [.slice a0 x0.length c0, .int .i64 s3v.2.1, .int .i64 s3v.2.2]]) (rst := [obj b1v 23 [.int .i64 0, .int .i64 0, .int .i64 0], F]) rfl rfl rfl rfl rfl rfl Try.call85 (.sel 0 rfl (.sel 0 rfl (.sel 0 rfl (.nil _)))) (synodref1_Reader_Int.calls _ _ k b2v a0 c0 x0 s3v.2.1 s3v.2.2 (h0.lend 1 rfl) hc0 hm0) hs8v) rfl rfl rfl ?_
 intro y7v
 refine simL_val (q_move rfl rfl) rfl rfl rfl ?_
 refine simL_bind (fun s9v hs11v => ?_)
 refine simL_eff (re_call (vs := [.pointer (some ⟨b2v, 0, none⟩)]) (cap := []) (A := [obj b2v 152 [.slice a0 x0.length c0, .int .i64 s6v.2.1, .int .i64 s6v.2.2]]) (rst := [obj b1v 23 [.int .i64 0, .int .i64 0, .int .i64 0], F]) rfl rfl rfl rfl rfl rfl Try.call85 (.sel 0 rfl (.sel 0 rfl (.sel 0 rfl (.nil _)))) (synodref1_Reader_Int.calls _ _ k b2v a0 c0 x0 s6v.2.1 s6v.2.2 (h0.lend 1 rfl) hc0 hm0) hs11v) rfl rfl rfl ?_
 intro y10v
 refine simL_val (q_build (v := .agg #[.int .i64 s3v.1, .int .i64 s6v.1, .int .i64 s9v.1]) rfl rfl (fun _ => by kernel_rfl)) rfl rfl rfl ?_
 refine simL_eff (re_alloc rfl Try.zeroValue23 rfl) rfl rfl rfl ?_
 intro b12v
 refine simL_do (re_store 0 rfl rfl rfl Try.sizeOf23 rfl rfl (one_of (by rfl)) rfl rfl) rfl rfl ?_
 intro _
 refine simL_nil ?_
 refine nrm_then ?_
 refine sim_seq ?_
 refine sim_region ?_
 refine simL_val (q_move rfl rfl) rfl rfl rfl ?_
 refine simL_bind (fun s13v hs15v => ?_)
 refine simL_eff (re_call (vs := [.pointer (some ⟨b2v, 0, none⟩)]) (cap := []) (A := [obj b2v 152 [.slice a0 x0.length c0, .int .i64 s9v.2.1, .int .i64 s9v.2.2]]) (rst := [obj b12v 23 [.int .i64 s3v.1, .int .i64 s6v.1, .int .i64 s9v.1], obj b1v 23 [.int .i64 0, .int .i64 0, .int .i64 0], F]) rfl rfl rfl rfl rfl rfl Try.call86 (.sel 1 rfl (.sel 0 rfl (.sel 0 rfl (.sel 0 rfl (.nil _))))) (synodref1_Reader_Done.calls _ _ b2v a0 c0 x0 s9v.2.1 s9v.2.2 (h0.lend 2 rfl) hc0 hm0) hs15v) rfl rfl rfl ?_
 intro y14v
 refine simL_val (q_asg rfl rfl) rfl rfl rfl ?_
 refine simL_nil ?_
 refine nrm_then ?_
 refine sim_cut (S := Int) (Unit) (fun s y => [(2, .pointer (some ⟨b1v, 0, none⟩)), (5, .pointer (some ⟨b12v, 0, none⟩)), (6, .int .i64 s)]) (fun s y => [obj b12v 23 [.int .i64 s3v.1, .int .i64 s6v.1, .int .i64 s9v.1], obj b1v 23 [.int .i64 0, .int .i64 0, .int .i64 0], F]) ?_ ?_
 refine sim_seq ?_
 refine sim_region ?_
 refine simL_val (q_move rfl rfl) rfl rfl rfl ?_
 refine simL_val (q_eql rfl rfl rfl) rfl rfl rfl ?_
 refine simL_nil ?_
 refine nrm_then ?_
 refine sim_cond rfl (fun h18v => ?_) (fun h19v => ?_)
 refine sim_region ?_
 refine simL_val (q_loado 1 rfl rfl Try.isAgg23 Try.sizeOf23 rfl rfl) rfl rfl rfl ?_
 refine simL_bind (fun s20v hs22v => ?_)
 refine simL_eff (re_call (vs := [.agg #[.int .i64 s3v.1, .int .i64 s6v.1, .int .i64 s9v.1]]) (cap := []) (A := []) (rst := [obj b2v 152 [.slice a0 x0.length c0, .int .i64 s9v.2.1, .int .i64 s9v.2.2], obj b12v 23 [.int .i64 s3v.1, .int .i64 s6v.1, .int .i64 s9v.1], obj b1v 23 [.int .i64 0, .int .i64 0, .int .i64 0], F]) rfl rfl rfl rfl rfl rfl Try.call16 (.sel 0 rfl (.sel 0 rfl (.sel 0 rfl (.sel 0 rfl (.nil _))))) (synodref3_CheckState.calls _ _ s3v.1 s6v.1 s9v.1 ) hs22v) rfl rfl rfl ?_
 intro y21v
 refine simL_val (q_asg rfl rfl) rfl rfl rfl ?_
 refine simL_nil ?_
 exact nrm_cut (s := s20v) () ⟨rfl, rfl, rfl, trivial⟩ (.sel 1 rfl (.sel 1 rfl (.sel 1 rfl (.nil _))))
 refine sim_skip ?_
 exact nrm_cut (s := s13v) () ⟨rfl, rfl, rfl, trivial⟩ (.sel 1 rfl (.sel 1 rfl (.sel 1 rfl (.nil _))))
 intro s16v y17v
 refine sim_seq ?_
 refine sim_seq ?_
 refine sim_region ?_
 refine simL_val (q_move rfl rfl) rfl rfl rfl ?_
 refine simL_val (q_neq rfl rfl rfl) rfl rfl rfl ?_
 refine simL_nil ?_
 refine nrm_then ?_
 refine sim_condn rfl (fun h23v => ?_) (fun h24v => ?_)
 refine sim_skip ?_
 refine nrm_then ?_
 refine sim_seq ?_
 refine sim_region ?_
 refine simL_val (q_loado 0 rfl rfl Try.isAgg23 Try.sizeOf23 rfl rfl) rfl rfl rfl ?_
 refine simL_val (q_move rfl rfl) rfl rfl rfl ?_
 refine simL_do (re_store 1 rfl rfl rfl Try.sizeOf23 rfl rfl (one_of (by rfl)) rfl rfl) rfl rfl ?_
 intro _
 refine simL_val (q_asg rfl rfl) rfl rfl rfl ?_
 refine simL_nil ?_
 refine nrm_then ?_
 refine sim_rtn ?_
 exact rtn_fnC (vs := [.agg #[.int .i64 s3v.1, .int .i64 s6v.1, .int .i64 s9v.1], .int .i64 s16v]) () rfl ⟨⟨b1v, rfl, load_agg 1 Try.isAgg23 Try.sizeOf23 rfl rfl⟩, rfl, trivial⟩ rfl (.sel 2 rfl (.nil _))
 refine sim_seq ?_
 refine sim_region ?_
 refine simL_val (q_build (v := .agg #[.int .i64 0, .int .i64 0, .int .i64 0]) rfl rfl (fun _ => by kernel_rfl)) rfl rfl rfl ?_
 refine simL_val (q_move rfl rfl) rfl rfl rfl ?_
 refine simL_do (re_store 1 rfl rfl rfl Try.sizeOf23 rfl rfl (one_of (by rfl)) rfl rfl) rfl rfl ?_
 intro _
 refine simL_val (q_asg rfl rfl) rfl rfl rfl ?_
 refine simL_nil ?_
 refine nrm_then ?_
 refine sim_rtn ?_
 refine rtn_then ?_
 exact rtn_fnC (vs := [.agg #[.int .i64 0, .int .i64 0, .int .i64 0], .int .i64 s16v]) () rfl ⟨⟨b1v, rfl, load_agg 1 Try.isAgg23 Try.sizeOf23 rfl rfl⟩, rfl, trivial⟩ rfl (.sel 2 rfl (.nil _))

def codec_last_State_States.f (xp0_0 : List UInt8) (xp0_1 : Int) (xp0_2 : Int) (x2_0 : Int) (x2_1 : Int) (x2_2 : Int) : Option (Int × Int × Int × Int) := (wire_Reader_Done.f xp0_0 xp0_1 xp0_2).bind fun s3v => ((if s3v = (0 : Int) then ((codec_States_Check.f x2_0 x2_1 x2_2).bind fun s10v => (some s10v)) else (some s3v)).bind fun s6v => (if s6v = (0 : Int) then (some (x2_0, x2_1, x2_2, 0)) else (some (0, 0, 0, s6v))))
theorem codec_last_State_States.calls (W : World) (F : HA) (bp0 : Nat) (ap0_0 : Option Addr) (cp0_0 : Nat) (xp0_0 : List UInt8) (xp0_1 : Int) (xp0_2 : Int) (x2_0 : Int) (x2_1 : Int) (x2_2 : Int) (hp0_0 : Rd F ap0_0 (encB xp0_0)) (hcp0_0 : xp0_0.length ≤ cp0_0) (hmp0_0 : cp0_0 ≤ maxLen) :
    Fn Try.prog W 84 [.pointer (some ⟨bp0, 0, none⟩), .iface 40 (.agg #[]), .agg #[.int .i64 x2_0, .int .i64 x2_1, .int .i64 x2_2]] [obj bp0 194 [.slice ap0_0 xp0_0.length cp0_0, .int .i64 xp0_1, .int .i64 xp0_2]] F (codec_last_State_States.f xp0_0 xp0_1 xp0_2 x2_0 x2_1 x2_2) (fun (r : Int × Int × Int × Int) (y : Unit) => .tuple #[.agg #[.int .i64 r.1, .int .i64 r.2.1, .int .i64 r.2.2.1], .int .i64 r.2.2.2]) (fun r y => [obj bp0 194 [.slice ap0_0 xp0_0.length cp0_0, .int .i64 xp0_1, .int .i64 xp0_2]]) := by
 unfold codec_last_State_States.f
 refine fn_intro 22 Try.func84 rfl Try.ntmps84 rfl ?_
 refine sim_seq ?_
 refine sim_region ?_
 refine simL_eff (re_box rfl rfl rfl) rfl rfl rfl ?_
 intro b1v
 refine simL_eff (re_alloc rfl Try.zeroValue23 rfl) rfl rfl rfl ?_
 intro b2v
 refine simL_val (q_asg rfl rfl) rfl rfl rfl ?_
 refine simL_nil ?_
 refine nrm_then ?_
 refine sim_seq ?_
 refine sim_region ?_
 refine simL_val (q_move rfl rfl) rfl rfl rfl ?_
 refine simL_bind (fun s3v hs5v => ?_)
 refine simL_eff (re_call (vs := [.pointer (some ⟨bp0, 0, none⟩)]) (cap := []) (A := [obj bp0 194 [.slice ap0_0 xp0_0.length cp0_0, .int .i64 xp0_1, .int .i64 xp0_2]]) (rst := [obj b2v 23 [.int .i64 0, .int .i64 0, .int .i64 0], obj b1v 23 [.int .i64 x2_0, .int .i64 x2_1, .int .i64 x2_2], F]) rfl rfl rfl rfl rfl rfl Try.call124 (.sel 2 rfl (.sel 0 rfl (.sel 0 rfl (.sel 0 rfl (.nil _))))) (wire_Reader_Done.calls _ _ bp0 ap0_0 cp0_0 xp0_0 xp0_1 xp0_2 (hp0_0.lend 2 rfl) hcp0_0 hmp0_0) hs5v) rfl rfl rfl ?_
 intro y4v
 refine simL_val (q_asg rfl rfl) rfl rfl rfl ?_
 refine simL_nil ?_
 refine nrm_then ?_
 refine sim_cut (S := Int) (Unit) (fun s y => [(5, .pointer (some ⟨b1v, 0, none⟩)), (6, .pointer (some ⟨b2v, 0, none⟩)), (8, .int .i64 s)]) (fun s y => [obj bp0 194 [.slice ap0_0 xp0_0.length cp0_0, .int .i64 xp0_1, .int .i64 xp0_2], obj b2v 23 [.int .i64 0, .int .i64 0, .int .i64 0], obj b1v 23 [.int .i64 x2_0, .int .i64 x2_1, .int .i64 x2_2], F]) ?_ ?_
 refine sim_seq ?_
 refine sim_region ?_
 refine simL_val (q_move rfl rfl) rfl rfl rfl ?_
 refine simL_val (q_eql rfl rfl rfl) rfl rfl rfl ?_
 refine simL_nil ?_
 refine nrm_then ?_
 refine sim_cond rfl (fun h8v => ?_) (fun h9v => ?_)
 refine sim_region ?_
 refine simL_val (q_move rfl rfl) rfl rfl rfl ?_
 refine simL_val (q_loado 2 rfl rfl Try.isAgg23 Try.sizeOf23 rfl rfl) rfl rfl rfl ?_
 refine simL_bind (fun s10v hs12v => ?_)
 refine simL_eff (re_invoke (vs := [.agg #[.int .i64 x2_0, .int .i64 x2_1, .int .i64 x2_2]]) (A := []) (rst := [obj bp0 194 [.slice ap0_0 xp0_0.length cp0_0, .int .i64 xp0_1, .int .i64 xp0_2], obj b2v 23 [.int .i64 0, .int .i64 0, .int .i64 0], obj b1v 23 [.int .i64 x2_0, .int .i64 x2_1, .int .i64 x2_2], F]) rfl rfl rfl rfl rfl (fun _ => by kernel_rfl) Try.call27 (.sel 0 rfl (.sel 0 rfl (.sel 0 rfl (.sel 0 rfl (.nil _))))) (codec_States_Check.calls _ _ x2_0 x2_1 x2_2 ) hs12v) rfl rfl rfl ?_
 intro y11v
 refine simL_val (q_asg rfl rfl) rfl rfl rfl ?_
 refine simL_nil ?_
 exact nrm_cut (s := s10v) () ⟨rfl, rfl, rfl, trivial⟩ (.sel 0 rfl (.sel 0 rfl (.sel 0 rfl (.sel 0 rfl (.nil _)))))
 refine sim_skip ?_
 exact nrm_cut (s := s3v) () ⟨rfl, rfl, rfl, trivial⟩ (.sel 0 rfl (.sel 0 rfl (.sel 0 rfl (.sel 0 rfl (.nil _)))))
 intro s6v y7v
 refine sim_seq ?_
 refine sim_seq ?_
 refine sim_region ?_
 refine simL_val (q_move rfl rfl) rfl rfl rfl ?_
 refine simL_val (q_neq rfl rfl rfl) rfl rfl rfl ?_
 refine simL_nil ?_
 refine nrm_then ?_
 refine sim_condn rfl (fun h13v => ?_) (fun h14v => ?_)
 refine sim_skip ?_
 refine nrm_then ?_
 refine sim_seq ?_
 refine sim_region ?_
 refine simL_val (q_loado 2 rfl rfl Try.isAgg23 Try.sizeOf23 rfl rfl) rfl rfl rfl ?_
 refine simL_do (re_store 1 rfl rfl rfl Try.sizeOf23 rfl rfl (one_of (by rfl)) rfl rfl) rfl rfl ?_
 intro _
 refine simL_val (q_asg rfl rfl) rfl rfl rfl ?_
 refine simL_nil ?_
 refine nrm_then ?_
 refine sim_rtn ?_
 exact rtn_fnC (vs := [.agg #[.int .i64 x2_0, .int .i64 x2_1, .int .i64 x2_2], .int .i64 0]) () rfl ⟨⟨b2v, rfl, load_agg 1 Try.isAgg23 Try.sizeOf23 rfl rfl⟩, rfl, trivial⟩ rfl (.sel 0 rfl (.sel 2 rfl (.nil _)))
 refine sim_seq ?_
 refine sim_region ?_
 refine simL_eff (re_alloc rfl Try.zeroValue23 rfl) rfl rfl rfl ?_
 intro b15v
 refine simL_nil ?_
 refine nrm_then ?_
 refine sim_seq ?_
 refine sim_region ?_
 refine simL_val (q_loado 0 rfl rfl Try.isAgg23 Try.sizeOf23 rfl rfl) rfl rfl rfl ?_
 refine simL_val (q_move rfl rfl) rfl rfl rfl ?_
 refine simL_do (re_store 2 rfl rfl rfl Try.sizeOf23 rfl rfl (one_of (by rfl)) rfl rfl) rfl rfl ?_
 intro _
 refine simL_val (q_asg rfl rfl) rfl rfl rfl ?_
 refine simL_nil ?_
 refine nrm_then ?_
 refine sim_rtn ?_
 refine rtn_then ?_
 exact rtn_fnC (vs := [.agg #[.int .i64 0, .int .i64 0, .int .i64 0], .int .i64 s6v]) () rfl ⟨⟨b2v, rfl, load_agg 2 Try.isAgg23 Try.sizeOf23 rfl rfl⟩, rfl, trivial⟩ rfl (.sel 1 rfl (.sel 3 rfl (.nil _)))
def codec_last_State_States.v (xp0_0 : List UInt8) (xp0_1 : Int) (xp0_2 : Int) (x2_0 : Int) (x2_1 : Int) (x2_2 : Int) : Int × Int × Int × Int := (codec_last_State_States.f xp0_0 xp0_1 xp0_2 x2_0 x2_1 x2_2).getD (0, 0, 0, 0)
theorem codec_last_State_States.tot (xp0_0 : List UInt8) (xp0_1 : Int) (xp0_2 : Int) (x2_0 : Int) (x2_1 : Int) (x2_2 : Int) : codec_last_State_States.f xp0_0 xp0_1 xp0_2 x2_0 x2_1 x2_2 = some (codec_last_State_States.v xp0_0 xp0_1 xp0_2 x2_0 x2_1 x2_2) := by
  have h : ∃ r, codec_last_State_States.f xp0_0 xp0_1 xp0_2 x2_0 x2_1 x2_2 = some r := by
    unfold codec_last_State_States.f
    repeat' (first | exact ⟨_, rfl⟩ | split | simp only [Option.bind_some, wire_Reader_Done.tot, codec_States_Check.tot])
  obtain ⟨r, h⟩ := h
  unfold codec_last_State_States.v
  rw [h]; rfl

def codec_States_Get.f (k : Nat) (x1 : List UInt8) : Option (Int × Int × Int × Int) := (wire_NewReader.f x1).bind fun s3v => ((wire_Reader_Int.f k s3v.1 s3v.2.1 s3v.2.2).bind fun s10v => ((wire_Reader_Int.f k s3v.1 s10v.2.1 s10v.2.2).bind fun s17v => ((wire_Reader_Int.f k s3v.1 s17v.2.1 s17v.2.2).bind fun s24v => ((codec_last_State_States.f s3v.1 s24v.2.1 s24v.2.2 s10v.1 s17v.1 s24v.1).bind fun s32v => (some (s32v.1, s32v.2.1, s32v.2.2.1, s32v.2.2.2))))))
theorem codec_States_Get.calls (W : World) (F : HA) (k : Nat) (a1 : Option Addr) (c1 : Nat) (x1 : List UInt8) (h1 : Rd F a1 (encB x1)) (hc1 : x1.length ≤ c1) (hm1 : c1 ≤ maxLen) :
    Fn Try.prog W 29 [.agg #[], .slice a1 x1.length c1] [] F (codec_States_Get.f k x1) (fun (r : Int × Int × Int × Int) (y : Unit) => .tuple #[.agg #[.int .i64 r.1, .int .i64 r.2.1, .int .i64 r.2.2.1], .int .i64 r.2.2.2]) (fun r y => []) := by
 unfold codec_States_Get.f
 refine fn_intro 24 Try.func29 rfl Try.ntmps29 rfl ?_
 refine sim_seq ?_
 refine sim_region ?_
 refine simL_eff (re_box rfl rfl rfl) rfl rfl rfl ?_
 intro b1v
 refine simL_eff (re_alloc rfl Try.zeroValue23 rfl) rfl rfl rfl ?_
 intro b2v
 refine simL_val (q_asg rfl rfl) rfl rfl rfl ?_
 refine simL_nil ?_
 refine nrm_then ?_
 refine sim_seq ?_
 refine sim_region ?_
 refine simL_val (q_move rfl rfl) rfl rfl rfl ?_
 refine simL_bind (fun s3v hs5v => ?_)
 refine simL_eff (re_call (vs := [.slice a1 x1.length c1]) (cap := []) (A := []) (rst := [obj b2v 23 [.int .i64 0, .int .i64 0, .int .i64 0], obj b1v 40 [], F]) rfl rfl rfl rfl rfl rfl Try.call82 (.sel 0 rfl (.sel 0 rfl (.sel 0 rfl (.nil _)))) (wire_NewReader.calls _ _ a1 c1 x1 (h1.lend 2 rfl) hc1 hm1) hs5v) rfl rfl rfl ?_
 intro y4v
 refine simL_val (q_asg rfl rfl) rfl rfl rfl ?_
 refine simL_nil ?_
 refine nrm_then ?_
 refine sim_seq ?_
 refine sim_region ?_
 refine simL_val (q_move rfl rfl) rfl rfl rfl ?_
 refine simL_bind (fun s10v hs12v => ?_)
 refine simL_lend 1 rfl (fun hq6v hq7v hq8v hq9v => ?_)
 refine simL_eff (re_call (vs := [.pointer (some ⟨y4v.1, 0, none⟩)]) (cap := []) (A := [obj y4v.1 194 [.slice y4v.2.1 s3v.1.length y4v.2.2, .int .i64 s3v.2.1, .int .i64 s3v.2.2]]) (rst := [Row 5 1 y4v.2.1 s3v.1.length y4v.2.2 (encB s3v.1), obj b2v 23 [.int .i64 0, .int .i64 0, .int .i64 0], obj b1v 40 [], F]) rfl rfl rfl rfl rfl rfl Try.call83 (.sel 0 rfl (.sel 0 rfl (.sel 0 rfl (.sel 0 rfl (.sel 0 rfl (.nil _)))))) (wire_Reader_Int.calls _ _ k y4v.1 y4v.2.1 y4v.2.2 s3v.1 s3v.2.1 s3v.2.2 (hq6v.lend 0 rfl) hq7v hq8v) hs12v) rfl rfl rfl ?_
 intro y11v
 refine simL_val (q_move rfl rfl) rfl rfl rfl ?_
 refine simL_bind (fun s17v hs19v => ?_)
 refine simL_lend 1 rfl (fun hq13v hq14v hq15v hq16v => ?_)
 refine simL_eff (re_call (vs := [.pointer (some ⟨y4v.1, 0, none⟩)]) (cap := []) (A := [obj y4v.1 194 [.slice y4v.2.1 s3v.1.length y4v.2.2, .int .i64 s10v.2.1, .int .i64 s10v.2.2]]) (rst := [Row 5 1 y4v.2.1 s3v.1.length y4v.2.2 (encB s3v.1), obj b2v 23 [.int .i64 0, .int .i64 0, .int .i64 0], obj b1v 40 [], F]) rfl rfl rfl rfl rfl rfl Try.call83 (.sel 0 rfl (.sel 0 rfl (.sel 0 rfl (.sel 0 rfl (.sel 0 rfl (.nil _)))))) (wire_Reader_Int.calls _ _ k y4v.1 y4v.2.1 y4v.2.2 s3v.1 s10v.2.1 s10v.2.2 (hq13v.lend 0 rfl) hq14v hq15v) hs19v) rfl rfl rfl ?_
 intro y18v
 refine simL_val (q_move rfl rfl) rfl rfl rfl ?_
 refine simL_bind (fun s24v hs26v => ?_)
 refine simL_lend 1 rfl (fun hq20v hq21v hq22v hq23v => ?_)
 refine simL_eff (re_call (vs := [.pointer (some ⟨y4v.1, 0, none⟩)]) (cap := []) (A := [obj y4v.1 194 [.slice y4v.2.1 s3v.1.length y4v.2.2, .int .i64 s17v.2.1, .int .i64 s17v.2.2]]) (rst := [Row 5 1 y4v.2.1 s3v.1.length y4v.2.2 (encB s3v.1), obj b2v 23 [.int .i64 0, .int .i64 0, .int .i64 0], obj b1v 40 [], F]) rfl rfl rfl rfl rfl rfl Try.call83 (.sel 0 rfl (.sel 0 rfl (.sel 0 rfl (.sel 0 rfl (.sel 0 rfl (.nil _)))))) (wire_Reader_Int.calls _ _ k y4v.1 y4v.2.1 y4v.2.2 s3v.1 s17v.2.1 s17v.2.2 (hq20v.lend 0 rfl) hq21v hq22v) hs26v) rfl rfl rfl ?_
 intro y25v
 refine simL_val (q_build (v := .agg #[.int .i64 s10v.1, .int .i64 s17v.1, .int .i64 s24v.1]) rfl rfl (fun _ => by kernel_rfl)) rfl rfl rfl ?_
 refine simL_eff (re_alloc rfl Try.zeroValue23 rfl) rfl rfl rfl ?_
 intro b27v
 refine simL_do (re_store 0 rfl rfl rfl Try.sizeOf23 rfl rfl (one_of (by rfl)) rfl rfl) rfl rfl ?_
 intro _
 refine simL_nil ?_
 refine nrm_then ?_
 refine sim_seq ?_
 refine sim_region ?_
 refine simL_val (q_move rfl rfl) rfl rfl rfl ?_
 refine simL_val (q_loado 4 rfl rfl Try.isAgg40 Try.sizeOf40 rfl rfl) rfl rfl rfl ?_
 refine simL_val (q_mkif rfl rfl Try.underlying40 rfl) rfl rfl rfl ?_
 refine simL_val (q_loado 0 rfl rfl Try.isAgg23 Try.sizeOf23 rfl rfl) rfl rfl rfl ?_
 refine simL_bind (fun s32v hs34v => ?_)
 refine simL_lend 2 rfl (fun hq28v hq29v hq30v hq31v => ?_)
 refine simL_eff (re_call (vs := [.pointer (some ⟨y4v.1, 0, none⟩), .iface 40 (.agg #[]), .agg #[.int .i64 s10v.1, .int .i64 s17v.1, .int .i64 s24v.1]]) (cap := []) (A := [obj y4v.1 194 [.slice y4v.2.1 s3v.1.length y4v.2.2, .int .i64 s24v.2.1, .int .i64 s24v.2.2]]) (rst := [obj b27v 23 [.int .i64 s10v.1, .int .i64 s17v.1, .int .i64 s24v.1], Row 5 1 y4v.2.1 s3v.1.length y4v.2.2 (encB s3v.1), obj b2v 23 [.int .i64 0, .int .i64 0, .int .i64 0], obj b1v 40 [], F]) rfl rfl rfl rfl rfl rfl Try.call84 (.sel 1 rfl (.sel 0 rfl (.sel 0 rfl (.sel 0 rfl (.sel 0 rfl (.sel 0 rfl (.nil _))))))) (codec_last_State_States.calls _ _ y4v.1 y4v.2.1 y4v.2.2 s3v.1 s24v.2.1 s24v.2.2 s10v.1 s17v.1 s24v.1 (hq28v.lend 1 rfl) hq29v hq30v) hs34v) rfl rfl rfl ?_
 intro y33v
 refine simL_val (q_ext rfl rfl rfl) rfl rfl rfl ?_
 refine simL_val (q_ext rfl rfl rfl) rfl rfl rfl ?_
 refine simL_do (re_store 3 rfl rfl rfl Try.sizeOf23 rfl rfl (one_of (by rfl)) rfl rfl) rfl rfl ?_
 intro _
 refine simL_val (q_asg rfl rfl) rfl rfl rfl ?_
 refine simL_nil ?_
 refine nrm_then ?_
 refine sim_rtn ?_
 exact rtn_fnC (vs := [.agg #[.int .i64 s32v.1, .int .i64 s32v.2.1, .int .i64 s32v.2.2.1], .int .i64 s32v.2.2.2]) () rfl ⟨⟨b2v, rfl, load_agg 3 Try.isAgg23 Try.sizeOf23 rfl rfl⟩, rfl, trivial⟩ rfl (.sel 5 rfl (.nil _))

def codec_last_Snap_Snaps.f (xp0_0 : List UInt8) (xp0_1 : Int) (xp0_2 : Int) (x2_0 : Int) (x2_1 : Int) (x2_2 : List UInt8) : Option (Int × Int × List UInt8 × Int) := (wire_Reader_Done.f xp0_0 xp0_1 xp0_2).bind fun s3v => ((if s3v = (0 : Int) then ((codec_Snaps_Check.f x2_0 x2_1 x2_2).bind fun s10v => (some s10v)) else (some s3v)).bind fun s6v => (if s6v = (0 : Int) then (some (x2_0, x2_1, x2_2, 0)) else (some (0, 0, ([] : List UInt8), s6v))))
theorem codec_last_Snap_Snaps.calls (W : World) (F : HA) (G : HA) (hG : Up G F) (bp0 : Nat) (ap0_0 : Option Addr) (cp0_0 : Nat) (xp0_0 : List UInt8) (xp0_1 : Int) (xp0_2 : Int) (x2_0 : Int) (x2_1 : Int) (a2_2 : Option Addr) (c2_2 : Nat) (x2_2 : List UInt8) (hp0_0 : Rd G ap0_0 (encB xp0_0)) (hcp0_0 : xp0_0.length ≤ cp0_0) (hmp0_0 : cp0_0 ≤ maxLen) (h2_2 : Rd G a2_2 (encB x2_2)) (hc2_2 : x2_2.length ≤ c2_2) (hm2_2 : c2_2 ≤ maxLen) :
    Fn Try.prog W 95 [.pointer (some ⟨bp0, 0, none⟩), .iface 73 (.agg #[]), .agg #[.int .i64 x2_0, .int .i64 x2_1, .slice a2_2 x2_2.length c2_2]] [obj bp0 194 [.slice ap0_0 xp0_0.length cp0_0, .int .i64 xp0_1, .int .i64 xp0_2]] F (codec_last_Snap_Snaps.f xp0_0 xp0_1 xp0_2 x2_0 x2_1 x2_2) (fun (r : Int × Int × List UInt8 × Int) (y : Option Addr × Nat) => .tuple #[.agg #[.int .i64 r.1, .int .i64 r.2.1, .slice y.1 r.2.2.1.length y.2], .int .i64 r.2.2.2]) (fun r y => [pr (Rd (G) y.1 (encB r.2.2.1) ∧ r.2.2.1.length ≤ y.2 ∧ y.2 ≤ maxLen), obj bp0 194 [.slice ap0_0 xp0_0.length cp0_0, .int .i64 xp0_1, .int .i64 xp0_2]]) := by
 unfold codec_last_Snap_Snaps.f
 refine fn_intro 22 Try.func95 rfl Try.ntmps95 rfl ?_
 refine sim_seq ?_
 refine sim_region ?_
 refine simL_eff (re_box rfl rfl rfl) rfl rfl rfl ?_
 intro b1v
 refine simL_eff (re_alloc rfl Try.zeroValue29 rfl) rfl rfl rfl ?_
 intro b2v
 refine simL_val (q_asg rfl rfl) rfl rfl rfl ?_
 refine simL_nil ?_
 refine nrm_then ?_
 refine sim_seq ?_
 refine sim_region ?_
 refine simL_val (q_move rfl rfl) rfl rfl rfl ?_
 refine simL_bind (fun s3v hs5v => ?_)
 refine simL_eff (re_call (vs := [.pointer (some ⟨bp0, 0, none⟩)]) (cap := []) (A := [obj bp0 194 [.slice ap0_0 xp0_0.length cp0_0, .int .i64 xp0_1, .int .i64 xp0_2]]) (rst := [obj b2v 29 [.int .i64 0, .int .i64 0, .slice none 0 0], obj b1v 29 [.int .i64 x2_0, .int .i64 x2_1, .slice a2_2 x2_2.length c2_2], F]) rfl rfl rfl rfl rfl rfl Try.call124 (.sel 2 rfl (.sel 0 rfl (.sel 0 rfl (.sel 0 rfl (.nil _))))) (wire_Reader_Done.calls _ _ bp0 ap0_0 cp0_0 xp0_0 xp0_1 xp0_2 ((hp0_0.up hG).lend 2 rfl) hcp0_0 hmp0_0) hs5v) rfl rfl rfl ?_
 intro y4v
 refine simL_val (q_asg rfl rfl) rfl rfl rfl ?_
 refine simL_nil ?_
 refine nrm_then ?_
 refine sim_cut (S := Int) (Unit) (fun s y => [(5, .pointer (some ⟨b1v, 0, none⟩)), (6, .pointer (some ⟨b2v, 0, none⟩)), (8, .int .i64 s)]) (fun s y => [obj bp0 194 [.slice ap0_0 xp0_0.length cp0_0, .int .i64 xp0_1, .int .i64 xp0_2], obj b2v 29 [.int .i64 0, .int .i64 0, .slice none 0 0], obj b1v 29 [.int .i64 x2_0, .int .i64 x2_1, .slice a2_2 x2_2.length c2_2], F]) ?_ ?_
 refine sim_seq ?_
 refine sim_region ?_
 refine simL_val (q_move rfl rfl) rfl rfl rfl ?_
 refine simL_val (q_eql rfl rfl rfl) rfl rfl rfl ?_
 refine simL_nil ?_
 refine nrm_then ?_
 refine sim_cond rfl (fun h8v => ?_) (fun h9v => ?_)
 refine sim_region ?_
 refine simL_val (q_move rfl rfl) rfl rfl rfl ?_
 refine simL_val (q_loado 2 rfl rfl Try.isAgg29 Try.sizeOf29 rfl rfl) rfl rfl rfl ?_
 refine simL_bind (fun s10v hs12v => ?_)
 refine simL_eff (re_invoke (vs := [.agg #[.int .i64 x2_0, .int .i64 x2_1, .slice a2_2 x2_2.length c2_2]]) (A := []) (rst := [obj bp0 194 [.slice ap0_0 xp0_0.length cp0_0, .int .i64 xp0_1, .int .i64 xp0_2], obj b2v 29 [.int .i64 0, .int .i64 0, .slice none 0 0], obj b1v 29 [.int .i64 x2_0, .int .i64 x2_1, .slice a2_2 x2_2.length c2_2], F]) rfl rfl rfl rfl rfl (fun _ => by kernel_rfl) Try.call41 (.sel 0 rfl (.sel 0 rfl (.sel 0 rfl (.sel 0 rfl (.nil _))))) (codec_Snaps_Check.calls _ _ x2_0 x2_1 a2_2 c2_2 x2_2 ((h2_2.up hG).lend 3 rfl) hc2_2 hm2_2) hs12v) rfl rfl rfl ?_
 intro y11v
 refine simL_val (q_asg rfl rfl) rfl rfl rfl ?_
 refine simL_nil ?_
 exact nrm_cut (s := s10v) () ⟨rfl, rfl, rfl, trivial⟩ (.sel 0 rfl (.sel 0 rfl (.sel 0 rfl (.sel 0 rfl (.nil _)))))
 refine sim_skip ?_
 exact nrm_cut (s := s3v) () ⟨rfl, rfl, rfl, trivial⟩ (.sel 0 rfl (.sel 0 rfl (.sel 0 rfl (.sel 0 rfl (.nil _)))))
 intro s6v y7v
 refine sim_seq ?_
 refine sim_seq ?_
 refine sim_region ?_
 refine simL_val (q_move rfl rfl) rfl rfl rfl ?_
 refine simL_val (q_neq rfl rfl rfl) rfl rfl rfl ?_
 refine simL_nil ?_
 refine nrm_then ?_
 refine sim_condn rfl (fun h13v => ?_) (fun h14v => ?_)
 refine sim_skip ?_
 refine nrm_then ?_
 refine sim_seq ?_
 refine sim_region ?_
 refine simL_val (q_loado 2 rfl rfl Try.isAgg29 Try.sizeOf29 rfl rfl) rfl rfl rfl ?_
 refine simL_do (re_store 1 rfl rfl rfl Try.sizeOf29 rfl rfl (one_of (by rfl)) rfl rfl) rfl rfl ?_
 intro _
 refine simL_val (q_asg rfl rfl) rfl rfl rfl ?_
 refine simL_nil ?_
 refine nrm_then ?_
 refine sim_rtn ?_
 exact rtn_fnC (vs := [.agg #[.int .i64 x2_0, .int .i64 x2_1, .slice a2_2 x2_2.length c2_2], .int .i64 0]) (a2_2, c2_2) rfl ⟨⟨b2v, rfl, load_agg 1 Try.isAgg29 Try.sizeOf29 rfl rfl⟩, rfl, trivial⟩ rfl (.pr_in ⟨h2_2, hc2_2, hm2_2⟩ (.sel 0 rfl (.sel 2 rfl (.nil _))))
 refine sim_seq ?_
 refine sim_region ?_
 refine simL_eff (re_alloc rfl Try.zeroValue29 rfl) rfl rfl rfl ?_
 intro b15v
 refine simL_nil ?_
 refine nrm_then ?_
 refine sim_seq ?_
 refine sim_region ?_
 refine simL_val (q_loado 0 rfl rfl Try.isAgg29 Try.sizeOf29 rfl rfl) rfl rfl rfl ?_
 refine simL_val (q_move rfl rfl) rfl rfl rfl ?_
 refine simL_do (re_store 2 rfl rfl rfl Try.sizeOf29 rfl rfl (one_of (by rfl)) rfl rfl) rfl rfl ?_
 intro _
 refine simL_val (q_asg rfl rfl) rfl rfl rfl ?_
 refine simL_nil ?_
 refine nrm_then ?_
 refine sim_rtn ?_
 refine rtn_then ?_
 exact rtn_fnC (vs := [.agg #[.int .i64 0, .int .i64 0, .slice none 0 0], .int .i64 s6v]) (none, 0) rfl ⟨⟨b2v, rfl, load_agg 2 Try.isAgg29 Try.sizeOf29 rfl rfl⟩, rfl, trivial⟩ rfl (.pr_in ⟨Rd.nil _ _, Nat.le_refl _, Nat.zero_le _⟩ (.sel 1 rfl (.sel 3 rfl (.nil _))))
def codec_last_Snap_Snaps.v (xp0_0 : List UInt8) (xp0_1 : Int) (xp0_2 : Int) (x2_0 : Int) (x2_1 : Int) (x2_2 : List UInt8) : Int × Int × List UInt8 × Int := (codec_last_Snap_Snaps.f xp0_0 xp0_1 xp0_2 x2_0 x2_1 x2_2).getD (0, 0, [], 0)
theorem codec_last_Snap_Snaps.tot (xp0_0 : List UInt8) (xp0_1 : Int) (xp0_2 : Int) (x2_0 : Int) (x2_1 : Int) (x2_2 : List UInt8) : codec_last_Snap_Snaps.f xp0_0 xp0_1 xp0_2 x2_0 x2_1 x2_2 = some (codec_last_Snap_Snaps.v xp0_0 xp0_1 xp0_2 x2_0 x2_1 x2_2) := by
  have h : ∃ r, codec_last_Snap_Snaps.f xp0_0 xp0_1 xp0_2 x2_0 x2_1 x2_2 = some r := by
    unfold codec_last_Snap_Snaps.f
    repeat' (first | exact ⟨_, rfl⟩ | split | simp only [Option.bind_some, wire_Reader_Done.tot, codec_Snaps_Check.tot])
  obtain ⟨r, h⟩ := h
  unfold codec_last_Snap_Snaps.v
  rw [h]; rfl

def codec_last_Snap_Snaps_c2.f (xp0_0 : List UInt8) (xp0_1 : Int) (xp0_2 : Int) (x2_0 : Int) (x2_1 : Int) (x2_2 : List UInt8) : Option (Int × Int × List UInt8 × Int) := (wire_Reader_Done.f xp0_0 xp0_1 xp0_2).bind fun s3v => ((if s3v = (0 : Int) then ((codec_Snaps_Check.f x2_0 x2_1 x2_2).bind fun s14v => (some s14v)) else (some s3v)).bind fun s6v => (if s6v = (0 : Int) then (some (x2_0, x2_1, x2_2, 0)) else (some (0, 0, ([] : List UInt8), s6v))))
theorem codec_last_Snap_Snaps_c2.calls (W : World) (F : HA) (bp0 : Nat) (ap0_0 : Option Addr) (cp0_0 : Nat) (xp0_0 : List UInt8) (xp0_1 : Int) (xp0_2 : Int) (x2_0 : Int) (x2_1 : Int) (a2_2 : Option Addr) (c2_2 : Nat) (x2_2 : List UInt8) (hp0_0 : Rd F ap0_0 (encB xp0_0)) (hcp0_0 : xp0_0.length ≤ cp0_0) (hmp0_0 : cp0_0 ≤ maxLen) :
    Fn Try.prog W 95 [.pointer (some ⟨bp0, 0, none⟩), .iface 73 (.agg #[]), .agg #[.int .i64 x2_0, .int .i64 x2_1, .slice a2_2 x2_2.length c2_2]] [obj bp0 194 [.slice ap0_0 xp0_0.length cp0_0, .int .i64 xp0_1, .int .i64 xp0_2], Row 5 1 a2_2 x2_2.length c2_2 (encB x2_2)] F (codec_last_Snap_Snaps_c2.f xp0_0 xp0_1 xp0_2 x2_0 x2_1 x2_2) (fun (r : Int × Int × List UInt8 × Int) (y : Option Addr × Nat) => .tuple #[.agg #[.int .i64 r.1, .int .i64 r.2.1, .slice y.1 r.2.2.1.length y.2], .int .i64 r.2.2.2]) (fun r y => [Row 5 1 y.1 r.2.2.1.length y.2 (encB r.2.2.1), obj bp0 194 [.slice ap0_0 xp0_0.length cp0_0, .int .i64 xp0_1, .int .i64 xp0_2]]) := by
 unfold codec_last_Snap_Snaps_c2.f
 refine fn_intro 22 Try.func95 rfl Try.ntmps95 rfl ?_
 refine sim_seq ?_
 refine sim_region ?_
 refine simL_eff (re_box rfl rfl rfl) rfl rfl rfl ?_
 intro b1v
 refine simL_eff (re_alloc rfl Try.zeroValue29 rfl) rfl rfl rfl ?_
 intro b2v
 refine simL_val (q_asg rfl rfl) rfl rfl rfl ?_
 refine simL_nil ?_
 refine nrm_then ?_
 refine sim_seq ?_
 refine sim_region ?_
 refine simL_val (q_move rfl rfl) rfl rfl rfl ?_
 refine simL_bind (fun s3v hs5v => ?_)
 refine simL_eff (re_call (vs := [.pointer (some ⟨bp0, 0, none⟩)]) (cap := []) (A := [obj bp0 194 [.slice ap0_0 xp0_0.length cp0_0, .int .i64 xp0_1, .int .i64 xp0_2]]) (rst := [obj b2v 29 [.int .i64 0, .int .i64 0, .slice none 0 0], obj b1v 29 [.int .i64 x2_0, .int .i64 x2_1, .slice a2_2 x2_2.length c2_2], Row 5 1 a2_2 x2_2.length c2_2 (encB x2_2), F]) rfl rfl rfl rfl rfl rfl Try.call124 (.sel 2 rfl (.sel 0 rfl (.sel 0 rfl (.sel 0 rfl (.sel 0 rfl (.nil _)))))) (wire_Reader_Done.calls _ _ bp0 ap0_0 cp0_0 xp0_0 xp0_1 xp0_2 (hp0_0.lend 3 rfl) hcp0_0 hmp0_0) hs5v) rfl rfl rfl ?_
 intro y4v
 refine simL_val (q_asg rfl rfl) rfl rfl rfl ?_
 refine simL_nil ?_
 refine nrm_then ?_
 refine sim_cut (S := Int) (Unit) (fun s y => [(5, .pointer (some ⟨b1v, 0, none⟩)), (6, .pointer (some ⟨b2v, 0, none⟩)), (8, .int .i64 s)]) (fun s y => [obj bp0 194 [.slice ap0_0 xp0_0.length cp0_0, .int .i64 xp0_1, .int .i64 xp0_2], obj b2v 29 [.int .i64 0, .int .i64 0, .slice none 0 0], obj b1v 29 [.int .i64 x2_0, .int .i64 x2_1, .slice a2_2 x2_2.length c2_2], Row 5 1 a2_2 x2_2.length c2_2 (encB x2_2), F]) ?_ ?_
 refine sim_seq ?_
 refine sim_region ?_
 refine simL_val (q_move rfl rfl) rfl rfl rfl ?_
 refine simL_val (q_eql rfl rfl rfl) rfl rfl rfl ?_
 refine simL_nil ?_
 refine nrm_then ?_
 refine sim_cond rfl (fun h8v => ?_) (fun h9v => ?_)
 refine sim_region ?_
 refine simL_val (q_move rfl rfl) rfl rfl rfl ?_
 refine simL_val (q_loado 2 rfl rfl Try.isAgg29 Try.sizeOf29 rfl rfl) rfl rfl rfl ?_
 refine simL_bind (fun s14v hs16v => ?_)
 refine simL_lend 3 rfl (fun hq10v hq11v hq12v hq13v => ?_)
 refine simL_eff (re_invoke (vs := [.agg #[.int .i64 x2_0, .int .i64 x2_1, .slice a2_2 x2_2.length c2_2]]) (A := []) (rst := [obj bp0 194 [.slice ap0_0 xp0_0.length cp0_0, .int .i64 xp0_1, .int .i64 xp0_2], obj b2v 29 [.int .i64 0, .int .i64 0, .slice none 0 0], obj b1v 29 [.int .i64 x2_0, .int .i64 x2_1, .slice a2_2 x2_2.length c2_2], Row 5 1 a2_2 x2_2.length c2_2 (encB x2_2), F]) rfl rfl rfl rfl rfl (fun _ => by kernel_rfl) Try.call41 (.sel 0 rfl (.sel 0 rfl (.sel 0 rfl (.sel 0 rfl (.sel 0 rfl (.nil _)))))) (codec_Snaps_Check.calls _ _ x2_0 x2_1 a2_2 c2_2 x2_2 (hq10v.lend 3 rfl) hq11v hq12v) hs16v) rfl rfl rfl ?_
 intro y15v
 refine simL_val (q_asg rfl rfl) rfl rfl rfl ?_
 refine simL_nil ?_
 exact nrm_cut (s := s14v) () ⟨rfl, rfl, rfl, trivial⟩ (.sel 0 rfl (.sel 0 rfl (.sel 0 rfl (.sel 0 rfl (.sel 0 rfl (.nil _))))))
 refine sim_skip ?_
 exact nrm_cut (s := s3v) () ⟨rfl, rfl, rfl, trivial⟩ (.sel 0 rfl (.sel 0 rfl (.sel 0 rfl (.sel 0 rfl (.sel 0 rfl (.nil _))))))
 intro s6v y7v
 refine sim_seq ?_
 refine sim_seq ?_
 refine sim_region ?_
 refine simL_val (q_move rfl rfl) rfl rfl rfl ?_
 refine simL_val (q_neq rfl rfl rfl) rfl rfl rfl ?_
 refine simL_nil ?_
 refine nrm_then ?_
 refine sim_condn rfl (fun h17v => ?_) (fun h18v => ?_)
 refine sim_skip ?_
 refine nrm_then ?_
 refine sim_seq ?_
 refine sim_region ?_
 refine simL_val (q_loado 2 rfl rfl Try.isAgg29 Try.sizeOf29 rfl rfl) rfl rfl rfl ?_
 refine simL_do (re_store 1 rfl rfl rfl Try.sizeOf29 rfl rfl (one_of (by rfl)) rfl rfl) rfl rfl ?_
 intro _
 refine simL_val (q_asg rfl rfl) rfl rfl rfl ?_
 refine simL_nil ?_
 refine nrm_then ?_
 refine sim_rtn ?_
 exact rtn_fnC (vs := [.agg #[.int .i64 x2_0, .int .i64 x2_1, .slice a2_2 x2_2.length c2_2], .int .i64 0]) (a2_2, c2_2) rfl ⟨⟨b2v, rfl, load_agg 1 Try.isAgg29 Try.sizeOf29 rfl rfl⟩, rfl, trivial⟩ rfl (.sel 3 rfl (.sel 0 rfl (.sel 2 rfl (.nil _))))
 refine sim_seq ?_
 refine sim_region ?_
 refine simL_eff (re_alloc rfl Try.zeroValue29 rfl) rfl rfl rfl ?_
 intro b19v
 refine simL_nil ?_
 refine nrm_then ?_
 refine sim_seq ?_
 refine sim_region ?_
 refine simL_val (q_loado 0 rfl rfl Try.isAgg29 Try.sizeOf29 rfl rfl) rfl rfl rfl ?_
 refine simL_val (q_move rfl rfl) rfl rfl rfl ?_
 refine simL_do (re_store 2 rfl rfl rfl Try.sizeOf29 rfl rfl (one_of (by rfl)) rfl rfl) rfl rfl ?_
 intro _
 refine simL_val (q_asg rfl rfl) rfl rfl rfl ?_
 refine simL_nil ?_
 refine nrm_then ?_
 refine sim_rtn ?_
 refine rtn_then ?_
 exact rtn_fnC (vs := [.agg #[.int .i64 0, .int .i64 0, .slice none 0 0], .int .i64 s6v]) (none, 0) rfl ⟨⟨b2v, rfl, load_agg 2 Try.isAgg29 Try.sizeOf29 rfl rfl⟩, rfl, trivial⟩ rfl (.row_nil (.sel 1 rfl (.sel 4 rfl (.nil _))))
def codec_last_Snap_Snaps_c2.v (xp0_0 : List UInt8) (xp0_1 : Int) (xp0_2 : Int) (x2_0 : Int) (x2_1 : Int) (x2_2 : List UInt8) : Int × Int × List UInt8 × Int := (codec_last_Snap_Snaps_c2.f xp0_0 xp0_1 xp0_2 x2_0 x2_1 x2_2).getD (0, 0, [], 0)
theorem codec_last_Snap_Snaps_c2.tot (xp0_0 : List UInt8) (xp0_1 : Int) (xp0_2 : Int) (x2_0 : Int) (x2_1 : Int) (x2_2 : List UInt8) : codec_last_Snap_Snaps_c2.f xp0_0 xp0_1 xp0_2 x2_0 x2_1 x2_2 = some (codec_last_Snap_Snaps_c2.v xp0_0 xp0_1 xp0_2 x2_0 x2_1 x2_2) := by
  have h : ∃ r, codec_last_Snap_Snaps_c2.f xp0_0 xp0_1 xp0_2 x2_0 x2_1 x2_2 = some r := by
    unfold codec_last_Snap_Snaps_c2.f
    repeat' (first | exact ⟨_, rfl⟩ | split | simp only [Option.bind_some, wire_Reader_Done.tot, codec_Snaps_Check.tot])
  obtain ⟨r, h⟩ := h
  unfold codec_last_Snap_Snaps_c2.v
  rw [h]; rfl

def codec_Snaps_Get.f (k : Nat) (x1 : List UInt8) : Option (Int × Int × List UInt8 × Int) := (wire_NewReader.f x1).bind fun s3v => ((wire_Reader_Int.f k s3v.1 s3v.2.1 s3v.2.2).bind fun s10v => ((wire_Reader_Int.f k s3v.1 s10v.2.1 s10v.2.2).bind fun s17v => ((wire_Reader_Bytes.f k s3v.1 s17v.2.1 s17v.2.2 (524288 : Int)).bind fun s24v => ((codec_last_Snap_Snaps_c2.f s3v.1 s24v.2.1 s24v.2.2 s10v.1 s17v.1 s24v.1).bind fun s32v => (some (s32v.1, s32v.2.1, s32v.2.2.1, s32v.2.2.2))))))
theorem codec_Snaps_Get.calls (W : World) (F : HA) (k : Nat) (a1 : Option Addr) (c1 : Nat) (x1 : List UInt8) (h1 : Rd F a1 (encB x1)) (hc1 : x1.length ≤ c1) (hm1 : c1 ≤ maxLen) :
    Fn Try.prog W 43 [.agg #[], .slice a1 x1.length c1] [] F (codec_Snaps_Get.f k x1) (fun (r : Int × Int × List UInt8 × Int) (y : Option Addr × Nat) => .tuple #[.agg #[.int .i64 r.1, .int .i64 r.2.1, .slice y.1 r.2.2.1.length y.2], .int .i64 r.2.2.2]) (fun r y => [Row 5 1 y.1 r.2.2.1.length y.2 (encB r.2.2.1)]) := by
 unfold codec_Snaps_Get.f
 refine fn_intro 24 Try.func43 rfl Try.ntmps43 rfl ?_
 refine sim_seq ?_
 refine sim_region ?_
 refine simL_eff (re_box rfl rfl rfl) rfl rfl rfl ?_
 intro b1v
 refine simL_eff (re_alloc rfl Try.zeroValue29 rfl) rfl rfl rfl ?_
 intro b2v
 refine simL_val (q_asg rfl rfl) rfl rfl rfl ?_
 refine simL_nil ?_
 refine nrm_then ?_
 refine sim_seq ?_
 refine sim_region ?_
 refine simL_val (q_move rfl rfl) rfl rfl rfl ?_
 refine simL_bind (fun s3v hs5v => ?_)
 refine simL_eff (re_call (vs := [.slice a1 x1.length c1]) (cap := []) (A := []) (rst := [obj b2v 29 [.int .i64 0, .int .i64 0, .slice none 0 0], obj b1v 73 [], F]) rfl rfl rfl rfl rfl rfl Try.call82 (.sel 0 rfl (.sel 0 rfl (.sel 0 rfl (.nil _)))) (wire_NewReader.calls _ _ a1 c1 x1 (h1.lend 2 rfl) hc1 hm1) hs5v) rfl rfl rfl ?_
 intro y4v
 refine simL_val (q_asg rfl rfl) rfl rfl rfl ?_
 refine simL_nil ?_
 refine nrm_then ?_
 refine sim_seq ?_
 refine sim_region ?_
 refine simL_val (q_move rfl rfl) rfl rfl rfl ?_
 refine simL_bind (fun s10v hs12v => ?_)
 refine simL_lend 1 rfl (fun hq6v hq7v hq8v hq9v => ?_)
 refine simL_eff (re_call (vs := [.pointer (some ⟨y4v.1, 0, none⟩)]) (cap := []) (A := [obj y4v.1 194 [.slice y4v.2.1 s3v.1.length y4v.2.2, .int .i64 s3v.2.1, .int .i64 s3v.2.2]]) (rst := [Row 5 1 y4v.2.1 s3v.1.length y4v.2.2 (encB s3v.1), obj b2v 29 [.int .i64 0, .int .i64 0, .slice none 0 0], obj b1v 73 [], F]) rfl rfl rfl rfl rfl rfl Try.call83 (.sel 0 rfl (.sel 0 rfl (.sel 0 rfl (.sel 0 rfl (.sel 0 rfl (.nil _)))))) (wire_Reader_Int.calls _ _ k y4v.1 y4v.2.1 y4v.2.2 s3v.1 s3v.2.1 s3v.2.2 (hq6v.lend 0 rfl) hq7v hq8v) hs12v) rfl rfl rfl ?_
 intro y11v
 refine simL_val (q_move rfl rfl) rfl rfl rfl ?_
 refine simL_bind (fun s17v hs19v => ?_)
 refine simL_lend 1 rfl (fun hq13v hq14v hq15v hq16v => ?_)
 refine simL_eff (re_call (vs := [.pointer (some ⟨y4v.1, 0, none⟩)]) (cap := []) (A := [obj y4v.1 194 [.slice y4v.2.1 s3v.1.length y4v.2.2, .int .i64 s10v.2.1, .int .i64 s10v.2.2]]) (rst := [Row 5 1 y4v.2.1 s3v.1.length y4v.2.2 (encB s3v.1), obj b2v 29 [.int .i64 0, .int .i64 0, .slice none 0 0], obj b1v 73 [], F]) rfl rfl rfl rfl rfl rfl Try.call83 (.sel 0 rfl (.sel 0 rfl (.sel 0 rfl (.sel 0 rfl (.sel 0 rfl (.nil _)))))) (wire_Reader_Int.calls _ _ k y4v.1 y4v.2.1 y4v.2.2 s3v.1 s10v.2.1 s10v.2.2 (hq13v.lend 0 rfl) hq14v hq15v) hs19v) rfl rfl rfl ?_
 intro y18v
 refine simL_val (q_move rfl rfl) rfl rfl rfl ?_
 refine simL_bind (fun s24v hs26v => ?_)
 refine simL_lend 1 rfl (fun hq20v hq21v hq22v hq23v => ?_)
 refine simL_eff (re_call (vs := [.pointer (some ⟨y4v.1, 0, none⟩), .int .i64 524288]) (cap := []) (A := [obj y4v.1 194 [.slice y4v.2.1 s3v.1.length y4v.2.2, .int .i64 s17v.2.1, .int .i64 s17v.2.2]]) (rst := [Row 5 1 y4v.2.1 s3v.1.length y4v.2.2 (encB s3v.1), obj b2v 29 [.int .i64 0, .int .i64 0, .slice none 0 0], obj b1v 73 [], F]) rfl rfl rfl rfl rfl rfl Try.call90 (.sel 0 rfl (.sel 0 rfl (.sel 0 rfl (.sel 0 rfl (.sel 0 rfl (.nil _)))))) (wire_Reader_Bytes.calls _ _ k y4v.1 y4v.2.1 y4v.2.2 s3v.1 s17v.2.1 s17v.2.2 (524288 : Int) (hq20v.lend 0 rfl) hq21v hq22v) hs26v) rfl rfl rfl ?_
 intro y25v
 refine simL_val (q_build (v := .agg #[.int .i64 s10v.1, .int .i64 s17v.1, .slice y25v.1 s24v.1.length y25v.2]) rfl rfl (fun _ => by kernel_rfl)) rfl rfl rfl ?_
 refine simL_eff (re_alloc rfl Try.zeroValue29 rfl) rfl rfl rfl ?_
 intro b27v
 refine simL_do (re_store 0 rfl rfl rfl Try.sizeOf29 rfl rfl (one_of (by rfl)) rfl rfl) rfl rfl ?_
 intro _
 refine simL_nil ?_
 refine nrm_then ?_
 refine sim_seq ?_
 refine sim_region ?_
 refine simL_val (q_move rfl rfl) rfl rfl rfl ?_
 refine simL_val (q_loado 5 rfl rfl Try.isAgg73 Try.sizeOf73 rfl rfl) rfl rfl rfl ?_
 refine simL_val (q_mkif rfl rfl Try.underlying73 rfl) rfl rfl rfl ?_
 refine simL_val (q_loado 0 rfl rfl Try.isAgg29 Try.sizeOf29 rfl rfl) rfl rfl rfl ?_
 refine simL_bind (fun s32v hs34v => ?_)
 refine simL_lend 3 rfl (fun hq28v hq29v hq30v hq31v => ?_)
 refine simL_eff (re_call (vs := [.pointer (some ⟨y4v.1, 0, none⟩), .iface 73 (.agg #[]), .agg #[.int .i64 s10v.1, .int .i64 s17v.1, .slice y25v.1 s24v.1.length y25v.2]]) (cap := []) (A := [obj y4v.1 194 [.slice y4v.2.1 s3v.1.length y4v.2.2, .int .i64 s24v.2.1, .int .i64 s24v.2.2], Row 5 1 y25v.1 s24v.1.length y25v.2 (encB s24v.1)]) (rst := [obj b27v 29 [.int .i64 s10v.1, .int .i64 s17v.1, .slice y25v.1 s24v.1.length y25v.2], Row 5 1 y4v.2.1 s3v.1.length y4v.2.2 (encB s3v.1), obj b2v 29 [.int .i64 0, .int .i64 0, .slice none 0 0], obj b1v 73 [], F]) rfl rfl rfl rfl rfl rfl Try.call95 (.sel 2 rfl (.sel 1 rfl (.sel 0 rfl (.sel 0 rfl (.sel 0 rfl (.sel 0 rfl (.sel 0 rfl (.nil _)))))))) (codec_last_Snap_Snaps_c2.calls _ _ y4v.1 y4v.2.1 y4v.2.2 s3v.1 s24v.2.1 s24v.2.2 s10v.1 s17v.1 y25v.1 y25v.2 s24v.1 (hq28v.lend 1 rfl) hq29v hq30v) hs34v) rfl rfl rfl ?_
 intro y33v
 refine simL_val (q_ext rfl rfl rfl) rfl rfl rfl ?_
 refine simL_val (q_ext rfl rfl rfl) rfl rfl rfl ?_
 refine simL_do (re_store 4 rfl rfl rfl Try.sizeOf29 rfl rfl (one_of (by rfl)) rfl rfl) rfl rfl ?_
 intro _
 refine simL_val (q_asg rfl rfl) rfl rfl rfl ?_
 refine simL_nil ?_
 refine nrm_then ?_
 refine sim_rtn ?_
 exact rtn_fnC (vs := [.agg #[.int .i64 s32v.1, .int .i64 s32v.2.1, .slice y33v.1 s32v.2.2.1.length y33v.2], .int .i64 s32v.2.2.2]) (y33v.1, y33v.2) rfl ⟨⟨b2v, rfl, load_agg 4 Try.isAgg29 Try.sizeOf29 rfl rfl⟩, rfl, trivial⟩ rfl (.sel 0 rfl (.sel 5 rfl (.nil _)))

def wire_Reader_Text.f (k : Nat) (x0_0 : List UInt8) (x0_1 : Int) (x0_2 : Int) (x1 : Int) : Option (List UInt8 × Int × Int) := (wire_Reader_Bytes.f k x0_0 x0_1 x0_2 x1).bind fun s1v => (some (s1v.1, s1v.2.1, s1v.2.2))
theorem wire_Reader_Text.calls (W : World) (F : HA) (k : Nat) (b0 : Nat) (a0_0 : Option Addr) (c0_0 : Nat) (x0_0 : List UInt8) (x0_1 : Int) (x0_2 : Int) (x1 : Int) (h0_0 : Rd F a0_0 (encB x0_0)) (hc0_0 : x0_0.length ≤ c0_0) (hm0_0 : c0_0 ≤ maxLen) :
    Fn Try.prog W 99 [.pointer (some ⟨b0, 0, none⟩), .int .i64 x1] [obj b0 194 [.slice a0_0 x0_0.length c0_0, .int .i64 x0_1, .int .i64 x0_2]] F (wire_Reader_Text.f k x0_0 x0_1 x0_2 x1) (fun (r : List UInt8 × Int × Int) (y : Unit) => str r.1) (fun r y => [obj b0 194 [.slice a0_0 x0_0.length c0_0, .int .i64 r.2.1, .int .i64 r.2.2]]) := by
 unfold wire_Reader_Text.f
 refine fn_intro 9 Try.func99 rfl Try.ntmps99 rfl ?_
 refine sim_seq ?_
 refine sim_region ?_
 refine simL_val (q_asg rfl rfl) rfl rfl rfl ?_
 refine simL_nil ?_
 refine nrm_then ?_
 refine sim_seq ?_
 refine sim_region ?_
 refine simL_val (q_move rfl rfl) rfl rfl rfl ?_
 refine simL_val (q_move rfl rfl) rfl rfl rfl ?_
 refine simL_bind (fun s1v hs3v => ?_)
 refine simL_eff (re_call (vs := [.pointer (some ⟨b0, 0, none⟩), .int .i64 x1]) (cap := []) (A := [obj b0 194 [.slice a0_0 x0_0.length c0_0, .int .i64 x0_1, .int .i64 x0_2]]) (rst := [F]) rfl rfl rfl rfl rfl rfl Try.call90 (.sel 0 rfl (.sel 0 rfl (.nil _))) (wire_Reader_Bytes.calls _ _ k b0 a0_0 c0_0 x0_0 x0_1 x0_2 x1 (h0_0.lend 0 rfl) hc0_0 hm0_0) hs3v) rfl rfl rfl ?_
 intro y2v
 refine simL_val (q_tostr rfl rfl Try.underlying27 Try.underlying5 Try.underlying9 (Rds.row 0 rfl) rfl) rfl rfl rfl ?_
 refine simL_val (q_asg rfl rfl) rfl rfl rfl ?_
 refine simL_nil ?_
 refine nrm_then ?_
 refine sim_rtn ?_
 exact rtn_fn () rfl rfl rfl (.sel 1 rfl (.sel 1 rfl (.nil _)))

def wire_Reader_Bool.f (k : Nat) (x0_0 : List UInt8) (x0_1 : Int) (x0_2 : Int) : Option (Bool × Int × Int) := (wire_Reader_look.f k x0_0 x0_1 x0_2).bind fun s1v => (if (!s1v.2.2.1) = true then (some (false, s1v.2.2.2.1, s1v.2.2.2.2)) else (if (1 : Int) < s1v.1 then (some (false, s1v.2.2.2.1, 4)) else (some (decide (s1v.1 = (1 : Int)), IntKind.i64.wrap (s1v.2.2.2.1 + s1v.2.1), s1v.2.2.2.2))))
theorem wire_Reader_Bool.calls (W : World) (F : HA) (k : Nat) (b0 : Nat) (a0_0 : Option Addr) (c0_0 : Nat) (x0_0 : List UInt8) (x0_1 : Int) (x0_2 : Int) (h0_0 : Rd F a0_0 (encB x0_0)) (hc0_0 : x0_0.length ≤ c0_0) (hm0_0 : c0_0 ≤ maxLen) :
    Fn Try.prog W 111 [.pointer (some ⟨b0, 0, none⟩)] [obj b0 194 [.slice a0_0 x0_0.length c0_0, .int .i64 x0_1, .int .i64 x0_2]] F (wire_Reader_Bool.f k x0_0 x0_1 x0_2) (fun (r : Bool × Int × Int) (y : Unit) => .bool r.1) (fun r y => [obj b0 194 [.slice a0_0 x0_0.length c0_0, .int .i64 r.2.1, .int .i64 r.2.2]]) := by
 unfold wire_Reader_Bool.f
 refine fn_intro 29 Try.func111 rfl Try.ntmps111 rfl ?_
 refine sim_seq ?_
 refine sim_region ?_
 refine simL_val (q_asg rfl rfl) rfl rfl rfl ?_
 refine simL_nil ?_
 refine nrm_then ?_
 refine sim_seq ?_
 refine sim_region ?_
 refine simL_val (q_move rfl rfl) rfl rfl rfl ?_
 refine simL_bind (fun s1v hs3v => ?_)
 refine simL_eff (re_call (vs := [.pointer (some ⟨b0, 0, none⟩)]) (cap := []) (A := [obj b0 194 [.slice a0_0 x0_0.length c0_0, .int .i64 x0_1, .int .i64 x0_2]]) (rst := [F]) rfl rfl rfl rfl rfl rfl Try.call129 (.sel 0 rfl (.sel 0 rfl (.nil _))) (wire_Reader_look.calls _ _ k b0 a0_0 c0_0 x0_0 x0_1 x0_2 (h0_0.lend 0 rfl) hc0_0 hm0_0) hs3v) rfl rfl rfl ?_
 intro y2v
 refine simL_val (q_move rfl rfl) rfl rfl rfl ?_
 refine simL_val (q_ext rfl rfl rfl) rfl rfl rfl ?_
 refine simL_val (q_ext rfl rfl rfl) rfl rfl rfl ?_
 refine simL_val (q_ext rfl rfl rfl) rfl rfl rfl ?_
 refine simL_val (q_asg rfl rfl) rfl rfl rfl ?_
 refine simL_val (q_asg rfl rfl) rfl rfl rfl ?_
 refine simL_val (q_asg rfl rfl) rfl rfl rfl ?_
 refine simL_nil ?_
 refine nrm_then ?_
 refine sim_seq ?_
 refine sim_seq ?_
 refine sim_region ?_
 refine simL_val (q_move rfl rfl) rfl rfl rfl ?_
 refine simL_val (q_not rfl rfl) rfl rfl rfl ?_
 refine simL_nil ?_
 refine nrm_then ?_
 refine sim_condb rfl (fun h4v => ?_) (fun h5v => ?_)
 refine sim_seq ?_
 refine sim_region ?_
 refine simL_val (q_asg rfl rfl) rfl rfl rfl ?_
 refine simL_nil ?_
 refine nrm_then ?_
 refine sim_rtn ?_
 refine rtn_then ?_
 exact rtn_fn () rfl rfl rfl (.sel 0 rfl (.sel 0 rfl (.nil _)))
 refine sim_skip ?_
 refine nrm_then ?_
 refine sim_seq ?_
 refine sim_seq ?_
 refine sim_region ?_
 refine simL_val (q_move rfl rfl) rfl rfl rfl ?_
 refine simL_val (q_gtr rfl rfl rfl) rfl rfl rfl ?_
 refine simL_nil ?_
 refine nrm_then ?_
 refine sim_cond rfl (fun h6v => ?_) (fun h7v => ?_)
 refine sim_seq ?_
 refine sim_region ?_
 refine simL_val (q_move rfl rfl) rfl rfl rfl ?_
 refine simL_val (q_nil rfl rfl) rfl rfl rfl ?_
 refine simL_val (q_fa rfl rfl Try.underlying194 rfl rfl Try.sizeOf46 rfl) rfl rfl rfl ?_
 refine simL_do (re_store 0 rfl rfl rfl Try.sizeOf46 rfl rfl (one_of (by rfl)) rfl rfl) rfl rfl ?_
 intro _
 refine simL_nil ?_
 refine nrm_then ?_
 refine sim_seq ?_
 refine sim_region ?_
 refine simL_val (q_asg rfl rfl) rfl rfl rfl ?_
 refine simL_nil ?_
 refine nrm_then ?_
 refine sim_rtn ?_
 refine rtn_then ?_
 exact rtn_fn () rfl rfl rfl (.sel 0 rfl (.sel 0 rfl (.nil _)))
 refine sim_skip ?_
 refine nrm_then ?_
 refine sim_seq ?_
 refine sim_region ?_
 refine simL_val (q_move rfl rfl) rfl rfl rfl ?_
 refine simL_val (q_nil rfl rfl) rfl rfl rfl ?_
 refine simL_val (q_fa rfl rfl Try.underlying194 rfl rfl Try.sizeOf3 rfl) rfl rfl rfl ?_
 refine simL_val (q_load rfl rfl Try.isAgg3 (.obj 0 rfl rfl)) rfl rfl rfl ?_
 refine simL_val (q_move rfl rfl) rfl rfl rfl ?_
 refine simL_val (q_add rfl rfl rfl) rfl rfl rfl ?_
 refine simL_val (q_nil rfl rfl) rfl rfl rfl ?_
 refine simL_val (q_fa rfl rfl Try.underlying194 rfl rfl Try.sizeOf3 rfl) rfl rfl rfl ?_
 refine simL_do (re_store 0 rfl rfl rfl Try.sizeOf3 rfl rfl (one_of (by rfl)) rfl rfl) rfl rfl ?_
 intro _
 refine simL_nil ?_
 refine nrm_then ?_
 refine sim_seq ?_
 refine sim_region ?_
 refine simL_val (q_move rfl rfl) rfl rfl rfl ?_
 refine simL_val (q_eql rfl rfl rfl) rfl rfl rfl ?_
 refine simL_val (q_asg rfl rfl) rfl rfl rfl ?_
 refine simL_nil ?_
 refine nrm_then ?_
 refine sim_rtn ?_
 exact rtn_fn () rfl rfl rfl (.sel 0 rfl (.sel 0 rfl (.nil _)))
end Go.Proofs.Ytdoghfenhoigmaa

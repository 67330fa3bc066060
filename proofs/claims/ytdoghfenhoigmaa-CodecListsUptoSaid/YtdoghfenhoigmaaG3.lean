/- Printed by gen.py: pure functions and the proofs that the Go functions simulate them. Conditions: as each theorem says. -/
import Derived.Test.YtdoghfenhoigmaaG2
namespace Go.Proofs.Ytdoghfenhoigmaa
open Go.RowKit
set_option linter.unusedVariables false
set_option maxRecDepth 20000
set_option maxHeartbeats 2000000
def synodref1_Int.l1 (x0 : List UInt8) (x1 : Int) : Nat → Int → Int → Option (Int)
  | 0, _, _ => none
  | k + 1, z42v, z43v => if (0 : Int) ≤ z43v then (if 0 ≤ IntKind.i64.wrap (x1 + z43v) ∧ IntKind.i64.wrap (x1 + z43v) < (x0.length : Int) then (synodref1_Int.l1 x0 x1 k (IntKind.i64.wrap ((IntKind.i64.wrap (z42v * 128)) + (Int.tmod (IntKind.i64.wrap ((x0.getD (IntKind.i64.wrap (x1 + z43v)).toNat 0).toNat : Int)) 128))) (IntKind.i64.wrap (z43v - 1))) else none) else (some z42v)
def synodref1_Int.l0 (x0 : List UInt8) (x1 : Int) : Nat → Int → Option (Int)
  | 0, _ => none
  | k + 1, z7v => (if ((decide (z7v < (9 : Int))) && (decide (IntKind.i64.wrap (x1 + z7v) < (x0.length : Int)))) = true then (if 0 ≤ IntKind.i64.wrap (x1 + z7v) ∧ IntKind.i64.wrap (x1 + z7v) < (x0.length : Int) then (some (decide ((128 : Int) ≤ ((x0.getD (IntKind.i64.wrap (x1 + z7v)).toNat 0).toNat : Int)))) else none) else (some false)).bind fun s8v => (if s8v = true then (synodref1_Int.l0 x0 x1 k (IntKind.i64.wrap (z7v + 1))) else (some z7v))
def synodref1_Int.f (k : Nat) (x0 : List UInt8) (x1 : Int) : Option (Int × Int × Int) := if ((decide (x1 < (0 : Int))) || (decide ((x0.length : Int) ≤ x1))) = true then (some (0, 0, 2)) else ((synodref1_Int.l0 x0 x1 k 0).bind fun s3v => (if s3v = (9 : Int) then (some (0, 0, 4)) else (if (x0.length : Int) ≤ IntKind.i64.wrap (x1 + s3v) then (some (0, 0, 2)) else ((if (0 : Int) < s3v then (if 0 ≤ IntKind.i64.wrap (x1 + s3v) ∧ IntKind.i64.wrap (x1 + s3v) < (x0.length : Int) then (some (decide (((x0.getD (IntKind.i64.wrap (x1 + s3v)).toNat 0).toNat : Int) = (0 : Int)))) else none) else (some false)).bind fun s28v => (if s28v = true then (some (0, 0, 4)) else ((synodref1_Int.l1 x0 x1 k 0 s3v).bind fun s38v => (if (4611686018427387904 : Int) < s38v then (some (0, 0, 1)) else (some (s38v, IntKind.i64.wrap (s3v + 1), 0)))))))))
theorem synodref1_Int.calls (W : World) (F : HA) (k : Nat) (a0 : Option Addr) (c0 : Nat) (x0 : List UInt8) (x1 : Int) (h0 : Rd F a0 (encB x0)) (hc0 : x0.length ≤ c0) (hm0 : c0 ≤ maxLen) :
    Fn Try.prog W 130 [.slice a0 x0.length c0, .int .i64 x1] [] F (synodref1_Int.f k x0 x1) (fun (r : Int × Int × Int) (y : Unit) => .tuple #[.int .i64 r.1, .int .i64 r.2.1, .int .i64 r.2.2]) (fun r y => []) := by
 unfold synodref1_Int.f
 refine fn_intro 79 Try.func130 rfl Try.ntmps130 rfl ?_
 refine sim_seq (sim_region ?_)
 refine simL_val (q_asg rfl rfl) rfl rfl rfl ?_
 refine simL_val (q_asg rfl rfl) rfl rfl rfl ?_
 refine simL_val (q_asg rfl rfl) rfl rfl rfl (simL_nil (nrm_then (sim_seq (sim_seq (sim_region ?_)))))
 refine simL_val (q_move rfl rfl) rfl rfl rfl ?_
 refine simL_val (q_lss rfl rfl rfl) rfl rfl rfl ?_
 refine simL_val (q_move rfl rfl) rfl rfl rfl ?_
 refine simL_valc (b := decide (x1 < (0 : Int))) (fun hb56v => RQ.sub (E' := [(1, .int .i64 x1)]) ⟨rfl, trivial⟩ (q_move rfl rfl)) rfl rfl rfl rfl rfl ?_
 refine simL_valc (b := decide (x1 < (0 : Int))) (fun hb55v => RQ.sub (E' := [(0, .slice a0 x0.length c0)]) ⟨rfl, trivial⟩ (q_move rfl rfl)) rfl rfl rfl rfl rfl ?_
 refine simL_valc (b := decide (x1 < (0 : Int))) (fun hb54v => RQ.sub (E' := [(14, .slice a0 x0.length c0)]) ⟨lk_cv rfl hb54v, trivial⟩ (q_len rfl rfl rfl Try.underlying27)) rfl rfl rfl rfl rfl ?_
 refine simL_valc (b := decide (x1 < (0 : Int))) (fun hb53v => RQ.sub (E' := [(13, .int .i64 x1), (15, .int .i64 (x0.length : Int))]) ⟨lk_cv rfl hb53v, lk_cv rfl hb53v, trivial⟩ (q_geq rfl rfl rfl)) rfl rfl rfl rfl rfl ?_
 refine simL_val (q_or rfl rfl rfl) rfl rfl rfl (simL_nil (nrm_then ?_))
 refine sim_condb rfl (fun h1v => ?_) (fun h2v => ?_)
 refine sim_seq (sim_region ?_)
 refine simL_val (q_asg rfl rfl) rfl rfl rfl ?_
 refine simL_val (q_asg rfl rfl) rfl rfl rfl ?_
 refine simL_val (q_asg rfl rfl) rfl rfl rfl (simL_nil (nrm_then (sim_rtn ?_)))
 refine rtn_then ?_
 exact rtn_fn () rfl rfl rfl (.sel 0 rfl (.nil _))
 refine sim_skip ?_
 refine nrm_then (sim_seq (sim_region ?_))
 refine simL_val (q_asg rfl rfl) rfl rfl rfl (simL_nil (nrm_then ?_))
 refine sim_cut (S := Int) (Unit) (fun s y => [(0, .slice a0 x0.length c0), (1, .int .i64 x1), (7, .int .i64 s)]) (fun s y => [F]) ?_ ?_
 refine sim_block ?_
 refine sim_loop (S := Int) (Unit) (fun k s => synodref1_Int.l0 x0 x1 k s) (fun s y => [(0, .slice a0 x0.length c0), (1, .int .i64 x1), (7, .int .i64 s)]) (fun s y => [F]) (fun _ => by rw [synodref1_Int.l0]) ?_ k 0 () ⟨rfl, rfl, rfl, trivial⟩ (.sel 0 rfl (.nil _))
 intro k s5v y6v
 refine sim_eq (by rw [synodref1_Int.l0]) ?_
 refine sim_seq (sim_seq (sim_region ?_))
 refine simL_val (q_move rfl rfl) rfl rfl rfl ?_
 refine simL_val (q_lss rfl rfl rfl) rfl rfl rfl ?_
 refine simL_val (q_move rfl rfl) rfl rfl rfl ?_
 refine simL_valc (b := decide (s5v < (9 : Int))) (fun hb23v => RQ.sub (E' := [(1, .int .i64 x1)]) ⟨rfl, trivial⟩ (q_move rfl rfl)) rfl rfl rfl rfl rfl ?_
 refine simL_valc (b := decide (s5v < (9 : Int))) (fun hb22v => RQ.sub (E' := [(7, .int .i64 s5v)]) ⟨rfl, trivial⟩ (q_move rfl rfl)) rfl rfl rfl rfl rfl ?_
 refine simL_valc (b := decide (s5v < (9 : Int))) (fun hb21v => RQ.sub (E' := [(21, .int .i64 x1), (22, .int .i64 s5v)]) ⟨lk_cv rfl hb21v, lk_cv rfl hb21v, trivial⟩ (q_add rfl rfl rfl)) rfl rfl rfl rfl rfl ?_
 refine simL_valc (b := decide (s5v < (9 : Int))) (fun hb20v => RQ.sub (E' := [(0, .slice a0 x0.length c0)]) ⟨rfl, trivial⟩ (q_move rfl rfl)) rfl rfl rfl rfl rfl ?_
 refine simL_valc (b := decide (s5v < (9 : Int))) (fun hb19v => RQ.sub (E' := [(24, .slice a0 x0.length c0)]) ⟨lk_cv rfl hb19v, trivial⟩ (q_len rfl rfl rfl Try.underlying27)) rfl rfl rfl rfl rfl ?_
 refine simL_valc (b := decide (s5v < (9 : Int))) (fun hb18v => RQ.sub (E' := [(23, .int .i64 (IntKind.i64.wrap (x1 + s5v))), (25, .int .i64 (x0.length : Int))]) ⟨lk_cv rfl hb18v, lk_cv rfl hb18v, trivial⟩ (q_lss rfl rfl rfl)) rfl rfl rfl rfl rfl ?_
 refine simL_val (q_and rfl rfl rfl) rfl rfl rfl ?_
 refine simL_val (q_move rfl rfl) rfl rfl rfl ?_
 refine simL_cut' 8 (S := Bool) (Unit) (fun s y => [(0, .slice a0 x0.length c0), (1, .int .i64 x1), (7, .int .i64 s5v), (36, .bool s)]) (fun s y => [F]) ?_ ?_
 refine simL_caseb (fun hb14v => ?_) (fun hb15v => ?_)
 rw [hb14v]
 refine simL_valg (q_move rfl rfl) rfl rfl rfl rfl rfl rfl ?_
 refine simL_valg (q_move rfl rfl) rfl rfl rfl rfl rfl rfl ?_
 refine simL_valg (q_move rfl rfl) rfl rfl rfl rfl rfl rfl ?_
 refine simL_valg (q_add rfl rfl rfl) rfl rfl rfl rfl rfl rfl ?_
 refine simL_ask (fun hi10v => ?_)
 obtain ⟨b11v, b11vo, ha12v⟩ := h0.pos (encB_ne (j := (IntKind.i64.wrap (x1 + s5v)).toNat) (by omega))
 refine simL_valg (q_idx1 rfl rfl rfl ha12v Try.underlying27 Try.sizeOf5 hi10v.1 hi10v.2) rfl rfl rfl rfl rfl rfl ?_
 refine simL_valg (q_load rfl rfl Try.isAgg5 (h0.cell 0 rfl ha12v (encB_get (by omega)))) rfl rfl rfl rfl rfl rfl ?_
 refine simL_valg (q_geq rfl rfl rfl) rfl rfl rfl rfl rfl rfl ?_
 refine simL_val (q_pick rfl rfl rfl rfl rfl) rfl rfl rfl (simL_nil ?_)
 exact nrm_cut (s := decide ((128 : Int) ≤ ((x0.getD (IntKind.i64.wrap (x1 + s5v)).toNat 0).toNat : Int))) () ⟨rfl, rfl, rfl, rfl, trivial⟩ (.sel 0 rfl (.nil _))
 rw [hb15v]
 refine simL_skipd rfl rfl rfl rfl rfl rfl ?_
 refine simL_skipd rfl rfl rfl rfl rfl rfl ?_
 refine simL_skipd rfl rfl rfl rfl rfl rfl ?_
 refine simL_skipd rfl rfl rfl rfl rfl rfl ?_
 refine simL_skipd rfl rfl rfl rfl rfl rfl ?_
 refine simL_skipd rfl rfl rfl rfl rfl rfl ?_
 refine simL_skipd rfl rfl rfl rfl rfl rfl ?_
 refine simL_val (q_pick rfl rfl rfl rfl rfl) rfl rfl rfl (simL_nil ?_)
 exact nrm_cut (s := false) () ⟨rfl, rfl, rfl, rfl, trivial⟩ (.sel 0 rfl (.nil _))
 intro s8v y9v
 refine simL_nil (nrm_then ?_)
 refine sim_condb rfl (fun h16v => ?_) (fun h17v => ?_)
 refine sim_skip ?_
 refine nrm_then ?_
 refine sim_block ?_
 refine sim_region ?_
 refine simL_val (q_move rfl rfl) rfl rfl rfl ?_
 refine simL_val (q_add rfl rfl rfl) rfl rfl rfl ?_
 refine simL_val (q_asg rfl rfl) rfl rfl rfl (simL_nil (nrm_block ?_))
 exact nrm_again (s := IntKind.i64.wrap (s5v + 1)) () ⟨rfl, rfl, rfl, trivial⟩ (.sel 0 rfl (.nil _))
 refine sim_exi ?_
 refine exi_then ?_
 refine exi_loop ?_
 refine exi_here ?_
 exact nrm_cut (s := s5v) () ⟨rfl, rfl, rfl, trivial⟩ (.sel 0 rfl (.nil _))
 intro s3v y4v
 refine sim_seq (sim_seq (sim_region ?_))
 refine simL_val (q_move rfl rfl) rfl rfl rfl ?_
 refine simL_val (q_eql rfl rfl rfl) rfl rfl rfl (simL_nil (nrm_then ?_))
 refine sim_cond rfl (fun h24v => ?_) (fun h25v => ?_)
 refine sim_seq (sim_region ?_)
 refine simL_val (q_asg rfl rfl) rfl rfl rfl ?_
 refine simL_val (q_asg rfl rfl) rfl rfl rfl ?_
 refine simL_val (q_asg rfl rfl) rfl rfl rfl (simL_nil (nrm_then (sim_rtn ?_)))
 refine rtn_then ?_
 exact rtn_fn () rfl rfl rfl (.sel 0 rfl (.nil _))
 refine sim_skip ?_
 refine nrm_then (sim_seq (sim_seq (sim_region ?_)))
 refine simL_val (q_move rfl rfl) rfl rfl rfl ?_
 refine simL_val (q_move rfl rfl) rfl rfl rfl ?_
 refine simL_val (q_add rfl rfl rfl) rfl rfl rfl ?_
 refine simL_val (q_move rfl rfl) rfl rfl rfl ?_
 refine simL_val (q_len rfl rfl rfl Try.underlying27) rfl rfl rfl ?_
 refine simL_val (q_geq rfl rfl rfl) rfl rfl rfl (simL_nil (nrm_then ?_))
 refine sim_cond rfl (fun h26v => ?_) (fun h27v => ?_)
 refine sim_seq (sim_region ?_)
 refine simL_val (q_asg rfl rfl) rfl rfl rfl ?_
 refine simL_val (q_asg rfl rfl) rfl rfl rfl ?_
 refine simL_val (q_asg rfl rfl) rfl rfl rfl (simL_nil (nrm_then (sim_rtn ?_)))
 refine rtn_then ?_
 exact rtn_fn () rfl rfl rfl (.sel 0 rfl (.nil _))
 refine sim_skip ?_
 refine nrm_then (sim_seq (sim_seq (sim_region ?_)))
 refine simL_val (q_move rfl rfl) rfl rfl rfl ?_
 refine simL_val (q_gtr rfl rfl rfl) rfl rfl rfl ?_
 refine simL_val (q_move rfl rfl) rfl rfl rfl ?_
 refine simL_cut' 8 (S := Bool) (Unit) (fun s y => [(0, .slice a0 x0.length c0), (1, .int .i64 x1), (7, .int .i64 s3v), (57, .bool s)]) (fun s y => [F]) ?_ ?_
 refine simL_casep (fun hb34v => ?_) (fun hb35v => ?_)
 rw [hb34v]
 refine simL_valg (q_move rfl rfl) rfl rfl rfl rfl rfl rfl ?_
 refine simL_valg (q_move rfl rfl) rfl rfl rfl rfl rfl rfl ?_
 refine simL_valg (q_move rfl rfl) rfl rfl rfl rfl rfl rfl ?_
 refine simL_valg (q_add rfl rfl rfl) rfl rfl rfl rfl rfl rfl ?_
 refine simL_ask (fun hi30v => ?_)
 obtain ⟨b31v, b31vo, ha32v⟩ := h0.pos (encB_ne (j := (IntKind.i64.wrap (x1 + s3v)).toNat) (by omega))
 refine simL_valg (q_idx1 rfl rfl rfl ha32v Try.underlying27 Try.sizeOf5 hi30v.1 hi30v.2) rfl rfl rfl rfl rfl rfl ?_
 refine simL_valg (q_load rfl rfl Try.isAgg5 (h0.cell 0 rfl ha32v (encB_get (by omega)))) rfl rfl rfl rfl rfl rfl ?_
 refine simL_valg (q_eql rfl rfl rfl) rfl rfl rfl rfl rfl rfl ?_
 refine simL_val (q_pick rfl rfl rfl rfl rfl) rfl rfl rfl (simL_nil ?_)
 exact nrm_cut (s := decide (((x0.getD (IntKind.i64.wrap (x1 + s3v)).toNat 0).toNat : Int) = (0 : Int))) () ⟨rfl, rfl, rfl, rfl, trivial⟩ (.sel 0 rfl (.nil _))
 rw [hb35v]
 refine simL_skipd rfl rfl rfl rfl rfl rfl ?_
 refine simL_skipd rfl rfl rfl rfl rfl rfl ?_
 refine simL_skipd rfl rfl rfl rfl rfl rfl ?_
 refine simL_skipd rfl rfl rfl rfl rfl rfl ?_
 refine simL_skipd rfl rfl rfl rfl rfl rfl ?_
 refine simL_skipd rfl rfl rfl rfl rfl rfl ?_
 refine simL_skipd rfl rfl rfl rfl rfl rfl ?_
 refine simL_val (q_pick rfl rfl rfl rfl rfl) rfl rfl rfl (simL_nil ?_)
 exact nrm_cut (s := false) () ⟨rfl, rfl, rfl, rfl, trivial⟩ (.sel 0 rfl (.nil _))
 intro s28v y29v
 refine simL_nil (nrm_then ?_)
 refine sim_condb rfl (fun h36v => ?_) (fun h37v => ?_)
 refine sim_seq (sim_region ?_)
 refine simL_val (q_asg rfl rfl) rfl rfl rfl ?_
 refine simL_val (q_asg rfl rfl) rfl rfl rfl ?_
 refine simL_val (q_asg rfl rfl) rfl rfl rfl (simL_nil (nrm_then (sim_rtn ?_)))
 refine rtn_then ?_
 exact rtn_fn () rfl rfl rfl (.sel 0 rfl (.nil _))
 refine sim_skip ?_
 refine nrm_then (sim_seq (sim_region ?_))
 refine simL_val (q_asg rfl rfl) rfl rfl rfl (simL_nil (nrm_then ?_))
 refine sim_cut (S := Int) (Unit) (fun s y => [(7, .int .i64 s3v), (8, .int .i64 s)]) (fun s y => [F]) ?_ ?_
 refine sim_seq (sim_region ?_)
 refine simL_val (q_move rfl rfl) rfl rfl rfl ?_
 refine simL_val (q_asg rfl rfl) rfl rfl rfl (simL_nil (nrm_then ?_))
 refine sim_block ?_
 refine sim_loop (S := Int × Int) (Unit) (fun k s => synodref1_Int.l1 x0 x1 k s.1 s.2) (fun s y => [(0, .slice a0 x0.length c0), (1, .int .i64 x1), (7, .int .i64 s3v), (8, .int .i64 s.1), (9, .int .i64 s.2)]) (fun s y => [F]) (fun _ => by rw [synodref1_Int.l1]) ?_ k (0, s3v) () ⟨rfl, rfl, rfl, rfl, rfl, trivial⟩ (.sel 0 rfl (.nil _))
 intro k s40v y41v
 refine sim_eq (by rw [synodref1_Int.l1]) ?_
 refine sim_seq (sim_seq (sim_region ?_))
 refine simL_val (q_move rfl rfl) rfl rfl rfl ?_
 refine simL_val (q_geq rfl rfl rfl) rfl rfl rfl (simL_nil (nrm_then ?_))
 refine sim_cond rfl (fun h44v => ?_) (fun h45v => ?_)
 refine sim_skip ?_
 refine nrm_then (sim_seq ?_)
 refine sim_block ?_
 refine sim_region ?_
 refine simL_val (q_move rfl rfl) rfl rfl rfl ?_
 refine simL_val (q_mul rfl rfl rfl) rfl rfl rfl ?_
 refine simL_val (q_move rfl rfl) rfl rfl rfl ?_
 refine simL_val (q_move rfl rfl) rfl rfl rfl ?_
 refine simL_val (q_move rfl rfl) rfl rfl rfl ?_
 refine simL_val (q_add rfl rfl rfl) rfl rfl rfl ?_
 refine simL_ask (fun hi46v => ?_)
 obtain ⟨b47v, b47vo, ha48v⟩ := h0.pos (encB_ne (j := (IntKind.i64.wrap (x1 + s40v.2)).toNat) (by omega))
 refine simL_val (q_idx1 rfl rfl rfl ha48v Try.underlying27 Try.sizeOf5 hi46v.1 hi46v.2) rfl rfl rfl ?_
 refine simL_val (q_load rfl rfl Try.isAgg5 (h0.cell 0 rfl ha48v (encB_get (by omega)))) rfl rfl rfl ?_
 refine simL_val (q_conv rfl rfl Try.underlying5 Try.underlying3) rfl rfl rfl ?_
 refine simL_val (q_rem rfl rfl rfl (by decide)) rfl rfl rfl ?_
 refine simL_val (q_add rfl rfl rfl) rfl rfl rfl ?_
 refine simL_val (q_asg rfl rfl) rfl rfl rfl (simL_nil (nrm_block (nrm_then (sim_region ?_))))
 refine simL_val (q_move rfl rfl) rfl rfl rfl ?_
 refine simL_val (q_sub rfl rfl rfl) rfl rfl rfl ?_
 refine simL_val (q_asg rfl rfl) rfl rfl rfl (simL_nil ?_)
 exact nrm_again (s := (IntKind.i64.wrap ((IntKind.i64.wrap (s40v.1 * 128)) + (Int.tmod (IntKind.i64.wrap ((x0.getD (IntKind.i64.wrap (x1 + s40v.2)).toNat 0).toNat : Int)) 128)), IntKind.i64.wrap (s40v.2 - 1))) () ⟨rfl, rfl, rfl, rfl, rfl, trivial⟩ (.sel 0 rfl (.nil _))
 refine sim_exi ?_
 refine exi_then ?_
 refine exi_loop ?_
 refine exi_here ?_
 exact nrm_cut (s := s40v.1) () ⟨rfl, rfl, trivial⟩ (.sel 0 rfl (.nil _))
 intro s38v y39v
 refine sim_seq (sim_seq (sim_region ?_))
 refine simL_val (q_move rfl rfl) rfl rfl rfl ?_
 refine simL_val (q_gtr rfl rfl rfl) rfl rfl rfl (simL_nil (nrm_then ?_))
 refine sim_cond rfl (fun h51v => ?_) (fun h52v => ?_)
 refine sim_seq (sim_region ?_)
 refine simL_val (q_asg rfl rfl) rfl rfl rfl ?_
 refine simL_val (q_asg rfl rfl) rfl rfl rfl ?_
 refine simL_val (q_asg rfl rfl) rfl rfl rfl (simL_nil (nrm_then (sim_rtn ?_)))
 refine rtn_then ?_
 exact rtn_fn () rfl rfl rfl (.sel 0 rfl (.nil _))
 refine sim_skip ?_
 refine nrm_then (sim_seq (sim_region ?_))
 refine simL_val (q_move rfl rfl) rfl rfl rfl ?_
 refine simL_val (q_move rfl rfl) rfl rfl rfl ?_
 refine simL_val (q_add rfl rfl rfl) rfl rfl rfl ?_
 refine simL_val (q_asg rfl rfl) rfl rfl rfl ?_
 refine simL_val (q_asg rfl rfl) rfl rfl rfl ?_
 refine simL_val (q_asg rfl rfl) rfl rfl rfl (simL_nil (nrm_then (sim_rtn ?_)))
 exact rtn_fn () rfl rfl rfl (.sel 0 rfl (.nil _))

def synodref1_Reader_Int.f (k : Nat) (x0_0 : List UInt8) (x0_1 : Int) (x0_2 : Int) : Option (Int × Int × Int) := if x0_2 = (0 : Int) then ((synodref1_Int.f k x0_0 x0_1).bind fun s3v => (some (s3v.1, IntKind.i64.wrap (x0_1 + s3v.2.1), s3v.2.2))) else (some (0, x0_1, x0_2))
theorem synodref1_Reader_Int.calls (W : World) (F : HA) (k : Nat) (b0 : Nat) (a0_0 : Option Addr) (c0_0 : Nat) (x0_0 : List UInt8) (x0_1 : Int) (x0_2 : Int) (h0_0 : Rd F a0_0 (encB x0_0)) (hc0_0 : x0_0.length ≤ c0_0) (hm0_0 : c0_0 ≤ maxLen) :
    Fn Try.prog W 85 [.pointer (some ⟨b0, 0, none⟩)] [obj b0 152 [.slice a0_0 x0_0.length c0_0, .int .i64 x0_1, .int .i64 x0_2]] F (synodref1_Reader_Int.f k x0_0 x0_1 x0_2) (fun (r : Int × Int × Int) (y : Unit) => .int .i64 r.1) (fun r y => [obj b0 152 [.slice a0_0 x0_0.length c0_0, .int .i64 r.2.1, .int .i64 r.2.2]]) := by
 unfold synodref1_Reader_Int.f
 refine fn_intro 38 Try.func85 rfl Try.ntmps85 rfl ?_
 refine sim_seq (sim_region ?_)
 refine simL_val (q_asg rfl rfl) rfl rfl rfl (simL_nil (nrm_then (sim_seq (sim_seq (sim_region ?_)))))
 refine simL_val (q_move rfl rfl) rfl rfl rfl ?_
 refine simL_val (q_nil rfl rfl) rfl rfl rfl ?_
 refine simL_val (q_fa rfl rfl Try.underlying152 rfl rfl Try.sizeOf3 rfl) rfl rfl rfl ?_
 refine simL_val (q_load rfl rfl Try.isAgg3 (.obj 0 rfl rfl)) rfl rfl rfl ?_
 refine simL_val (q_neq rfl rfl rfl) rfl rfl rfl (simL_nil (nrm_then ?_))
 refine sim_condn rfl (fun h1v => ?_) (fun h2v => ?_)
 refine sim_skip ?_
 refine nrm_then (sim_seq ?_)
 refine sim_bind (fun s3v hs5v => ?_)
 refine sim_draw (Γ := Unit) () [[], [0], [0, 1], [0, 1, 2], [], [4], [4, 5], [4, 5, 6], [0, 1, 2, 3, 4, 5, 6, 7], [0, 1, 2, 3, 4, 5, 6, 7, 8], [0, 1, 2, 3, 4, 5, 6, 7, 8, 9], [0, 1, 2, 3, 4, 5, 6, 7, 8, 9], [0, 1, 2, 3, 4, 5, 6, 7, 8, 9], [0, 1, 2, 3, 4, 5, 6, 7, 8, 9, 10], [0, 1, 2, 3, 4, 5, 6, 7, 8, 9, 10, 11, 13], [0, 1, 2, 3, 4, 5, 6, 7, 8, 9, 10, 11, 12, 13, 14]] [8] [0, 1, 2, 3, 4, 5, 6, 7, 9, 10, 11, 12, 13, 14, 15] (fun i => [[0], [0], [0], [0], [0], [0], [0], [0], [], [1], [1], [1], [1], [1], [1], [1]].getD i []) (fun i => [[], [], [], [], [], [], [], [], [0, 1, 2, 3, 4, 5, 6, 7], [], [], [], [], [], [], []].getD i []) (fun γ i => [.pointer (some ⟨b0, 0, none⟩), .pointer (some ⟨b0, 0, none⟩), .pointer (some ⟨b0, 0, none⟩), .slice a0_0 x0_0.length c0_0, .pointer (some ⟨b0, 0, none⟩), .pointer (some ⟨b0, 0, none⟩), .pointer (some ⟨b0, 1, none⟩), .int .i64 x0_1, .tuple #[.int .i64 s3v.1, .int .i64 s3v.2.1, .int .i64 s3v.2.2], .tuple #[.int .i64 s3v.1, .int .i64 s3v.2.1, .int .i64 s3v.2.2], .int .i64 s3v.1, .int .i64 s3v.2.1, .int .i64 s3v.2.2, .int .i64 s3v.1, .int .i64 s3v.2.1, .int .i64 s3v.2.2].getD i undef) (fun j γ => [[obj b0 152 [.slice a0_0 x0_0.length c0_0, .int .i64 x0_1, .int .i64 x0_2], F], [obj b0 152 [.slice a0_0 x0_0.length c0_0, .int .i64 x0_1, .int .i64 x0_2], F]].getD j []) (fun γ => [(0, .pointer (some ⟨b0, 0, none⟩)), (3, .int .i64 s3v.1), (4, .int .i64 s3v.2.1), (5, .int .i64 s3v.2.2)]) mixed (by decide) (by decide) (by decide) (by decide) (by decide) (by decide) (by decide) 38 rfl (by decide) (by decide) (by decide) (Ent.refl _) ?_ ?_ (fun _ => ⟨rfl, rfl, rfl, rfl, trivial⟩) ?_
 exact (All.cons (fun γ => (All.cons (QOb.plain [(0, .pointer (some ⟨b0, 0, none⟩))] rfl rfl (.o rfl (by decide) .nil) (q_move rfl rfl) rfl) All.nil)) (All.cons (fun γ => (All.cons (QOb.plain [(12, .pointer (some ⟨b0, 0, none⟩))] rfl rfl (.w 0 rfl rfl rfl .nil) (q_nil rfl rfl) rfl) All.nil)) (All.cons (fun γ => (All.cons (QOb.plain [(13, .pointer (some ⟨b0, 0, none⟩))] rfl rfl (.w 1 rfl rfl rfl .nil) (q_fa rfl rfl Try.underlying152 rfl rfl Try.sizeOf27 rfl) rfl) All.nil)) (All.cons (fun γ => (All.cons (QOb.plain [(14, .pointer (some ⟨b0, 0, none⟩))] rfl rfl (.w 2 rfl rfl rfl .nil) (q_load rfl rfl Try.isAgg27 (.obj 0 rfl rfl)) rfl) All.nil)) (All.cons (fun γ => (All.cons (QOb.plain [(0, .pointer (some ⟨b0, 0, none⟩))] rfl rfl (.o rfl (by decide) .nil) (q_move rfl rfl) rfl) All.nil)) (All.cons (fun γ => (All.cons (QOb.plain [(16, .pointer (some ⟨b0, 0, none⟩))] rfl rfl (.w 4 rfl rfl rfl .nil) (q_nil rfl rfl) rfl) All.nil)) (All.cons (fun γ => (All.cons (QOb.plain [(17, .pointer (some ⟨b0, 0, none⟩))] rfl rfl (.w 5 rfl rfl rfl .nil) (q_fa rfl rfl Try.underlying152 rfl rfl Try.sizeOf3 rfl) rfl) All.nil)) (All.cons (fun γ => (All.cons (QOb.plain [(18, .pointer (some ⟨b0, 1, none⟩))] rfl rfl (.w 6 rfl rfl rfl .nil) (q_load rfl rfl Try.isAgg3 (.obj 0 rfl rfl)) rfl) All.nil)) (All.cons (fun γ => (All.cons (QOb.plain [(20, .tuple #[.int .i64 s3v.1, .int .i64 s3v.2.1, .int .i64 s3v.2.2])] rfl rfl (.w 8 rfl rfl rfl .nil) (q_move rfl rfl) rfl) All.nil)) (All.cons (fun γ => (All.cons (QOb.plain [(11, .tuple #[.int .i64 s3v.1, .int .i64 s3v.2.1, .int .i64 s3v.2.2])] rfl rfl (.w 9 rfl rfl rfl .nil) (q_ext rfl rfl rfl) rfl) All.nil)) (All.cons (fun γ => (All.cons (QOb.plain [(11, .tuple #[.int .i64 s3v.1, .int .i64 s3v.2.1, .int .i64 s3v.2.2])] rfl rfl (.w 9 rfl rfl rfl .nil) (q_ext rfl rfl rfl) rfl) All.nil)) (All.cons (fun γ => (All.cons (QOb.plain [(11, .tuple #[.int .i64 s3v.1, .int .i64 s3v.2.1, .int .i64 s3v.2.2])] rfl rfl (.w 9 rfl rfl rfl .nil) (q_ext rfl rfl rfl) rfl) All.nil)) (All.cons (fun γ => (All.cons (QOb.plain [(21, .int .i64 s3v.1)] rfl rfl (.w 10 rfl rfl rfl .nil) (q_asg rfl rfl) rfl) All.nil)) (All.cons (fun γ => (All.cons (QOb.plain [(22, .int .i64 s3v.2.1)] rfl rfl (.w 11 rfl rfl rfl .nil) (q_asg rfl rfl) rfl) All.nil)) (All.cons (fun γ => (All.cons (QOb.plain [(23, .int .i64 s3v.2.2)] rfl rfl (.w 12 rfl rfl rfl .nil) (q_asg rfl rfl) rfl) All.nil)) All.nil)))))))))))))))
 exact (All.cons (fun γ => EOb.mk (Z := Unit) [(15, .slice a0_0 x0_0.length c0_0), (19, .int .i64 x0_1)] (fun z => ()) rfl rfl (.w 3 rfl rfl rfl (.w 7 rfl rfl rfl .nil)) (re_call (vs := [.slice a0_0 x0_0.length c0_0, .int .i64 x0_1]) (cap := []) (A := []) (rst := [obj b0 152 [.slice a0_0 x0_0.length c0_0, .int .i64 x0_1, .int .i64 x0_2], F]) rfl rfl rfl rfl rfl rfl Try.call130 (.sel 0 rfl (.sel 0 rfl (.nil _))) (synodref1_Int.calls _ _ k a0_0 c0_0 x0_0 x0_1 (h0_0.lend 1 rfl) hc0_0 hm0_0) hs5v) (fun _ => ⟨rfl, rfl, rfl, rfl, rfl, rfl, rfl, rfl, trivial⟩) (fun _ => .inr rfl) (fun z => Ent.refl _)) All.nil)
 intro g6v
 refine nrm_then (sim_seq (sim_region ?_))
 refine simL_val (q_move rfl rfl) rfl rfl rfl ?_
 refine simL_val (q_move rfl rfl) rfl rfl rfl ?_
 refine simL_val (q_nil rfl rfl) rfl rfl rfl ?_
 refine simL_val (q_fa rfl rfl Try.underlying152 rfl rfl Try.sizeOf3 rfl) rfl rfl rfl ?_
 refine simL_do (re_store 0 rfl rfl rfl Try.sizeOf3 rfl rfl (one_of (by rfl)) rfl rfl) rfl rfl ?_
 intro _
 refine simL_nil (nrm_then (sim_seq (sim_region ?_)))
 refine simL_val (q_move rfl rfl) rfl rfl rfl ?_
 refine simL_val (q_move rfl rfl) rfl rfl rfl ?_
 refine simL_val (q_nil rfl rfl) rfl rfl rfl ?_
 refine simL_val (q_fa rfl rfl Try.underlying152 rfl rfl Try.sizeOf3 rfl) rfl rfl rfl ?_
 refine simL_val (q_load rfl rfl Try.isAgg3 (.obj 0 rfl rfl)) rfl rfl rfl ?_
 refine simL_val (q_move rfl rfl) rfl rfl rfl ?_
 refine simL_val (q_add rfl rfl rfl) rfl rfl rfl ?_
 refine simL_val (q_nil rfl rfl) rfl rfl rfl ?_
 refine simL_val (q_fa rfl rfl Try.underlying152 rfl rfl Try.sizeOf3 rfl) rfl rfl rfl ?_
 refine simL_do (re_store 0 rfl rfl rfl Try.sizeOf3 rfl rfl (one_of (by rfl)) rfl rfl) rfl rfl ?_
 intro _
 refine simL_nil (nrm_then (sim_seq (sim_region ?_)))
 refine simL_val (q_move rfl rfl) rfl rfl rfl ?_
 refine simL_val (q_asg rfl rfl) rfl rfl rfl (simL_nil (nrm_then (sim_rtn ?_)))
 exact rtn_fn () rfl rfl rfl (.sel 0 rfl (.sel 0 rfl (.nil _)))
 refine sim_seq (sim_region ?_)
 refine simL_val (q_asg rfl rfl) rfl rfl rfl (simL_nil (nrm_then (sim_rtn ?_)))
 refine rtn_then ?_
 exact rtn_fn () rfl rfl rfl (.sel 0 rfl (.sel 0 rfl (.nil _)))

def synodref3_fail.f (x0_0 : List UInt8) (x0_1 : Int) (x0_2 : Int) (x1 : Int) : Option (Int × Int) := if x0_2 = (0 : Int) then (some (x0_1, x1)) else (some (x0_1, x0_2))
theorem synodref3_fail.calls (W : World) (F : HA) (b0 : Nat) (a0_0 : Option Addr) (c0_0 : Nat) (x0_0 : List UInt8) (x0_1 : Int) (x0_2 : Int) (x1 : Int) (h0_0 : Rd F a0_0 (encB x0_0)) (hc0_0 : x0_0.length ≤ c0_0) (hm0_0 : c0_0 ≤ maxLen) :
    Fn Try.prog W 116 [.pointer (some ⟨b0, 0, none⟩), .int .i64 x1] [obj b0 152 [.slice a0_0 x0_0.length c0_0, .int .i64 x0_1, .int .i64 x0_2]] F (synodref3_fail.f x0_0 x0_1 x0_2 x1) (fun (r : Int × Int) (y : Unit) => .tuple #[]) (fun r y => [obj b0 152 [.slice a0_0 x0_0.length c0_0, .int .i64 r.1, .int .i64 r.2]]) := by
 unfold synodref3_fail.f
 refine fn_intro 13 Try.func116 rfl Try.ntmps116 rfl ?_
 refine sim_seq (sim_region ?_)
 refine simL_val (q_move rfl rfl) rfl rfl rfl ?_
 refine simL_val (q_nil rfl rfl) rfl rfl rfl ?_
 refine simL_val (q_fa rfl rfl Try.underlying152 rfl rfl Try.sizeOf3 rfl) rfl rfl rfl ?_
 refine simL_val (q_load rfl rfl Try.isAgg3 (.obj 0 rfl rfl)) rfl rfl rfl ?_
 refine simL_val (q_eql rfl rfl rfl) rfl rfl rfl (simL_nil (nrm_then ?_))
 refine sim_cond rfl (fun h1v => ?_) (fun h2v => ?_)
 refine sim_region ?_
 refine simL_val (q_move rfl rfl) rfl rfl rfl ?_
 refine simL_val (q_move rfl rfl) rfl rfl rfl ?_
 refine simL_val (q_nil rfl rfl) rfl rfl rfl ?_
 refine simL_val (q_fa rfl rfl Try.underlying152 rfl rfl Try.sizeOf3 rfl) rfl rfl rfl ?_
 refine simL_do (re_store 0 rfl rfl rfl Try.sizeOf3 rfl rfl (one_of (by rfl)) rfl rfl) rfl rfl ?_
 intro _
 refine simL_nil ?_
 exact nrm_fn () rfl rfl rfl (.sel 0 rfl (.sel 0 rfl (.nil _)))
 refine sim_skip ?_
 exact nrm_fn () rfl rfl rfl (.sel 0 rfl (.sel 0 rfl (.nil _)))
def synodref3_fail.v (x0_0 : List UInt8) (x0_1 : Int) (x0_2 : Int) (x1 : Int) : Int × Int := (synodref3_fail.f x0_0 x0_1 x0_2 x1).getD (0, 0)
theorem synodref3_fail.tot (x0_0 : List UInt8) (x0_1 : Int) (x0_2 : Int) (x1 : Int) : synodref3_fail.f x0_0 x0_1 x0_2 x1 = some (synodref3_fail.v x0_0 x0_1 x0_2 x1) := by
  have h : ∃ r, synodref3_fail.f x0_0 x0_1 x0_2 x1 = some r := by
    unfold synodref3_fail.f
    repeat' (first | exact ⟨_, rfl⟩ | split | simp only [Option.bind_some])
  obtain ⟨r, h⟩ := h
  unfold synodref3_fail.v
  rw [h]; rfl

def synodref_Bytes.f (x0 : List UInt8) : Option (List UInt8) := if (([] : List UInt8).length + x0.length) * 1 ≤ 140737488355328 then (some (([] : List UInt8) ++ x0)) else none
theorem synodref_Bytes.calls (W : World) (F : HA) (a0 : Option Addr) (c0 : Nat) (x0 : List UInt8) (h0 : Rd F a0 (encB x0)) (hc0 : x0.length ≤ c0) (hm0 : c0 ≤ maxLen) :
    Fn Try.prog W 62 [.slice a0 x0.length c0] [] F (synodref_Bytes.f x0) (fun (r : List UInt8) (y : Option Addr × Nat) => .slice y.1 r.length y.2) (fun r y => [Row 5 1 y.1 r.length y.2 (encB r)]) := by
 unfold synodref_Bytes.f
 refine fn_intro 6 Try.func62 rfl Try.ntmps62 rfl ?_
 refine sim_seq (sim_region ?_)
 refine simL_val (q_asg rfl rfl) rfl rfl rfl (simL_nil (nrm_then (sim_seq (sim_region ?_))))
 refine simL_eff (re_lit0 rfl Try.underlying27 elt5) rfl rfl rfl ?_
 intro b1v
 refine simL_val (q_move rfl rfl) rfl rfl rfl ?_
 refine simL_ask (fun hb3v => ?_)
 refine simL_eff (re_appendb 0 rfl rfl rfl Try.underlying27 elt5 rfl (h0.rds 0 rfl) hb3v) rfl rfl rfl ?_
 intro y2v
 refine simL_val (q_asg rfl rfl) rfl rfl rfl (simL_nil (nrm_then (sim_rtn ?_)))
 exact rtn_fn (y2v.1, y2v.2) rfl rfl rfl (.sel 0 rfl (.sel 0 rfl (.nil _)))

def synodref1_Reader_Bytes.f (k : Nat) (x0_0 : List UInt8) (x0_1 : Int) (x0_2 : Int) (x1 : Int) : Option (List UInt8 × Int × Int) := (synodref1_Reader_Int.f k x0_0 x0_1 x0_2).bind fun s1v => (if s1v.2.2 = (0 : Int) then ((if max x1 (0 : Int) < s1v.1 then (some 3) else (if IntKind.i64.wrap ((x0_0.length : Int) - s1v.2.1) < s1v.1 then (some 2) else (some s1v.2.2))).bind fun s6v => (if s6v = (0 : Int) then (if 0 ≤ IntKind.i64.wrap ((IntKind.i64.wrap (s1v.2.1 + s1v.1)) - s1v.1) ∧ IntKind.i64.wrap ((IntKind.i64.wrap (s1v.2.1 + s1v.1)) - s1v.1) ≤ IntKind.i64.wrap (s1v.2.1 + s1v.1) ∧ IntKind.i64.wrap (s1v.2.1 + s1v.1) ≤ (x0_0.length : Int) then ((synodref_Bytes.f (cut x0_0 (IntKind.i64.wrap ((IntKind.i64.wrap (s1v.2.1 + s1v.1)) - s1v.1)) (IntKind.i64.wrap (s1v.2.1 + s1v.1)))).bind fun s22v => (some (s22v, IntKind.i64.wrap (s1v.2.1 + s1v.1), s6v))) else none) else (some (([] : List UInt8), x0_1, s6v)))) else (some (([] : List UInt8), s1v.2.1, s1v.2.2)))
theorem synodref1_Reader_Bytes.calls (W : World) (F : HA) (k : Nat) (b0 : Nat) (a0_0 : Option Addr) (c0_0 : Nat) (x0_0 : List UInt8) (x0_1 : Int) (x0_2 : Int) (x1 : Int) (h0_0 : Rd F a0_0 (encB x0_0)) (hc0_0 : x0_0.length ≤ c0_0) (hm0_0 : c0_0 ≤ maxLen) :
    Fn Try.prog W 92 [.pointer (some ⟨b0, 0, none⟩), .int .i64 x1] [obj b0 152 [.slice a0_0 x0_0.length c0_0, .int .i64 x0_1, .int .i64 x0_2]] F (synodref1_Reader_Bytes.f k x0_0 x0_1 x0_2 x1) (fun (r : List UInt8 × Int × Int) (y : Option Addr × Nat) => .slice y.1 r.1.length y.2) (fun r y => [Row 5 1 y.1 r.1.length y.2 (encB r.1), obj b0 152 [.slice a0_0 x0_0.length c0_0, .int .i64 r.2.1, .int .i64 r.2.2]]) := by
 unfold synodref1_Reader_Bytes.f
 refine fn_intro 74 Try.func92 rfl Try.ntmps92 rfl ?_
 refine sim_seq (sim_region ?_)
 refine simL_val (q_asg rfl rfl) rfl rfl rfl (simL_nil (nrm_then (sim_seq (sim_region ?_))))
 refine simL_val (q_move rfl rfl) rfl rfl rfl ?_
 refine simL_val (q_nil rfl rfl) rfl rfl rfl ?_
 refine simL_val (q_fa rfl rfl Try.underlying152 rfl rfl Try.sizeOf3 rfl) rfl rfl rfl ?_
 refine simL_val (q_load rfl rfl Try.isAgg3 (.obj 0 rfl rfl)) rfl rfl rfl ?_
 refine simL_val (q_asg rfl rfl) rfl rfl rfl (simL_nil (nrm_then (sim_seq (sim_region ?_))))
 refine simL_val (q_move rfl rfl) rfl rfl rfl ?_
 refine simL_bind (fun s1v hs3v => ?_)
 refine simL_eff (re_call (vs := [.pointer (some ⟨b0, 0, none⟩)]) (cap := []) (A := [obj b0 152 [.slice a0_0 x0_0.length c0_0, .int .i64 x0_1, .int .i64 x0_2]]) (rst := [F]) rfl rfl rfl rfl rfl rfl Try.call85 (.sel 0 rfl (.sel 0 rfl (.nil _))) (synodref1_Reader_Int.calls _ _ k b0 a0_0 c0_0 x0_0 x0_1 x0_2 (h0_0.lend 0 rfl) hc0_0 hm0_0) hs3v) rfl rfl rfl ?_
 intro y2v
 refine simL_val (q_asg rfl rfl) rfl rfl rfl (simL_nil (nrm_then (sim_seq (sim_seq (sim_region ?_)))))
 refine simL_val (q_move rfl rfl) rfl rfl rfl ?_
 refine simL_val (q_nil rfl rfl) rfl rfl rfl ?_
 refine simL_val (q_fa rfl rfl Try.underlying152 rfl rfl Try.sizeOf3 rfl) rfl rfl rfl ?_
 refine simL_val (q_load rfl rfl Try.isAgg3 (.obj 0 rfl rfl)) rfl rfl rfl ?_
 refine simL_val (q_neq rfl rfl rfl) rfl rfl rfl (simL_nil (nrm_then ?_))
 refine sim_condn rfl (fun h4v => ?_) (fun h5v => ?_)
 refine sim_skip ?_
 refine nrm_then ?_
 refine sim_cut (S := Int) (Unit) (fun s y => [(0, .pointer (some ⟨b0, 0, none⟩)), (5, .int .i64 x0_1), (6, .int .i64 s1v.1)]) (fun s y => [obj b0 152 [.slice a0_0 x0_0.length c0_0, .int .i64 s1v.2.1, .int .i64 s], F]) ?_ ?_
 refine sim_seq (sim_region ?_)
 refine simL_val (q_move rfl rfl) rfl rfl rfl ?_
 refine simL_val (q_move rfl rfl) rfl rfl rfl ?_
 refine simL_val (q_max rfl rfl rfl) rfl rfl rfl ?_
 refine simL_val (q_gtr rfl rfl rfl) rfl rfl rfl (simL_nil (nrm_then ?_))
 refine sim_cond rfl (fun h8v => ?_) (fun h9v => ?_)
 refine sim_region ?_
 refine simL_val (q_move rfl rfl) rfl rfl rfl ?_
 refine simL_val (q_nil rfl rfl) rfl rfl rfl ?_
 refine simL_val (q_fa rfl rfl Try.underlying152 rfl rfl Try.sizeOf3 rfl) rfl rfl rfl ?_
 refine simL_do (re_store 0 rfl rfl rfl Try.sizeOf3 rfl rfl (one_of (by rfl)) rfl rfl) rfl rfl ?_
 intro _
 refine simL_nil ?_
 exact nrm_cut (s := 3) () ⟨rfl, rfl, rfl, trivial⟩ (.sel 0 rfl (.sel 0 rfl (.nil _)))
 refine sim_seq ?_
 refine sim_draw (Γ := Unit) () [[], [], [1], [1, 2], [1, 2, 3], [1, 2, 3, 4], [], [6], [6, 7], [6, 7, 8], [1, 2, 3, 4, 5, 6, 7, 8, 9], [0, 1, 2, 3, 4, 5, 6, 7, 8, 9, 10]] [] [0, 1, 2, 3, 4, 5, 6, 7, 8, 9, 10, 11] (fun i => [[0], [0], [0], [0], [0], [0], [0], [0], [0], [0], [0], [0]].getD i []) (fun i => [[], [], [], [], [], [], [], [], [], [], [], []].getD i []) (fun γ i => [.int .i64 s1v.1, .pointer (some ⟨b0, 0, none⟩), .pointer (some ⟨b0, 0, none⟩), .pointer (some ⟨b0, 0, none⟩), .slice a0_0 x0_0.length c0_0, .int .i64 (x0_0.length : Int), .pointer (some ⟨b0, 0, none⟩), .pointer (some ⟨b0, 0, none⟩), .pointer (some ⟨b0, 1, none⟩), .int .i64 s1v.2.1, .int .i64 (IntKind.i64.wrap ((x0_0.length : Int) - s1v.2.1)), .bool (decide (IntKind.i64.wrap ((x0_0.length : Int) - s1v.2.1) < s1v.1))].getD i undef) (fun j γ => [[obj b0 152 [.slice a0_0 x0_0.length c0_0, .int .i64 s1v.2.1, .int .i64 s1v.2.2], F]].getD j []) (fun γ => [(0, .pointer (some ⟨b0, 0, none⟩)), (5, .int .i64 x0_1), (6, .int .i64 s1v.1), (36, .bool (decide (IntKind.i64.wrap ((x0_0.length : Int) - s1v.2.1) < s1v.1)))]) mixed (by decide) (by decide) (by decide) (by decide) (by decide) (by decide) (by decide) 74 rfl (by decide) (by decide) (by decide) (Ent.refl _) ?_ ?_ (fun _ => ⟨rfl, rfl, rfl, rfl, trivial⟩) ?_
 exact (All.cons (fun γ => (All.cons (QOb.plain [(6, .int .i64 s1v.1)] rfl rfl (.o rfl (by decide) .nil) (q_move rfl rfl) rfl) All.nil)) (All.cons (fun γ => (All.cons (QOb.plain [(0, .pointer (some ⟨b0, 0, none⟩))] rfl rfl (.o rfl (by decide) .nil) (q_move rfl rfl) rfl) All.nil)) (All.cons (fun γ => (All.cons (QOb.plain [(26, .pointer (some ⟨b0, 0, none⟩))] rfl rfl (.w 1 rfl rfl rfl .nil) (q_nil rfl rfl) rfl) All.nil)) (All.cons (fun γ => (All.cons (QOb.plain [(27, .pointer (some ⟨b0, 0, none⟩))] rfl rfl (.w 2 rfl rfl rfl .nil) (q_fa rfl rfl Try.underlying152 rfl rfl Try.sizeOf27 rfl) rfl) All.nil)) (All.cons (fun γ => (All.cons (QOb.plain [(28, .pointer (some ⟨b0, 0, none⟩))] rfl rfl (.w 3 rfl rfl rfl .nil) (q_load rfl rfl Try.isAgg27 (.obj 0 rfl rfl)) rfl) All.nil)) (All.cons (fun γ => (All.cons (QOb.plain [(29, .slice a0_0 x0_0.length c0_0)] rfl rfl (.w 4 rfl rfl rfl .nil) (q_len rfl rfl rfl Try.underlying27) rfl) All.nil)) (All.cons (fun γ => (All.cons (QOb.plain [(0, .pointer (some ⟨b0, 0, none⟩))] rfl rfl (.o rfl (by decide) .nil) (q_move rfl rfl) rfl) All.nil)) (All.cons (fun γ => (All.cons (QOb.plain [(31, .pointer (some ⟨b0, 0, none⟩))] rfl rfl (.w 6 rfl rfl rfl .nil) (q_nil rfl rfl) rfl) All.nil)) (All.cons (fun γ => (All.cons (QOb.plain [(32, .pointer (some ⟨b0, 0, none⟩))] rfl rfl (.w 7 rfl rfl rfl .nil) (q_fa rfl rfl Try.underlying152 rfl rfl Try.sizeOf3 rfl) rfl) All.nil)) (All.cons (fun γ => (All.cons (QOb.plain [(33, .pointer (some ⟨b0, 1, none⟩))] rfl rfl (.w 8 rfl rfl rfl .nil) (q_load rfl rfl Try.isAgg3 (.obj 0 rfl rfl)) rfl) All.nil)) (All.cons (fun γ => (All.cons (QOb.plain [(30, .int .i64 (x0_0.length : Int)), (34, .int .i64 s1v.2.1)] rfl rfl (.w 5 rfl rfl rfl (.w 9 rfl rfl rfl .nil)) (q_sub rfl rfl rfl) rfl) All.nil)) (All.cons (fun γ => (All.cons (QOb.plain [(25, .int .i64 s1v.1), (35, .int .i64 (IntKind.i64.wrap ((x0_0.length : Int) - s1v.2.1)))] rfl rfl (.w 0 rfl rfl rfl (.w 10 rfl rfl rfl .nil)) (q_gtr rfl rfl rfl) rfl) All.nil)) All.nil))))))))))))
 exact All.nil
 intro g10v
 refine nrm_then ?_
 refine sim_cond rfl (fun h11v => ?_) (fun h12v => ?_)
 refine sim_region ?_
 refine simL_val (q_move rfl rfl) rfl rfl rfl ?_
 refine simL_val (q_nil rfl rfl) rfl rfl rfl ?_
 refine simL_val (q_fa rfl rfl Try.underlying152 rfl rfl Try.sizeOf3 rfl) rfl rfl rfl ?_
 refine simL_do (re_store 0 rfl rfl rfl Try.sizeOf3 rfl rfl (one_of (by rfl)) rfl rfl) rfl rfl ?_
 intro _
 refine simL_nil ?_
 exact nrm_cut (s := 2) () ⟨rfl, rfl, rfl, trivial⟩ (.sel 0 rfl (.sel 0 rfl (.nil _)))
 refine sim_skip ?_
 exact nrm_cut (s := s1v.2.2) () ⟨rfl, rfl, rfl, trivial⟩ (.sel 0 rfl (.sel 0 rfl (.nil _)))
 intro s6v y7v
 refine sim_seq (sim_seq (sim_region ?_))
 refine simL_val (q_move rfl rfl) rfl rfl rfl ?_
 refine simL_val (q_nil rfl rfl) rfl rfl rfl ?_
 refine simL_val (q_fa rfl rfl Try.underlying152 rfl rfl Try.sizeOf3 rfl) rfl rfl rfl ?_
 refine simL_val (q_load rfl rfl Try.isAgg3 (.obj 0 rfl rfl)) rfl rfl rfl ?_
 refine simL_val (q_neq rfl rfl rfl) rfl rfl rfl (simL_nil (nrm_then ?_))
 refine sim_condn rfl (fun h13v => ?_) (fun h14v => ?_)
 refine sim_skip ?_
 refine nrm_then (sim_seq (sim_region ?_))
 refine simL_val (q_move rfl rfl) rfl rfl rfl ?_
 refine simL_val (q_move rfl rfl) rfl rfl rfl ?_
 refine simL_val (q_nil rfl rfl) rfl rfl rfl ?_
 refine simL_val (q_fa rfl rfl Try.underlying152 rfl rfl Try.sizeOf3 rfl) rfl rfl rfl ?_
 refine simL_val (q_load rfl rfl Try.isAgg3 (.obj 0 rfl rfl)) rfl rfl rfl ?_
 refine simL_val (q_move rfl rfl) rfl rfl rfl ?_
 refine simL_val (q_add rfl rfl rfl) rfl rfl rfl ?_
 refine simL_val (q_nil rfl rfl) rfl rfl rfl ?_
 refine simL_val (q_fa rfl rfl Try.underlying152 rfl rfl Try.sizeOf3 rfl) rfl rfl rfl ?_
 refine simL_do (re_store 0 rfl rfl rfl Try.sizeOf3 rfl rfl (one_of (by rfl)) rfl rfl) rfl rfl ?_
 intro _
 refine simL_nil (nrm_then (sim_seq ?_))
 refine sim_ask (fun hb15v => ?_)
 obtain ⟨a16v, c17v, hS18v, hr19v, hc20v, hm21v⟩ := slice_pre (lo := IntKind.i64.wrap ((IntKind.i64.wrap (s1v.2.1 + s1v.1)) - s1v.1)) (hi := IntKind.i64.wrap (s1v.2.1 + s1v.1)) h0_0 hc0_0 hb15v
 refine sim_bind (fun s22v hs24v => ?_)
 refine sim_draw (Γ := (Option Addr × Nat)) (none, 0) [[], [0], [0, 1], [0, 1, 2], [], [4], [4, 5], [4, 5, 6], [], [4, 5, 6, 7, 8], [], [10], [10, 11], [10, 11, 12], [0, 1, 2, 3, 4, 5, 6, 7, 8, 9, 10, 11, 12, 13], [0, 1, 2, 3, 4, 5, 6, 7, 8, 9, 10, 11, 12, 13, 14], [0, 1, 2, 3, 4, 5, 6, 7, 8, 9, 10, 11, 12, 13, 14, 15]] [15] [0, 1, 2, 3, 4, 5, 6, 7, 8, 9, 10, 11, 12, 13, 14, 16] (fun i => [[0], [0], [0], [0], [0], [0], [0], [0], [0], [0], [0], [0], [0], [0], [0], [], [1]].getD i []) (fun i => [[], [], [], [], [], [], [], [], [], [], [], [], [], [], [], [0, 1, 2, 3, 4, 5, 6, 7, 8, 9, 10, 11, 12, 13, 14], []].getD i []) (fun γ i => [.pointer (some ⟨b0, 0, none⟩), .pointer (some ⟨b0, 0, none⟩), .pointer (some ⟨b0, 0, none⟩), .slice a0_0 x0_0.length c0_0, .pointer (some ⟨b0, 0, none⟩), .pointer (some ⟨b0, 0, none⟩), .pointer (some ⟨b0, 1, none⟩), .int .i64 (IntKind.i64.wrap (s1v.2.1 + s1v.1)), .int .i64 s1v.1, .int .i64 (IntKind.i64.wrap ((IntKind.i64.wrap (s1v.2.1 + s1v.1)) - s1v.1)), .pointer (some ⟨b0, 0, none⟩), .pointer (some ⟨b0, 0, none⟩), .pointer (some ⟨b0, 1, none⟩), .int .i64 (IntKind.i64.wrap (s1v.2.1 + s1v.1)), .slice a16v ((cut x0_0 (IntKind.i64.wrap ((IntKind.i64.wrap (s1v.2.1 + s1v.1)) - s1v.1)) (IntKind.i64.wrap (s1v.2.1 + s1v.1))).length) c17v, .slice γ.1 s22v.length γ.2, .slice γ.1 s22v.length γ.2].getD i undef) (fun j γ => [[obj b0 152 [.slice a0_0 x0_0.length c0_0, .int .i64 (IntKind.i64.wrap (s1v.2.1 + s1v.1)), .int .i64 s6v], F], [Row 5 1 γ.1 s22v.length γ.2 (encB s22v), obj b0 152 [.slice a0_0 x0_0.length c0_0, .int .i64 (IntKind.i64.wrap (s1v.2.1 + s1v.1)), .int .i64 s6v], F]].getD j []) (fun γ => [(4, .slice γ.1 s22v.length γ.2)]) mixed (by decide) (by decide) (by decide) (by decide) (by decide) (by decide) (by decide) 74 rfl (by decide) (by decide) (by decide) (Ent.refl _) ?_ ?_ (fun _ => ⟨rfl, trivial⟩) ?_
 exact (All.cons (fun γ => (All.cons (QOb.plain [(0, .pointer (some ⟨b0, 0, none⟩))] rfl rfl (.o rfl (by decide) .nil) (q_move rfl rfl) rfl) All.nil)) (All.cons (fun γ => (All.cons (QOb.plain [(58, .pointer (some ⟨b0, 0, none⟩))] rfl rfl (.w 0 rfl rfl rfl .nil) (q_nil rfl rfl) rfl) All.nil)) (All.cons (fun γ => (All.cons (QOb.plain [(59, .pointer (some ⟨b0, 0, none⟩))] rfl rfl (.w 1 rfl rfl rfl .nil) (q_fa rfl rfl Try.underlying152 rfl rfl Try.sizeOf27 rfl) rfl) All.nil)) (All.cons (fun γ => (All.cons (QOb.plain [(60, .pointer (some ⟨b0, 0, none⟩))] rfl rfl (.w 2 rfl rfl rfl .nil) (q_load rfl rfl Try.isAgg27 (.obj 0 rfl rfl)) rfl) All.nil)) (All.cons (fun γ => (All.cons (QOb.plain [(0, .pointer (some ⟨b0, 0, none⟩))] rfl rfl (.o rfl (by decide) .nil) (q_move rfl rfl) rfl) All.nil)) (All.cons (fun γ => (All.cons (QOb.plain [(62, .pointer (some ⟨b0, 0, none⟩))] rfl rfl (.w 4 rfl rfl rfl .nil) (q_nil rfl rfl) rfl) All.nil)) (All.cons (fun γ => (All.cons (QOb.plain [(63, .pointer (some ⟨b0, 0, none⟩))] rfl rfl (.w 5 rfl rfl rfl .nil) (q_fa rfl rfl Try.underlying152 rfl rfl Try.sizeOf3 rfl) rfl) All.nil)) (All.cons (fun γ => (All.cons (QOb.plain [(64, .pointer (some ⟨b0, 1, none⟩))] rfl rfl (.w 6 rfl rfl rfl .nil) (q_load rfl rfl Try.isAgg3 (.obj 0 rfl rfl)) rfl) All.nil)) (All.cons (fun γ => (All.cons (QOb.plain [(6, .int .i64 s1v.1)] rfl rfl (.o rfl (by decide) .nil) (q_move rfl rfl) rfl) All.nil)) (All.cons (fun γ => (All.cons (QOb.plain [(65, .int .i64 (IntKind.i64.wrap (s1v.2.1 + s1v.1))), (66, .int .i64 s1v.1)] rfl rfl (.w 7 rfl rfl rfl (.w 8 rfl rfl rfl .nil)) (q_sub rfl rfl rfl) rfl) All.nil)) (All.cons (fun γ => (All.cons (QOb.plain [(0, .pointer (some ⟨b0, 0, none⟩))] rfl rfl (.o rfl (by decide) .nil) (q_move rfl rfl) rfl) All.nil)) (All.cons (fun γ => (All.cons (QOb.plain [(68, .pointer (some ⟨b0, 0, none⟩))] rfl rfl (.w 10 rfl rfl rfl .nil) (q_nil rfl rfl) rfl) All.nil)) (All.cons (fun γ => (All.cons (QOb.plain [(69, .pointer (some ⟨b0, 0, none⟩))] rfl rfl (.w 11 rfl rfl rfl .nil) (q_fa rfl rfl Try.underlying152 rfl rfl Try.sizeOf3 rfl) rfl) All.nil)) (All.cons (fun γ => (All.cons (QOb.plain [(70, .pointer (some ⟨b0, 1, none⟩))] rfl rfl (.w 12 rfl rfl rfl .nil) (q_load rfl rfl Try.isAgg3 (.obj 0 rfl rfl)) rfl) All.nil)) (All.cons (fun γ => (All.cons (QOb.plain [(61, .slice a0_0 x0_0.length c0_0), (67, .int .i64 (IntKind.i64.wrap ((IntKind.i64.wrap (s1v.2.1 + s1v.1)) - s1v.1))), (71, .int .i64 (IntKind.i64.wrap (s1v.2.1 + s1v.1)))] rfl rfl (.w 3 rfl rfl rfl (.w 9 rfl rfl rfl (.w 13 rfl rfl rfl .nil))) (q_sub_ro (l := x0_0) (lo' := IntKind.i64.wrap ((IntKind.i64.wrap (s1v.2.1 + s1v.1)) - s1v.1)) (hi' := IntKind.i64.wrap (s1v.2.1 + s1v.1)) rfl rfl rfl rfl Try.underlying27 Try.sizeOf5 (.inr ⟨_, rfl⟩) (.inr ⟨_, rfl⟩) hb15v hc0_0 hS18v) rfl) All.nil)) (All.cons (fun γ => (All.cons (QOb.plain [(73, .slice γ.1 s22v.length γ.2)] rfl rfl (.w 15 rfl rfl rfl .nil) (q_asg rfl rfl) rfl) All.nil)) All.nil))))))))))))))))
 exact (All.cons (fun γ => EOb.mk (Z := Option Addr × Nat) [(72, .slice a16v ((cut x0_0 (IntKind.i64.wrap ((IntKind.i64.wrap (s1v.2.1 + s1v.1)) - s1v.1)) (IntKind.i64.wrap (s1v.2.1 + s1v.1))).length) c17v)] (fun z => z) rfl rfl (.w 14 rfl rfl rfl .nil) (re_call (vs := [.slice a16v ((cut x0_0 (IntKind.i64.wrap ((IntKind.i64.wrap (s1v.2.1 + s1v.1)) - s1v.1)) (IntKind.i64.wrap (s1v.2.1 + s1v.1))).length) c17v]) (cap := []) (A := []) (rst := [obj b0 152 [.slice a0_0 x0_0.length c0_0, .int .i64 (IntKind.i64.wrap (s1v.2.1 + s1v.1)), .int .i64 s6v], F]) rfl rfl rfl rfl rfl rfl Try.call62 (.sel 0 rfl (.sel 0 rfl (.nil _))) (synodref_Bytes.calls _ _ a16v c17v (cut x0_0 (IntKind.i64.wrap ((IntKind.i64.wrap (s1v.2.1 + s1v.1)) - s1v.1)) (IntKind.i64.wrap (s1v.2.1 + s1v.1))) (hr19v.lend 1 rfl) hc20v (Nat.le_trans hm21v hm0_0)) hs24v) (fun _ => ⟨rfl, rfl, rfl, rfl, rfl, rfl, rfl, rfl, rfl, rfl, rfl, rfl, rfl, rfl, rfl, trivial⟩) (fun _ => .inr rfl) (fun z => Ent.refl _)) All.nil)
 intro g25v
 refine nrm_then (sim_rtn ?_)
 exact rtn_fn (g25v.1, g25v.2) rfl rfl rfl (.sel 0 rfl (.sel 0 rfl (.sel 0 rfl (.nil _))))
 refine sim_seq (sim_region ?_)
 refine simL_val (q_move rfl rfl) rfl rfl rfl ?_
 refine simL_val (q_move rfl rfl) rfl rfl rfl ?_
 refine simL_val (q_nil rfl rfl) rfl rfl rfl ?_
 refine simL_val (q_fa rfl rfl Try.underlying152 rfl rfl Try.sizeOf3 rfl) rfl rfl rfl ?_
 refine simL_do (re_store 0 rfl rfl rfl Try.sizeOf3 rfl rfl (one_of (by rfl)) rfl rfl) rfl rfl ?_
 intro _
 refine simL_nil (nrm_then (sim_seq (sim_region ?_)))
 refine simL_val (q_asg rfl rfl) rfl rfl rfl (simL_nil (nrm_then (sim_rtn ?_)))
 refine rtn_then ?_
 exact rtn_fn (none, 0) rfl rfl rfl (.row_nil (.sel 0 rfl (.sel 0 rfl (.nil _))))
 refine sim_seq (sim_region ?_)
 refine simL_val (q_asg rfl rfl) rfl rfl rfl (simL_nil (nrm_then (sim_rtn ?_)))
 refine rtn_then ?_
 exact rtn_fn (none, 0) rfl rfl rfl (.row_nil (.sel 0 rfl (.sel 0 rfl (.nil _))))

def synodref3_Texts.l0 (x0 : List UInt8) (s2v : Int × Int × Int) : Nat → List (List UInt8) → Int → Int → Int → Option (List (List UInt8) × Int × Int)
  | 0, _, _, _, _ => none
  | k + 1, z16v, z17v, z18v, z19v => if ((decide (z17v < s2v.1)) && (decide (z19v = (0 : Int)))) = true then ((synodref1_Reader_Bytes.f k x0 z18v z19v (1048576 : Int)).bind fun s22v => (if s22v.2.2 = (0 : Int) then (if (z16v.length + ([s22v.1] : List (List UInt8)).length) * 24 ≤ 140737488355328 then (synodref3_Texts.l0 x0 s2v k (z16v ++ ([s22v.1] : List (List UInt8))) (IntKind.i64.wrap (z17v + 1)) s22v.2.1 s22v.2.2) else none) else (synodref3_Texts.l0 x0 s2v k z16v (IntKind.i64.wrap (z17v + 1)) s22v.2.1 s22v.2.2))) else (some (z16v, z18v, z19v))
def synodref3_Texts.f (k : Nat) (x0 : List UInt8) (x1 : Int) : Option (List (List UInt8) × List UInt8 × Int × Int × Int) := (synodref1_Reader_Int.f k x0 (0 : Int) (0 : Int)).bind fun s2v => ((if x1 < s2v.1 then ((synodref3_fail.f x0 s2v.2.1 s2v.2.2 (3 : Int)).bind fun s9v => (some (s9v.1, s9v.2))) else (some (s2v.2.1, s2v.2.2))).bind fun s5v => ((synodref3_Texts.l0 x0 s2v k ([] : List (List UInt8)) 0 s5v.1 s5v.2).bind fun s12v => (some (s12v.1, x0, s12v.2.1, s12v.2.2, s2v.1))))
theorem synodref3_Texts.calls (W : World) (F : HA) (G : HA) (hG : Up G F) (k : Nat) (a0 : Option Addr) (c0 : Nat) (x0 : List UInt8) (x1 : Int) (h0 : Rd G a0 (encB x0)) (hc0 : x0.length ≤ c0) (hm0 : c0 ≤ maxLen) :
    Fn Try.prog W 122 [.slice a0 x0.length c0, .int .i64 x1] [] F (synodref3_Texts.f k x0 x1) (fun (r : List (List UInt8) × List UInt8 × Int × Int × Int) (y : Option Addr × Nat × HA × Nat × Option Addr × Nat) => .tuple #[.slice y.1 r.1.length y.2.1, .pointer (some ⟨y.2.2.2.1, 0, none⟩), .int .i64 r.2.2.2.2]) (fun r y => [pr (Rd (G) y.2.2.2.2.1 (encB r.2.1) ∧ r.2.1.length ≤ y.2.2.2.2.2 ∧ y.2.2.2.2.2 ≤ maxLen), RowV 27 1 (V27 (y.2.2.1)) y.1 r.1 y.2.1, y.2.2.1, obj y.2.2.2.1 152 [.slice y.2.2.2.2.1 r.2.1.length y.2.2.2.2.2, .int .i64 r.2.2.1, .int .i64 r.2.2.2.1]]) := by
 unfold synodref3_Texts.f
 refine fn_intro 48 Try.func122 rfl Try.ntmps122 rfl ?_
 refine sim_seq (sim_region ?_)
 refine simL_val (q_asg rfl rfl) rfl rfl rfl ?_
 refine simL_val (q_asg rfl rfl) rfl rfl rfl ?_
 refine simL_val (q_asg rfl rfl) rfl rfl rfl (simL_nil (nrm_then (sim_seq (sim_region ?_))))
 refine simL_val (q_move rfl rfl) rfl rfl rfl ?_
 refine simL_val (q_build (v := .agg #[.slice a0 x0.length c0, .int .i64 0, .int .i64 0]) rfl rfl (fun _ => by kernel_rfl)) rfl rfl rfl ?_
 refine simL_eff (re_box rfl rfl rfl) rfl rfl rfl ?_
 intro b1v
 refine simL_val (q_asg rfl rfl) rfl rfl rfl (simL_nil (nrm_then (sim_seq (sim_region ?_))))
 refine simL_val (q_move rfl rfl) rfl rfl rfl ?_
 refine simL_bind (fun s2v hs4v => ?_)
 refine simL_eff (re_call (vs := [.pointer (some ⟨b1v, 0, none⟩)]) (cap := []) (A := [obj b1v 152 [.slice a0 x0.length c0, .int .i64 0, .int .i64 0]]) (rst := [F]) rfl rfl rfl rfl rfl rfl Try.call85 (.sel 0 rfl (.sel 0 rfl (.nil _))) (synodref1_Reader_Int.calls _ _ k b1v a0 c0 x0 (0 : Int) (0 : Int) ((h0.up hG).lend 0 rfl) hc0 hm0) hs4v) rfl rfl rfl ?_
 intro y3v
 refine simL_val (q_asg rfl rfl) rfl rfl rfl (simL_nil (nrm_then ?_))
 refine sim_cut (S := Int × Int) (Unit) (fun s y => [(7, .pointer (some ⟨b1v, 0, none⟩)), (8, .int .i64 s2v.1)]) (fun s y => [obj b1v 152 [.slice a0 x0.length c0, .int .i64 s.1, .int .i64 s.2], F]) ?_ ?_
 refine sim_seq (sim_region ?_)
 refine simL_val (q_move rfl rfl) rfl rfl rfl ?_
 refine simL_val (q_move rfl rfl) rfl rfl rfl ?_
 refine simL_val (q_gtr rfl rfl rfl) rfl rfl rfl (simL_nil (nrm_then ?_))
 refine sim_cond rfl (fun h7v => ?_) (fun h8v => ?_)
 refine sim_region ?_
 refine simL_val (q_move rfl rfl) rfl rfl rfl ?_
 refine simL_bind (fun s9v hs11v => ?_)
 refine simL_eff (re_call (vs := [.pointer (some ⟨b1v, 0, none⟩), .int .i64 3]) (cap := []) (A := [obj b1v 152 [.slice a0 x0.length c0, .int .i64 s2v.2.1, .int .i64 s2v.2.2]]) (rst := [F]) rfl rfl rfl rfl rfl rfl Try.call116 (.sel 0 rfl (.sel 0 rfl (.nil _))) (synodref3_fail.calls _ _ b1v a0 c0 x0 s2v.2.1 s2v.2.2 (3 : Int) ((h0.up hG).lend 0 rfl) hc0 hm0) hs11v) rfl rfl rfl ?_
 intro y10v
 refine simL_nil ?_
 exact nrm_cut (s := (s9v.1, s9v.2)) () ⟨rfl, rfl, trivial⟩ (.sel 0 rfl (.sel 0 rfl (.nil _)))
 refine sim_skip ?_
 exact nrm_cut (s := (s2v.2.1, s2v.2.2)) () ⟨rfl, rfl, trivial⟩ (.sel 0 rfl (.sel 0 rfl (.nil _)))
 intro s5v y6v
 refine sim_seq (sim_region ?_)
 refine simL_val (q_asg rfl rfl) rfl rfl rfl (simL_nil (nrm_then ?_))
 refine sim_cut (S := List (List UInt8) × Int × Int) (HA × Option Addr × Nat) (fun s y => [(7, .pointer (some ⟨b1v, 0, none⟩)), (8, .int .i64 s2v.1), (9, .slice y.2.1 s.1.length y.2.2)]) (fun s y => [obj b1v 152 [.slice a0 x0.length c0, .int .i64 s.2.1, .int .i64 s.2.2], RowV 27 1 (V27 (y.1)) y.2.1 s.1 y.2.2, y.1, F]) ?_ ?_
 refine sim_seq (sim_region ?_)
 refine simL_val (q_asg rfl rfl) rfl rfl rfl (simL_nil (nrm_then ?_))
 refine sim_block ?_
 refine sim_loop (S := List (List UInt8) × Int × Int × Int) (HA × Option Addr × Nat) (fun k s => synodref3_Texts.l0 x0 s2v k s.1 s.2.1 s.2.2.1 s.2.2.2) (fun s y => [(7, .pointer (some ⟨b1v, 0, none⟩)), (8, .int .i64 s2v.1), (9, .slice y.2.1 s.1.length y.2.2), (10, .int .i64 s.2.1)]) (fun s y => [obj b1v 152 [.slice a0 x0.length c0, .int .i64 s.2.2.1, .int .i64 s.2.2.2], RowV 27 1 (V27 (y.1)) y.2.1 s.1 y.2.2, y.1, F]) (fun _ => by rw [synodref3_Texts.l0]) ?_ k (([] : List (List UInt8)), 0, s5v.1, s5v.2) (tt, none, 0) ⟨rfl, rfl, rfl, rfl, trivial⟩ (.sel 0 rfl (.rowV_nil (.tt_in (.sel 0 rfl (.nil _)))))
 intro k s14v y15v
 refine sim_eq (by rw [synodref3_Texts.l0]) ?_
 refine sim_seq (sim_seq (sim_region ?_))
 refine simL_val (q_move rfl rfl) rfl rfl rfl ?_
 refine simL_val (q_move rfl rfl) rfl rfl rfl ?_
 refine simL_val (q_lss rfl rfl rfl) rfl rfl rfl ?_
 refine simL_val (q_move rfl rfl) rfl rfl rfl ?_
 refine simL_valc (b := decide (s14v.2.1 < s2v.1)) (fun hb45v => RQ.sub (E' := [(7, .pointer (some ⟨b1v, 0, none⟩))]) ⟨rfl, trivial⟩ (q_move rfl rfl)) rfl rfl rfl rfl rfl ?_
 refine simL_valc (b := decide (s14v.2.1 < s2v.1)) (fun hb44v => RQ.sub (E' := [(26, .pointer (some ⟨b1v, 0, none⟩))]) ⟨lk_cv rfl hb44v, trivial⟩ (q_nil rfl rfl)) rfl rfl rfl rfl rfl ?_
 refine simL_valc (b := decide (s14v.2.1 < s2v.1)) (fun hb43v => RQ.sub (E' := [(27, .pointer (some ⟨b1v, 0, none⟩))]) ⟨lk_cv rfl hb43v, trivial⟩ (q_fa rfl rfl Try.underlying152 rfl rfl Try.sizeOf3 rfl)) rfl rfl rfl rfl rfl ?_
 refine simL_valc (b := decide (s14v.2.1 < s2v.1)) (fun hb42v => RQ.sub (E' := [(28, .pointer (some ⟨b1v, 2, none⟩))]) ⟨lk_cv rfl hb42v, trivial⟩ (q_load rfl rfl Try.isAgg3 (.obj 0 rfl rfl))) rfl rfl rfl rfl rfl ?_
 refine simL_valc (b := decide (s14v.2.1 < s2v.1)) (fun hb41v => RQ.sub (E' := [(29, .int .i64 s14v.2.2.2)]) ⟨lk_cv rfl hb41v, trivial⟩ (q_eql rfl rfl rfl)) rfl rfl rfl rfl rfl ?_
 refine simL_val (q_and rfl rfl rfl) rfl rfl rfl (simL_nil (nrm_then ?_))
 refine sim_condb rfl (fun h20v => ?_) (fun h21v => ?_)
 refine sim_skip ?_
 refine nrm_then (sim_seq ?_)
 refine sim_block ?_
 refine sim_seq (sim_region ?_)
 refine simL_val (q_move rfl rfl) rfl rfl rfl ?_
 refine simL_bind (fun s22v hs24v => ?_)
 refine simL_eff (re_call (vs := [.pointer (some ⟨b1v, 0, none⟩), .int .i64 1048576]) (cap := []) (A := [obj b1v 152 [.slice a0 x0.length c0, .int .i64 s14v.2.2.1, .int .i64 s14v.2.2.2]]) (rst := [RowV 27 1 (V27 (y15v.1)) y15v.2.1 s14v.1 y15v.2.2, y15v.1, F]) rfl rfl rfl rfl rfl rfl Try.call92 (.sel 0 rfl (.sel 0 rfl (.sel 0 rfl (.sel 0 rfl (.nil _))))) (synodref1_Reader_Bytes.calls _ _ k b1v a0 c0 x0 s14v.2.2.1 s14v.2.2.2 (1048576 : Int) ((h0.up hG).lend 2 rfl) hc0 hm0) hs24v) rfl rfl rfl ?_
 intro y23v
 refine simL_val (q_asg rfl rfl) rfl rfl rfl (simL_nil (nrm_then (sim_seq (sim_region ?_))))
 refine simL_val (q_move rfl rfl) rfl rfl rfl ?_
 refine simL_val (q_nil rfl rfl) rfl rfl rfl ?_
 refine simL_val (q_fa rfl rfl Try.underlying152 rfl rfl Try.sizeOf3 rfl) rfl rfl rfl ?_
 refine simL_val (q_load rfl rfl Try.isAgg3 (.obj 1 rfl rfl)) rfl rfl rfl ?_
 refine simL_val (q_eql rfl rfl rfl) rfl rfl rfl (simL_nil (nrm_then ?_))
 refine sim_cond rfl (fun h25v => ?_) (fun h26v => ?_)
 refine sim_region ?_
 refine simL_val (q_move rfl rfl) rfl rfl rfl ?_
 refine simL_val (q_move rfl rfl) rfl rfl rfl ?_
 refine simL_lend 0 rfl (fun hq28v hq29v hq30v hq31v => ?_)
 have hlb32v : ListV 1 (V27 (Row 5 1 y23v.1 s22v.1.length y23v.2 (encB s22v.1))) ([s22v.1] : List (List UInt8)) [[.slice y23v.1 s22v.1.length y23v.2]] := ⟨⟨rfl, one_of (by rfl), ⟨y23v.1, y23v.2, rfl, ⟨hq28v, hq29v, hq30v⟩⟩⟩, trivial⟩
 refine simL_eff (re_litV (V := (V27 (Row 5 1 y23v.1 s22v.1.length y23v.2 (encB s22v.1)))) (xs := ([s22v.1] : List (List UInt8))) [[.slice y23v.1 s22v.1.length y23v.2]] rfl rfl Try.underlying114 elt27 rfl (by kernel_rfl) rfl hlb32v rfl rfl) rfl rfl rfl ?_
 intro b32v
 refine simL_openV 3 rfl (fun rs37v hl38v => ?_)
 refine simL_ent (H' := [stars [Row 5 1 y23v.1 s22v.1.length y23v.2 (encB s22v.1), y15v.1], Row 27 1 (some ⟨b32v, 0, none⟩) ([s22v.1] : List (List UInt8)).length 1 [[.slice y23v.1 s22v.1.length y23v.2]].flatten, obj b1v 152 [.slice a0 x0.length c0, .int .i64 s22v.2.1, .int .i64 s22v.2.2], Row 27 1 y15v.2.1 s14v.1.length y15v.2.2 rs37v.flatten, F]) (Ent.trans (m := [Row 5 1 y23v.1 s22v.1.length y23v.2 (encB s22v.1), y15v.1, Row 27 1 (some ⟨b32v, 0, none⟩) ([s22v.1] : List (List UInt8)).length 1 [[.slice y23v.1 s22v.1.length y23v.2]].flatten, obj b1v 152 [.slice a0 x0.length c0, .int .i64 s22v.2.1, .int .i64 s22v.2.2], Row 27 1 y15v.2.1 s14v.1.length y15v.2.2 rs37v.flatten, F]) (.sel 1 rfl (.sel 3 rfl (.sel 0 rfl (.sel 0 rfl (.sel 0 rfl (.sel 0 rfl (.nil _))))))) (ent_pack [Row 5 1 y23v.1 s22v.1.length y23v.2 (encB s22v.1), y15v.1] _)) ?_
 refine simL_ask (fun hb40v => ?_)
 refine simL_eff (re_appendV 3 rfl rfl rfl Try.underlying114 elt27 rfl (hl38v.mono (V27.up (Up.lend (l := [Row 5 1 y23v.1 s22v.1.length y23v.2 (encB s22v.1), y15v.1]) 1 rfl))) (RdsV.row (hlb32v.mono (V27.up (Up.lend (l := [Row 5 1 y23v.1 s22v.1.length y23v.2 (encB s22v.1), y15v.1]) 0 rfl))) 1 rfl) hb40v) rfl rfl rfl ?_
 intro y39v
 refine simL_val (q_asg rfl rfl) rfl rfl rfl (simL_nil (nrm_block (nrm_then (sim_region ?_))))
 refine simL_val (q_move rfl rfl) rfl rfl rfl ?_
 refine simL_val (q_add rfl rfl rfl) rfl rfl rfl ?_
 refine simL_val (q_asg rfl rfl) rfl rfl rfl (simL_nil ?_)
 exact nrm_again (s := (s14v.1 ++ ([s22v.1] : List (List UInt8)), IntKind.i64.wrap (s14v.2.1 + 1), s22v.2.1, s22v.2.2)) (stars [Row 5 1 y23v.1 s22v.1.length y23v.2 (encB s22v.1), y15v.1], y39v.1, y39v.2) ⟨rfl, rfl, rfl, rfl, trivial⟩ (.sel 2 rfl (.sel 2 rfl (.sel 0 rfl (.sel 1 rfl (.nil _)))))
 refine sim_skip ?_
 refine nrm_block (nrm_then (sim_region ?_))
 refine simL_val (q_move rfl rfl) rfl rfl rfl ?_
 refine simL_val (q_add rfl rfl rfl) rfl rfl rfl ?_
 refine simL_val (q_asg rfl rfl) rfl rfl rfl (simL_nil ?_)
 exact nrm_again (s := (s14v.1, IntKind.i64.wrap (s14v.2.1 + 1), s22v.2.1, s22v.2.2)) (y15v.1, y15v.2.1, y15v.2.2) ⟨rfl, rfl, rfl, rfl, trivial⟩ (.sel 1 rfl (.sel 1 rfl (.sel 1 rfl (.sel 1 rfl (.nil _)))))
 refine sim_exi ?_
 refine exi_then ?_
 refine exi_loop ?_
 refine exi_here ?_
 exact nrm_cut (s := (s14v.1, s14v.2.2.1, s14v.2.2.2)) (y15v.1, y15v.2.1, y15v.2.2) ⟨rfl, rfl, rfl, trivial⟩ (.sel 0 rfl (.sel 0 rfl (.sel 0 rfl (.sel 0 rfl (.nil _)))))
 intro s12v y13v
 refine sim_seq (sim_region ?_)
 refine simL_val (q_move rfl rfl) rfl rfl rfl ?_
 refine simL_val (q_move rfl rfl) rfl rfl rfl ?_
 refine simL_val (q_move rfl rfl) rfl rfl rfl ?_
 refine simL_val (q_asg rfl rfl) rfl rfl rfl ?_
 refine simL_val (q_asg rfl rfl) rfl rfl rfl ?_
 refine simL_val (q_asg rfl rfl) rfl rfl rfl (simL_nil (nrm_then (sim_rtn ?_)))
 exact rtn_fn (y13v.2.1, y13v.2.2, y13v.1, b1v, a0, c0) rfl rfl rfl (.pr_in ⟨h0, hc0, hm0⟩ (.sel 1 rfl (.sel 1 rfl (.sel 0 rfl (.sel 0 rfl (.nil _))))))

def synodref1_Reader_Left.f (x0_0 : List UInt8) (x0_1 : Int) (x0_2 : Int) : Option (Int) := some (IntKind.i64.wrap ((x0_0.length : Int) - x0_1))
theorem synodref1_Reader_Left.calls (W : World) (F : HA) (b0 : Nat) (a0_0 : Option Addr) (c0_0 : Nat) (x0_0 : List UInt8) (x0_1 : Int) (x0_2 : Int) (h0_0 : Rd F a0_0 (encB x0_0)) (hc0_0 : x0_0.length ≤ c0_0) (hm0_0 : c0_0 ≤ maxLen) :
    Fn Try.prog W 131 [.pointer (some ⟨b0, 0, none⟩)] [obj b0 152 [.slice a0_0 x0_0.length c0_0, .int .i64 x0_1, .int .i64 x0_2]] F (synodref1_Reader_Left.f x0_0 x0_1 x0_2) (fun (r : Int) (y : Unit) => .int .i64 r) (fun r y => [obj b0 152 [.slice a0_0 x0_0.length c0_0, .int .i64 x0_1, .int .i64 x0_2]]) := by
 unfold synodref1_Reader_Left.f
 refine fn_intro 13 Try.func131 rfl Try.ntmps131 rfl ?_
 refine sim_seq (sim_region ?_)
 refine simL_val (q_asg rfl rfl) rfl rfl rfl (simL_nil (nrm_then (sim_seq ?_)))
 refine sim_draw (Γ := Unit) () [[], [0], [0, 1], [0, 1, 2], [0, 1, 2, 3], [], [5], [5, 6], [5, 6, 7], [0, 1, 2, 3, 4, 5, 6, 7, 8], [0, 1, 2, 3, 4, 5, 6, 7, 8, 9]] [] [0, 1, 2, 3, 4, 5, 6, 7, 8, 9, 10] (fun i => [[0], [0], [0], [0], [0], [0], [0], [0], [0], [0], [0]].getD i []) (fun i => [[], [], [], [], [], [], [], [], [], [], []].getD i []) (fun γ i => [.pointer (some ⟨b0, 0, none⟩), .pointer (some ⟨b0, 0, none⟩), .pointer (some ⟨b0, 0, none⟩), .slice a0_0 x0_0.length c0_0, .int .i64 (x0_0.length : Int), .pointer (some ⟨b0, 0, none⟩), .pointer (some ⟨b0, 0, none⟩), .pointer (some ⟨b0, 1, none⟩), .int .i64 x0_1, .int .i64 (IntKind.i64.wrap ((x0_0.length : Int) - x0_1)), .int .i64 (IntKind.i64.wrap ((x0_0.length : Int) - x0_1))].getD i undef) (fun j γ => [[obj b0 152 [.slice a0_0 x0_0.length c0_0, .int .i64 x0_1, .int .i64 x0_2], F]].getD j []) (fun γ => [(2, .int .i64 (IntKind.i64.wrap ((x0_0.length : Int) - x0_1)))]) mixed (by decide) (by decide) (by decide) (by decide) (by decide) (by decide) (by decide) 13 rfl (by decide) (by decide) (by decide) (Ent.refl _) ?_ ?_ (fun _ => ⟨rfl, trivial⟩) ?_
 exact (All.cons (fun γ => (All.cons (QOb.plain [(0, .pointer (some ⟨b0, 0, none⟩))] rfl rfl (.o rfl (by decide) .nil) (q_move rfl rfl) rfl) All.nil)) (All.cons (fun γ => (All.cons (QOb.plain [(3, .pointer (some ⟨b0, 0, none⟩))] rfl rfl (.w 0 rfl rfl rfl .nil) (q_nil rfl rfl) rfl) All.nil)) (All.cons (fun γ => (All.cons (QOb.plain [(4, .pointer (some ⟨b0, 0, none⟩))] rfl rfl (.w 1 rfl rfl rfl .nil) (q_fa rfl rfl Try.underlying152 rfl rfl Try.sizeOf27 rfl) rfl) All.nil)) (All.cons (fun γ => (All.cons (QOb.plain [(5, .pointer (some ⟨b0, 0, none⟩))] rfl rfl (.w 2 rfl rfl rfl .nil) (q_load rfl rfl Try.isAgg27 (.obj 0 rfl rfl)) rfl) All.nil)) (All.cons (fun γ => (All.cons (QOb.plain [(6, .slice a0_0 x0_0.length c0_0)] rfl rfl (.w 3 rfl rfl rfl .nil) (q_len rfl rfl rfl Try.underlying27) rfl) All.nil)) (All.cons (fun γ => (All.cons (QOb.plain [(0, .pointer (some ⟨b0, 0, none⟩))] rfl rfl (.o rfl (by decide) .nil) (q_move rfl rfl) rfl) All.nil)) (All.cons (fun γ => (All.cons (QOb.plain [(8, .pointer (some ⟨b0, 0, none⟩))] rfl rfl (.w 5 rfl rfl rfl .nil) (q_nil rfl rfl) rfl) All.nil)) (All.cons (fun γ => (All.cons (QOb.plain [(9, .pointer (some ⟨b0, 0, none⟩))] rfl rfl (.w 6 rfl rfl rfl .nil) (q_fa rfl rfl Try.underlying152 rfl rfl Try.sizeOf3 rfl) rfl) All.nil)) (All.cons (fun γ => (All.cons (QOb.plain [(10, .pointer (some ⟨b0, 1, none⟩))] rfl rfl (.w 7 rfl rfl rfl .nil) (q_load rfl rfl Try.isAgg3 (.obj 0 rfl rfl)) rfl) All.nil)) (All.cons (fun γ => (All.cons (QOb.plain [(7, .int .i64 (x0_0.length : Int)), (11, .int .i64 x0_1)] rfl rfl (.w 4 rfl rfl rfl (.w 8 rfl rfl rfl .nil)) (q_sub rfl rfl rfl) rfl) All.nil)) (All.cons (fun γ => (All.cons (QOb.plain [(12, .int .i64 (IntKind.i64.wrap ((x0_0.length : Int) - x0_1)))] rfl rfl (.w 9 rfl rfl rfl .nil) (q_asg rfl rfl) rfl) All.nil)) All.nil)))))))))))
 exact All.nil
 intro g1v
 refine nrm_then (sim_rtn ?_)
 exact rtn_fn () rfl rfl rfl (.sel 0 rfl (.sel 0 rfl (.nil _)))
def synodref1_Reader_Left.v (x0_0 : List UInt8) (x0_1 : Int) (x0_2 : Int) : Int := (synodref1_Reader_Left.f x0_0 x0_1 x0_2).getD 0
theorem synodref1_Reader_Left.tot (x0_0 : List UInt8) (x0_1 : Int) (x0_2 : Int) : synodref1_Reader_Left.f x0_0 x0_1 x0_2 = some (synodref1_Reader_Left.v x0_0 x0_1 x0_2) := by
  have h : ∃ r, synodref1_Reader_Left.f x0_0 x0_1 x0_2 = some r := by
    unfold synodref1_Reader_Left.f
    repeat' (first | exact ⟨_, rfl⟩ | split | simp only [Option.bind_some])
  obtain ⟨r, h⟩ := h
  unfold synodref1_Reader_Left.v
  rw [h]; rfl

def synodref1_Reader_Done.f (x0_0 : List UInt8) (x0_1 : Int) (x0_2 : Int) : Option (Int) := (if x0_2 = (0 : Int) then ((synodref1_Reader_Left.f x0_0 x0_1 x0_2).bind fun s3v => (some (decide ((0 : Int) < s3v)))) else (some false)).bind fun s1v => (if s1v = true then (some 3) else (some x0_2))
theorem synodref1_Reader_Done.calls (W : World) (F : HA) (b0 : Nat) (a0_0 : Option Addr) (c0_0 : Nat) (x0_0 : List UInt8) (x0_1 : Int) (x0_2 : Int) (h0_0 : Rd F a0_0 (encB x0_0)) (hc0_0 : x0_0.length ≤ c0_0) (hm0_0 : c0_0 ≤ maxLen) :
    Fn Try.prog W 86 [.pointer (some ⟨b0, 0, none⟩)] [obj b0 152 [.slice a0_0 x0_0.length c0_0, .int .i64 x0_1, .int .i64 x0_2]] F (synodref1_Reader_Done.f x0_0 x0_1 x0_2) (fun (r : Int) (y : Unit) => .int .i64 r) (fun r y => [obj b0 152 [.slice a0_0 x0_0.length c0_0, .int .i64 x0_1, .int .i64 x0_2]]) := by
 unfold synodref1_Reader_Done.f
 refine fn_intro 17 Try.func86 rfl Try.ntmps86 rfl ?_
 refine sim_seq (sim_region ?_)
 refine simL_val (q_asg rfl rfl) rfl rfl rfl (simL_nil (nrm_then (sim_seq (sim_seq (sim_region ?_)))))
 refine simL_val (q_move rfl rfl) rfl rfl rfl ?_
 refine simL_val (q_nil rfl rfl) rfl rfl rfl ?_
 refine simL_val (q_fa rfl rfl Try.underlying152 rfl rfl Try.sizeOf3 rfl) rfl rfl rfl ?_
 refine simL_val (q_load rfl rfl Try.isAgg3 (.obj 0 rfl rfl)) rfl rfl rfl ?_
 refine simL_val (q_eql rfl rfl rfl) rfl rfl rfl ?_
 refine simL_val (q_move rfl rfl) rfl rfl rfl ?_
 refine simL_cut' 4 (S := Bool) (Unit) (fun s y => [(0, .pointer (some ⟨b0, 0, none⟩)), (12, .bool s)]) (fun s y => [obj b0 152 [.slice a0_0 x0_0.length c0_0, .int .i64 x0_1, .int .i64 x0_2], F]) ?_ ?_
 refine simL_casep (fun hb6v => ?_) (fun hb7v => ?_)
 rw [hb6v]
 refine simL_valg (q_move rfl rfl) rfl rfl rfl rfl rfl rfl ?_
 refine simL_bind (fun s3v hs5v => ?_)
 refine simL_effg (re_call (vs := [.pointer (some ⟨b0, 0, none⟩)]) (cap := []) (A := [obj b0 152 [.slice a0_0 x0_0.length c0_0, .int .i64 x0_1, .int .i64 x0_2]]) (rst := [F]) rfl rfl rfl rfl rfl rfl Try.call131 (.sel 0 rfl (.sel 0 rfl (.nil _))) (synodref1_Reader_Left.calls _ _ b0 a0_0 c0_0 x0_0 x0_1 x0_2 (h0_0.lend 0 rfl) hc0_0 hm0_0) hs5v) rfl rfl rfl rfl rfl rfl ?_
 intro y4v
 refine simL_valg (q_gtr rfl rfl rfl) rfl rfl rfl rfl rfl rfl ?_
 refine simL_val (q_pick rfl rfl rfl rfl rfl) rfl rfl rfl (simL_nil ?_)
 exact nrm_cut (s := decide ((0 : Int) < s3v)) () ⟨rfl, rfl, trivial⟩ (.sel 0 rfl (.sel 0 rfl (.nil _)))
 rw [hb7v]
 refine simL_skipd rfl rfl rfl rfl rfl rfl ?_
 refine simL_skipd rfl rfl rfl rfl rfl rfl ?_
 refine simL_skipd rfl rfl rfl rfl rfl rfl ?_
 refine simL_val (q_pick rfl rfl rfl rfl rfl) rfl rfl rfl (simL_nil ?_)
 exact nrm_cut (s := false) () ⟨rfl, rfl, trivial⟩ (.sel 0 rfl (.sel 0 rfl (.nil _)))
 intro s1v y2v
 refine simL_nil (nrm_then ?_)
 refine sim_condb rfl (fun h8v => ?_) (fun h9v => ?_)
 refine sim_seq (sim_region ?_)
 refine simL_val (q_asg rfl rfl) rfl rfl rfl (simL_nil (nrm_then (sim_rtn ?_)))
 refine rtn_then ?_
 exact rtn_fn () rfl rfl rfl (.sel 0 rfl (.sel 0 rfl (.nil _)))
 refine sim_skip ?_
 refine nrm_then (sim_seq (sim_region ?_))
 refine simL_val (q_move rfl rfl) rfl rfl rfl ?_
 refine simL_val (q_nil rfl rfl) rfl rfl rfl ?_
 refine simL_val (q_fa rfl rfl Try.underlying152 rfl rfl Try.sizeOf3 rfl) rfl rfl rfl ?_
 refine simL_val (q_load rfl rfl Try.isAgg3 (.obj 0 rfl rfl)) rfl rfl rfl ?_
 refine simL_val (q_asg rfl rfl) rfl rfl rfl (simL_nil (nrm_then (sim_rtn ?_)))
 exact rtn_fn () rfl rfl rfl (.sel 0 rfl (.sel 0 rfl (.nil _)))
def synodref1_Reader_Done.v (x0_0 : List UInt8) (x0_1 : Int) (x0_2 : Int) : Int := (synodref1_Reader_Done.f x0_0 x0_1 x0_2).getD 0
theorem synodref1_Reader_Done.tot (x0_0 : List UInt8) (x0_1 : Int) (x0_2 : Int) : synodref1_Reader_Done.f x0_0 x0_1 x0_2 = some (synodref1_Reader_Done.v x0_0 x0_1 x0_2) := by
  have h : ∃ r, synodref1_Reader_Done.f x0_0 x0_1 x0_2 = some r := by
    unfold synodref1_Reader_Done.f
    repeat' (first | exact ⟨_, rfl⟩ | split | simp only [Option.bind_some, synodref1_Reader_Left.tot])
  obtain ⟨r, h⟩ := h
  unfold synodref1_Reader_Done.v
  rw [h]; rfl

def synodref3_GetEntry.f (k : Nat) (x0 : List UInt8) : Option (Int × Int × Int × List UInt8 × Int) := (synodref1_Reader_Int.f k x0 (0 : Int) (0 : Int)).bind fun s3v => ((synodref1_Reader_Int.f k x0 s3v.2.1 s3v.2.2).bind fun s6v => ((synodref1_Reader_Int.f k x0 s6v.2.1 s6v.2.2).bind fun s9v => ((synodref1_Reader_Bytes.f k x0 s9v.2.1 s9v.2.2 (4096 : Int)).bind fun s12v => ((synodref1_Reader_Done.f x0 s12v.2.1 s12v.2.2).bind fun s16v => ((if s16v = (0 : Int) then ((synodref3_CheckEntry.f s3v.1 s6v.1 s9v.1 s12v.1).bind fun s27v => (some s27v)) else (some s16v)).bind fun s19v => (if s19v = (0 : Int) then (some (s3v.1, s6v.1, s9v.1, s12v.1, s19v)) else (some (0, 0, 0, ([] : List UInt8), s19v))))))))
theorem synodref3_GetEntry.calls (W : World) (F : HA) (k : Nat) (a0 : Option Addr) (c0 : Nat) (x0 : List UInt8) (h0 : Rd F a0 (encB x0)) (hc0 : x0.length ≤ c0) (hm0 : c0 ≤ maxLen) :
    Fn Try.prog W 37 [.slice a0 x0.length c0] [] F (synodref3_GetEntry.f k x0) (fun (r : Int × Int × Int × List UInt8 × Int) (y : Option Addr × Nat) => .tuple #[.agg #[.int .i64 r.1, .int .i64 r.2.1, .int .i64 r.2.2.1, .slice y.1 r.2.2.2.1.length y.2], .int .i64 r.2.2.2.2]) (fun r y => [Row 5 1 y.1 r.2.2.2.1.length y.2 (encB r.2.2.2.1)]) := by
 unfold synodref3_GetEntry.f
 refine fn_intro 31 Try.func37 rfl Try.ntmps37 rfl ?_
 refine sim_seq (sim_region ?_)
 refine simL_eff (re_alloc rfl Try.zeroValue61 rfl) rfl rfl rfl ?_
 intro b1v
 refine simL_val (q_asg rfl rfl) rfl rfl rfl (simL_nil (nrm_then (sim_seq (sim_region ?_))))
 refine simL_val (q_move rfl rfl) rfl rfl rfl ?_
 refine simL_val (q_build (v := .agg #[.slice a0 x0.length c0, .int .i64 0, .int .i64 0]) rfl rfl (fun _ => by kernel_rfl)) rfl rfl rfl ?_
 refine simL_eff (re_box rfl rfl rfl) rfl rfl rfl ?_
 intro b2v
 refine simL_val (q_asg rfl rfl) rfl rfl rfl (simL_nil (nrm_then (sim_seq (sim_region ?_))))
 refine simL_val (q_move rfl rfl) rfl rfl rfl ?_
 refine simL_bind (fun s3v hs5v => ?_)
 refine simL_eff (re_call (vs := [.pointer (some ⟨b2v, 0, none⟩)]) (cap := []) (A := [obj b2v 152 [.slice a0 x0.length c0, .int .i64 0, .int .i64 0]]) (rst := [obj b1v 61 [.int .i64 0, .int .i64 0, .int .i64 0, .slice none 0 0], F]) rfl rfl rfl rfl rfl rfl Try.call85 (.sel 0 rfl (.sel 0 rfl (.sel 0 rfl (.nil _)))) (synodref1_Reader_Int.calls _ _ k b2v a0 c0 x0 (0 : Int) (0 : Int) (h0.lend 1 rfl) hc0 hm0) hs5v) rfl rfl rfl ?_
 intro y4v
 refine simL_val (q_move rfl rfl) rfl rfl rfl ?_
 refine simL_bind (fun s6v hs8v => ?_)
 refine simL_eff (re_call (vs := [.pointer (some ⟨b2v, 0, none⟩)]) (cap := []) (A := [obj b2v 152 [.slice a0 x0.length c0, .int .i64 s3v.2.1, .int .i64 s3v.2.2]]) (rst := [obj b1v 61 [.int .i64 0, .int .i64 0, .int .i64 0, .slice none 0 0], F]) rfl rfl rfl rfl rfl rfl Try.call85 (.sel 0 rfl (.sel 0 rfl (.sel 0 rfl (.nil _)))) (synodref1_Reader_Int.calls _ _ k b2v a0 c0 x0 s3v.2.1 s3v.2.2 (h0.lend 1 rfl) hc0 hm0) hs8v) rfl rfl rfl ?_
 intro y7v
 refine simL_val (q_move rfl rfl) rfl rfl rfl ?_
 refine simL_bind (fun s9v hs11v => ?_)
 refine simL_eff (re_call (vs := [.pointer (some ⟨b2v, 0, none⟩)]) (cap := []) (A := [obj b2v 152 [.slice a0 x0.length c0, .int .i64 s6v.2.1, .int .i64 s6v.2.2]]) (rst := [obj b1v 61 [.int .i64 0, .int .i64 0, .int .i64 0, .slice none 0 0], F]) rfl rfl rfl rfl rfl rfl Try.call85 (.sel 0 rfl (.sel 0 rfl (.sel 0 rfl (.nil _)))) (synodref1_Reader_Int.calls _ _ k b2v a0 c0 x0 s6v.2.1 s6v.2.2 (h0.lend 1 rfl) hc0 hm0) hs11v) rfl rfl rfl ?_
 intro y10v
 refine simL_val (q_move rfl rfl) rfl rfl rfl ?_
 refine simL_bind (fun s12v hs14v => ?_)
 refine simL_eff (re_call (vs := [.pointer (some ⟨b2v, 0, none⟩), .int .i64 4096]) (cap := []) (A := [obj b2v 152 [.slice a0 x0.length c0, .int .i64 s9v.2.1, .int .i64 s9v.2.2]]) (rst := [obj b1v 61 [.int .i64 0, .int .i64 0, .int .i64 0, .slice none 0 0], F]) rfl rfl rfl rfl rfl rfl Try.call92 (.sel 0 rfl (.sel 0 rfl (.sel 0 rfl (.nil _)))) (synodref1_Reader_Bytes.calls _ _ k b2v a0 c0 x0 s9v.2.1 s9v.2.2 (4096 : Int) (h0.lend 1 rfl) hc0 hm0) hs14v) rfl rfl rfl ?_
 intro y13v
 refine simL_val (q_build (v := .agg #[.int .i64 s3v.1, .int .i64 s6v.1, .int .i64 s9v.1, .slice y13v.1 s12v.1.length y13v.2]) rfl rfl (fun _ => by kernel_rfl)) rfl rfl rfl ?_
 refine simL_eff (re_alloc rfl Try.zeroValue61 rfl) rfl rfl rfl ?_
 intro b15v
 refine simL_do (re_store 0 rfl rfl rfl Try.sizeOf61 rfl rfl (one_of (by rfl)) rfl rfl) rfl rfl ?_
 intro _
 refine simL_nil (nrm_then (sim_seq (sim_region ?_)))
 refine simL_val (q_move rfl rfl) rfl rfl rfl ?_
 refine simL_bind (fun s16v hs18v => ?_)
 refine simL_eff (re_call (vs := [.pointer (some ⟨b2v, 0, none⟩)]) (cap := []) (A := [obj b2v 152 [.slice a0 x0.length c0, .int .i64 s12v.2.1, .int .i64 s12v.2.2]]) (rst := [obj b15v 61 [.int .i64 s3v.1, .int .i64 s6v.1, .int .i64 s9v.1, .slice y13v.1 s12v.1.length y13v.2], Row 5 1 y13v.1 s12v.1.length y13v.2 (encB s12v.1), obj b1v 61 [.int .i64 0, .int .i64 0, .int .i64 0, .slice none 0 0], F]) rfl rfl rfl rfl rfl rfl Try.call86 (.sel 2 rfl (.sel 0 rfl (.sel 0 rfl (.sel 0 rfl (.sel 0 rfl (.nil _)))))) (synodref1_Reader_Done.calls _ _ b2v a0 c0 x0 s12v.2.1 s12v.2.2 (h0.lend 3 rfl) hc0 hm0) hs18v) rfl rfl rfl ?_
 intro y17v
 refine simL_val (q_asg rfl rfl) rfl rfl rfl (simL_nil (nrm_then ?_))
 refine sim_cut (S := Int) (Unit) (fun s y => [(2, .pointer (some ⟨b1v, 0, none⟩)), (5, .pointer (some ⟨b15v, 0, none⟩)), (6, .int .i64 s)]) (fun s y => [obj b15v 61 [.int .i64 s3v.1, .int .i64 s6v.1, .int .i64 s9v.1, .slice y13v.1 s12v.1.length y13v.2], obj b1v 61 [.int .i64 0, .int .i64 0, .int .i64 0, .slice none 0 0], Row 5 1 y13v.1 s12v.1.length y13v.2 (encB s12v.1), F]) ?_ ?_
 refine sim_seq (sim_region ?_)
 refine simL_val (q_move rfl rfl) rfl rfl rfl ?_
 refine simL_val (q_eql rfl rfl rfl) rfl rfl rfl (simL_nil (nrm_then ?_))
 refine sim_cond rfl (fun h21v => ?_) (fun h22v => ?_)
 refine sim_region ?_
 refine simL_val (q_loado 1 rfl rfl Try.isAgg61 Try.sizeOf61 rfl rfl) rfl rfl rfl ?_
 refine simL_bind (fun s27v hs29v => ?_)
 refine simL_lend 2 rfl (fun hq23v hq24v hq25v hq26v => ?_)
 refine simL_eff (re_call (vs := [.agg #[.int .i64 s3v.1, .int .i64 s6v.1, .int .i64 s9v.1, .slice y13v.1 s12v.1.length y13v.2]]) (cap := []) (A := []) (rst := [obj b2v 152 [.slice a0 x0.length c0, .int .i64 s12v.2.1, .int .i64 s12v.2.2], obj b15v 61 [.int .i64 s3v.1, .int .i64 s6v.1, .int .i64 s9v.1, .slice y13v.1 s12v.1.length y13v.2], Row 5 1 y13v.1 s12v.1.length y13v.2 (encB s12v.1), obj b1v 61 [.int .i64 0, .int .i64 0, .int .i64 0, .slice none 0 0], F]) rfl rfl rfl rfl rfl rfl Try.call35 (.sel 0 rfl (.sel 0 rfl (.sel 0 rfl (.sel 0 rfl (.sel 0 rfl (.nil _)))))) (synodref3_CheckEntry.calls _ _ s3v.1 s6v.1 s9v.1 y13v.1 y13v.2 s12v.1 (hq23v.lend 2 rfl) hq24v hq25v) hs29v) rfl rfl rfl ?_
 intro y28v
 refine simL_val (q_asg rfl rfl) rfl rfl rfl (simL_nil ?_)
 exact nrm_cut (s := s27v) () ⟨rfl, rfl, rfl, trivial⟩ (.sel 1 rfl (.sel 2 rfl (.sel 1 rfl (.sel 1 rfl (.nil _)))))
 refine sim_skip ?_
 exact nrm_cut (s := s16v) () ⟨rfl, rfl, rfl, trivial⟩ (.sel 1 rfl (.sel 2 rfl (.sel 1 rfl (.sel 1 rfl (.nil _)))))
 intro s19v y20v
 refine sim_seq (sim_seq (sim_region ?_))
 refine simL_val (q_move rfl rfl) rfl rfl rfl ?_
 refine simL_val (q_neq rfl rfl rfl) rfl rfl rfl (simL_nil (nrm_then ?_))
 refine sim_condn rfl (fun h30v => ?_) (fun h31v => ?_)
 refine sim_skip ?_
 refine nrm_then (sim_seq (sim_region ?_))
 refine simL_val (q_loado 0 rfl rfl Try.isAgg61 Try.sizeOf61 rfl rfl) rfl rfl rfl ?_
 refine simL_val (q_move rfl rfl) rfl rfl rfl ?_
 refine simL_do (re_store 1 rfl rfl rfl Try.sizeOf61 rfl rfl (one_of (by rfl)) rfl rfl) rfl rfl ?_
 intro _
 refine simL_val (q_asg rfl rfl) rfl rfl rfl (simL_nil (nrm_then (sim_rtn ?_)))
 exact rtn_fnC (vs := [.agg #[.int .i64 s3v.1, .int .i64 s6v.1, .int .i64 s9v.1, .slice y13v.1 s12v.1.length y13v.2], .int .i64 s19v]) (y13v.1, y13v.2) rfl ⟨⟨b1v, rfl, load_agg 1 Try.isAgg61 Try.sizeOf61 rfl rfl⟩, rfl, trivial⟩ rfl (.sel 2 rfl (.sel 2 rfl (.nil _)))
 refine sim_seq (sim_region ?_)
 refine simL_val (q_build (v := .agg #[.int .i64 0, .int .i64 0, .int .i64 0, .slice none 0 0]) rfl rfl (fun _ => by kernel_rfl)) rfl rfl rfl ?_
 refine simL_val (q_move rfl rfl) rfl rfl rfl ?_
 refine simL_do (re_store 1 rfl rfl rfl Try.sizeOf61 rfl rfl (one_of (by rfl)) rfl rfl) rfl rfl ?_
 intro _
 refine simL_val (q_asg rfl rfl) rfl rfl rfl (simL_nil (nrm_then (sim_rtn ?_)))
 refine rtn_then ?_
 exact rtn_fnC (vs := [.agg #[.int .i64 0, .int .i64 0, .int .i64 0, .slice none 0 0], .int .i64 s19v]) (none, 0) rfl ⟨⟨b1v, rfl, load_agg 1 Try.isAgg61 Try.sizeOf61 rfl rfl⟩, rfl, trivial⟩ rfl (.row_nil (.sel 3 rfl (.nil _)))

def synodref_SameEntry.f (k : Nat) (x0_0 : Int) (x0_1 : Int) (x0_2 : Int) (x0_3 : List UInt8) (x1_0 : Int) (x1_1 : Int) (x1_2 : Int) (x1_3 : List UInt8) : Option (Bool) := (synodref_SameBytes.f k x0_3 x1_3).bind fun s3v => (some (((s3v && (decide (x0_0 = x1_0))) && (decide (x0_1 = x1_1))) && (decide (x0_2 = x1_2))))
theorem synodref_SameEntry.calls (W : World) (F : HA) (k : Nat) (x0_0 : Int) (x0_1 : Int) (x0_2 : Int) (a0_3 : Option Addr) (c0_3 : Nat) (x0_3 : List UInt8) (x1_0 : Int) (x1_1 : Int) (x1_2 : Int) (a1_3 : Option Addr) (c1_3 : Nat) (x1_3 : List UInt8) (h0_3 : Rd F a0_3 (encB x0_3)) (hc0_3 : x0_3.length ≤ c0_3) (hm0_3 : c0_3 ≤ maxLen) (h1_3 : Rd F a1_3 (encB x1_3)) (hc1_3 : x1_3.length ≤ c1_3) (hm1_3 : c1_3 ≤ maxLen) :
    Fn Try.prog W 38 [.agg #[.int .i64 x0_0, .int .i64 x0_1, .int .i64 x0_2, .slice a0_3 x0_3.length c0_3], .agg #[.int .i64 x1_0, .int .i64 x1_1, .int .i64 x1_2, .slice a1_3 x1_3.length c1_3]] [] F (synodref_SameEntry.f k x0_0 x0_1 x0_2 x0_3 x1_0 x1_1 x1_2 x1_3) (fun (r : Bool) (y : Unit) => .bool r) (fun r y => []) := by
 unfold synodref_SameEntry.f
 refine fn_intro 33 Try.func38 rfl Try.ntmps38 rfl ?_
 refine sim_seq (sim_region ?_)
 refine simL_eff (re_box rfl rfl rfl) rfl rfl rfl ?_
 intro b1v
 refine simL_eff (re_box rfl rfl rfl) rfl rfl rfl ?_
 intro b2v
 refine simL_val (q_asg rfl rfl) rfl rfl rfl (simL_nil (nrm_then (sim_seq (sim_region ?_))))
 refine simL_val (q_fa rfl rfl Try.underlying61 rfl rfl Try.sizeOf27 rfl) rfl rfl rfl ?_
 refine simL_val (q_load rfl rfl Try.isAgg27 (.obj 1 rfl rfl)) rfl rfl rfl ?_
 refine simL_val (q_fa rfl rfl Try.underlying61 rfl rfl Try.sizeOf27 rfl) rfl rfl rfl ?_
 refine simL_val (q_load rfl rfl Try.isAgg27 (.obj 0 rfl rfl)) rfl rfl rfl ?_
 refine simL_bind (fun s3v hs5v => ?_)
 refine simL_eff (re_call (vs := [.slice a0_3 x0_3.length c0_3, .slice a1_3 x1_3.length c1_3]) (cap := []) (A := []) (rst := [obj b2v 61 [.int .i64 x1_0, .int .i64 x1_1, .int .i64 x1_2, .slice a1_3 x1_3.length c1_3], obj b1v 61 [.int .i64 x0_0, .int .i64 x0_1, .int .i64 x0_2, .slice a0_3 x0_3.length c0_3], F]) rfl rfl rfl rfl rfl rfl Try.call25 (.sel 0 rfl (.sel 0 rfl (.sel 0 rfl (.nil _)))) (synodref_SameBytes.calls _ _ k a0_3 c0_3 x0_3 a1_3 c1_3 x1_3 (h0_3.lend 2 rfl) hc0_3 hm0_3 (h1_3.lend 2 rfl) hc1_3 hm1_3) hs5v) rfl rfl rfl ?_
 intro y4v
 refine simL_val (q_asg rfl rfl) rfl rfl rfl (simL_nil (nrm_then (sim_seq (sim_region ?_))))
 refine simL_val (q_move rfl rfl) rfl rfl rfl ?_
 refine simL_val (q_move rfl rfl) rfl rfl rfl ?_
 refine simL_valc (b := s3v) (fun hb20v => RQ.sub (E' := [(2, .pointer (some ⟨b1v, 0, none⟩))]) ⟨rfl, trivial⟩ (q_fa rfl rfl Try.underlying61 rfl rfl Try.sizeOf3 rfl)) rfl rfl rfl rfl rfl ?_
 refine simL_valc (b := s3v) (fun hb19v => RQ.sub (E' := [(13, .pointer (some ⟨b1v, 0, none⟩))]) ⟨lk_cv rfl hb19v, trivial⟩ (q_load rfl rfl Try.isAgg3 (.obj 1 rfl rfl))) rfl rfl rfl rfl rfl ?_
 refine simL_valc (b := s3v) (fun hb18v => RQ.sub (E' := [(3, .pointer (some ⟨b2v, 0, none⟩))]) ⟨rfl, trivial⟩ (q_fa rfl rfl Try.underlying61 rfl rfl Try.sizeOf3 rfl)) rfl rfl rfl rfl rfl ?_
 refine simL_valc (b := s3v) (fun hb17v => RQ.sub (E' := [(15, .pointer (some ⟨b2v, 0, none⟩))]) ⟨lk_cv rfl hb17v, trivial⟩ (q_load rfl rfl Try.isAgg3 (.obj 0 rfl rfl))) rfl rfl rfl rfl rfl ?_
 refine simL_valc (b := s3v) (fun hb16v => RQ.sub (E' := [(14, .int .i64 x0_0), (16, .int .i64 x1_0)]) ⟨lk_cv rfl hb16v, lk_cv rfl hb16v, trivial⟩ (q_eql rfl rfl rfl)) rfl rfl rfl rfl rfl ?_
 refine simL_val (q_and rfl rfl rfl) rfl rfl rfl ?_
 refine simL_val (q_move rfl rfl) rfl rfl rfl ?_
 refine simL_valc (b := s3v && (decide (x0_0 = x1_0))) (fun hb15v => RQ.sub (E' := [(2, .pointer (some ⟨b1v, 0, none⟩))]) ⟨rfl, trivial⟩ (q_fa rfl rfl Try.underlying61 rfl rfl Try.sizeOf3 rfl)) rfl rfl rfl rfl rfl ?_
 refine simL_valc (b := s3v && (decide (x0_0 = x1_0))) (fun hb14v => RQ.sub (E' := [(20, .pointer (some ⟨b1v, 1, none⟩))]) ⟨lk_cv rfl hb14v, trivial⟩ (q_load rfl rfl Try.isAgg3 (.obj 1 rfl rfl))) rfl rfl rfl rfl rfl ?_
 refine simL_valc (b := s3v && (decide (x0_0 = x1_0))) (fun hb13v => RQ.sub (E' := [(3, .pointer (some ⟨b2v, 0, none⟩))]) ⟨rfl, trivial⟩ (q_fa rfl rfl Try.underlying61 rfl rfl Try.sizeOf3 rfl)) rfl rfl rfl rfl rfl ?_
 refine simL_valc (b := s3v && (decide (x0_0 = x1_0))) (fun hb12v => RQ.sub (E' := [(22, .pointer (some ⟨b2v, 1, none⟩))]) ⟨lk_cv rfl hb12v, trivial⟩ (q_load rfl rfl Try.isAgg3 (.obj 0 rfl rfl))) rfl rfl rfl rfl rfl ?_
 refine simL_valc (b := s3v && (decide (x0_0 = x1_0))) (fun hb11v => RQ.sub (E' := [(21, .int .i64 x0_1), (23, .int .i64 x1_1)]) ⟨lk_cv rfl hb11v, lk_cv rfl hb11v, trivial⟩ (q_eql rfl rfl rfl)) rfl rfl rfl rfl rfl ?_
 refine simL_val (q_and rfl rfl rfl) rfl rfl rfl ?_
 refine simL_val (q_move rfl rfl) rfl rfl rfl ?_
 refine simL_valc (b := (s3v && (decide (x0_0 = x1_0))) && (decide (x0_1 = x1_1))) (fun hb10v => RQ.sub (E' := [(2, .pointer (some ⟨b1v, 0, none⟩))]) ⟨rfl, trivial⟩ (q_fa rfl rfl Try.underlying61 rfl rfl Try.sizeOf3 rfl)) rfl rfl rfl rfl rfl ?_
 refine simL_valc (b := (s3v && (decide (x0_0 = x1_0))) && (decide (x0_1 = x1_1))) (fun hb9v => RQ.sub (E' := [(27, .pointer (some ⟨b1v, 2, none⟩))]) ⟨lk_cv rfl hb9v, trivial⟩ (q_load rfl rfl Try.isAgg3 (.obj 1 rfl rfl))) rfl rfl rfl rfl rfl ?_
 refine simL_valc (b := (s3v && (decide (x0_0 = x1_0))) && (decide (x0_1 = x1_1))) (fun hb8v => RQ.sub (E' := [(3, .pointer (some ⟨b2v, 0, none⟩))]) ⟨rfl, trivial⟩ (q_fa rfl rfl Try.underlying61 rfl rfl Try.sizeOf3 rfl)) rfl rfl rfl rfl rfl ?_
 refine simL_valc (b := (s3v && (decide (x0_0 = x1_0))) && (decide (x0_1 = x1_1))) (fun hb7v => RQ.sub (E' := [(29, .pointer (some ⟨b2v, 2, none⟩))]) ⟨lk_cv rfl hb7v, trivial⟩ (q_load rfl rfl Try.isAgg3 (.obj 0 rfl rfl))) rfl rfl rfl rfl rfl ?_
 refine simL_valc (b := (s3v && (decide (x0_0 = x1_0))) && (decide (x0_1 = x1_1))) (fun hb6v => RQ.sub (E' := [(28, .int .i64 x0_2), (30, .int .i64 x1_2)]) ⟨lk_cv rfl hb6v, lk_cv rfl hb6v, trivial⟩ (q_eql rfl rfl rfl)) rfl rfl rfl rfl rfl ?_
 refine simL_val (q_and rfl rfl rfl) rfl rfl rfl ?_
 refine simL_val (q_asg rfl rfl) rfl rfl rfl (simL_nil (nrm_then (sim_rtn ?_)))
 exact rtn_fn () rfl rfl rfl (.sel 2 rfl (.nil _))

def synodref_SameEntries.l0 (x0 : List (Int × Int × Int × List UInt8)) (x1 : List (Int × Int × Int × List UInt8)) : Nat → Int → Option ((Unit) ⊕ (Bool))
  | 0, _ => none
  | k + 1, z7v => if z7v < (x0.length : Int) then (if 0 ≤ z7v ∧ z7v < (x0.length : Int) then (if 0 ≤ z7v ∧ z7v < (x1.length : Int) then ((synodref_SameEntry.f k ((x0.getD z7v.toNat ((0 : Int), (0 : Int), (0 : Int), ([] : List UInt8))).1) ((x0.getD z7v.toNat ((0 : Int), (0 : Int), (0 : Int), ([] : List UInt8))).2.1) ((x0.getD z7v.toNat ((0 : Int), (0 : Int), (0 : Int), ([] : List UInt8))).2.2.1) ((x0.getD z7v.toNat ((0 : Int), (0 : Int), (0 : Int), ([] : List UInt8))).2.2.2) ((x1.getD z7v.toNat ((0 : Int), (0 : Int), (0 : Int), ([] : List UInt8))).1) ((x1.getD z7v.toNat ((0 : Int), (0 : Int), (0 : Int), ([] : List UInt8))).2.1) ((x1.getD z7v.toNat ((0 : Int), (0 : Int), (0 : Int), ([] : List UInt8))).2.2.1) ((x1.getD z7v.toNat ((0 : Int), (0 : Int), (0 : Int), ([] : List UInt8))).2.2.2)).bind fun s36v => (if (!s36v) = true then (some (.inr false)) else (synodref_SameEntries.l0 x0 x1 k (IntKind.i64.wrap (z7v + 1))))) else none) else none) else (some (.inl ()))
def synodref_SameEntries.f (k : Nat) (x0 : List (Int × Int × Int × List UInt8)) (x1 : List (Int × Int × Int × List UInt8)) : Option (Bool) := if (x0.length : Int) = (x1.length : Int) then (orR (synodref_SameEntries.l0 x0 x1 k 0) fun s3v => (some true)) else (some false)
theorem synodref_SameEntries.calls (W : World) (F : HA) (k : Nat) (a0 : Option Addr) (c0 : Nat) (x0 : List (Int × Int × Int × List UInt8)) (a1 : Option Addr) (c1 : Nat) (x1 : List (Int × Int × Int × List UInt8)) (h0 : RdV F 4 (V61 F) a0 x0) (hc0 : x0.length ≤ c0) (hm0 : c0 ≤ maxLen) (h1 : RdV F 4 (V61 F) a1 x1) (hc1 : x1.length ≤ c1) (hm1 : c1 ≤ maxLen) :
    Fn Try.prog W 70 [.slice a0 x0.length c0, .slice a1 x1.length c1] [] F (synodref_SameEntries.f k x0 x1) (fun (r : Bool) (y : Unit) => .bool r) (fun r y => []) := by
 unfold synodref_SameEntries.f
 refine fn_intro 29 Try.func70 rfl Try.ntmps70 rfl ?_
 refine sim_seq (sim_region ?_)
 refine simL_val (q_asg rfl rfl) rfl rfl rfl (simL_nil (nrm_then (sim_seq (sim_seq (sim_region ?_)))))
 refine simL_val (q_move rfl rfl) rfl rfl rfl ?_
 refine simL_val (q_len rfl rfl rfl Try.underlying26) rfl rfl rfl ?_
 refine simL_val (q_move rfl rfl) rfl rfl rfl ?_
 refine simL_val (q_len rfl rfl rfl Try.underlying26) rfl rfl rfl ?_
 refine simL_val (q_neq rfl rfl rfl) rfl rfl rfl (simL_nil (nrm_then ?_))
 refine sim_condn rfl (fun h1v => ?_) (fun h2v => ?_)
 refine sim_skip ?_
 refine nrm_then ?_
 refine sim_cutR (S := Unit) (Unit) (fun s y => []) (fun s y => [F]) ?_ ?_
 refine sim_seq (sim_region ?_)
 refine simL_val (q_asg rfl rfl) rfl rfl rfl (simL_nil (nrm_then ?_))
 refine sim_block ?_
 refine sim_loop (S := Int) (Unit) (fun k s => synodref_SameEntries.l0 x0 x1 k s) (fun s y => [(0, .slice a0 x0.length c0), (1, .slice a1 x1.length c1), (5, .int .i64 s)]) (fun s y => [F]) (fun _ => by rw [synodref_SameEntries.l0]) ?_ k 0 () ⟨rfl, rfl, rfl, trivial⟩ (.sel 0 rfl (.nil _))
 intro k s5v y6v
 refine sim_eq (by rw [synodref_SameEntries.l0]) ?_
 refine sim_seq (sim_seq (sim_region ?_))
 refine simL_val (q_move rfl rfl) rfl rfl rfl ?_
 refine simL_val (q_move rfl rfl) rfl rfl rfl ?_
 refine simL_val (q_len rfl rfl rfl Try.underlying26) rfl rfl rfl ?_
 refine simL_val (q_lss rfl rfl rfl) rfl rfl rfl (simL_nil (nrm_then ?_))
 refine sim_cond rfl (fun h8v => ?_) (fun h9v => ?_)
 refine sim_skip ?_
 refine nrm_then (sim_seq ?_)
 refine sim_block ?_
 refine sim_seq ?_
 refine sim_ask (fun hi10v => ?_)
 obtain ⟨b11v, b11vo, r14v, ha12v, hV15v, hlr16v, hcell17v⟩ := RdV.pos h0 (Up.refl _) rfl (i := s5v.toNat) (by omega) ((0 : Int), (0 : Int), (0 : Int), ([] : List UInt8))
 obtain ⟨a18v, c19v, rfl, ⟨he20v, hc21v, hm22v⟩⟩ := hV15v
 refine sim_ask (fun hi23v => ?_)
 obtain ⟨b24v, b24vo, r27v, ha25v, hV28v, hlr29v, hcell30v⟩ := RdV.pos h1 (Up.refl _) rfl (i := s5v.toNat) (by omega) ((0 : Int), (0 : Int), (0 : Int), ([] : List UInt8))
 obtain ⟨a31v, c32v, rfl, ⟨he33v, hc34v, hm35v⟩⟩ := hV28v
 refine sim_bind (fun s36v hs38v => ?_)
 refine sim_draw (Γ := Unit) () [[], [], [0, 1], [0, 1, 2], [], [], [4, 5], [4, 5, 6], [0, 1, 2, 3, 4, 5, 6, 7], [0, 1, 2, 3, 4, 5, 6, 7, 8]] [8] [0, 1, 2, 3, 4, 5, 6, 7, 9] (fun i => [[0], [0], [0], [0], [0], [0], [0], [0], [], [1]].getD i []) (fun i => [[], [], [], [], [], [], [], [], [0, 1, 2, 3, 4, 5, 6, 7], []].getD i []) (fun γ i => [.slice a0 x0.length c0, .int .i64 s5v, .pointer (some ⟨b11v, b11vo + s5v.toNat * 4, none⟩), .agg #[.int .i64 ((x0.getD s5v.toNat ((0 : Int), (0 : Int), (0 : Int), ([] : List UInt8))).1), .int .i64 ((x0.getD s5v.toNat ((0 : Int), (0 : Int), (0 : Int), ([] : List UInt8))).2.1), .int .i64 ((x0.getD s5v.toNat ((0 : Int), (0 : Int), (0 : Int), ([] : List UInt8))).2.2.1), .slice a18v (((x0.getD s5v.toNat ((0 : Int), (0 : Int), (0 : Int), ([] : List UInt8))).2.2.2).length) c19v], .slice a1 x1.length c1, .int .i64 s5v, .pointer (some ⟨b24v, b24vo + s5v.toNat * 4, none⟩), .agg #[.int .i64 ((x1.getD s5v.toNat ((0 : Int), (0 : Int), (0 : Int), ([] : List UInt8))).1), .int .i64 ((x1.getD s5v.toNat ((0 : Int), (0 : Int), (0 : Int), ([] : List UInt8))).2.1), .int .i64 ((x1.getD s5v.toNat ((0 : Int), (0 : Int), (0 : Int), ([] : List UInt8))).2.2.1), .slice a31v (((x1.getD s5v.toNat ((0 : Int), (0 : Int), (0 : Int), ([] : List UInt8))).2.2.2).length) c32v], .bool s36v, .bool s36v].getD i undef) (fun j γ => [[F], [F]].getD j []) (fun γ => [(0, .slice a0 x0.length c0), (1, .slice a1 x1.length c1), (5, .int .i64 s5v), (6, .bool s36v)]) mixed (by decide) (by decide) (by decide) (by decide) (by decide) (by decide) (by decide) 29 rfl (by decide) (by decide) (by decide) (Ent.refl _) ?_ ?_ (fun _ => ⟨rfl, rfl, rfl, rfl, trivial⟩) ?_
 exact (All.cons (fun γ => (All.cons (QOb.plain [(0, .slice a0 x0.length c0)] rfl rfl (.o rfl (by decide) .nil) (q_move rfl rfl) rfl) All.nil)) (All.cons (fun γ => (All.cons (QOb.plain [(5, .int .i64 s5v)] rfl rfl (.o rfl (by decide) .nil) (q_move rfl rfl) rfl) All.nil)) (All.cons (fun γ => (All.cons (QOb.plain [(18, .slice a0 x0.length c0), (19, .int .i64 s5v)] rfl rfl (.w 0 rfl rfl rfl (.w 1 rfl rfl rfl .nil)) (q_idx rfl rfl rfl ha12v Try.underlying26 Try.sizeOf61 hi10v.1 hi10v.2) rfl) All.nil)) (All.cons (fun γ => (All.cons (QOb.plain [(20, .pointer (some ⟨b11v, b11vo + s5v.toNat * 4, none⟩))] rfl rfl (.w 2 rfl rfl rfl .nil) (q_loads rfl rfl Try.isAgg61 Try.sizeOf61 rfl (fun j v hj => hcell17v 0 rfl j v hj)) rfl) All.nil)) (All.cons (fun γ => (All.cons (QOb.plain [(1, .slice a1 x1.length c1)] rfl rfl (.o rfl (by decide) .nil) (q_move rfl rfl) rfl) All.nil)) (All.cons (fun γ => (All.cons (QOb.plain [(5, .int .i64 s5v)] rfl rfl (.o rfl (by decide) .nil) (q_move rfl rfl) rfl) All.nil)) (All.cons (fun γ => (All.cons (QOb.plain [(22, .slice a1 x1.length c1), (23, .int .i64 s5v)] rfl rfl (.w 4 rfl rfl rfl (.w 5 rfl rfl rfl .nil)) (q_idx rfl rfl rfl ha25v Try.underlying26 Try.sizeOf61 hi23v.1 hi23v.2) rfl) All.nil)) (All.cons (fun γ => (All.cons (QOb.plain [(24, .pointer (some ⟨b24v, b24vo + s5v.toNat * 4, none⟩))] rfl rfl (.w 6 rfl rfl rfl .nil) (q_loads rfl rfl Try.isAgg61 Try.sizeOf61 rfl (fun j v hj => hcell30v 0 rfl j v hj)) rfl) All.nil)) (All.cons (fun γ => (All.cons (QOb.plain [(26, .bool s36v)] rfl rfl (.w 8 rfl rfl rfl .nil) (q_asg rfl rfl) rfl) All.nil)) All.nil)))))))))
 exact (All.cons (fun γ => EOb.mk (Z := Unit) [(21, .agg #[.int .i64 ((x0.getD s5v.toNat ((0 : Int), (0 : Int), (0 : Int), ([] : List UInt8))).1), .int .i64 ((x0.getD s5v.toNat ((0 : Int), (0 : Int), (0 : Int), ([] : List UInt8))).2.1), .int .i64 ((x0.getD s5v.toNat ((0 : Int), (0 : Int), (0 : Int), ([] : List UInt8))).2.2.1), .slice a18v (((x0.getD s5v.toNat ((0 : Int), (0 : Int), (0 : Int), ([] : List UInt8))).2.2.2).length) c19v]), (25, .agg #[.int .i64 ((x1.getD s5v.toNat ((0 : Int), (0 : Int), (0 : Int), ([] : List UInt8))).1), .int .i64 ((x1.getD s5v.toNat ((0 : Int), (0 : Int), (0 : Int), ([] : List UInt8))).2.1), .int .i64 ((x1.getD s5v.toNat ((0 : Int), (0 : Int), (0 : Int), ([] : List UInt8))).2.2.1), .slice a31v (((x1.getD s5v.toNat ((0 : Int), (0 : Int), (0 : Int), ([] : List UInt8))).2.2.2).length) c32v])] (fun z => ()) rfl rfl (.w 3 rfl rfl rfl (.w 7 rfl rfl rfl .nil)) (re_call (vs := [.agg #[.int .i64 ((x0.getD s5v.toNat ((0 : Int), (0 : Int), (0 : Int), ([] : List UInt8))).1), .int .i64 ((x0.getD s5v.toNat ((0 : Int), (0 : Int), (0 : Int), ([] : List UInt8))).2.1), .int .i64 ((x0.getD s5v.toNat ((0 : Int), (0 : Int), (0 : Int), ([] : List UInt8))).2.2.1), .slice a18v (((x0.getD s5v.toNat ((0 : Int), (0 : Int), (0 : Int), ([] : List UInt8))).2.2.2).length) c19v], .agg #[.int .i64 ((x1.getD s5v.toNat ((0 : Int), (0 : Int), (0 : Int), ([] : List UInt8))).1), .int .i64 ((x1.getD s5v.toNat ((0 : Int), (0 : Int), (0 : Int), ([] : List UInt8))).2.1), .int .i64 ((x1.getD s5v.toNat ((0 : Int), (0 : Int), (0 : Int), ([] : List UInt8))).2.2.1), .slice a31v (((x1.getD s5v.toNat ((0 : Int), (0 : Int), (0 : Int), ([] : List UInt8))).2.2.2).length) c32v]]) (cap := []) (A := []) (rst := [F]) rfl rfl rfl rfl rfl rfl Try.call38 (.sel 0 rfl (.nil _)) (synodref_SameEntry.calls _ _ k ((x0.getD s5v.toNat ((0 : Int), (0 : Int), (0 : Int), ([] : List UInt8))).1) ((x0.getD s5v.toNat ((0 : Int), (0 : Int), (0 : Int), ([] : List UInt8))).2.1) ((x0.getD s5v.toNat ((0 : Int), (0 : Int), (0 : Int), ([] : List UInt8))).2.2.1) a18v c19v ((x0.getD s5v.toNat ((0 : Int), (0 : Int), (0 : Int), ([] : List UInt8))).2.2.2) ((x1.getD s5v.toNat ((0 : Int), (0 : Int), (0 : Int), ([] : List UInt8))).1) ((x1.getD s5v.toNat ((0 : Int), (0 : Int), (0 : Int), ([] : List UInt8))).2.1) ((x1.getD s5v.toNat ((0 : Int), (0 : Int), (0 : Int), ([] : List UInt8))).2.2.1) a31v c32v ((x1.getD s5v.toNat ((0 : Int), (0 : Int), (0 : Int), ([] : List UInt8))).2.2.2) (he20v.lend 0 rfl) hc21v hm22v (he33v.lend 0 rfl) hc34v hm35v) hs38v) (fun _ => ⟨rfl, rfl, rfl, rfl, rfl, rfl, rfl, rfl, trivial⟩) (fun _ => .inr rfl) (fun z => Ent.refl _)) All.nil)
 intro g39v
 refine nrm_then (sim_seq (sim_region ?_))
 refine simL_val (q_move rfl rfl) rfl rfl rfl ?_
 refine simL_val (q_not rfl rfl) rfl rfl rfl (simL_nil (nrm_then ?_))
 refine sim_condb rfl (fun h40v => ?_) (fun h41v => ?_)
 refine sim_seq (sim_region ?_)
 refine simL_val (q_asg rfl rfl) rfl rfl rfl (simL_nil (nrm_then (sim_rtn ?_)))
 refine rtn_block ?_
 refine rtn_then ?_
 refine rtn_loop ?_
 refine rtn_block ?_
 refine rtn_cutR ?_
 exact rtn_fn () rfl rfl rfl (.sel 0 rfl (.nil _))
 refine sim_skip ?_
 refine nrm_block (nrm_then (sim_region ?_))
 refine simL_val (q_move rfl rfl) rfl rfl rfl ?_
 refine simL_val (q_add rfl rfl rfl) rfl rfl rfl ?_
 refine simL_val (q_asg rfl rfl) rfl rfl rfl (simL_nil ?_)
 exact nrm_again (s := IntKind.i64.wrap (s5v + 1)) () ⟨rfl, rfl, rfl, trivial⟩ (.sel 0 rfl (.nil _))
 refine sim_exi ?_
 refine exi_then ?_
 refine exi_loop ?_
 refine exi_here ?_
 exact nrm_cutR (s := ()) () trivial (.sel 0 rfl (.nil _))
 intro s3v y4v
 refine sim_seq (sim_region ?_)
 refine simL_val (q_asg rfl rfl) rfl rfl rfl (simL_nil (nrm_then (sim_rtn ?_)))
 exact rtn_fn () rfl rfl rfl (.sel 0 rfl (.nil _))
 refine sim_seq (sim_region ?_)
 refine simL_val (q_asg rfl rfl) rfl rfl rfl (simL_nil (nrm_then (sim_rtn ?_)))
 refine rtn_then ?_
 exact rtn_fn () rfl rfl rfl (.sel 0 rfl (.nil _))

def codec_moved_int_wire_Reader_Int.f (k : Nat) (xp0_0 : List UInt8) (xp0_1 : Int) (xp0_2 : Int) : Option (Int × Bool × Int × Int) := (wire_Reader_At.f xp0_0 xp0_1 xp0_2).bind fun s1v => ((wire_Reader_Int.f k xp0_0 xp0_1 xp0_2).bind fun s4v => ((wire_Reader_At.f xp0_0 s4v.2.1 s4v.2.2).bind fun s7v => (some (s4v.1, decide (s1v < s7v), s4v.2.1, s4v.2.2))))
theorem codec_moved_int_wire_Reader_Int.calls (W : World) (F : HA) (k : Nat) (bp0 : Nat) (ap0_0 : Option Addr) (cp0_0 : Nat) (xp0_0 : List UInt8) (xp0_1 : Int) (xp0_2 : Int) (hp0_0 : Rd F ap0_0 (encB xp0_0)) (hcp0_0 : xp0_0.length ≤ cp0_0) (hmp0_0 : cp0_0 ≤ maxLen) :
    Fn Try.prog W 110 [.pointer (some ⟨bp0, 0, none⟩), .func (.func 83) #[.pointer (some ⟨bp0, 0, none⟩)] #[]] [obj bp0 194 [.slice ap0_0 xp0_0.length cp0_0, .int .i64 xp0_1, .int .i64 xp0_2]] F (codec_moved_int_wire_Reader_Int.f k xp0_0 xp0_1 xp0_2) (fun (r : Int × Bool × Int × Int) (y : Unit) => .tuple #[.int .i64 r.1, .bool r.2.1]) (fun r y => [obj bp0 194 [.slice ap0_0 xp0_0.length cp0_0, .int .i64 r.2.2.1, .int .i64 r.2.2.2]]) := by
 unfold codec_moved_int_wire_Reader_Int.f
 refine fn_intro 17 Try.func110 rfl Try.ntmps110 rfl ?_
 refine sim_seq (sim_region ?_)
 refine simL_val (q_asg rfl rfl) rfl rfl rfl ?_
 refine simL_val (q_asg rfl rfl) rfl rfl rfl (simL_nil (nrm_then (sim_seq (sim_region ?_))))
 refine simL_val (q_move rfl rfl) rfl rfl rfl ?_
 refine simL_bind (fun s1v hs3v => ?_)
 refine simL_eff (re_call (vs := [.pointer (some ⟨bp0, 0, none⟩)]) (cap := []) (A := [obj bp0 194 [.slice ap0_0 xp0_0.length cp0_0, .int .i64 xp0_1, .int .i64 xp0_2]]) (rst := [F]) rfl rfl rfl rfl rfl rfl Try.call132 (.sel 0 rfl (.sel 0 rfl (.nil _))) (wire_Reader_At.calls _ _ bp0 ap0_0 cp0_0 xp0_0 xp0_1 xp0_2 (hp0_0.lend 0 rfl) hcp0_0 hmp0_0) hs3v) rfl rfl rfl ?_
 intro y2v
 refine simL_val (q_asg rfl rfl) rfl rfl rfl (simL_nil (nrm_then (sim_seq (sim_region ?_))))
 refine simL_val (q_move rfl rfl) rfl rfl rfl ?_
 refine simL_bind (fun s4v hs6v => ?_)
 refine simL_eff (re_callf (fst := [.pointer (some ⟨bp0, 0, none⟩)]) (vs := []) (cap := []) (A := [obj bp0 194 [.slice ap0_0 xp0_0.length cp0_0, .int .i64 xp0_1, .int .i64 xp0_2]]) (rst := [F]) rfl rfl rfl rfl rfl rfl Try.call83 (.sel 0 rfl (.sel 0 rfl (.nil _))) (wire_Reader_Int.calls _ _ k bp0 ap0_0 cp0_0 xp0_0 xp0_1 xp0_2 (hp0_0.lend 0 rfl) hcp0_0 hmp0_0) hs6v) rfl rfl rfl ?_
 intro y5v
 refine simL_val (q_asg rfl rfl) rfl rfl rfl (simL_nil (nrm_then (sim_seq (sim_region ?_))))
 refine simL_val (q_move rfl rfl) rfl rfl rfl ?_
 refine simL_val (q_move rfl rfl) rfl rfl rfl ?_
 refine simL_bind (fun s7v hs9v => ?_)
 refine simL_eff (re_call (vs := [.pointer (some ⟨bp0, 0, none⟩)]) (cap := []) (A := [obj bp0 194 [.slice ap0_0 xp0_0.length cp0_0, .int .i64 s4v.2.1, .int .i64 s4v.2.2]]) (rst := [F]) rfl rfl rfl rfl rfl rfl Try.call132 (.sel 0 rfl (.sel 0 rfl (.nil _))) (wire_Reader_At.calls _ _ bp0 ap0_0 cp0_0 xp0_0 s4v.2.1 s4v.2.2 (hp0_0.lend 0 rfl) hcp0_0 hmp0_0) hs9v) rfl rfl rfl ?_
 intro y8v
 refine simL_val (q_move rfl rfl) rfl rfl rfl ?_
 refine simL_val (q_gtr rfl rfl rfl) rfl rfl rfl ?_
 refine simL_val (q_asg rfl rfl) rfl rfl rfl ?_
 refine simL_val (q_asg rfl rfl) rfl rfl rfl (simL_nil (nrm_then (sim_rtn ?_)))
 exact rtn_fn () rfl rfl rfl (.sel 0 rfl (.sel 0 rfl (.nil _)))

def codec_each_Entry_1_s.f (k : Nat) (xp1_0 : List UInt8) (xp1_1 : Int) (xp1_2 : Int) (xp2_0 : Int) : Option (List UInt8 × Int × Int) := (wire_Reader_Bytes.f k xp1_0 xp1_1 xp1_2 xp2_0).bind fun s1v => (some (s1v.1, s1v.2.1, s1v.2.2))
theorem codec_each_Entry_1_s.calls (W : World) (F : HA) (k : Nat) (bp0 : Nat) (bp1 : Nat) (ap1_0 : Option Addr) (cp1_0 : Nat) (xp1_0 : List UInt8) (xp1_1 : Int) (xp1_2 : Int) (bp2 : Nat) (xp2_0 : Int) (hp1_0 : Rd F ap1_0 (encB xp1_0)) (hcp1_0 : xp1_0.length ≤ cp1_0) (hmp1_0 : cp1_0 ≤ maxLen) :
    Fn Try.prog W 133 [.pointer (some ⟨bp0, 0, none⟩), .pointer (some ⟨bp2, 0, none⟩)] [obj bp1 194 [.slice ap1_0 xp1_0.length cp1_0, .int .i64 xp1_1, .int .i64 xp1_2], obj bp0 146 [.pointer (some ⟨bp1, 0, none⟩)], obj bp2 3 [.int .i64 xp2_0]] F (codec_each_Entry_1_s.f k xp1_0 xp1_1 xp1_2 xp2_0) (fun (r : List UInt8 × Int × Int) (y : Option Addr × Nat) => .slice y.1 r.1.length y.2) (fun r y => [Row 5 1 y.1 r.1.length y.2 (encB r.1), obj bp1 194 [.slice ap1_0 xp1_0.length cp1_0, .int .i64 r.2.1, .int .i64 r.2.2], obj bp0 146 [.pointer (some ⟨bp1, 0, none⟩)], obj bp2 3 [.int .i64 xp2_0]]) := by
 unfold codec_each_Entry_1_s.f
 refine fn_intro 6 Try.func133 rfl Try.ntmps133 rfl ?_
 refine sim_seq (sim_region ?_)
 refine simL_val (q_asg rfl rfl) rfl rfl rfl (simL_nil (nrm_then (sim_seq (sim_region ?_))))
 refine simL_val (q_load rfl rfl Try.isAgg146 (.obj 1 rfl rfl)) rfl rfl rfl ?_
 refine simL_val (q_load rfl rfl Try.isAgg3 (.obj 2 rfl rfl)) rfl rfl rfl ?_
 refine simL_bind (fun s1v hs3v => ?_)
 refine simL_eff (re_call (vs := [.pointer (some ⟨bp1, 0, none⟩), .int .i64 xp2_0]) (cap := []) (A := [obj bp1 194 [.slice ap1_0 xp1_0.length cp1_0, .int .i64 xp1_1, .int .i64 xp1_2]]) (rst := [obj bp0 146 [.pointer (some ⟨bp1, 0, none⟩)], obj bp2 3 [.int .i64 xp2_0], F]) rfl rfl rfl rfl rfl rfl Try.call90 (.sel 0 rfl (.sel 0 rfl (.sel 0 rfl (.sel 0 rfl (.nil _))))) (wire_Reader_Bytes.calls _ _ k bp1 ap1_0 cp1_0 xp1_0 xp1_1 xp1_2 xp2_0 (hp1_0.lend 2 rfl) hcp1_0 hmp1_0) hs3v) rfl rfl rfl ?_
 intro y2v
 refine simL_val (q_asg rfl rfl) rfl rfl rfl (simL_nil (nrm_then (sim_rtn ?_)))
 exact rtn_fn (y2v.1, y2v.2) rfl rfl rfl (.sel 0 rfl (.sel 0 rfl (.sel 0 rfl (.sel 0 rfl (.sel 0 rfl (.nil _))))))

def codec_moved__byte_codec_each_Entry_1.f (k : Nat) (xp0_0 : List UInt8) (xp0_1 : Int) (xp0_2 : Int) (xp2_0 : Int) : Option (List UInt8 × Bool × Int × Int) := (wire_Reader_At.f xp0_0 xp0_1 xp0_2).bind fun s1v => ((codec_each_Entry_1_s.f k xp0_0 xp0_1 xp0_2 xp2_0).bind fun s4v => ((wire_Reader_At.f xp0_0 s4v.2.1 s4v.2.2).bind fun s7v => (some (s4v.1, decide (s1v < s7v), s4v.2.1, s4v.2.2))))
theorem codec_moved__byte_codec_each_Entry_1.calls (W : World) (F : HA) (k : Nat) (bp0 : Nat) (ap0_0 : Option Addr) (cp0_0 : Nat) (xp0_0 : List UInt8) (xp0_1 : Int) (xp0_2 : Int) (bp1 : Nat) (bp2 : Nat) (xp2_0 : Int) (hp0_0 : Rd F ap0_0 (encB xp0_0)) (hcp0_0 : xp0_0.length ≤ cp0_0) (hmp0_0 : cp0_0 ≤ maxLen) :
    Fn Try.prog W 113 [.pointer (some ⟨bp0, 0, none⟩), .func (.func 133) #[] #[.pointer (some ⟨bp1, 0, none⟩), .pointer (some ⟨bp2, 0, none⟩)]] [obj bp0 194 [.slice ap0_0 xp0_0.length cp0_0, .int .i64 xp0_1, .int .i64 xp0_2], obj bp1 146 [.pointer (some ⟨bp0, 0, none⟩)], obj bp2 3 [.int .i64 xp2_0]] F (codec_moved__byte_codec_each_Entry_1.f k xp0_0 xp0_1 xp0_2 xp2_0) (fun (r : List UInt8 × Bool × Int × Int) (y : Option Addr × Nat) => .tuple #[.slice y.1 r.1.length y.2, .bool r.2.1]) (fun r y => [Row 5 1 y.1 r.1.length y.2 (encB r.1), obj bp0 194 [.slice ap0_0 xp0_0.length cp0_0, .int .i64 r.2.2.1, .int .i64 r.2.2.2], obj bp1 146 [.pointer (some ⟨bp0, 0, none⟩)], obj bp2 3 [.int .i64 xp2_0]]) := by
 unfold codec_moved__byte_codec_each_Entry_1.f
 refine fn_intro 17 Try.func113 rfl Try.ntmps113 rfl ?_
 refine sim_seq (sim_region ?_)
 refine simL_val (q_asg rfl rfl) rfl rfl rfl ?_
 refine simL_val (q_asg rfl rfl) rfl rfl rfl (simL_nil (nrm_then (sim_seq (sim_region ?_))))
 refine simL_val (q_move rfl rfl) rfl rfl rfl ?_
 refine simL_bind (fun s1v hs3v => ?_)
 refine simL_eff (re_call (vs := [.pointer (some ⟨bp0, 0, none⟩)]) (cap := []) (A := [obj bp0 194 [.slice ap0_0 xp0_0.length cp0_0, .int .i64 xp0_1, .int .i64 xp0_2]]) (rst := [obj bp1 146 [.pointer (some ⟨bp0, 0, none⟩)], obj bp2 3 [.int .i64 xp2_0], F]) rfl rfl rfl rfl rfl rfl Try.call132 (.sel 0 rfl (.sel 0 rfl (.sel 0 rfl (.sel 0 rfl (.nil _))))) (wire_Reader_At.calls _ _ bp0 ap0_0 cp0_0 xp0_0 xp0_1 xp0_2 (hp0_0.lend 2 rfl) hcp0_0 hmp0_0) hs3v) rfl rfl rfl ?_
 intro y2v
 refine simL_val (q_asg rfl rfl) rfl rfl rfl (simL_nil (nrm_then (sim_seq (sim_region ?_))))
 refine simL_val (q_move rfl rfl) rfl rfl rfl ?_
 refine simL_bind (fun s4v hs6v => ?_)
 refine simL_eff (re_call (vs := []) (cap := [.pointer (some ⟨bp1, 0, none⟩), .pointer (some ⟨bp2, 0, none⟩)]) (A := [obj bp0 194 [.slice ap0_0 xp0_0.length cp0_0, .int .i64 xp0_1, .int .i64 xp0_2], obj bp1 146 [.pointer (some ⟨bp0, 0, none⟩)], obj bp2 3 [.int .i64 xp2_0]]) (rst := [F]) rfl rfl rfl rfl rfl rfl Try.call133 (.sel 0 rfl (.sel 0 rfl (.sel 0 rfl (.sel 0 rfl (.nil _))))) (codec_each_Entry_1_s.calls _ _ k bp1 bp0 ap0_0 cp0_0 xp0_0 xp0_1 xp0_2 bp2 xp2_0 (hp0_0.lend 0 rfl) hcp0_0 hmp0_0) hs6v) rfl rfl rfl ?_
 intro y5v
 refine simL_val (q_asg rfl rfl) rfl rfl rfl (simL_nil (nrm_then (sim_seq (sim_region ?_))))
 refine simL_val (q_move rfl rfl) rfl rfl rfl ?_
 refine simL_val (q_move rfl rfl) rfl rfl rfl ?_
 refine simL_bind (fun s7v hs9v => ?_)
 refine simL_eff (re_call (vs := [.pointer (some ⟨bp0, 0, none⟩)]) (cap := []) (A := [obj bp0 194 [.slice ap0_0 xp0_0.length cp0_0, .int .i64 s4v.2.1, .int .i64 s4v.2.2]]) (rst := [Row 5 1 y5v.1 s4v.1.length y5v.2 (encB s4v.1), obj bp1 146 [.pointer (some ⟨bp0, 0, none⟩)], obj bp2 3 [.int .i64 xp2_0], F]) rfl rfl rfl rfl rfl rfl Try.call132 (.sel 1 rfl (.sel 0 rfl (.sel 0 rfl (.sel 0 rfl (.sel 0 rfl (.nil _)))))) (wire_Reader_At.calls _ _ bp0 ap0_0 cp0_0 xp0_0 s4v.2.1 s4v.2.2 (hp0_0.lend 3 rfl) hcp0_0 hmp0_0) hs9v) rfl rfl rfl ?_
 intro y8v
 refine simL_val (q_move rfl rfl) rfl rfl rfl ?_
 refine simL_val (q_gtr rfl rfl rfl) rfl rfl rfl ?_
 refine simL_val (q_asg rfl rfl) rfl rfl rfl ?_
 refine simL_val (q_asg rfl rfl) rfl rfl rfl (simL_nil (nrm_then (sim_rtn ?_)))
 exact rtn_fn (y5v.1, y5v.2) rfl rfl rfl (.sel 1 rfl (.sel 0 rfl (.sel 0 rfl (.sel 0 rfl (.sel 0 rfl (.nil _))))))

def codec_last_Entry_Entries.f (xp0_0 : List UInt8) (xp0_1 : Int) (xp0_2 : Int) (x2_0 : Int) (x2_1 : Int) (x2_2 : Int) (x2_3 : List UInt8) : Option (Int × Int × Int × List UInt8 × Int) := (wire_Reader_Done.f xp0_0 xp0_1 xp0_2).bind fun s3v => ((if s3v = (0 : Int) then ((codec_Entries_Check.f x2_0 x2_1 x2_2 x2_3).bind fun s10v => (some s10v)) else (some s3v)).bind fun s6v => (if s6v = (0 : Int) then (some (x2_0, x2_1, x2_2, x2_3, 0)) else (some (0, 0, 0, ([] : List UInt8), s6v))))
theorem codec_last_Entry_Entries.calls (W : World) (F : HA) (G : HA) (hG : Up G F) (bp0 : Nat) (ap0_0 : Option Addr) (cp0_0 : Nat) (xp0_0 : List UInt8) (xp0_1 : Int) (xp0_2 : Int) (x2_0 : Int) (x2_1 : Int) (x2_2 : Int) (a2_3 : Option Addr) (c2_3 : Nat) (x2_3 : List UInt8) (hp0_0 : Rd G ap0_0 (encB xp0_0)) (hcp0_0 : xp0_0.length ≤ cp0_0) (hmp0_0 : cp0_0 ≤ maxLen) (h2_3 : Rd G a2_3 (encB x2_3)) (hc2_3 : x2_3.length ≤ c2_3) (hm2_3 : c2_3 ≤ maxLen) :
    Fn Try.prog W 91 [.pointer (some ⟨bp0, 0, none⟩), .iface 62 (.agg #[]), .agg #[.int .i64 x2_0, .int .i64 x2_1, .int .i64 x2_2, .slice a2_3 x2_3.length c2_3]] [obj bp0 194 [.slice ap0_0 xp0_0.length cp0_0, .int .i64 xp0_1, .int .i64 xp0_2]] F (codec_last_Entry_Entries.f xp0_0 xp0_1 xp0_2 x2_0 x2_1 x2_2 x2_3) (fun (r : Int × Int × Int × List UInt8 × Int) (y : Option Addr × Nat) => .tuple #[.agg #[.int .i64 r.1, .int .i64 r.2.1, .int .i64 r.2.2.1, .slice y.1 r.2.2.2.1.length y.2], .int .i64 r.2.2.2.2]) (fun r y => [pr (Rd (G) y.1 (encB r.2.2.2.1) ∧ r.2.2.2.1.length ≤ y.2 ∧ y.2 ≤ maxLen), obj bp0 194 [.slice ap0_0 xp0_0.length cp0_0, .int .i64 xp0_1, .int .i64 xp0_2]]) := by
 unfold codec_last_Entry_Entries.f
 refine fn_intro 22 Try.func91 rfl Try.ntmps91 rfl ?_
 refine sim_seq (sim_region ?_)
 refine simL_eff (re_box rfl rfl rfl) rfl rfl rfl ?_
 intro b1v
 refine simL_eff (re_alloc rfl Try.zeroValue61 rfl) rfl rfl rfl ?_
 intro b2v
 refine simL_val (q_asg rfl rfl) rfl rfl rfl (simL_nil (nrm_then (sim_seq (sim_region ?_))))
 refine simL_val (q_move rfl rfl) rfl rfl rfl ?_
 refine simL_bind (fun s3v hs5v => ?_)
 refine simL_eff (re_call (vs := [.pointer (some ⟨bp0, 0, none⟩)]) (cap := []) (A := [obj bp0 194 [.slice ap0_0 xp0_0.length cp0_0, .int .i64 xp0_1, .int .i64 xp0_2]]) (rst := [obj b2v 61 [.int .i64 0, .int .i64 0, .int .i64 0, .slice none 0 0], obj b1v 61 [.int .i64 x2_0, .int .i64 x2_1, .int .i64 x2_2, .slice a2_3 x2_3.length c2_3], F]) rfl rfl rfl rfl rfl rfl Try.call124 (.sel 2 rfl (.sel 0 rfl (.sel 0 rfl (.sel 0 rfl (.nil _))))) (wire_Reader_Done.calls _ _ bp0 ap0_0 cp0_0 xp0_0 xp0_1 xp0_2 ((hp0_0.up hG).lend 2 rfl) hcp0_0 hmp0_0) hs5v) rfl rfl rfl ?_
 intro y4v
 refine simL_val (q_asg rfl rfl) rfl rfl rfl (simL_nil (nrm_then ?_))
 refine sim_cut (S := Int) (Unit) (fun s y => [(5, .pointer (some ⟨b1v, 0, none⟩)), (6, .pointer (some ⟨b2v, 0, none⟩)), (8, .int .i64 s)]) (fun s y => [obj bp0 194 [.slice ap0_0 xp0_0.length cp0_0, .int .i64 xp0_1, .int .i64 xp0_2], obj b2v 61 [.int .i64 0, .int .i64 0, .int .i64 0, .slice none 0 0], obj b1v 61 [.int .i64 x2_0, .int .i64 x2_1, .int .i64 x2_2, .slice a2_3 x2_3.length c2_3], F]) ?_ ?_
 refine sim_seq (sim_region ?_)
 refine simL_val (q_move rfl rfl) rfl rfl rfl ?_
 refine simL_val (q_eql rfl rfl rfl) rfl rfl rfl (simL_nil (nrm_then ?_))
 refine sim_cond rfl (fun h8v => ?_) (fun h9v => ?_)
 refine sim_region ?_
 refine simL_val (q_move rfl rfl) rfl rfl rfl ?_
 refine simL_val (q_loado 2 rfl rfl Try.isAgg61 Try.sizeOf61 rfl rfl) rfl rfl rfl ?_
 refine simL_bind (fun s10v hs12v => ?_)
 refine simL_eff (re_invoke (vs := [.agg #[.int .i64 x2_0, .int .i64 x2_1, .int .i64 x2_2, .slice a2_3 x2_3.length c2_3]]) (A := []) (rst := [obj bp0 194 [.slice ap0_0 xp0_0.length cp0_0, .int .i64 xp0_1, .int .i64 xp0_2], obj b2v 61 [.int .i64 0, .int .i64 0, .int .i64 0, .slice none 0 0], obj b1v 61 [.int .i64 x2_0, .int .i64 x2_1, .int .i64 x2_2, .slice a2_3 x2_3.length c2_3], F]) rfl rfl rfl rfl rfl (fun _ => by kernel_rfl) Try.call34 (.sel 0 rfl (.sel 0 rfl (.sel 0 rfl (.sel 0 rfl (.nil _))))) (codec_Entries_Check.calls _ _ x2_0 x2_1 x2_2 a2_3 c2_3 x2_3 ((h2_3.up hG).lend 3 rfl) hc2_3 hm2_3) hs12v) rfl rfl rfl ?_
 intro y11v
 refine simL_val (q_asg rfl rfl) rfl rfl rfl (simL_nil ?_)
 exact nrm_cut (s := s10v) () ⟨rfl, rfl, rfl, trivial⟩ (.sel 0 rfl (.sel 0 rfl (.sel 0 rfl (.sel 0 rfl (.nil _)))))
 refine sim_skip ?_
 exact nrm_cut (s := s3v) () ⟨rfl, rfl, rfl, trivial⟩ (.sel 0 rfl (.sel 0 rfl (.sel 0 rfl (.sel 0 rfl (.nil _)))))
 intro s6v y7v
 refine sim_seq (sim_seq (sim_region ?_))
 refine simL_val (q_move rfl rfl) rfl rfl rfl ?_
 refine simL_val (q_neq rfl rfl rfl) rfl rfl rfl (simL_nil (nrm_then ?_))
 refine sim_condn rfl (fun h13v => ?_) (fun h14v => ?_)
 refine sim_skip ?_
 refine nrm_then (sim_seq (sim_region ?_))
 refine simL_val (q_loado 2 rfl rfl Try.isAgg61 Try.sizeOf61 rfl rfl) rfl rfl rfl ?_
 refine simL_do (re_store 1 rfl rfl rfl Try.sizeOf61 rfl rfl (one_of (by rfl)) rfl rfl) rfl rfl ?_
 intro _
 refine simL_val (q_asg rfl rfl) rfl rfl rfl (simL_nil (nrm_then (sim_rtn ?_)))
 exact rtn_fnC (vs := [.agg #[.int .i64 x2_0, .int .i64 x2_1, .int .i64 x2_2, .slice a2_3 x2_3.length c2_3], .int .i64 0]) (a2_3, c2_3) rfl ⟨⟨b2v, rfl, load_agg 1 Try.isAgg61 Try.sizeOf61 rfl rfl⟩, rfl, trivial⟩ rfl (.pr_in ⟨h2_3, hc2_3, hm2_3⟩ (.sel 0 rfl (.sel 2 rfl (.nil _))))
 refine sim_seq (sim_region ?_)
 refine simL_eff (re_alloc rfl Try.zeroValue61 rfl) rfl rfl rfl ?_
 intro b15v
 refine simL_nil (nrm_then (sim_seq (sim_region ?_)))
 refine simL_val (q_loado 0 rfl rfl Try.isAgg61 Try.sizeOf61 rfl rfl) rfl rfl rfl ?_
 refine simL_val (q_move rfl rfl) rfl rfl rfl ?_
 refine simL_do (re_store 2 rfl rfl rfl Try.sizeOf61 rfl rfl (one_of (by rfl)) rfl rfl) rfl rfl ?_
 intro _
 refine simL_val (q_asg rfl rfl) rfl rfl rfl (simL_nil (nrm_then (sim_rtn ?_)))
 refine rtn_then ?_
 exact rtn_fnC (vs := [.agg #[.int .i64 0, .int .i64 0, .int .i64 0, .slice none 0 0], .int .i64 s6v]) (none, 0) rfl ⟨⟨b2v, rfl, load_agg 2 Try.isAgg61 Try.sizeOf61 rfl rfl⟩, rfl, trivial⟩ rfl (.pr_in ⟨Rd.nil _ _, Nat.le_refl _, Nat.zero_le _⟩ (.sel 1 rfl (.sel 3 rfl (.nil _))))
def codec_last_Entry_Entries.v (xp0_0 : List UInt8) (xp0_1 : Int) (xp0_2 : Int) (x2_0 : Int) (x2_1 : Int) (x2_2 : Int) (x2_3 : List UInt8) : Int × Int × Int × List UInt8 × Int := (codec_last_Entry_Entries.f xp0_0 xp0_1 xp0_2 x2_0 x2_1 x2_2 x2_3).getD (0, 0, 0, [], 0)
theorem codec_last_Entry_Entries.tot (xp0_0 : List UInt8) (xp0_1 : Int) (xp0_2 : Int) (x2_0 : Int) (x2_1 : Int) (x2_2 : Int) (x2_3 : List UInt8) : codec_last_Entry_Entries.f xp0_0 xp0_1 xp0_2 x2_0 x2_1 x2_2 x2_3 = some (codec_last_Entry_Entries.v xp0_0 xp0_1 xp0_2 x2_0 x2_1 x2_2 x2_3) := by
  have h : ∃ r, codec_last_Entry_Entries.f xp0_0 xp0_1 xp0_2 x2_0 x2_1 x2_2 x2_3 = some r := by
    unfold codec_last_Entry_Entries.f
    repeat' (first | exact ⟨_, rfl⟩ | split | simp only [Option.bind_some, wire_Reader_Done.tot, codec_Entries_Check.tot])
  obtain ⟨r, h⟩ := h
  unfold codec_last_Entry_Entries.v
  rw [h]; rfl

def codec_last_Entry_Entries_c2.f (xp0_0 : List UInt8) (xp0_1 : Int) (xp0_2 : Int) (x2_0 : Int) (x2_1 : Int) (x2_2 : Int) (x2_3 : List UInt8) : Option (Int × Int × Int × List UInt8 × Int) := (wire_Reader_Done.f xp0_0 xp0_1 xp0_2).bind fun s3v => ((if s3v = (0 : Int) then ((codec_Entries_Check.f x2_0 x2_1 x2_2 x2_3).bind fun s14v => (some s14v)) else (some s3v)).bind fun s6v => (if s6v = (0 : Int) then (some (x2_0, x2_1, x2_2, x2_3, 0)) else (some (0, 0, 0, ([] : List UInt8), s6v))))
theorem codec_last_Entry_Entries_c2.calls (W : World) (F : HA) (bp0 : Nat) (ap0_0 : Option Addr) (cp0_0 : Nat) (xp0_0 : List UInt8) (xp0_1 : Int) (xp0_2 : Int) (x2_0 : Int) (x2_1 : Int) (x2_2 : Int) (a2_3 : Option Addr) (c2_3 : Nat) (x2_3 : List UInt8) (hp0_0 : Rd F ap0_0 (encB xp0_0)) (hcp0_0 : xp0_0.length ≤ cp0_0) (hmp0_0 : cp0_0 ≤ maxLen) :
    Fn Try.prog W 91 [.pointer (some ⟨bp0, 0, none⟩), .iface 62 (.agg #[]), .agg #[.int .i64 x2_0, .int .i64 x2_1, .int .i64 x2_2, .slice a2_3 x2_3.length c2_3]] [obj bp0 194 [.slice ap0_0 xp0_0.length cp0_0, .int .i64 xp0_1, .int .i64 xp0_2], Row 5 1 a2_3 x2_3.length c2_3 (encB x2_3)] F (codec_last_Entry_Entries_c2.f xp0_0 xp0_1 xp0_2 x2_0 x2_1 x2_2 x2_3) (fun (r : Int × Int × Int × List UInt8 × Int) (y : Option Addr × Nat) => .tuple #[.agg #[.int .i64 r.1, .int .i64 r.2.1, .int .i64 r.2.2.1, .slice y.1 r.2.2.2.1.length y.2], .int .i64 r.2.2.2.2]) (fun r y => [Row 5 1 y.1 r.2.2.2.1.length y.2 (encB r.2.2.2.1), obj bp0 194 [.slice ap0_0 xp0_0.length cp0_0, .int .i64 xp0_1, .int .i64 xp0_2]]) := by
 unfold codec_last_Entry_Entries_c2.f
 refine fn_intro 22 Try.func91 rfl Try.ntmps91 rfl ?_
 refine sim_seq (sim_region ?_)
 refine simL_eff (re_box rfl rfl rfl) rfl rfl rfl ?_
 intro b1v
 refine simL_eff (re_alloc rfl Try.zeroValue61 rfl) rfl rfl rfl ?_
 intro b2v
 refine simL_val (q_asg rfl rfl) rfl rfl rfl (simL_nil (nrm_then (sim_seq (sim_region ?_))))
 refine simL_val (q_move rfl rfl) rfl rfl rfl ?_
 refine simL_bind (fun s3v hs5v => ?_)
 refine simL_eff (re_call (vs := [.pointer (some ⟨bp0, 0, none⟩)]) (cap := []) (A := [obj bp0 194 [.slice ap0_0 xp0_0.length cp0_0, .int .i64 xp0_1, .int .i64 xp0_2]]) (rst := [obj b2v 61 [.int .i64 0, .int .i64 0, .int .i64 0, .slice none 0 0], obj b1v 61 [.int .i64 x2_0, .int .i64 x2_1, .int .i64 x2_2, .slice a2_3 x2_3.length c2_3], Row 5 1 a2_3 x2_3.length c2_3 (encB x2_3), F]) rfl rfl rfl rfl rfl rfl Try.call124 (.sel 2 rfl (.sel 0 rfl (.sel 0 rfl (.sel 0 rfl (.sel 0 rfl (.nil _)))))) (wire_Reader_Done.calls _ _ bp0 ap0_0 cp0_0 xp0_0 xp0_1 xp0_2 (hp0_0.lend 3 rfl) hcp0_0 hmp0_0) hs5v) rfl rfl rfl ?_
 intro y4v
 refine simL_val (q_asg rfl rfl) rfl rfl rfl (simL_nil (nrm_then ?_))
 refine sim_cut (S := Int) (Unit) (fun s y => [(5, .pointer (some ⟨b1v, 0, none⟩)), (6, .pointer (some ⟨b2v, 0, none⟩)), (8, .int .i64 s)]) (fun s y => [obj bp0 194 [.slice ap0_0 xp0_0.length cp0_0, .int .i64 xp0_1, .int .i64 xp0_2], obj b2v 61 [.int .i64 0, .int .i64 0, .int .i64 0, .slice none 0 0], obj b1v 61 [.int .i64 x2_0, .int .i64 x2_1, .int .i64 x2_2, .slice a2_3 x2_3.length c2_3], Row 5 1 a2_3 x2_3.length c2_3 (encB x2_3), F]) ?_ ?_
 refine sim_seq (sim_region ?_)
 refine simL_val (q_move rfl rfl) rfl rfl rfl ?_
 refine simL_val (q_eql rfl rfl rfl) rfl rfl rfl (simL_nil (nrm_then ?_))
 refine sim_cond rfl (fun h8v => ?_) (fun h9v => ?_)
 refine sim_region ?_
 refine simL_val (q_move rfl rfl) rfl rfl rfl ?_
 refine simL_val (q_loado 2 rfl rfl Try.isAgg61 Try.sizeOf61 rfl rfl) rfl rfl rfl ?_
 refine simL_bind (fun s14v hs16v => ?_)
 refine simL_lend 3 rfl (fun hq10v hq11v hq12v hq13v => ?_)
 refine simL_eff (re_invoke (vs := [.agg #[.int .i64 x2_0, .int .i64 x2_1, .int .i64 x2_2, .slice a2_3 x2_3.length c2_3]]) (A := []) (rst := [obj bp0 194 [.slice ap0_0 xp0_0.length cp0_0, .int .i64 xp0_1, .int .i64 xp0_2], obj b2v 61 [.int .i64 0, .int .i64 0, .int .i64 0, .slice none 0 0], obj b1v 61 [.int .i64 x2_0, .int .i64 x2_1, .int .i64 x2_2, .slice a2_3 x2_3.length c2_3], Row 5 1 a2_3 x2_3.length c2_3 (encB x2_3), F]) rfl rfl rfl rfl rfl (fun _ => by kernel_rfl) Try.call34 (.sel 0 rfl (.sel 0 rfl (.sel 0 rfl (.sel 0 rfl (.sel 0 rfl (.nil _)))))) (codec_Entries_Check.calls _ _ x2_0 x2_1 x2_2 a2_3 c2_3 x2_3 (hq10v.lend 3 rfl) hq11v hq12v) hs16v) rfl rfl rfl ?_
 intro y15v
 refine simL_val (q_asg rfl rfl) rfl rfl rfl (simL_nil ?_)
 exact nrm_cut (s := s14v) () ⟨rfl, rfl, rfl, trivial⟩ (.sel 0 rfl (.sel 0 rfl (.sel 0 rfl (.sel 0 rfl (.sel 0 rfl (.nil _))))))
 refine sim_skip ?_
 exact nrm_cut (s := s3v) () ⟨rfl, rfl, rfl, trivial⟩ (.sel 0 rfl (.sel 0 rfl (.sel 0 rfl (.sel 0 rfl (.sel 0 rfl (.nil _))))))
 intro s6v y7v
 refine sim_seq (sim_seq (sim_region ?_))
 refine simL_val (q_move rfl rfl) rfl rfl rfl ?_
 refine simL_val (q_neq rfl rfl rfl) rfl rfl rfl (simL_nil (nrm_then ?_))
 refine sim_condn rfl (fun h17v => ?_) (fun h18v => ?_)
 refine sim_skip ?_
 refine nrm_then (sim_seq (sim_region ?_))
 refine simL_val (q_loado 2 rfl rfl Try.isAgg61 Try.sizeOf61 rfl rfl) rfl rfl rfl ?_
 refine simL_do (re_store 1 rfl rfl rfl Try.sizeOf61 rfl rfl (one_of (by rfl)) rfl rfl) rfl rfl ?_
 intro _
 refine simL_val (q_asg rfl rfl) rfl rfl rfl (simL_nil (nrm_then (sim_rtn ?_)))
 exact rtn_fnC (vs := [.agg #[.int .i64 x2_0, .int .i64 x2_1, .int .i64 x2_2, .slice a2_3 x2_3.length c2_3], .int .i64 0]) (a2_3, c2_3) rfl ⟨⟨b2v, rfl, load_agg 1 Try.isAgg61 Try.sizeOf61 rfl rfl⟩, rfl, trivial⟩ rfl (.sel 3 rfl (.sel 0 rfl (.sel 2 rfl (.nil _))))
 refine sim_seq (sim_region ?_)
 refine simL_eff (re_alloc rfl Try.zeroValue61 rfl) rfl rfl rfl ?_
 intro b19v
 refine simL_nil (nrm_then (sim_seq (sim_region ?_)))
 refine simL_val (q_loado 0 rfl rfl Try.isAgg61 Try.sizeOf61 rfl rfl) rfl rfl rfl ?_
 refine simL_val (q_move rfl rfl) rfl rfl rfl ?_
 refine simL_do (re_store 2 rfl rfl rfl Try.sizeOf61 rfl rfl (one_of (by rfl)) rfl rfl) rfl rfl ?_
 intro _
 refine simL_val (q_asg rfl rfl) rfl rfl rfl (simL_nil (nrm_then (sim_rtn ?_)))
 refine rtn_then ?_
 exact rtn_fnC (vs := [.agg #[.int .i64 0, .int .i64 0, .int .i64 0, .slice none 0 0], .int .i64 s6v]) (none, 0) rfl ⟨⟨b2v, rfl, load_agg 2 Try.isAgg61 Try.sizeOf61 rfl rfl⟩, rfl, trivial⟩ rfl (.row_nil (.sel 1 rfl (.sel 4 rfl (.nil _))))
def codec_last_Entry_Entries_c2.v (xp0_0 : List UInt8) (xp0_1 : Int) (xp0_2 : Int) (x2_0 : Int) (x2_1 : Int) (x2_2 : Int) (x2_3 : List UInt8) : Int × Int × Int × List UInt8 × Int := (codec_last_Entry_Entries_c2.f xp0_0 xp0_1 xp0_2 x2_0 x2_1 x2_2 x2_3).getD (0, 0, 0, [], 0)
theorem codec_last_Entry_Entries_c2.tot (xp0_0 : List UInt8) (xp0_1 : Int) (xp0_2 : Int) (x2_0 : Int) (x2_1 : Int) (x2_2 : Int) (x2_3 : List UInt8) : codec_last_Entry_Entries_c2.f xp0_0 xp0_1 xp0_2 x2_0 x2_1 x2_2 x2_3 = some (codec_last_Entry_Entries_c2.v xp0_0 xp0_1 xp0_2 x2_0 x2_1 x2_2 x2_3) := by
  have h : ∃ r, codec_last_Entry_Entries_c2.f xp0_0 xp0_1 xp0_2 x2_0 x2_1 x2_2 x2_3 = some r := by
    unfold codec_last_Entry_Entries_c2.f
    repeat' (first | exact ⟨_, rfl⟩ | split | simp only [Option.bind_some, wire_Reader_Done.tot, codec_Entries_Check.tot])
  obtain ⟨r, h⟩ := h
  unfold codec_last_Entry_Entries_c2.v
  rw [h]; rfl

def codec_Entries_Get.f (k : Nat) (x1 : List UInt8) : Option (Int × Int × Int × List UInt8 × Int) := (wire_NewReader.f x1).bind fun s3v => ((wire_Reader_Int.f k s3v.1 s3v.2.1 s3v.2.2).bind fun s10v => ((wire_Reader_Int.f k s3v.1 s10v.2.1 s10v.2.2).bind fun s17v => ((wire_Reader_Int.f k s3v.1 s17v.2.1 s17v.2.2).bind fun s24v => ((wire_Reader_Bytes.f k s3v.1 s24v.2.1 s24v.2.2 (4096 : Int)).bind fun s31v => ((codec_last_Entry_Entries_c2.f s3v.1 s31v.2.1 s31v.2.2 s10v.1 s17v.1 s24v.1 s31v.1).bind fun s39v => (some (s39v.1, s39v.2.1, s39v.2.2.1, s39v.2.2.2.1, s39v.2.2.2.2)))))))
theorem codec_Entries_Get.calls (W : World) (F : HA) (k : Nat) (a1 : Option Addr) (c1 : Nat) (x1 : List UInt8) (h1 : Rd F a1 (encB x1)) (hc1 : x1.length ≤ c1) (hm1 : c1 ≤ maxLen) :
    Fn Try.prog W 36 [.agg #[], .slice a1 x1.length c1] [] F (codec_Entries_Get.f k x1) (fun (r : Int × Int × Int × List UInt8 × Int) (y : Option Addr × Nat) => .tuple #[.agg #[.int .i64 r.1, .int .i64 r.2.1, .int .i64 r.2.2.1, .slice y.1 r.2.2.2.1.length y.2], .int .i64 r.2.2.2.2]) (fun r y => [Row 5 1 y.1 r.2.2.2.1.length y.2 (encB r.2.2.2.1)]) := by
 unfold codec_Entries_Get.f
 refine fn_intro 26 Try.func36 rfl Try.ntmps36 rfl ?_
 refine sim_seq (sim_region ?_)
 refine simL_eff (re_box rfl rfl rfl) rfl rfl rfl ?_
 intro b1v
 refine simL_eff (re_alloc rfl Try.zeroValue61 rfl) rfl rfl rfl ?_
 intro b2v
 refine simL_val (q_asg rfl rfl) rfl rfl rfl (simL_nil (nrm_then (sim_seq (sim_region ?_))))
 refine simL_val (q_move rfl rfl) rfl rfl rfl ?_
 refine simL_bind (fun s3v hs5v => ?_)
 refine simL_eff (re_call (vs := [.slice a1 x1.length c1]) (cap := []) (A := []) (rst := [obj b2v 61 [.int .i64 0, .int .i64 0, .int .i64 0, .slice none 0 0], obj b1v 62 [], F]) rfl rfl rfl rfl rfl rfl Try.call82 (.sel 0 rfl (.sel 0 rfl (.sel 0 rfl (.nil _)))) (wire_NewReader.calls _ _ a1 c1 x1 (h1.lend 2 rfl) hc1 hm1) hs5v) rfl rfl rfl ?_
 intro y4v
 refine simL_val (q_asg rfl rfl) rfl rfl rfl (simL_nil (nrm_then (sim_seq (sim_region ?_))))
 refine simL_val (q_move rfl rfl) rfl rfl rfl ?_
 refine simL_bind (fun s10v hs12v => ?_)
 refine simL_lend 1 rfl (fun hq6v hq7v hq8v hq9v => ?_)
 refine simL_eff (re_call (vs := [.pointer (some ⟨y4v.1, 0, none⟩)]) (cap := []) (A := [obj y4v.1 194 [.slice y4v.2.1 s3v.1.length y4v.2.2, .int .i64 s3v.2.1, .int .i64 s3v.2.2]]) (rst := [Row 5 1 y4v.2.1 s3v.1.length y4v.2.2 (encB s3v.1), obj b2v 61 [.int .i64 0, .int .i64 0, .int .i64 0, .slice none 0 0], obj b1v 62 [], F]) rfl rfl rfl rfl rfl rfl Try.call83 (.sel 0 rfl (.sel 0 rfl (.sel 0 rfl (.sel 0 rfl (.sel 0 rfl (.nil _)))))) (wire_Reader_Int.calls _ _ k y4v.1 y4v.2.1 y4v.2.2 s3v.1 s3v.2.1 s3v.2.2 (hq6v.lend 0 rfl) hq7v hq8v) hs12v) rfl rfl rfl ?_
 intro y11v
 refine simL_val (q_move rfl rfl) rfl rfl rfl ?_
 refine simL_bind (fun s17v hs19v => ?_)
 refine simL_lend 1 rfl (fun hq13v hq14v hq15v hq16v => ?_)
 refine simL_eff (re_call (vs := [.pointer (some ⟨y4v.1, 0, none⟩)]) (cap := []) (A := [obj y4v.1 194 [.slice y4v.2.1 s3v.1.length y4v.2.2, .int .i64 s10v.2.1, .int .i64 s10v.2.2]]) (rst := [Row 5 1 y4v.2.1 s3v.1.length y4v.2.2 (encB s3v.1), obj b2v 61 [.int .i64 0, .int .i64 0, .int .i64 0, .slice none 0 0], obj b1v 62 [], F]) rfl rfl rfl rfl rfl rfl Try.call83 (.sel 0 rfl (.sel 0 rfl (.sel 0 rfl (.sel 0 rfl (.sel 0 rfl (.nil _)))))) (wire_Reader_Int.calls _ _ k y4v.1 y4v.2.1 y4v.2.2 s3v.1 s10v.2.1 s10v.2.2 (hq13v.lend 0 rfl) hq14v hq15v) hs19v) rfl rfl rfl ?_
 intro y18v
 refine simL_val (q_move rfl rfl) rfl rfl rfl ?_
 refine simL_bind (fun s24v hs26v => ?_)
 refine simL_lend 1 rfl (fun hq20v hq21v hq22v hq23v => ?_)
 refine simL_eff (re_call (vs := [.pointer (some ⟨y4v.1, 0, none⟩)]) (cap := []) (A := [obj y4v.1 194 [.slice y4v.2.1 s3v.1.length y4v.2.2, .int .i64 s17v.2.1, .int .i64 s17v.2.2]]) (rst := [Row 5 1 y4v.2.1 s3v.1.length y4v.2.2 (encB s3v.1), obj b2v 61 [.int .i64 0, .int .i64 0, .int .i64 0, .slice none 0 0], obj b1v 62 [], F]) rfl rfl rfl rfl rfl rfl Try.call83 (.sel 0 rfl (.sel 0 rfl (.sel 0 rfl (.sel 0 rfl (.sel 0 rfl (.nil _)))))) (wire_Reader_Int.calls _ _ k y4v.1 y4v.2.1 y4v.2.2 s3v.1 s17v.2.1 s17v.2.2 (hq20v.lend 0 rfl) hq21v hq22v) hs26v) rfl rfl rfl ?_
 intro y25v
 refine simL_val (q_move rfl rfl) rfl rfl rfl ?_
 refine simL_bind (fun s31v hs33v => ?_)
 refine simL_lend 1 rfl (fun hq27v hq28v hq29v hq30v => ?_)
 refine simL_eff (re_call (vs := [.pointer (some ⟨y4v.1, 0, none⟩), .int .i64 4096]) (cap := []) (A := [obj y4v.1 194 [.slice y4v.2.1 s3v.1.length y4v.2.2, .int .i64 s24v.2.1, .int .i64 s24v.2.2]]) (rst := [Row 5 1 y4v.2.1 s3v.1.length y4v.2.2 (encB s3v.1), obj b2v 61 [.int .i64 0, .int .i64 0, .int .i64 0, .slice none 0 0], obj b1v 62 [], F]) rfl rfl rfl rfl rfl rfl Try.call90 (.sel 0 rfl (.sel 0 rfl (.sel 0 rfl (.sel 0 rfl (.sel 0 rfl (.nil _)))))) (wire_Reader_Bytes.calls _ _ k y4v.1 y4v.2.1 y4v.2.2 s3v.1 s24v.2.1 s24v.2.2 (4096 : Int) (hq27v.lend 0 rfl) hq28v hq29v) hs33v) rfl rfl rfl ?_
 intro y32v
 refine simL_val (q_build (v := .agg #[.int .i64 s10v.1, .int .i64 s17v.1, .int .i64 s24v.1, .slice y32v.1 s31v.1.length y32v.2]) rfl rfl (fun _ => by kernel_rfl)) rfl rfl rfl ?_
 refine simL_eff (re_alloc rfl Try.zeroValue61 rfl) rfl rfl rfl ?_
 intro b34v
 refine simL_do (re_store 0 rfl rfl rfl Try.sizeOf61 rfl rfl (one_of (by rfl)) rfl rfl) rfl rfl ?_
 intro _
 refine simL_nil (nrm_then (sim_seq (sim_region ?_)))
 refine simL_val (q_move rfl rfl) rfl rfl rfl ?_
 refine simL_val (q_loado 5 rfl rfl Try.isAgg62 Try.sizeOf62 rfl rfl) rfl rfl rfl ?_
 refine simL_val (q_mkif rfl rfl Try.underlying62 rfl) rfl rfl rfl ?_
 refine simL_val (q_loado 0 rfl rfl Try.isAgg61 Try.sizeOf61 rfl rfl) rfl rfl rfl ?_
 refine simL_bind (fun s39v hs41v => ?_)
 refine simL_lend 3 rfl (fun hq35v hq36v hq37v hq38v => ?_)
 refine simL_eff (re_call (vs := [.pointer (some ⟨y4v.1, 0, none⟩), .iface 62 (.agg #[]), .agg #[.int .i64 s10v.1, .int .i64 s17v.1, .int .i64 s24v.1, .slice y32v.1 s31v.1.length y32v.2]]) (cap := []) (A := [obj y4v.1 194 [.slice y4v.2.1 s3v.1.length y4v.2.2, .int .i64 s31v.2.1, .int .i64 s31v.2.2], Row 5 1 y32v.1 s31v.1.length y32v.2 (encB s31v.1)]) (rst := [obj b34v 61 [.int .i64 s10v.1, .int .i64 s17v.1, .int .i64 s24v.1, .slice y32v.1 s31v.1.length y32v.2], Row 5 1 y4v.2.1 s3v.1.length y4v.2.2 (encB s3v.1), obj b2v 61 [.int .i64 0, .int .i64 0, .int .i64 0, .slice none 0 0], obj b1v 62 [], F]) rfl rfl rfl rfl rfl rfl Try.call91 (.sel 2 rfl (.sel 1 rfl (.sel 0 rfl (.sel 0 rfl (.sel 0 rfl (.sel 0 rfl (.sel 0 rfl (.nil _)))))))) (codec_last_Entry_Entries_c2.calls _ _ y4v.1 y4v.2.1 y4v.2.2 s3v.1 s31v.2.1 s31v.2.2 s10v.1 s17v.1 s24v.1 y32v.1 y32v.2 s31v.1 (hq35v.lend 1 rfl) hq36v hq37v) hs41v) rfl rfl rfl ?_
 intro y40v
 refine simL_val (q_ext rfl rfl rfl) rfl rfl rfl ?_
 refine simL_val (q_ext rfl rfl rfl) rfl rfl rfl ?_
 refine simL_do (re_store 4 rfl rfl rfl Try.sizeOf61 rfl rfl (one_of (by rfl)) rfl rfl) rfl rfl ?_
 intro _
 refine simL_val (q_asg rfl rfl) rfl rfl rfl (simL_nil (nrm_then (sim_rtn ?_)))
 exact rtn_fnC (vs := [.agg #[.int .i64 s39v.1, .int .i64 s39v.2.1, .int .i64 s39v.2.2.1, .slice y40v.1 s39v.2.2.2.1.length y40v.2], .int .i64 s39v.2.2.2.2]) (y40v.1, y40v.2) rfl ⟨⟨b2v, rfl, load_agg 4 Try.isAgg61 Try.sizeOf61 rfl rfl⟩, rfl, trivial⟩ rfl (.sel 0 rfl (.sel 5 rfl (.nil _)))

def codec_each_Entry_Entries.l0 (xp0_0 : List UInt8) (x3 : Int) (s3v : Int × Bool × Int × Int) : Nat → List (Int × Int × Int × List UInt8) → Int → Int → Option (((List (Int × Int × Int × List UInt8)) × Int × Int) ⊕ ((List (Int × Int × Int × List UInt8)) × Int × Int × Int))
  | 0, _, _, _ => none
  | k + 1, z12v, z13v, z14v => if (z12v.length : Int) < s3v.1 then ((codec_moved__byte_codec_each_Entry_1.f k xp0_0 z13v z14v x3).bind fun s17v => (if (!s17v.2.1) = true then ((wire_Reader_Done.f xp0_0 s17v.2.2.1 s17v.2.2.2).bind fun s22v => (some (.inr (([] : List (Int × Int × Int × List UInt8)), s22v, s17v.2.2.1, s17v.2.2.2)))) else ((codec_Entries_Get.f k s17v.1).bind fun s29v => (if s29v.2.2.2.2 = (0 : Int) then (if (z12v.length + ([(s29v.1, s29v.2.1, s29v.2.2.1, s29v.2.2.2.1)] : List (Int × Int × Int × List UInt8)).length) * 48 ≤ 140737488355328 then (codec_each_Entry_Entries.l0 xp0_0 x3 s3v k (z12v ++ ([(s29v.1, s29v.2.1, s29v.2.2.1, s29v.2.2.2.1)] : List (Int × Int × Int × List UInt8))) s17v.2.2.1 s17v.2.2.2) else none) else (some (.inr (([] : List (Int × Int × Int × List UInt8)), s29v.2.2.2.2, s17v.2.2.1, s17v.2.2.2))))))) else (some (.inl (z12v, z13v, z14v)))
def codec_each_Entry_Entries.f (k : Nat) (xp0_0 : List UInt8) (xp0_1 : Int) (xp0_2 : Int) (x2 : Int) (x3 : Int) : Option ((List (Int × Int × Int × List UInt8)) × Int × Int × Int) := (codec_moved_int_wire_Reader_Int.f k xp0_0 xp0_1 xp0_2).bind fun s3v => (if (s3v.2.1 && (decide (x2 < s3v.1))) = true then (some (([] : List (Int × Int × Int × List UInt8)), 3, s3v.2.2.1, s3v.2.2.2)) else (orR (codec_each_Entry_Entries.l0 xp0_0 x3 s3v k ([] : List (Int × Int × Int × List UInt8)) s3v.2.2.1 s3v.2.2.2) fun s8v => (some (s8v.1, 0, s8v.2.1, s8v.2.2))))
theorem codec_each_Entry_Entries.calls (W : World) (F : HA) (k : Nat) (bp0 : Nat) (ap0_0 : Option Addr) (cp0_0 : Nat) (xp0_0 : List UInt8) (xp0_1 : Int) (xp0_2 : Int) (x2 : Int) (x3 : Int) (hp0_0 : Rd F ap0_0 (encB xp0_0)) (hcp0_0 : xp0_0.length ≤ cp0_0) (hmp0_0 : cp0_0 ≤ maxLen) :
    Fn Try.prog W 112 [.pointer (some ⟨bp0, 0, none⟩), .iface 62 (.agg #[]), .int .i64 x2, .int .i64 x3] [obj bp0 194 [.slice ap0_0 xp0_0.length cp0_0, .int .i64 xp0_1, .int .i64 xp0_2]] F (codec_each_Entry_Entries.f k xp0_0 xp0_1 xp0_2 x2 x3) (fun (r : (List (Int × Int × Int × List UInt8)) × Int × Int × Int) (y : Option Addr × Nat × HA) => .tuple #[.slice y.1 r.1.length y.2.1, .int .i64 r.2.1]) (fun r y => [RowV 61 4 (V61 (y.2.2)) y.1 r.1 y.2.1, y.2.2, obj bp0 194 [.slice ap0_0 xp0_0.length cp0_0, .int .i64 r.2.2.1, .int .i64 r.2.2.2]]) := by
 unfold codec_each_Entry_Entries.f
 refine fn_intro 58 Try.func112 rfl Try.ntmps112 rfl ?_
 refine sim_seq (sim_region ?_)
 refine simL_eff (re_box rfl rfl rfl) rfl rfl rfl ?_
 intro b1v
 refine simL_eff (re_box rfl rfl rfl) rfl rfl rfl ?_
 intro b2v
 refine simL_val (q_asg rfl rfl) rfl rfl rfl ?_
 refine simL_val (q_asg rfl rfl) rfl rfl rfl (simL_nil (nrm_then (sim_seq (sim_region ?_))))
 refine simL_val (q_load rfl rfl Try.isAgg146 (.obj 1 rfl rfl)) rfl rfl rfl ?_
 refine simL_val (q_load rfl rfl Try.isAgg146 (.obj 1 rfl rfl)) rfl rfl rfl ?_
 refine simL_val (q_mkfn rfl rfl rfl) rfl rfl rfl ?_
 refine simL_bind (fun s3v hs5v => ?_)
 refine simL_eff (re_call (vs := [.pointer (some ⟨bp0, 0, none⟩), .func (.func 83) #[.pointer (some ⟨bp0, 0, none⟩)] #[]]) (cap := []) (A := [obj bp0 194 [.slice ap0_0 xp0_0.length cp0_0, .int .i64 xp0_1, .int .i64 xp0_2]]) (rst := [obj b2v 3 [.int .i64 x3], obj b1v 146 [.pointer (some ⟨bp0, 0, none⟩)], F]) rfl rfl rfl rfl rfl rfl Try.call110 (.sel 2 rfl (.sel 0 rfl (.sel 0 rfl (.sel 0 rfl (.nil _))))) (codec_moved_int_wire_Reader_Int.calls _ _ k bp0 ap0_0 cp0_0 xp0_0 xp0_1 xp0_2 (hp0_0.lend 2 rfl) hcp0_0 hmp0_0) hs5v) rfl rfl rfl ?_
 intro y4v
 refine simL_val (q_move rfl rfl) rfl rfl rfl ?_
 refine simL_val (q_ext rfl rfl rfl) rfl rfl rfl ?_
 refine simL_val (q_ext rfl rfl rfl) rfl rfl rfl ?_
 refine simL_val (q_asg rfl rfl) rfl rfl rfl ?_
 refine simL_val (q_asg rfl rfl) rfl rfl rfl (simL_nil (nrm_then (sim_seq (sim_seq (sim_region ?_)))))
 refine simL_val (q_move rfl rfl) rfl rfl rfl ?_
 refine simL_val (q_move rfl rfl) rfl rfl rfl ?_
 refine simL_valc (b := s3v.2.1) (fun hb51v => RQ.sub (E' := [(10, .int .i64 s3v.1)]) ⟨rfl, trivial⟩ (q_move rfl rfl)) rfl rfl rfl rfl rfl ?_
 refine simL_valc (b := s3v.2.1) (fun hb50v => RQ.sub (E' := [(2, .int .i64 x2)]) ⟨rfl, trivial⟩ (q_move rfl rfl)) rfl rfl rfl rfl rfl ?_
 refine simL_valc (b := s3v.2.1) (fun hb49v => RQ.sub (E' := [(26, .int .i64 s3v.1), (27, .int .i64 x2)]) ⟨lk_cv rfl hb49v, lk_cv rfl hb49v, trivial⟩ (q_gtr rfl rfl rfl)) rfl rfl rfl rfl rfl ?_
 refine simL_val (q_and rfl rfl rfl) rfl rfl rfl (simL_nil (nrm_then ?_))
 refine sim_condb rfl (fun h6v => ?_) (fun h7v => ?_)
 refine sim_seq (sim_region ?_)
 refine simL_val (q_asg rfl rfl) rfl rfl rfl ?_
 refine simL_val (q_asg rfl rfl) rfl rfl rfl (simL_nil (nrm_then (sim_rtn ?_)))
 refine rtn_then ?_
 exact rtn_fn (none, 0, tt) rfl rfl rfl (.rowV_nil (.tt_in (.sel 0 rfl (.sel 2 rfl (.nil _)))))
 refine sim_skip ?_
 refine nrm_then (sim_seq (sim_region ?_))
 refine simL_val (q_asg rfl rfl) rfl rfl rfl (simL_nil (nrm_then ?_))
 refine sim_cutR (S := (List (Int × Int × Int × List UInt8)) × Int × Int) (HA × Option Addr × Nat) (fun s y => [(12, .slice y.2.1 s.1.length y.2.2)]) (fun s y => [obj bp0 194 [.slice ap0_0 xp0_0.length cp0_0, .int .i64 s.2.1, .int .i64 s.2.2], RowV 61 4 (V61 (y.1)) y.2.1 s.1 y.2.2, y.1, F]) ?_ ?_
 refine sim_block ?_
 refine sim_loop (S := (List (Int × Int × Int × List UInt8)) × Int × Int) (HA × Option Addr × Nat) (fun k s => codec_each_Entry_Entries.l0 xp0_0 x3 s3v k s.1 s.2.1 s.2.2) (fun s y => [(1, .iface 62 (.agg #[])), (4, .pointer (some ⟨b1v, 0, none⟩)), (7, .pointer (some ⟨b2v, 0, none⟩)), (10, .int .i64 s3v.1), (12, .slice y.2.1 s.1.length y.2.2)]) (fun s y => [obj bp0 194 [.slice ap0_0 xp0_0.length cp0_0, .int .i64 s.2.1, .int .i64 s.2.2], obj b2v 3 [.int .i64 x3], obj b1v 146 [.pointer (some ⟨bp0, 0, none⟩)], RowV 61 4 (V61 (y.1)) y.2.1 s.1 y.2.2, y.1, F]) (fun _ => by rw [codec_each_Entry_Entries.l0]) ?_ k (([] : List (Int × Int × Int × List UInt8)), s3v.2.2.1, s3v.2.2.2) (tt, none, 0) ⟨rfl, rfl, rfl, rfl, rfl, trivial⟩ (.sel 0 rfl (.sel 0 rfl (.sel 0 rfl (.rowV_nil (.tt_in (.sel 0 rfl (.nil _)))))))
 intro k s10v y11v
 refine sim_eq (by rw [codec_each_Entry_Entries.l0]) ?_
 refine sim_seq (sim_seq (sim_region ?_))
 refine simL_val (q_move rfl rfl) rfl rfl rfl ?_
 refine simL_val (q_len rfl rfl rfl Try.underlying26) rfl rfl rfl ?_
 refine simL_val (q_move rfl rfl) rfl rfl rfl ?_
 refine simL_val (q_lss rfl rfl rfl) rfl rfl rfl (simL_nil (nrm_then ?_))
 refine sim_cond rfl (fun h15v => ?_) (fun h16v => ?_)
 refine sim_skip ?_
 refine nrm_then ?_
 refine sim_block ?_
 refine sim_seq (sim_region ?_)
 refine simL_val (q_load rfl rfl Try.isAgg146 (.obj 2 rfl rfl)) rfl rfl rfl ?_
 refine simL_val (q_mkfn rfl rfl rfl) rfl rfl rfl ?_
 refine simL_bind (fun s17v hs19v => ?_)
 refine simL_eff (re_call (vs := [.pointer (some ⟨bp0, 0, none⟩), .func (.func 133) #[] #[.pointer (some ⟨b1v, 0, none⟩), .pointer (some ⟨b2v, 0, none⟩)]]) (cap := []) (A := [obj bp0 194 [.slice ap0_0 xp0_0.length cp0_0, .int .i64 s10v.2.1, .int .i64 s10v.2.2], obj b1v 146 [.pointer (some ⟨bp0, 0, none⟩)], obj b2v 3 [.int .i64 x3]]) (rst := [RowV 61 4 (V61 (y11v.1)) y11v.2.1 s10v.1 y11v.2.2, y11v.1, F]) rfl rfl rfl rfl rfl rfl Try.call113 (.sel 0 rfl (.sel 1 rfl (.sel 0 rfl (.sel 0 rfl (.sel 0 rfl (.sel 0 rfl (.nil _))))))) (codec_moved__byte_codec_each_Entry_1.calls _ _ k bp0 ap0_0 cp0_0 xp0_0 s10v.2.1 s10v.2.2 b1v b2v x3 (hp0_0.lend 2 rfl) hcp0_0 hmp0_0) hs19v) rfl rfl rfl ?_
 intro y18v
 refine simL_val (q_move rfl rfl) rfl rfl rfl ?_
 refine simL_val (q_ext rfl rfl rfl) rfl rfl rfl ?_
 refine simL_val (q_ext rfl rfl rfl) rfl rfl rfl ?_
 refine simL_val (q_asg rfl rfl) rfl rfl rfl ?_
 refine simL_val (q_asg rfl rfl) rfl rfl rfl (simL_nil (nrm_then (sim_seq (sim_seq (sim_region ?_)))))
 refine simL_val (q_move rfl rfl) rfl rfl rfl ?_
 refine simL_val (q_not rfl rfl) rfl rfl rfl (simL_nil (nrm_then ?_))
 refine sim_condb rfl (fun h20v => ?_) (fun h21v => ?_)
 refine sim_seq (sim_region ?_)
 refine simL_val (q_load rfl rfl Try.isAgg146 (.obj 2 rfl rfl)) rfl rfl rfl ?_
 refine simL_bind (fun s22v hs24v => ?_)
 refine simL_eff (re_call (vs := [.pointer (some ⟨bp0, 0, none⟩)]) (cap := []) (A := [obj bp0 194 [.slice ap0_0 xp0_0.length cp0_0, .int .i64 s17v.2.2.1, .int .i64 s17v.2.2.2]]) (rst := [Row 5 1 y18v.1 s17v.1.length y18v.2 (encB s17v.1), obj b1v 146 [.pointer (some ⟨bp0, 0, none⟩)], obj b2v 3 [.int .i64 x3], RowV 61 4 (V61 (y11v.1)) y11v.2.1 s10v.1 y11v.2.2, y11v.1, F]) rfl rfl rfl rfl rfl rfl Try.call124 (.sel 1 rfl (.sel 0 rfl (.sel 0 rfl (.sel 0 rfl (.sel 0 rfl (.sel 0 rfl (.sel 0 rfl (.nil _)))))))) (wire_Reader_Done.calls _ _ bp0 ap0_0 cp0_0 xp0_0 s17v.2.2.1 s17v.2.2.2 (hp0_0.lend 5 rfl) hcp0_0 hmp0_0) hs24v) rfl rfl rfl ?_
 intro y23v
 refine simL_val (q_asg rfl rfl) rfl rfl rfl ?_
 refine simL_val (q_asg rfl rfl) rfl rfl rfl (simL_nil (nrm_then (sim_rtn ?_)))
 refine rtn_then ?_
 refine rtn_block ?_
 refine rtn_loop ?_
 refine rtn_block ?_
 refine rtn_cutR ?_
 exact rtn_fn (none, 0, tt) rfl rfl rfl (.rowV_nil (.tt_in (.sel 0 rfl (.sel 5 rfl (.nil _)))))
 refine sim_skip ?_
 refine nrm_then (sim_seq (sim_region ?_))
 refine simL_val (q_move rfl rfl) rfl rfl rfl ?_
 refine simL_val (q_move rfl rfl) rfl rfl rfl ?_
 refine simL_bind (fun s29v hs31v => ?_)
 refine simL_lend 0 rfl (fun hq25v hq26v hq27v hq28v => ?_)
 refine simL_eff (re_invoke (vs := [.slice y18v.1 s17v.1.length y18v.2]) (A := []) (rst := [Row 5 1 y18v.1 s17v.1.length y18v.2 (encB s17v.1), obj bp0 194 [.slice ap0_0 xp0_0.length cp0_0, .int .i64 s17v.2.2.1, .int .i64 s17v.2.2.2], obj b1v 146 [.pointer (some ⟨bp0, 0, none⟩)], obj b2v 3 [.int .i64 x3], RowV 61 4 (V61 (y11v.1)) y11v.2.1 s10v.1 y11v.2.2, y11v.1, F]) rfl rfl rfl rfl rfl (fun _ => by kernel_rfl) Try.call36 (.sel 0 rfl (.sel 0 rfl (.sel 0 rfl (.sel 0 rfl (.sel 0 rfl (.sel 0 rfl (.sel 0 rfl (.nil _)))))))) (codec_Entries_Get.calls _ _ k y18v.1 y18v.2 s17v.1 (hq25v.lend 0 rfl) hq26v hq27v) hs31v) rfl rfl rfl ?_
 intro y30v
 refine simL_val (q_move rfl rfl) rfl rfl rfl ?_
 refine simL_val (q_ext rfl rfl rfl) rfl rfl rfl ?_
 refine simL_val (q_ext rfl rfl rfl) rfl rfl rfl ?_
 refine simL_eff (re_alloc rfl Try.zeroValue61 rfl) rfl rfl rfl ?_
 intro b32v
 refine simL_do (re_store 0 rfl rfl rfl Try.sizeOf61 rfl rfl (one_of (by rfl)) rfl rfl) rfl rfl ?_
 intro _
 refine simL_val (q_asg rfl rfl) rfl rfl rfl (simL_nil (nrm_then (sim_seq (sim_seq (sim_region ?_)))))
 refine simL_val (q_move rfl rfl) rfl rfl rfl ?_
 refine simL_val (q_neq rfl rfl rfl) rfl rfl rfl (simL_nil (nrm_then ?_))
 refine sim_condn rfl (fun h33v => ?_) (fun h34v => ?_)
 refine sim_skip ?_
 refine nrm_then (sim_region ?_)
 refine simL_val (q_move rfl rfl) rfl rfl rfl ?_
 refine simL_val (q_loado 0 rfl rfl Try.isAgg61 Try.sizeOf61 rfl rfl) rfl rfl rfl ?_
 refine simL_lend 1 rfl (fun hq36v hq37v hq38v hq39v => ?_)
 have hlb40v : ListV 4 (V61 (Row 5 1 y30v.1 s29v.2.2.2.1.length y30v.2 (encB s29v.2.2.2.1))) ([(s29v.1, s29v.2.1, s29v.2.2.1, s29v.2.2.2.1)] : List (Int × Int × Int × List UInt8)) [[.int .i64 s29v.1, .int .i64 s29v.2.1, .int .i64 s29v.2.2.1, .slice y30v.1 s29v.2.2.2.1.length y30v.2]] := ⟨⟨rfl, one_of (by rfl), ⟨y30v.1, y30v.2, rfl, ⟨hq36v, hq37v, hq38v⟩⟩⟩, trivial⟩
 refine simL_eff (re_litV (V := (V61 (Row 5 1 y30v.1 s29v.2.2.2.1.length y30v.2 (encB s29v.2.2.2.1)))) (xs := ([(s29v.1, s29v.2.1, s29v.2.2.1, s29v.2.2.2.1)] : List (Int × Int × Int × List UInt8))) [[.int .i64 s29v.1, .int .i64 s29v.2.1, .int .i64 s29v.2.2.1, .slice y30v.1 s29v.2.2.2.1.length y30v.2]] rfl rfl Try.underlying26 elt61 rfl (by kernel_rfl) rfl hlb40v rfl rfl) rfl rfl rfl ?_
 intro b40v
 refine simL_openV 7 rfl (fun rs45v hl46v => ?_)
 refine simL_ent (H' := [stars [Row 5 1 y30v.1 s29v.2.2.2.1.length y30v.2 (encB s29v.2.2.2.1), y11v.1], Row 61 4 (some ⟨b40v, 0, none⟩) ([(s29v.1, s29v.2.1, s29v.2.2.1, s29v.2.2.2.1)] : List (Int × Int × Int × List UInt8)).length 1 [[.int .i64 s29v.1, .int .i64 s29v.2.1, .int .i64 s29v.2.2.1, .slice y30v.1 s29v.2.2.2.1.length y30v.2]].flatten, obj b32v 61 [.int .i64 s29v.1, .int .i64 s29v.2.1, .int .i64 s29v.2.2.1, .slice y30v.1 s29v.2.2.2.1.length y30v.2], Row 5 1 y18v.1 s17v.1.length y18v.2 (encB s17v.1), obj bp0 194 [.slice ap0_0 xp0_0.length cp0_0, .int .i64 s17v.2.2.1, .int .i64 s17v.2.2.2], obj b1v 146 [.pointer (some ⟨bp0, 0, none⟩)], obj b2v 3 [.int .i64 x3], Row 61 4 y11v.2.1 s10v.1.length y11v.2.2 rs45v.flatten, F]) (Ent.trans (m := [Row 5 1 y30v.1 s29v.2.2.2.1.length y30v.2 (encB s29v.2.2.2.1), y11v.1, Row 61 4 (some ⟨b40v, 0, none⟩) ([(s29v.1, s29v.2.1, s29v.2.2.1, s29v.2.2.2.1)] : List (Int × Int × Int × List UInt8)).length 1 [[.int .i64 s29v.1, .int .i64 s29v.2.1, .int .i64 s29v.2.2.1, .slice y30v.1 s29v.2.2.2.1.length y30v.2]].flatten, obj b32v 61 [.int .i64 s29v.1, .int .i64 s29v.2.1, .int .i64 s29v.2.2.1, .slice y30v.1 s29v.2.2.2.1.length y30v.2], Row 5 1 y18v.1 s17v.1.length y18v.2 (encB s17v.1), obj bp0 194 [.slice ap0_0 xp0_0.length cp0_0, .int .i64 s17v.2.2.1, .int .i64 s17v.2.2.2], obj b1v 146 [.pointer (some ⟨bp0, 0, none⟩)], obj b2v 3 [.int .i64 x3], Row 61 4 y11v.2.1 s10v.1.length y11v.2.2 rs45v.flatten, F]) (.sel 2 rfl (.sel 7 rfl (.sel 0 rfl (.sel 0 rfl (.sel 0 rfl (.sel 0 rfl (.sel 0 rfl (.sel 0 rfl (.sel 0 rfl (.sel 0 rfl (.nil _))))))))))) (ent_pack [Row 5 1 y30v.1 s29v.2.2.2.1.length y30v.2 (encB s29v.2.2.2.1), y11v.1] _)) ?_
 refine simL_ask (fun hb48v => ?_)
 refine simL_eff (re_appendV 7 rfl rfl rfl Try.underlying26 elt61 rfl (hl46v.mono (V61.up (Up.lend (l := [Row 5 1 y30v.1 s29v.2.2.2.1.length y30v.2 (encB s29v.2.2.2.1), y11v.1]) 1 rfl))) (RdsV.row (hlb40v.mono (V61.up (Up.lend (l := [Row 5 1 y30v.1 s29v.2.2.2.1.length y30v.2 (encB s29v.2.2.2.1), y11v.1]) 0 rfl))) 1 rfl) hb48v) rfl rfl rfl ?_
 intro y47v
 refine simL_val (q_asg rfl rfl) rfl rfl rfl (simL_nil (nrm_block ?_))
 exact nrm_again (s := (s10v.1 ++ ([(s29v.1, s29v.2.1, s29v.2.2.1, s29v.2.2.2.1)] : List (Int × Int × Int × List UInt8)), s17v.2.2.1, s17v.2.2.2)) (stars [Row 5 1 y30v.1 s29v.2.2.2.1.length y30v.2 (encB s29v.2.2.2.1), y11v.1], y47v.1, y47v.2) ⟨rfl, rfl, rfl, rfl, rfl, trivial⟩ (.sel 4 rfl (.sel 5 rfl (.sel 4 rfl (.sel 4 rfl (.sel 0 rfl (.sel 3 rfl (.nil _)))))))
 refine sim_seq (sim_region ?_)
 refine simL_val (q_move rfl rfl) rfl rfl rfl ?_
 refine simL_val (q_asg rfl rfl) rfl rfl rfl ?_
 refine simL_val (q_asg rfl rfl) rfl rfl rfl (simL_nil (nrm_then (sim_rtn ?_)))
 refine rtn_then ?_
 refine rtn_block ?_
 refine rtn_loop ?_
 refine rtn_block ?_
 refine rtn_cutR ?_
 exact rtn_fn (none, 0, tt) rfl rfl rfl (.rowV_nil (.tt_in (.sel 3 rfl (.sel 7 rfl (.nil _)))))
 refine sim_exi ?_
 refine exi_then ?_
 refine exi_loop ?_
 refine exi_here ?_
 exact nrm_cutR (s := (s10v.1, s10v.2.1, s10v.2.2)) (y11v.1, y11v.2.1, y11v.2.2) ⟨rfl, trivial⟩ (.sel 0 rfl (.sel 2 rfl (.sel 2 rfl (.sel 2 rfl (.nil _)))))
 intro s8v y9v
 refine sim_seq (sim_region ?_)
 refine simL_val (q_move rfl rfl) rfl rfl rfl ?_
 refine simL_val (q_asg rfl rfl) rfl rfl rfl ?_
 refine simL_val (q_asg rfl rfl) rfl rfl rfl (simL_nil (nrm_then (sim_rtn ?_)))
 exact rtn_fn (y9v.2.1, y9v.2.2, y9v.1) rfl rfl rfl (.sel 1 rfl (.sel 1 rfl (.sel 0 rfl (.sel 0 rfl (.nil _)))))

def codec_GetList_Entry_Entries.f (k : Nat) (x1 : List UInt8) (x2 : Int) : Option ((List (Int × Int × Int × List UInt8)) × Int) := (wire_NewReader.f x1).bind fun s1v => ((codec_each_Entry_Entries.f k s1v.1 s1v.2.1 s1v.2.2 x2 (1048576 : Int)).bind fun s8v => ((if s8v.2.1 = (0 : Int) then ((wire_Reader_Done.f s1v.1 s8v.2.2.1 s8v.2.2.2).bind fun s19v => (some s19v)) else (some s8v.2.1)).bind fun s11v => (if s11v = (0 : Int) then (some (s8v.1, 0)) else (some (([] : List (Int × Int × Int × List UInt8)), s11v)))))
theorem codec_GetList_Entry_Entries.calls (W : World) (F : HA) (k : Nat) (a1 : Option Addr) (c1 : Nat) (x1 : List UInt8) (x2 : Int) (h1 : Rd F a1 (encB x1)) (hc1 : x1.length ≤ c1) (hm1 : c1 ≤ maxLen) :
    Fn Try.prog W 121 [.iface 62 (.agg #[]), .slice a1 x1.length c1, .int .i64 x2] [] F (codec_GetList_Entry_Entries.f k x1 x2) (fun (r : (List (Int × Int × Int × List UInt8)) × Int) (y : Option Addr × Nat × HA) => .tuple #[.slice y.1 r.1.length y.2.1, .int .i64 r.2]) (fun r y => [RowV 61 4 (V61 (y.2.2)) y.1 r.1 y.2.1, y.2.2]) := by
 unfold codec_GetList_Entry_Entries.f
 refine fn_intro 28 Try.func121 rfl Try.ntmps121 rfl ?_
 refine sim_seq (sim_region ?_)
 refine simL_val (q_asg rfl rfl) rfl rfl rfl ?_
 refine simL_val (q_asg rfl rfl) rfl rfl rfl (simL_nil (nrm_then (sim_seq (sim_region ?_))))
 refine simL_val (q_move rfl rfl) rfl rfl rfl ?_
 refine simL_bind (fun s1v hs3v => ?_)
 refine simL_eff (re_call (vs := [.slice a1 x1.length c1]) (cap := []) (A := []) (rst := [F]) rfl rfl rfl rfl rfl rfl Try.call82 (.sel 0 rfl (.nil _)) (wire_NewReader.calls _ _ a1 c1 x1 (h1.lend 0 rfl) hc1 hm1) hs3v) rfl rfl rfl ?_
 intro y2v
 refine simL_val (q_asg rfl rfl) rfl rfl rfl (simL_nil (nrm_then (sim_seq (sim_region ?_))))
 refine simL_val (q_move rfl rfl) rfl rfl rfl ?_
 refine simL_val (q_move rfl rfl) rfl rfl rfl ?_
 refine simL_val (q_move rfl rfl) rfl rfl rfl ?_
 refine simL_bind (fun s8v hs10v => ?_)
 refine simL_lend 1 rfl (fun hq4v hq5v hq6v hq7v => ?_)
 refine simL_eff (re_call (vs := [.pointer (some ⟨y2v.1, 0, none⟩), .iface 62 (.agg #[]), .int .i64 x2, .int .i64 1048576]) (cap := []) (A := [obj y2v.1 194 [.slice y2v.2.1 s1v.1.length y2v.2.2, .int .i64 s1v.2.1, .int .i64 s1v.2.2]]) (rst := [Row 5 1 y2v.2.1 s1v.1.length y2v.2.2 (encB s1v.1), F]) rfl rfl rfl rfl rfl rfl Try.call112 (.sel 0 rfl (.sel 0 rfl (.sel 0 rfl (.nil _)))) (codec_each_Entry_Entries.calls _ _ k y2v.1 y2v.2.1 y2v.2.2 s1v.1 s1v.2.1 s1v.2.2 x2 (1048576 : Int) (hq4v.lend 0 rfl) hq5v hq6v) hs10v) rfl rfl rfl ?_
 intro y9v
 refine simL_val (q_move rfl rfl) rfl rfl rfl ?_
 refine simL_val (q_ext rfl rfl rfl) rfl rfl rfl ?_
 refine simL_val (q_ext rfl rfl rfl) rfl rfl rfl ?_
 refine simL_val (q_asg rfl rfl) rfl rfl rfl ?_
 refine simL_val (q_asg rfl rfl) rfl rfl rfl (simL_nil (nrm_then ?_))
 refine sim_cut (S := Int) (HA) (fun s y => [(9, .slice y9v.1 s8v.1.length y9v.2.1), (10, .int .i64 s)]) (fun s y => [RowV 61 4 (V61 (y)) y9v.1 s8v.1 y9v.2.1, y, F]) ?_ ?_
 refine sim_seq (sim_region ?_)
 refine simL_val (q_move rfl rfl) rfl rfl rfl ?_
 refine simL_val (q_eql rfl rfl rfl) rfl rfl rfl (simL_nil (nrm_then ?_))
 refine sim_cond rfl (fun h13v => ?_) (fun h14v => ?_)
 refine sim_region ?_
 refine simL_val (q_move rfl rfl) rfl rfl rfl ?_
 refine simL_bind (fun s19v hs21v => ?_)
 refine simL_lend 3 rfl (fun hq15v hq16v hq17v hq18v => ?_)
 refine simL_eff (re_call (vs := [.pointer (some ⟨y2v.1, 0, none⟩)]) (cap := []) (A := [obj y2v.1 194 [.slice y2v.2.1 s1v.1.length y2v.2.2, .int .i64 s8v.2.2.1, .int .i64 s8v.2.2.2]]) (rst := [RowV 61 4 (V61 (y9v.2.2)) y9v.1 s8v.1 y9v.2.1, y9v.2.2, Row 5 1 y2v.2.1 s1v.1.length y2v.2.2 (encB s1v.1), F]) rfl rfl rfl rfl rfl rfl Try.call124 (.sel 2 rfl (.sel 0 rfl (.sel 0 rfl (.sel 0 rfl (.sel 0 rfl (.nil _)))))) (wire_Reader_Done.calls _ _ y2v.1 y2v.2.1 y2v.2.2 s1v.1 s8v.2.2.1 s8v.2.2.2 (hq15v.lend 2 rfl) hq16v hq17v) hs21v) rfl rfl rfl ?_
 intro y20v
 refine simL_val (q_asg rfl rfl) rfl rfl rfl (simL_nil ?_)
 exact nrm_cut (s := s19v) y9v.2.2 ⟨rfl, rfl, trivial⟩ (.sel 1 rfl (.sel 1 rfl (.sel 2 rfl (.nil _))))
 refine sim_skip ?_
 exact nrm_cut (s := s8v.2.1) y9v.2.2 ⟨rfl, rfl, trivial⟩ (.sel 0 rfl (.sel 0 rfl (.sel 2 rfl (.nil _))))
 intro s11v y12v
 refine sim_seq (sim_seq (sim_region ?_))
 refine simL_val (q_move rfl rfl) rfl rfl rfl ?_
 refine simL_val (q_neq rfl rfl rfl) rfl rfl rfl (simL_nil (nrm_then ?_))
 refine sim_condn rfl (fun h22v => ?_) (fun h23v => ?_)
 refine sim_skip ?_
 refine nrm_then (sim_seq (sim_region ?_))
 refine simL_val (q_move rfl rfl) rfl rfl rfl ?_
 refine simL_val (q_asg rfl rfl) rfl rfl rfl ?_
 refine simL_val (q_asg rfl rfl) rfl rfl rfl (simL_nil (nrm_then (sim_rtn ?_)))
 exact rtn_fn (y9v.1, y9v.2.1, y12v) rfl rfl rfl (.sel 0 rfl (.sel 0 rfl (.sel 0 rfl (.nil _))))
 refine sim_seq (sim_region ?_)
 refine simL_val (q_move rfl rfl) rfl rfl rfl ?_
 refine simL_val (q_asg rfl rfl) rfl rfl rfl ?_
 refine simL_val (q_asg rfl rfl) rfl rfl rfl (simL_nil (nrm_then (sim_rtn ?_)))
 refine rtn_then ?_
 exact rtn_fn (none, 0, tt) rfl rfl rfl (.rowV_nil (.tt_in (.sel 2 rfl (.nil _))))

def synodlaw3_read.l0 (s4v : List (List UInt8) × List UInt8 × Int × Int × Int) : Nat → List (Int × Int × Int × List UInt8) → Int → Int → Option ((List (Int × Int × Int × List UInt8)) × Int)
  | 0, _, _, _ => none
  | k + 1, z12v, z13v, z14v => if ((decide (z14v < (s4v.1.length : Int))) && (decide (z13v = (0 : Int)))) = true then (if 0 ≤ z14v ∧ z14v < (s4v.1.length : Int) then ((synodref3_GetEntry.f k (s4v.1.getD z14v.toNat ([] : List UInt8))).bind fun s32v => (if (z12v.length + ([(s32v.1, s32v.2.1, s32v.2.2.1, s32v.2.2.2.1)] : List (Int × Int × Int × List UInt8)).length) * 48 ≤ 140737488355328 then (synodlaw3_read.l0 s4v k (z12v ++ ([(s32v.1, s32v.2.1, s32v.2.2.1, s32v.2.2.2.1)] : List (Int × Int × Int × List UInt8))) s32v.2.2.2.2 (IntKind.i64.wrap (z14v + 1))) else none)) else none) else (some (z12v, z13v))
def synodlaw3_read.f (k : Nat) (x0 : List UInt8) (x1 : Int) : Option (Bool) := (codec_GetList_Entry_Entries.f k x0 x1).bind fun s1v => ((synodref3_Texts.f k x0 x1).bind fun s4v => ((synodlaw3_read.l0 s4v k ([] : List (Int × Int × Int × List UInt8)) 0 0).bind fun s8v => ((if s8v.2 = (0 : Int) then ((synodref1_Reader_Done.f s4v.2.1 s4v.2.2.1 s4v.2.2.2.1).bind fun s56v => (some s56v)) else (some s8v.2)).bind fun s52v => ((if s52v = (0 : Int) then (some s8v.1) else (some ([] : List (Int × Int × Int × List UInt8)))).bind fun s59v => ((synodref_SameEntries.f k s1v.1 s59v).bind fun s75v => ((if s75v = true then ((synodref_Num.f s1v.2).bind fun s80v => (some (decide (s80v = s52v)))) else (some false)).bind fun s78v => (some s78v)))))))
theorem synodlaw3_read.calls (W : World) (F : HA) (k : Nat) (a0 : Option Addr) (c0 : Nat) (x0 : List UInt8) (x1 : Int) (h0 : Rd F a0 (encB x0)) (hc0 : x0.length ≤ c0) (hm0 : c0 ≤ maxLen) :
    Fn Try.prog W 66 [.slice a0 x0.length c0, .int .i64 x1] [] F (synodlaw3_read.f k x0 x1) (fun (r : Bool) (y : Unit) => .bool r) (fun r y => []) := by
 unfold synodlaw3_read.f
 refine fn_intro 70 Try.func66 rfl Try.ntmps66 rfl ?_
 refine sim_seq (sim_region ?_)
 refine simL_val (q_asg rfl rfl) rfl rfl rfl (simL_nil (nrm_then (sim_seq (sim_region ?_))))
 refine simL_val (q_build (v := .agg #[]) rfl rfl (fun _ => by kernel_rfl)) rfl rfl rfl ?_
 refine simL_val (q_mkif rfl rfl Try.underlying62 rfl) rfl rfl rfl ?_
 refine simL_val (q_move rfl rfl) rfl rfl rfl ?_
 refine simL_val (q_move rfl rfl) rfl rfl rfl ?_
 refine simL_bind (fun s1v hs3v => ?_)
 refine simL_eff (re_call (vs := [.iface 62 (.agg #[]), .slice a0 x0.length c0, .int .i64 x1]) (cap := []) (A := []) (rst := [F]) rfl rfl rfl rfl rfl rfl Try.call121 (.sel 0 rfl (.nil _)) (codec_GetList_Entry_Entries.calls _ _ k a0 c0 x0 x1 (h0.lend 0 rfl) hc0 hm0) hs3v) rfl rfl rfl ?_
 intro y2v
 refine simL_val (q_move rfl rfl) rfl rfl rfl ?_
 refine simL_val (q_ext rfl rfl rfl) rfl rfl rfl ?_
 refine simL_val (q_ext rfl rfl rfl) rfl rfl rfl ?_
 refine simL_val (q_asg rfl rfl) rfl rfl rfl ?_
 refine simL_val (q_asg rfl rfl) rfl rfl rfl (simL_nil (nrm_then (sim_seq (sim_region ?_))))
 refine simL_val (q_move rfl rfl) rfl rfl rfl ?_
 refine simL_val (q_move rfl rfl) rfl rfl rfl ?_
 refine simL_bind (fun s4v hs6v => ?_)
 refine simL_eff (re_call (vs := [.slice a0 x0.length c0, .int .i64 x1]) (cap := []) (A := []) (rst := [RowV 61 4 (V61 (y2v.2.2)) y2v.1 s1v.1 y2v.2.1, y2v.2.2, F]) rfl rfl rfl rfl rfl rfl Try.call122 (.sel 0 rfl (.sel 0 rfl (.sel 0 rfl (.nil _)))) (synodref3_Texts.calls _ _ _ (Up.lend 2 rfl) k a0 c0 x0 x1 h0 hc0 hm0) hs6v) rfl rfl rfl ?_
 intro y5v
 refine simL_pr (fun hp7v => ?_)
 refine simL_val (q_move rfl rfl) rfl rfl rfl ?_
 refine simL_val (q_ext rfl rfl rfl) rfl rfl rfl ?_
 refine simL_val (q_ext rfl rfl rfl) rfl rfl rfl ?_
 refine simL_val (q_ext rfl rfl rfl) rfl rfl rfl ?_
 refine simL_val (q_asg rfl rfl) rfl rfl rfl ?_
 refine simL_val (q_asg rfl rfl) rfl rfl rfl ?_
 refine simL_val (q_asg rfl rfl) rfl rfl rfl (simL_nil (nrm_then (sim_seq (sim_region ?_))))
 refine simL_val (q_asg rfl rfl) rfl rfl rfl (simL_nil (nrm_then (sim_seq (sim_region ?_))))
 refine simL_val (q_asg rfl rfl) rfl rfl rfl (simL_nil (nrm_then ?_))
 refine sim_cut (S := (List (Int × Int × Int × List UInt8)) × Int) (HA × HA × Option Addr × Nat) (fun s y => [(5, .slice y2v.1 s1v.1.length y2v.2.1), (6, .int .i64 s1v.2), (8, .pointer (some ⟨y5v.2.2.2.1, 0, none⟩)), (10, .slice y.2.2.1 s.1.length y.2.2.2), (11, .int .i64 s.2)]) (fun s y => [obj y5v.2.2.2.1 152 [.slice y5v.2.2.2.2.1 s4v.2.1.length y5v.2.2.2.2.2, .int .i64 s4v.2.2.1, .int .i64 s4v.2.2.2.1], RowV 61 4 (V61 (y.1)) y2v.1 s1v.1 y2v.2.1, RowV 61 4 (V61 (y.2.1)) y.2.2.1 s.1 y.2.2.2, y.1, y.2.1, F]) ?_ ?_
 refine sim_seq (sim_region ?_)
 refine simL_val (q_asg rfl rfl) rfl rfl rfl (simL_nil (nrm_then ?_))
 refine sim_block ?_
 refine sim_loop (S := (List (Int × Int × Int × List UInt8)) × Int × Int) (HA × HA × HA × Option Addr × Nat) (fun k s => synodlaw3_read.l0 s4v k s.1 s.2.1 s.2.2) (fun s y => [(5, .slice y2v.1 s1v.1.length y2v.2.1), (6, .int .i64 s1v.2), (7, .slice y5v.1 s4v.1.length y5v.2.1), (8, .pointer (some ⟨y5v.2.2.2.1, 0, none⟩)), (10, .slice y.2.2.2.1 s.1.length y.2.2.2.2), (11, .int .i64 s.2.1), (12, .int .i64 s.2.2)]) (fun s y => [obj y5v.2.2.2.1 152 [.slice y5v.2.2.2.2.1 s4v.2.1.length y5v.2.2.2.2.2, .int .i64 s4v.2.2.1, .int .i64 s4v.2.2.2.1], RowV 61 4 (V61 (y.1)) y2v.1 s1v.1 y2v.2.1, RowV 27 1 (V27 (y.2.1)) y5v.1 s4v.1 y5v.2.1, RowV 61 4 (V61 (y.2.2.1)) y.2.2.2.1 s.1 y.2.2.2.2, y.1, y.2.1, y.2.2.1, F]) (fun _ => by rw [synodlaw3_read.l0]) ?_ k (([] : List (Int × Int × Int × List UInt8)), 0, 0) (y2v.2.2, y5v.2.2.1, tt, none, 0) ⟨rfl, rfl, rfl, rfl, rfl, rfl, rfl, trivial⟩ (.sel 2 rfl (.sel 2 rfl (.sel 0 rfl (.rowV_nil (.sel 1 rfl (.sel 0 rfl (.tt_in (.sel 0 rfl (.nil _)))))))))
 intro k s10v y11v
 refine sim_eq (by rw [synodlaw3_read.l0]) ?_
 refine sim_seq (sim_seq (sim_region ?_))
 refine simL_val (q_move rfl rfl) rfl rfl rfl ?_
 refine simL_val (q_move rfl rfl) rfl rfl rfl ?_
 refine simL_val (q_len rfl rfl rfl Try.underlying114) rfl rfl rfl ?_
 refine simL_val (q_lss rfl rfl rfl) rfl rfl rfl ?_
 refine simL_val (q_move rfl rfl) rfl rfl rfl ?_
 refine simL_valc (b := decide (s10v.2.2 < (s4v.1.length : Int))) (fun hb51v => RQ.sub (E' := [(11, .int .i64 s10v.2.1)]) ⟨rfl, trivial⟩ (q_move rfl rfl)) rfl rfl rfl rfl rfl ?_
 refine simL_valc (b := decide (s10v.2.2 < (s4v.1.length : Int))) (fun hb50v => RQ.sub (E' := [(36, .int .i64 s10v.2.1)]) ⟨lk_cv rfl hb50v, trivial⟩ (q_eql rfl rfl rfl)) rfl rfl rfl rfl rfl ?_
 refine simL_val (q_and rfl rfl rfl) rfl rfl rfl (simL_nil (nrm_then ?_))
 refine sim_condb rfl (fun h15v => ?_) (fun h16v => ?_)
 refine sim_skip ?_
 refine nrm_then (sim_seq ?_)
 refine sim_block ?_
 refine sim_seq (sim_region ?_)
 refine simL_val (q_move rfl rfl) rfl rfl rfl ?_
 refine simL_val (q_move rfl rfl) rfl rfl rfl ?_
 refine simL_openV 2 rfl (fun rs25v hl26v => ?_)
 refine simL_ask (fun hi17v => ?_)
 refine simL_posV 2 rfl hl26v rfl (i := s10v.2.2.toNat) (by omega) ([] : List UInt8) (fun b18v b18vo r21v ha19v hV22v hlr23v hcell24v => ?_)
 obtain ⟨a27v, c28v, rfl, ⟨he29v, hc30v, hm31v⟩⟩ := hV22v
 refine simL_val (q_idx rfl rfl rfl ha19v Try.underlying114 Try.sizeOf27 hi17v.1 hi17v.2) rfl rfl rfl ?_
 refine simL_val (q_load rfl rfl Try.isAgg27 (hcell24v 2 rfl 0 _ rfl)) rfl rfl rfl ?_
 refine simL_bind (fun s32v hs34v => ?_)
 refine simL_eff (re_call (vs := [.slice a27v ((s4v.1.getD s10v.2.2.toNat ([] : List UInt8)).length) c28v]) (cap := []) (A := []) (rst := [obj y5v.2.2.2.1 152 [.slice y5v.2.2.2.2.1 s4v.2.1.length y5v.2.2.2.2.2, .int .i64 s4v.2.2.1, .int .i64 s4v.2.2.2.1], RowV 61 4 (V61 (y11v.1)) y2v.1 s1v.1 y2v.2.1, Row 27 1 y5v.1 s4v.1.length y5v.2.1 rs25v.flatten, RowV 61 4 (V61 (y11v.2.2.1)) y11v.2.2.2.1 s10v.1 y11v.2.2.2.2, y11v.1, y11v.2.1, y11v.2.2.1, F]) rfl rfl rfl rfl rfl rfl Try.call37 (.sel 0 rfl (.sel 0 rfl (.sel 0 rfl (.sel 0 rfl (.sel 0 rfl (.sel 0 rfl (.sel 0 rfl (.sel 0 rfl (.nil _))))))))) (synodref3_GetEntry.calls _ _ k a27v c28v (s4v.1.getD s10v.2.2.toNat ([] : List UInt8)) (he29v.lend 5 rfl) hc30v hm31v) hs34v) rfl rfl rfl ?_
 intro y33v
 refine simL_val (q_move rfl rfl) rfl rfl rfl ?_
 refine simL_val (q_ext rfl rfl rfl) rfl rfl rfl ?_
 refine simL_val (q_ext rfl rfl rfl) rfl rfl rfl ?_
 refine simL_eff (re_alloc rfl Try.zeroValue61 rfl) rfl rfl rfl ?_
 intro b35v
 refine simL_do (re_store 0 rfl rfl rfl Try.sizeOf61 rfl rfl (one_of (by rfl)) rfl rfl) rfl rfl ?_
 intro _
 refine simL_val (q_asg rfl rfl) rfl rfl rfl (simL_nil (nrm_then (sim_seq (sim_region ?_))))
 refine simL_val (q_move rfl rfl) rfl rfl rfl ?_
 refine simL_val (q_loado 0 rfl rfl Try.isAgg61 Try.sizeOf61 rfl rfl) rfl rfl rfl ?_
 refine simL_lend 1 rfl (fun hq37v hq38v hq39v hq40v => ?_)
 have hlb41v : ListV 4 (V61 (Row 5 1 y33v.1 s32v.2.2.2.1.length y33v.2 (encB s32v.2.2.2.1))) ([(s32v.1, s32v.2.1, s32v.2.2.1, s32v.2.2.2.1)] : List (Int × Int × Int × List UInt8)) [[.int .i64 s32v.1, .int .i64 s32v.2.1, .int .i64 s32v.2.2.1, .slice y33v.1 s32v.2.2.2.1.length y33v.2]] := ⟨⟨rfl, one_of (by rfl), ⟨y33v.1, y33v.2, rfl, ⟨hq37v, hq38v, hq39v⟩⟩⟩, trivial⟩
 refine simL_eff (re_litV (V := (V61 (Row 5 1 y33v.1 s32v.2.2.2.1.length y33v.2 (encB s32v.2.2.2.1)))) (xs := ([(s32v.1, s32v.2.1, s32v.2.2.1, s32v.2.2.2.1)] : List (Int × Int × Int × List UInt8))) [[.int .i64 s32v.1, .int .i64 s32v.2.1, .int .i64 s32v.2.2.1, .slice y33v.1 s32v.2.2.2.1.length y33v.2]] rfl rfl Try.underlying26 elt61 rfl (by kernel_rfl) rfl hlb41v rfl rfl) rfl rfl rfl ?_
 intro b41v
 refine simL_openV 6 rfl (fun rs46v hl47v => ?_)
 refine simL_ent (H' := [stars [Row 5 1 y33v.1 s32v.2.2.2.1.length y33v.2 (encB s32v.2.2.2.1), y11v.2.2.1], Row 61 4 (some ⟨b41v, 0, none⟩) ([(s32v.1, s32v.2.1, s32v.2.2.1, s32v.2.2.2.1)] : List (Int × Int × Int × List UInt8)).length 1 [[.int .i64 s32v.1, .int .i64 s32v.2.1, .int .i64 s32v.2.2.1, .slice y33v.1 s32v.2.2.2.1.length y33v.2]].flatten, obj b35v 61 [.int .i64 s32v.1, .int .i64 s32v.2.1, .int .i64 s32v.2.2.1, .slice y33v.1 s32v.2.2.2.1.length y33v.2], obj y5v.2.2.2.1 152 [.slice y5v.2.2.2.2.1 s4v.2.1.length y5v.2.2.2.2.2, .int .i64 s4v.2.2.1, .int .i64 s4v.2.2.2.1], RowV 61 4 (V61 (y11v.1)) y2v.1 s1v.1 y2v.2.1, Row 27 1 y5v.1 s4v.1.length y5v.2.1 rs25v.flatten, Row 61 4 y11v.2.2.2.1 s10v.1.length y11v.2.2.2.2 rs46v.flatten, y11v.1, y11v.2.1, F]) (Ent.trans (m := [Row 5 1 y33v.1 s32v.2.2.2.1.length y33v.2 (encB s32v.2.2.2.1), y11v.2.2.1, Row 61 4 (some ⟨b41v, 0, none⟩) ([(s32v.1, s32v.2.1, s32v.2.2.1, s32v.2.2.2.1)] : List (Int × Int × Int × List UInt8)).length 1 [[.int .i64 s32v.1, .int .i64 s32v.2.1, .int .i64 s32v.2.2.1, .slice y33v.1 s32v.2.2.2.1.length y33v.2]].flatten, obj b35v 61 [.int .i64 s32v.1, .int .i64 s32v.2.1, .int .i64 s32v.2.2.1, .slice y33v.1 s32v.2.2.2.1.length y33v.2], obj y5v.2.2.2.1 152 [.slice y5v.2.2.2.2.1 s4v.2.1.length y5v.2.2.2.2.2, .int .i64 s4v.2.2.1, .int .i64 s4v.2.2.2.1], RowV 61 4 (V61 (y11v.1)) y2v.1 s1v.1 y2v.2.1, Row 27 1 y5v.1 s4v.1.length y5v.2.1 rs25v.flatten, Row 61 4 y11v.2.2.2.1 s10v.1.length y11v.2.2.2.2 rs46v.flatten, y11v.1, y11v.2.1, F]) (.sel 2 rfl (.sel 8 rfl (.sel 0 rfl (.sel 0 rfl (.sel 0 rfl (.sel 0 rfl (.sel 0 rfl (.sel 0 rfl (.sel 0 rfl (.sel 0 rfl (.sel 0 rfl (.nil _)))))))))))) (ent_pack [Row 5 1 y33v.1 s32v.2.2.2.1.length y33v.2 (encB s32v.2.2.2.1), y11v.2.2.1] _)) ?_
 refine simL_ask (fun hb49v => ?_)
 refine simL_eff (re_appendV 6 rfl rfl rfl Try.underlying26 elt61 rfl (hl47v.mono (V61.up (Up.lend (l := [Row 5 1 y33v.1 s32v.2.2.2.1.length y33v.2 (encB s32v.2.2.2.1), y11v.2.2.1]) 1 rfl))) (RdsV.row (hlb41v.mono (V61.up (Up.lend (l := [Row 5 1 y33v.1 s32v.2.2.2.1.length y33v.2 (encB s32v.2.2.2.1), y11v.2.2.1]) 0 rfl))) 1 rfl) hb49v) rfl rfl rfl ?_
 intro y48v
 refine simL_val (q_asg rfl rfl) rfl rfl rfl (simL_nil (nrm_then (sim_region ?_)))
 refine simL_val (q_move rfl rfl) rfl rfl rfl ?_
 refine simL_val (q_asg rfl rfl) rfl rfl rfl (simL_nil (nrm_block (nrm_then (sim_region ?_))))
 refine simL_val (q_move rfl rfl) rfl rfl rfl ?_
 refine simL_val (q_add rfl rfl rfl) rfl rfl rfl ?_
 refine simL_val (q_asg rfl rfl) rfl rfl rfl (simL_nil ?_)
 exact nrm_again (s := (s10v.1 ++ ([(s32v.1, s32v.2.1, s32v.2.2.1, s32v.2.2.2.1)] : List (Int × Int × Int × List UInt8)), s32v.2.2.2.2, IntKind.i64.wrap (s10v.2.2 + 1))) (y11v.1, y11v.2.1, stars [Row 5 1 y33v.1 s32v.2.2.2.1.length y33v.2 (encB s32v.2.2.2.1), y11v.2.2.1], y48v.1, y48v.2) ⟨rfl, rfl, rfl, rfl, rfl, rfl, rfl, trivial⟩ (.sel 3 rfl (.sel 3 rfl (.sel' 3 rfl (RowV.mk hl26v) (.sel 3 rfl (.sel 3 rfl (.sel 3 rfl (.sel 0 rfl (.sel 2 rfl (.nil _)))))))))
 refine sim_exi ?_
 refine exi_then ?_
 refine exi_loop ?_
 refine exi_here ?_
 exact nrm_cut (s := (s10v.1, s10v.2.1)) (y11v.1, y11v.2.2.1, y11v.2.2.2.1, y11v.2.2.2.2) ⟨rfl, rfl, rfl, rfl, rfl, trivial⟩ (.sel 0 rfl (.sel 0 rfl (.sel 1 rfl (.sel 1 rfl (.sel 2 rfl (.sel 2 rfl (.nil _)))))))
 intro s8v y9v
 refine sim_cut (S := Int) (HA × HA) (fun s y => [(5, .slice y2v.1 s1v.1.length y2v.2.1), (6, .int .i64 s1v.2), (10, .slice y9v.2.2.1 s8v.1.length y9v.2.2.2), (11, .int .i64 s)]) (fun s y => [RowV 61 4 (V61 (y.1)) y2v.1 s1v.1 y2v.2.1, RowV 61 4 (V61 (y.2)) y9v.2.2.1 s8v.1 y9v.2.2.2, y.1, y.2, F]) ?_ ?_
 refine sim_seq (sim_region ?_)
 refine simL_val (q_move rfl rfl) rfl rfl rfl ?_
 refine simL_val (q_eql rfl rfl rfl) rfl rfl rfl (simL_nil (nrm_then ?_))
 refine sim_cond rfl (fun h54v => ?_) (fun h55v => ?_)
 refine sim_region ?_
 refine simL_val (q_move rfl rfl) rfl rfl rfl ?_
 refine simL_bind (fun s56v hs58v => ?_)
 refine simL_eff (re_call (vs := [.pointer (some ⟨y5v.2.2.2.1, 0, none⟩)]) (cap := []) (A := [obj y5v.2.2.2.1 152 [.slice y5v.2.2.2.2.1 s4v.2.1.length y5v.2.2.2.2.2, .int .i64 s4v.2.2.1, .int .i64 s4v.2.2.2.1]]) (rst := [RowV 61 4 (V61 (y9v.1)) y2v.1 s1v.1 y2v.2.1, RowV 61 4 (V61 (y9v.2.1)) y9v.2.2.1 s8v.1 y9v.2.2.2, y9v.1, y9v.2.1, F]) rfl rfl rfl rfl rfl rfl Try.call86 (.sel 0 rfl (.sel 0 rfl (.sel 0 rfl (.sel 0 rfl (.sel 0 rfl (.sel 0 rfl (.nil _))))))) (synodref1_Reader_Done.calls _ _ y5v.2.2.2.1 y5v.2.2.2.2.1 y5v.2.2.2.2.2 s4v.2.1 s4v.2.2.1 s4v.2.2.2.1 (hp7v.1.lend 4 rfl) hp7v.2.1 hp7v.2.2) hs58v) rfl rfl rfl ?_
 intro y57v
 refine simL_val (q_asg rfl rfl) rfl rfl rfl (simL_nil ?_)
 exact nrm_cut (s := s56v) (y9v.1, y9v.2.1) ⟨rfl, rfl, rfl, rfl, trivial⟩ (.sel 1 rfl (.sel 1 rfl (.sel 1 rfl (.sel 1 rfl (.sel 1 rfl (.nil _))))))
 refine sim_skip ?_
 exact nrm_cut (s := s8v.2) (y9v.1, y9v.2.1) ⟨rfl, rfl, rfl, rfl, trivial⟩ (.sel 1 rfl (.sel 1 rfl (.sel 1 rfl (.sel 1 rfl (.sel 1 rfl (.nil _))))))
 intro s52v y53v
 refine sim_cut (S := (List (Int × Int × Int × List UInt8))) (HA × HA × Option Addr × Nat) (fun s y => [(5, .slice y2v.1 s1v.1.length y2v.2.1), (6, .int .i64 s1v.2), (10, .slice y.2.2.1 s.length y.2.2.2), (11, .int .i64 s52v)]) (fun s y => [RowV 61 4 (V61 (y.1)) y2v.1 s1v.1 y2v.2.1, RowV 61 4 (V61 (y.2.1)) y.2.2.1 s y.2.2.2, y.1, y.2.1, F]) ?_ ?_
 refine sim_seq (sim_region ?_)
 refine simL_val (q_move rfl rfl) rfl rfl rfl ?_
 refine simL_val (q_neq rfl rfl rfl) rfl rfl rfl (simL_nil (nrm_then ?_))
 refine sim_condn rfl (fun h61v => ?_) (fun h62v => ?_)
 refine sim_skip ?_
 exact nrm_cut (s := s8v.1) (y53v.1, y53v.2, y9v.2.2.1, y9v.2.2.2) ⟨rfl, rfl, rfl, rfl, trivial⟩ (.sel 0 rfl (.sel 0 rfl (.sel 0 rfl (.sel 0 rfl (.sel 0 rfl (.nil _))))))
 refine sim_region ?_
 refine simL_val (q_asg rfl rfl) rfl rfl rfl (simL_nil ?_)
 exact nrm_cut (s := ([] : List (Int × Int × Int × List UInt8))) (y53v.1, tt, none, 0) ⟨rfl, rfl, rfl, rfl, trivial⟩ (.sel 0 rfl (.rowV_nil (.sel 1 rfl (.tt_in (.sel 2 rfl (.nil _))))))
 intro s59v y60v
 refine sim_seq (sim_region ?_)
 refine simL_val (q_move rfl rfl) rfl rfl rfl ?_
 refine simL_val (q_move rfl rfl) rfl rfl rfl ?_
 refine simL_openV 0 rfl (fun rs63v hl64v => ?_)
 refine simL_openV 1 rfl (fun rs65v hl66v => ?_)
 refine simL_bind (fun s75v hs77v => ?_)
 refine simL_lend 0 rfl (fun hq67v hq68v hq69v hq70v => ?_)
 refine simL_lend 1 rfl (fun hq71v hq72v hq73v hq74v => ?_)
 refine simL_eff (re_call (vs := [.slice y2v.1 s1v.1.length y2v.2.1, .slice y60v.2.2.1 s59v.length y60v.2.2.2]) (cap := []) (A := []) (rst := [Row 61 4 y2v.1 s1v.1.length y2v.2.1 rs63v.flatten, Row 61 4 y60v.2.2.1 s59v.length y60v.2.2.2 rs65v.flatten, y60v.1, y60v.2.1, F]) rfl rfl rfl rfl rfl rfl Try.call70 (.sel 0 rfl (.sel 0 rfl (.sel 0 rfl (.sel 0 rfl (.sel 0 rfl (.nil _)))))) (synodref_SameEntries.calls _ _ k y2v.1 y2v.2.1 s1v.1 y60v.2.2.1 y60v.2.2.2 s59v ((Rd.asV hl64v hq67v).up (Up.lend 0 rfl) (V61.up (Up.lend 2 rfl))) hq68v hq69v ((Rd.asV hl66v hq71v).up (Up.lend 1 rfl) (V61.up (Up.lend 3 rfl))) hq72v hq73v) hs77v) rfl rfl rfl ?_
 intro y76v
 refine simL_val (q_asg rfl rfl) rfl rfl rfl (simL_nil (nrm_then (sim_seq (sim_region ?_))))
 refine simL_val (q_move rfl rfl) rfl rfl rfl ?_
 refine simL_val (q_move rfl rfl) rfl rfl rfl ?_
 refine simL_cut' 5 (S := Bool) (Unit) (fun s y => [(69, .bool s)]) (fun s y => [F]) ?_ ?_
 refine simL_caseb (fun hb83v => ?_) (fun hb84v => ?_)
 rw [hb83v]
 refine simL_valg (q_move rfl rfl) rfl rfl rfl rfl rfl rfl ?_
 refine simL_bind (fun s80v hs82v => ?_)
 refine simL_effg (re_call (vs := [.int .i64 s1v.2]) (cap := []) (A := []) (rst := [Row 61 4 y2v.1 s1v.1.length y2v.2.1 rs63v.flatten, Row 61 4 y60v.2.2.1 s59v.length y60v.2.2.2 rs65v.flatten, y60v.1, y60v.2.1, F]) rfl rfl rfl rfl rfl rfl Try.call26 (.sel 0 rfl (.sel 0 rfl (.sel 0 rfl (.sel 0 rfl (.sel 0 rfl (.nil _)))))) (synodref_Num.calls _ _ s1v.2 ) hs82v) rfl rfl rfl rfl rfl rfl ?_
 intro y81v
 refine simL_valg (q_move rfl rfl) rfl rfl rfl rfl rfl rfl ?_
 refine simL_valg (q_eql rfl rfl rfl) rfl rfl rfl rfl rfl rfl ?_
 refine simL_val (q_pick rfl rfl rfl rfl rfl) rfl rfl rfl (simL_nil ?_)
 exact nrm_cut (s := decide (s80v = s52v)) () ⟨rfl, trivial⟩ (.sel 4 rfl (.nil _))
 rw [hb84v]
 refine simL_skipd rfl rfl rfl rfl rfl rfl ?_
 refine simL_skipd rfl rfl rfl rfl rfl rfl ?_
 refine simL_skipd rfl rfl rfl rfl rfl rfl ?_
 refine simL_skipd rfl rfl rfl rfl rfl rfl ?_
 refine simL_val (q_pick rfl rfl rfl rfl rfl) rfl rfl rfl (simL_nil ?_)
 exact nrm_cut (s := false) () ⟨rfl, trivial⟩ (.sel 4 rfl (.nil _))
 intro s78v y79v
 refine simL_val (q_asg rfl rfl) rfl rfl rfl (simL_nil (nrm_then (sim_rtn ?_)))
 exact rtn_fn () rfl rfl rfl (.sel 0 rfl (.nil _))

def codec_PutList_Entry_Entries.l0 (x1 : List (Int × Int × Int × List UInt8)) : Nat → Int → List UInt8 → Int → Option ((List UInt8 × Int) ⊕ (List UInt8 × Int))
  | 0, _, _, _ => none
  | k + 1, z13v, z14v, z15v => if z13v < (x1.length : Int) then (if 0 ≤ z13v ∧ z13v < (x1.length : Int) then ((codec_Entries_Put.f k ((x1.getD z13v.toNat ((0 : Int), (0 : Int), (0 : Int), ([] : List UInt8))).1) ((x1.getD z13v.toNat ((0 : Int), (0 : Int), (0 : Int), ([] : List UInt8))).2.1) ((x1.getD z13v.toNat ((0 : Int), (0 : Int), (0 : Int), ([] : List UInt8))).2.2.1) ((x1.getD z13v.toNat ((0 : Int), (0 : Int), (0 : Int), ([] : List UInt8))).2.2.2)).bind fun s32v => (if s32v.2 = (0 : Int) then ((wire_Writer_Bytes.f k z14v z15v s32v.1 (1048576 : Int)).bind fun s41v => (codec_PutList_Entry_Entries.l0 x1 k (IntKind.i64.wrap (z13v + 1)) s41v.1 s41v.2)) else (some (.inr (([] : List UInt8), s32v.2))))) else none) else (some (.inl (z14v, z15v)))
def codec_PutList_Entry_Entries.f (k : Nat) (x1 : List (Int × Int × Int × List UInt8)) (x2 : Int) : Option (List UInt8 × Int) := if x2 < (x1.length : Int) then (some (([] : List UInt8), 3)) else ((wire_NewWriter.f).bind fun s3v => ((wire_Writer_Int.f k s3v.1 s3v.2 (x1.length : Int)).bind fun s6v => (orR (codec_PutList_Entry_Entries.l0 x1 k 0 s6v.1 s6v.2) fun s9v => ((wire_Writer_Done.f s9v.1 s9v.2).bind fun s48v => (some (s48v.1, s48v.2))))))
theorem codec_PutList_Entry_Entries.calls (W : World) (F : HA) (k : Nat) (a1 : Option Addr) (c1 : Nat) (x1 : List (Int × Int × Int × List UInt8)) (x2 : Int) (h1 : RdV F 4 (V61 F) a1 x1) (hc1 : x1.length ≤ c1) (hm1 : c1 ≤ maxLen) :
    Fn Try.prog W 63 [.iface 62 (.agg #[]), .slice a1 x1.length c1, .int .i64 x2] [] F (codec_PutList_Entry_Entries.f k x1 x2) (fun (r : List UInt8 × Int) (y : Option Addr × Nat) => .tuple #[.slice y.1 r.1.length y.2, .int .i64 r.2]) (fun r y => [Row 5 1 y.1 r.1.length y.2 (encB r.1)]) := by
 unfold codec_PutList_Entry_Entries.f
 refine fn_intro 45 Try.func63 rfl Try.ntmps63 rfl ?_
 refine sim_seq (sim_region ?_)
 refine simL_val (q_asg rfl rfl) rfl rfl rfl ?_
 refine simL_val (q_asg rfl rfl) rfl rfl rfl (simL_nil (nrm_then (sim_seq (sim_seq (sim_region ?_)))))
 refine simL_val (q_move rfl rfl) rfl rfl rfl ?_
 refine simL_val (q_len rfl rfl rfl Try.underlying26) rfl rfl rfl ?_
 refine simL_val (q_move rfl rfl) rfl rfl rfl ?_
 refine simL_val (q_gtr rfl rfl rfl) rfl rfl rfl (simL_nil (nrm_then ?_))
 refine sim_cond rfl (fun h1v => ?_) (fun h2v => ?_)
 refine sim_seq (sim_region ?_)
 refine simL_val (q_asg rfl rfl) rfl rfl rfl ?_
 refine simL_val (q_asg rfl rfl) rfl rfl rfl (simL_nil (nrm_then (sim_rtn ?_)))
 refine rtn_then ?_
 exact rtn_fn (none, 0) rfl rfl rfl (.row_nil (.sel 0 rfl (.nil _)))
 refine sim_skip ?_
 refine nrm_then (sim_seq (sim_region ?_))
 refine simL_bind (fun s3v hs5v => ?_)
 refine simL_eff (re_call (vs := []) (cap := []) (A := []) (rst := [F]) rfl rfl rfl rfl rfl rfl Try.call119 (.sel 0 rfl (.nil _)) (wire_NewWriter.calls _ _  ) hs5v) rfl rfl rfl ?_
 intro y4v
 refine simL_val (q_asg rfl rfl) rfl rfl rfl (simL_nil (nrm_then (sim_seq (sim_region ?_))))
 refine simL_val (q_move rfl rfl) rfl rfl rfl ?_
 refine simL_val (q_move rfl rfl) rfl rfl rfl ?_
 refine simL_val (q_len rfl rfl rfl Try.underlying26) rfl rfl rfl ?_
 refine simL_bind (fun s6v hs8v => ?_)
 refine simL_eff (re_call (vs := [.pointer (some ⟨y4v.1, 0, none⟩), .int .i64 (x1.length : Int)]) (cap := []) (A := [obj y4v.1 187 [.slice y4v.2.1 s3v.1.length y4v.2.2, .int .i64 s3v.2], Row 5 1 y4v.2.1 s3v.1.length y4v.2.2 (encB s3v.1)]) (rst := [F]) rfl rfl rfl rfl rfl rfl Try.call78 (.sel 0 rfl (.sel 0 rfl (.sel 0 rfl (.nil _)))) (wire_Writer_Int.calls _ _ k y4v.1 y4v.2.1 y4v.2.2 s3v.1 s3v.2 (x1.length : Int) ) hs8v) rfl rfl rfl ?_
 intro y7v
 refine simL_nil (nrm_then ?_)
 refine sim_cutR (S := List UInt8 × Int) (Option Addr × Nat) (fun s y => [(8, .pointer (some ⟨y4v.1, 0, none⟩))]) (fun s y => [obj y4v.1 187 [.slice y.1 s.1.length y.2, .int .i64 s.2], Row 5 1 y.1 s.1.length y.2 (encB s.1), F]) ?_ ?_
 refine sim_seq (sim_region ?_)
 refine simL_val (q_move rfl rfl) rfl rfl rfl ?_
 refine simL_val (q_len rfl rfl rfl Try.underlying26) rfl rfl rfl ?_
 refine simL_val (q_move rfl rfl) rfl rfl rfl (simL_nil (nrm_then ?_))
 refine sim_block ?_
 refine sim_loop (S := Int × List UInt8 × Int) (Option Addr × Nat) (fun k s => codec_PutList_Entry_Entries.l0 x1 k s.1 s.2.1 s.2.2) (fun s y => [(0, .iface 62 (.agg #[])), (8, .pointer (some ⟨y4v.1, 0, none⟩)), (22, .slice a1 x1.length c1), (23, .int .i64 (x1.length : Int)), (24, .int .i64 s.1)]) (fun s y => [obj y4v.1 187 [.slice y.1 s.2.1.length y.2, .int .i64 s.2.2], Row 5 1 y.1 s.2.1.length y.2 (encB s.2.1), F]) (fun _ => by rw [codec_PutList_Entry_Entries.l0]) ?_ k (0, s6v.1, s6v.2) (y7v.1, y7v.2) ⟨rfl, rfl, rfl, rfl, rfl, trivial⟩ (.sel 0 rfl (.sel 0 rfl (.sel 0 rfl (.nil _))))
 intro k s11v y12v
 refine sim_eq (by rw [codec_PutList_Entry_Entries.l0]) ?_
 refine sim_seq (sim_region ?_)
 refine simL_val (q_lss rfl rfl rfl) rfl rfl rfl (simL_nil (nrm_then (sim_seq ?_)))
 refine sim_cond rfl (fun h16v => ?_) (fun h17v => ?_)
 refine sim_skip ?_
 refine nrm_then (sim_seq ?_)
 refine sim_block ?_
 refine sim_seq (sim_region ?_)
 refine simL_ask (fun hi18v => ?_)
 obtain ⟨b19v, b19vo, r22v, ha20v, hV23v, hlr24v, hcell25v⟩ := RdV.pos h1 (Up.refl _) rfl (i := s11v.1.toNat) (by omega) ((0 : Int), (0 : Int), (0 : Int), ([] : List UInt8))
 obtain ⟨a26v, c27v, rfl, ⟨he28v, hc29v, hm30v⟩⟩ := hV23v
 refine simL_val (q_idx rfl rfl rfl ha20v Try.underlying26 Try.sizeOf61 hi18v.1 hi18v.2) rfl rfl rfl ?_
 refine simL_val (q_loads rfl rfl Try.isAgg61 Try.sizeOf61 rfl (fun j v hj => hcell25v 2 rfl j v hj)) rfl rfl rfl ?_
 refine simL_eff (re_alloc rfl Try.zeroValue61 rfl) rfl rfl rfl ?_
 intro b31v
 refine simL_do (re_store 0 rfl rfl rfl Try.sizeOf61 rfl rfl (one_of (by rfl)) rfl rfl) rfl rfl ?_
 intro _
 refine simL_nil (nrm_then (sim_seq (sim_region ?_)))
 refine simL_val (q_move rfl rfl) rfl rfl rfl ?_
 refine simL_val (q_loado 0 rfl rfl Try.isAgg61 Try.sizeOf61 rfl rfl) rfl rfl rfl ?_
 refine simL_bind (fun s32v hs34v => ?_)
 refine simL_eff (re_invoke (vs := [.agg #[.int .i64 ((x1.getD s11v.1.toNat ((0 : Int), (0 : Int), (0 : Int), ([] : List UInt8))).1), .int .i64 ((x1.getD s11v.1.toNat ((0 : Int), (0 : Int), (0 : Int), ([] : List UInt8))).2.1), .int .i64 ((x1.getD s11v.1.toNat ((0 : Int), (0 : Int), (0 : Int), ([] : List UInt8))).2.2.1), .slice a26v (((x1.getD s11v.1.toNat ((0 : Int), (0 : Int), (0 : Int), ([] : List UInt8))).2.2.2).length) c27v]]) (A := []) (rst := [obj b31v 61 [.int .i64 ((x1.getD s11v.1.toNat ((0 : Int), (0 : Int), (0 : Int), ([] : List UInt8))).1), .int .i64 ((x1.getD s11v.1.toNat ((0 : Int), (0 : Int), (0 : Int), ([] : List UInt8))).2.1), .int .i64 ((x1.getD s11v.1.toNat ((0 : Int), (0 : Int), (0 : Int), ([] : List UInt8))).2.2.1), .slice a26v (((x1.getD s11v.1.toNat ((0 : Int), (0 : Int), (0 : Int), ([] : List UInt8))).2.2.2).length) c27v], obj y4v.1 187 [.slice y12v.1 s11v.2.1.length y12v.2, .int .i64 s11v.2.2], Row 5 1 y12v.1 s11v.2.1.length y12v.2 (encB s11v.2.1), F]) rfl rfl rfl rfl rfl (fun _ => by kernel_rfl) Try.call32 (.sel 0 rfl (.sel 0 rfl (.sel 0 rfl (.sel 0 rfl (.nil _))))) (codec_Entries_Put.calls _ _ k ((x1.getD s11v.1.toNat ((0 : Int), (0 : Int), (0 : Int), ([] : List UInt8))).1) ((x1.getD s11v.1.toNat ((0 : Int), (0 : Int), (0 : Int), ([] : List UInt8))).2.1) ((x1.getD s11v.1.toNat ((0 : Int), (0 : Int), (0 : Int), ([] : List UInt8))).2.2.1) a26v c27v ((x1.getD s11v.1.toNat ((0 : Int), (0 : Int), (0 : Int), ([] : List UInt8))).2.2.2) (he28v.lend 3 rfl) hc29v hm30v) hs34v) rfl rfl rfl ?_
 intro y33v
 refine simL_val (q_move rfl rfl) rfl rfl rfl ?_
 refine simL_val (q_ext rfl rfl rfl) rfl rfl rfl ?_
 refine simL_val (q_ext rfl rfl rfl) rfl rfl rfl ?_
 refine simL_val (q_asg rfl rfl) rfl rfl rfl ?_
 refine simL_val (q_asg rfl rfl) rfl rfl rfl (simL_nil (nrm_then (sim_seq (sim_seq (sim_region ?_)))))
 refine simL_val (q_move rfl rfl) rfl rfl rfl ?_
 refine simL_val (q_neq rfl rfl rfl) rfl rfl rfl (simL_nil (nrm_then ?_))
 refine sim_condn rfl (fun h35v => ?_) (fun h36v => ?_)
 refine sim_skip ?_
 refine nrm_then (sim_region ?_)
 refine simL_val (q_move rfl rfl) rfl rfl rfl ?_
 refine simL_val (q_move rfl rfl) rfl rfl rfl ?_
 refine simL_bind (fun s41v hs43v => ?_)
 refine simL_lend 0 rfl (fun hq37v hq38v hq39v hq40v => ?_)
 refine simL_eff (re_call (vs := [.pointer (some ⟨y4v.1, 0, none⟩), .slice y33v.1 s32v.1.length y33v.2, .int .i64 1048576]) (cap := []) (A := [obj y4v.1 187 [.slice y12v.1 s11v.2.1.length y12v.2, .int .i64 s11v.2.2], Row 5 1 y12v.1 s11v.2.1.length y12v.2 (encB s11v.2.1)]) (rst := [Row 5 1 y33v.1 s32v.1.length y33v.2 (encB s32v.1), obj b31v 61 [.int .i64 ((x1.getD s11v.1.toNat ((0 : Int), (0 : Int), (0 : Int), ([] : List UInt8))).1), .int .i64 ((x1.getD s11v.1.toNat ((0 : Int), (0 : Int), (0 : Int), ([] : List UInt8))).2.1), .int .i64 ((x1.getD s11v.1.toNat ((0 : Int), (0 : Int), (0 : Int), ([] : List UInt8))).2.2.1), .slice a26v (((x1.getD s11v.1.toNat ((0 : Int), (0 : Int), (0 : Int), ([] : List UInt8))).2.2.2).length) c27v], F]) rfl rfl rfl rfl rfl rfl Try.call88 (.sel 2 rfl (.sel 2 rfl (.sel 0 rfl (.sel 0 rfl (.sel 0 rfl (.nil _)))))) (wire_Writer_Bytes.calls _ _ k y4v.1 y12v.1 y12v.2 s11v.2.1 s11v.2.2 y33v.1 y33v.2 s32v.1 (1048576 : Int) (hq37v.lend 0 rfl) hq38v hq39v) hs43v) rfl rfl rfl ?_
 intro y42v
 refine simL_nil (nrm_block (nrm_then (sim_region ?_)))
 refine simL_val (q_add rfl rfl rfl) rfl rfl rfl ?_
 refine simL_val (q_move rfl rfl) rfl rfl rfl (simL_nil ?_)
 exact nrm_again (s := (IntKind.i64.wrap (s11v.1 + 1), s41v.1, s41v.2)) (y42v.1, y42v.2) ⟨rfl, rfl, rfl, rfl, rfl, trivial⟩ (.sel 0 rfl (.sel 0 rfl (.sel 2 rfl (.nil _))))
 refine sim_seq (sim_region ?_)
 refine simL_val (q_move rfl rfl) rfl rfl rfl ?_
 refine simL_val (q_asg rfl rfl) rfl rfl rfl ?_
 refine simL_val (q_asg rfl rfl) rfl rfl rfl (simL_nil (nrm_then (sim_rtn ?_)))
 refine rtn_then ?_
 refine rtn_block ?_
 refine rtn_then ?_
 refine rtn_loop ?_
 refine rtn_block ?_
 refine rtn_cutR ?_
 exact rtn_fn (none, 0) rfl rfl rfl (.row_nil (.sel 4 rfl (.nil _)))
 refine sim_exi ?_
 refine exi_then ?_
 refine exi_loop ?_
 refine exi_here ?_
 exact nrm_cutR (s := (s11v.2.1, s11v.2.2)) (y12v.1, y12v.2) ⟨rfl, trivial⟩ (.sel 0 rfl (.sel 0 rfl (.sel 0 rfl (.nil _))))
 intro s9v y10v
 refine sim_seq (sim_region ?_)
 refine simL_val (q_move rfl rfl) rfl rfl rfl ?_
 refine simL_bind (fun s48v hs50v => ?_)
 refine simL_lend 1 rfl (fun hq44v hq45v hq46v hq47v => ?_)
 refine simL_eff (re_call (vs := [.pointer (some ⟨y4v.1, 0, none⟩)]) (cap := []) (A := [obj y4v.1 187 [.slice y10v.1 s9v.1.length y10v.2, .int .i64 s9v.2]]) (rst := [Row 5 1 y10v.1 s9v.1.length y10v.2 (encB s9v.1), F]) rfl rfl rfl rfl rfl rfl Try.call120 (.sel 0 rfl (.sel 0 rfl (.sel 0 rfl (.nil _)))) (wire_Writer_Done.calls _ _ y4v.1 y10v.1 y10v.2 s9v.1 s9v.2 (hq44v.lend 0 rfl) hq45v hq46v) hs50v) rfl rfl rfl ?_
 intro y49v
 refine simL_val (q_ext rfl rfl rfl) rfl rfl rfl ?_
 refine simL_val (q_ext rfl rfl rfl) rfl rfl rfl ?_
 refine simL_val (q_asg rfl rfl) rfl rfl rfl ?_
 refine simL_val (q_asg rfl rfl) rfl rfl rfl (simL_nil (nrm_then (sim_rtn ?_)))
 exact rtn_fn (y49v.1, y49v.2) rfl rfl rfl (.sel 0 rfl (.sel 2 rfl (.nil _)))

def synodlaw3_CodecLists.l0 (x0 : List (Int × Int × Int × List UInt8)) : Nat → Int → Int → Option (Int)
  | 0, _, _ => none
  | k + 1, z8v, z9v => if z9v < (x0.length : Int) then (if 0 ≤ z9v ∧ z9v < (x0.length : Int) then (synodlaw3_CodecLists.l0 x0 k (IntKind.i64.wrap (z8v + (min (((x0.getD z9v.toNat ((0 : Int), (0 : Int), (0 : Int), ([] : List UInt8))).2.2.2).length : Int) (20000 : Int)))) (IntKind.i64.wrap (z9v + 1))) else none) else (some z8v)
def synodlaw3_CodecLists.f (k : Nat) (x0 : List (Int × Int × Int × List UInt8)) (x1 : Int) (x2 : List UInt8) : Option (Bool) := (synodlaw3_first.f k).bind fun s1v => ((synodlaw3_CodecLists.l0 x0 k 0 0).bind fun s4v => (if ((((!s1v) || (decide ((100 : Int) < (x0.length : Int)))) || (decide ((20000 : Int) < s4v))) || (decide ((20000 : Int) < (x2.length : Int)))) = true then (some s1v) else ((codec_PutList_Entry_Entries.f k x0 x1).bind fun s27v => ((synodlaw3_texts.f k x0).bind fun s30v => ((synodref3_PutTexts.f k s30v.1 s30v.2 x1).bind fun s45v => ((synodref_SameBytes.f k s27v.1 s45v.1).bind fun s56v => ((if (!s56v) = true then (some true) else ((synodref_Num.f s27v.2).bind fun s61v => (some (!decide (s61v = s45v.2))))).bind fun s59v => (if s59v = true then (some false) else ((synodlaw3_read.f k x2 x1).bind fun s68v => ((if s68v = true then ((synodlaw3_read.f k s27v.1 x1).bind fun s77v => (some s77v)) else (some false)).bind fun s71v => (some s71v)))))))))))
theorem synodlaw3_CodecLists.calls (W : World) (F : HA) (k : Nat) (a0 : Option Addr) (c0 : Nat) (x0 : List (Int × Int × Int × List UInt8)) (x1 : Int) (a2 : Option Addr) (c2 : Nat) (x2 : List UInt8) (h0 : RdV F 4 (V61 F) a0 x0) (hc0 : x0.length ≤ c0) (hm0 : c0 ≤ maxLen) (h2 : Rd F a2 (encB x2)) (hc2 : x2.length ≤ c2) (hm2 : c2 ≤ maxLen) :
    Fn Try.prog W 12 [.slice a0 x0.length c0, .int .i64 x1, .slice a2 x2.length c2] [] F (synodlaw3_CodecLists.f k x0 x1 x2) (fun (r : Bool) (y : Unit) => .bool r) (fun r y => []) := by
 unfold synodlaw3_CodecLists.f
 refine fn_intro 91 Try.func12 rfl Try.ntmps12 rfl ?_
 refine sim_seq (sim_region ?_)
 refine simL_val (q_asg rfl rfl) rfl rfl rfl (simL_nil (nrm_then (sim_seq (sim_region ?_))))
 refine simL_bind (fun s1v hs3v => ?_)
 refine simL_eff (re_call (vs := []) (cap := []) (A := []) (rst := [F]) rfl rfl rfl rfl rfl rfl Try.call14 (.sel 0 rfl (.nil _)) (synodlaw3_first.calls _ _ k  ) hs3v) rfl rfl rfl ?_
 intro y2v
 refine simL_val (q_asg rfl rfl) rfl rfl rfl (simL_nil (nrm_then (sim_seq (sim_region ?_))))
 refine simL_val (q_asg rfl rfl) rfl rfl rfl (simL_nil (nrm_then ?_))
 refine sim_cut (S := Int) (Unit) (fun s y => [(0, .slice a0 x0.length c0), (1, .int .i64 x1), (2, .slice a2 x2.length c2), (7, .bool s1v), (8, .int .i64 s)]) (fun s y => [F]) ?_ ?_
 refine sim_seq (sim_region ?_)
 refine simL_val (q_asg rfl rfl) rfl rfl rfl (simL_nil (nrm_then ?_))
 refine sim_block ?_
 refine sim_loop (S := Int × Int) (Unit) (fun k s => synodlaw3_CodecLists.l0 x0 k s.1 s.2) (fun s y => [(0, .slice a0 x0.length c0), (1, .int .i64 x1), (2, .slice a2 x2.length c2), (7, .bool s1v), (8, .int .i64 s.1), (9, .int .i64 s.2)]) (fun s y => [F]) (fun _ => by rw [synodlaw3_CodecLists.l0]) ?_ k (0, 0) () ⟨rfl, rfl, rfl, rfl, rfl, rfl, trivial⟩ (.sel 0 rfl (.nil _))
 intro k s6v y7v
 refine sim_eq (by rw [synodlaw3_CodecLists.l0]) ?_
 refine sim_seq (sim_seq (sim_region ?_))
 refine simL_val (q_move rfl rfl) rfl rfl rfl ?_
 refine simL_val (q_move rfl rfl) rfl rfl rfl ?_
 refine simL_val (q_len rfl rfl rfl Try.underlying26) rfl rfl rfl ?_
 refine simL_val (q_lss rfl rfl rfl) rfl rfl rfl (simL_nil (nrm_then ?_))
 refine sim_cond rfl (fun h10v => ?_) (fun h11v => ?_)
 refine sim_skip ?_
 refine nrm_then (sim_seq ?_)
 refine sim_block ?_
 refine sim_region ?_
 refine simL_val (q_move rfl rfl) rfl rfl rfl ?_
 refine simL_val (q_move rfl rfl) rfl rfl rfl ?_
 refine simL_val (q_move rfl rfl) rfl rfl rfl ?_
 refine simL_ask (fun hi12v => ?_)
 obtain ⟨b13v, b13vo, r16v, ha14v, hV17v, hlr18v, hcell19v⟩ := RdV.pos h0 (Up.refl _) rfl (i := s6v.2.toNat) (by omega) ((0 : Int), (0 : Int), (0 : Int), ([] : List UInt8))
 obtain ⟨a20v, c21v, rfl, ⟨he22v, hc23v, hm24v⟩⟩ := hV17v
 refine simL_val (q_idx rfl rfl rfl ha14v Try.underlying26 Try.sizeOf61 hi12v.1 hi12v.2) rfl rfl rfl ?_
 refine simL_val (q_fa rfl rfl Try.underlying61 rfl rfl Try.sizeOf27 rfl) rfl rfl rfl ?_
 refine simL_val (q_load rfl rfl Try.isAgg27 (hcell19v 0 rfl 3 _ rfl)) rfl rfl rfl ?_
 refine simL_val (q_len rfl rfl rfl Try.underlying27) rfl rfl rfl ?_
 refine simL_val (q_min rfl rfl rfl) rfl rfl rfl ?_
 refine simL_val (q_add rfl rfl rfl) rfl rfl rfl ?_
 refine simL_val (q_asg rfl rfl) rfl rfl rfl (simL_nil (nrm_block (nrm_then (sim_region ?_))))
 refine simL_val (q_move rfl rfl) rfl rfl rfl ?_
 refine simL_val (q_add rfl rfl rfl) rfl rfl rfl ?_
 refine simL_val (q_asg rfl rfl) rfl rfl rfl (simL_nil ?_)
 exact nrm_again (s := (IntKind.i64.wrap (s6v.1 + (min (((x0.getD s6v.2.toNat ((0 : Int), (0 : Int), (0 : Int), ([] : List UInt8))).2.2.2).length : Int) (20000 : Int))), IntKind.i64.wrap (s6v.2 + 1))) () ⟨rfl, rfl, rfl, rfl, rfl, rfl, trivial⟩ (.sel 0 rfl (.nil _))
 refine sim_exi ?_
 refine exi_then ?_
 refine exi_loop ?_
 refine exi_here ?_
 exact nrm_cut (s := s6v.1) () ⟨rfl, rfl, rfl, rfl, rfl, trivial⟩ (.sel 0 rfl (.nil _))
 intro s4v y5v
 refine sim_seq (sim_seq (sim_region ?_))
 refine simL_val (q_move rfl rfl) rfl rfl rfl ?_
 refine simL_val (q_not rfl rfl) rfl rfl rfl ?_
 refine simL_val (q_move rfl rfl) rfl rfl rfl ?_
 refine simL_valc (b := !s1v) (fun hb89v => RQ.sub (E' := [(0, .slice a0 x0.length c0)]) ⟨rfl, trivial⟩ (q_move rfl rfl)) rfl rfl rfl rfl rfl ?_
 refine simL_valc (b := !s1v) (fun hb88v => RQ.sub (E' := [(37, .slice a0 x0.length c0)]) ⟨lk_cv rfl hb88v, trivial⟩ (q_len rfl rfl rfl Try.underlying26)) rfl rfl rfl rfl rfl ?_
 refine simL_valc (b := !s1v) (fun hb87v => RQ.sub (E' := [(38, .int .i64 (x0.length : Int))]) ⟨lk_cv rfl hb87v, trivial⟩ (q_gtr rfl rfl rfl)) rfl rfl rfl rfl rfl ?_
 refine simL_val (q_or rfl rfl rfl) rfl rfl rfl ?_
 refine simL_val (q_move rfl rfl) rfl rfl rfl ?_
 refine simL_valc (b := (!s1v) || (decide ((100 : Int) < (x0.length : Int)))) (fun hb86v => RQ.sub (E' := [(8, .int .i64 s4v)]) ⟨rfl, trivial⟩ (q_move rfl rfl)) rfl rfl rfl rfl rfl ?_
 refine simL_valc (b := (!s1v) || (decide ((100 : Int) < (x0.length : Int)))) (fun hb85v => RQ.sub (E' := [(42, .int .i64 s4v)]) ⟨lk_cv rfl hb85v, trivial⟩ (q_gtr rfl rfl rfl)) rfl rfl rfl rfl rfl ?_
 refine simL_val (q_or rfl rfl rfl) rfl rfl rfl ?_
 refine simL_val (q_move rfl rfl) rfl rfl rfl ?_
 refine simL_valc (b := ((!s1v) || (decide ((100 : Int) < (x0.length : Int)))) || (decide ((20000 : Int) < s4v))) (fun hb84v => RQ.sub (E' := [(2, .slice a2 x2.length c2)]) ⟨rfl, trivial⟩ (q_move rfl rfl)) rfl rfl rfl rfl rfl ?_
 refine simL_valc (b := ((!s1v) || (decide ((100 : Int) < (x0.length : Int)))) || (decide ((20000 : Int) < s4v))) (fun hb83v => RQ.sub (E' := [(46, .slice a2 x2.length c2)]) ⟨lk_cv rfl hb83v, trivial⟩ (q_len rfl rfl rfl Try.underlying27)) rfl rfl rfl rfl rfl ?_
 refine simL_valc (b := ((!s1v) || (decide ((100 : Int) < (x0.length : Int)))) || (decide ((20000 : Int) < s4v))) (fun hb82v => RQ.sub (E' := [(47, .int .i64 (x2.length : Int))]) ⟨lk_cv rfl hb82v, trivial⟩ (q_gtr rfl rfl rfl)) rfl rfl rfl rfl rfl ?_
 refine simL_val (q_or rfl rfl rfl) rfl rfl rfl (simL_nil (nrm_then ?_))
 refine sim_condb rfl (fun h25v => ?_) (fun h26v => ?_)
 refine sim_seq (sim_region ?_)
 refine simL_val (q_move rfl rfl) rfl rfl rfl ?_
 refine simL_val (q_asg rfl rfl) rfl rfl rfl (simL_nil (nrm_then (sim_rtn ?_)))
 refine rtn_then ?_
 exact rtn_fn () rfl rfl rfl (.sel 0 rfl (.nil _))
 refine sim_skip ?_
 refine nrm_then (sim_seq (sim_region ?_))
 refine simL_val (q_build (v := .agg #[]) rfl rfl (fun _ => by kernel_rfl)) rfl rfl rfl ?_
 refine simL_val (q_mkif rfl rfl Try.underlying62 rfl) rfl rfl rfl ?_
 refine simL_val (q_move rfl rfl) rfl rfl rfl ?_
 refine simL_val (q_move rfl rfl) rfl rfl rfl ?_
 refine simL_bind (fun s27v hs29v => ?_)
 refine simL_eff (re_call (vs := [.iface 62 (.agg #[]), .slice a0 x0.length c0, .int .i64 x1]) (cap := []) (A := []) (rst := [F]) rfl rfl rfl rfl rfl rfl Try.call63 (.sel 0 rfl (.nil _)) (codec_PutList_Entry_Entries.calls _ _ k a0 c0 x0 x1 (h0.up (Up.lend 0 rfl) (V61.up (Up.lend 0 rfl))) hc0 hm0) hs29v) rfl rfl rfl ?_
 intro y28v
 refine simL_val (q_move rfl rfl) rfl rfl rfl ?_
 refine simL_val (q_ext rfl rfl rfl) rfl rfl rfl ?_
 refine simL_val (q_ext rfl rfl rfl) rfl rfl rfl ?_
 refine simL_val (q_asg rfl rfl) rfl rfl rfl ?_
 refine simL_val (q_asg rfl rfl) rfl rfl rfl (simL_nil (nrm_then (sim_seq (sim_region ?_))))
 refine simL_val (q_move rfl rfl) rfl rfl rfl ?_
 refine simL_bind (fun s30v hs32v => ?_)
 refine simL_eff (re_call (vs := [.slice a0 x0.length c0]) (cap := []) (A := []) (rst := [Row 5 1 y28v.1 s27v.1.length y28v.2 (encB s27v.1), F]) rfl rfl rfl rfl rfl rfl Try.call64 (.sel 0 rfl (.sel 0 rfl (.nil _))) (synodlaw3_texts.calls _ _ k a0 c0 x0 (h0.up (Up.lend 1 rfl) (V61.up (Up.lend 1 rfl))) hc0 hm0) hs32v) rfl rfl rfl ?_
 intro y31v
 refine simL_val (q_move rfl rfl) rfl rfl rfl ?_
 refine simL_val (q_ext rfl rfl rfl) rfl rfl rfl ?_
 refine simL_val (q_ext rfl rfl rfl) rfl rfl rfl ?_
 refine simL_val (q_asg rfl rfl) rfl rfl rfl ?_
 refine simL_val (q_asg rfl rfl) rfl rfl rfl (simL_nil (nrm_then (sim_seq (sim_region ?_))))
 refine simL_val (q_move rfl rfl) rfl rfl rfl ?_
 refine simL_val (q_move rfl rfl) rfl rfl rfl ?_
 refine simL_val (q_move rfl rfl) rfl rfl rfl ?_
 refine simL_openV 0 rfl (fun rs33v hl34v => ?_)
 refine simL_openV 2 rfl (fun rs35v hl36v => ?_)
 refine simL_bind (fun s45v hs47v => ?_)
 refine simL_lend 0 rfl (fun hq37v hq38v hq39v hq40v => ?_)
 refine simL_lend 2 rfl (fun hq41v hq42v hq43v hq44v => ?_)
 refine simL_eff (re_call (vs := [.slice y31v.1 s30v.1.length y31v.2.1, .slice y31v.2.2.2.1 s30v.2.length y31v.2.2.2.2, .int .i64 x1]) (cap := []) (A := []) (rst := [Row 27 1 y31v.1 s30v.1.length y31v.2.1 rs33v.flatten, y31v.2.2.1, Row 3 1 y31v.2.2.2.1 s30v.2.length y31v.2.2.2.2 rs35v.flatten, Row 5 1 y28v.1 s27v.1.length y28v.2 (encB s27v.1), F]) rfl rfl rfl rfl rfl rfl Try.call65 (.sel 0 rfl (.sel 0 rfl (.sel 0 rfl (.sel 0 rfl (.sel 0 rfl (.nil _)))))) (synodref3_PutTexts.calls _ _ k y31v.1 y31v.2.1 s30v.1 y31v.2.2.2.1 y31v.2.2.2.2 s30v.2 x1 ((Rd.asV hl34v hq37v).up (Up.lend 0 rfl) (V27.up (Up.lend 1 rfl))) hq38v hq39v ((Rd.asV hl36v hq41v).up (Up.lend 2 rfl) (fun _ _ h => h)) hq42v hq43v) hs47v) rfl rfl rfl ?_
 intro y46v
 refine simL_val (q_move rfl rfl) rfl rfl rfl ?_
 refine simL_val (q_ext rfl rfl rfl) rfl rfl rfl ?_
 refine simL_val (q_ext rfl rfl rfl) rfl rfl rfl ?_
 refine simL_val (q_asg rfl rfl) rfl rfl rfl ?_
 refine simL_val (q_asg rfl rfl) rfl rfl rfl (simL_nil (nrm_then (sim_seq (sim_region ?_))))
 refine simL_val (q_move rfl rfl) rfl rfl rfl ?_
 refine simL_val (q_move rfl rfl) rfl rfl rfl ?_
 refine simL_bind (fun s56v hs58v => ?_)
 refine simL_lend 4 rfl (fun hq48v hq49v hq50v hq51v => ?_)
 refine simL_lend 0 rfl (fun hq52v hq53v hq54v hq55v => ?_)
 refine simL_eff (re_call (vs := [.slice y28v.1 s27v.1.length y28v.2, .slice y46v.1 s45v.1.length y46v.2]) (cap := []) (A := []) (rst := [Row 5 1 y46v.1 s45v.1.length y46v.2 (encB s45v.1), Row 27 1 y31v.1 s30v.1.length y31v.2.1 rs33v.flatten, y31v.2.2.1, Row 3 1 y31v.2.2.2.1 s30v.2.length y31v.2.2.2.2 rs35v.flatten, Row 5 1 y28v.1 s27v.1.length y28v.2 (encB s27v.1), F]) rfl rfl rfl rfl rfl rfl Try.call25 (.sel 0 rfl (.sel 0 rfl (.sel 0 rfl (.sel 0 rfl (.sel 0 rfl (.sel 0 rfl (.nil _))))))) (synodref_SameBytes.calls _ _ k y28v.1 y28v.2 s27v.1 y46v.1 y46v.2 s45v.1 (hq48v.lend 4 rfl) hq49v hq50v (hq52v.lend 0 rfl) hq53v hq54v) hs58v) rfl rfl rfl ?_
 intro y57v
 refine simL_val (q_asg rfl rfl) rfl rfl rfl (simL_nil (nrm_then (sim_seq (sim_seq (sim_region ?_)))))
 refine simL_val (q_move rfl rfl) rfl rfl rfl ?_
 refine simL_val (q_not rfl rfl) rfl rfl rfl ?_
 refine simL_val (q_move rfl rfl) rfl rfl rfl ?_
 refine simL_cut' 5 (S := Bool) (Unit) (fun s y => [(1, .int .i64 x1), (2, .slice a2 x2.length c2), (10, .slice y28v.1 s27v.1.length y28v.2), (81, .bool s)]) (fun s y => [Row 5 1 y28v.1 s27v.1.length y28v.2 (encB s27v.1), F]) ?_ ?_
 refine simL_caseb (fun hb64v => ?_) (fun hb65v => ?_)
 rw [hb64v]
 refine simL_skipd rfl rfl rfl rfl rfl rfl ?_
 refine simL_skipd rfl rfl rfl rfl rfl rfl ?_
 refine simL_skipd rfl rfl rfl rfl rfl rfl ?_
 refine simL_skipd rfl rfl rfl rfl rfl rfl ?_
 refine simL_val (q_pick rfl rfl rfl rfl rfl) rfl rfl rfl (simL_nil ?_)
 exact nrm_cut (s := true) () ⟨rfl, rfl, rfl, rfl, trivial⟩ (.sel 4 rfl (.sel 4 rfl (.nil _)))
 rw [hb65v]
 refine simL_valg (q_move rfl rfl) rfl rfl rfl rfl rfl rfl ?_
 refine simL_bind (fun s61v hs63v => ?_)
 refine simL_effg (re_call (vs := [.int .i64 s27v.2]) (cap := []) (A := []) (rst := [Row 5 1 y46v.1 s45v.1.length y46v.2 (encB s45v.1), Row 27 1 y31v.1 s30v.1.length y31v.2.1 rs33v.flatten, y31v.2.2.1, Row 3 1 y31v.2.2.2.1 s30v.2.length y31v.2.2.2.2 rs35v.flatten, Row 5 1 y28v.1 s27v.1.length y28v.2 (encB s27v.1), F]) rfl rfl rfl rfl rfl rfl Try.call26 (.sel 0 rfl (.sel 0 rfl (.sel 0 rfl (.sel 0 rfl (.sel 0 rfl (.sel 0 rfl (.nil _))))))) (synodref_Num.calls _ _ s27v.2 ) hs63v) rfl rfl rfl rfl rfl rfl ?_
 intro y62v
 refine simL_valg (q_move rfl rfl) rfl rfl rfl rfl rfl rfl ?_
 refine simL_valg (q_neq rfl rfl rfl) rfl rfl rfl rfl rfl rfl ?_
 refine simL_val (q_pick rfl rfl rfl rfl rfl) rfl rfl rfl (simL_nil ?_)
 exact nrm_cut (s := !decide (s61v = s45v.2)) () ⟨rfl, rfl, rfl, rfl, trivial⟩ (.sel 4 rfl (.sel 4 rfl (.nil _)))
 intro s59v y60v
 refine simL_nil (nrm_then ?_)
 refine sim_condb rfl (fun h66v => ?_) (fun h67v => ?_)
 refine sim_seq (sim_region ?_)
 refine simL_val (q_asg rfl rfl) rfl rfl rfl (simL_nil (nrm_then (sim_rtn ?_)))
 refine rtn_then ?_
 exact rtn_fn () rfl rfl rfl (.sel 1 rfl (.nil _))
 refine sim_skip ?_
 refine nrm_then (sim_seq (sim_region ?_))
 refine simL_val (q_move rfl rfl) rfl rfl rfl ?_
 refine simL_val (q_move rfl rfl) rfl rfl rfl ?_
 refine simL_bind (fun s68v hs70v => ?_)
 refine simL_eff (re_call (vs := [.slice a2 x2.length c2, .int .i64 x1]) (cap := []) (A := []) (rst := [Row 5 1 y28v.1 s27v.1.length y28v.2 (encB s27v.1), F]) rfl rfl rfl rfl rfl rfl Try.call66 (.sel 0 rfl (.sel 0 rfl (.nil _))) (synodlaw3_read.calls _ _ k a2 c2 x2 x1 (h2.lend 1 rfl) hc2 hm2) hs70v) rfl rfl rfl ?_
 intro y69v
 refine simL_val (q_asg rfl rfl) rfl rfl rfl (simL_nil (nrm_then (sim_seq (sim_region ?_))))
 refine simL_val (q_move rfl rfl) rfl rfl rfl ?_
 refine simL_val (q_move rfl rfl) rfl rfl rfl ?_
 refine simL_cut' 4 (S := Bool) (Unit) (fun s y => [(90, .bool s)]) (fun s y => [F]) ?_ ?_
 refine simL_caseb (fun hb80v => ?_) (fun hb81v => ?_)
 rw [hb80v]
 refine simL_valg (q_move rfl rfl) rfl rfl rfl rfl rfl rfl ?_
 refine simL_valg (q_move rfl rfl) rfl rfl rfl rfl rfl rfl ?_
 refine simL_bind (fun s77v hs79v => ?_)
 refine simL_lend 0 rfl (fun hq73v hq74v hq75v hq76v => ?_)
 refine simL_effg (re_call (vs := [.slice y28v.1 s27v.1.length y28v.2, .int .i64 x1]) (cap := []) (A := []) (rst := [Row 5 1 y28v.1 s27v.1.length y28v.2 (encB s27v.1), F]) rfl rfl rfl rfl rfl rfl Try.call66 (.sel 0 rfl (.sel 0 rfl (.nil _))) (synodlaw3_read.calls _ _ k y28v.1 y28v.2 s27v.1 x1 (hq73v.lend 0 rfl) hq74v hq75v) hs79v) rfl rfl rfl rfl rfl rfl ?_
 intro y78v
 refine simL_val (q_pick rfl rfl rfl rfl rfl) rfl rfl rfl (simL_nil ?_)
 exact nrm_cut (s := s77v) () ⟨rfl, trivial⟩ (.sel 1 rfl (.nil _))
 rw [hb81v]
 refine simL_skipd rfl rfl rfl rfl rfl rfl ?_
 refine simL_skipd rfl rfl rfl rfl rfl rfl ?_
 refine simL_skipd rfl rfl rfl rfl rfl rfl ?_
 refine simL_val (q_pick rfl rfl rfl rfl rfl) rfl rfl rfl (simL_nil ?_)
 exact nrm_cut (s := false) () ⟨rfl, trivial⟩ (.sel 1 rfl (.nil _))
 intro s71v y72v
 refine simL_val (q_asg rfl rfl) rfl rfl rfl (simL_nil (nrm_then (sim_rtn ?_)))
 exact rtn_fn () rfl rfl rfl (.sel 0 rfl (.nil _))

def synodref3_None.f (x0_0 : Int) (x0_1 : Int) (x0_2 : List UInt8) : Option (Bool) := some (((decide (x0_0 = (0 : Int))) && (decide (x0_1 = (0 : Int)))) && (decide ((x0_2.length : Int) = (0 : Int))))
theorem synodref3_None.calls (W : World) (F : HA) (x0_0 : Int) (x0_1 : Int) (a0_2 : Option Addr) (c0_2 : Nat) (x0_2 : List UInt8) (h0_2 : Rd F a0_2 (encB x0_2)) (hc0_2 : x0_2.length ≤ c0_2) (hm0_2 : c0_2 ≤ maxLen) :
    Fn Try.prog W 74 [.agg #[.int .i64 x0_0, .int .i64 x0_1, .slice a0_2 x0_2.length c0_2]] [] F (synodref3_None.f x0_0 x0_1 x0_2) (fun (r : Bool) (y : Unit) => .bool r) (fun r y => []) := by
 unfold synodref3_None.f
 refine fn_intro 17 Try.func74 rfl Try.ntmps74 rfl ?_
 refine sim_seq (sim_region ?_)
 refine simL_eff (re_box rfl rfl rfl) rfl rfl rfl ?_
 intro b1v
 refine simL_val (q_asg rfl rfl) rfl rfl rfl (simL_nil (nrm_then (sim_seq (sim_region ?_))))
 refine simL_val (q_fa rfl rfl Try.underlying29 rfl rfl Try.sizeOf3 rfl) rfl rfl rfl ?_
 refine simL_val (q_load rfl rfl Try.isAgg3 (.obj 0 rfl rfl)) rfl rfl rfl ?_
 refine simL_val (q_eql rfl rfl rfl) rfl rfl rfl ?_
 refine simL_val (q_move rfl rfl) rfl rfl rfl ?_
 refine simL_valc (b := decide (x0_0 = (0 : Int))) (fun hb8v => RQ.sub (E' := [(1, .pointer (some ⟨b1v, 0, none⟩))]) ⟨rfl, trivial⟩ (q_fa rfl rfl Try.underlying29 rfl rfl Try.sizeOf3 rfl)) rfl rfl rfl rfl rfl ?_
 refine simL_valc (b := decide (x0_0 = (0 : Int))) (fun hb7v => RQ.sub (E' := [(7, .pointer (some ⟨b1v, 1, none⟩))]) ⟨lk_cv rfl hb7v, trivial⟩ (q_load rfl rfl Try.isAgg3 (.obj 0 rfl rfl))) rfl rfl rfl rfl rfl ?_
 refine simL_valc (b := decide (x0_0 = (0 : Int))) (fun hb6v => RQ.sub (E' := [(8, .int .i64 x0_1)]) ⟨lk_cv rfl hb6v, trivial⟩ (q_eql rfl rfl rfl)) rfl rfl rfl rfl rfl ?_
 refine simL_val (q_and rfl rfl rfl) rfl rfl rfl ?_
 refine simL_val (q_move rfl rfl) rfl rfl rfl ?_
 refine simL_valc (b := (decide (x0_0 = (0 : Int))) && (decide (x0_1 = (0 : Int)))) (fun hb5v => RQ.sub (E' := [(1, .pointer (some ⟨b1v, 0, none⟩))]) ⟨rfl, trivial⟩ (q_fa rfl rfl Try.underlying29 rfl rfl Try.sizeOf27 rfl)) rfl rfl rfl rfl rfl ?_
 refine simL_valc (b := (decide (x0_0 = (0 : Int))) && (decide (x0_1 = (0 : Int)))) (fun hb4v => RQ.sub (E' := [(12, .pointer (some ⟨b1v, 2, none⟩))]) ⟨lk_cv rfl hb4v, trivial⟩ (q_load rfl rfl Try.isAgg27 (.obj 0 rfl rfl))) rfl rfl rfl rfl rfl ?_
 refine simL_valc (b := (decide (x0_0 = (0 : Int))) && (decide (x0_1 = (0 : Int)))) (fun hb3v => RQ.sub (E' := [(13, .slice a0_2 x0_2.length c0_2)]) ⟨lk_cv rfl hb3v, trivial⟩ (q_len rfl rfl rfl Try.underlying27)) rfl rfl rfl rfl rfl ?_
 refine simL_valc (b := (decide (x0_0 = (0 : Int))) && (decide (x0_1 = (0 : Int)))) (fun hb2v => RQ.sub (E' := [(14, .int .i64 (x0_2.length : Int))]) ⟨lk_cv rfl hb2v, trivial⟩ (q_eql rfl rfl rfl)) rfl rfl rfl rfl rfl ?_
 refine simL_val (q_and rfl rfl rfl) rfl rfl rfl ?_
 refine simL_val (q_asg rfl rfl) rfl rfl rfl (simL_nil (nrm_then (sim_rtn ?_)))
 exact rtn_fn () rfl rfl rfl (.sel 1 rfl (.nil _))
def synodref3_None.v (x0_0 : Int) (x0_1 : Int) (x0_2 : List UInt8) : Bool := (synodref3_None.f x0_0 x0_1 x0_2).getD false
theorem synodref3_None.tot (x0_0 : Int) (x0_1 : Int) (x0_2 : List UInt8) : synodref3_None.f x0_0 x0_1 x0_2 = some (synodref3_None.v x0_0 x0_1 x0_2) := by
  have h : ∃ r, synodref3_None.f x0_0 x0_1 x0_2 = some r := by
    unfold synodref3_None.f
    repeat' (first | exact ⟨_, rfl⟩ | split | simp only [Option.bind_some])
  obtain ⟨r, h⟩ := h
  unfold synodref3_None.v
  rw [h]; rfl
end Go.Proofs.Ytdoghfenhoigmaa

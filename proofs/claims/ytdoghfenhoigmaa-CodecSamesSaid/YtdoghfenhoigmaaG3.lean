/- Printed by gen.py: pure functions and the proofs that the Go functions simulate them. Conditions: as each theorem says. -/
import Derived.Test.YtdoghfenhoigmaaG2
namespace Go.Proofs.Ytdoghfenhoigmaa
open Go.RowKit
set_option linter.unusedVariables false
set_option maxRecDepth 20000
set_option maxHeartbeats 2000000
def synodref3_app.l1 (x0_3 : Int) (x0_4 : Int) (x0_10 : List (Int × Int × Int × List UInt8)) : Nat → Int → Int → Option ((Unit) ⊕ (Int))
  | 0, _, _ => none
  | k + 1, z35v, z36v => if z36v < (x0_10.length : Int) then (if 0 ≤ z36v ∧ z36v < (x0_10.length : Int) then (if (((!decide ((x0_10.getD z36v.toNat ((0 : Int), (0 : Int), (0 : Int), ([] : List UInt8))).2.1 = IntKind.i64.wrap ((IntKind.i64.wrap (x0_4 + 1)) + z36v))) || (decide ((x0_10.getD z36v.toNat ((0 : Int), (0 : Int), (0 : Int), ([] : List UInt8))).1 < z35v))) || (decide (x0_3 < (x0_10.getD z36v.toNat ((0 : Int), (0 : Int), (0 : Int), ([] : List UInt8))).1))) = true then (some (.inr 4)) else (synodref3_app.l1 x0_3 x0_4 x0_10 k ((x0_10.getD z36v.toNat ((0 : Int), (0 : Int), (0 : Int), ([] : List UInt8))).1) (IntKind.i64.wrap (z36v + 1)))) else none) else (some (.inl ()))
def synodref3_app.l0 (x0_10 : List (Int × Int × Int × List UInt8)) : Nat → Int → Option ((Unit) ⊕ (Int))
  | 0, _ => none
  | k + 1, z8v => if z8v < (x0_10.length : Int) then (if 0 ≤ z8v ∧ z8v < (x0_10.length : Int) then ((synodref3_CheckEntry.f ((x0_10.getD z8v.toNat ((0 : Int), (0 : Int), (0 : Int), ([] : List UInt8))).1) ((x0_10.getD z8v.toNat ((0 : Int), (0 : Int), (0 : Int), ([] : List UInt8))).2.1) ((x0_10.getD z8v.toNat ((0 : Int), (0 : Int), (0 : Int), ([] : List UInt8))).2.2.1) ((x0_10.getD z8v.toNat ((0 : Int), (0 : Int), (0 : Int), ([] : List UInt8))).2.2.2)).bind fun s24v => (if s24v = (0 : Int) then (synodref3_app.l0 x0_10 k (IntKind.i64.wrap (z8v + 1))) else (some (.inr s24v)))) else none) else (some (.inl ()))
def synodref3_app.f (k : Nat) (x0_0 : Int) (x0_1 : Int) (x0_2 : Int) (x0_3 : Int) (x0_4 : Int) (x0_5 : Int) (x0_6 : Int) (x0_7 : Int) (x0_8 : Int) (x0_9 : Bool) (x0_10 : List (Int × Int × Int × List UInt8)) (x0_11 : Int) (x0_12 : Int) (x0_13 : List UInt8) : Option (Int) := if (64 : Int) < (x0_10.length : Int) then (some 3) else (orR (synodref3_app.l0 x0_10 k 0) fun s4v => (if ((decide (x0_3 < x0_5)) || (!((decide (x0_5 = (0 : Int))) == (decide (x0_4 = (0 : Int)))))) = true then (some 4) else (orR (synodref3_app.l1 x0_3 x0_4 x0_10 k x0_5 0) fun s31v => (some 0))))
theorem synodref3_app.calls (W : World) (F : HA) (k : Nat) (x0_0 : Int) (x0_1 : Int) (x0_2 : Int) (x0_3 : Int) (x0_4 : Int) (x0_5 : Int) (x0_6 : Int) (x0_7 : Int) (x0_8 : Int) (x0_9 : Bool) (a0_10 : Option Addr) (c0_10 : Nat) (x0_10 : List (Int × Int × Int × List UInt8)) (x0_11 : Int) (x0_12 : Int) (a0_13 : Option Addr) (c0_13 : Nat) (x0_13 : List UInt8) (h0_10 : RdV F 4 (V61 F) a0_10 x0_10) (hc0_10 : x0_10.length ≤ c0_10) (hm0_10 : c0_10 ≤ maxLen) (h0_13 : Rd F a0_13 (encB x0_13)) (hc0_13 : x0_13.length ≤ c0_13) (hm0_13 : c0_13 ≤ maxLen) :
    Fn Try.prog W 73 [.agg #[.int .i64 x0_0, .int .i64 x0_1, .int .i64 x0_2, .int .i64 x0_3, .int .i64 x0_4, .int .i64 x0_5, .int .i64 x0_6, .int .i64 x0_7, .int .i64 x0_8, .bool x0_9, .slice a0_10 x0_10.length c0_10, .int .i64 x0_11, .int .i64 x0_12, .slice a0_13 x0_13.length c0_13]] [] F (synodref3_app.f k x0_0 x0_1 x0_2 x0_3 x0_4 x0_5 x0_6 x0_7 x0_8 x0_9 x0_10 x0_11 x0_12 x0_13) (fun (r : Int) (y : Unit) => .int .i64 r) (fun r y => []) := by
 unfold synodref3_app.f
 refine fn_intro 79 Try.func73 rfl Try.ntmps73 rfl ?_
 refine sim_seq (sim_region ?_)
 refine simL_eff (re_box rfl rfl rfl) rfl rfl rfl ?_
 intro b1v
 refine simL_val (q_asg rfl rfl) rfl rfl rfl (simL_nil (nrm_then (sim_seq (sim_seq (sim_region ?_)))))
 refine simL_val (q_fa rfl rfl Try.underlying31 rfl rfl Try.sizeOf26 rfl) rfl rfl rfl ?_
 refine simL_val (q_load rfl rfl Try.isAgg26 (.obj 0 rfl rfl)) rfl rfl rfl ?_
 refine simL_val (q_len rfl rfl rfl Try.underlying26) rfl rfl rfl ?_
 refine simL_val (q_gtr rfl rfl rfl) rfl rfl rfl (simL_nil (nrm_then ?_))
 refine sim_cond rfl (fun h2v => ?_) (fun h3v => ?_)
 refine sim_seq (sim_region ?_)
 refine simL_val (q_asg rfl rfl) rfl rfl rfl (simL_nil (nrm_then (sim_rtn ?_)))
 refine rtn_then ?_
 exact rtn_fn () rfl rfl rfl (.sel 1 rfl (.nil _))
 refine sim_skip ?_
 refine nrm_then ?_
 refine sim_cutR (S := Unit) (Unit) (fun s y => [(1, .pointer (some ⟨b1v, 0, none⟩))]) (fun s y => [obj b1v 31 [.int .i64 x0_0, .int .i64 x0_1, .int .i64 x0_2, .int .i64 x0_3, .int .i64 x0_4, .int .i64 x0_5, .int .i64 x0_6, .int .i64 x0_7, .int .i64 x0_8, .bool x0_9, .slice a0_10 x0_10.length c0_10, .int .i64 x0_11, .int .i64 x0_12, .slice a0_13 x0_13.length c0_13], F]) ?_ ?_
 refine sim_seq (sim_region ?_)
 refine simL_val (q_asg rfl rfl) rfl rfl rfl (simL_nil (nrm_then ?_))
 refine sim_block ?_
 refine sim_loop (S := Int) (Unit) (fun k s => synodref3_app.l0 x0_10 k s) (fun s y => [(1, .pointer (some ⟨b1v, 0, none⟩)), (3, .int .i64 s)]) (fun s y => [obj b1v 31 [.int .i64 x0_0, .int .i64 x0_1, .int .i64 x0_2, .int .i64 x0_3, .int .i64 x0_4, .int .i64 x0_5, .int .i64 x0_6, .int .i64 x0_7, .int .i64 x0_8, .bool x0_9, .slice a0_10 x0_10.length c0_10, .int .i64 x0_11, .int .i64 x0_12, .slice a0_13 x0_13.length c0_13], F]) (fun _ => by rw [synodref3_app.l0]) ?_ k 0 () ⟨rfl, rfl, trivial⟩ (.sel 0 rfl (.sel 0 rfl (.nil _)))
 intro k s6v y7v
 refine sim_eq (by rw [synodref3_app.l0]) ?_
 refine sim_seq (sim_seq (sim_region ?_))
 refine simL_val (q_move rfl rfl) rfl rfl rfl ?_
 refine simL_val (q_fa rfl rfl Try.underlying31 rfl rfl Try.sizeOf26 rfl) rfl rfl rfl ?_
 refine simL_val (q_load rfl rfl Try.isAgg26 (.obj 0 rfl rfl)) rfl rfl rfl ?_
 refine simL_val (q_len rfl rfl rfl Try.underlying26) rfl rfl rfl ?_
 refine simL_val (q_lss rfl rfl rfl) rfl rfl rfl (simL_nil (nrm_then ?_))
 refine sim_cond rfl (fun h9v => ?_) (fun h10v => ?_)
 refine sim_skip ?_
 refine nrm_then (sim_seq ?_)
 refine sim_block ?_
 refine sim_seq (sim_region ?_)
 refine simL_val (q_fa rfl rfl Try.underlying31 rfl rfl Try.sizeOf26 rfl) rfl rfl rfl ?_
 refine simL_val (q_load rfl rfl Try.isAgg26 (.obj 0 rfl rfl)) rfl rfl rfl ?_
 refine simL_val (q_move rfl rfl) rfl rfl rfl ?_
 refine simL_ask (fun hi11v => ?_)
 obtain ⟨b12v, b12vo, r15v, ha13v, hV16v, hlr17v, hcell18v⟩ := RdV.pos h0_10 (Up.refl _) rfl (i := s6v.toNat) (by omega) ((0 : Int), (0 : Int), (0 : Int), ([] : List UInt8))
 obtain ⟨a19v, c20v, rfl, ⟨he21v, hc22v, hm23v⟩⟩ := hV16v
 refine simL_val (q_idx rfl rfl rfl ha13v Try.underlying26 Try.sizeOf61 hi11v.1 hi11v.2) rfl rfl rfl ?_
 refine simL_val (q_loads rfl rfl Try.isAgg61 Try.sizeOf61 rfl (fun j v hj => hcell18v 1 rfl j v hj)) rfl rfl rfl ?_
 refine simL_bind (fun s24v hs26v => ?_)
 refine simL_eff (re_call (vs := [.agg #[.int .i64 ((x0_10.getD s6v.toNat ((0 : Int), (0 : Int), (0 : Int), ([] : List UInt8))).1), .int .i64 ((x0_10.getD s6v.toNat ((0 : Int), (0 : Int), (0 : Int), ([] : List UInt8))).2.1), .int .i64 ((x0_10.getD s6v.toNat ((0 : Int), (0 : Int), (0 : Int), ([] : List UInt8))).2.2.1), .slice a19v (((x0_10.getD s6v.toNat ((0 : Int), (0 : Int), (0 : Int), ([] : List UInt8))).2.2.2).length) c20v]]) (cap := []) (A := []) (rst := [obj b1v 31 [.int .i64 x0_0, .int .i64 x0_1, .int .i64 x0_2, .int .i64 x0_3, .int .i64 x0_4, .int .i64 x0_5, .int .i64 x0_6, .int .i64 x0_7, .int .i64 x0_8, .bool x0_9, .slice a0_10 x0_10.length c0_10, .int .i64 x0_11, .int .i64 x0_12, .slice a0_13 x0_13.length c0_13], F]) rfl rfl rfl rfl rfl rfl Try.call35 (.sel 0 rfl (.sel 0 rfl (.nil _))) (synodref3_CheckEntry.calls _ _ ((x0_10.getD s6v.toNat ((0 : Int), (0 : Int), (0 : Int), ([] : List UInt8))).1) ((x0_10.getD s6v.toNat ((0 : Int), (0 : Int), (0 : Int), ([] : List UInt8))).2.1) ((x0_10.getD s6v.toNat ((0 : Int), (0 : Int), (0 : Int), ([] : List UInt8))).2.2.1) a19v c20v ((x0_10.getD s6v.toNat ((0 : Int), (0 : Int), (0 : Int), ([] : List UInt8))).2.2.2) (he21v.lend 1 rfl) hc22v hm23v) hs26v) rfl rfl rfl ?_
 intro y25v
 refine simL_val (q_asg rfl rfl) rfl rfl rfl (simL_nil (nrm_then (sim_seq (sim_region ?_))))
 refine simL_val (q_move rfl rfl) rfl rfl rfl ?_
 refine simL_val (q_neq rfl rfl rfl) rfl rfl rfl (simL_nil (nrm_then ?_))
 refine sim_condn rfl (fun h27v => ?_) (fun h28v => ?_)
 refine sim_skip ?_
 refine nrm_block (nrm_then (sim_region ?_))
 refine simL_val (q_move rfl rfl) rfl rfl rfl ?_
 refine simL_val (q_add rfl rfl rfl) rfl rfl rfl ?_
 refine simL_val (q_asg rfl rfl) rfl rfl rfl (simL_nil ?_)
 exact nrm_again (s := IntKind.i64.wrap (s6v + 1)) () ⟨rfl, rfl, trivial⟩ (.sel 0 rfl (.sel 0 rfl (.nil _)))
 refine sim_seq (sim_region ?_)
 refine simL_val (q_move rfl rfl) rfl rfl rfl ?_
 refine simL_val (q_asg rfl rfl) rfl rfl rfl (simL_nil (nrm_then (sim_rtn ?_)))
 refine rtn_block ?_
 refine rtn_then ?_
 refine rtn_loop ?_
 refine rtn_block ?_
 refine rtn_cutR ?_
 exact rtn_fn () rfl rfl rfl (.sel 1 rfl (.nil _))
 refine sim_exi ?_
 refine exi_then ?_
 refine exi_loop ?_
 refine exi_here ?_
 exact nrm_cutR (s := ()) () ⟨rfl, trivial⟩ (.sel 0 rfl (.sel 0 rfl (.nil _)))
 intro s4v y5v
 refine sim_seq (sim_seq (sim_region ?_))
 refine simL_val (q_fa rfl rfl Try.underlying31 rfl rfl Try.sizeOf3 rfl) rfl rfl rfl ?_
 refine simL_val (q_load rfl rfl Try.isAgg3 (.obj 0 rfl rfl)) rfl rfl rfl ?_
 refine simL_val (q_fa rfl rfl Try.underlying31 rfl rfl Try.sizeOf3 rfl) rfl rfl rfl ?_
 refine simL_val (q_load rfl rfl Try.isAgg3 (.obj 0 rfl rfl)) rfl rfl rfl ?_
 refine simL_val (q_gtr rfl rfl rfl) rfl rfl rfl ?_
 refine simL_val (q_move rfl rfl) rfl rfl rfl ?_
 refine simL_valc (b := decide (x0_3 < x0_5)) (fun hb70v => RQ.sub (E' := [(1, .pointer (some ⟨b1v, 0, none⟩))]) ⟨rfl, trivial⟩ (q_fa rfl rfl Try.underlying31 rfl rfl Try.sizeOf3 rfl)) rfl rfl rfl rfl rfl ?_
 refine simL_valc (b := decide (x0_3 < x0_5)) (fun hb69v => RQ.sub (E' := [(34, .pointer (some ⟨b1v, 5, none⟩))]) ⟨lk_cv rfl hb69v, trivial⟩ (q_load rfl rfl Try.isAgg3 (.obj 0 rfl rfl))) rfl rfl rfl rfl rfl ?_
 refine simL_valc (b := decide (x0_3 < x0_5)) (fun hb68v => RQ.sub (E' := [(35, .int .i64 x0_5)]) ⟨lk_cv rfl hb68v, trivial⟩ (q_eql rfl rfl rfl)) rfl rfl rfl rfl rfl ?_
 refine simL_valc (b := decide (x0_3 < x0_5)) (fun hb67v => RQ.sub (E' := [(1, .pointer (some ⟨b1v, 0, none⟩))]) ⟨rfl, trivial⟩ (q_fa rfl rfl Try.underlying31 rfl rfl Try.sizeOf3 rfl)) rfl rfl rfl rfl rfl ?_
 refine simL_valc (b := decide (x0_3 < x0_5)) (fun hb66v => RQ.sub (E' := [(37, .pointer (some ⟨b1v, 4, none⟩))]) ⟨lk_cv rfl hb66v, trivial⟩ (q_load rfl rfl Try.isAgg3 (.obj 0 rfl rfl))) rfl rfl rfl rfl rfl ?_
 refine simL_valc (b := decide (x0_3 < x0_5)) (fun hb65v => RQ.sub (E' := [(38, .int .i64 x0_4)]) ⟨lk_cv rfl hb65v, trivial⟩ (q_eql rfl rfl rfl)) rfl rfl rfl rfl rfl ?_
 refine simL_valc (b := decide (x0_3 < x0_5)) (fun hb64v => RQ.sub (E' := [(36, .bool (decide (x0_5 = (0 : Int)))), (39, .bool (decide (x0_4 = (0 : Int))))]) ⟨lk_cv rfl hb64v, lk_cv rfl hb64v, trivial⟩ (q_neb rfl rfl rfl Try.underlying4)) rfl rfl rfl rfl rfl ?_
 refine simL_val (q_or rfl rfl rfl) rfl rfl rfl (simL_nil (nrm_then ?_))
 refine sim_condb rfl (fun h29v => ?_) (fun h30v => ?_)
 refine sim_seq (sim_region ?_)
 refine simL_val (q_asg rfl rfl) rfl rfl rfl (simL_nil (nrm_then (sim_rtn ?_)))
 refine rtn_then ?_
 exact rtn_fn () rfl rfl rfl (.sel 1 rfl (.nil _))
 refine sim_skip ?_
 refine nrm_then (sim_seq (sim_region ?_))
 refine simL_val (q_fa rfl rfl Try.underlying31 rfl rfl Try.sizeOf3 rfl) rfl rfl rfl ?_
 refine simL_val (q_load rfl rfl Try.isAgg3 (.obj 0 rfl rfl)) rfl rfl rfl ?_
 refine simL_val (q_asg rfl rfl) rfl rfl rfl (simL_nil (nrm_then ?_))
 refine sim_cutR (S := Unit) (Unit) (fun s y => []) (fun s y => [F]) ?_ ?_
 refine sim_seq (sim_region ?_)
 refine simL_val (q_asg rfl rfl) rfl rfl rfl (simL_nil (nrm_then ?_))
 refine sim_block ?_
 refine sim_loop (S := Int × Int) (Unit) (fun k s => synodref3_app.l1 x0_3 x0_4 x0_10 k s.1 s.2) (fun s y => [(1, .pointer (some ⟨b1v, 0, none⟩)), (5, .int .i64 s.1), (6, .int .i64 s.2)]) (fun s y => [obj b1v 31 [.int .i64 x0_0, .int .i64 x0_1, .int .i64 x0_2, .int .i64 x0_3, .int .i64 x0_4, .int .i64 x0_5, .int .i64 x0_6, .int .i64 x0_7, .int .i64 x0_8, .bool x0_9, .slice a0_10 x0_10.length c0_10, .int .i64 x0_11, .int .i64 x0_12, .slice a0_13 x0_13.length c0_13], F]) (fun _ => by rw [synodref3_app.l1]) ?_ k (x0_5, 0) () ⟨rfl, rfl, rfl, trivial⟩ (.sel 0 rfl (.sel 0 rfl (.nil _)))
 intro k s33v y34v
 refine sim_eq (by rw [synodref3_app.l1]) ?_
 refine sim_seq (sim_seq (sim_region ?_))
 refine simL_val (q_move rfl rfl) rfl rfl rfl ?_
 refine simL_val (q_fa rfl rfl Try.underlying31 rfl rfl Try.sizeOf26 rfl) rfl rfl rfl ?_
 refine simL_val (q_load rfl rfl Try.isAgg26 (.obj 0 rfl rfl)) rfl rfl rfl ?_
 refine simL_val (q_len rfl rfl rfl Try.underlying26) rfl rfl rfl ?_
 refine simL_val (q_lss rfl rfl rfl) rfl rfl rfl (simL_nil (nrm_then ?_))
 refine sim_cond rfl (fun h37v => ?_) (fun h38v => ?_)
 refine sim_skip ?_
 refine nrm_then (sim_seq ?_)
 refine sim_block ?_
 refine sim_seq (sim_region ?_)
 refine simL_val (q_fa rfl rfl Try.underlying31 rfl rfl Try.sizeOf26 rfl) rfl rfl rfl ?_
 refine simL_val (q_load rfl rfl Try.isAgg26 (.obj 0 rfl rfl)) rfl rfl rfl ?_
 refine simL_val (q_move rfl rfl) rfl rfl rfl ?_
 refine simL_ask (fun hi39v => ?_)
 obtain ⟨b40v, b40vo, r43v, ha41v, hV44v, hlr45v, hcell46v⟩ := RdV.pos h0_10 (Up.refl _) rfl (i := s33v.2.toNat) (by omega) ((0 : Int), (0 : Int), (0 : Int), ([] : List UInt8))
 obtain ⟨a47v, c48v, rfl, ⟨he49v, hc50v, hm51v⟩⟩ := hV44v
 refine simL_val (q_idx rfl rfl rfl ha41v Try.underlying26 Try.sizeOf61 hi39v.1 hi39v.2) rfl rfl rfl ?_
 refine simL_val (q_loads rfl rfl Try.isAgg61 Try.sizeOf61 rfl (fun j v hj => hcell46v 1 rfl j v hj)) rfl rfl rfl ?_
 refine simL_eff (re_alloc rfl Try.zeroValue61 rfl) rfl rfl rfl ?_
 intro b52v
 refine simL_do (re_store 0 rfl rfl rfl Try.sizeOf61 rfl rfl (one_of (by rfl)) rfl rfl) rfl rfl ?_
 intro _
 refine simL_nil (nrm_then (sim_seq (sim_seq (sim_region ?_))))
 refine simL_val (q_fa rfl rfl Try.underlying61 rfl rfl Try.sizeOf3 rfl) rfl rfl rfl ?_
 refine simL_val (q_load rfl rfl Try.isAgg3 (.obj 0 rfl rfl)) rfl rfl rfl ?_
 refine simL_val (q_fa rfl rfl Try.underlying31 rfl rfl Try.sizeOf3 rfl) rfl rfl rfl ?_
 refine simL_val (q_load rfl rfl Try.isAgg3 (.obj 1 rfl rfl)) rfl rfl rfl ?_
 refine simL_val (q_add rfl rfl rfl) rfl rfl rfl ?_
 refine simL_val (q_move rfl rfl) rfl rfl rfl ?_
 refine simL_val (q_add rfl rfl rfl) rfl rfl rfl ?_
 refine simL_val (q_neq rfl rfl rfl) rfl rfl rfl ?_
 refine simL_val (q_move rfl rfl) rfl rfl rfl ?_
 refine simL_valc (b := !decide ((x0_10.getD s33v.2.toNat ((0 : Int), (0 : Int), (0 : Int), ([] : List UInt8))).2.1 = IntKind.i64.wrap ((IntKind.i64.wrap (x0_4 + 1)) + s33v.2))) (fun hb63v => RQ.sub (E' := [(7, .pointer (some ⟨b52v, 0, none⟩))]) ⟨rfl, trivial⟩ (q_fa rfl rfl Try.underlying61 rfl rfl Try.sizeOf3 rfl)) rfl rfl rfl rfl rfl ?_
 refine simL_valc (b := !decide ((x0_10.getD s33v.2.toNat ((0 : Int), (0 : Int), (0 : Int), ([] : List UInt8))).2.1 = IntKind.i64.wrap ((IntKind.i64.wrap (x0_4 + 1)) + s33v.2))) (fun hb62v => RQ.sub (E' := [(65, .pointer (some ⟨b52v, 0, none⟩))]) ⟨lk_cv rfl hb62v, trivial⟩ (q_load rfl rfl Try.isAgg3 (.obj 0 rfl rfl))) rfl rfl rfl rfl rfl ?_
 refine simL_valc (b := !decide ((x0_10.getD s33v.2.toNat ((0 : Int), (0 : Int), (0 : Int), ([] : List UInt8))).2.1 = IntKind.i64.wrap ((IntKind.i64.wrap (x0_4 + 1)) + s33v.2))) (fun hb61v => RQ.sub (E' := [(5, .int .i64 s33v.1)]) ⟨rfl, trivial⟩ (q_move rfl rfl)) rfl rfl rfl rfl rfl ?_
 refine simL_valc (b := !decide ((x0_10.getD s33v.2.toNat ((0 : Int), (0 : Int), (0 : Int), ([] : List UInt8))).2.1 = IntKind.i64.wrap ((IntKind.i64.wrap (x0_4 + 1)) + s33v.2))) (fun hb60v => RQ.sub (E' := [(66, .int .i64 ((x0_10.getD s33v.2.toNat ((0 : Int), (0 : Int), (0 : Int), ([] : List UInt8))).1)), (67, .int .i64 s33v.1)]) ⟨lk_cv rfl hb60v, lk_cv rfl hb60v, trivial⟩ (q_lss rfl rfl rfl)) rfl rfl rfl rfl rfl ?_
 refine simL_val (q_or rfl rfl rfl) rfl rfl rfl ?_
 refine simL_val (q_move rfl rfl) rfl rfl rfl ?_
 refine simL_valc (b := (!decide ((x0_10.getD s33v.2.toNat ((0 : Int), (0 : Int), (0 : Int), ([] : List UInt8))).2.1 = IntKind.i64.wrap ((IntKind.i64.wrap (x0_4 + 1)) + s33v.2))) || (decide ((x0_10.getD s33v.2.toNat ((0 : Int), (0 : Int), (0 : Int), ([] : List UInt8))).1 < s33v.1))) (fun hb59v => RQ.sub (E' := [(7, .pointer (some ⟨b52v, 0, none⟩))]) ⟨rfl, trivial⟩ (q_fa rfl rfl Try.underlying61 rfl rfl Try.sizeOf3 rfl)) rfl rfl rfl rfl rfl ?_
 refine simL_valc (b := (!decide ((x0_10.getD s33v.2.toNat ((0 : Int), (0 : Int), (0 : Int), ([] : List UInt8))).2.1 = IntKind.i64.wrap ((IntKind.i64.wrap (x0_4 + 1)) + s33v.2))) || (decide ((x0_10.getD s33v.2.toNat ((0 : Int), (0 : Int), (0 : Int), ([] : List UInt8))).1 < s33v.1))) (fun hb58v => RQ.sub (E' := [(71, .pointer (some ⟨b52v, 0, none⟩))]) ⟨lk_cv rfl hb58v, trivial⟩ (q_load rfl rfl Try.isAgg3 (.obj 0 rfl rfl))) rfl rfl rfl rfl rfl ?_
 refine simL_valc (b := (!decide ((x0_10.getD s33v.2.toNat ((0 : Int), (0 : Int), (0 : Int), ([] : List UInt8))).2.1 = IntKind.i64.wrap ((IntKind.i64.wrap (x0_4 + 1)) + s33v.2))) || (decide ((x0_10.getD s33v.2.toNat ((0 : Int), (0 : Int), (0 : Int), ([] : List UInt8))).1 < s33v.1))) (fun hb57v => RQ.sub (E' := [(1, .pointer (some ⟨b1v, 0, none⟩))]) ⟨rfl, trivial⟩ (q_fa rfl rfl Try.underlying31 rfl rfl Try.sizeOf3 rfl)) rfl rfl rfl rfl rfl ?_
 refine simL_valc (b := (!decide ((x0_10.getD s33v.2.toNat ((0 : Int), (0 : Int), (0 : Int), ([] : List UInt8))).2.1 = IntKind.i64.wrap ((IntKind.i64.wrap (x0_4 + 1)) + s33v.2))) || (decide ((x0_10.getD s33v.2.toNat ((0 : Int), (0 : Int), (0 : Int), ([] : List UInt8))).1 < s33v.1))) (fun hb56v => RQ.sub (E' := [(73, .pointer (some ⟨b1v, 3, none⟩))]) ⟨lk_cv rfl hb56v, trivial⟩ (q_load rfl rfl Try.isAgg3 (.obj 1 rfl rfl))) rfl rfl rfl rfl rfl ?_
 refine simL_valc (b := (!decide ((x0_10.getD s33v.2.toNat ((0 : Int), (0 : Int), (0 : Int), ([] : List UInt8))).2.1 = IntKind.i64.wrap ((IntKind.i64.wrap (x0_4 + 1)) + s33v.2))) || (decide ((x0_10.getD s33v.2.toNat ((0 : Int), (0 : Int), (0 : Int), ([] : List UInt8))).1 < s33v.1))) (fun hb55v => RQ.sub (E' := [(72, .int .i64 ((x0_10.getD s33v.2.toNat ((0 : Int), (0 : Int), (0 : Int), ([] : List UInt8))).1)), (74, .int .i64 x0_3)]) ⟨lk_cv rfl hb55v, lk_cv rfl hb55v, trivial⟩ (q_gtr rfl rfl rfl)) rfl rfl rfl rfl rfl ?_
 refine simL_val (q_or rfl rfl rfl) rfl rfl rfl (simL_nil (nrm_then ?_))
 refine sim_condb rfl (fun h53v => ?_) (fun h54v => ?_)
 refine sim_seq (sim_region ?_)
 refine simL_val (q_asg rfl rfl) rfl rfl rfl (simL_nil (nrm_then (sim_rtn ?_)))
 refine rtn_then ?_
 refine rtn_block ?_
 refine rtn_then ?_
 refine rtn_loop ?_
 refine rtn_block ?_
 refine rtn_cutR ?_
 exact rtn_fn () rfl rfl rfl (.sel 2 rfl (.nil _))
 refine sim_skip ?_
 refine nrm_then (sim_region ?_)
 refine simL_val (q_fa rfl rfl Try.underlying61 rfl rfl Try.sizeOf3 rfl) rfl rfl rfl ?_
 refine simL_val (q_load rfl rfl Try.isAgg3 (.obj 0 rfl rfl)) rfl rfl rfl ?_
 refine simL_val (q_asg rfl rfl) rfl rfl rfl (simL_nil (nrm_block (nrm_then (sim_region ?_))))
 refine simL_val (q_move rfl rfl) rfl rfl rfl ?_
 refine simL_val (q_add rfl rfl rfl) rfl rfl rfl ?_
 refine simL_val (q_asg rfl rfl) rfl rfl rfl (simL_nil ?_)
 exact nrm_again (s := ((x0_10.getD s33v.2.toNat ((0 : Int), (0 : Int), (0 : Int), ([] : List UInt8))).1, IntKind.i64.wrap (s33v.2 + 1))) () ⟨rfl, rfl, rfl, trivial⟩ (.sel 1 rfl (.sel 1 rfl (.nil _)))
 refine sim_exi ?_
 refine exi_then ?_
 refine exi_loop ?_
 refine exi_here ?_
 exact nrm_cutR (s := ()) () trivial (.sel 1 rfl (.nil _))
 intro s31v y32v
 refine sim_seq (sim_region ?_)
 refine simL_val (q_asg rfl rfl) rfl rfl rfl (simL_nil (nrm_then (sim_rtn ?_)))
 exact rtn_fn () rfl rfl rfl (.sel 0 rfl (.nil _))

def synodref3_None.f (x0_0 : Int) (x0_1 : Int) (x0_2 : List UInt8) : Option (Bool) := some (((decide (x0_0 = (0 : Int))) && (decide (x0_1 = (0 : Int)))) && (decide ((x0_2.length : Int) = (0 : Int))))
theorem synodref3_None.calls (W : World) (F : HA) (x0_0 : Int) (x0_1 : Int) (a0_2 : Option Addr) (c0_2 : Nat) (x0_2 : List UInt8) (h0_2 : Rd F a0_2 (encB x0_2)) (hc0_2 : x0_2.length ≤ c0_2) (hm0_2 : c0_2 ≤ maxLen) :
    Fn Try.prog W 74 [.agg #[.int .i64 x0_0, .int .i64 x0_1, .slice a0_2 x0_2.length c0_2]] [] F (synodref3_None.f x0_0 x0_1 x0_2) (fun (r : Bool) (y : Unit) => .bool r) (fun r y => []) := by
 unfold synodref3_None.f
 refine fn_intro 17 Try.func74 rfl Try.ntmps74 rfl ?_
 refine sim_seq (sim_region ?_)
 refine simL_eff (re_box rfl rfl rfl) rfl rfl rfl ?_
 intro b1v
 refine simL_val (q_asg rfl rfl) rfl rfl rfl (simL_nil (nrm_then (sim_seq (sim_region ?_))))
 refine simL_val (q_fa rfl rfl Try.underlying29 rfl rfl Try.sizeOf3 rfl) rfl rfl rfl ?_
 refine simL_val (q_load rfl rfl Try.isAgg3 (.obj 0 rfl rfl)) rfl rfl rfl ?_
 refine simL_val (q_eql rfl rfl rfl) rfl rfl rfl ?_
 refine simL_val (q_move rfl rfl) rfl rfl rfl ?_
 refine simL_valc (b := decide (x0_0 = (0 : Int))) (fun hb8v => RQ.sub (E' := [(1, .pointer (some ⟨b1v, 0, none⟩))]) ⟨rfl, trivial⟩ (q_fa rfl rfl Try.underlying29 rfl rfl Try.sizeOf3 rfl)) rfl rfl rfl rfl rfl ?_
 refine simL_valc (b := decide (x0_0 = (0 : Int))) (fun hb7v => RQ.sub (E' := [(7, .pointer (some ⟨b1v, 1, none⟩))]) ⟨lk_cv rfl hb7v, trivial⟩ (q_load rfl rfl Try.isAgg3 (.obj 0 rfl rfl))) rfl rfl rfl rfl rfl ?_
 refine simL_valc (b := decide (x0_0 = (0 : Int))) (fun hb6v => RQ.sub (E' := [(8, .int .i64 x0_1)]) ⟨lk_cv rfl hb6v, trivial⟩ (q_eql rfl rfl rfl)) rfl rfl rfl rfl rfl ?_
 refine simL_val (q_and rfl rfl rfl) rfl rfl rfl ?_
 refine simL_val (q_move rfl rfl) rfl rfl rfl ?_
 refine simL_valc (b := (decide (x0_0 = (0 : Int))) && (decide (x0_1 = (0 : Int)))) (fun hb5v => RQ.sub (E' := [(1, .pointer (some ⟨b1v, 0, none⟩))]) ⟨rfl, trivial⟩ (q_fa rfl rfl Try.underlying29 rfl rfl Try.sizeOf27 rfl)) rfl rfl rfl rfl rfl ?_
 refine simL_valc (b := (decide (x0_0 = (0 : Int))) && (decide (x0_1 = (0 : Int)))) (fun hb4v => RQ.sub (E' := [(12, .pointer (some ⟨b1v, 2, none⟩))]) ⟨lk_cv rfl hb4v, trivial⟩ (q_load rfl rfl Try.isAgg27 (.obj 0 rfl rfl))) rfl rfl rfl rfl rfl ?_
 refine simL_valc (b := (decide (x0_0 = (0 : Int))) && (decide (x0_1 = (0 : Int)))) (fun hb3v => RQ.sub (E' := [(13, .slice a0_2 x0_2.length c0_2)]) ⟨lk_cv rfl hb3v, trivial⟩ (q_len rfl rfl rfl Try.underlying27)) rfl rfl rfl rfl rfl ?_
 refine simL_valc (b := (decide (x0_0 = (0 : Int))) && (decide (x0_1 = (0 : Int)))) (fun hb2v => RQ.sub (E' := [(14, .int .i64 (x0_2.length : Int))]) ⟨lk_cv rfl hb2v, trivial⟩ (q_eql rfl rfl rfl)) rfl rfl rfl rfl rfl ?_
 refine simL_val (q_and rfl rfl rfl) rfl rfl rfl ?_
 refine simL_val (q_asg rfl rfl) rfl rfl rfl (simL_nil (nrm_then (sim_rtn ?_)))
 exact rtn_fn () rfl rfl rfl (.sel 1 rfl (.nil _))
def synodref3_None.v (x0_0 : Int) (x0_1 : Int) (x0_2 : List UInt8) : Bool := (synodref3_None.f x0_0 x0_1 x0_2).getD false
theorem synodref3_None.tot (x0_0 : Int) (x0_1 : Int) (x0_2 : List UInt8) : synodref3_None.f x0_0 x0_1 x0_2 = some (synodref3_None.v x0_0 x0_1 x0_2) := by
  have h : ∃ r, synodref3_None.f x0_0 x0_1 x0_2 = some r := by
    unfold synodref3_None.f
    repeat' (first | exact ⟨_, rfl⟩ | split | simp only [Option.bind_some])
  obtain ⟨r, h⟩ := h
  unfold synodref3_None.v
  rw [h]; rfl

def synodref3_CheckSnap.f (x0_0 : Int) (x0_1 : Int) (x0_2 : List UInt8) : Option (Int) := (synodref3_None.f x0_0 x0_1 x0_2).bind fun s2v => (if s2v = true then (some 0) else ((synodref3_within.f x0_0 (1 : Int) (4611686018427387904 : Int)).bind fun s7v => ((if (!s7v) = true then (some true) else ((synodref3_within.f x0_1 (1 : Int) (4611686018427387904 : Int)).bind fun s12v => (some (!s12v)))).bind fun s10v => (if s10v = true then (some 1) else (if (524288 : Int) < (x0_2.length : Int) then (some 3) else (some 0))))))
theorem synodref3_CheckSnap.calls (W : World) (F : HA) (x0_0 : Int) (x0_1 : Int) (a0_2 : Option Addr) (c0_2 : Nat) (x0_2 : List UInt8) (h0_2 : Rd F a0_2 (encB x0_2)) (hc0_2 : x0_2.length ≤ c0_2) (hm0_2 : c0_2 ≤ maxLen) :
    Fn Try.prog W 42 [.agg #[.int .i64 x0_0, .int .i64 x0_1, .slice a0_2 x0_2.length c0_2]] [] F (synodref3_CheckSnap.f x0_0 x0_1 x0_2) (fun (r : Int) (y : Unit) => .int .i64 r) (fun r y => []) := by
 unfold synodref3_CheckSnap.f
 refine fn_intro 19 Try.func42 rfl Try.ntmps42 rfl ?_
 refine sim_seq (sim_region ?_)
 refine simL_eff (re_box rfl rfl rfl) rfl rfl rfl ?_
 intro b1v
 refine simL_val (q_asg rfl rfl) rfl rfl rfl (simL_nil (nrm_then (sim_seq (sim_seq (sim_region ?_)))))
 refine simL_val (q_loado 0 rfl rfl Try.isAgg29 Try.sizeOf29 rfl rfl) rfl rfl rfl ?_
 refine simL_bind (fun s2v hs4v => ?_)
 refine simL_eff (re_call (vs := [.agg #[.int .i64 x0_0, .int .i64 x0_1, .slice a0_2 x0_2.length c0_2]]) (cap := []) (A := []) (rst := [obj b1v 29 [.int .i64 x0_0, .int .i64 x0_1, .slice a0_2 x0_2.length c0_2], F]) rfl rfl rfl rfl rfl rfl Try.call74 (.sel 0 rfl (.sel 0 rfl (.nil _))) (synodref3_None.calls _ _ x0_0 x0_1 a0_2 c0_2 x0_2 (h0_2.lend 1 rfl) hc0_2 hm0_2) hs4v) rfl rfl rfl ?_
 intro y3v
 refine simL_nil (nrm_then ?_)
 refine sim_condb rfl (fun h5v => ?_) (fun h6v => ?_)
 refine sim_seq (sim_region ?_)
 refine simL_val (q_asg rfl rfl) rfl rfl rfl (simL_nil (nrm_then (sim_rtn ?_)))
 refine rtn_then ?_
 exact rtn_fn () rfl rfl rfl (.sel 1 rfl (.nil _))
 refine sim_skip ?_
 refine nrm_then (sim_seq (sim_seq (sim_region ?_)))
 refine simL_val (q_fa rfl rfl Try.underlying29 rfl rfl Try.sizeOf3 rfl) rfl rfl rfl ?_
 refine simL_val (q_load rfl rfl Try.isAgg3 (.obj 0 rfl rfl)) rfl rfl rfl ?_
 refine simL_bind (fun s7v hs9v => ?_)
 refine simL_eff (re_call (vs := [.int .i64 x0_0, .int .i64 1, .int .i64 4611686018427387904]) (cap := []) (A := []) (rst := [obj b1v 29 [.int .i64 x0_0, .int .i64 x0_1, .slice a0_2 x0_2.length c0_2], F]) rfl rfl rfl rfl rfl rfl Try.call69 (.sel 0 rfl (.sel 0 rfl (.nil _))) (synodref3_within.calls _ _ x0_0 (1 : Int) (4611686018427387904 : Int) ) hs9v) rfl rfl rfl ?_
 intro y8v
 refine simL_val (q_not rfl rfl) rfl rfl rfl ?_
 refine simL_val (q_move rfl rfl) rfl rfl rfl ?_
 refine simL_cut' 5 (S := Bool) (Unit) (fun s y => [(1, .pointer (some ⟨b1v, 0, none⟩)), (14, .bool s)]) (fun s y => [obj b1v 29 [.int .i64 x0_0, .int .i64 x0_1, .slice a0_2 x0_2.length c0_2], F]) ?_ ?_
 refine simL_caseb (fun hb15v => ?_) (fun hb16v => ?_)
 rw [hb15v]
 refine simL_skipd rfl rfl rfl rfl rfl rfl ?_
 refine simL_skipd rfl rfl rfl rfl rfl rfl ?_
 refine simL_skipd rfl rfl rfl rfl rfl rfl ?_
 refine simL_skipd rfl rfl rfl rfl rfl rfl ?_
 refine simL_val (q_pick rfl rfl rfl rfl rfl) rfl rfl rfl (simL_nil ?_)
 exact nrm_cut (s := true) () ⟨rfl, rfl, trivial⟩ (.sel 0 rfl (.sel 0 rfl (.nil _)))
 rw [hb16v]
 refine simL_valg (q_fa rfl rfl Try.underlying29 rfl rfl Try.sizeOf3 rfl) rfl rfl rfl rfl rfl rfl ?_
 refine simL_valg (q_load rfl rfl Try.isAgg3 (.obj 0 rfl rfl)) rfl rfl rfl rfl rfl rfl ?_
 refine simL_bind (fun s12v hs14v => ?_)
 refine simL_effg (re_call (vs := [.int .i64 x0_1, .int .i64 1, .int .i64 4611686018427387904]) (cap := []) (A := []) (rst := [obj b1v 29 [.int .i64 x0_0, .int .i64 x0_1, .slice a0_2 x0_2.length c0_2], F]) rfl rfl rfl rfl rfl rfl Try.call69 (.sel 0 rfl (.sel 0 rfl (.nil _))) (synodref3_within.calls _ _ x0_1 (1 : Int) (4611686018427387904 : Int) ) hs14v) rfl rfl rfl rfl rfl rfl ?_
 intro y13v
 refine simL_valg (q_not rfl rfl) rfl rfl rfl rfl rfl rfl ?_
 refine simL_val (q_pick rfl rfl rfl rfl rfl) rfl rfl rfl (simL_nil ?_)
 exact nrm_cut (s := !s12v) () ⟨rfl, rfl, trivial⟩ (.sel 0 rfl (.sel 0 rfl (.nil _)))
 intro s10v y11v
 refine simL_nil (nrm_then ?_)
 refine sim_condb rfl (fun h17v => ?_) (fun h18v => ?_)
 refine sim_seq (sim_region ?_)
 refine simL_val (q_asg rfl rfl) rfl rfl rfl (simL_nil (nrm_then (sim_rtn ?_)))
 refine rtn_then ?_
 exact rtn_fn () rfl rfl rfl (.sel 1 rfl (.nil _))
 refine sim_skip ?_
 refine nrm_then (sim_seq (sim_seq (sim_region ?_)))
 refine simL_val (q_fa rfl rfl Try.underlying29 rfl rfl Try.sizeOf27 rfl) rfl rfl rfl ?_
 refine simL_val (q_load rfl rfl Try.isAgg27 (.obj 0 rfl rfl)) rfl rfl rfl ?_
 refine simL_val (q_len rfl rfl rfl Try.underlying27) rfl rfl rfl ?_
 refine simL_val (q_gtr rfl rfl rfl) rfl rfl rfl (simL_nil (nrm_then ?_))
 refine sim_cond rfl (fun h19v => ?_) (fun h20v => ?_)
 refine sim_seq (sim_region ?_)
 refine simL_val (q_asg rfl rfl) rfl rfl rfl (simL_nil (nrm_then (sim_rtn ?_)))
 refine rtn_then ?_
 exact rtn_fn () rfl rfl rfl (.sel 1 rfl (.nil _))
 refine sim_skip ?_
 refine nrm_then (sim_seq (sim_region ?_))
 refine simL_val (q_asg rfl rfl) rfl rfl rfl (simL_nil (nrm_then (sim_rtn ?_)))
 exact rtn_fn () rfl rfl rfl (.sel 1 rfl (.nil _))
def synodref3_CheckSnap.v (x0_0 : Int) (x0_1 : Int) (x0_2 : List UInt8) : Int := (synodref3_CheckSnap.f x0_0 x0_1 x0_2).getD 0
theorem synodref3_CheckSnap.tot (x0_0 : Int) (x0_1 : Int) (x0_2 : List UInt8) : synodref3_CheckSnap.f x0_0 x0_1 x0_2 = some (synodref3_CheckSnap.v x0_0 x0_1 x0_2) := by
  have h : ∃ r, synodref3_CheckSnap.f x0_0 x0_1 x0_2 = some r := by
    unfold synodref3_CheckSnap.f
    repeat' (first | exact ⟨_, rfl⟩ | split | simp only [Option.bind_some, synodref3_None.tot, synodref3_within.tot])
  obtain ⟨r, h⟩ := h
  unfold synodref3_CheckSnap.v
  rw [h]; rfl

def synodref3_CheckMessage.f (k : Nat) (x0_0 : Int) (x0_1 : Int) (x0_2 : Int) (x0_3 : Int) (x0_4 : Int) (x0_5 : Int) (x0_6 : Int) (x0_7 : Int) (x0_8 : Int) (x0_9 : Bool) (x0_10 : List (Int × Int × Int × List UInt8)) (x0_11 : Int) (x0_12 : Int) (x0_13 : List UInt8) : Option (Int) := (synodref3_within.f x0_0 (1 : Int) (7 : Int)).bind fun s2v => (if (!s2v) = true then (some 6) else ((synodref3_within.f x0_1 (1 : Int) (7 : Int)).bind fun s7v => ((if s7v = true then ((synodref3_within.f x0_2 (1 : Int) (7 : Int)).bind fun s12v => (some s12v)) else (some false)).bind fun s10v => ((synodref3_within.f x0_3 (1 : Int) (4611686018427387904 : Int)).bind fun s17v => ((if s17v = true then ((synodref_Number.f x0_4).bind fun s22v => (some s22v)) else (some false)).bind fun s20v => ((if s20v = true then ((synodref_Number.f x0_5).bind fun s29v => (some s29v)) else (some false)).bind fun s27v => ((if s27v = true then ((synodref_Number.f x0_6).bind fun s36v => (some s36v)) else (some false)).bind fun s34v => ((if ((!s10v) || (!s34v)) = true then (some true) else ((synodref_Number.f x0_7).bind fun s43v => (some (!s43v)))).bind fun s41v => ((if s41v = true then (some true) else ((synodref_Number.f x0_8).bind fun s50v => (some (!s50v)))).bind fun s48v => (if s48v = true then (some 1) else ((synodref3_used.f x0_0 x0_1 x0_2 x0_3 x0_4 x0_5 x0_6 x0_7 x0_8 x0_9 x0_10 x0_11 x0_12 x0_13).bind fun s57v => ((synodref_SameMessage.f k x0_0 x0_1 x0_2 x0_3 x0_4 x0_5 x0_6 x0_7 x0_8 x0_9 x0_10 x0_11 x0_12 x0_13 s57v.1 s57v.2.1 s57v.2.2.1 s57v.2.2.2.1 s57v.2.2.2.2.1 s57v.2.2.2.2.2.1 s57v.2.2.2.2.2.2.1 s57v.2.2.2.2.2.2.2.1 s57v.2.2.2.2.2.2.2.2.1 s57v.2.2.2.2.2.2.2.2.2.1 s57v.2.2.2.2.2.2.2.2.2.2.1 s57v.2.2.2.2.2.2.2.2.2.2.2.1 s57v.2.2.2.2.2.2.2.2.2.2.2.2.1 s57v.2.2.2.2.2.2.2.2.2.2.2.2.2).bind fun s62v => (if ((decide (x0_1 = x0_2)) || (!s62v)) = true then (some 4) else (orR (if x0_0 = (3 : Int) then ((synodref3_app.f k x0_0 x0_1 x0_2 x0_3 x0_4 x0_5 x0_6 x0_7 x0_8 x0_9 x0_10 x0_11 x0_12 x0_13).bind fun s72v => (some (.inr s72v))) else (if x0_0 = (1 : Int) then (if ((decide (x0_3 ≤ x0_5)) || (!((decide (x0_5 = (0 : Int))) == (decide (x0_4 = (0 : Int)))))) = true then (some (.inr 4)) else (some (.inl ()))) else (if x0_0 = (4 : Int) then (if ((!decide (x0_7 = (0 : Int))) && (!x0_9)) = true then (some (.inr 4)) else (some (.inl ()))) else (if x0_0 = (7 : Int) then ((synodref3_CheckSnap.f x0_11 x0_12 x0_13).bind fun s95v => (if s95v = (0 : Int) then ((synodref3_None.f x0_11 x0_12 x0_13).bind fun s100v => (if (s100v || (decide (x0_3 < x0_12))) = true then (some (.inr 4)) else (some (.inl ())))) else (some (.inr s95v)))) else (some (.inl ())))))) fun s68v => (some 0)))))))))))))))
theorem synodref3_CheckMessage.calls (W : World) (F : HA) (k : Nat) (x0_0 : Int) (x0_1 : Int) (x0_2 : Int) (x0_3 : Int) (x0_4 : Int) (x0_5 : Int) (x0_6 : Int) (x0_7 : Int) (x0_8 : Int) (x0_9 : Bool) (a0_10 : Option Addr) (c0_10 : Nat) (x0_10 : List (Int × Int × Int × List UInt8)) (x0_11 : Int) (x0_12 : Int) (a0_13 : Option Addr) (c0_13 : Nat) (x0_13 : List UInt8) (h0_10 : RdV F 4 (V61 F) a0_10 x0_10) (hc0_10 : x0_10.length ≤ c0_10) (hm0_10 : c0_10 ≤ maxLen) (h0_13 : Rd F a0_13 (encB x0_13)) (hc0_13 : x0_13.length ≤ c0_13) (hm0_13 : c0_13 ≤ maxLen) :
    Fn Try.prog W 19 [.agg #[.int .i64 x0_0, .int .i64 x0_1, .int .i64 x0_2, .int .i64 x0_3, .int .i64 x0_4, .int .i64 x0_5, .int .i64 x0_6, .int .i64 x0_7, .int .i64 x0_8, .bool x0_9, .slice a0_10 x0_10.length c0_10, .int .i64 x0_11, .int .i64 x0_12, .slice a0_13 x0_13.length c0_13]] [] F (synodref3_CheckMessage.f k x0_0 x0_1 x0_2 x0_3 x0_4 x0_5 x0_6 x0_7 x0_8 x0_9 x0_10 x0_11 x0_12 x0_13) (fun (r : Int) (y : Unit) => .int .i64 r) (fun r y => []) := by
 unfold synodref3_CheckMessage.f
 refine fn_intro 119 Try.func19 rfl Try.ntmps19 rfl ?_
 refine sim_seq (sim_region ?_)
 refine simL_eff (re_box rfl rfl rfl) rfl rfl rfl ?_
 intro b1v
 refine simL_val (q_asg rfl rfl) rfl rfl rfl (simL_nil (nrm_then (sim_seq (sim_seq (sim_region ?_)))))
 refine simL_val (q_fa rfl rfl Try.underlying31 rfl rfl Try.sizeOf3 rfl) rfl rfl rfl ?_
 refine simL_val (q_load rfl rfl Try.isAgg3 (.obj 0 rfl rfl)) rfl rfl rfl ?_
 refine simL_bind (fun s2v hs4v => ?_)
 refine simL_eff (re_call (vs := [.int .i64 x0_0, .int .i64 1, .int .i64 7]) (cap := []) (A := []) (rst := [obj b1v 31 [.int .i64 x0_0, .int .i64 x0_1, .int .i64 x0_2, .int .i64 x0_3, .int .i64 x0_4, .int .i64 x0_5, .int .i64 x0_6, .int .i64 x0_7, .int .i64 x0_8, .bool x0_9, .slice a0_10 x0_10.length c0_10, .int .i64 x0_11, .int .i64 x0_12, .slice a0_13 x0_13.length c0_13], F]) rfl rfl rfl rfl rfl rfl Try.call69 (.sel 0 rfl (.sel 0 rfl (.nil _))) (synodref3_within.calls _ _ x0_0 (1 : Int) (7 : Int) ) hs4v) rfl rfl rfl ?_
 intro y3v
 refine simL_val (q_not rfl rfl) rfl rfl rfl (simL_nil (nrm_then ?_))
 refine sim_condb rfl (fun h5v => ?_) (fun h6v => ?_)
 refine sim_seq (sim_region ?_)
 refine simL_val (q_asg rfl rfl) rfl rfl rfl (simL_nil (nrm_then (sim_rtn ?_)))
 refine rtn_then ?_
 exact rtn_fn () rfl rfl rfl (.sel 1 rfl (.nil _))
 refine sim_skip ?_
 refine nrm_then (sim_seq (sim_region ?_))
 refine simL_val (q_fa rfl rfl Try.underlying31 rfl rfl Try.sizeOf3 rfl) rfl rfl rfl ?_
 refine simL_val (q_load rfl rfl Try.isAgg3 (.obj 0 rfl rfl)) rfl rfl rfl ?_
 refine simL_bind (fun s7v hs9v => ?_)
 refine simL_eff (re_call (vs := [.int .i64 x0_1, .int .i64 1, .int .i64 7]) (cap := []) (A := []) (rst := [obj b1v 31 [.int .i64 x0_0, .int .i64 x0_1, .int .i64 x0_2, .int .i64 x0_3, .int .i64 x0_4, .int .i64 x0_5, .int .i64 x0_6, .int .i64 x0_7, .int .i64 x0_8, .bool x0_9, .slice a0_10 x0_10.length c0_10, .int .i64 x0_11, .int .i64 x0_12, .slice a0_13 x0_13.length c0_13], F]) rfl rfl rfl rfl rfl rfl Try.call69 (.sel 0 rfl (.sel 0 rfl (.nil _))) (synodref3_within.calls _ _ x0_1 (1 : Int) (7 : Int) ) hs9v) rfl rfl rfl ?_
 intro y8v
 refine simL_val (q_move rfl rfl) rfl rfl rfl ?_
 refine simL_cut' 4 (S := Bool) (Unit) (fun s y => [(1, .pointer (some ⟨b1v, 0, none⟩)), (18, .bool s)]) (fun s y => [obj b1v 31 [.int .i64 x0_0, .int .i64 x0_1, .int .i64 x0_2, .int .i64 x0_3, .int .i64 x0_4, .int .i64 x0_5, .int .i64 x0_6, .int .i64 x0_7, .int .i64 x0_8, .bool x0_9, .slice a0_10 x0_10.length c0_10, .int .i64 x0_11, .int .i64 x0_12, .slice a0_13 x0_13.length c0_13], F]) ?_ ?_
 refine simL_caseb (fun hb15v => ?_) (fun hb16v => ?_)
 rw [hb15v]
 refine simL_valg (q_fa rfl rfl Try.underlying31 rfl rfl Try.sizeOf3 rfl) rfl rfl rfl rfl rfl rfl ?_
 refine simL_valg (q_load rfl rfl Try.isAgg3 (.obj 0 rfl rfl)) rfl rfl rfl rfl rfl rfl ?_
 refine simL_bind (fun s12v hs14v => ?_)
 refine simL_effg (re_call (vs := [.int .i64 x0_2, .int .i64 1, .int .i64 7]) (cap := []) (A := []) (rst := [obj b1v 31 [.int .i64 x0_0, .int .i64 x0_1, .int .i64 x0_2, .int .i64 x0_3, .int .i64 x0_4, .int .i64 x0_5, .int .i64 x0_6, .int .i64 x0_7, .int .i64 x0_8, .bool x0_9, .slice a0_10 x0_10.length c0_10, .int .i64 x0_11, .int .i64 x0_12, .slice a0_13 x0_13.length c0_13], F]) rfl rfl rfl rfl rfl rfl Try.call69 (.sel 0 rfl (.sel 0 rfl (.nil _))) (synodref3_within.calls _ _ x0_2 (1 : Int) (7 : Int) ) hs14v) rfl rfl rfl rfl rfl rfl ?_
 intro y13v
 refine simL_val (q_pick rfl rfl rfl rfl rfl) rfl rfl rfl (simL_nil ?_)
 exact nrm_cut (s := s12v) () ⟨rfl, rfl, trivial⟩ (.sel 0 rfl (.sel 0 rfl (.nil _)))
 rw [hb16v]
 refine simL_skipd rfl rfl rfl rfl rfl rfl ?_
 refine simL_skipd rfl rfl rfl rfl rfl rfl ?_
 refine simL_skipd rfl rfl rfl rfl rfl rfl ?_
 refine simL_val (q_pick rfl rfl rfl rfl rfl) rfl rfl rfl (simL_nil ?_)
 exact nrm_cut (s := false) () ⟨rfl, rfl, trivial⟩ (.sel 0 rfl (.sel 0 rfl (.nil _)))
 intro s10v y11v
 refine simL_val (q_asg rfl rfl) rfl rfl rfl (simL_nil (nrm_then (sim_seq (sim_region ?_))))
 refine simL_val (q_fa rfl rfl Try.underlying31 rfl rfl Try.sizeOf3 rfl) rfl rfl rfl ?_
 refine simL_val (q_load rfl rfl Try.isAgg3 (.obj 0 rfl rfl)) rfl rfl rfl ?_
 refine simL_bind (fun s17v hs19v => ?_)
 refine simL_eff (re_call (vs := [.int .i64 x0_3, .int .i64 1, .int .i64 4611686018427387904]) (cap := []) (A := []) (rst := [obj b1v 31 [.int .i64 x0_0, .int .i64 x0_1, .int .i64 x0_2, .int .i64 x0_3, .int .i64 x0_4, .int .i64 x0_5, .int .i64 x0_6, .int .i64 x0_7, .int .i64 x0_8, .bool x0_9, .slice a0_10 x0_10.length c0_10, .int .i64 x0_11, .int .i64 x0_12, .slice a0_13 x0_13.length c0_13], F]) rfl rfl rfl rfl rfl rfl Try.call69 (.sel 0 rfl (.sel 0 rfl (.nil _))) (synodref3_within.calls _ _ x0_3 (1 : Int) (4611686018427387904 : Int) ) hs19v) rfl rfl rfl ?_
 intro y18v
 refine simL_val (q_move rfl rfl) rfl rfl rfl ?_
 refine simL_cut' 4 (S := Bool) (Unit) (fun s y => [(1, .pointer (some ⟨b1v, 0, none⟩)), (3, .bool s10v), (26, .bool s)]) (fun s y => [obj b1v 31 [.int .i64 x0_0, .int .i64 x0_1, .int .i64 x0_2, .int .i64 x0_3, .int .i64 x0_4, .int .i64 x0_5, .int .i64 x0_6, .int .i64 x0_7, .int .i64 x0_8, .bool x0_9, .slice a0_10 x0_10.length c0_10, .int .i64 x0_11, .int .i64 x0_12, .slice a0_13 x0_13.length c0_13], F]) ?_ ?_
 refine simL_caseb (fun hb25v => ?_) (fun hb26v => ?_)
 rw [hb25v]
 refine simL_valg (q_fa rfl rfl Try.underlying31 rfl rfl Try.sizeOf3 rfl) rfl rfl rfl rfl rfl rfl ?_
 refine simL_valg (q_load rfl rfl Try.isAgg3 (.obj 0 rfl rfl)) rfl rfl rfl rfl rfl rfl ?_
 refine simL_bind (fun s22v hs24v => ?_)
 refine simL_effg (re_call (vs := [.int .i64 x0_4]) (cap := []) (A := []) (rst := [obj b1v 31 [.int .i64 x0_0, .int .i64 x0_1, .int .i64 x0_2, .int .i64 x0_3, .int .i64 x0_4, .int .i64 x0_5, .int .i64 x0_6, .int .i64 x0_7, .int .i64 x0_8, .bool x0_9, .slice a0_10 x0_10.length c0_10, .int .i64 x0_11, .int .i64 x0_12, .slice a0_13 x0_13.length c0_13], F]) rfl rfl rfl rfl rfl rfl Try.call71 (.sel 0 rfl (.sel 0 rfl (.nil _))) (synodref_Number.calls _ _ x0_4 ) hs24v) rfl rfl rfl rfl rfl rfl ?_
 intro y23v
 refine simL_val (q_pick rfl rfl rfl rfl rfl) rfl rfl rfl (simL_nil ?_)
 exact nrm_cut (s := s22v) () ⟨rfl, rfl, rfl, trivial⟩ (.sel 0 rfl (.sel 0 rfl (.nil _)))
 rw [hb26v]
 refine simL_skipd rfl rfl rfl rfl rfl rfl ?_
 refine simL_skipd rfl rfl rfl rfl rfl rfl ?_
 refine simL_skipd rfl rfl rfl rfl rfl rfl ?_
 refine simL_val (q_pick rfl rfl rfl rfl rfl) rfl rfl rfl (simL_nil ?_)
 exact nrm_cut (s := false) () ⟨rfl, rfl, rfl, trivial⟩ (.sel 0 rfl (.sel 0 rfl (.nil _)))
 intro s20v y21v
 refine simL_val (q_move rfl rfl) rfl rfl rfl ?_
 refine simL_cut' 4 (S := Bool) (Unit) (fun s y => [(1, .pointer (some ⟨b1v, 0, none⟩)), (3, .bool s10v), (31, .bool s)]) (fun s y => [obj b1v 31 [.int .i64 x0_0, .int .i64 x0_1, .int .i64 x0_2, .int .i64 x0_3, .int .i64 x0_4, .int .i64 x0_5, .int .i64 x0_6, .int .i64 x0_7, .int .i64 x0_8, .bool x0_9, .slice a0_10 x0_10.length c0_10, .int .i64 x0_11, .int .i64 x0_12, .slice a0_13 x0_13.length c0_13], F]) ?_ ?_
 refine simL_caseb (fun hb32v => ?_) (fun hb33v => ?_)
 rw [hb32v]
 refine simL_valg (q_fa rfl rfl Try.underlying31 rfl rfl Try.sizeOf3 rfl) rfl rfl rfl rfl rfl rfl ?_
 refine simL_valg (q_load rfl rfl Try.isAgg3 (.obj 0 rfl rfl)) rfl rfl rfl rfl rfl rfl ?_
 refine simL_bind (fun s29v hs31v => ?_)
 refine simL_effg (re_call (vs := [.int .i64 x0_5]) (cap := []) (A := []) (rst := [obj b1v 31 [.int .i64 x0_0, .int .i64 x0_1, .int .i64 x0_2, .int .i64 x0_3, .int .i64 x0_4, .int .i64 x0_5, .int .i64 x0_6, .int .i64 x0_7, .int .i64 x0_8, .bool x0_9, .slice a0_10 x0_10.length c0_10, .int .i64 x0_11, .int .i64 x0_12, .slice a0_13 x0_13.length c0_13], F]) rfl rfl rfl rfl rfl rfl Try.call71 (.sel 0 rfl (.sel 0 rfl (.nil _))) (synodref_Number.calls _ _ x0_5 ) hs31v) rfl rfl rfl rfl rfl rfl ?_
 intro y30v
 refine simL_val (q_pick rfl rfl rfl rfl rfl) rfl rfl rfl (simL_nil ?_)
 exact nrm_cut (s := s29v) () ⟨rfl, rfl, rfl, trivial⟩ (.sel 0 rfl (.sel 0 rfl (.nil _)))
 rw [hb33v]
 refine simL_skipd rfl rfl rfl rfl rfl rfl ?_
 refine simL_skipd rfl rfl rfl rfl rfl rfl ?_
 refine simL_skipd rfl rfl rfl rfl rfl rfl ?_
 refine simL_val (q_pick rfl rfl rfl rfl rfl) rfl rfl rfl (simL_nil ?_)
 exact nrm_cut (s := false) () ⟨rfl, rfl, rfl, trivial⟩ (.sel 0 rfl (.sel 0 rfl (.nil _)))
 intro s27v y28v
 refine simL_val (q_move rfl rfl) rfl rfl rfl ?_
 refine simL_cut' 4 (S := Bool) (Unit) (fun s y => [(1, .pointer (some ⟨b1v, 0, none⟩)), (3, .bool s10v), (36, .bool s)]) (fun s y => [obj b1v 31 [.int .i64 x0_0, .int .i64 x0_1, .int .i64 x0_2, .int .i64 x0_3, .int .i64 x0_4, .int .i64 x0_5, .int .i64 x0_6, .int .i64 x0_7, .int .i64 x0_8, .bool x0_9, .slice a0_10 x0_10.length c0_10, .int .i64 x0_11, .int .i64 x0_12, .slice a0_13 x0_13.length c0_13], F]) ?_ ?_
 refine simL_caseb (fun hb39v => ?_) (fun hb40v => ?_)
 rw [hb39v]
 refine simL_valg (q_fa rfl rfl Try.underlying31 rfl rfl Try.sizeOf3 rfl) rfl rfl rfl rfl rfl rfl ?_
 refine simL_valg (q_load rfl rfl Try.isAgg3 (.obj 0 rfl rfl)) rfl rfl rfl rfl rfl rfl ?_
 refine simL_bind (fun s36v hs38v => ?_)
 refine simL_effg (re_call (vs := [.int .i64 x0_6]) (cap := []) (A := []) (rst := [obj b1v 31 [.int .i64 x0_0, .int .i64 x0_1, .int .i64 x0_2, .int .i64 x0_3, .int .i64 x0_4, .int .i64 x0_5, .int .i64 x0_6, .int .i64 x0_7, .int .i64 x0_8, .bool x0_9, .slice a0_10 x0_10.length c0_10, .int .i64 x0_11, .int .i64 x0_12, .slice a0_13 x0_13.length c0_13], F]) rfl rfl rfl rfl rfl rfl Try.call71 (.sel 0 rfl (.sel 0 rfl (.nil _))) (synodref_Number.calls _ _ x0_6 ) hs38v) rfl rfl rfl rfl rfl rfl ?_
 intro y37v
 refine simL_val (q_pick rfl rfl rfl rfl rfl) rfl rfl rfl (simL_nil ?_)
 exact nrm_cut (s := s36v) () ⟨rfl, rfl, rfl, trivial⟩ (.sel 0 rfl (.sel 0 rfl (.nil _)))
 rw [hb40v]
 refine simL_skipd rfl rfl rfl rfl rfl rfl ?_
 refine simL_skipd rfl rfl rfl rfl rfl rfl ?_
 refine simL_skipd rfl rfl rfl rfl rfl rfl ?_
 refine simL_val (q_pick rfl rfl rfl rfl rfl) rfl rfl rfl (simL_nil ?_)
 exact nrm_cut (s := false) () ⟨rfl, rfl, rfl, trivial⟩ (.sel 0 rfl (.sel 0 rfl (.nil _)))
 intro s34v y35v
 refine simL_val (q_asg rfl rfl) rfl rfl rfl (simL_nil (nrm_then (sim_seq (sim_seq (sim_region ?_)))))
 refine simL_val (q_move rfl rfl) rfl rfl rfl ?_
 refine simL_val (q_not rfl rfl) rfl rfl rfl ?_
 refine simL_val (q_move rfl rfl) rfl rfl rfl ?_
 refine simL_valc (b := !s10v) (fun hb114v => RQ.sub (E' := [(4, .bool s34v)]) ⟨rfl, trivial⟩ (q_move rfl rfl)) rfl rfl rfl rfl rfl ?_
 refine simL_valc (b := !s10v) (fun hb113v => RQ.sub (E' := [(40, .bool s34v)]) ⟨lk_cv rfl hb113v, trivial⟩ (q_not rfl rfl)) rfl rfl rfl rfl rfl ?_
 refine simL_val (q_or rfl rfl rfl) rfl rfl rfl ?_
 refine simL_val (q_move rfl rfl) rfl rfl rfl ?_
 refine simL_cut' 5 (S := Bool) (Unit) (fun s y => [(1, .pointer (some ⟨b1v, 0, none⟩)), (48, .bool s)]) (fun s y => [obj b1v 31 [.int .i64 x0_0, .int .i64 x0_1, .int .i64 x0_2, .int .i64 x0_3, .int .i64 x0_4, .int .i64 x0_5, .int .i64 x0_6, .int .i64 x0_7, .int .i64 x0_8, .bool x0_9, .slice a0_10 x0_10.length c0_10, .int .i64 x0_11, .int .i64 x0_12, .slice a0_13 x0_13.length c0_13], F]) ?_ ?_
 refine simL_caseb (fun hb46v => ?_) (fun hb47v => ?_)
 rw [hb46v]
 refine simL_skipd rfl rfl rfl rfl rfl rfl ?_
 refine simL_skipd rfl rfl rfl rfl rfl rfl ?_
 refine simL_skipd rfl rfl rfl rfl rfl rfl ?_
 refine simL_skipd rfl rfl rfl rfl rfl rfl ?_
 refine simL_val (q_pick rfl rfl rfl rfl rfl) rfl rfl rfl (simL_nil ?_)
 exact nrm_cut (s := true) () ⟨rfl, rfl, trivial⟩ (.sel 0 rfl (.sel 0 rfl (.nil _)))
 rw [hb47v]
 refine simL_valg (q_fa rfl rfl Try.underlying31 rfl rfl Try.sizeOf3 rfl) rfl rfl rfl rfl rfl rfl ?_
 refine simL_valg (q_load rfl rfl Try.isAgg3 (.obj 0 rfl rfl)) rfl rfl rfl rfl rfl rfl ?_
 refine simL_bind (fun s43v hs45v => ?_)
 refine simL_effg (re_call (vs := [.int .i64 x0_7]) (cap := []) (A := []) (rst := [obj b1v 31 [.int .i64 x0_0, .int .i64 x0_1, .int .i64 x0_2, .int .i64 x0_3, .int .i64 x0_4, .int .i64 x0_5, .int .i64 x0_6, .int .i64 x0_7, .int .i64 x0_8, .bool x0_9, .slice a0_10 x0_10.length c0_10, .int .i64 x0_11, .int .i64 x0_12, .slice a0_13 x0_13.length c0_13], F]) rfl rfl rfl rfl rfl rfl Try.call71 (.sel 0 rfl (.sel 0 rfl (.nil _))) (synodref_Number.calls _ _ x0_7 ) hs45v) rfl rfl rfl rfl rfl rfl ?_
 intro y44v
 refine simL_valg (q_not rfl rfl) rfl rfl rfl rfl rfl rfl ?_
 refine simL_val (q_pick rfl rfl rfl rfl rfl) rfl rfl rfl (simL_nil ?_)
 exact nrm_cut (s := !s43v) () ⟨rfl, rfl, trivial⟩ (.sel 0 rfl (.sel 0 rfl (.nil _)))
 intro s41v y42v
 refine simL_val (q_move rfl rfl) rfl rfl rfl ?_
 refine simL_cut' 5 (S := Bool) (Unit) (fun s y => [(1, .pointer (some ⟨b1v, 0, none⟩)), (54, .bool s)]) (fun s y => [obj b1v 31 [.int .i64 x0_0, .int .i64 x0_1, .int .i64 x0_2, .int .i64 x0_3, .int .i64 x0_4, .int .i64 x0_5, .int .i64 x0_6, .int .i64 x0_7, .int .i64 x0_8, .bool x0_9, .slice a0_10 x0_10.length c0_10, .int .i64 x0_11, .int .i64 x0_12, .slice a0_13 x0_13.length c0_13], F]) ?_ ?_
 refine simL_caseb (fun hb53v => ?_) (fun hb54v => ?_)
 rw [hb53v]
 refine simL_skipd rfl rfl rfl rfl rfl rfl ?_
 refine simL_skipd rfl rfl rfl rfl rfl rfl ?_
 refine simL_skipd rfl rfl rfl rfl rfl rfl ?_
 refine simL_skipd rfl rfl rfl rfl rfl rfl ?_
 refine simL_val (q_pick rfl rfl rfl rfl rfl) rfl rfl rfl (simL_nil ?_)
 exact nrm_cut (s := true) () ⟨rfl, rfl, trivial⟩ (.sel 0 rfl (.sel 0 rfl (.nil _)))
 rw [hb54v]
 refine simL_valg (q_fa rfl rfl Try.underlying31 rfl rfl Try.sizeOf3 rfl) rfl rfl rfl rfl rfl rfl ?_
 refine simL_valg (q_load rfl rfl Try.isAgg3 (.obj 0 rfl rfl)) rfl rfl rfl rfl rfl rfl ?_
 refine simL_bind (fun s50v hs52v => ?_)
 refine simL_effg (re_call (vs := [.int .i64 x0_8]) (cap := []) (A := []) (rst := [obj b1v 31 [.int .i64 x0_0, .int .i64 x0_1, .int .i64 x0_2, .int .i64 x0_3, .int .i64 x0_4, .int .i64 x0_5, .int .i64 x0_6, .int .i64 x0_7, .int .i64 x0_8, .bool x0_9, .slice a0_10 x0_10.length c0_10, .int .i64 x0_11, .int .i64 x0_12, .slice a0_13 x0_13.length c0_13], F]) rfl rfl rfl rfl rfl rfl Try.call71 (.sel 0 rfl (.sel 0 rfl (.nil _))) (synodref_Number.calls _ _ x0_8 ) hs52v) rfl rfl rfl rfl rfl rfl ?_
 intro y51v
 refine simL_valg (q_not rfl rfl) rfl rfl rfl rfl rfl rfl ?_
 refine simL_val (q_pick rfl rfl rfl rfl rfl) rfl rfl rfl (simL_nil ?_)
 exact nrm_cut (s := !s50v) () ⟨rfl, rfl, trivial⟩ (.sel 0 rfl (.sel 0 rfl (.nil _)))
 intro s48v y49v
 refine simL_nil (nrm_then ?_)
 refine sim_condb rfl (fun h55v => ?_) (fun h56v => ?_)
 refine sim_seq (sim_region ?_)
 refine simL_val (q_asg rfl rfl) rfl rfl rfl (simL_nil (nrm_then (sim_rtn ?_)))
 refine rtn_then ?_
 exact rtn_fn () rfl rfl rfl (.sel 1 rfl (.nil _))
 refine sim_skip ?_
 refine nrm_then (sim_seq ?_)
 refine sim_bind (fun s57v hs59v => ?_)
 refine sim_bind (fun s62v hs64v => ?_)
 refine sim_draw (Γ := (Option Addr × Nat × Option Addr × Nat)) (none, 0, none, 0) [[], [], [1], [0, 1, 2], [0, 1, 2, 3]] [2, 3] [0, 1, 4] (fun i => [[0, 1], [0], [], [], [2]].getD i []) (fun i => [[], [], [0, 1], [0, 1, 2], []].getD i []) (fun γ i => [.agg #[.int .i64 x0_0, .int .i64 x0_1, .int .i64 x0_2, .int .i64 x0_3, .int .i64 x0_4, .int .i64 x0_5, .int .i64 x0_6, .int .i64 x0_7, .int .i64 x0_8, .bool x0_9, .slice a0_10 x0_10.length c0_10, .int .i64 x0_11, .int .i64 x0_12, .slice a0_13 x0_13.length c0_13], .agg #[.int .i64 x0_0, .int .i64 x0_1, .int .i64 x0_2, .int .i64 x0_3, .int .i64 x0_4, .int .i64 x0_5, .int .i64 x0_6, .int .i64 x0_7, .int .i64 x0_8, .bool x0_9, .slice a0_10 x0_10.length c0_10, .int .i64 x0_11, .int .i64 x0_12, .slice a0_13 x0_13.length c0_13], .agg #[.int .i64 s57v.1, .int .i64 s57v.2.1, .int .i64 s57v.2.2.1, .int .i64 s57v.2.2.2.1, .int .i64 s57v.2.2.2.2.1, .int .i64 s57v.2.2.2.2.2.1, .int .i64 s57v.2.2.2.2.2.2.1, .int .i64 s57v.2.2.2.2.2.2.2.1, .int .i64 s57v.2.2.2.2.2.2.2.2.1, .bool s57v.2.2.2.2.2.2.2.2.2.1, .slice γ.1 s57v.2.2.2.2.2.2.2.2.2.2.1.length γ.2.1, .int .i64 s57v.2.2.2.2.2.2.2.2.2.2.2.1, .int .i64 s57v.2.2.2.2.2.2.2.2.2.2.2.2.1, .slice γ.2.2.1 s57v.2.2.2.2.2.2.2.2.2.2.2.2.2.length γ.2.2.2], .bool s62v, .bool s62v].getD i undef) (fun j γ => [[obj b1v 31 [.int .i64 x0_0, .int .i64 x0_1, .int .i64 x0_2, .int .i64 x0_3, .int .i64 x0_4, .int .i64 x0_5, .int .i64 x0_6, .int .i64 x0_7, .int .i64 x0_8, .bool x0_9, .slice a0_10 x0_10.length c0_10, .int .i64 x0_11, .int .i64 x0_12, .slice a0_13 x0_13.length c0_13], F], [pr (RdV (F) 4 (V61 (F)) γ.1 s57v.2.2.2.2.2.2.2.2.2.2.1 ∧ s57v.2.2.2.2.2.2.2.2.2.2.1.length ≤ γ.2.1 ∧ γ.2.1 ≤ maxLen), pr (Rd (F) γ.2.2.1 (encB s57v.2.2.2.2.2.2.2.2.2.2.2.2.2) ∧ s57v.2.2.2.2.2.2.2.2.2.2.2.2.2.length ≤ γ.2.2.2 ∧ γ.2.2.2 ≤ maxLen), obj b1v 31 [.int .i64 x0_0, .int .i64 x0_1, .int .i64 x0_2, .int .i64 x0_3, .int .i64 x0_4, .int .i64 x0_5, .int .i64 x0_6, .int .i64 x0_7, .int .i64 x0_8, .bool x0_9, .slice a0_10 x0_10.length c0_10, .int .i64 x0_11, .int .i64 x0_12, .slice a0_13 x0_13.length c0_13], F], [pr (RdV (F) 4 (V61 (F)) γ.1 s57v.2.2.2.2.2.2.2.2.2.2.1 ∧ s57v.2.2.2.2.2.2.2.2.2.2.1.length ≤ γ.2.1 ∧ γ.2.1 ≤ maxLen), pr (Rd (F) γ.2.2.1 (encB s57v.2.2.2.2.2.2.2.2.2.2.2.2.2) ∧ s57v.2.2.2.2.2.2.2.2.2.2.2.2.2.length ≤ γ.2.2.2 ∧ γ.2.2.2 ≤ maxLen), obj b1v 31 [.int .i64 x0_0, .int .i64 x0_1, .int .i64 x0_2, .int .i64 x0_3, .int .i64 x0_4, .int .i64 x0_5, .int .i64 x0_6, .int .i64 x0_7, .int .i64 x0_8, .bool x0_9, .slice a0_10 x0_10.length c0_10, .int .i64 x0_11, .int .i64 x0_12, .slice a0_13 x0_13.length c0_13], F]].getD j []) (fun γ => [(1, .pointer (some ⟨b1v, 0, none⟩)), (5, .bool s62v)]) mixed (by decide) (by decide) (by decide) (by decide) (by decide) (by decide) (by decide) 119 rfl (by decide) (by decide) (by decide) (Ent.refl _) ?_ ?_ (fun _ => ⟨rfl, rfl, trivial⟩) ?_
 exact (All.cons (fun γ => (All.cons (QOb.plain [(1, .pointer (some ⟨b1v, 0, none⟩))] rfl rfl (.o rfl (by decide) .nil) (q_loado 0 rfl rfl Try.isAgg31 Try.sizeOf31 rfl rfl) rfl) (All.cons (QOb.plain [(1, .pointer (some ⟨b1v, 0, none⟩))] rfl rfl (.o rfl (by decide) .nil) (q_loado 2 rfl rfl Try.isAgg31 Try.sizeOf31 rfl rfl) rfl) All.nil))) (All.cons (fun γ => (All.cons (QOb.plain [(1, .pointer (some ⟨b1v, 0, none⟩))] rfl rfl (.o rfl (by decide) .nil) (q_loado 0 rfl rfl Try.isAgg31 Try.sizeOf31 rfl rfl) rfl) All.nil)) (All.cons (fun γ => (All.cons (QOb.plain [(58, .bool s62v)] rfl rfl (.w 3 rfl rfl rfl .nil) (q_asg rfl rfl) rfl) All.nil)) All.nil)))
 exact (All.cons (fun γ => EOb.mk (Z := Option Addr × Nat × Option Addr × Nat) [(56, .agg #[.int .i64 x0_0, .int .i64 x0_1, .int .i64 x0_2, .int .i64 x0_3, .int .i64 x0_4, .int .i64 x0_5, .int .i64 x0_6, .int .i64 x0_7, .int .i64 x0_8, .bool x0_9, .slice a0_10 x0_10.length c0_10, .int .i64 x0_11, .int .i64 x0_12, .slice a0_13 x0_13.length c0_13])] (fun z => z) rfl rfl (.w 1 rfl rfl rfl .nil) (re_call (vs := [.agg #[.int .i64 x0_0, .int .i64 x0_1, .int .i64 x0_2, .int .i64 x0_3, .int .i64 x0_4, .int .i64 x0_5, .int .i64 x0_6, .int .i64 x0_7, .int .i64 x0_8, .bool x0_9, .slice a0_10 x0_10.length c0_10, .int .i64 x0_11, .int .i64 x0_12, .slice a0_13 x0_13.length c0_13]]) (cap := []) (A := []) (rst := [obj b1v 31 [.int .i64 x0_0, .int .i64 x0_1, .int .i64 x0_2, .int .i64 x0_3, .int .i64 x0_4, .int .i64 x0_5, .int .i64 x0_6, .int .i64 x0_7, .int .i64 x0_8, .bool x0_9, .slice a0_10 x0_10.length c0_10, .int .i64 x0_11, .int .i64 x0_12, .slice a0_13 x0_13.length c0_13], F]) rfl rfl rfl rfl rfl rfl Try.call72 (.sel 0 rfl (.sel 0 rfl (.nil _))) (synodref3_used.calls _ _ _ (Up.lend 1 rfl) x0_0 x0_1 x0_2 x0_3 x0_4 x0_5 x0_6 x0_7 x0_8 x0_9 a0_10 c0_10 x0_10 x0_11 x0_12 a0_13 c0_13 x0_13 h0_10 hc0_10 hm0_10 h0_13 hc0_13 hm0_13) hs59v) (fun _ => ⟨rfl, rfl, trivial⟩) (fun _ => .inr rfl) (fun z => Ent.refl _)) (All.cons (fun γ => EOb.mk (Z := Unit) [(55, .agg #[.int .i64 x0_0, .int .i64 x0_1, .int .i64 x0_2, .int .i64 x0_3, .int .i64 x0_4, .int .i64 x0_5, .int .i64 x0_6, .int .i64 x0_7, .int .i64 x0_8, .bool x0_9, .slice a0_10 x0_10.length c0_10, .int .i64 x0_11, .int .i64 x0_12, .slice a0_13 x0_13.length c0_13]), (57, .agg #[.int .i64 s57v.1, .int .i64 s57v.2.1, .int .i64 s57v.2.2.1, .int .i64 s57v.2.2.2.1, .int .i64 s57v.2.2.2.2.1, .int .i64 s57v.2.2.2.2.2.1, .int .i64 s57v.2.2.2.2.2.2.1, .int .i64 s57v.2.2.2.2.2.2.2.1, .int .i64 s57v.2.2.2.2.2.2.2.2.1, .bool s57v.2.2.2.2.2.2.2.2.2.1, .slice γ.1 s57v.2.2.2.2.2.2.2.2.2.2.1.length γ.2.1, .int .i64 s57v.2.2.2.2.2.2.2.2.2.2.2.1, .int .i64 s57v.2.2.2.2.2.2.2.2.2.2.2.2.1, .slice γ.2.2.1 s57v.2.2.2.2.2.2.2.2.2.2.2.2.2.length γ.2.2.2])] (fun z => γ) rfl rfl (.w 0 rfl rfl rfl (.w 2 rfl rfl rfl .nil)) (RE.prk 1 rfl (fun hp61v => RE.prk 0 rfl (fun hp60v => re_call (vs := [.agg #[.int .i64 x0_0, .int .i64 x0_1, .int .i64 x0_2, .int .i64 x0_3, .int .i64 x0_4, .int .i64 x0_5, .int .i64 x0_6, .int .i64 x0_7, .int .i64 x0_8, .bool x0_9, .slice a0_10 x0_10.length c0_10, .int .i64 x0_11, .int .i64 x0_12, .slice a0_13 x0_13.length c0_13], .agg #[.int .i64 s57v.1, .int .i64 s57v.2.1, .int .i64 s57v.2.2.1, .int .i64 s57v.2.2.2.1, .int .i64 s57v.2.2.2.2.1, .int .i64 s57v.2.2.2.2.2.1, .int .i64 s57v.2.2.2.2.2.2.1, .int .i64 s57v.2.2.2.2.2.2.2.1, .int .i64 s57v.2.2.2.2.2.2.2.2.1, .bool s57v.2.2.2.2.2.2.2.2.2.1, .slice γ.1 s57v.2.2.2.2.2.2.2.2.2.2.1.length γ.2.1, .int .i64 s57v.2.2.2.2.2.2.2.2.2.2.2.1, .int .i64 s57v.2.2.2.2.2.2.2.2.2.2.2.2.1, .slice γ.2.2.1 s57v.2.2.2.2.2.2.2.2.2.2.2.2.2.length γ.2.2.2]]) (cap := []) (A := []) (rst := [pr (RdV (F) 4 (V61 (F)) γ.1 s57v.2.2.2.2.2.2.2.2.2.2.1 ∧ s57v.2.2.2.2.2.2.2.2.2.2.1.length ≤ γ.2.1 ∧ γ.2.1 ≤ maxLen), pr (Rd (F) γ.2.2.1 (encB s57v.2.2.2.2.2.2.2.2.2.2.2.2.2) ∧ s57v.2.2.2.2.2.2.2.2.2.2.2.2.2.length ≤ γ.2.2.2 ∧ γ.2.2.2 ≤ maxLen), obj b1v 31 [.int .i64 x0_0, .int .i64 x0_1, .int .i64 x0_2, .int .i64 x0_3, .int .i64 x0_4, .int .i64 x0_5, .int .i64 x0_6, .int .i64 x0_7, .int .i64 x0_8, .bool x0_9, .slice a0_10 x0_10.length c0_10, .int .i64 x0_11, .int .i64 x0_12, .slice a0_13 x0_13.length c0_13], F]) rfl rfl rfl rfl rfl rfl Try.call18 (.sel 0 rfl (.sel 0 rfl (.sel 0 rfl (.sel 0 rfl (.nil _))))) (synodref_SameMessage.calls _ _ k x0_0 x0_1 x0_2 x0_3 x0_4 x0_5 x0_6 x0_7 x0_8 x0_9 a0_10 c0_10 x0_10 x0_11 x0_12 a0_13 c0_13 x0_13 s57v.1 s57v.2.1 s57v.2.2.1 s57v.2.2.2.1 s57v.2.2.2.2.1 s57v.2.2.2.2.2.1 s57v.2.2.2.2.2.2.1 s57v.2.2.2.2.2.2.2.1 s57v.2.2.2.2.2.2.2.2.1 s57v.2.2.2.2.2.2.2.2.2.1 γ.1 γ.2.1 s57v.2.2.2.2.2.2.2.2.2.2.1 s57v.2.2.2.2.2.2.2.2.2.2.2.1 s57v.2.2.2.2.2.2.2.2.2.2.2.2.1 γ.2.2.1 γ.2.2.2 s57v.2.2.2.2.2.2.2.2.2.2.2.2.2 (h0_10.up (Up.lend 3 rfl) (V61.up (Up.lend 3 rfl))) hc0_10 hm0_10 (h0_13.lend 3 rfl) hc0_13 hm0_13 (hp60v.1.up (Up.lend 3 rfl) (V61.up (Up.lend 3 rfl))) hp60v.2.1 hp60v.2.2 (hp61v.1.lend 3 rfl) hp61v.2.1 hp61v.2.2) hs64v))) (fun _ => ⟨rfl, rfl, rfl, trivial⟩) (fun _ => .inr rfl) (fun z => Ent.refl _)) All.nil))
 intro g65v
 refine nrm_prk 0 rfl (fun hp60v => ?_)
 refine nrm_prk 1 rfl (fun hp61v => ?_)
 refine nrm_then (sim_seq (sim_seq (sim_region ?_)))
 refine simL_val (q_fa rfl rfl Try.underlying31 rfl rfl Try.sizeOf3 rfl) rfl rfl rfl ?_
 refine simL_val (q_load rfl rfl Try.isAgg3 (.obj 2 rfl rfl)) rfl rfl rfl ?_
 refine simL_val (q_fa rfl rfl Try.underlying31 rfl rfl Try.sizeOf3 rfl) rfl rfl rfl ?_
 refine simL_val (q_load rfl rfl Try.isAgg3 (.obj 2 rfl rfl)) rfl rfl rfl ?_
 refine simL_val (q_eql rfl rfl rfl) rfl rfl rfl ?_
 refine simL_val (q_move rfl rfl) rfl rfl rfl ?_
 refine simL_valc (b := decide (x0_1 = x0_2)) (fun hb112v => RQ.sub (E' := [(5, .bool s62v)]) ⟨rfl, trivial⟩ (q_move rfl rfl)) rfl rfl rfl rfl rfl ?_
 refine simL_valc (b := decide (x0_1 = x0_2)) (fun hb111v => RQ.sub (E' := [(65, .bool s62v)]) ⟨lk_cv rfl hb111v, trivial⟩ (q_not rfl rfl)) rfl rfl rfl rfl rfl ?_
 refine simL_val (q_or rfl rfl rfl) rfl rfl rfl (simL_nil (nrm_then ?_))
 refine sim_condb rfl (fun h66v => ?_) (fun h67v => ?_)
 refine sim_seq (sim_region ?_)
 refine simL_val (q_asg rfl rfl) rfl rfl rfl (simL_nil (nrm_then (sim_rtn ?_)))
 refine rtn_then ?_
 exact rtn_fn () rfl rfl rfl (.sel 3 rfl (.nil _))
 refine sim_skip ?_
 refine nrm_then ?_
 refine sim_cutR (S := Unit) (Unit) (fun s y => []) (fun s y => [F]) ?_ ?_
 refine sim_seq (sim_region ?_)
 refine simL_val (q_fa rfl rfl Try.underlying31 rfl rfl Try.sizeOf3 rfl) rfl rfl rfl ?_
 refine simL_val (q_load rfl rfl Try.isAgg3 (.obj 2 rfl rfl)) rfl rfl rfl (simL_nil (nrm_then ?_))
 refine sim_block ?_
 refine sim_seq (sim_region ?_)
 refine simL_val (q_eql rfl rfl rfl) rfl rfl rfl ?_
 refine simL_val (q_asg rfl rfl) rfl rfl rfl (simL_nil (nrm_then ?_))
 refine sim_cond rfl (fun h70v => ?_) (fun h71v => ?_)
 refine sim_seq (sim_region ?_)
 refine simL_val (q_loado 2 rfl rfl Try.isAgg31 Try.sizeOf31 rfl rfl) rfl rfl rfl ?_
 refine simL_bind (fun s72v hs74v => ?_)
 refine simL_eff (re_call (vs := [.agg #[.int .i64 x0_0, .int .i64 x0_1, .int .i64 x0_2, .int .i64 x0_3, .int .i64 x0_4, .int .i64 x0_5, .int .i64 x0_6, .int .i64 x0_7, .int .i64 x0_8, .bool x0_9, .slice a0_10 x0_10.length c0_10, .int .i64 x0_11, .int .i64 x0_12, .slice a0_13 x0_13.length c0_13]]) (cap := []) (A := []) (rst := [pr (RdV (F) 4 (V61 (F)) g65v.1 s57v.2.2.2.2.2.2.2.2.2.2.1 ∧ s57v.2.2.2.2.2.2.2.2.2.2.1.length ≤ g65v.2.1 ∧ g65v.2.1 ≤ maxLen), pr (Rd (F) g65v.2.2.1 (encB s57v.2.2.2.2.2.2.2.2.2.2.2.2.2) ∧ s57v.2.2.2.2.2.2.2.2.2.2.2.2.2.length ≤ g65v.2.2.2 ∧ g65v.2.2.2 ≤ maxLen), obj b1v 31 [.int .i64 x0_0, .int .i64 x0_1, .int .i64 x0_2, .int .i64 x0_3, .int .i64 x0_4, .int .i64 x0_5, .int .i64 x0_6, .int .i64 x0_7, .int .i64 x0_8, .bool x0_9, .slice a0_10 x0_10.length c0_10, .int .i64 x0_11, .int .i64 x0_12, .slice a0_13 x0_13.length c0_13], F]) rfl rfl rfl rfl rfl rfl Try.call73 (.sel 0 rfl (.sel 0 rfl (.sel 0 rfl (.sel 0 rfl (.nil _))))) (synodref3_app.calls _ _ k x0_0 x0_1 x0_2 x0_3 x0_4 x0_5 x0_6 x0_7 x0_8 x0_9 a0_10 c0_10 x0_10 x0_11 x0_12 a0_13 c0_13 x0_13 (h0_10.up (Up.lend 3 rfl) (V61.up (Up.lend 3 rfl))) hc0_10 hm0_10 (h0_13.lend 3 rfl) hc0_13 hm0_13) hs74v) rfl rfl rfl ?_
 intro y73v
 refine simL_val (q_asg rfl rfl) rfl rfl rfl (simL_nil (nrm_then (sim_rtn ?_)))
 refine rtn_block ?_
 refine rtn_cutR ?_
 exact rtn_fn () rfl rfl rfl (.sel 3 rfl (.nil _))
 refine sim_seq (sim_region ?_)
 refine simL_val (q_eql rfl rfl rfl) rfl rfl rfl ?_
 refine simL_val (q_asg rfl rfl) rfl rfl rfl (simL_nil (nrm_then ?_))
 refine sim_cond rfl (fun h75v => ?_) (fun h76v => ?_)
 refine sim_seq (sim_region ?_)
 refine simL_val (q_fa rfl rfl Try.underlying31 rfl rfl Try.sizeOf3 rfl) rfl rfl rfl ?_
 refine simL_val (q_load rfl rfl Try.isAgg3 (.obj 2 rfl rfl)) rfl rfl rfl ?_
 refine simL_val (q_fa rfl rfl Try.underlying31 rfl rfl Try.sizeOf3 rfl) rfl rfl rfl ?_
 refine simL_val (q_load rfl rfl Try.isAgg3 (.obj 2 rfl rfl)) rfl rfl rfl ?_
 refine simL_val (q_geq rfl rfl rfl) rfl rfl rfl ?_
 refine simL_val (q_move rfl rfl) rfl rfl rfl ?_
 refine simL_valc (b := decide (x0_3 ≤ x0_5)) (fun hb85v => RQ.sub (E' := [(1, .pointer (some ⟨b1v, 0, none⟩))]) ⟨rfl, trivial⟩ (q_fa rfl rfl Try.underlying31 rfl rfl Try.sizeOf3 rfl)) rfl rfl rfl rfl rfl ?_
 refine simL_valc (b := decide (x0_3 ≤ x0_5)) (fun hb84v => RQ.sub (E' := [(82, .pointer (some ⟨b1v, 5, none⟩))]) ⟨lk_cv rfl hb84v, trivial⟩ (q_load rfl rfl Try.isAgg3 (.obj 2 rfl rfl))) rfl rfl rfl rfl rfl ?_
 refine simL_valc (b := decide (x0_3 ≤ x0_5)) (fun hb83v => RQ.sub (E' := [(83, .int .i64 x0_5)]) ⟨lk_cv rfl hb83v, trivial⟩ (q_eql rfl rfl rfl)) rfl rfl rfl rfl rfl ?_
 refine simL_valc (b := decide (x0_3 ≤ x0_5)) (fun hb82v => RQ.sub (E' := [(1, .pointer (some ⟨b1v, 0, none⟩))]) ⟨rfl, trivial⟩ (q_fa rfl rfl Try.underlying31 rfl rfl Try.sizeOf3 rfl)) rfl rfl rfl rfl rfl ?_
 refine simL_valc (b := decide (x0_3 ≤ x0_5)) (fun hb81v => RQ.sub (E' := [(85, .pointer (some ⟨b1v, 4, none⟩))]) ⟨lk_cv rfl hb81v, trivial⟩ (q_load rfl rfl Try.isAgg3 (.obj 2 rfl rfl))) rfl rfl rfl rfl rfl ?_
 refine simL_valc (b := decide (x0_3 ≤ x0_5)) (fun hb80v => RQ.sub (E' := [(86, .int .i64 x0_4)]) ⟨lk_cv rfl hb80v, trivial⟩ (q_eql rfl rfl rfl)) rfl rfl rfl rfl rfl ?_
 refine simL_valc (b := decide (x0_3 ≤ x0_5)) (fun hb79v => RQ.sub (E' := [(84, .bool (decide (x0_5 = (0 : Int)))), (87, .bool (decide (x0_4 = (0 : Int))))]) ⟨lk_cv rfl hb79v, lk_cv rfl hb79v, trivial⟩ (q_neb rfl rfl rfl Try.underlying4)) rfl rfl rfl rfl rfl ?_
 refine simL_val (q_or rfl rfl rfl) rfl rfl rfl (simL_nil (nrm_then ?_))
 refine sim_condb rfl (fun h77v => ?_) (fun h78v => ?_)
 refine sim_seq (sim_region ?_)
 refine simL_val (q_asg rfl rfl) rfl rfl rfl (simL_nil (nrm_then (sim_rtn ?_)))
 refine rtn_block ?_
 refine rtn_cutR ?_
 exact rtn_fn () rfl rfl rfl (.sel 3 rfl (.nil _))
 refine sim_skip ?_
 refine nrm_block ?_
 exact nrm_cutR (s := ()) () trivial (.sel 3 rfl (.nil _))
 refine sim_seq (sim_region ?_)
 refine simL_val (q_eql rfl rfl rfl) rfl rfl rfl ?_
 refine simL_val (q_asg rfl rfl) rfl rfl rfl (simL_nil (nrm_then ?_))
 refine sim_cond rfl (fun h86v => ?_) (fun h87v => ?_)
 refine sim_seq (sim_region ?_)
 refine simL_val (q_fa rfl rfl Try.underlying31 rfl rfl Try.sizeOf3 rfl) rfl rfl rfl ?_
 refine simL_val (q_load rfl rfl Try.isAgg3 (.obj 2 rfl rfl)) rfl rfl rfl ?_
 refine simL_val (q_neq rfl rfl rfl) rfl rfl rfl ?_
 refine simL_val (q_move rfl rfl) rfl rfl rfl ?_
 refine simL_valc (b := !decide (x0_7 = (0 : Int))) (fun hb92v => RQ.sub (E' := [(1, .pointer (some ⟨b1v, 0, none⟩))]) ⟨rfl, trivial⟩ (q_fa rfl rfl Try.underlying31 rfl rfl Try.sizeOf4 rfl)) rfl rfl rfl rfl rfl ?_
 refine simL_valc (b := !decide (x0_7 = (0 : Int))) (fun hb91v => RQ.sub (E' := [(96, .pointer (some ⟨b1v, 9, none⟩))]) ⟨lk_cv rfl hb91v, trivial⟩ (q_load rfl rfl Try.isAgg4 (.obj 2 rfl rfl))) rfl rfl rfl rfl rfl ?_
 refine simL_valc (b := !decide (x0_7 = (0 : Int))) (fun hb90v => RQ.sub (E' := [(97, .bool x0_9)]) ⟨lk_cv rfl hb90v, trivial⟩ (q_not rfl rfl)) rfl rfl rfl rfl rfl ?_
 refine simL_val (q_and rfl rfl rfl) rfl rfl rfl (simL_nil (nrm_then ?_))
 refine sim_condb rfl (fun h88v => ?_) (fun h89v => ?_)
 refine sim_seq (sim_region ?_)
 refine simL_val (q_asg rfl rfl) rfl rfl rfl (simL_nil (nrm_then (sim_rtn ?_)))
 refine rtn_block ?_
 refine rtn_cutR ?_
 exact rtn_fn () rfl rfl rfl (.sel 3 rfl (.nil _))
 refine sim_skip ?_
 refine nrm_block ?_
 exact nrm_cutR (s := ()) () trivial (.sel 3 rfl (.nil _))
 refine sim_seq (sim_region ?_)
 refine simL_val (q_eql rfl rfl rfl) rfl rfl rfl ?_
 refine simL_val (q_asg rfl rfl) rfl rfl rfl (simL_nil (nrm_then ?_))
 refine sim_cond rfl (fun h93v => ?_) (fun h94v => ?_)
 refine sim_seq (sim_region ?_)
 refine simL_val (q_fa rfl rfl Try.underlying31 rfl rfl Try.sizeOf29 rfl) rfl rfl rfl ?_
 refine simL_val (q_loads (vs := [.int .i64 x0_11, .int .i64 x0_12, .slice a0_13 x0_13.length c0_13]) rfl rfl Try.isAgg29 Try.sizeOf29 rfl (cells_obj 2 rfl (cells_lit rfl))) rfl rfl rfl ?_
 refine simL_bind (fun s95v hs97v => ?_)
 refine simL_eff (re_call (vs := [.agg #[.int .i64 x0_11, .int .i64 x0_12, .slice a0_13 x0_13.length c0_13]]) (cap := []) (A := []) (rst := [pr (RdV (F) 4 (V61 (F)) g65v.1 s57v.2.2.2.2.2.2.2.2.2.2.1 ∧ s57v.2.2.2.2.2.2.2.2.2.2.1.length ≤ g65v.2.1 ∧ g65v.2.1 ≤ maxLen), pr (Rd (F) g65v.2.2.1 (encB s57v.2.2.2.2.2.2.2.2.2.2.2.2.2) ∧ s57v.2.2.2.2.2.2.2.2.2.2.2.2.2.length ≤ g65v.2.2.2 ∧ g65v.2.2.2 ≤ maxLen), obj b1v 31 [.int .i64 x0_0, .int .i64 x0_1, .int .i64 x0_2, .int .i64 x0_3, .int .i64 x0_4, .int .i64 x0_5, .int .i64 x0_6, .int .i64 x0_7, .int .i64 x0_8, .bool x0_9, .slice a0_10 x0_10.length c0_10, .int .i64 x0_11, .int .i64 x0_12, .slice a0_13 x0_13.length c0_13], F]) rfl rfl rfl rfl rfl rfl Try.call42 (.sel 0 rfl (.sel 0 rfl (.sel 0 rfl (.sel 0 rfl (.nil _))))) (synodref3_CheckSnap.calls _ _ x0_11 x0_12 a0_13 c0_13 x0_13 (h0_13.lend 3 rfl) hc0_13 hm0_13) hs97v) rfl rfl rfl ?_
 intro y96v
 refine simL_val (q_asg rfl rfl) rfl rfl rfl (simL_nil (nrm_then (sim_seq (sim_seq (sim_region ?_)))))
 refine simL_val (q_move rfl rfl) rfl rfl rfl ?_
 refine simL_val (q_neq rfl rfl rfl) rfl rfl rfl (simL_nil (nrm_then ?_))
 refine sim_condn rfl (fun h98v => ?_) (fun h99v => ?_)
 refine sim_skip ?_
 refine nrm_then (sim_seq (sim_region ?_))
 refine simL_val (q_fa rfl rfl Try.underlying31 rfl rfl Try.sizeOf29 rfl) rfl rfl rfl ?_
 refine simL_val (q_loads (vs := [.int .i64 x0_11, .int .i64 x0_12, .slice a0_13 x0_13.length c0_13]) rfl rfl Try.isAgg29 Try.sizeOf29 rfl (cells_obj 2 rfl (cells_lit rfl))) rfl rfl rfl ?_
 refine simL_bind (fun s100v hs102v => ?_)
 refine simL_eff (re_call (vs := [.agg #[.int .i64 x0_11, .int .i64 x0_12, .slice a0_13 x0_13.length c0_13]]) (cap := []) (A := []) (rst := [pr (RdV (F) 4 (V61 (F)) g65v.1 s57v.2.2.2.2.2.2.2.2.2.2.1 ∧ s57v.2.2.2.2.2.2.2.2.2.2.1.length ≤ g65v.2.1 ∧ g65v.2.1 ≤ maxLen), pr (Rd (F) g65v.2.2.1 (encB s57v.2.2.2.2.2.2.2.2.2.2.2.2.2) ∧ s57v.2.2.2.2.2.2.2.2.2.2.2.2.2.length ≤ g65v.2.2.2 ∧ g65v.2.2.2 ≤ maxLen), obj b1v 31 [.int .i64 x0_0, .int .i64 x0_1, .int .i64 x0_2, .int .i64 x0_3, .int .i64 x0_4, .int .i64 x0_5, .int .i64 x0_6, .int .i64 x0_7, .int .i64 x0_8, .bool x0_9, .slice a0_10 x0_10.length c0_10, .int .i64 x0_11, .int .i64 x0_12, .slice a0_13 x0_13.length c0_13], F]) rfl rfl rfl rfl rfl rfl Try.call74 (.sel 0 rfl (.sel 0 rfl (.sel 0 rfl (.sel 0 rfl (.nil _))))) (synodref3_None.calls _ _ x0_11 x0_12 a0_13 c0_13 x0_13 (h0_13.lend 3 rfl) hc0_13 hm0_13) hs102v) rfl rfl rfl ?_
 intro y101v
 refine simL_val (q_move rfl rfl) rfl rfl rfl ?_
 refine simL_valc (b := s100v) (fun hb110v => RQ.sub (E' := [(1, .pointer (some ⟨b1v, 0, none⟩))]) ⟨rfl, trivial⟩ (q_fa rfl rfl Try.underlying31 rfl rfl Try.sizeOf29 rfl)) rfl rfl rfl rfl rfl ?_
 refine simL_valc (b := s100v) (fun hb109v => RQ.sub (E' := [(112, .pointer (some ⟨b1v, 11, none⟩))]) ⟨lk_cv rfl hb109v, trivial⟩ (q_fa rfl rfl Try.underlying29 rfl rfl Try.sizeOf3 rfl)) rfl rfl rfl rfl rfl ?_
 refine simL_valc (b := s100v) (fun hb108v => RQ.sub (E' := [(113, .pointer (some ⟨b1v, 12, none⟩))]) ⟨lk_cv rfl hb108v, trivial⟩ (q_load rfl rfl Try.isAgg3 (.obj 2 rfl rfl))) rfl rfl rfl rfl rfl ?_
 refine simL_valc (b := s100v) (fun hb107v => RQ.sub (E' := [(1, .pointer (some ⟨b1v, 0, none⟩))]) ⟨rfl, trivial⟩ (q_fa rfl rfl Try.underlying31 rfl rfl Try.sizeOf3 rfl)) rfl rfl rfl rfl rfl ?_
 refine simL_valc (b := s100v) (fun hb106v => RQ.sub (E' := [(115, .pointer (some ⟨b1v, 3, none⟩))]) ⟨lk_cv rfl hb106v, trivial⟩ (q_load rfl rfl Try.isAgg3 (.obj 2 rfl rfl))) rfl rfl rfl rfl rfl ?_
 refine simL_valc (b := s100v) (fun hb105v => RQ.sub (E' := [(114, .int .i64 x0_12), (116, .int .i64 x0_3)]) ⟨lk_cv rfl hb105v, lk_cv rfl hb105v, trivial⟩ (q_gtr rfl rfl rfl)) rfl rfl rfl rfl rfl ?_
 refine simL_val (q_or rfl rfl rfl) rfl rfl rfl (simL_nil (nrm_then ?_))
 refine sim_condb rfl (fun h103v => ?_) (fun h104v => ?_)
 refine sim_seq (sim_region ?_)
 refine simL_val (q_asg rfl rfl) rfl rfl rfl (simL_nil (nrm_then (sim_rtn ?_)))
 refine rtn_block ?_
 refine rtn_cutR ?_
 exact rtn_fn () rfl rfl rfl (.sel 3 rfl (.nil _))
 refine sim_skip ?_
 refine nrm_block ?_
 exact nrm_cutR (s := ()) () trivial (.sel 3 rfl (.nil _))
 refine sim_seq (sim_region ?_)
 refine simL_val (q_move rfl rfl) rfl rfl rfl ?_
 refine simL_val (q_asg rfl rfl) rfl rfl rfl (simL_nil (nrm_then (sim_rtn ?_)))
 refine rtn_then ?_
 refine rtn_block ?_
 refine rtn_cutR ?_
 exact rtn_fn () rfl rfl rfl (.sel 3 rfl (.nil _))
 refine sim_skip ?_
 refine nrm_block ?_
 exact nrm_cutR (s := ()) () trivial (.sel 3 rfl (.nil _))
 intro s68v y69v
 refine sim_seq (sim_region ?_)
 refine simL_val (q_asg rfl rfl) rfl rfl rfl (simL_nil (nrm_then (sim_rtn ?_)))
 exact rtn_fn () rfl rfl rfl (.sel 0 rfl (.nil _))

def bytes_Equal.f (x0 : List UInt8) (x1 : List UInt8) : Option (Bool) := some (decide (x0 = x1))
theorem bytes_Equal.calls (W : World) (F : HA) (a0 : Option Addr) (c0 : Nat) (x0 : List UInt8) (a1 : Option Addr) (c1 : Nat) (x1 : List UInt8) (h0 : Rd F a0 (encB x0)) (hc0 : x0.length ≤ c0) (hm0 : c0 ≤ maxLen) (h1 : Rd F a1 (encB x1)) (hc1 : x1.length ≤ c1) (hm1 : c1 ≤ maxLen) :
    Fn Try.prog W 75 [.slice a0 x0.length c0, .slice a1 x1.length c1] [] F (bytes_Equal.f x0 x1) (fun (r : Bool) (y : Unit) => .bool r) (fun r y => []) := by
 unfold bytes_Equal.f
 refine fn_intro 10 Try.func75 rfl Try.ntmps75 rfl ?_
 refine sim_seq (sim_region ?_)
 refine simL_val (q_asg rfl rfl) rfl rfl rfl (simL_nil (nrm_then (sim_seq (sim_region ?_))))
 refine simL_val (q_move rfl rfl) rfl rfl rfl ?_
 refine simL_val (q_tostr rfl rfl Try.underlying27 Try.underlying5 Try.underlying9 (h0.rds 0 rfl) rfl) rfl rfl rfl ?_
 refine simL_val (q_move rfl rfl) rfl rfl rfl ?_
 refine simL_val (q_tostr rfl rfl Try.underlying27 Try.underlying5 Try.underlying9 (h1.rds 0 rfl) rfl) rfl rfl rfl ?_
 refine simL_val (q_eqs rfl rfl rfl) rfl rfl rfl ?_
 refine simL_val (q_asg rfl rfl) rfl rfl rfl (simL_nil (nrm_then (sim_rtn ?_)))
 exact rtn_fn () rfl rfl rfl (.sel 0 rfl (.nil _))
def bytes_Equal.v (x0 : List UInt8) (x1 : List UInt8) : Bool := (bytes_Equal.f x0 x1).getD false
theorem bytes_Equal.tot (x0 : List UInt8) (x1 : List UInt8) : bytes_Equal.f x0 x1 = some (bytes_Equal.v x0 x1) := by
  have h : ∃ r, bytes_Equal.f x0 x1 = some r := by
    unfold bytes_Equal.f
    repeat' (first | exact ⟨_, rfl⟩ | split | simp only [Option.bind_some])
  obtain ⟨r, h⟩ := h
  unfold bytes_Equal.v
  rw [h]; rfl

def codec_Same_State_States.f (k : Nat) (x1_0 : Int) (x1_1 : Int) (x1_2 : Int) (x2_0 : Int) (x2_1 : Int) (x2_2 : Int) : Option (Bool) := (codec_States_Put.f k x1_0 x1_1 x1_2).bind fun s3v => ((codec_States_Put.f k x2_0 x2_1 x2_2).bind fun s6v => ((if ((decide (s3v.2 = (0 : Int))) && (decide (s6v.2 = (0 : Int)))) = true then ((bytes_Equal.f s3v.1 s6v.1).bind fun s19v => (some s19v)) else (some false)).bind fun s9v => (some s9v)))
theorem codec_Same_State_States.calls (W : World) (F : HA) (k : Nat) (x1_0 : Int) (x1_1 : Int) (x1_2 : Int) (x2_0 : Int) (x2_1 : Int) (x2_2 : Int)  :
    Fn Try.prog W 20 [.iface 40 (.agg #[]), .agg #[.int .i64 x1_0, .int .i64 x1_1, .int .i64 x1_2], .agg #[.int .i64 x2_0, .int .i64 x2_1, .int .i64 x2_2]] [] F (codec_Same_State_States.f k x1_0 x1_1 x1_2 x2_0 x2_1 x2_2) (fun (r : Bool) (y : Unit) => .bool r) (fun r y => []) := by
 unfold codec_Same_State_States.f
 refine fn_intro 34 Try.func20 rfl Try.ntmps20 rfl ?_
 refine sim_seq (sim_region ?_)
 refine simL_eff (re_box rfl rfl rfl) rfl rfl rfl ?_
 intro b1v
 refine simL_eff (re_box rfl rfl rfl) rfl rfl rfl ?_
 intro b2v
 refine simL_val (q_asg rfl rfl) rfl rfl rfl (simL_nil (nrm_then (sim_seq (sim_region ?_))))
 refine simL_val (q_move rfl rfl) rfl rfl rfl ?_
 refine simL_val (q_loado 1 rfl rfl Try.isAgg23 Try.sizeOf23 rfl rfl) rfl rfl rfl ?_
 refine simL_bind (fun s3v hs5v => ?_)
 refine simL_eff (re_invoke (vs := [.agg #[.int .i64 x1_0, .int .i64 x1_1, .int .i64 x1_2]]) (A := []) (rst := [obj b2v 23 [.int .i64 x2_0, .int .i64 x2_1, .int .i64 x2_2], obj b1v 23 [.int .i64 x1_0, .int .i64 x1_1, .int .i64 x1_2], F]) rfl rfl rfl rfl rfl (fun _ => by kernel_rfl) Try.call23 (.sel 0 rfl (.sel 0 rfl (.sel 0 rfl (.nil _)))) (codec_States_Put.calls _ _ k x1_0 x1_1 x1_2 ) hs5v) rfl rfl rfl ?_
 intro y4v
 refine simL_val (q_move rfl rfl) rfl rfl rfl ?_
 refine simL_val (q_ext rfl rfl rfl) rfl rfl rfl ?_
 refine simL_val (q_ext rfl rfl rfl) rfl rfl rfl ?_
 refine simL_val (q_asg rfl rfl) rfl rfl rfl ?_
 refine simL_val (q_asg rfl rfl) rfl rfl rfl (simL_nil (nrm_then (sim_seq (sim_region ?_))))
 refine simL_val (q_move rfl rfl) rfl rfl rfl ?_
 refine simL_val (q_loado 1 rfl rfl Try.isAgg23 Try.sizeOf23 rfl rfl) rfl rfl rfl ?_
 refine simL_bind (fun s6v hs8v => ?_)
 refine simL_eff (re_invoke (vs := [.agg #[.int .i64 x2_0, .int .i64 x2_1, .int .i64 x2_2]]) (A := []) (rst := [Row 5 1 y4v.1 s3v.1.length y4v.2 (encB s3v.1), obj b2v 23 [.int .i64 x2_0, .int .i64 x2_1, .int .i64 x2_2], obj b1v 23 [.int .i64 x1_0, .int .i64 x1_1, .int .i64 x1_2], F]) rfl rfl rfl rfl rfl (fun _ => by kernel_rfl) Try.call23 (.sel 0 rfl (.sel 0 rfl (.sel 0 rfl (.sel 0 rfl (.nil _))))) (codec_States_Put.calls _ _ k x2_0 x2_1 x2_2 ) hs8v) rfl rfl rfl ?_
 intro y7v
 refine simL_val (q_move rfl rfl) rfl rfl rfl ?_
 refine simL_val (q_ext rfl rfl rfl) rfl rfl rfl ?_
 refine simL_val (q_ext rfl rfl rfl) rfl rfl rfl ?_
 refine simL_val (q_asg rfl rfl) rfl rfl rfl ?_
 refine simL_val (q_asg rfl rfl) rfl rfl rfl (simL_nil (nrm_then (sim_seq (sim_region ?_))))
 refine simL_val (q_move rfl rfl) rfl rfl rfl ?_
 refine simL_val (q_eql rfl rfl rfl) rfl rfl rfl ?_
 refine simL_val (q_move rfl rfl) rfl rfl rfl ?_
 refine simL_valc (b := decide (s3v.2 = (0 : Int))) (fun hb25v => RQ.sub (E' := [(10, .int .i64 s6v.2)]) ⟨rfl, trivial⟩ (q_move rfl rfl)) rfl rfl rfl rfl rfl ?_
 refine simL_valc (b := decide (s3v.2 = (0 : Int))) (fun hb24v => RQ.sub (E' := [(26, .int .i64 s6v.2)]) ⟨lk_cv rfl hb24v, trivial⟩ (q_eql rfl rfl rfl)) rfl rfl rfl rfl rfl ?_
 refine simL_val (q_and rfl rfl rfl) rfl rfl rfl ?_
 refine simL_val (q_move rfl rfl) rfl rfl rfl ?_
 refine simL_cut' 4 (S := Bool) (Unit) (fun s y => [(33, .bool s)]) (fun s y => [F]) ?_ ?_
 refine simL_caseb (fun hb22v => ?_) (fun hb23v => ?_)
 rw [hb22v]
 refine simL_valg (q_move rfl rfl) rfl rfl rfl rfl rfl rfl ?_
 refine simL_valg (q_move rfl rfl) rfl rfl rfl rfl rfl rfl ?_
 refine simL_bind (fun s19v hs21v => ?_)
 refine simL_lend 1 rfl (fun hq11v hq12v hq13v hq14v => ?_)
 refine simL_lend 0 rfl (fun hq15v hq16v hq17v hq18v => ?_)
 refine simL_effg (re_call (vs := [.slice y4v.1 s3v.1.length y4v.2, .slice y7v.1 s6v.1.length y7v.2]) (cap := []) (A := []) (rst := [Row 5 1 y7v.1 s6v.1.length y7v.2 (encB s6v.1), Row 5 1 y4v.1 s3v.1.length y4v.2 (encB s3v.1), obj b2v 23 [.int .i64 x2_0, .int .i64 x2_1, .int .i64 x2_2], obj b1v 23 [.int .i64 x1_0, .int .i64 x1_1, .int .i64 x1_2], F]) rfl rfl rfl rfl rfl rfl Try.call75 (.sel 0 rfl (.sel 0 rfl (.sel 0 rfl (.sel 0 rfl (.sel 0 rfl (.nil _)))))) (bytes_Equal.calls _ _ y4v.1 y4v.2 s3v.1 y7v.1 y7v.2 s6v.1 (hq11v.lend 1 rfl) hq12v hq13v (hq15v.lend 0 rfl) hq16v hq17v) hs21v) rfl rfl rfl rfl rfl rfl ?_
 intro y20v
 refine simL_val (q_pick rfl rfl rfl rfl rfl) rfl rfl rfl (simL_nil ?_)
 exact nrm_cut (s := s19v) () ⟨rfl, trivial⟩ (.sel 4 rfl (.nil _))
 rw [hb23v]
 refine simL_skipd rfl rfl rfl rfl rfl rfl ?_
 refine simL_skipd rfl rfl rfl rfl rfl rfl ?_
 refine simL_skipd rfl rfl rfl rfl rfl rfl ?_
 refine simL_val (q_pick rfl rfl rfl rfl rfl) rfl rfl rfl (simL_nil ?_)
 exact nrm_cut (s := false) () ⟨rfl, trivial⟩ (.sel 4 rfl (.nil _))
 intro s9v y10v
 refine simL_val (q_asg rfl rfl) rfl rfl rfl (simL_nil (nrm_then (sim_rtn ?_)))
 exact rtn_fn () rfl rfl rfl (.sel 0 rfl (.nil _))

def codec_Commands_Check.f (x1_0 : Int) (x1_1 : Int) (x1_2 : Int) (x1_3 : List UInt8) (x1_4 : List UInt8) (x1_5 : List UInt8) : Option (Int) := if (((!decide (x1_0 = (2 : Int))) && (!decide (x1_0 = (3 : Int)))) && (!decide (x1_0 = (4 : Int)))) = true then (some 6) else ((codec_within.f x1_1 (1 : Int)).bind fun s5v => ((if (!s5v) = true then (some true) else ((codec_within.f x1_2 (1 : Int)).bind fun s10v => (some (!s10v)))).bind fun s8v => (if s8v = true then (some 1) else (if (((decide ((64 : Int) < (x1_3.length : Int))) || (decide ((1024 : Int) < (x1_4.length : Int)))) || (decide ((1024 : Int) < (x1_5.length : Int)))) = true then (some 3) else ((if x1_3 = ([] : List UInt8) then (some true) else (some ((decide (x1_0 = (3 : Int))) && (!decide (x1_4 = ([] : List UInt8)))))).bind fun s19v => ((if s19v = true then (some true) else (some ((!decide (x1_0 = (4 : Int))) && (!decide (x1_5 = ([] : List UInt8)))))).bind fun s26v => (if s26v = true then (some 4) else (some 0))))))))
theorem codec_Commands_Check.calls (W : World) (F : HA) (x1_0 : Int) (x1_1 : Int) (x1_2 : Int) (x1_3 : List UInt8) (x1_4 : List UInt8) (x1_5 : List UInt8)  :
    Fn Try.prog W 54 [.agg #[], .agg #[.int .i64 x1_0, .int .i64 x1_1, .int .i64 x1_2, str x1_3, str x1_4, str x1_5]] [] F (codec_Commands_Check.f x1_0 x1_1 x1_2 x1_3 x1_4 x1_5) (fun (r : Int) (y : Unit) => .int .i64 r) (fun r y => []) := by
 unfold codec_Commands_Check.f
 refine fn_intro 71 Try.func54 rfl Try.ntmps54 rfl ?_
 refine sim_seq (sim_region ?_)
 refine simL_eff (re_box rfl rfl rfl) rfl rfl rfl ?_
 intro b1v
 refine simL_eff (re_box rfl rfl rfl) rfl rfl rfl ?_
 intro b2v
 refine simL_val (q_asg rfl rfl) rfl rfl rfl (simL_nil (nrm_then (sim_seq ?_)))
 refine sim_block ?_
 refine sim_seq (sim_region ?_)
 refine simL_val (q_fa rfl rfl Try.underlying25 rfl rfl Try.sizeOf3 rfl) rfl rfl rfl ?_
 refine simL_val (q_load rfl rfl Try.isAgg3 (.obj 0 rfl rfl)) rfl rfl rfl ?_
 refine simL_val (q_neq rfl rfl rfl) rfl rfl rfl ?_
 refine simL_val (q_move rfl rfl) rfl rfl rfl ?_
 refine simL_valc (b := !decide (x1_0 = (2 : Int))) (fun hb48v => RQ.sub (E' := [(3, .pointer (some ⟨b2v, 0, none⟩))]) ⟨rfl, trivial⟩ (q_fa rfl rfl Try.underlying25 rfl rfl Try.sizeOf3 rfl)) rfl rfl rfl rfl rfl ?_
 refine simL_valc (b := !decide (x1_0 = (2 : Int))) (fun hb47v => RQ.sub (E' := [(10, .pointer (some ⟨b2v, 0, none⟩))]) ⟨lk_cv rfl hb47v, trivial⟩ (q_load rfl rfl Try.isAgg3 (.obj 0 rfl rfl))) rfl rfl rfl rfl rfl ?_
 refine simL_valc (b := !decide (x1_0 = (2 : Int))) (fun hb46v => RQ.sub (E' := [(11, .int .i64 x1_0)]) ⟨lk_cv rfl hb46v, trivial⟩ (q_neq rfl rfl rfl)) rfl rfl rfl rfl rfl ?_
 refine simL_val (q_and rfl rfl rfl) rfl rfl rfl ?_
 refine simL_val (q_move rfl rfl) rfl rfl rfl ?_
 refine simL_valc (b := (!decide (x1_0 = (2 : Int))) && (!decide (x1_0 = (3 : Int)))) (fun hb45v => RQ.sub (E' := [(3, .pointer (some ⟨b2v, 0, none⟩))]) ⟨rfl, trivial⟩ (q_fa rfl rfl Try.underlying25 rfl rfl Try.sizeOf3 rfl)) rfl rfl rfl rfl rfl ?_
 refine simL_valc (b := (!decide (x1_0 = (2 : Int))) && (!decide (x1_0 = (3 : Int)))) (fun hb44v => RQ.sub (E' := [(15, .pointer (some ⟨b2v, 0, none⟩))]) ⟨lk_cv rfl hb44v, trivial⟩ (q_load rfl rfl Try.isAgg3 (.obj 0 rfl rfl))) rfl rfl rfl rfl rfl ?_
 refine simL_valc (b := (!decide (x1_0 = (2 : Int))) && (!decide (x1_0 = (3 : Int)))) (fun hb43v => RQ.sub (E' := [(16, .int .i64 x1_0)]) ⟨lk_cv rfl hb43v, trivial⟩ (q_neq rfl rfl rfl)) rfl rfl rfl rfl rfl ?_
 refine simL_val (q_and rfl rfl rfl) rfl rfl rfl ?_
 refine simL_val (q_asg rfl rfl) rfl rfl rfl (simL_nil (nrm_then ?_))
 refine sim_condb rfl (fun h3v => ?_) (fun h4v => ?_)
 refine sim_seq (sim_region ?_)
 refine simL_val (q_asg rfl rfl) rfl rfl rfl (simL_nil (nrm_then (sim_rtn ?_)))
 refine rtn_block ?_
 refine rtn_then ?_
 exact rtn_fn () rfl rfl rfl (.sel 2 rfl (.nil _))
 refine sim_seq (sim_region ?_)
 refine simL_val (q_fa rfl rfl Try.underlying25 rfl rfl Try.sizeOf3 rfl) rfl rfl rfl ?_
 refine simL_val (q_load rfl rfl Try.isAgg3 (.obj 0 rfl rfl)) rfl rfl rfl ?_
 refine simL_bind (fun s5v hs7v => ?_)
 refine simL_eff (re_call (vs := [.int .i64 x1_1, .int .i64 1]) (cap := []) (A := []) (rst := [obj b2v 25 [.int .i64 x1_0, .int .i64 x1_1, .int .i64 x1_2, str x1_3, str x1_4, str x1_5], obj b1v 42 [], F]) rfl rfl rfl rfl rfl rfl Try.call81 (.sel 0 rfl (.sel 0 rfl (.sel 0 rfl (.nil _)))) (codec_within.calls _ _ x1_1 (1 : Int) ) hs7v) rfl rfl rfl ?_
 intro y6v
 refine simL_val (q_not rfl rfl) rfl rfl rfl ?_
 refine simL_val (q_move rfl rfl) rfl rfl rfl ?_
 refine simL_cut' 5 (S := Bool) (Unit) (fun s y => [(3, .pointer (some ⟨b2v, 0, none⟩)), (29, .bool s)]) (fun s y => [obj b2v 25 [.int .i64 x1_0, .int .i64 x1_1, .int .i64 x1_2, str x1_3, str x1_4, str x1_5], F]) ?_ ?_
 refine simL_caseb (fun hb13v => ?_) (fun hb14v => ?_)
 rw [hb13v]
 refine simL_skipd rfl rfl rfl rfl rfl rfl ?_
 refine simL_skipd rfl rfl rfl rfl rfl rfl ?_
 refine simL_skipd rfl rfl rfl rfl rfl rfl ?_
 refine simL_skipd rfl rfl rfl rfl rfl rfl ?_
 refine simL_val (q_pick rfl rfl rfl rfl rfl) rfl rfl rfl (simL_nil ?_)
 exact nrm_cut (s := true) () ⟨rfl, rfl, trivial⟩ (.sel 0 rfl (.sel 1 rfl (.nil _)))
 rw [hb14v]
 refine simL_valg (q_fa rfl rfl Try.underlying25 rfl rfl Try.sizeOf3 rfl) rfl rfl rfl rfl rfl rfl ?_
 refine simL_valg (q_load rfl rfl Try.isAgg3 (.obj 0 rfl rfl)) rfl rfl rfl rfl rfl rfl ?_
 refine simL_bind (fun s10v hs12v => ?_)
 refine simL_effg (re_call (vs := [.int .i64 x1_2, .int .i64 1]) (cap := []) (A := []) (rst := [obj b2v 25 [.int .i64 x1_0, .int .i64 x1_1, .int .i64 x1_2, str x1_3, str x1_4, str x1_5], obj b1v 42 [], F]) rfl rfl rfl rfl rfl rfl Try.call81 (.sel 0 rfl (.sel 0 rfl (.sel 0 rfl (.nil _)))) (codec_within.calls _ _ x1_2 (1 : Int) ) hs12v) rfl rfl rfl rfl rfl rfl ?_
 intro y11v
 refine simL_valg (q_not rfl rfl) rfl rfl rfl rfl rfl rfl ?_
 refine simL_val (q_pick rfl rfl rfl rfl rfl) rfl rfl rfl (simL_nil ?_)
 exact nrm_cut (s := !s10v) () ⟨rfl, rfl, trivial⟩ (.sel 0 rfl (.sel 1 rfl (.nil _)))
 intro s8v y9v
 refine simL_val (q_asg rfl rfl) rfl rfl rfl (simL_nil (nrm_then ?_))
 refine sim_condb rfl (fun h15v => ?_) (fun h16v => ?_)
 refine sim_seq (sim_region ?_)
 refine simL_val (q_asg rfl rfl) rfl rfl rfl (simL_nil (nrm_then (sim_rtn ?_)))
 refine rtn_block ?_
 refine rtn_then ?_
 exact rtn_fn () rfl rfl rfl (.sel 1 rfl (.nil _))
 refine sim_seq (sim_region ?_)
 refine simL_val (q_fa rfl rfl Try.underlying25 rfl rfl Try.sizeOf9 rfl) rfl rfl rfl ?_
 refine simL_val (q_load rfl rfl Try.isAgg9 (.obj 0 rfl rfl)) rfl rfl rfl ?_
 refine simL_val (q_lens rfl rfl rfl Try.underlying9) rfl rfl rfl ?_
 refine simL_val (q_gtr rfl rfl rfl) rfl rfl rfl ?_
 refine simL_val (q_move rfl rfl) rfl rfl rfl ?_
 refine simL_valc (b := decide ((64 : Int) < (x1_3.length : Int))) (fun hb42v => RQ.sub (E' := [(3, .pointer (some ⟨b2v, 0, none⟩))]) ⟨rfl, trivial⟩ (q_fa rfl rfl Try.underlying25 rfl rfl Try.sizeOf9 rfl)) rfl rfl rfl rfl rfl ?_
 refine simL_valc (b := decide ((64 : Int) < (x1_3.length : Int))) (fun hb41v => RQ.sub (E' := [(36, .pointer (some ⟨b2v, 4, none⟩))]) ⟨lk_cv rfl hb41v, trivial⟩ (q_load rfl rfl Try.isAgg9 (.obj 0 rfl rfl))) rfl rfl rfl rfl rfl ?_
 refine simL_valc (b := decide ((64 : Int) < (x1_3.length : Int))) (fun hb40v => RQ.sub (E' := [(37, str x1_4)]) ⟨lk_cv rfl hb40v, trivial⟩ (q_lens rfl rfl rfl Try.underlying9)) rfl rfl rfl rfl rfl ?_
 refine simL_valc (b := decide ((64 : Int) < (x1_3.length : Int))) (fun hb39v => RQ.sub (E' := [(38, .int .i64 (x1_4.length : Int))]) ⟨lk_cv rfl hb39v, trivial⟩ (q_gtr rfl rfl rfl)) rfl rfl rfl rfl rfl ?_
 refine simL_val (q_or rfl rfl rfl) rfl rfl rfl ?_
 refine simL_val (q_move rfl rfl) rfl rfl rfl ?_
 refine simL_valc (b := (decide ((64 : Int) < (x1_3.length : Int))) || (decide ((1024 : Int) < (x1_4.length : Int)))) (fun hb38v => RQ.sub (E' := [(3, .pointer (some ⟨b2v, 0, none⟩))]) ⟨rfl, trivial⟩ (q_fa rfl rfl Try.underlying25 rfl rfl Try.sizeOf9 rfl)) rfl rfl rfl rfl rfl ?_
 refine simL_valc (b := (decide ((64 : Int) < (x1_3.length : Int))) || (decide ((1024 : Int) < (x1_4.length : Int)))) (fun hb37v => RQ.sub (E' := [(42, .pointer (some ⟨b2v, 5, none⟩))]) ⟨lk_cv rfl hb37v, trivial⟩ (q_load rfl rfl Try.isAgg9 (.obj 0 rfl rfl))) rfl rfl rfl rfl rfl ?_
 refine simL_valc (b := (decide ((64 : Int) < (x1_3.length : Int))) || (decide ((1024 : Int) < (x1_4.length : Int)))) (fun hb36v => RQ.sub (E' := [(43, str x1_5)]) ⟨lk_cv rfl hb36v, trivial⟩ (q_lens rfl rfl rfl Try.underlying9)) rfl rfl rfl rfl rfl ?_
 refine simL_valc (b := (decide ((64 : Int) < (x1_3.length : Int))) || (decide ((1024 : Int) < (x1_4.length : Int)))) (fun hb35v => RQ.sub (E' := [(44, .int .i64 (x1_5.length : Int))]) ⟨lk_cv rfl hb35v, trivial⟩ (q_gtr rfl rfl rfl)) rfl rfl rfl rfl rfl ?_
 refine simL_val (q_or rfl rfl rfl) rfl rfl rfl ?_
 refine simL_val (q_asg rfl rfl) rfl rfl rfl (simL_nil (nrm_then ?_))
 refine sim_condb rfl (fun h17v => ?_) (fun h18v => ?_)
 refine sim_seq (sim_region ?_)
 refine simL_val (q_asg rfl rfl) rfl rfl rfl (simL_nil (nrm_then (sim_rtn ?_)))
 refine rtn_block ?_
 refine rtn_then ?_
 exact rtn_fn () rfl rfl rfl (.sel 1 rfl (.nil _))
 refine sim_seq (sim_region ?_)
 refine simL_val (q_fa rfl rfl Try.underlying25 rfl rfl Try.sizeOf9 rfl) rfl rfl rfl ?_
 refine simL_val (q_load rfl rfl Try.isAgg9 (.obj 0 rfl rfl)) rfl rfl rfl ?_
 refine simL_val (q_eqs rfl rfl rfl) rfl rfl rfl ?_
 refine simL_val (q_move rfl rfl) rfl rfl rfl ?_
 refine simL_cut' 9 (S := Bool) (Unit) (fun s y => [(3, .pointer (some ⟨b2v, 0, none⟩)), (60, .bool s)]) (fun s y => [obj b2v 25 [.int .i64 x1_0, .int .i64 x1_1, .int .i64 x1_2, str x1_3, str x1_4, str x1_5], F]) ?_ ?_
 refine simL_casep (fun hb24v => ?_) (fun hb25v => ?_)
 rw [hb24v]
 refine simL_skipd rfl rfl rfl rfl rfl rfl ?_
 refine simL_skipd rfl rfl rfl rfl rfl rfl ?_
 refine simL_skipd rfl rfl rfl rfl rfl rfl ?_
 refine simL_skipd rfl rfl rfl rfl rfl rfl ?_
 refine simL_skipu rfl rfl rfl rfl rfl ?_
 refine simL_skipu rfl rfl rfl rfl rfl ?_
 refine simL_skipu rfl rfl rfl rfl rfl ?_
 refine simL_skipd rfl rfl rfl rfl rfl rfl ?_
 refine simL_val (q_pick rfl rfl rfl rfl rfl) rfl rfl rfl (simL_nil ?_)
 exact nrm_cut (s := true) () ⟨rfl, rfl, trivial⟩ (.sel 0 rfl (.sel 0 rfl (.nil _)))
 rw [hb25v]
 refine simL_valg (q_fa rfl rfl Try.underlying25 rfl rfl Try.sizeOf3 rfl) rfl rfl rfl rfl rfl rfl ?_
 refine simL_valg (q_load rfl rfl Try.isAgg3 (.obj 0 rfl rfl)) rfl rfl rfl rfl rfl rfl ?_
 refine simL_valg (q_eql rfl rfl rfl) rfl rfl rfl rfl rfl rfl ?_
 refine simL_valg (q_move rfl rfl) rfl rfl rfl rfl rfl rfl ?_
 refine simL_valc (b := decide (x1_0 = (3 : Int))) (fun hb23v => RQ.sub (E' := [(3, .pointer (some ⟨b2v, 0, none⟩))]) ⟨rfl, trivial⟩ (q_fa rfl rfl Try.underlying25 rfl rfl Try.sizeOf9 rfl)) rfl rfl rfl rfl rfl ?_
 refine simL_valc (b := decide (x1_0 = (3 : Int))) (fun hb22v => RQ.sub (E' := [(56, .pointer (some ⟨b2v, 4, none⟩))]) ⟨lk_cv rfl hb22v, trivial⟩ (q_load rfl rfl Try.isAgg9 (.obj 0 rfl rfl))) rfl rfl rfl rfl rfl ?_
 refine simL_valc (b := decide (x1_0 = (3 : Int))) (fun hb21v => RQ.sub (E' := [(57, str x1_4)]) ⟨lk_cv rfl hb21v, trivial⟩ (q_nes rfl rfl rfl)) rfl rfl rfl rfl rfl ?_
 refine simL_valg (q_and rfl rfl rfl) rfl rfl rfl rfl rfl rfl ?_
 refine simL_val (q_pick rfl rfl rfl rfl rfl) rfl rfl rfl (simL_nil ?_)
 exact nrm_cut (s := (decide (x1_0 = (3 : Int))) && (!decide (x1_4 = ([] : List UInt8)))) () ⟨rfl, rfl, trivial⟩ (.sel 0 rfl (.sel 0 rfl (.nil _)))
 intro s19v y20v
 refine simL_val (q_move rfl rfl) rfl rfl rfl ?_
 refine simL_cut' 9 (S := Bool) (Unit) (fun s y => [(70, .bool s)]) (fun s y => [F]) ?_ ?_
 refine simL_caseb (fun hb31v => ?_) (fun hb32v => ?_)
 rw [hb31v]
 refine simL_skipd rfl rfl rfl rfl rfl rfl ?_
 refine simL_skipd rfl rfl rfl rfl rfl rfl ?_
 refine simL_skipd rfl rfl rfl rfl rfl rfl ?_
 refine simL_skipd rfl rfl rfl rfl rfl rfl ?_
 refine simL_skipu rfl rfl rfl rfl rfl ?_
 refine simL_skipu rfl rfl rfl rfl rfl ?_
 refine simL_skipu rfl rfl rfl rfl rfl ?_
 refine simL_skipd rfl rfl rfl rfl rfl rfl ?_
 refine simL_val (q_pick rfl rfl rfl rfl rfl) rfl rfl rfl (simL_nil ?_)
 exact nrm_cut (s := true) () ⟨rfl, trivial⟩ (.sel 1 rfl (.nil _))
 rw [hb32v]
 refine simL_valg (q_fa rfl rfl Try.underlying25 rfl rfl Try.sizeOf3 rfl) rfl rfl rfl rfl rfl rfl ?_
 refine simL_valg (q_load rfl rfl Try.isAgg3 (.obj 0 rfl rfl)) rfl rfl rfl rfl rfl rfl ?_
 refine simL_valg (q_neq rfl rfl rfl) rfl rfl rfl rfl rfl rfl ?_
 refine simL_valg (q_move rfl rfl) rfl rfl rfl rfl rfl rfl ?_
 refine simL_valc (b := !decide (x1_0 = (4 : Int))) (fun hb30v => RQ.sub (E' := [(3, .pointer (some ⟨b2v, 0, none⟩))]) ⟨rfl, trivial⟩ (q_fa rfl rfl Try.underlying25 rfl rfl Try.sizeOf9 rfl)) rfl rfl rfl rfl rfl ?_
 refine simL_valc (b := !decide (x1_0 = (4 : Int))) (fun hb29v => RQ.sub (E' := [(66, .pointer (some ⟨b2v, 5, none⟩))]) ⟨lk_cv rfl hb29v, trivial⟩ (q_load rfl rfl Try.isAgg9 (.obj 0 rfl rfl))) rfl rfl rfl rfl rfl ?_
 refine simL_valc (b := !decide (x1_0 = (4 : Int))) (fun hb28v => RQ.sub (E' := [(67, str x1_5)]) ⟨lk_cv rfl hb28v, trivial⟩ (q_nes rfl rfl rfl)) rfl rfl rfl rfl rfl ?_
 refine simL_valg (q_and rfl rfl rfl) rfl rfl rfl rfl rfl rfl ?_
 refine simL_val (q_pick rfl rfl rfl rfl rfl) rfl rfl rfl (simL_nil ?_)
 exact nrm_cut (s := (!decide (x1_0 = (4 : Int))) && (!decide (x1_5 = ([] : List UInt8)))) () ⟨rfl, trivial⟩ (.sel 1 rfl (.nil _))
 intro s26v y27v
 refine simL_val (q_asg rfl rfl) rfl rfl rfl (simL_nil (nrm_then ?_))
 refine sim_condb rfl (fun h33v => ?_) (fun h34v => ?_)
 refine sim_seq (sim_region ?_)
 refine simL_val (q_asg rfl rfl) rfl rfl rfl (simL_nil (nrm_then (sim_rtn ?_)))
 refine rtn_block ?_
 refine rtn_then ?_
 exact rtn_fn () rfl rfl rfl (.sel 0 rfl (.nil _))
 refine sim_skip ?_
 refine nrm_block (nrm_then (sim_seq (sim_region ?_)))
 refine simL_val (q_asg rfl rfl) rfl rfl rfl (simL_nil (nrm_then (sim_rtn ?_)))
 exact rtn_fn () rfl rfl rfl (.sel 0 rfl (.nil _))
def codec_Commands_Check.v (x1_0 : Int) (x1_1 : Int) (x1_2 : Int) (x1_3 : List UInt8) (x1_4 : List UInt8) (x1_5 : List UInt8) : Int := (codec_Commands_Check.f x1_0 x1_1 x1_2 x1_3 x1_4 x1_5).getD 0
theorem codec_Commands_Check.tot (x1_0 : Int) (x1_1 : Int) (x1_2 : Int) (x1_3 : List UInt8) (x1_4 : List UInt8) (x1_5 : List UInt8) : codec_Commands_Check.f x1_0 x1_1 x1_2 x1_3 x1_4 x1_5 = some (codec_Commands_Check.v x1_0 x1_1 x1_2 x1_3 x1_4 x1_5) := by
  have h : ∃ r, codec_Commands_Check.f x1_0 x1_1 x1_2 x1_3 x1_4 x1_5 = some r := by
    unfold codec_Commands_Check.f
    repeat' (first | exact ⟨_, rfl⟩ | split | simp only [Option.bind_some, codec_within.tot])
  obtain ⟨r, h⟩ := h
  unfold codec_Commands_Check.v
  rw [h]; rfl

def wire_Writer_Text.f (k : Nat) (x0_0 : List UInt8) (x0_1 : Int) (x1 : List UInt8) (x2 : Int) : Option (List UInt8 × Int) := if x1.length ≤ 140737488355328 then ((wire_Writer_Bytes.f k x0_0 x0_1 x1 x2).bind fun s7v => (some (s7v.1, s7v.2))) else none
theorem wire_Writer_Text.calls (W : World) (F : HA) (k : Nat) (b0 : Nat) (a0_0 : Option Addr) (c0_0 : Nat) (x0_0 : List UInt8) (x0_1 : Int) (x1 : List UInt8) (x2 : Int)  :
    Fn Try.prog W 97 [.pointer (some ⟨b0, 0, none⟩), str x1, .int .i64 x2] [obj b0 187 [.slice a0_0 x0_0.length c0_0, .int .i64 x0_1], Row 5 1 a0_0 x0_0.length c0_0 (encB x0_0)] F (wire_Writer_Text.f k x0_0 x0_1 x1 x2) (fun (r : List UInt8 × Int) (y : Option Addr × Nat) => .tuple #[]) (fun r y => [obj b0 187 [.slice y.1 r.1.length y.2, .int .i64 r.2], Row 5 1 y.1 r.1.length y.2 (encB r.1)]) := by
 unfold wire_Writer_Text.f
 refine fn_intro 11 Try.func97 rfl Try.ntmps97 rfl ?_
 refine sim_region ?_
 refine simL_val (q_move rfl rfl) rfl rfl rfl ?_
 refine simL_val (q_move rfl rfl) rfl rfl rfl ?_
 refine simL_ask (fun hb2v => ?_)
 refine simL_eff (re_tobytes rfl rfl Try.underlying9 Try.underlying27 Try.underlying5 hb2v) rfl rfl rfl ?_
 intro y1v
 refine simL_val (q_move rfl rfl) rfl rfl rfl ?_
 refine simL_bind (fun s7v hs9v => ?_)
 refine simL_lend 0 rfl (fun hq3v hq4v hq5v hq6v => ?_)
 refine simL_eff (re_call (vs := [.pointer (some ⟨b0, 0, none⟩), .slice (some ⟨y1v.1, 0, none⟩) x1.length y1v.2, .int .i64 x2]) (cap := []) (A := [obj b0 187 [.slice a0_0 x0_0.length c0_0, .int .i64 x0_1], Row 5 1 a0_0 x0_0.length c0_0 (encB x0_0)]) (rst := [Row 5 1 (some ⟨y1v.1, 0, none⟩) x1.length y1v.2 (encB x1), F]) rfl rfl rfl rfl rfl rfl Try.call88 (.sel 1 rfl (.sel 1 rfl (.sel 0 rfl (.sel 0 rfl (.nil _))))) (wire_Writer_Bytes.calls _ _ k b0 a0_0 c0_0 x0_0 x0_1 (some ⟨y1v.1, 0, none⟩) y1v.2 x1 x2 (hq3v.lend 0 rfl) hq4v hq5v) hs9v) rfl rfl rfl ?_
 intro y8v
 refine simL_nil ?_
 exact nrm_fn (y8v.1, y8v.2) rfl rfl rfl (.sel 0 rfl (.sel 0 rfl (.sel 1 rfl (.nil _))))

def codec_Commands_Put_1_s.f (k : Nat) (xp0_0 : List UInt8) (xp0_1 : Int) (xp1_0 : Int) (xp1_1 : Int) (xp1_2 : Int) (xp1_3 : List UInt8) (xp1_4 : List UInt8) (xp1_5 : List UInt8) : Option (List UInt8 × Int) := (wire_Writer_Int.f k xp0_0 xp0_1 xp1_0).bind fun s1v => ((wire_Writer_Int.f k s1v.1 s1v.2 xp1_1).bind fun s4v => ((wire_Writer_Int.f k s4v.1 s4v.2 xp1_2).bind fun s7v => ((wire_Writer_Text.f k s7v.1 s7v.2 xp1_3 (64 : Int)).bind fun s10v => ((wire_Writer_Text.f k s10v.1 s10v.2 xp1_4 (1024 : Int)).bind fun s13v => ((wire_Writer_Text.f k s13v.1 s13v.2 xp1_5 (1024 : Int)).bind fun s16v => (some (s16v.1, s16v.2)))))))
theorem codec_Commands_Put_1_s.calls (W : World) (F : HA) (k : Nat) (bp0 : Nat) (ap0_0 : Option Addr) (cp0_0 : Nat) (xp0_0 : List UInt8) (xp0_1 : Int) (bp1 : Nat) (xp1_0 : Int) (xp1_1 : Int) (xp1_2 : Int) (xp1_3 : List UInt8) (xp1_4 : List UInt8) (xp1_5 : List UInt8)  :
    Fn Try.prog W 102 [.pointer (some ⟨bp0, 0, none⟩), .pointer (some ⟨bp1, 0, none⟩)] [obj bp0 187 [.slice ap0_0 xp0_0.length cp0_0, .int .i64 xp0_1], Row 5 1 ap0_0 xp0_0.length cp0_0 (encB xp0_0), obj bp1 25 [.int .i64 xp1_0, .int .i64 xp1_1, .int .i64 xp1_2, str xp1_3, str xp1_4, str xp1_5]] F (codec_Commands_Put_1_s.f k xp0_0 xp0_1 xp1_0 xp1_1 xp1_2 xp1_3 xp1_4 xp1_5) (fun (r : List UInt8 × Int) (y : Option Addr × Nat) => .tuple #[]) (fun r y => [obj bp0 187 [.slice y.1 r.1.length y.2, .int .i64 r.2], Row 5 1 y.1 r.1.length y.2 (encB r.1), obj bp1 25 [.int .i64 xp1_0, .int .i64 xp1_1, .int .i64 xp1_2, str xp1_3, str xp1_4, str xp1_5]]) := by
 unfold codec_Commands_Put_1_s.f
 refine fn_intro 27 Try.func102 rfl Try.ntmps102 rfl ?_
 refine sim_seq (sim_region ?_)
 refine simL_val (q_move rfl rfl) rfl rfl rfl ?_
 refine simL_val (q_fa rfl rfl Try.underlying25 rfl rfl Try.sizeOf3 rfl) rfl rfl rfl ?_
 refine simL_val (q_load rfl rfl Try.isAgg3 (.obj 2 rfl rfl)) rfl rfl rfl ?_
 refine simL_bind (fun s1v hs3v => ?_)
 refine simL_eff (re_call (vs := [.pointer (some ⟨bp0, 0, none⟩), .int .i64 xp1_0]) (cap := []) (A := [obj bp0 187 [.slice ap0_0 xp0_0.length cp0_0, .int .i64 xp0_1], Row 5 1 ap0_0 xp0_0.length cp0_0 (encB xp0_0)]) (rst := [obj bp1 25 [.int .i64 xp1_0, .int .i64 xp1_1, .int .i64 xp1_2, str xp1_3, str xp1_4, str xp1_5], F]) rfl rfl rfl rfl rfl rfl Try.call78 (.sel 0 rfl (.sel 0 rfl (.sel 0 rfl (.sel 0 rfl (.nil _))))) (wire_Writer_Int.calls _ _ k bp0 ap0_0 cp0_0 xp0_0 xp0_1 xp1_0 ) hs3v) rfl rfl rfl ?_
 intro y2v
 refine simL_nil (nrm_then (sim_seq (sim_region ?_)))
 refine simL_val (q_move rfl rfl) rfl rfl rfl ?_
 refine simL_val (q_fa rfl rfl Try.underlying25 rfl rfl Try.sizeOf3 rfl) rfl rfl rfl ?_
 refine simL_val (q_load rfl rfl Try.isAgg3 (.obj 2 rfl rfl)) rfl rfl rfl ?_
 refine simL_bind (fun s4v hs6v => ?_)
 refine simL_eff (re_call (vs := [.pointer (some ⟨bp0, 0, none⟩), .int .i64 xp1_1]) (cap := []) (A := [obj bp0 187 [.slice y2v.1 s1v.1.length y2v.2, .int .i64 s1v.2], Row 5 1 y2v.1 s1v.1.length y2v.2 (encB s1v.1)]) (rst := [obj bp1 25 [.int .i64 xp1_0, .int .i64 xp1_1, .int .i64 xp1_2, str xp1_3, str xp1_4, str xp1_5], F]) rfl rfl rfl rfl rfl rfl Try.call78 (.sel 0 rfl (.sel 0 rfl (.sel 0 rfl (.sel 0 rfl (.nil _))))) (wire_Writer_Int.calls _ _ k bp0 y2v.1 y2v.2 s1v.1 s1v.2 xp1_1 ) hs6v) rfl rfl rfl ?_
 intro y5v
 refine simL_nil (nrm_then (sim_seq (sim_region ?_)))
 refine simL_val (q_move rfl rfl) rfl rfl rfl ?_
 refine simL_val (q_fa rfl rfl Try.underlying25 rfl rfl Try.sizeOf3 rfl) rfl rfl rfl ?_
 refine simL_val (q_load rfl rfl Try.isAgg3 (.obj 2 rfl rfl)) rfl rfl rfl ?_
 refine simL_bind (fun s7v hs9v => ?_)
 refine simL_eff (re_call (vs := [.pointer (some ⟨bp0, 0, none⟩), .int .i64 xp1_2]) (cap := []) (A := [obj bp0 187 [.slice y5v.1 s4v.1.length y5v.2, .int .i64 s4v.2], Row 5 1 y5v.1 s4v.1.length y5v.2 (encB s4v.1)]) (rst := [obj bp1 25 [.int .i64 xp1_0, .int .i64 xp1_1, .int .i64 xp1_2, str xp1_3, str xp1_4, str xp1_5], F]) rfl rfl rfl rfl rfl rfl Try.call78 (.sel 0 rfl (.sel 0 rfl (.sel 0 rfl (.sel 0 rfl (.nil _))))) (wire_Writer_Int.calls _ _ k bp0 y5v.1 y5v.2 s4v.1 s4v.2 xp1_2 ) hs9v) rfl rfl rfl ?_
 intro y8v
 refine simL_nil (nrm_then (sim_seq (sim_region ?_)))
 refine simL_val (q_move rfl rfl) rfl rfl rfl ?_
 refine simL_val (q_fa rfl rfl Try.underlying25 rfl rfl Try.sizeOf9 rfl) rfl rfl rfl ?_
 refine simL_val (q_load rfl rfl Try.isAgg9 (.obj 2 rfl rfl)) rfl rfl rfl ?_
 refine simL_bind (fun s10v hs12v => ?_)
 refine simL_eff (re_call (vs := [.pointer (some ⟨bp0, 0, none⟩), str xp1_3, .int .i64 64]) (cap := []) (A := [obj bp0 187 [.slice y8v.1 s7v.1.length y8v.2, .int .i64 s7v.2], Row 5 1 y8v.1 s7v.1.length y8v.2 (encB s7v.1)]) (rst := [obj bp1 25 [.int .i64 xp1_0, .int .i64 xp1_1, .int .i64 xp1_2, str xp1_3, str xp1_4, str xp1_5], F]) rfl rfl rfl rfl rfl rfl Try.call97 (.sel 0 rfl (.sel 0 rfl (.sel 0 rfl (.sel 0 rfl (.nil _))))) (wire_Writer_Text.calls _ _ k bp0 y8v.1 y8v.2 s7v.1 s7v.2 xp1_3 (64 : Int) ) hs12v) rfl rfl rfl ?_
 intro y11v
 refine simL_nil (nrm_then (sim_seq (sim_region ?_)))
 refine simL_val (q_move rfl rfl) rfl rfl rfl ?_
 refine simL_val (q_fa rfl rfl Try.underlying25 rfl rfl Try.sizeOf9 rfl) rfl rfl rfl ?_
 refine simL_val (q_load rfl rfl Try.isAgg9 (.obj 2 rfl rfl)) rfl rfl rfl ?_
 refine simL_bind (fun s13v hs15v => ?_)
 refine simL_eff (re_call (vs := [.pointer (some ⟨bp0, 0, none⟩), str xp1_4, .int .i64 1024]) (cap := []) (A := [obj bp0 187 [.slice y11v.1 s10v.1.length y11v.2, .int .i64 s10v.2], Row 5 1 y11v.1 s10v.1.length y11v.2 (encB s10v.1)]) (rst := [obj bp1 25 [.int .i64 xp1_0, .int .i64 xp1_1, .int .i64 xp1_2, str xp1_3, str xp1_4, str xp1_5], F]) rfl rfl rfl rfl rfl rfl Try.call97 (.sel 0 rfl (.sel 0 rfl (.sel 0 rfl (.sel 0 rfl (.nil _))))) (wire_Writer_Text.calls _ _ k bp0 y11v.1 y11v.2 s10v.1 s10v.2 xp1_4 (1024 : Int) ) hs15v) rfl rfl rfl ?_
 intro y14v
 refine simL_nil (nrm_then (sim_region ?_))
 refine simL_val (q_move rfl rfl) rfl rfl rfl ?_
 refine simL_val (q_fa rfl rfl Try.underlying25 rfl rfl Try.sizeOf9 rfl) rfl rfl rfl ?_
 refine simL_val (q_load rfl rfl Try.isAgg9 (.obj 2 rfl rfl)) rfl rfl rfl ?_
 refine simL_bind (fun s16v hs18v => ?_)
 refine simL_eff (re_call (vs := [.pointer (some ⟨bp0, 0, none⟩), str xp1_5, .int .i64 1024]) (cap := []) (A := [obj bp0 187 [.slice y14v.1 s13v.1.length y14v.2, .int .i64 s13v.2], Row 5 1 y14v.1 s13v.1.length y14v.2 (encB s13v.1)]) (rst := [obj bp1 25 [.int .i64 xp1_0, .int .i64 xp1_1, .int .i64 xp1_2, str xp1_3, str xp1_4, str xp1_5], F]) rfl rfl rfl rfl rfl rfl Try.call97 (.sel 0 rfl (.sel 0 rfl (.sel 0 rfl (.sel 0 rfl (.nil _))))) (wire_Writer_Text.calls _ _ k bp0 y14v.1 y14v.2 s13v.1 s13v.2 xp1_5 (1024 : Int) ) hs18v) rfl rfl rfl ?_
 intro y17v
 refine simL_nil ?_
 exact nrm_fn (y17v.1, y17v.2) rfl rfl rfl (.sel 0 rfl (.sel 0 rfl (.sel 0 rfl (.sel 0 rfl (.nil _)))))

def codec_text_codec_Commands_Put_1.f (k : Nat) (x0 : Int) (xp0_0 : Int) (xp0_1 : Int) (xp0_2 : Int) (xp0_3 : List UInt8) (xp0_4 : List UInt8) (xp0_5 : List UInt8) : Option (List UInt8 × Int) := if x0 = (0 : Int) then ((wire_NewWriter.f).bind fun s3v => ((codec_Commands_Put_1_s.f k s3v.1 s3v.2 xp0_0 xp0_1 xp0_2 xp0_3 xp0_4 xp0_5).bind fun s6v => ((wire_Writer_Done.f s6v.1 s6v.2).bind fun s13v => (some (s13v.1, s13v.2))))) else (some (([] : List UInt8), x0))
theorem codec_text_codec_Commands_Put_1.calls (W : World) (F : HA) (k : Nat) (x0 : Int) (bp0 : Nat) (xp0_0 : Int) (xp0_1 : Int) (xp0_2 : Int) (xp0_3 : List UInt8) (xp0_4 : List UInt8) (xp0_5 : List UInt8)  :
    Fn Try.prog W 76 [.int .i64 x0, .func (.func 102) #[] #[.pointer (some ⟨bp0, 0, none⟩)]] [obj bp0 25 [.int .i64 xp0_0, .int .i64 xp0_1, .int .i64 xp0_2, str xp0_3, str xp0_4, str xp0_5]] F (codec_text_codec_Commands_Put_1.f k x0 xp0_0 xp0_1 xp0_2 xp0_3 xp0_4 xp0_5) (fun (r : List UInt8 × Int) (y : Option Addr × Nat) => .tuple #[.slice y.1 r.1.length y.2, .int .i64 r.2]) (fun r y => [Row 5 1 y.1 r.1.length y.2 (encB r.1), obj bp0 25 [.int .i64 xp0_0, .int .i64 xp0_1, .int .i64 xp0_2, str xp0_3, str xp0_4, str xp0_5]]) := by
 unfold codec_text_codec_Commands_Put_1.f
 refine fn_intro 18 Try.func76 rfl Try.ntmps76 rfl ?_
 refine sim_seq (sim_region ?_)
 refine simL_val (q_asg rfl rfl) rfl rfl rfl ?_
 refine simL_val (q_asg rfl rfl) rfl rfl rfl (simL_nil (nrm_then (sim_seq (sim_seq (sim_region ?_)))))
 refine simL_val (q_move rfl rfl) rfl rfl rfl ?_
 refine simL_val (q_neq rfl rfl rfl) rfl rfl rfl (simL_nil (nrm_then ?_))
 refine sim_condn rfl (fun h1v => ?_) (fun h2v => ?_)
 refine sim_skip ?_
 refine nrm_then (sim_seq (sim_region ?_))
 refine simL_bind (fun s3v hs5v => ?_)
 refine simL_eff (re_call (vs := []) (cap := []) (A := []) (rst := [obj bp0 25 [.int .i64 xp0_0, .int .i64 xp0_1, .int .i64 xp0_2, str xp0_3, str xp0_4, str xp0_5], F]) rfl rfl rfl rfl rfl rfl Try.call119 (.sel 0 rfl (.sel 0 rfl (.nil _))) (wire_NewWriter.calls _ _  ) hs5v) rfl rfl rfl ?_
 intro y4v
 refine simL_val (q_asg rfl rfl) rfl rfl rfl (simL_nil (nrm_then (sim_seq (sim_region ?_))))
 refine simL_val (q_move rfl rfl) rfl rfl rfl ?_
 refine simL_val (q_move rfl rfl) rfl rfl rfl ?_
 refine simL_bind (fun s6v hs8v => ?_)
 refine simL_eff (re_call (vs := [.pointer (some ⟨y4v.1, 0, none⟩)]) (cap := [.pointer (some ⟨bp0, 0, none⟩)]) (A := [obj y4v.1 187 [.slice y4v.2.1 s3v.1.length y4v.2.2, .int .i64 s3v.2], Row 5 1 y4v.2.1 s3v.1.length y4v.2.2 (encB s3v.1), obj bp0 25 [.int .i64 xp0_0, .int .i64 xp0_1, .int .i64 xp0_2, str xp0_3, str xp0_4, str xp0_5]]) (rst := [F]) rfl rfl rfl rfl rfl rfl Try.call102 (.sel 0 rfl (.sel 0 rfl (.sel 0 rfl (.sel 0 rfl (.nil _))))) (codec_Commands_Put_1_s.calls _ _ k y4v.1 y4v.2.1 y4v.2.2 s3v.1 s3v.2 bp0 xp0_0 xp0_1 xp0_2 xp0_3 xp0_4 xp0_5 ) hs8v) rfl rfl rfl ?_
 intro y7v
 refine simL_nil (nrm_then (sim_seq (sim_region ?_)))
 refine simL_val (q_move rfl rfl) rfl rfl rfl ?_
 refine simL_bind (fun s13v hs15v => ?_)
 refine simL_lend 1 rfl (fun hq9v hq10v hq11v hq12v => ?_)
 refine simL_eff (re_call (vs := [.pointer (some ⟨y4v.1, 0, none⟩)]) (cap := []) (A := [obj y4v.1 187 [.slice y7v.1 s6v.1.length y7v.2, .int .i64 s6v.2]]) (rst := [Row 5 1 y7v.1 s6v.1.length y7v.2 (encB s6v.1), obj bp0 25 [.int .i64 xp0_0, .int .i64 xp0_1, .int .i64 xp0_2, str xp0_3, str xp0_4, str xp0_5], F]) rfl rfl rfl rfl rfl rfl Try.call120 (.sel 0 rfl (.sel 0 rfl (.sel 0 rfl (.sel 0 rfl (.nil _))))) (wire_Writer_Done.calls _ _ y4v.1 y7v.1 y7v.2 s6v.1 s6v.2 (hq9v.lend 0 rfl) hq10v hq11v) hs15v) rfl rfl rfl ?_
 intro y14v
 refine simL_val (q_ext rfl rfl rfl) rfl rfl rfl ?_
 refine simL_val (q_ext rfl rfl rfl) rfl rfl rfl ?_
 refine simL_val (q_asg rfl rfl) rfl rfl rfl ?_
 refine simL_val (q_asg rfl rfl) rfl rfl rfl (simL_nil (nrm_then (sim_rtn ?_)))
 exact rtn_fn (y14v.1, y14v.2) rfl rfl rfl (.sel 0 rfl (.sel 2 rfl (.sel 2 rfl (.nil _))))
 refine sim_seq (sim_region ?_)
 refine simL_val (q_move rfl rfl) rfl rfl rfl ?_
 refine simL_val (q_asg rfl rfl) rfl rfl rfl ?_
 refine simL_val (q_asg rfl rfl) rfl rfl rfl (simL_nil (nrm_then (sim_rtn ?_)))
 refine rtn_then ?_
 exact rtn_fn (none, 0) rfl rfl rfl (.row_nil (.sel 0 rfl (.sel 0 rfl (.nil _))))

def codec_Commands_Put.f (k : Nat) (x1_0 : Int) (x1_1 : Int) (x1_2 : Int) (x1_3 : List UInt8) (x1_4 : List UInt8) (x1_5 : List UInt8) : Option (List UInt8 × Int) := (codec_Commands_Check.f x1_0 x1_1 x1_2 x1_3 x1_4 x1_5).bind fun s3v => ((codec_text_codec_Commands_Put_1.f k s3v x1_0 x1_1 x1_2 x1_3 x1_4 x1_5).bind fun s6v => (some (s6v.1, s6v.2)))
theorem codec_Commands_Put.calls (W : World) (F : HA) (k : Nat) (x1_0 : Int) (x1_1 : Int) (x1_2 : Int) (x1_3 : List UInt8) (x1_4 : List UInt8) (x1_5 : List UInt8)  :
    Fn Try.prog W 52 [.agg #[], .agg #[.int .i64 x1_0, .int .i64 x1_1, .int .i64 x1_2, str x1_3, str x1_4, str x1_5]] [] F (codec_Commands_Put.f k x1_0 x1_1 x1_2 x1_3 x1_4 x1_5) (fun (r : List UInt8 × Int) (y : Option Addr × Nat) => .tuple #[.slice y.1 r.1.length y.2, .int .i64 r.2]) (fun r y => [Row 5 1 y.1 r.1.length y.2 (encB r.1)]) := by
 unfold codec_Commands_Put.f
 refine fn_intro 13 Try.func52 rfl Try.ntmps52 rfl ?_
 refine sim_seq (sim_region ?_)
 refine simL_eff (re_box rfl rfl rfl) rfl rfl rfl ?_
 intro b1v
 refine simL_eff (re_box rfl rfl rfl) rfl rfl rfl ?_
 intro b2v
 refine simL_val (q_asg rfl rfl) rfl rfl rfl ?_
 refine simL_val (q_asg rfl rfl) rfl rfl rfl (simL_nil (nrm_then (sim_seq (sim_region ?_))))
 refine simL_val (q_loado 1 rfl rfl Try.isAgg42 Try.sizeOf42 rfl rfl) rfl rfl rfl ?_
 refine simL_val (q_loado 0 rfl rfl Try.isAgg25 Try.sizeOf25 rfl rfl) rfl rfl rfl ?_
 refine simL_bind (fun s3v hs5v => ?_)
 refine simL_eff (re_call (vs := [.agg #[], .agg #[.int .i64 x1_0, .int .i64 x1_1, .int .i64 x1_2, str x1_3, str x1_4, str x1_5]]) (cap := []) (A := []) (rst := [obj b2v 25 [.int .i64 x1_0, .int .i64 x1_1, .int .i64 x1_2, str x1_3, str x1_4, str x1_5], obj b1v 42 [], F]) rfl rfl rfl rfl rfl rfl Try.call54 (.sel 0 rfl (.sel 0 rfl (.sel 0 rfl (.nil _)))) (codec_Commands_Check.calls _ _ x1_0 x1_1 x1_2 x1_3 x1_4 x1_5 ) hs5v) rfl rfl rfl ?_
 intro y4v
 refine simL_val (q_mkfn rfl rfl rfl) rfl rfl rfl ?_
 refine simL_bind (fun s6v hs8v => ?_)
 refine simL_eff (re_call (vs := [.int .i64 s3v, .func (.func 102) #[] #[.pointer (some ⟨b2v, 0, none⟩)]]) (cap := []) (A := [obj b2v 25 [.int .i64 x1_0, .int .i64 x1_1, .int .i64 x1_2, str x1_3, str x1_4, str x1_5]]) (rst := [obj b1v 42 [], F]) rfl rfl rfl rfl rfl rfl Try.call76 (.sel 0 rfl (.sel 0 rfl (.sel 0 rfl (.nil _)))) (codec_text_codec_Commands_Put_1.calls _ _ k s3v b2v x1_0 x1_1 x1_2 x1_3 x1_4 x1_5 ) hs8v) rfl rfl rfl ?_
 intro y7v
 refine simL_val (q_ext rfl rfl rfl) rfl rfl rfl ?_
 refine simL_val (q_ext rfl rfl rfl) rfl rfl rfl ?_
 refine simL_val (q_asg rfl rfl) rfl rfl rfl ?_
 refine simL_val (q_asg rfl rfl) rfl rfl rfl (simL_nil (nrm_then (sim_rtn ?_)))
 exact rtn_fn (y7v.1, y7v.2) rfl rfl rfl (.sel 0 rfl (.sel 2 rfl (.nil _)))

def codec_Same_Command_Commands.f (k : Nat) (x1_0 : Int) (x1_1 : Int) (x1_2 : Int) (x1_3 : List UInt8) (x1_4 : List UInt8) (x1_5 : List UInt8) (x2_0 : Int) (x2_1 : Int) (x2_2 : Int) (x2_3 : List UInt8) (x2_4 : List UInt8) (x2_5 : List UInt8) : Option (Bool) := (codec_Commands_Put.f k x1_0 x1_1 x1_2 x1_3 x1_4 x1_5).bind fun s3v => ((codec_Commands_Put.f k x2_0 x2_1 x2_2 x2_3 x2_4 x2_5).bind fun s6v => ((if ((decide (s3v.2 = (0 : Int))) && (decide (s6v.2 = (0 : Int)))) = true then ((bytes_Equal.f s3v.1 s6v.1).bind fun s19v => (some s19v)) else (some false)).bind fun s9v => (some s9v)))
theorem codec_Same_Command_Commands.calls (W : World) (F : HA) (k : Nat) (x1_0 : Int) (x1_1 : Int) (x1_2 : Int) (x1_3 : List UInt8) (x1_4 : List UInt8) (x1_5 : List UInt8) (x2_0 : Int) (x2_1 : Int) (x2_2 : Int) (x2_3 : List UInt8) (x2_4 : List UInt8) (x2_5 : List UInt8)  :
    Fn Try.prog W 21 [.iface 42 (.agg #[]), .agg #[.int .i64 x1_0, .int .i64 x1_1, .int .i64 x1_2, str x1_3, str x1_4, str x1_5], .agg #[.int .i64 x2_0, .int .i64 x2_1, .int .i64 x2_2, str x2_3, str x2_4, str x2_5]] [] F (codec_Same_Command_Commands.f k x1_0 x1_1 x1_2 x1_3 x1_4 x1_5 x2_0 x2_1 x2_2 x2_3 x2_4 x2_5) (fun (r : Bool) (y : Unit) => .bool r) (fun r y => []) := by
 unfold codec_Same_Command_Commands.f
 refine fn_intro 34 Try.func21 rfl Try.ntmps21 rfl ?_
 refine sim_seq (sim_region ?_)
 refine simL_eff (re_box rfl rfl rfl) rfl rfl rfl ?_
 intro b1v
 refine simL_eff (re_box rfl rfl rfl) rfl rfl rfl ?_
 intro b2v
 refine simL_val (q_asg rfl rfl) rfl rfl rfl (simL_nil (nrm_then (sim_seq (sim_region ?_))))
 refine simL_val (q_move rfl rfl) rfl rfl rfl ?_
 refine simL_val (q_loado 1 rfl rfl Try.isAgg25 Try.sizeOf25 rfl rfl) rfl rfl rfl ?_
 refine simL_bind (fun s3v hs5v => ?_)
 refine simL_eff (re_invoke (vs := [.agg #[.int .i64 x1_0, .int .i64 x1_1, .int .i64 x1_2, str x1_3, str x1_4, str x1_5]]) (A := []) (rst := [obj b2v 25 [.int .i64 x2_0, .int .i64 x2_1, .int .i64 x2_2, str x2_3, str x2_4, str x2_5], obj b1v 25 [.int .i64 x1_0, .int .i64 x1_1, .int .i64 x1_2, str x1_3, str x1_4, str x1_5], F]) rfl rfl rfl rfl rfl (fun _ => by kernel_rfl) Try.call52 (.sel 0 rfl (.sel 0 rfl (.sel 0 rfl (.nil _)))) (codec_Commands_Put.calls _ _ k x1_0 x1_1 x1_2 x1_3 x1_4 x1_5 ) hs5v) rfl rfl rfl ?_
 intro y4v
 refine simL_val (q_move rfl rfl) rfl rfl rfl ?_
 refine simL_val (q_ext rfl rfl rfl) rfl rfl rfl ?_
 refine simL_val (q_ext rfl rfl rfl) rfl rfl rfl ?_
 refine simL_val (q_asg rfl rfl) rfl rfl rfl ?_
 refine simL_val (q_asg rfl rfl) rfl rfl rfl (simL_nil (nrm_then (sim_seq (sim_region ?_))))
 refine simL_val (q_move rfl rfl) rfl rfl rfl ?_
 refine simL_val (q_loado 1 rfl rfl Try.isAgg25 Try.sizeOf25 rfl rfl) rfl rfl rfl ?_
 refine simL_bind (fun s6v hs8v => ?_)
 refine simL_eff (re_invoke (vs := [.agg #[.int .i64 x2_0, .int .i64 x2_1, .int .i64 x2_2, str x2_3, str x2_4, str x2_5]]) (A := []) (rst := [Row 5 1 y4v.1 s3v.1.length y4v.2 (encB s3v.1), obj b2v 25 [.int .i64 x2_0, .int .i64 x2_1, .int .i64 x2_2, str x2_3, str x2_4, str x2_5], obj b1v 25 [.int .i64 x1_0, .int .i64 x1_1, .int .i64 x1_2, str x1_3, str x1_4, str x1_5], F]) rfl rfl rfl rfl rfl (fun _ => by kernel_rfl) Try.call52 (.sel 0 rfl (.sel 0 rfl (.sel 0 rfl (.sel 0 rfl (.nil _))))) (codec_Commands_Put.calls _ _ k x2_0 x2_1 x2_2 x2_3 x2_4 x2_5 ) hs8v) rfl rfl rfl ?_
 intro y7v
 refine simL_val (q_move rfl rfl) rfl rfl rfl ?_
 refine simL_val (q_ext rfl rfl rfl) rfl rfl rfl ?_
 refine simL_val (q_ext rfl rfl rfl) rfl rfl rfl ?_
 refine simL_val (q_asg rfl rfl) rfl rfl rfl ?_
 refine simL_val (q_asg rfl rfl) rfl rfl rfl (simL_nil (nrm_then (sim_seq (sim_region ?_))))
 refine simL_val (q_move rfl rfl) rfl rfl rfl ?_
 refine simL_val (q_eql rfl rfl rfl) rfl rfl rfl ?_
 refine simL_val (q_move rfl rfl) rfl rfl rfl ?_
 refine simL_valc (b := decide (s3v.2 = (0 : Int))) (fun hb25v => RQ.sub (E' := [(10, .int .i64 s6v.2)]) ⟨rfl, trivial⟩ (q_move rfl rfl)) rfl rfl rfl rfl rfl ?_
 refine simL_valc (b := decide (s3v.2 = (0 : Int))) (fun hb24v => RQ.sub (E' := [(26, .int .i64 s6v.2)]) ⟨lk_cv rfl hb24v, trivial⟩ (q_eql rfl rfl rfl)) rfl rfl rfl rfl rfl ?_
 refine simL_val (q_and rfl rfl rfl) rfl rfl rfl ?_
 refine simL_val (q_move rfl rfl) rfl rfl rfl ?_
 refine simL_cut' 4 (S := Bool) (Unit) (fun s y => [(33, .bool s)]) (fun s y => [F]) ?_ ?_
 refine simL_caseb (fun hb22v => ?_) (fun hb23v => ?_)
 rw [hb22v]
 refine simL_valg (q_move rfl rfl) rfl rfl rfl rfl rfl rfl ?_
 refine simL_valg (q_move rfl rfl) rfl rfl rfl rfl rfl rfl ?_
 refine simL_bind (fun s19v hs21v => ?_)
 refine simL_lend 1 rfl (fun hq11v hq12v hq13v hq14v => ?_)
 refine simL_lend 0 rfl (fun hq15v hq16v hq17v hq18v => ?_)
 refine simL_effg (re_call (vs := [.slice y4v.1 s3v.1.length y4v.2, .slice y7v.1 s6v.1.length y7v.2]) (cap := []) (A := []) (rst := [Row 5 1 y7v.1 s6v.1.length y7v.2 (encB s6v.1), Row 5 1 y4v.1 s3v.1.length y4v.2 (encB s3v.1), obj b2v 25 [.int .i64 x2_0, .int .i64 x2_1, .int .i64 x2_2, str x2_3, str x2_4, str x2_5], obj b1v 25 [.int .i64 x1_0, .int .i64 x1_1, .int .i64 x1_2, str x1_3, str x1_4, str x1_5], F]) rfl rfl rfl rfl rfl rfl Try.call75 (.sel 0 rfl (.sel 0 rfl (.sel 0 rfl (.sel 0 rfl (.sel 0 rfl (.nil _)))))) (bytes_Equal.calls _ _ y4v.1 y4v.2 s3v.1 y7v.1 y7v.2 s6v.1 (hq11v.lend 1 rfl) hq12v hq13v (hq15v.lend 0 rfl) hq16v hq17v) hs21v) rfl rfl rfl rfl rfl rfl ?_
 intro y20v
 refine simL_val (q_pick rfl rfl rfl rfl rfl) rfl rfl rfl (simL_nil ?_)
 exact nrm_cut (s := s19v) () ⟨rfl, trivial⟩ (.sel 4 rfl (.nil _))
 rw [hb23v]
 refine simL_skipd rfl rfl rfl rfl rfl rfl ?_
 refine simL_skipd rfl rfl rfl rfl rfl rfl ?_
 refine simL_skipd rfl rfl rfl rfl rfl rfl ?_
 refine simL_val (q_pick rfl rfl rfl rfl rfl) rfl rfl rfl (simL_nil ?_)
 exact nrm_cut (s := false) () ⟨rfl, trivial⟩ (.sel 4 rfl (.nil _))
 intro s9v y10v
 refine simL_val (q_asg rfl rfl) rfl rfl rfl (simL_nil (nrm_then (sim_rtn ?_)))
 exact rtn_fn () rfl rfl rfl (.sel 0 rfl (.nil _))

def codec_Same_Message_Messages.f (k : Nat) (x1_0 : Int) (x1_1 : Int) (x1_2 : Int) (x1_3 : Int) (x1_4 : Int) (x1_5 : Int) (x1_6 : Int) (x1_7 : Int) (x1_8 : Int) (x1_9 : Bool) (x1_10 : List (Int × Int × Int × List UInt8)) (x1_11 : Int) (x1_12 : Int) (x1_13 : List UInt8) (x2_0 : Int) (x2_1 : Int) (x2_2 : Int) (x2_3 : Int) (x2_4 : Int) (x2_5 : Int) (x2_6 : Int) (x2_7 : Int) (x2_8 : Int) (x2_9 : Bool) (x2_10 : List (Int × Int × Int × List UInt8)) (x2_11 : Int) (x2_12 : Int) (x2_13 : List UInt8) : Option (Bool) := (codec_Messages_Put.f k x1_0 x1_1 x1_2 x1_3 x1_4 x1_5 x1_6 x1_7 x1_8 x1_9 x1_10 x1_11 x1_12 x1_13).bind fun s3v => ((codec_Messages_Put.f k x2_0 x2_1 x2_2 x2_3 x2_4 x2_5 x2_6 x2_7 x2_8 x2_9 x2_10 x2_11 x2_12 x2_13).bind fun s6v => ((if ((decide (s3v.2 = (0 : Int))) && (decide (s6v.2 = (0 : Int)))) = true then ((bytes_Equal.f s3v.1 s6v.1).bind fun s19v => (some s19v)) else (some false)).bind fun s9v => (some s9v)))
theorem codec_Same_Message_Messages.calls (W : World) (F : HA) (k : Nat) (x1_0 : Int) (x1_1 : Int) (x1_2 : Int) (x1_3 : Int) (x1_4 : Int) (x1_5 : Int) (x1_6 : Int) (x1_7 : Int) (x1_8 : Int) (x1_9 : Bool) (a1_10 : Option Addr) (c1_10 : Nat) (x1_10 : List (Int × Int × Int × List UInt8)) (x1_11 : Int) (x1_12 : Int) (a1_13 : Option Addr) (c1_13 : Nat) (x1_13 : List UInt8) (x2_0 : Int) (x2_1 : Int) (x2_2 : Int) (x2_3 : Int) (x2_4 : Int) (x2_5 : Int) (x2_6 : Int) (x2_7 : Int) (x2_8 : Int) (x2_9 : Bool) (a2_10 : Option Addr) (c2_10 : Nat) (x2_10 : List (Int × Int × Int × List UInt8)) (x2_11 : Int) (x2_12 : Int) (a2_13 : Option Addr) (c2_13 : Nat) (x2_13 : List UInt8) (h1_10 : RdV F 4 (V61 F) a1_10 x1_10) (hc1_10 : x1_10.length ≤ c1_10) (hm1_10 : c1_10 ≤ maxLen) (h1_13 : Rd F a1_13 (encB x1_13)) (hc1_13 : x1_13.length ≤ c1_13) (hm1_13 : c1_13 ≤ maxLen) (h2_10 : RdV F 4 (V61 F) a2_10 x2_10) (hc2_10 : x2_10.length ≤ c2_10) (hm2_10 : c2_10 ≤ maxLen) (h2_13 : Rd F a2_13 (encB x2_13)) (hc2_13 : x2_13.length ≤ c2_13) (hm2_13 : c2_13 ≤ maxLen) :
    Fn Try.prog W 22 [.iface 44 (.agg #[]), .agg #[.int .i64 x1_0, .int .i64 x1_1, .int .i64 x1_2, .int .i64 x1_3, .int .i64 x1_4, .int .i64 x1_5, .int .i64 x1_6, .int .i64 x1_7, .int .i64 x1_8, .bool x1_9, .slice a1_10 x1_10.length c1_10, .int .i64 x1_11, .int .i64 x1_12, .slice a1_13 x1_13.length c1_13], .agg #[.int .i64 x2_0, .int .i64 x2_1, .int .i64 x2_2, .int .i64 x2_3, .int .i64 x2_4, .int .i64 x2_5, .int .i64 x2_6, .int .i64 x2_7, .int .i64 x2_8, .bool x2_9, .slice a2_10 x2_10.length c2_10, .int .i64 x2_11, .int .i64 x2_12, .slice a2_13 x2_13.length c2_13]] [] F (codec_Same_Message_Messages.f k x1_0 x1_1 x1_2 x1_3 x1_4 x1_5 x1_6 x1_7 x1_8 x1_9 x1_10 x1_11 x1_12 x1_13 x2_0 x2_1 x2_2 x2_3 x2_4 x2_5 x2_6 x2_7 x2_8 x2_9 x2_10 x2_11 x2_12 x2_13) (fun (r : Bool) (y : Unit) => .bool r) (fun r y => []) := by
 unfold codec_Same_Message_Messages.f
 refine fn_intro 34 Try.func22 rfl Try.ntmps22 rfl ?_
 refine sim_seq (sim_region ?_)
 refine simL_eff (re_box rfl rfl rfl) rfl rfl rfl ?_
 intro b1v
 refine simL_eff (re_box rfl rfl rfl) rfl rfl rfl ?_
 intro b2v
 refine simL_val (q_asg rfl rfl) rfl rfl rfl (simL_nil (nrm_then (sim_seq (sim_region ?_))))
 refine simL_val (q_move rfl rfl) rfl rfl rfl ?_
 refine simL_val (q_loado 1 rfl rfl Try.isAgg31 Try.sizeOf31 rfl rfl) rfl rfl rfl ?_
 refine simL_bind (fun s3v hs5v => ?_)
 refine simL_eff (re_invoke (vs := [.agg #[.int .i64 x1_0, .int .i64 x1_1, .int .i64 x1_2, .int .i64 x1_3, .int .i64 x1_4, .int .i64 x1_5, .int .i64 x1_6, .int .i64 x1_7, .int .i64 x1_8, .bool x1_9, .slice a1_10 x1_10.length c1_10, .int .i64 x1_11, .int .i64 x1_12, .slice a1_13 x1_13.length c1_13]]) (A := []) (rst := [obj b2v 31 [.int .i64 x2_0, .int .i64 x2_1, .int .i64 x2_2, .int .i64 x2_3, .int .i64 x2_4, .int .i64 x2_5, .int .i64 x2_6, .int .i64 x2_7, .int .i64 x2_8, .bool x2_9, .slice a2_10 x2_10.length c2_10, .int .i64 x2_11, .int .i64 x2_12, .slice a2_13 x2_13.length c2_13], obj b1v 31 [.int .i64 x1_0, .int .i64 x1_1, .int .i64 x1_2, .int .i64 x1_3, .int .i64 x1_4, .int .i64 x1_5, .int .i64 x1_6, .int .i64 x1_7, .int .i64 x1_8, .bool x1_9, .slice a1_10 x1_10.length c1_10, .int .i64 x1_11, .int .i64 x1_12, .slice a1_13 x1_13.length c1_13], F]) rfl rfl rfl rfl rfl (fun _ => by kernel_rfl) Try.call57 (.sel 0 rfl (.sel 0 rfl (.sel 0 rfl (.nil _)))) (codec_Messages_Put.calls _ _ k x1_0 x1_1 x1_2 x1_3 x1_4 x1_5 x1_6 x1_7 x1_8 x1_9 a1_10 c1_10 x1_10 x1_11 x1_12 a1_13 c1_13 x1_13 (h1_10.up (Up.lend 2 rfl) (V61.up (Up.lend 2 rfl))) hc1_10 hm1_10 (h1_13.lend 2 rfl) hc1_13 hm1_13) hs5v) rfl rfl rfl ?_
 intro y4v
 refine simL_val (q_move rfl rfl) rfl rfl rfl ?_
 refine simL_val (q_ext rfl rfl rfl) rfl rfl rfl ?_
 refine simL_val (q_ext rfl rfl rfl) rfl rfl rfl ?_
 refine simL_val (q_asg rfl rfl) rfl rfl rfl ?_
 refine simL_val (q_asg rfl rfl) rfl rfl rfl (simL_nil (nrm_then (sim_seq (sim_region ?_))))
 refine simL_val (q_move rfl rfl) rfl rfl rfl ?_
 refine simL_val (q_loado 1 rfl rfl Try.isAgg31 Try.sizeOf31 rfl rfl) rfl rfl rfl ?_
 refine simL_bind (fun s6v hs8v => ?_)
 refine simL_eff (re_invoke (vs := [.agg #[.int .i64 x2_0, .int .i64 x2_1, .int .i64 x2_2, .int .i64 x2_3, .int .i64 x2_4, .int .i64 x2_5, .int .i64 x2_6, .int .i64 x2_7, .int .i64 x2_8, .bool x2_9, .slice a2_10 x2_10.length c2_10, .int .i64 x2_11, .int .i64 x2_12, .slice a2_13 x2_13.length c2_13]]) (A := []) (rst := [Row 5 1 y4v.1 s3v.1.length y4v.2 (encB s3v.1), obj b2v 31 [.int .i64 x2_0, .int .i64 x2_1, .int .i64 x2_2, .int .i64 x2_3, .int .i64 x2_4, .int .i64 x2_5, .int .i64 x2_6, .int .i64 x2_7, .int .i64 x2_8, .bool x2_9, .slice a2_10 x2_10.length c2_10, .int .i64 x2_11, .int .i64 x2_12, .slice a2_13 x2_13.length c2_13], obj b1v 31 [.int .i64 x1_0, .int .i64 x1_1, .int .i64 x1_2, .int .i64 x1_3, .int .i64 x1_4, .int .i64 x1_5, .int .i64 x1_6, .int .i64 x1_7, .int .i64 x1_8, .bool x1_9, .slice a1_10 x1_10.length c1_10, .int .i64 x1_11, .int .i64 x1_12, .slice a1_13 x1_13.length c1_13], F]) rfl rfl rfl rfl rfl (fun _ => by kernel_rfl) Try.call57 (.sel 0 rfl (.sel 0 rfl (.sel 0 rfl (.sel 0 rfl (.nil _))))) (codec_Messages_Put.calls _ _ k x2_0 x2_1 x2_2 x2_3 x2_4 x2_5 x2_6 x2_7 x2_8 x2_9 a2_10 c2_10 x2_10 x2_11 x2_12 a2_13 c2_13 x2_13 (h2_10.up (Up.lend 3 rfl) (V61.up (Up.lend 3 rfl))) hc2_10 hm2_10 (h2_13.lend 3 rfl) hc2_13 hm2_13) hs8v) rfl rfl rfl ?_
 intro y7v
 refine simL_val (q_move rfl rfl) rfl rfl rfl ?_
 refine simL_val (q_ext rfl rfl rfl) rfl rfl rfl ?_
 refine simL_val (q_ext rfl rfl rfl) rfl rfl rfl ?_
 refine simL_val (q_asg rfl rfl) rfl rfl rfl ?_
 refine simL_val (q_asg rfl rfl) rfl rfl rfl (simL_nil (nrm_then (sim_seq (sim_region ?_))))
 refine simL_val (q_move rfl rfl) rfl rfl rfl ?_
 refine simL_val (q_eql rfl rfl rfl) rfl rfl rfl ?_
 refine simL_val (q_move rfl rfl) rfl rfl rfl ?_
 refine simL_valc (b := decide (s3v.2 = (0 : Int))) (fun hb25v => RQ.sub (E' := [(10, .int .i64 s6v.2)]) ⟨rfl, trivial⟩ (q_move rfl rfl)) rfl rfl rfl rfl rfl ?_
 refine simL_valc (b := decide (s3v.2 = (0 : Int))) (fun hb24v => RQ.sub (E' := [(26, .int .i64 s6v.2)]) ⟨lk_cv rfl hb24v, trivial⟩ (q_eql rfl rfl rfl)) rfl rfl rfl rfl rfl ?_
 refine simL_val (q_and rfl rfl rfl) rfl rfl rfl ?_
 refine simL_val (q_move rfl rfl) rfl rfl rfl ?_
 refine simL_cut' 4 (S := Bool) (Unit) (fun s y => [(33, .bool s)]) (fun s y => [F]) ?_ ?_
 refine simL_caseb (fun hb22v => ?_) (fun hb23v => ?_)
 rw [hb22v]
 refine simL_valg (q_move rfl rfl) rfl rfl rfl rfl rfl rfl ?_
 refine simL_valg (q_move rfl rfl) rfl rfl rfl rfl rfl rfl ?_
 refine simL_bind (fun s19v hs21v => ?_)
 refine simL_lend 1 rfl (fun hq11v hq12v hq13v hq14v => ?_)
 refine simL_lend 0 rfl (fun hq15v hq16v hq17v hq18v => ?_)
 refine simL_effg (re_call (vs := [.slice y4v.1 s3v.1.length y4v.2, .slice y7v.1 s6v.1.length y7v.2]) (cap := []) (A := []) (rst := [Row 5 1 y7v.1 s6v.1.length y7v.2 (encB s6v.1), Row 5 1 y4v.1 s3v.1.length y4v.2 (encB s3v.1), obj b2v 31 [.int .i64 x2_0, .int .i64 x2_1, .int .i64 x2_2, .int .i64 x2_3, .int .i64 x2_4, .int .i64 x2_5, .int .i64 x2_6, .int .i64 x2_7, .int .i64 x2_8, .bool x2_9, .slice a2_10 x2_10.length c2_10, .int .i64 x2_11, .int .i64 x2_12, .slice a2_13 x2_13.length c2_13], obj b1v 31 [.int .i64 x1_0, .int .i64 x1_1, .int .i64 x1_2, .int .i64 x1_3, .int .i64 x1_4, .int .i64 x1_5, .int .i64 x1_6, .int .i64 x1_7, .int .i64 x1_8, .bool x1_9, .slice a1_10 x1_10.length c1_10, .int .i64 x1_11, .int .i64 x1_12, .slice a1_13 x1_13.length c1_13], F]) rfl rfl rfl rfl rfl rfl Try.call75 (.sel 0 rfl (.sel 0 rfl (.sel 0 rfl (.sel 0 rfl (.sel 0 rfl (.nil _)))))) (bytes_Equal.calls _ _ y4v.1 y4v.2 s3v.1 y7v.1 y7v.2 s6v.1 (hq11v.lend 1 rfl) hq12v hq13v (hq15v.lend 0 rfl) hq16v hq17v) hs21v) rfl rfl rfl rfl rfl rfl ?_
 intro y20v
 refine simL_val (q_pick rfl rfl rfl rfl rfl) rfl rfl rfl (simL_nil ?_)
 exact nrm_cut (s := s19v) () ⟨rfl, trivial⟩ (.sel 4 rfl (.nil _))
 rw [hb23v]
 refine simL_skipd rfl rfl rfl rfl rfl rfl ?_
 refine simL_skipd rfl rfl rfl rfl rfl rfl ?_
 refine simL_skipd rfl rfl rfl rfl rfl rfl ?_
 refine simL_val (q_pick rfl rfl rfl rfl rfl) rfl rfl rfl (simL_nil ?_)
 exact nrm_cut (s := false) () ⟨rfl, trivial⟩ (.sel 4 rfl (.nil _))
 intro s9v y10v
 refine simL_val (q_asg rfl rfl) rfl rfl rfl (simL_nil (nrm_then (sim_rtn ?_)))
 exact rtn_fn () rfl rfl rfl (.sel 0 rfl (.nil _))

def synodlaw3_CodecSames.f (k : Nat) (x0_0 : Int) (x0_1 : Int) (x0_2 : Int) (x1_0 : Int) (x1_1 : Int) (x1_2 : Int) (x2_0 : Int) (x2_1 : Int) (x2_2 : Int) (x2_3 : List UInt8) (x2_4 : List UInt8) (x2_5 : List UInt8) (x3_0 : Int) (x3_1 : Int) (x3_2 : Int) (x3_3 : List UInt8) (x3_4 : List UInt8) (x3_5 : List UInt8) (x4_0 : Int) (x4_1 : Int) (x4_2 : Int) (x4_3 : Int) (x4_4 : Int) (x4_5 : Int) (x4_6 : Int) (x4_7 : Int) (x4_8 : Int) (x4_9 : Bool) (x4_10 : List (Int × Int × Int × List UInt8)) (x4_11 : Int) (x4_12 : Int) (x4_13 : List UInt8) (x5_0 : Int) (x5_1 : Int) (x5_2 : Int) (x5_3 : Int) (x5_4 : Int) (x5_5 : Int) (x5_6 : Int) (x5_7 : Int) (x5_8 : Int) (x5_9 : Bool) (x5_10 : List (Int × Int × Int × List UInt8)) (x5_11 : Int) (x5_12 : Int) (x5_13 : List UInt8) : Option (Bool) := (synodlaw3_first.f k).bind fun s7v => ((synodlaw3_slight.f k x4_0 x4_1 x4_2 x4_3 x4_4 x4_5 x4_6 x4_7 x4_8 x4_9 x4_10 x4_11 x4_12 x4_13).bind fun s10v => ((if s10v = true then ((synodlaw3_slight.f k x5_0 x5_1 x5_2 x5_3 x5_4 x5_5 x5_6 x5_7 x5_8 x5_9 x5_10 x5_11 x5_12 x5_13).bind fun s15v => (some s15v)) else (some false)).bind fun s13v => (if ((!s7v) || (!((((((s13v && (decide ((x2_3.length : Int) ≤ (20000 : Int)))) && (decide ((x3_3.length : Int) ≤ (20000 : Int)))) && (decide ((x2_4.length : Int) ≤ (20000 : Int)))) && (decide ((x3_4.length : Int) ≤ (20000 : Int)))) && (decide ((x2_5.length : Int) ≤ (20000 : Int)))) && (decide ((x3_5.length : Int) ≤ (20000 : Int)))))) = true then (some s7v) else ((if (decide (x0_0 = x1_0) && (decide (x0_1 = x1_1) && (decide (x0_2 = x1_2)))) = true then ((synodref3_CheckState.f x0_0 x0_1 x0_2).bind fun s24v => (some (decide (s24v = (0 : Int))))) else (some false)).bind fun s22v => ((if (decide (x2_0 = x3_0) && (decide (x2_1 = x3_1) && (decide (x2_2 = x3_2) && (decide (x2_3 = x3_3) && (decide (x2_4 = x3_4) && (decide (x2_5 = x3_5))))))) = true then ((synodref3_CheckCommand.f x2_0 x2_1 x2_2 x2_3 x2_4 x2_5).bind fun s31v => (some (decide (s31v = (0 : Int))))) else (some false)).bind fun s29v => ((synodref_SameMessage.f k x4_0 x4_1 x4_2 x4_3 x4_4 x4_5 x4_6 x4_7 x4_8 x4_9 x4_10 x4_11 x4_12 x4_13 x5_0 x5_1 x5_2 x5_3 x5_4 x5_5 x5_6 x5_7 x5_8 x5_9 x5_10 x5_11 x5_12 x5_13).bind fun s36v => ((if s36v = true then ((synodref3_CheckMessage.f k x4_0 x4_1 x4_2 x4_3 x4_4 x4_5 x4_6 x4_7 x4_8 x4_9 x4_10 x4_11 x4_12 x4_13).bind fun s41v => (some (decide (s41v = (0 : Int))))) else (some false)).bind fun s39v => ((codec_Same_State_States.f k x0_0 x0_1 x0_2 x1_0 x1_1 x1_2).bind fun s46v => ((if (s46v == s22v) = true then ((codec_Same_Command_Commands.f k x2_0 x2_1 x2_2 x2_3 x2_4 x2_5 x3_0 x3_1 x3_2 x3_3 x3_4 x3_5).bind fun s51v => (some (s51v == s29v))) else (some false)).bind fun s49v => ((if s49v = true then ((codec_Same_Message_Messages.f k x4_0 x4_1 x4_2 x4_3 x4_4 x4_5 x4_6 x4_7 x4_8 x4_9 x4_10 x4_11 x4_12 x4_13 x5_0 x5_1 x5_2 x5_3 x5_4 x5_5 x5_6 x5_7 x5_8 x5_9 x5_10 x5_11 x5_12 x5_13).bind fun s58v => (some (s58v == s39v))) else (some false)).bind fun s56v => (some s56v)))))))))))
theorem synodlaw3_CodecSames.calls (W : World) (F : HA) (k : Nat) (x0_0 : Int) (x0_1 : Int) (x0_2 : Int) (x1_0 : Int) (x1_1 : Int) (x1_2 : Int) (x2_0 : Int) (x2_1 : Int) (x2_2 : Int) (x2_3 : List UInt8) (x2_4 : List UInt8) (x2_5 : List UInt8) (x3_0 : Int) (x3_1 : Int) (x3_2 : Int) (x3_3 : List UInt8) (x3_4 : List UInt8) (x3_5 : List UInt8) (x4_0 : Int) (x4_1 : Int) (x4_2 : Int) (x4_3 : Int) (x4_4 : Int) (x4_5 : Int) (x4_6 : Int) (x4_7 : Int) (x4_8 : Int) (x4_9 : Bool) (a4_10 : Option Addr) (c4_10 : Nat) (x4_10 : List (Int × Int × Int × List UInt8)) (x4_11 : Int) (x4_12 : Int) (a4_13 : Option Addr) (c4_13 : Nat) (x4_13 : List UInt8) (x5_0 : Int) (x5_1 : Int) (x5_2 : Int) (x5_3 : Int) (x5_4 : Int) (x5_5 : Int) (x5_6 : Int) (x5_7 : Int) (x5_8 : Int) (x5_9 : Bool) (a5_10 : Option Addr) (c5_10 : Nat) (x5_10 : List (Int × Int × Int × List UInt8)) (x5_11 : Int) (x5_12 : Int) (a5_13 : Option Addr) (c5_13 : Nat) (x5_13 : List UInt8) (h4_10 : RdV F 4 (V61 F) a4_10 x4_10) (hc4_10 : x4_10.length ≤ c4_10) (hm4_10 : c4_10 ≤ maxLen) (h4_13 : Rd F a4_13 (encB x4_13)) (hc4_13 : x4_13.length ≤ c4_13) (hm4_13 : c4_13 ≤ maxLen) (h5_10 : RdV F 4 (V61 F) a5_10 x5_10) (hc5_10 : x5_10.length ≤ c5_10) (hm5_10 : c5_10 ≤ maxLen) (h5_13 : Rd F a5_13 (encB x5_13)) (hc5_13 : x5_13.length ≤ c5_13) (hm5_13 : c5_13 ≤ maxLen) :
    Fn Try.prog W 3 [.agg #[.int .i64 x0_0, .int .i64 x0_1, .int .i64 x0_2], .agg #[.int .i64 x1_0, .int .i64 x1_1, .int .i64 x1_2], .agg #[.int .i64 x2_0, .int .i64 x2_1, .int .i64 x2_2, str x2_3, str x2_4, str x2_5], .agg #[.int .i64 x3_0, .int .i64 x3_1, .int .i64 x3_2, str x3_3, str x3_4, str x3_5], .agg #[.int .i64 x4_0, .int .i64 x4_1, .int .i64 x4_2, .int .i64 x4_3, .int .i64 x4_4, .int .i64 x4_5, .int .i64 x4_6, .int .i64 x4_7, .int .i64 x4_8, .bool x4_9, .slice a4_10 x4_10.length c4_10, .int .i64 x4_11, .int .i64 x4_12, .slice a4_13 x4_13.length c4_13], .agg #[.int .i64 x5_0, .int .i64 x5_1, .int .i64 x5_2, .int .i64 x5_3, .int .i64 x5_4, .int .i64 x5_5, .int .i64 x5_6, .int .i64 x5_7, .int .i64 x5_8, .bool x5_9, .slice a5_10 x5_10.length c5_10, .int .i64 x5_11, .int .i64 x5_12, .slice a5_13 x5_13.length c5_13]] [] F (synodlaw3_CodecSames.f k x0_0 x0_1 x0_2 x1_0 x1_1 x1_2 x2_0 x2_1 x2_2 x2_3 x2_4 x2_5 x3_0 x3_1 x3_2 x3_3 x3_4 x3_5 x4_0 x4_1 x4_2 x4_3 x4_4 x4_5 x4_6 x4_7 x4_8 x4_9 x4_10 x4_11 x4_12 x4_13 x5_0 x5_1 x5_2 x5_3 x5_4 x5_5 x5_6 x5_7 x5_8 x5_9 x5_10 x5_11 x5_12 x5_13) (fun (r : Bool) (y : Unit) => .bool r) (fun r y => []) := by
 unfold synodlaw3_CodecSames.f
 refine fn_intro 117 Try.func3 rfl Try.ntmps3 rfl ?_
 refine sim_seq (sim_region ?_)
 refine simL_eff (re_box rfl rfl rfl) rfl rfl rfl ?_
 intro b1v
 refine simL_eff (re_box rfl rfl rfl) rfl rfl rfl ?_
 intro b2v
 refine simL_eff (re_box rfl rfl rfl) rfl rfl rfl ?_
 intro b3v
 refine simL_eff (re_box rfl rfl rfl) rfl rfl rfl ?_
 intro b4v
 refine simL_eff (re_box rfl rfl rfl) rfl rfl rfl ?_
 intro b5v
 refine simL_eff (re_box rfl rfl rfl) rfl rfl rfl ?_
 intro b6v
 refine simL_val (q_asg rfl rfl) rfl rfl rfl (simL_nil (nrm_then (sim_seq (sim_region ?_))))
 refine simL_bind (fun s7v hs9v => ?_)
 refine simL_eff (re_call (vs := []) (cap := []) (A := []) (rst := [obj b6v 31 [.int .i64 x5_0, .int .i64 x5_1, .int .i64 x5_2, .int .i64 x5_3, .int .i64 x5_4, .int .i64 x5_5, .int .i64 x5_6, .int .i64 x5_7, .int .i64 x5_8, .bool x5_9, .slice a5_10 x5_10.length c5_10, .int .i64 x5_11, .int .i64 x5_12, .slice a5_13 x5_13.length c5_13], obj b5v 31 [.int .i64 x4_0, .int .i64 x4_1, .int .i64 x4_2, .int .i64 x4_3, .int .i64 x4_4, .int .i64 x4_5, .int .i64 x4_6, .int .i64 x4_7, .int .i64 x4_8, .bool x4_9, .slice a4_10 x4_10.length c4_10, .int .i64 x4_11, .int .i64 x4_12, .slice a4_13 x4_13.length c4_13], obj b4v 25 [.int .i64 x3_0, .int .i64 x3_1, .int .i64 x3_2, str x3_3, str x3_4, str x3_5], obj b3v 25 [.int .i64 x2_0, .int .i64 x2_1, .int .i64 x2_2, str x2_3, str x2_4, str x2_5], obj b2v 23 [.int .i64 x1_0, .int .i64 x1_1, .int .i64 x1_2], obj b1v 23 [.int .i64 x0_0, .int .i64 x0_1, .int .i64 x0_2], F]) rfl rfl rfl rfl rfl rfl Try.call14 (.sel 0 rfl (.sel 0 rfl (.sel 0 rfl (.sel 0 rfl (.sel 0 rfl (.sel 0 rfl (.sel 0 rfl (.nil _)))))))) (synodlaw3_first.calls _ _ k  ) hs9v) rfl rfl rfl ?_
 intro y8v
 refine simL_val (q_asg rfl rfl) rfl rfl rfl (simL_nil (nrm_then (sim_seq (sim_region ?_))))
 refine simL_val (q_loado 1 rfl rfl Try.isAgg31 Try.sizeOf31 rfl rfl) rfl rfl rfl ?_
 refine simL_bind (fun s10v hs12v => ?_)
 refine simL_eff (re_call (vs := [.agg #[.int .i64 x4_0, .int .i64 x4_1, .int .i64 x4_2, .int .i64 x4_3, .int .i64 x4_4, .int .i64 x4_5, .int .i64 x4_6, .int .i64 x4_7, .int .i64 x4_8, .bool x4_9, .slice a4_10 x4_10.length c4_10, .int .i64 x4_11, .int .i64 x4_12, .slice a4_13 x4_13.length c4_13]]) (cap := []) (A := []) (rst := [obj b6v 31 [.int .i64 x5_0, .int .i64 x5_1, .int .i64 x5_2, .int .i64 x5_3, .int .i64 x5_4, .int .i64 x5_5, .int .i64 x5_6, .int .i64 x5_7, .int .i64 x5_8, .bool x5_9, .slice a5_10 x5_10.length c5_10, .int .i64 x5_11, .int .i64 x5_12, .slice a5_13 x5_13.length c5_13], obj b5v 31 [.int .i64 x4_0, .int .i64 x4_1, .int .i64 x4_2, .int .i64 x4_3, .int .i64 x4_4, .int .i64 x4_5, .int .i64 x4_6, .int .i64 x4_7, .int .i64 x4_8, .bool x4_9, .slice a4_10 x4_10.length c4_10, .int .i64 x4_11, .int .i64 x4_12, .slice a4_13 x4_13.length c4_13], obj b4v 25 [.int .i64 x3_0, .int .i64 x3_1, .int .i64 x3_2, str x3_3, str x3_4, str x3_5], obj b3v 25 [.int .i64 x2_0, .int .i64 x2_1, .int .i64 x2_2, str x2_3, str x2_4, str x2_5], obj b2v 23 [.int .i64 x1_0, .int .i64 x1_1, .int .i64 x1_2], obj b1v 23 [.int .i64 x0_0, .int .i64 x0_1, .int .i64 x0_2], F]) rfl rfl rfl rfl rfl rfl Try.call15 (.sel 0 rfl (.sel 0 rfl (.sel 0 rfl (.sel 0 rfl (.sel 0 rfl (.sel 0 rfl (.sel 0 rfl (.nil _)))))))) (synodlaw3_slight.calls _ _ k x4_0 x4_1 x4_2 x4_3 x4_4 x4_5 x4_6 x4_7 x4_8 x4_9 a4_10 c4_10 x4_10 x4_11 x4_12 a4_13 c4_13 x4_13 (h4_10.up (Up.lend 6 rfl) (V61.up (Up.lend 6 rfl))) hc4_10 hm4_10 (h4_13.lend 6 rfl) hc4_13 hm4_13) hs12v) rfl rfl rfl ?_
 intro y11v
 refine simL_val (q_move rfl rfl) rfl rfl rfl ?_
 refine simL_cut' 3 (S := Bool) (Unit) (fun s y => [(6, .pointer (some ⟨b1v, 0, none⟩)), (7, .pointer (some ⟨b2v, 0, none⟩)), (8, .pointer (some ⟨b3v, 0, none⟩)), (9, .pointer (some ⟨b4v, 0, none⟩)), (10, .pointer (some ⟨b5v, 0, none⟩)), (11, .pointer (some ⟨b6v, 0, none⟩)), (13, .bool s7v), (24, .bool s)]) (fun s y => [obj b6v 31 [.int .i64 x5_0, .int .i64 x5_1, .int .i64 x5_2, .int .i64 x5_3, .int .i64 x5_4, .int .i64 x5_5, .int .i64 x5_6, .int .i64 x5_7, .int .i64 x5_8, .bool x5_9, .slice a5_10 x5_10.length c5_10, .int .i64 x5_11, .int .i64 x5_12, .slice a5_13 x5_13.length c5_13], obj b5v 31 [.int .i64 x4_0, .int .i64 x4_1, .int .i64 x4_2, .int .i64 x4_3, .int .i64 x4_4, .int .i64 x4_5, .int .i64 x4_6, .int .i64 x4_7, .int .i64 x4_8, .bool x4_9, .slice a4_10 x4_10.length c4_10, .int .i64 x4_11, .int .i64 x4_12, .slice a4_13 x4_13.length c4_13], obj b4v 25 [.int .i64 x3_0, .int .i64 x3_1, .int .i64 x3_2, str x3_3, str x3_4, str x3_5], obj b3v 25 [.int .i64 x2_0, .int .i64 x2_1, .int .i64 x2_2, str x2_3, str x2_4, str x2_5], obj b2v 23 [.int .i64 x1_0, .int .i64 x1_1, .int .i64 x1_2], obj b1v 23 [.int .i64 x0_0, .int .i64 x0_1, .int .i64 x0_2], F]) ?_ ?_
 refine simL_caseb (fun hb18v => ?_) (fun hb19v => ?_)
 rw [hb18v]
 refine simL_valg (q_loado 0 rfl rfl Try.isAgg31 Try.sizeOf31 rfl rfl) rfl rfl rfl rfl rfl rfl ?_
 refine simL_bind (fun s15v hs17v => ?_)
 refine simL_effg (re_call (vs := [.agg #[.int .i64 x5_0, .int .i64 x5_1, .int .i64 x5_2, .int .i64 x5_3, .int .i64 x5_4, .int .i64 x5_5, .int .i64 x5_6, .int .i64 x5_7, .int .i64 x5_8, .bool x5_9, .slice a5_10 x5_10.length c5_10, .int .i64 x5_11, .int .i64 x5_12, .slice a5_13 x5_13.length c5_13]]) (cap := []) (A := []) (rst := [obj b6v 31 [.int .i64 x5_0, .int .i64 x5_1, .int .i64 x5_2, .int .i64 x5_3, .int .i64 x5_4, .int .i64 x5_5, .int .i64 x5_6, .int .i64 x5_7, .int .i64 x5_8, .bool x5_9, .slice a5_10 x5_10.length c5_10, .int .i64 x5_11, .int .i64 x5_12, .slice a5_13 x5_13.length c5_13], obj b5v 31 [.int .i64 x4_0, .int .i64 x4_1, .int .i64 x4_2, .int .i64 x4_3, .int .i64 x4_4, .int .i64 x4_5, .int .i64 x4_6, .int .i64 x4_7, .int .i64 x4_8, .bool x4_9, .slice a4_10 x4_10.length c4_10, .int .i64 x4_11, .int .i64 x4_12, .slice a4_13 x4_13.length c4_13], obj b4v 25 [.int .i64 x3_0, .int .i64 x3_1, .int .i64 x3_2, str x3_3, str x3_4, str x3_5], obj b3v 25 [.int .i64 x2_0, .int .i64 x2_1, .int .i64 x2_2, str x2_3, str x2_4, str x2_5], obj b2v 23 [.int .i64 x1_0, .int .i64 x1_1, .int .i64 x1_2], obj b1v 23 [.int .i64 x0_0, .int .i64 x0_1, .int .i64 x0_2], F]) rfl rfl rfl rfl rfl rfl Try.call15 (.sel 0 rfl (.sel 0 rfl (.sel 0 rfl (.sel 0 rfl (.sel 0 rfl (.sel 0 rfl (.sel 0 rfl (.nil _)))))))) (synodlaw3_slight.calls _ _ k x5_0 x5_1 x5_2 x5_3 x5_4 x5_5 x5_6 x5_7 x5_8 x5_9 a5_10 c5_10 x5_10 x5_11 x5_12 a5_13 c5_13 x5_13 (h5_10.up (Up.lend 6 rfl) (V61.up (Up.lend 6 rfl))) hc5_10 hm5_10 (h5_13.lend 6 rfl) hc5_13 hm5_13) hs17v) rfl rfl rfl rfl rfl rfl ?_
 intro y16v
 refine simL_val (q_pick rfl rfl rfl rfl rfl) rfl rfl rfl (simL_nil ?_)
 exact nrm_cut (s := s15v) () ⟨rfl, rfl, rfl, rfl, rfl, rfl, rfl, rfl, trivial⟩ (.sel 0 rfl (.sel 0 rfl (.sel 0 rfl (.sel 0 rfl (.sel 0 rfl (.sel 0 rfl (.sel 0 rfl (.nil _))))))))
 rw [hb19v]
 refine simL_skipd rfl rfl rfl rfl rfl rfl ?_
 refine simL_skipd rfl rfl rfl rfl rfl rfl ?_
 refine simL_val (q_pick rfl rfl rfl rfl rfl) rfl rfl rfl (simL_nil ?_)
 exact nrm_cut (s := false) () ⟨rfl, rfl, rfl, rfl, rfl, rfl, rfl, rfl, trivial⟩ (.sel 0 rfl (.sel 0 rfl (.sel 0 rfl (.sel 0 rfl (.sel 0 rfl (.sel 0 rfl (.sel 0 rfl (.nil _))))))))
 intro s13v y14v
 refine simL_val (q_move rfl rfl) rfl rfl rfl ?_
 refine simL_valc (b := s13v) (fun hb88v => RQ.sub (E' := [(8, .pointer (some ⟨b3v, 0, none⟩))]) ⟨rfl, trivial⟩ (q_fa rfl rfl Try.underlying25 rfl rfl Try.sizeOf9 rfl)) rfl rfl rfl rfl rfl ?_
 refine simL_valc (b := s13v) (fun hb87v => RQ.sub (E' := [(26, .pointer (some ⟨b3v, 3, none⟩))]) ⟨lk_cv rfl hb87v, trivial⟩ (q_load rfl rfl Try.isAgg9 (.obj 3 rfl rfl))) rfl rfl rfl rfl rfl ?_
 refine simL_valc (b := s13v) (fun hb86v => RQ.sub (E' := [(27, str x2_3)]) ⟨lk_cv rfl hb86v, trivial⟩ (q_lens rfl rfl rfl Try.underlying9)) rfl rfl rfl rfl rfl ?_
 refine simL_valc (b := s13v) (fun hb85v => RQ.sub (E' := [(28, .int .i64 (x2_3.length : Int))]) ⟨lk_cv rfl hb85v, trivial⟩ (q_leq rfl rfl rfl)) rfl rfl rfl rfl rfl ?_
 refine simL_val (q_and rfl rfl rfl) rfl rfl rfl ?_
 refine simL_val (q_move rfl rfl) rfl rfl rfl ?_
 refine simL_valc (b := s13v && (decide ((x2_3.length : Int) ≤ (20000 : Int)))) (fun hb84v => RQ.sub (E' := [(9, .pointer (some ⟨b4v, 0, none⟩))]) ⟨rfl, trivial⟩ (q_fa rfl rfl Try.underlying25 rfl rfl Try.sizeOf9 rfl)) rfl rfl rfl rfl rfl ?_
 refine simL_valc (b := s13v && (decide ((x2_3.length : Int) ≤ (20000 : Int)))) (fun hb83v => RQ.sub (E' := [(32, .pointer (some ⟨b4v, 3, none⟩))]) ⟨lk_cv rfl hb83v, trivial⟩ (q_load rfl rfl Try.isAgg9 (.obj 2 rfl rfl))) rfl rfl rfl rfl rfl ?_
 refine simL_valc (b := s13v && (decide ((x2_3.length : Int) ≤ (20000 : Int)))) (fun hb82v => RQ.sub (E' := [(33, str x3_3)]) ⟨lk_cv rfl hb82v, trivial⟩ (q_lens rfl rfl rfl Try.underlying9)) rfl rfl rfl rfl rfl ?_
 refine simL_valc (b := s13v && (decide ((x2_3.length : Int) ≤ (20000 : Int)))) (fun hb81v => RQ.sub (E' := [(34, .int .i64 (x3_3.length : Int))]) ⟨lk_cv rfl hb81v, trivial⟩ (q_leq rfl rfl rfl)) rfl rfl rfl rfl rfl ?_
 refine simL_val (q_and rfl rfl rfl) rfl rfl rfl ?_
 refine simL_val (q_move rfl rfl) rfl rfl rfl ?_
 refine simL_valc (b := (s13v && (decide ((x2_3.length : Int) ≤ (20000 : Int)))) && (decide ((x3_3.length : Int) ≤ (20000 : Int)))) (fun hb80v => RQ.sub (E' := [(8, .pointer (some ⟨b3v, 0, none⟩))]) ⟨rfl, trivial⟩ (q_fa rfl rfl Try.underlying25 rfl rfl Try.sizeOf9 rfl)) rfl rfl rfl rfl rfl ?_
 refine simL_valc (b := (s13v && (decide ((x2_3.length : Int) ≤ (20000 : Int)))) && (decide ((x3_3.length : Int) ≤ (20000 : Int)))) (fun hb79v => RQ.sub (E' := [(38, .pointer (some ⟨b3v, 4, none⟩))]) ⟨lk_cv rfl hb79v, trivial⟩ (q_load rfl rfl Try.isAgg9 (.obj 3 rfl rfl))) rfl rfl rfl rfl rfl ?_
 refine simL_valc (b := (s13v && (decide ((x2_3.length : Int) ≤ (20000 : Int)))) && (decide ((x3_3.length : Int) ≤ (20000 : Int)))) (fun hb78v => RQ.sub (E' := [(39, str x2_4)]) ⟨lk_cv rfl hb78v, trivial⟩ (q_lens rfl rfl rfl Try.underlying9)) rfl rfl rfl rfl rfl ?_
 refine simL_valc (b := (s13v && (decide ((x2_3.length : Int) ≤ (20000 : Int)))) && (decide ((x3_3.length : Int) ≤ (20000 : Int)))) (fun hb77v => RQ.sub (E' := [(40, .int .i64 (x2_4.length : Int))]) ⟨lk_cv rfl hb77v, trivial⟩ (q_leq rfl rfl rfl)) rfl rfl rfl rfl rfl ?_
 refine simL_val (q_and rfl rfl rfl) rfl rfl rfl ?_
 refine simL_val (q_move rfl rfl) rfl rfl rfl ?_
 refine simL_valc (b := ((s13v && (decide ((x2_3.length : Int) ≤ (20000 : Int)))) && (decide ((x3_3.length : Int) ≤ (20000 : Int)))) && (decide ((x2_4.length : Int) ≤ (20000 : Int)))) (fun hb76v => RQ.sub (E' := [(9, .pointer (some ⟨b4v, 0, none⟩))]) ⟨rfl, trivial⟩ (q_fa rfl rfl Try.underlying25 rfl rfl Try.sizeOf9 rfl)) rfl rfl rfl rfl rfl ?_
 refine simL_valc (b := ((s13v && (decide ((x2_3.length : Int) ≤ (20000 : Int)))) && (decide ((x3_3.length : Int) ≤ (20000 : Int)))) && (decide ((x2_4.length : Int) ≤ (20000 : Int)))) (fun hb75v => RQ.sub (E' := [(44, .pointer (some ⟨b4v, 4, none⟩))]) ⟨lk_cv rfl hb75v, trivial⟩ (q_load rfl rfl Try.isAgg9 (.obj 2 rfl rfl))) rfl rfl rfl rfl rfl ?_
 refine simL_valc (b := ((s13v && (decide ((x2_3.length : Int) ≤ (20000 : Int)))) && (decide ((x3_3.length : Int) ≤ (20000 : Int)))) && (decide ((x2_4.length : Int) ≤ (20000 : Int)))) (fun hb74v => RQ.sub (E' := [(45, str x3_4)]) ⟨lk_cv rfl hb74v, trivial⟩ (q_lens rfl rfl rfl Try.underlying9)) rfl rfl rfl rfl rfl ?_
 refine simL_valc (b := ((s13v && (decide ((x2_3.length : Int) ≤ (20000 : Int)))) && (decide ((x3_3.length : Int) ≤ (20000 : Int)))) && (decide ((x2_4.length : Int) ≤ (20000 : Int)))) (fun hb73v => RQ.sub (E' := [(46, .int .i64 (x3_4.length : Int))]) ⟨lk_cv rfl hb73v, trivial⟩ (q_leq rfl rfl rfl)) rfl rfl rfl rfl rfl ?_
 refine simL_val (q_and rfl rfl rfl) rfl rfl rfl ?_
 refine simL_val (q_move rfl rfl) rfl rfl rfl ?_
 refine simL_valc (b := (((s13v && (decide ((x2_3.length : Int) ≤ (20000 : Int)))) && (decide ((x3_3.length : Int) ≤ (20000 : Int)))) && (decide ((x2_4.length : Int) ≤ (20000 : Int)))) && (decide ((x3_4.length : Int) ≤ (20000 : Int)))) (fun hb72v => RQ.sub (E' := [(8, .pointer (some ⟨b3v, 0, none⟩))]) ⟨rfl, trivial⟩ (q_fa rfl rfl Try.underlying25 rfl rfl Try.sizeOf9 rfl)) rfl rfl rfl rfl rfl ?_
 refine simL_valc (b := (((s13v && (decide ((x2_3.length : Int) ≤ (20000 : Int)))) && (decide ((x3_3.length : Int) ≤ (20000 : Int)))) && (decide ((x2_4.length : Int) ≤ (20000 : Int)))) && (decide ((x3_4.length : Int) ≤ (20000 : Int)))) (fun hb71v => RQ.sub (E' := [(50, .pointer (some ⟨b3v, 5, none⟩))]) ⟨lk_cv rfl hb71v, trivial⟩ (q_load rfl rfl Try.isAgg9 (.obj 3 rfl rfl))) rfl rfl rfl rfl rfl ?_
 refine simL_valc (b := (((s13v && (decide ((x2_3.length : Int) ≤ (20000 : Int)))) && (decide ((x3_3.length : Int) ≤ (20000 : Int)))) && (decide ((x2_4.length : Int) ≤ (20000 : Int)))) && (decide ((x3_4.length : Int) ≤ (20000 : Int)))) (fun hb70v => RQ.sub (E' := [(51, str x2_5)]) ⟨lk_cv rfl hb70v, trivial⟩ (q_lens rfl rfl rfl Try.underlying9)) rfl rfl rfl rfl rfl ?_
 refine simL_valc (b := (((s13v && (decide ((x2_3.length : Int) ≤ (20000 : Int)))) && (decide ((x3_3.length : Int) ≤ (20000 : Int)))) && (decide ((x2_4.length : Int) ≤ (20000 : Int)))) && (decide ((x3_4.length : Int) ≤ (20000 : Int)))) (fun hb69v => RQ.sub (E' := [(52, .int .i64 (x2_5.length : Int))]) ⟨lk_cv rfl hb69v, trivial⟩ (q_leq rfl rfl rfl)) rfl rfl rfl rfl rfl ?_
 refine simL_val (q_and rfl rfl rfl) rfl rfl rfl ?_
 refine simL_val (q_move rfl rfl) rfl rfl rfl ?_
 refine simL_valc (b := ((((s13v && (decide ((x2_3.length : Int) ≤ (20000 : Int)))) && (decide ((x3_3.length : Int) ≤ (20000 : Int)))) && (decide ((x2_4.length : Int) ≤ (20000 : Int)))) && (decide ((x3_4.length : Int) ≤ (20000 : Int)))) && (decide ((x2_5.length : Int) ≤ (20000 : Int)))) (fun hb68v => RQ.sub (E' := [(9, .pointer (some ⟨b4v, 0, none⟩))]) ⟨rfl, trivial⟩ (q_fa rfl rfl Try.underlying25 rfl rfl Try.sizeOf9 rfl)) rfl rfl rfl rfl rfl ?_
 refine simL_valc (b := ((((s13v && (decide ((x2_3.length : Int) ≤ (20000 : Int)))) && (decide ((x3_3.length : Int) ≤ (20000 : Int)))) && (decide ((x2_4.length : Int) ≤ (20000 : Int)))) && (decide ((x3_4.length : Int) ≤ (20000 : Int)))) && (decide ((x2_5.length : Int) ≤ (20000 : Int)))) (fun hb67v => RQ.sub (E' := [(56, .pointer (some ⟨b4v, 5, none⟩))]) ⟨lk_cv rfl hb67v, trivial⟩ (q_load rfl rfl Try.isAgg9 (.obj 2 rfl rfl))) rfl rfl rfl rfl rfl ?_
 refine simL_valc (b := ((((s13v && (decide ((x2_3.length : Int) ≤ (20000 : Int)))) && (decide ((x3_3.length : Int) ≤ (20000 : Int)))) && (decide ((x2_4.length : Int) ≤ (20000 : Int)))) && (decide ((x3_4.length : Int) ≤ (20000 : Int)))) && (decide ((x2_5.length : Int) ≤ (20000 : Int)))) (fun hb66v => RQ.sub (E' := [(57, str x3_5)]) ⟨lk_cv rfl hb66v, trivial⟩ (q_lens rfl rfl rfl Try.underlying9)) rfl rfl rfl rfl rfl ?_
 refine simL_valc (b := ((((s13v && (decide ((x2_3.length : Int) ≤ (20000 : Int)))) && (decide ((x3_3.length : Int) ≤ (20000 : Int)))) && (decide ((x2_4.length : Int) ≤ (20000 : Int)))) && (decide ((x3_4.length : Int) ≤ (20000 : Int)))) && (decide ((x2_5.length : Int) ≤ (20000 : Int)))) (fun hb65v => RQ.sub (E' := [(58, .int .i64 (x3_5.length : Int))]) ⟨lk_cv rfl hb65v, trivial⟩ (q_leq rfl rfl rfl)) rfl rfl rfl rfl rfl ?_
 refine simL_val (q_and rfl rfl rfl) rfl rfl rfl ?_
 refine simL_val (q_asg rfl rfl) rfl rfl rfl (simL_nil (nrm_then (sim_seq (sim_seq (sim_region ?_)))))
 refine simL_val (q_move rfl rfl) rfl rfl rfl ?_
 refine simL_val (q_not rfl rfl) rfl rfl rfl ?_
 refine simL_val (q_move rfl rfl) rfl rfl rfl ?_
 refine simL_valc (b := !s7v) (fun hb64v => RQ.sub (E' := [(14, .bool ((((((s13v && (decide ((x2_3.length : Int) ≤ (20000 : Int)))) && (decide ((x3_3.length : Int) ≤ (20000 : Int)))) && (decide ((x2_4.length : Int) ≤ (20000 : Int)))) && (decide ((x3_4.length : Int) ≤ (20000 : Int)))) && (decide ((x2_5.length : Int) ≤ (20000 : Int)))) && (decide ((x3_5.length : Int) ≤ (20000 : Int)))))]) ⟨rfl, trivial⟩ (q_move rfl rfl)) rfl rfl rfl rfl rfl ?_
 refine simL_valc (b := !s7v) (fun hb63v => RQ.sub (E' := [(64, .bool ((((((s13v && (decide ((x2_3.length : Int) ≤ (20000 : Int)))) && (decide ((x3_3.length : Int) ≤ (20000 : Int)))) && (decide ((x2_4.length : Int) ≤ (20000 : Int)))) && (decide ((x3_4.length : Int) ≤ (20000 : Int)))) && (decide ((x2_5.length : Int) ≤ (20000 : Int)))) && (decide ((x3_5.length : Int) ≤ (20000 : Int)))))]) ⟨lk_cv rfl hb63v, trivial⟩ (q_not rfl rfl)) rfl rfl rfl rfl rfl ?_
 refine simL_val (q_or rfl rfl rfl) rfl rfl rfl (simL_nil (nrm_then ?_))
 refine sim_condb rfl (fun h20v => ?_) (fun h21v => ?_)
 refine sim_seq (sim_region ?_)
 refine simL_val (q_move rfl rfl) rfl rfl rfl ?_
 refine simL_val (q_asg rfl rfl) rfl rfl rfl (simL_nil (nrm_then (sim_rtn ?_)))
 refine rtn_then ?_
 exact rtn_fn () rfl rfl rfl (.sel 6 rfl (.nil _))
 refine sim_skip ?_
 refine nrm_then (sim_seq (sim_region ?_))
 refine simL_val (q_loado 5 rfl rfl Try.isAgg23 Try.sizeOf23 rfl rfl) rfl rfl rfl ?_
 refine simL_val (q_loado 4 rfl rfl Try.isAgg23 Try.sizeOf23 rfl rfl) rfl rfl rfl ?_
 refine simL_val (q_eqagg rfl rfl rfl (by kernel_rfl) (fun d w => eqi_struct Try.underlying23 (by kernel_rfl) (eqf_cons (by rfl) (part_of Try.isAgg3 rfl) (part_of Try.isAgg3 rfl) (eqi_int Try.underlying3) (eqf_cons (by rfl) (part_of Try.isAgg3 rfl) (part_of Try.isAgg3 rfl) (eqi_int Try.underlying3) (eqf_last (by rfl) (part_of Try.isAgg3 rfl) (part_of Try.isAgg3 rfl) (eqi_int Try.underlying3)))))) rfl rfl rfl ?_
 refine simL_val (q_move rfl rfl) rfl rfl rfl ?_
 refine simL_cut' 4 (S := Bool) (Unit) (fun s y => [(6, .pointer (some ⟨b1v, 0, none⟩)), (7, .pointer (some ⟨b2v, 0, none⟩)), (8, .pointer (some ⟨b3v, 0, none⟩)), (9, .pointer (some ⟨b4v, 0, none⟩)), (10, .pointer (some ⟨b5v, 0, none⟩)), (11, .pointer (some ⟨b6v, 0, none⟩)), (75, .bool s)]) (fun s y => [obj b6v 31 [.int .i64 x5_0, .int .i64 x5_1, .int .i64 x5_2, .int .i64 x5_3, .int .i64 x5_4, .int .i64 x5_5, .int .i64 x5_6, .int .i64 x5_7, .int .i64 x5_8, .bool x5_9, .slice a5_10 x5_10.length c5_10, .int .i64 x5_11, .int .i64 x5_12, .slice a5_13 x5_13.length c5_13], obj b5v 31 [.int .i64 x4_0, .int .i64 x4_1, .int .i64 x4_2, .int .i64 x4_3, .int .i64 x4_4, .int .i64 x4_5, .int .i64 x4_6, .int .i64 x4_7, .int .i64 x4_8, .bool x4_9, .slice a4_10 x4_10.length c4_10, .int .i64 x4_11, .int .i64 x4_12, .slice a4_13 x4_13.length c4_13], obj b4v 25 [.int .i64 x3_0, .int .i64 x3_1, .int .i64 x3_2, str x3_3, str x3_4, str x3_5], obj b3v 25 [.int .i64 x2_0, .int .i64 x2_1, .int .i64 x2_2, str x2_3, str x2_4, str x2_5], obj b2v 23 [.int .i64 x1_0, .int .i64 x1_1, .int .i64 x1_2], obj b1v 23 [.int .i64 x0_0, .int .i64 x0_1, .int .i64 x0_2], F]) ?_ ?_
 refine simL_caseb (fun hb27v => ?_) (fun hb28v => ?_)
 rw [hb27v]
 refine simL_valg (q_loado 5 rfl rfl Try.isAgg23 Try.sizeOf23 rfl rfl) rfl rfl rfl rfl rfl rfl ?_
 refine simL_bind (fun s24v hs26v => ?_)
 refine simL_effg (re_call (vs := [.agg #[.int .i64 x0_0, .int .i64 x0_1, .int .i64 x0_2]]) (cap := []) (A := []) (rst := [obj b6v 31 [.int .i64 x5_0, .int .i64 x5_1, .int .i64 x5_2, .int .i64 x5_3, .int .i64 x5_4, .int .i64 x5_5, .int .i64 x5_6, .int .i64 x5_7, .int .i64 x5_8, .bool x5_9, .slice a5_10 x5_10.length c5_10, .int .i64 x5_11, .int .i64 x5_12, .slice a5_13 x5_13.length c5_13], obj b5v 31 [.int .i64 x4_0, .int .i64 x4_1, .int .i64 x4_2, .int .i64 x4_3, .int .i64 x4_4, .int .i64 x4_5, .int .i64 x4_6, .int .i64 x4_7, .int .i64 x4_8, .bool x4_9, .slice a4_10 x4_10.length c4_10, .int .i64 x4_11, .int .i64 x4_12, .slice a4_13 x4_13.length c4_13], obj b4v 25 [.int .i64 x3_0, .int .i64 x3_1, .int .i64 x3_2, str x3_3, str x3_4, str x3_5], obj b3v 25 [.int .i64 x2_0, .int .i64 x2_1, .int .i64 x2_2, str x2_3, str x2_4, str x2_5], obj b2v 23 [.int .i64 x1_0, .int .i64 x1_1, .int .i64 x1_2], obj b1v 23 [.int .i64 x0_0, .int .i64 x0_1, .int .i64 x0_2], F]) rfl rfl rfl rfl rfl rfl Try.call16 (.sel 0 rfl (.sel 0 rfl (.sel 0 rfl (.sel 0 rfl (.sel 0 rfl (.sel 0 rfl (.sel 0 rfl (.nil _)))))))) (synodref3_CheckState.calls _ _ x0_0 x0_1 x0_2 ) hs26v) rfl rfl rfl rfl rfl rfl ?_
 intro y25v
 refine simL_valg (q_eql rfl rfl rfl) rfl rfl rfl rfl rfl rfl ?_
 refine simL_val (q_pick rfl rfl rfl rfl rfl) rfl rfl rfl (simL_nil ?_)
 exact nrm_cut (s := decide (s24v = (0 : Int))) () ⟨rfl, rfl, rfl, rfl, rfl, rfl, rfl, trivial⟩ (.sel 0 rfl (.sel 0 rfl (.sel 0 rfl (.sel 0 rfl (.sel 0 rfl (.sel 0 rfl (.sel 0 rfl (.nil _))))))))
 rw [hb28v]
 refine simL_skipd rfl rfl rfl rfl rfl rfl ?_
 refine simL_skipd rfl rfl rfl rfl rfl rfl ?_
 refine simL_skipd rfl rfl rfl rfl rfl rfl ?_
 refine simL_val (q_pick rfl rfl rfl rfl rfl) rfl rfl rfl (simL_nil ?_)
 exact nrm_cut (s := false) () ⟨rfl, rfl, rfl, rfl, rfl, rfl, rfl, trivial⟩ (.sel 0 rfl (.sel 0 rfl (.sel 0 rfl (.sel 0 rfl (.sel 0 rfl (.sel 0 rfl (.sel 0 rfl (.nil _))))))))
 intro s22v y23v
 refine simL_val (q_asg rfl rfl) rfl rfl rfl (simL_nil (nrm_then (sim_seq (sim_region ?_))))
 refine simL_val (q_loado 3 rfl rfl Try.isAgg25 Try.sizeOf25 rfl rfl) rfl rfl rfl ?_
 refine simL_val (q_loado 2 rfl rfl Try.isAgg25 Try.sizeOf25 rfl rfl) rfl rfl rfl ?_
 refine simL_val (q_eqagg rfl rfl rfl (by kernel_rfl) (fun d w => eqi_struct Try.underlying25 (by kernel_rfl) (eqf_cons (by rfl) (part_of Try.isAgg3 rfl) (part_of Try.isAgg3 rfl) (eqi_int Try.underlying3) (eqf_cons (by rfl) (part_of Try.isAgg3 rfl) (part_of Try.isAgg3 rfl) (eqi_int Try.underlying3) (eqf_cons (by rfl) (part_of Try.isAgg3 rfl) (part_of Try.isAgg3 rfl) (eqi_int Try.underlying3) (eqf_cons (by rfl) (part_of Try.isAgg9 rfl) (part_of Try.isAgg9 rfl) (eqi_str Try.underlying9) (eqf_cons (by rfl) (part_of Try.isAgg9 rfl) (part_of Try.isAgg9 rfl) (eqi_str Try.underlying9) (eqf_last (by rfl) (part_of Try.isAgg9 rfl) (part_of Try.isAgg9 rfl) (eqi_str Try.underlying9))))))))) rfl rfl rfl ?_
 refine simL_val (q_move rfl rfl) rfl rfl rfl ?_
 refine simL_cut' 4 (S := Bool) (Unit) (fun s y => [(6, .pointer (some ⟨b1v, 0, none⟩)), (7, .pointer (some ⟨b2v, 0, none⟩)), (8, .pointer (some ⟨b3v, 0, none⟩)), (9, .pointer (some ⟨b4v, 0, none⟩)), (10, .pointer (some ⟨b5v, 0, none⟩)), (11, .pointer (some ⟨b6v, 0, none⟩)), (15, .bool s22v), (83, .bool s)]) (fun s y => [obj b6v 31 [.int .i64 x5_0, .int .i64 x5_1, .int .i64 x5_2, .int .i64 x5_3, .int .i64 x5_4, .int .i64 x5_5, .int .i64 x5_6, .int .i64 x5_7, .int .i64 x5_8, .bool x5_9, .slice a5_10 x5_10.length c5_10, .int .i64 x5_11, .int .i64 x5_12, .slice a5_13 x5_13.length c5_13], obj b5v 31 [.int .i64 x4_0, .int .i64 x4_1, .int .i64 x4_2, .int .i64 x4_3, .int .i64 x4_4, .int .i64 x4_5, .int .i64 x4_6, .int .i64 x4_7, .int .i64 x4_8, .bool x4_9, .slice a4_10 x4_10.length c4_10, .int .i64 x4_11, .int .i64 x4_12, .slice a4_13 x4_13.length c4_13], obj b4v 25 [.int .i64 x3_0, .int .i64 x3_1, .int .i64 x3_2, str x3_3, str x3_4, str x3_5], obj b3v 25 [.int .i64 x2_0, .int .i64 x2_1, .int .i64 x2_2, str x2_3, str x2_4, str x2_5], obj b2v 23 [.int .i64 x1_0, .int .i64 x1_1, .int .i64 x1_2], obj b1v 23 [.int .i64 x0_0, .int .i64 x0_1, .int .i64 x0_2], F]) ?_ ?_
 refine simL_caseb (fun hb34v => ?_) (fun hb35v => ?_)
 rw [hb34v]
 refine simL_valg (q_loado 3 rfl rfl Try.isAgg25 Try.sizeOf25 rfl rfl) rfl rfl rfl rfl rfl rfl ?_
 refine simL_bind (fun s31v hs33v => ?_)
 refine simL_effg (re_call (vs := [.agg #[.int .i64 x2_0, .int .i64 x2_1, .int .i64 x2_2, str x2_3, str x2_4, str x2_5]]) (cap := []) (A := []) (rst := [obj b6v 31 [.int .i64 x5_0, .int .i64 x5_1, .int .i64 x5_2, .int .i64 x5_3, .int .i64 x5_4, .int .i64 x5_5, .int .i64 x5_6, .int .i64 x5_7, .int .i64 x5_8, .bool x5_9, .slice a5_10 x5_10.length c5_10, .int .i64 x5_11, .int .i64 x5_12, .slice a5_13 x5_13.length c5_13], obj b5v 31 [.int .i64 x4_0, .int .i64 x4_1, .int .i64 x4_2, .int .i64 x4_3, .int .i64 x4_4, .int .i64 x4_5, .int .i64 x4_6, .int .i64 x4_7, .int .i64 x4_8, .bool x4_9, .slice a4_10 x4_10.length c4_10, .int .i64 x4_11, .int .i64 x4_12, .slice a4_13 x4_13.length c4_13], obj b4v 25 [.int .i64 x3_0, .int .i64 x3_1, .int .i64 x3_2, str x3_3, str x3_4, str x3_5], obj b3v 25 [.int .i64 x2_0, .int .i64 x2_1, .int .i64 x2_2, str x2_3, str x2_4, str x2_5], obj b2v 23 [.int .i64 x1_0, .int .i64 x1_1, .int .i64 x1_2], obj b1v 23 [.int .i64 x0_0, .int .i64 x0_1, .int .i64 x0_2], F]) rfl rfl rfl rfl rfl rfl Try.call17 (.sel 0 rfl (.sel 0 rfl (.sel 0 rfl (.sel 0 rfl (.sel 0 rfl (.sel 0 rfl (.sel 0 rfl (.nil _)))))))) (synodref3_CheckCommand.calls _ _ x2_0 x2_1 x2_2 x2_3 x2_4 x2_5 ) hs33v) rfl rfl rfl rfl rfl rfl ?_
 intro y32v
 refine simL_valg (q_eql rfl rfl rfl) rfl rfl rfl rfl rfl rfl ?_
 refine simL_val (q_pick rfl rfl rfl rfl rfl) rfl rfl rfl (simL_nil ?_)
 exact nrm_cut (s := decide (s31v = (0 : Int))) () ⟨rfl, rfl, rfl, rfl, rfl, rfl, rfl, rfl, trivial⟩ (.sel 0 rfl (.sel 0 rfl (.sel 0 rfl (.sel 0 rfl (.sel 0 rfl (.sel 0 rfl (.sel 0 rfl (.nil _))))))))
 rw [hb35v]
 refine simL_skipd rfl rfl rfl rfl rfl rfl ?_
 refine simL_skipd rfl rfl rfl rfl rfl rfl ?_
 refine simL_skipd rfl rfl rfl rfl rfl rfl ?_
 refine simL_val (q_pick rfl rfl rfl rfl rfl) rfl rfl rfl (simL_nil ?_)
 exact nrm_cut (s := false) () ⟨rfl, rfl, rfl, rfl, rfl, rfl, rfl, rfl, trivial⟩ (.sel 0 rfl (.sel 0 rfl (.sel 0 rfl (.sel 0 rfl (.sel 0 rfl (.sel 0 rfl (.sel 0 rfl (.nil _))))))))
 intro s29v y30v
 refine simL_val (q_asg rfl rfl) rfl rfl rfl (simL_nil (nrm_then (sim_seq (sim_region ?_))))
 refine simL_val (q_loado 1 rfl rfl Try.isAgg31 Try.sizeOf31 rfl rfl) rfl rfl rfl ?_
 refine simL_val (q_loado 0 rfl rfl Try.isAgg31 Try.sizeOf31 rfl rfl) rfl rfl rfl ?_
 refine simL_bind (fun s36v hs38v => ?_)
 refine simL_eff (re_call (vs := [.agg #[.int .i64 x4_0, .int .i64 x4_1, .int .i64 x4_2, .int .i64 x4_3, .int .i64 x4_4, .int .i64 x4_5, .int .i64 x4_6, .int .i64 x4_7, .int .i64 x4_8, .bool x4_9, .slice a4_10 x4_10.length c4_10, .int .i64 x4_11, .int .i64 x4_12, .slice a4_13 x4_13.length c4_13], .agg #[.int .i64 x5_0, .int .i64 x5_1, .int .i64 x5_2, .int .i64 x5_3, .int .i64 x5_4, .int .i64 x5_5, .int .i64 x5_6, .int .i64 x5_7, .int .i64 x5_8, .bool x5_9, .slice a5_10 x5_10.length c5_10, .int .i64 x5_11, .int .i64 x5_12, .slice a5_13 x5_13.length c5_13]]) (cap := []) (A := []) (rst := [obj b6v 31 [.int .i64 x5_0, .int .i64 x5_1, .int .i64 x5_2, .int .i64 x5_3, .int .i64 x5_4, .int .i64 x5_5, .int .i64 x5_6, .int .i64 x5_7, .int .i64 x5_8, .bool x5_9, .slice a5_10 x5_10.length c5_10, .int .i64 x5_11, .int .i64 x5_12, .slice a5_13 x5_13.length c5_13], obj b5v 31 [.int .i64 x4_0, .int .i64 x4_1, .int .i64 x4_2, .int .i64 x4_3, .int .i64 x4_4, .int .i64 x4_5, .int .i64 x4_6, .int .i64 x4_7, .int .i64 x4_8, .bool x4_9, .slice a4_10 x4_10.length c4_10, .int .i64 x4_11, .int .i64 x4_12, .slice a4_13 x4_13.length c4_13], obj b4v 25 [.int .i64 x3_0, .int .i64 x3_1, .int .i64 x3_2, str x3_3, str x3_4, str x3_5], obj b3v 25 [.int .i64 x2_0, .int .i64 x2_1, .int .i64 x2_2, str x2_3, str x2_4, str x2_5], obj b2v 23 [.int .i64 x1_0, .int .i64 x1_1, .int .i64 x1_2], obj b1v 23 [.int .i64 x0_0, .int .i64 x0_1, .int .i64 x0_2], F]) rfl rfl rfl rfl rfl rfl Try.call18 (.sel 0 rfl (.sel 0 rfl (.sel 0 rfl (.sel 0 rfl (.sel 0 rfl (.sel 0 rfl (.sel 0 rfl (.nil _)))))))) (synodref_SameMessage.calls _ _ k x4_0 x4_1 x4_2 x4_3 x4_4 x4_5 x4_6 x4_7 x4_8 x4_9 a4_10 c4_10 x4_10 x4_11 x4_12 a4_13 c4_13 x4_13 x5_0 x5_1 x5_2 x5_3 x5_4 x5_5 x5_6 x5_7 x5_8 x5_9 a5_10 c5_10 x5_10 x5_11 x5_12 a5_13 c5_13 x5_13 (h4_10.up (Up.lend 6 rfl) (V61.up (Up.lend 6 rfl))) hc4_10 hm4_10 (h4_13.lend 6 rfl) hc4_13 hm4_13 (h5_10.up (Up.lend 6 rfl) (V61.up (Up.lend 6 rfl))) hc5_10 hm5_10 (h5_13.lend 6 rfl) hc5_13 hm5_13) hs38v) rfl rfl rfl ?_
 intro y37v
 refine simL_val (q_move rfl rfl) rfl rfl rfl ?_
 refine simL_cut' 4 (S := Bool) (Unit) (fun s y => [(6, .pointer (some ⟨b1v, 0, none⟩)), (7, .pointer (some ⟨b2v, 0, none⟩)), (8, .pointer (some ⟨b3v, 0, none⟩)), (9, .pointer (some ⟨b4v, 0, none⟩)), (10, .pointer (some ⟨b5v, 0, none⟩)), (11, .pointer (some ⟨b6v, 0, none⟩)), (15, .bool s22v), (16, .bool s29v), (91, .bool s)]) (fun s y => [obj b6v 31 [.int .i64 x5_0, .int .i64 x5_1, .int .i64 x5_2, .int .i64 x5_3, .int .i64 x5_4, .int .i64 x5_5, .int .i64 x5_6, .int .i64 x5_7, .int .i64 x5_8, .bool x5_9, .slice a5_10 x5_10.length c5_10, .int .i64 x5_11, .int .i64 x5_12, .slice a5_13 x5_13.length c5_13], obj b5v 31 [.int .i64 x4_0, .int .i64 x4_1, .int .i64 x4_2, .int .i64 x4_3, .int .i64 x4_4, .int .i64 x4_5, .int .i64 x4_6, .int .i64 x4_7, .int .i64 x4_8, .bool x4_9, .slice a4_10 x4_10.length c4_10, .int .i64 x4_11, .int .i64 x4_12, .slice a4_13 x4_13.length c4_13], obj b4v 25 [.int .i64 x3_0, .int .i64 x3_1, .int .i64 x3_2, str x3_3, str x3_4, str x3_5], obj b3v 25 [.int .i64 x2_0, .int .i64 x2_1, .int .i64 x2_2, str x2_3, str x2_4, str x2_5], obj b2v 23 [.int .i64 x1_0, .int .i64 x1_1, .int .i64 x1_2], obj b1v 23 [.int .i64 x0_0, .int .i64 x0_1, .int .i64 x0_2], F]) ?_ ?_
 refine simL_caseb (fun hb44v => ?_) (fun hb45v => ?_)
 rw [hb44v]
 refine simL_valg (q_loado 1 rfl rfl Try.isAgg31 Try.sizeOf31 rfl rfl) rfl rfl rfl rfl rfl rfl ?_
 refine simL_bind (fun s41v hs43v => ?_)
 refine simL_effg (re_call (vs := [.agg #[.int .i64 x4_0, .int .i64 x4_1, .int .i64 x4_2, .int .i64 x4_3, .int .i64 x4_4, .int .i64 x4_5, .int .i64 x4_6, .int .i64 x4_7, .int .i64 x4_8, .bool x4_9, .slice a4_10 x4_10.length c4_10, .int .i64 x4_11, .int .i64 x4_12, .slice a4_13 x4_13.length c4_13]]) (cap := []) (A := []) (rst := [obj b6v 31 [.int .i64 x5_0, .int .i64 x5_1, .int .i64 x5_2, .int .i64 x5_3, .int .i64 x5_4, .int .i64 x5_5, .int .i64 x5_6, .int .i64 x5_7, .int .i64 x5_8, .bool x5_9, .slice a5_10 x5_10.length c5_10, .int .i64 x5_11, .int .i64 x5_12, .slice a5_13 x5_13.length c5_13], obj b5v 31 [.int .i64 x4_0, .int .i64 x4_1, .int .i64 x4_2, .int .i64 x4_3, .int .i64 x4_4, .int .i64 x4_5, .int .i64 x4_6, .int .i64 x4_7, .int .i64 x4_8, .bool x4_9, .slice a4_10 x4_10.length c4_10, .int .i64 x4_11, .int .i64 x4_12, .slice a4_13 x4_13.length c4_13], obj b4v 25 [.int .i64 x3_0, .int .i64 x3_1, .int .i64 x3_2, str x3_3, str x3_4, str x3_5], obj b3v 25 [.int .i64 x2_0, .int .i64 x2_1, .int .i64 x2_2, str x2_3, str x2_4, str x2_5], obj b2v 23 [.int .i64 x1_0, .int .i64 x1_1, .int .i64 x1_2], obj b1v 23 [.int .i64 x0_0, .int .i64 x0_1, .int .i64 x0_2], F]) rfl rfl rfl rfl rfl rfl Try.call19 (.sel 0 rfl (.sel 0 rfl (.sel 0 rfl (.sel 0 rfl (.sel 0 rfl (.sel 0 rfl (.sel 0 rfl (.nil _)))))))) (synodref3_CheckMessage.calls _ _ k x4_0 x4_1 x4_2 x4_3 x4_4 x4_5 x4_6 x4_7 x4_8 x4_9 a4_10 c4_10 x4_10 x4_11 x4_12 a4_13 c4_13 x4_13 (h4_10.up (Up.lend 6 rfl) (V61.up (Up.lend 6 rfl))) hc4_10 hm4_10 (h4_13.lend 6 rfl) hc4_13 hm4_13) hs43v) rfl rfl rfl rfl rfl rfl ?_
 intro y42v
 refine simL_valg (q_eql rfl rfl rfl) rfl rfl rfl rfl rfl rfl ?_
 refine simL_val (q_pick rfl rfl rfl rfl rfl) rfl rfl rfl (simL_nil ?_)
 exact nrm_cut (s := decide (s41v = (0 : Int))) () ⟨rfl, rfl, rfl, rfl, rfl, rfl, rfl, rfl, rfl, trivial⟩ (.sel 0 rfl (.sel 0 rfl (.sel 0 rfl (.sel 0 rfl (.sel 0 rfl (.sel 0 rfl (.sel 0 rfl (.nil _))))))))
 rw [hb45v]
 refine simL_skipd rfl rfl rfl rfl rfl rfl ?_
 refine simL_skipd rfl rfl rfl rfl rfl rfl ?_
 refine simL_skipd rfl rfl rfl rfl rfl rfl ?_
 refine simL_val (q_pick rfl rfl rfl rfl rfl) rfl rfl rfl (simL_nil ?_)
 exact nrm_cut (s := false) () ⟨rfl, rfl, rfl, rfl, rfl, rfl, rfl, rfl, rfl, trivial⟩ (.sel 0 rfl (.sel 0 rfl (.sel 0 rfl (.sel 0 rfl (.sel 0 rfl (.sel 0 rfl (.sel 0 rfl (.nil _))))))))
 intro s39v y40v
 refine simL_val (q_asg rfl rfl) rfl rfl rfl (simL_nil (nrm_then (sim_seq (sim_region ?_))))
 refine simL_val (q_build (v := .agg #[]) rfl rfl (fun _ => by kernel_rfl)) rfl rfl rfl ?_
 refine simL_val (q_mkif rfl rfl Try.underlying40 rfl) rfl rfl rfl ?_
 refine simL_val (q_loado 5 rfl rfl Try.isAgg23 Try.sizeOf23 rfl rfl) rfl rfl rfl ?_
 refine simL_val (q_loado 4 rfl rfl Try.isAgg23 Try.sizeOf23 rfl rfl) rfl rfl rfl ?_
 refine simL_bind (fun s46v hs48v => ?_)
 refine simL_eff (re_call (vs := [.iface 40 (.agg #[]), .agg #[.int .i64 x0_0, .int .i64 x0_1, .int .i64 x0_2], .agg #[.int .i64 x1_0, .int .i64 x1_1, .int .i64 x1_2]]) (cap := []) (A := []) (rst := [obj b6v 31 [.int .i64 x5_0, .int .i64 x5_1, .int .i64 x5_2, .int .i64 x5_3, .int .i64 x5_4, .int .i64 x5_5, .int .i64 x5_6, .int .i64 x5_7, .int .i64 x5_8, .bool x5_9, .slice a5_10 x5_10.length c5_10, .int .i64 x5_11, .int .i64 x5_12, .slice a5_13 x5_13.length c5_13], obj b5v 31 [.int .i64 x4_0, .int .i64 x4_1, .int .i64 x4_2, .int .i64 x4_3, .int .i64 x4_4, .int .i64 x4_5, .int .i64 x4_6, .int .i64 x4_7, .int .i64 x4_8, .bool x4_9, .slice a4_10 x4_10.length c4_10, .int .i64 x4_11, .int .i64 x4_12, .slice a4_13 x4_13.length c4_13], obj b4v 25 [.int .i64 x3_0, .int .i64 x3_1, .int .i64 x3_2, str x3_3, str x3_4, str x3_5], obj b3v 25 [.int .i64 x2_0, .int .i64 x2_1, .int .i64 x2_2, str x2_3, str x2_4, str x2_5], obj b2v 23 [.int .i64 x1_0, .int .i64 x1_1, .int .i64 x1_2], obj b1v 23 [.int .i64 x0_0, .int .i64 x0_1, .int .i64 x0_2], F]) rfl rfl rfl rfl rfl rfl Try.call20 (.sel 0 rfl (.sel 0 rfl (.sel 0 rfl (.sel 0 rfl (.sel 0 rfl (.sel 0 rfl (.sel 0 rfl (.nil _)))))))) (codec_Same_State_States.calls _ _ k x0_0 x0_1 x0_2 x1_0 x1_1 x1_2 ) hs48v) rfl rfl rfl ?_
 intro y47v
 refine simL_val (q_move rfl rfl) rfl rfl rfl ?_
 refine simL_val (q_eqb rfl rfl rfl Try.underlying4) rfl rfl rfl ?_
 refine simL_val (q_move rfl rfl) rfl rfl rfl ?_
 refine simL_cut' 8 (S := Bool) (Unit) (fun s y => [(10, .pointer (some ⟨b5v, 0, none⟩)), (11, .pointer (some ⟨b6v, 0, none⟩)), (17, .bool s39v), (107, .bool s)]) (fun s y => [obj b6v 31 [.int .i64 x5_0, .int .i64 x5_1, .int .i64 x5_2, .int .i64 x5_3, .int .i64 x5_4, .int .i64 x5_5, .int .i64 x5_6, .int .i64 x5_7, .int .i64 x5_8, .bool x5_9, .slice a5_10 x5_10.length c5_10, .int .i64 x5_11, .int .i64 x5_12, .slice a5_13 x5_13.length c5_13], obj b5v 31 [.int .i64 x4_0, .int .i64 x4_1, .int .i64 x4_2, .int .i64 x4_3, .int .i64 x4_4, .int .i64 x4_5, .int .i64 x4_6, .int .i64 x4_7, .int .i64 x4_8, .bool x4_9, .slice a4_10 x4_10.length c4_10, .int .i64 x4_11, .int .i64 x4_12, .slice a4_13 x4_13.length c4_13], F]) ?_ ?_
 refine simL_caseb (fun hb54v => ?_) (fun hb55v => ?_)
 rw [hb54v]
 refine simL_valg (q_build (v := .agg #[]) rfl rfl (fun _ => by kernel_rfl)) rfl rfl rfl rfl rfl rfl ?_
 refine simL_valg (q_mkif rfl rfl Try.underlying42 rfl) rfl rfl rfl rfl rfl rfl ?_
 refine simL_valg (q_loado 3 rfl rfl Try.isAgg25 Try.sizeOf25 rfl rfl) rfl rfl rfl rfl rfl rfl ?_
 refine simL_valg (q_loado 2 rfl rfl Try.isAgg25 Try.sizeOf25 rfl rfl) rfl rfl rfl rfl rfl rfl ?_
 refine simL_bind (fun s51v hs53v => ?_)
 refine simL_effg (re_call (vs := [.iface 42 (.agg #[]), .agg #[.int .i64 x2_0, .int .i64 x2_1, .int .i64 x2_2, str x2_3, str x2_4, str x2_5], .agg #[.int .i64 x3_0, .int .i64 x3_1, .int .i64 x3_2, str x3_3, str x3_4, str x3_5]]) (cap := []) (A := []) (rst := [obj b6v 31 [.int .i64 x5_0, .int .i64 x5_1, .int .i64 x5_2, .int .i64 x5_3, .int .i64 x5_4, .int .i64 x5_5, .int .i64 x5_6, .int .i64 x5_7, .int .i64 x5_8, .bool x5_9, .slice a5_10 x5_10.length c5_10, .int .i64 x5_11, .int .i64 x5_12, .slice a5_13 x5_13.length c5_13], obj b5v 31 [.int .i64 x4_0, .int .i64 x4_1, .int .i64 x4_2, .int .i64 x4_3, .int .i64 x4_4, .int .i64 x4_5, .int .i64 x4_6, .int .i64 x4_7, .int .i64 x4_8, .bool x4_9, .slice a4_10 x4_10.length c4_10, .int .i64 x4_11, .int .i64 x4_12, .slice a4_13 x4_13.length c4_13], obj b4v 25 [.int .i64 x3_0, .int .i64 x3_1, .int .i64 x3_2, str x3_3, str x3_4, str x3_5], obj b3v 25 [.int .i64 x2_0, .int .i64 x2_1, .int .i64 x2_2, str x2_3, str x2_4, str x2_5], obj b2v 23 [.int .i64 x1_0, .int .i64 x1_1, .int .i64 x1_2], obj b1v 23 [.int .i64 x0_0, .int .i64 x0_1, .int .i64 x0_2], F]) rfl rfl rfl rfl rfl rfl Try.call21 (.sel 0 rfl (.sel 0 rfl (.sel 0 rfl (.sel 0 rfl (.sel 0 rfl (.sel 0 rfl (.sel 0 rfl (.nil _)))))))) (codec_Same_Command_Commands.calls _ _ k x2_0 x2_1 x2_2 x2_3 x2_4 x2_5 x3_0 x3_1 x3_2 x3_3 x3_4 x3_5 ) hs53v) rfl rfl rfl rfl rfl rfl ?_
 intro y52v
 refine simL_valg (q_move rfl rfl) rfl rfl rfl rfl rfl rfl ?_
 refine simL_valg (q_eqb rfl rfl rfl Try.underlying4) rfl rfl rfl rfl rfl rfl ?_
 refine simL_val (q_pick rfl rfl rfl rfl rfl) rfl rfl rfl (simL_nil ?_)
 exact nrm_cut (s := s51v == s29v) () ⟨rfl, rfl, rfl, rfl, trivial⟩ (.sel 0 rfl (.sel 0 rfl (.sel 4 rfl (.nil _))))
 rw [hb55v]
 refine simL_skipd rfl rfl rfl rfl rfl rfl ?_
 refine simL_skipd rfl rfl rfl rfl rfl rfl ?_
 refine simL_skipd rfl rfl rfl rfl rfl rfl ?_
 refine simL_skipd rfl rfl rfl rfl rfl rfl ?_
 refine simL_skipd rfl rfl rfl rfl rfl rfl ?_
 refine simL_skipd rfl rfl rfl rfl rfl rfl ?_
 refine simL_skipd rfl rfl rfl rfl rfl rfl ?_
 refine simL_val (q_pick rfl rfl rfl rfl rfl) rfl rfl rfl (simL_nil ?_)
 exact nrm_cut (s := false) () ⟨rfl, rfl, rfl, rfl, trivial⟩ (.sel 0 rfl (.sel 0 rfl (.sel 4 rfl (.nil _))))
 intro s49v y50v
 refine simL_val (q_move rfl rfl) rfl rfl rfl ?_
 refine simL_cut' 8 (S := Bool) (Unit) (fun s y => [(116, .bool s)]) (fun s y => [F]) ?_ ?_
 refine simL_caseb (fun hb61v => ?_) (fun hb62v => ?_)
 rw [hb61v]
 refine simL_valg (q_build (v := .agg #[]) rfl rfl (fun _ => by kernel_rfl)) rfl rfl rfl rfl rfl rfl ?_
 refine simL_valg (q_mkif rfl rfl Try.underlying44 rfl) rfl rfl rfl rfl rfl rfl ?_
 refine simL_valg (q_loado 1 rfl rfl Try.isAgg31 Try.sizeOf31 rfl rfl) rfl rfl rfl rfl rfl rfl ?_
 refine simL_valg (q_loado 0 rfl rfl Try.isAgg31 Try.sizeOf31 rfl rfl) rfl rfl rfl rfl rfl rfl ?_
 refine simL_bind (fun s58v hs60v => ?_)
 refine simL_effg (re_call (vs := [.iface 44 (.agg #[]), .agg #[.int .i64 x4_0, .int .i64 x4_1, .int .i64 x4_2, .int .i64 x4_3, .int .i64 x4_4, .int .i64 x4_5, .int .i64 x4_6, .int .i64 x4_7, .int .i64 x4_8, .bool x4_9, .slice a4_10 x4_10.length c4_10, .int .i64 x4_11, .int .i64 x4_12, .slice a4_13 x4_13.length c4_13], .agg #[.int .i64 x5_0, .int .i64 x5_1, .int .i64 x5_2, .int .i64 x5_3, .int .i64 x5_4, .int .i64 x5_5, .int .i64 x5_6, .int .i64 x5_7, .int .i64 x5_8, .bool x5_9, .slice a5_10 x5_10.length c5_10, .int .i64 x5_11, .int .i64 x5_12, .slice a5_13 x5_13.length c5_13]]) (cap := []) (A := []) (rst := [obj b6v 31 [.int .i64 x5_0, .int .i64 x5_1, .int .i64 x5_2, .int .i64 x5_3, .int .i64 x5_4, .int .i64 x5_5, .int .i64 x5_6, .int .i64 x5_7, .int .i64 x5_8, .bool x5_9, .slice a5_10 x5_10.length c5_10, .int .i64 x5_11, .int .i64 x5_12, .slice a5_13 x5_13.length c5_13], obj b5v 31 [.int .i64 x4_0, .int .i64 x4_1, .int .i64 x4_2, .int .i64 x4_3, .int .i64 x4_4, .int .i64 x4_5, .int .i64 x4_6, .int .i64 x4_7, .int .i64 x4_8, .bool x4_9, .slice a4_10 x4_10.length c4_10, .int .i64 x4_11, .int .i64 x4_12, .slice a4_13 x4_13.length c4_13], F]) rfl rfl rfl rfl rfl rfl Try.call22 (.sel 0 rfl (.sel 0 rfl (.sel 0 rfl (.nil _)))) (codec_Same_Message_Messages.calls _ _ k x4_0 x4_1 x4_2 x4_3 x4_4 x4_5 x4_6 x4_7 x4_8 x4_9 a4_10 c4_10 x4_10 x4_11 x4_12 a4_13 c4_13 x4_13 x5_0 x5_1 x5_2 x5_3 x5_4 x5_5 x5_6 x5_7 x5_8 x5_9 a5_10 c5_10 x5_10 x5_11 x5_12 a5_13 c5_13 x5_13 (h4_10.up (Up.lend 2 rfl) (V61.up (Up.lend 2 rfl))) hc4_10 hm4_10 (h4_13.lend 2 rfl) hc4_13 hm4_13 (h5_10.up (Up.lend 2 rfl) (V61.up (Up.lend 2 rfl))) hc5_10 hm5_10 (h5_13.lend 2 rfl) hc5_13 hm5_13) hs60v) rfl rfl rfl rfl rfl rfl ?_
 intro y59v
 refine simL_valg (q_move rfl rfl) rfl rfl rfl rfl rfl rfl ?_
 refine simL_valg (q_eqb rfl rfl rfl Try.underlying4) rfl rfl rfl rfl rfl rfl ?_
 refine simL_val (q_pick rfl rfl rfl rfl rfl) rfl rfl rfl (simL_nil ?_)
 exact nrm_cut (s := s58v == s39v) () ⟨rfl, trivial⟩ (.sel 2 rfl (.nil _))
 rw [hb62v]
 refine simL_skipd rfl rfl rfl rfl rfl rfl ?_
 refine simL_skipd rfl rfl rfl rfl rfl rfl ?_
 refine simL_skipd rfl rfl rfl rfl rfl rfl ?_
 refine simL_skipd rfl rfl rfl rfl rfl rfl ?_
 refine simL_skipd rfl rfl rfl rfl rfl rfl ?_
 refine simL_skipd rfl rfl rfl rfl rfl rfl ?_
 refine simL_skipd rfl rfl rfl rfl rfl rfl ?_
 refine simL_val (q_pick rfl rfl rfl rfl rfl) rfl rfl rfl (simL_nil ?_)
 exact nrm_cut (s := false) () ⟨rfl, trivial⟩ (.sel 2 rfl (.nil _))
 intro s56v y57v
 refine simL_val (q_asg rfl rfl) rfl rfl rfl (simL_nil (nrm_then (sim_rtn ?_)))
 exact rtn_fn () rfl rfl rfl (.sel 0 rfl (.nil _))

def synodref1_Size.l0 : Nat → Int → Int → Option (Int)
  | 0, _, _ => none
  | k + 1, z7v, z8v => if (128 : Int) ≤ z7v then (synodref1_Size.l0 k (IntKind.i64.wrap (Int.tdiv z7v 128)) (IntKind.i64.wrap (z8v + 1))) else (some z8v)
def synodref1_Size.f (k : Nat) (x0 : Int) : Option (Int) := if ((decide (x0 < (0 : Int))) || (decide ((4611686018427387904 : Int) < x0))) = true then (some 0) else ((synodref1_Size.l0 k x0 1).bind fun s3v => (some s3v))
theorem synodref1_Size.calls (W : World) (F : HA) (k : Nat) (x0 : Int)  :
    Fn Try.prog W 137 [.int .i64 x0] [] F (synodref1_Size.f k x0) (fun (r : Int) (y : Unit) => .int .i64 r) (fun r y => []) := by
 unfold synodref1_Size.f
 refine fn_intro 17 Try.func137 rfl Try.ntmps137 rfl ?_
 refine sim_seq (sim_region ?_)
 refine simL_val (q_asg rfl rfl) rfl rfl rfl (simL_nil (nrm_then (sim_seq (sim_seq (sim_region ?_)))))
 refine simL_val (q_move rfl rfl) rfl rfl rfl ?_
 refine simL_val (q_lss rfl rfl rfl) rfl rfl rfl ?_
 refine simL_val (q_move rfl rfl) rfl rfl rfl ?_
 refine simL_valc (b := decide (x0 < (0 : Int))) (fun hb13v => RQ.sub (E' := [(0, .int .i64 x0)]) ⟨rfl, trivial⟩ (q_move rfl rfl)) rfl rfl rfl rfl rfl ?_
 refine simL_valc (b := decide (x0 < (0 : Int))) (fun hb12v => RQ.sub (E' := [(7, .int .i64 x0)]) ⟨lk_cv rfl hb12v, trivial⟩ (q_gtr rfl rfl rfl)) rfl rfl rfl rfl rfl ?_
 refine simL_val (q_or rfl rfl rfl) rfl rfl rfl (simL_nil (nrm_then ?_))
 refine sim_condb rfl (fun h1v => ?_) (fun h2v => ?_)
 refine sim_seq (sim_region ?_)
 refine simL_val (q_asg rfl rfl) rfl rfl rfl (simL_nil (nrm_then (sim_rtn ?_)))
 refine rtn_then ?_
 exact rtn_fn () rfl rfl rfl (.sel 0 rfl (.nil _))
 refine sim_skip ?_
 refine nrm_then (sim_seq (sim_region ?_))
 refine simL_val (q_asg rfl rfl) rfl rfl rfl (simL_nil (nrm_then ?_))
 refine sim_cut (S := Int) (Unit) (fun s y => [(3, .int .i64 s)]) (fun s y => [F]) ?_ ?_
 refine sim_block ?_
 refine sim_loop (S := Int × Int) (Unit) (fun k s => synodref1_Size.l0 k s.1 s.2) (fun s y => [(0, .int .i64 s.1), (3, .int .i64 s.2)]) (fun s y => [F]) (fun _ => by rw [synodref1_Size.l0]) ?_ k (x0, 1) () ⟨rfl, rfl, trivial⟩ (.sel 0 rfl (.nil _))
 intro k s5v y6v
 refine sim_eq (by rw [synodref1_Size.l0]) ?_
 refine sim_seq (sim_seq (sim_region ?_))
 refine simL_val (q_move rfl rfl) rfl rfl rfl ?_
 refine simL_val (q_geq rfl rfl rfl) rfl rfl rfl (simL_nil (nrm_then ?_))
 refine sim_cond rfl (fun h9v => ?_) (fun h10v => ?_)
 refine sim_skip ?_
 refine nrm_then ?_
 refine sim_block ?_
 refine sim_seq (sim_region ?_)
 refine simL_val (q_move rfl rfl) rfl rfl rfl ?_
 refine simL_val (q_quo rfl rfl rfl (by decide)) rfl rfl rfl ?_
 refine simL_val (q_asg rfl rfl) rfl rfl rfl (simL_nil (nrm_then (sim_region ?_)))
 refine simL_val (q_move rfl rfl) rfl rfl rfl ?_
 refine simL_val (q_add rfl rfl rfl) rfl rfl rfl ?_
 refine simL_val (q_asg rfl rfl) rfl rfl rfl (simL_nil (nrm_block ?_))
 exact nrm_again (s := (IntKind.i64.wrap (Int.tdiv s5v.1 128), IntKind.i64.wrap (s5v.2 + 1))) () ⟨rfl, rfl, trivial⟩ (.sel 0 rfl (.nil _))
 refine sim_exi ?_
 refine exi_then ?_
 refine exi_loop ?_
 refine exi_here ?_
 exact nrm_cut (s := s5v.2) () ⟨rfl, trivial⟩ (.sel 0 rfl (.nil _))
 intro s3v y4v
 refine sim_seq (sim_region ?_)
 refine simL_val (q_move rfl rfl) rfl rfl rfl ?_
 refine simL_val (q_asg rfl rfl) rfl rfl rfl (simL_nil (nrm_then (sim_rtn ?_)))
 exact rtn_fn () rfl rfl rfl (.sel 0 rfl (.nil _))

def synodref1_PutInt.l0 : Nat → Int → List UInt8 → Option (Int × List UInt8)
  | 0, _, _ => none
  | k + 1, z10v, z11v => if (128 : Int) ≤ z10v then (if 0 ≤ IntKind.u8.wrap (IntKind.i64.wrap ((Int.tmod z10v 128) + 128)) ∧ IntKind.u8.wrap (IntKind.i64.wrap ((Int.tmod z10v 128) + 128)) < 256 then (if (z11v.length + ([(byte (IntKind.u8.wrap (IntKind.i64.wrap ((Int.tmod z10v 128) + 128))))] : List UInt8).length) * 1 ≤ 140737488355328 then (synodref1_PutInt.l0 k (IntKind.i64.wrap (Int.tdiv z10v 128)) (z11v ++ ([(byte (IntKind.u8.wrap (IntKind.i64.wrap ((Int.tmod z10v 128) + 128))))] : List UInt8))) else none) else none) else (some (z10v, z11v))
def synodref1_PutInt.f (k : Nat) (x0 : Int) : Option (List UInt8 × Int) := (synodref1_Size.f k x0).bind fun s1v => (if s1v = (0 : Int) then (some (([] : List UInt8), 1)) else ((synodref1_PutInt.l0 k x0 ([] : List UInt8)).bind fun s6v => (if 0 ≤ IntKind.u8.wrap s6v.1 ∧ IntKind.u8.wrap s6v.1 < 256 then (if (s6v.2.length + ([(byte (IntKind.u8.wrap s6v.1))] : List UInt8).length) * 1 ≤ 140737488355328 then (some (s6v.2 ++ ([(byte (IntKind.u8.wrap s6v.1))] : List UInt8), 0)) else none) else none)))
theorem synodref1_PutInt.calls (W : World) (F : HA) (k : Nat) (x0 : Int)  :
    Fn Try.prog W 127 [.int .i64 x0] [] F (synodref1_PutInt.f k x0) (fun (r : List UInt8 × Int) (y : Option Addr × Nat) => .tuple #[.slice y.1 r.1.length y.2, .int .i64 r.2]) (fun r y => [Row 5 1 y.1 r.1.length y.2 (encB r.1)]) := by
 unfold synodref1_PutInt.f
 refine fn_intro 24 Try.func127 rfl Try.ntmps127 rfl ?_
 refine sim_seq (sim_region ?_)
 refine simL_val (q_asg rfl rfl) rfl rfl rfl ?_
 refine simL_val (q_asg rfl rfl) rfl rfl rfl (simL_nil (nrm_then (sim_seq (sim_seq (sim_region ?_)))))
 refine simL_val (q_move rfl rfl) rfl rfl rfl ?_
 refine simL_bind (fun s1v hs3v => ?_)
 refine simL_eff (re_call (vs := [.int .i64 x0]) (cap := []) (A := []) (rst := [F]) rfl rfl rfl rfl rfl rfl Try.call137 (.sel 0 rfl (.nil _)) (synodref1_Size.calls _ _ k x0 ) hs3v) rfl rfl rfl ?_
 intro y2v
 refine simL_val (q_eql rfl rfl rfl) rfl rfl rfl (simL_nil (nrm_then ?_))
 refine sim_cond rfl (fun h4v => ?_) (fun h5v => ?_)
 refine sim_seq (sim_region ?_)
 refine simL_val (q_asg rfl rfl) rfl rfl rfl ?_
 refine simL_val (q_asg rfl rfl) rfl rfl rfl (simL_nil (nrm_then (sim_rtn ?_)))
 refine rtn_then ?_
 exact rtn_fn (none, 0) rfl rfl rfl (.row_nil (.sel 0 rfl (.nil _)))
 refine sim_skip ?_
 refine nrm_then (sim_seq (sim_region ?_))
 refine simL_val (q_asg rfl rfl) rfl rfl rfl (simL_nil (nrm_then ?_))
 refine sim_cut (S := Int × List UInt8) (Option Addr × Nat) (fun s y => [(0, .int .i64 s.1), (4, .slice y.1 s.2.length y.2)]) (fun s y => [Row 5 1 y.1 s.2.length y.2 (encB s.2), F]) ?_ ?_
 refine sim_block ?_
 refine sim_loop (S := Int × List UInt8) (Option Addr × Nat) (fun k s => synodref1_PutInt.l0 k s.1 s.2) (fun s y => [(0, .int .i64 s.1), (4, .slice y.1 s.2.length y.2)]) (fun s y => [Row 5 1 y.1 s.2.length y.2 (encB s.2), F]) (fun _ => by rw [synodref1_PutInt.l0]) ?_ k (x0, ([] : List UInt8)) (none, 0) ⟨rfl, rfl, trivial⟩ (.row_nil (.sel 0 rfl (.nil _)))
 intro k s8v y9v
 refine sim_eq (by rw [synodref1_PutInt.l0]) ?_
 refine sim_seq (sim_seq (sim_region ?_))
 refine simL_val (q_move rfl rfl) rfl rfl rfl ?_
 refine simL_val (q_geq rfl rfl rfl) rfl rfl rfl (simL_nil (nrm_then ?_))
 refine sim_cond rfl (fun h12v => ?_) (fun h13v => ?_)
 refine sim_skip ?_
 refine nrm_then ?_
 refine sim_block ?_
 refine sim_seq (sim_region ?_)
 refine simL_val (q_move rfl rfl) rfl rfl rfl ?_
 refine simL_val (q_move rfl rfl) rfl rfl rfl ?_
 refine simL_val (q_rem rfl rfl rfl (by decide)) rfl rfl rfl ?_
 refine simL_val (q_add rfl rfl rfl) rfl rfl rfl ?_
 refine simL_val (q_conv rfl rfl Try.underlying3 Try.underlying5) rfl rfl rfl ?_
 refine simL_ask (fun hb16v => ?_)
 refine simL_eff (re_litb (cs := [.int .u8 (IntKind.u8.wrap (IntKind.i64.wrap ((Int.tmod s8v.1 128) + 128)))]) ([(byte (IntKind.u8.wrap (IntKind.i64.wrap ((Int.tmod s8v.1 128) + 128))))] : List UInt8) rfl rfl Try.underlying27 elt5 rfl (by kernel_rfl) rfl rfl (byte_lit1 hb16v)) rfl rfl rfl ?_
 intro b15v
 refine simL_ask (fun hb18v => ?_)
 refine simL_eff (re_appendb 1 rfl rfl rfl Try.underlying27 elt5 rfl (Rds.row 0 rfl) hb18v) rfl rfl rfl ?_
 intro y17v
 refine simL_val (q_asg rfl rfl) rfl rfl rfl (simL_nil (nrm_then (sim_region ?_)))
 refine simL_val (q_move rfl rfl) rfl rfl rfl ?_
 refine simL_val (q_quo rfl rfl rfl (by decide)) rfl rfl rfl ?_
 refine simL_val (q_asg rfl rfl) rfl rfl rfl (simL_nil (nrm_block ?_))
 exact nrm_again (s := (IntKind.i64.wrap (Int.tdiv s8v.1 128), s8v.2 ++ ([(byte (IntKind.u8.wrap (IntKind.i64.wrap ((Int.tmod s8v.1 128) + 128))))] : List UInt8))) (y17v.1, y17v.2) ⟨rfl, rfl, trivial⟩ (.sel 1 rfl (.sel 1 rfl (.nil _)))
 refine sim_exi ?_
 refine exi_then ?_
 refine exi_loop ?_
 refine exi_here ?_
 exact nrm_cut (s := (s8v.1, s8v.2)) (y9v.1, y9v.2) ⟨rfl, rfl, trivial⟩ (.sel 0 rfl (.sel 0 rfl (.nil _)))
 intro s6v y7v
 refine sim_seq (sim_region ?_)
 refine simL_val (q_move rfl rfl) rfl rfl rfl ?_
 refine simL_val (q_move rfl rfl) rfl rfl rfl ?_
 refine simL_val (q_conv rfl rfl Try.underlying3 Try.underlying5) rfl rfl rfl ?_
 refine simL_ask (fun hb21v => ?_)
 refine simL_eff (re_litb (cs := [.int .u8 (IntKind.u8.wrap s6v.1)]) ([(byte (IntKind.u8.wrap s6v.1))] : List UInt8) rfl rfl Try.underlying27 elt5 rfl (by kernel_rfl) rfl rfl (byte_lit1 hb21v)) rfl rfl rfl ?_
 intro b20v
 refine simL_ask (fun hb23v => ?_)
 refine simL_eff (re_appendb 1 rfl rfl rfl Try.underlying27 elt5 rfl (Rds.row 0 rfl) hb23v) rfl rfl rfl ?_
 intro y22v
 refine simL_val (q_asg rfl rfl) rfl rfl rfl ?_
 refine simL_val (q_asg rfl rfl) rfl rfl rfl (simL_nil (nrm_then (sim_rtn ?_)))
 exact rtn_fn (y22v.1, y22v.2) rfl rfl rfl (.sel 1 rfl (.sel 1 rfl (.nil _)))

def synodref1_Writer_Int.f (k : Nat) (x0_0 : List UInt8) (x0_1 : Int) (x1 : Int) : Option (List UInt8 × Int) := if x0_1 = (0 : Int) then ((synodref1_PutInt.f k x1).bind fun s3v => (if (x0_0.length + s3v.1.length) * 1 ≤ 140737488355328 then (some (x0_0 ++ s3v.1, s3v.2)) else none)) else (some (x0_0, x0_1))
theorem synodref1_Writer_Int.calls (W : World) (F : HA) (k : Nat) (b0 : Nat) (a0_0 : Option Addr) (c0_0 : Nat) (x0_0 : List UInt8) (x0_1 : Int) (x1 : Int)  :
    Fn Try.prog W 79 [.pointer (some ⟨b0, 0, none⟩), .int .i64 x1] [obj b0 143 [.slice a0_0 x0_0.length c0_0, .int .i64 x0_1], Row 5 1 a0_0 x0_0.length c0_0 (encB x0_0)] F (synodref1_Writer_Int.f k x0_0 x0_1 x1) (fun (r : List UInt8 × Int) (y : Option Addr × Nat) => .tuple #[]) (fun r y => [obj b0 143 [.slice y.1 r.1.length y.2, .int .i64 r.2], Row 5 1 y.1 r.1.length y.2 (encB r.1)]) := by
 unfold synodref1_Writer_Int.f
 refine fn_intro 29 Try.func79 rfl Try.ntmps79 rfl ?_
 refine sim_seq (sim_seq (sim_region ?_))
 refine simL_val (q_move rfl rfl) rfl rfl rfl ?_
 refine simL_val (q_nil rfl rfl) rfl rfl rfl ?_
 refine simL_val (q_fa rfl rfl Try.underlying143 rfl rfl Try.sizeOf3 rfl) rfl rfl rfl ?_
 refine simL_val (q_load rfl rfl Try.isAgg3 (.obj 0 rfl rfl)) rfl rfl rfl ?_
 refine simL_val (q_neq rfl rfl rfl) rfl rfl rfl (simL_nil (nrm_then ?_))
 refine sim_condn rfl (fun h1v => ?_) (fun h2v => ?_)
 refine sim_skip ?_
 refine nrm_then (sim_seq (sim_region ?_))
 refine simL_val (q_move rfl rfl) rfl rfl rfl ?_
 refine simL_bind (fun s3v hs5v => ?_)
 refine simL_eff (re_call (vs := [.int .i64 x1]) (cap := []) (A := []) (rst := [obj b0 143 [.slice a0_0 x0_0.length c0_0, .int .i64 x0_1], Row 5 1 a0_0 x0_0.length c0_0 (encB x0_0), F]) rfl rfl rfl rfl rfl rfl Try.call127 (.sel 0 rfl (.sel 0 rfl (.sel 0 rfl (.nil _)))) (synodref1_PutInt.calls _ _ k x1 ) hs5v) rfl rfl rfl ?_
 intro y4v
 refine simL_val (q_move rfl rfl) rfl rfl rfl ?_
 refine simL_val (q_ext rfl rfl rfl) rfl rfl rfl ?_
 refine simL_val (q_ext rfl rfl rfl) rfl rfl rfl ?_
 refine simL_val (q_asg rfl rfl) rfl rfl rfl ?_
 refine simL_val (q_asg rfl rfl) rfl rfl rfl (simL_nil (nrm_then (sim_seq (sim_region ?_))))
 refine simL_val (q_move rfl rfl) rfl rfl rfl ?_
 refine simL_val (q_move rfl rfl) rfl rfl rfl ?_
 refine simL_val (q_nil rfl rfl) rfl rfl rfl ?_
 refine simL_val (q_fa rfl rfl Try.underlying143 rfl rfl Try.sizeOf3 rfl) rfl rfl rfl ?_
 refine simL_do (re_store 1 rfl rfl rfl Try.sizeOf3 rfl rfl (one_of (by rfl)) rfl rfl) rfl rfl ?_
 intro _
 refine simL_nil (nrm_then (sim_region ?_))
 refine simL_val (q_move rfl rfl) rfl rfl rfl ?_
 refine simL_val (q_move rfl rfl) rfl rfl rfl ?_
 refine simL_val (q_nil rfl rfl) rfl rfl rfl ?_
 refine simL_val (q_fa rfl rfl Try.underlying143 rfl rfl Try.sizeOf27 rfl) rfl rfl rfl ?_
 refine simL_val (q_load rfl rfl Try.isAgg27 (.obj 1 rfl rfl)) rfl rfl rfl ?_
 refine simL_val (q_move rfl rfl) rfl rfl rfl ?_
 refine simL_ask (fun hb7v => ?_)
 refine simL_eff (re_appendb 2 rfl rfl rfl Try.underlying27 elt5 rfl (Rds.row 0 rfl) hb7v) rfl rfl rfl ?_
 intro y6v
 refine simL_val (q_nil rfl rfl) rfl rfl rfl ?_
 refine simL_val (q_fa rfl rfl Try.underlying143 rfl rfl Try.sizeOf27 rfl) rfl rfl rfl ?_
 refine simL_do (re_store 1 rfl rfl rfl Try.sizeOf27 rfl rfl (one_of (by rfl)) rfl rfl) rfl rfl ?_
 intro _
 refine simL_nil ?_
 exact nrm_fn (y6v.1, y6v.2) rfl rfl rfl (.sel 1 rfl (.sel 1 rfl (.sel 1 rfl (.nil _))))
 refine sim_rtn ?_
 refine rtn_then ?_
 exact rtn_fn (a0_0, c0_0) rfl rfl rfl (.sel 0 rfl (.sel 0 rfl (.sel 0 rfl (.nil _))))

def synodref1_Writer_Bytes.f (k : Nat) (x0_0 : List UInt8) (x0_1 : Int) (x1 : List UInt8) (x2 : Int) : Option (List UInt8 × Int) := if x0_1 = (0 : Int) then (if max x2 (0 : Int) < (x1.length : Int) then (some (x0_0, 3)) else ((synodref1_Writer_Int.f k x0_0 x0_1 (x1.length : Int)).bind fun s5v => (if (s5v.1.length + x1.length) * 1 ≤ 140737488355328 then (some (s5v.1 ++ x1, s5v.2)) else none))) else (some (x0_0, x0_1))
theorem synodref1_Writer_Bytes.calls (W : World) (F : HA) (k : Nat) (b0 : Nat) (a0_0 : Option Addr) (c0_0 : Nat) (x0_0 : List UInt8) (x0_1 : Int) (a1 : Option Addr) (c1 : Nat) (x1 : List UInt8) (x2 : Int) (h1 : Rd F a1 (encB x1)) (hc1 : x1.length ≤ c1) (hm1 : c1 ≤ maxLen) :
    Fn Try.prog W 89 [.pointer (some ⟨b0, 0, none⟩), .slice a1 x1.length c1, .int .i64 x2] [obj b0 143 [.slice a0_0 x0_0.length c0_0, .int .i64 x0_1], Row 5 1 a0_0 x0_0.length c0_0 (encB x0_0)] F (synodref1_Writer_Bytes.f k x0_0 x0_1 x1 x2) (fun (r : List UInt8 × Int) (y : Option Addr × Nat) => .tuple #[]) (fun r y => [obj b0 143 [.slice y.1 r.1.length y.2, .int .i64 r.2], Row 5 1 y.1 r.1.length y.2 (encB r.1)]) := by
 unfold synodref1_Writer_Bytes.f
 refine fn_intro 32 Try.func89 rfl Try.ntmps89 rfl ?_
 refine sim_seq (sim_seq (sim_region ?_))
 refine simL_val (q_move rfl rfl) rfl rfl rfl ?_
 refine simL_val (q_nil rfl rfl) rfl rfl rfl ?_
 refine simL_val (q_fa rfl rfl Try.underlying143 rfl rfl Try.sizeOf3 rfl) rfl rfl rfl ?_
 refine simL_val (q_load rfl rfl Try.isAgg3 (.obj 0 rfl rfl)) rfl rfl rfl ?_
 refine simL_val (q_neq rfl rfl rfl) rfl rfl rfl (simL_nil (nrm_then ?_))
 refine sim_condn rfl (fun h1v => ?_) (fun h2v => ?_)
 refine sim_skip ?_
 refine nrm_then (sim_seq (sim_seq (sim_region ?_)))
 refine simL_val (q_move rfl rfl) rfl rfl rfl ?_
 refine simL_val (q_len rfl rfl rfl Try.underlying27) rfl rfl rfl ?_
 refine simL_val (q_move rfl rfl) rfl rfl rfl ?_
 refine simL_val (q_max rfl rfl rfl) rfl rfl rfl ?_
 refine simL_val (q_gtr rfl rfl rfl) rfl rfl rfl (simL_nil (nrm_then ?_))
 refine sim_cond rfl (fun h3v => ?_) (fun h4v => ?_)
 refine sim_seq (sim_region ?_)
 refine simL_val (q_move rfl rfl) rfl rfl rfl ?_
 refine simL_val (q_nil rfl rfl) rfl rfl rfl ?_
 refine simL_val (q_fa rfl rfl Try.underlying143 rfl rfl Try.sizeOf3 rfl) rfl rfl rfl ?_
 refine simL_do (re_store 0 rfl rfl rfl Try.sizeOf3 rfl rfl (one_of (by rfl)) rfl rfl) rfl rfl ?_
 intro _
 refine simL_nil (nrm_then (sim_rtn ?_))
 refine rtn_then ?_
 exact rtn_fn (a0_0, c0_0) rfl rfl rfl (.sel 0 rfl (.sel 0 rfl (.sel 0 rfl (.nil _))))
 refine sim_skip ?_
 refine nrm_then (sim_seq (sim_region ?_))
 refine simL_val (q_move rfl rfl) rfl rfl rfl ?_
 refine simL_val (q_move rfl rfl) rfl rfl rfl ?_
 refine simL_val (q_len rfl rfl rfl Try.underlying27) rfl rfl rfl ?_
 refine simL_bind (fun s5v hs7v => ?_)
 refine simL_eff (re_call (vs := [.pointer (some ⟨b0, 0, none⟩), .int .i64 (x1.length : Int)]) (cap := []) (A := [obj b0 143 [.slice a0_0 x0_0.length c0_0, .int .i64 x0_1], Row 5 1 a0_0 x0_0.length c0_0 (encB x0_0)]) (rst := [F]) rfl rfl rfl rfl rfl rfl Try.call79 (.sel 0 rfl (.sel 0 rfl (.sel 0 rfl (.nil _)))) (synodref1_Writer_Int.calls _ _ k b0 a0_0 c0_0 x0_0 x0_1 (x1.length : Int) ) hs7v) rfl rfl rfl ?_
 intro y6v
 refine simL_nil (nrm_then (sim_region ?_))
 refine simL_val (q_move rfl rfl) rfl rfl rfl ?_
 refine simL_val (q_move rfl rfl) rfl rfl rfl ?_
 refine simL_val (q_nil rfl rfl) rfl rfl rfl ?_
 refine simL_val (q_fa rfl rfl Try.underlying143 rfl rfl Try.sizeOf27 rfl) rfl rfl rfl ?_
 refine simL_val (q_load rfl rfl Try.isAgg27 (.obj 0 rfl rfl)) rfl rfl rfl ?_
 refine simL_val (q_move rfl rfl) rfl rfl rfl ?_
 refine simL_ask (fun hb9v => ?_)
 refine simL_eff (re_appendb 1 rfl rfl rfl Try.underlying27 elt5 rfl (h1.rds 1 rfl) hb9v) rfl rfl rfl ?_
 intro y8v
 refine simL_val (q_nil rfl rfl) rfl rfl rfl ?_
 refine simL_val (q_fa rfl rfl Try.underlying143 rfl rfl Try.sizeOf27 rfl) rfl rfl rfl ?_
 refine simL_do (re_store 0 rfl rfl rfl Try.sizeOf27 rfl rfl (one_of (by rfl)) rfl rfl) rfl rfl ?_
 intro _
 refine simL_nil ?_
 exact nrm_fn (y8v.1, y8v.2) rfl rfl rfl (.sel 0 rfl (.sel 0 rfl (.sel 0 rfl (.nil _))))
 refine sim_rtn ?_
 refine rtn_then ?_
 exact rtn_fn (a0_0, c0_0) rfl rfl rfl (.sel 0 rfl (.sel 0 rfl (.sel 0 rfl (.nil _))))

def synodref1_Writer_Done.f (x0_0 : List UInt8) (x0_1 : Int) : Option (List UInt8 × Int) := if x0_1 = (0 : Int) then (some (x0_0, 0)) else (some (([] : List UInt8), x0_1))
theorem synodref1_Writer_Done.calls (W : World) (F : HA) (G : HA) (hG : Up G F) (b0 : Nat) (a0_0 : Option Addr) (c0_0 : Nat) (x0_0 : List UInt8) (x0_1 : Int) (h0_0 : Rd G a0_0 (encB x0_0)) (hc0_0 : x0_0.length ≤ c0_0) (hm0_0 : c0_0 ≤ maxLen) :
    Fn Try.prog W 80 [.pointer (some ⟨b0, 0, none⟩)] [obj b0 143 [.slice a0_0 x0_0.length c0_0, .int .i64 x0_1]] F (synodref1_Writer_Done.f x0_0 x0_1) (fun (r : List UInt8 × Int) (y : Option Addr × Nat) => .tuple #[.slice y.1 r.1.length y.2, .int .i64 r.2]) (fun r y => [pr (Rd (G) y.1 (encB r.1) ∧ r.1.length ≤ y.2 ∧ y.2 ≤ maxLen), obj b0 143 [.slice a0_0 x0_0.length c0_0, .int .i64 x0_1]]) := by
 unfold synodref1_Writer_Done.f
 refine fn_intro 17 Try.func80 rfl Try.ntmps80 rfl ?_
 refine sim_seq (sim_region ?_)
 refine simL_val (q_asg rfl rfl) rfl rfl rfl ?_
 refine simL_val (q_asg rfl rfl) rfl rfl rfl (simL_nil (nrm_then (sim_seq (sim_seq (sim_region ?_)))))
 refine simL_val (q_move rfl rfl) rfl rfl rfl ?_
 refine simL_val (q_nil rfl rfl) rfl rfl rfl ?_
 refine simL_val (q_fa rfl rfl Try.underlying143 rfl rfl Try.sizeOf3 rfl) rfl rfl rfl ?_
 refine simL_val (q_load rfl rfl Try.isAgg3 (.obj 0 rfl rfl)) rfl rfl rfl ?_
 refine simL_val (q_neq rfl rfl rfl) rfl rfl rfl (simL_nil (nrm_then ?_))
 refine sim_condn rfl (fun h1v => ?_) (fun h2v => ?_)
 refine sim_skip ?_
 refine nrm_then (sim_seq (sim_region ?_))
 refine simL_val (q_move rfl rfl) rfl rfl rfl ?_
 refine simL_val (q_nil rfl rfl) rfl rfl rfl ?_
 refine simL_val (q_fa rfl rfl Try.underlying143 rfl rfl Try.sizeOf27 rfl) rfl rfl rfl ?_
 refine simL_val (q_load rfl rfl Try.isAgg27 (.obj 0 rfl rfl)) rfl rfl rfl ?_
 refine simL_val (q_asg rfl rfl) rfl rfl rfl ?_
 refine simL_val (q_asg rfl rfl) rfl rfl rfl (simL_nil (nrm_then (sim_rtn ?_)))
 exact rtn_fn (a0_0, c0_0) rfl rfl rfl (.pr_in ⟨h0_0, hc0_0, hm0_0⟩ (.sel 0 rfl (.sel 0 rfl (.nil _))))
 refine sim_seq ?_
 refine sim_draw (Γ := Unit) () [[], [0], [0, 1], [0, 1, 2], [], [0, 1, 2, 3, 4]] [] [0, 1, 2, 3, 4, 5] (fun i => [[0], [0], [0], [0], [0], [0]].getD i []) (fun i => [[], [], [], [], [], []].getD i []) (fun γ i => [.pointer (some ⟨b0, 0, none⟩), .pointer (some ⟨b0, 0, none⟩), .pointer (some ⟨b0, 1, none⟩), .int .i64 x0_1, .slice none 0 0, .int .i64 x0_1].getD i undef) (fun j γ => [[obj b0 143 [.slice a0_0 x0_0.length c0_0, .int .i64 x0_1], F]].getD j []) (fun γ => [(2, .slice none 0 0), (3, .int .i64 x0_1)]) mixed (by decide) (by decide) (by decide) (by decide) (by decide) (by decide) (by decide) 17 rfl (by decide) (by decide) (by decide) (Ent.refl _) ?_ ?_ (fun _ => ⟨rfl, rfl, trivial⟩) ?_
 exact (All.cons (fun γ => (All.cons (QOb.plain [(0, .pointer (some ⟨b0, 0, none⟩))] rfl rfl (.o rfl (by decide) .nil) (q_move rfl rfl) rfl) All.nil)) (All.cons (fun γ => (All.cons (QOb.plain [(9, .pointer (some ⟨b0, 0, none⟩))] rfl rfl (.w 0 rfl rfl rfl .nil) (q_nil rfl rfl) rfl) All.nil)) (All.cons (fun γ => (All.cons (QOb.plain [(10, .pointer (some ⟨b0, 0, none⟩))] rfl rfl (.w 1 rfl rfl rfl .nil) (q_fa rfl rfl Try.underlying143 rfl rfl Try.sizeOf3 rfl) rfl) All.nil)) (All.cons (fun γ => (All.cons (QOb.plain [(11, .pointer (some ⟨b0, 1, none⟩))] rfl rfl (.w 2 rfl rfl rfl .nil) (q_load rfl rfl Try.isAgg3 (.obj 0 rfl rfl)) rfl) All.nil)) (All.cons (fun γ => (All.cons (QOb.plain [] rfl rfl .nil (q_asg rfl rfl) rfl) All.nil)) (All.cons (fun γ => (All.cons (QOb.plain [(12, .int .i64 x0_1)] rfl rfl (.w 3 rfl rfl rfl .nil) (q_asg rfl rfl) rfl) All.nil)) All.nil))))))
 exact All.nil
 intro g3v
 refine nrm_then (sim_rtn ?_)
 refine rtn_then ?_
 exact rtn_fn (none, 0) rfl rfl rfl (.pr_in ⟨Rd.nil _ _, Nat.le_refl _, Nat.zero_le _⟩ (.sel 0 rfl (.sel 0 rfl (.nil _))))
def synodref1_Writer_Done.v (x0_0 : List UInt8) (x0_1 : Int) : List UInt8 × Int := (synodref1_Writer_Done.f x0_0 x0_1).getD ([], 0)
theorem synodref1_Writer_Done.tot (x0_0 : List UInt8) (x0_1 : Int) : synodref1_Writer_Done.f x0_0 x0_1 = some (synodref1_Writer_Done.v x0_0 x0_1) := by
  have h : ∃ r, synodref1_Writer_Done.f x0_0 x0_1 = some r := by
    unfold synodref1_Writer_Done.f
    repeat' (first | exact ⟨_, rfl⟩ | split | simp only [Option.bind_some])
  obtain ⟨r, h⟩ := h
  unfold synodref1_Writer_Done.v
  rw [h]; rfl

def synodref1_Writer_Done_s_c0.f (xp0_0 : List UInt8) (xp0_1 : Int) : Option (List UInt8 × Int) := if xp0_1 = (0 : Int) then (some (xp0_0, 0)) else (some (([] : List UInt8), xp0_1))
theorem synodref1_Writer_Done_s_c0.calls (W : World) (F : HA) (G : HA) (hG : Up G F) (bp0 : Nat) (ap0_0 : Option Addr) (cp0_0 : Nat) (xp0_0 : List UInt8) (xp0_1 : Int) (hp0_0 : Rd G ap0_0 (encB xp0_0)) (hcp0_0 : xp0_0.length ≤ cp0_0) (hmp0_0 : cp0_0 ≤ maxLen) :
    Fn Try.prog W 80 [.pointer (some ⟨bp0, 0, none⟩)] [obj bp0 143 [.slice ap0_0 xp0_0.length cp0_0, .int .i64 xp0_1]] F (synodref1_Writer_Done_s_c0.f xp0_0 xp0_1) (fun (r : List UInt8 × Int) (y : Option Addr × Nat) => .tuple #[.slice y.1 r.1.length y.2, .int .i64 r.2]) (fun r y => [pr (Rd (G) y.1 (encB r.1) ∧ r.1.length ≤ y.2 ∧ y.2 ≤ maxLen), obj bp0 143 [.slice ap0_0 xp0_0.length cp0_0, .int .i64 xp0_1]]) := by
 unfold synodref1_Writer_Done_s_c0.f
 refine fn_intro 17 Try.func80 rfl Try.ntmps80 rfl ?_
 refine sim_seq (sim_region ?_)
 refine simL_val (q_asg rfl rfl) rfl rfl rfl ?_
 refine simL_val (q_asg rfl rfl) rfl rfl rfl (simL_nil (nrm_then (sim_seq (sim_seq (sim_region ?_)))))
 refine simL_val (q_move rfl rfl) rfl rfl rfl ?_
 refine simL_val (q_nil rfl rfl) rfl rfl rfl ?_
 refine simL_val (q_fa rfl rfl Try.underlying143 rfl rfl Try.sizeOf3 rfl) rfl rfl rfl ?_
 refine simL_val (q_load rfl rfl Try.isAgg3 (.obj 0 rfl rfl)) rfl rfl rfl ?_
 refine simL_val (q_neq rfl rfl rfl) rfl rfl rfl (simL_nil (nrm_then ?_))
 refine sim_condn rfl (fun h1v => ?_) (fun h2v => ?_)
 refine sim_skip ?_
 refine nrm_then (sim_seq (sim_region ?_))
 refine simL_val (q_move rfl rfl) rfl rfl rfl ?_
 refine simL_val (q_nil rfl rfl) rfl rfl rfl ?_
 refine simL_val (q_fa rfl rfl Try.underlying143 rfl rfl Try.sizeOf27 rfl) rfl rfl rfl ?_
 refine simL_val (q_load rfl rfl Try.isAgg27 (.obj 0 rfl rfl)) rfl rfl rfl ?_
 refine simL_val (q_asg rfl rfl) rfl rfl rfl ?_
 refine simL_val (q_asg rfl rfl) rfl rfl rfl (simL_nil (nrm_then (sim_rtn ?_)))
 exact rtn_fn (ap0_0, cp0_0) rfl rfl rfl (.pr_in ⟨hp0_0, hcp0_0, hmp0_0⟩ (.sel 0 rfl (.sel 0 rfl (.nil _))))
 refine sim_seq ?_
 refine sim_draw (Γ := Unit) () [[], [0], [0, 1], [0, 1, 2], [], [0, 1, 2, 3, 4]] [] [0, 1, 2, 3, 4, 5] (fun i => [[0], [0], [0], [0], [0], [0]].getD i []) (fun i => [[], [], [], [], [], []].getD i []) (fun γ i => [.pointer (some ⟨bp0, 0, none⟩), .pointer (some ⟨bp0, 0, none⟩), .pointer (some ⟨bp0, 1, none⟩), .int .i64 xp0_1, .slice none 0 0, .int .i64 xp0_1].getD i undef) (fun j γ => [[obj bp0 143 [.slice ap0_0 xp0_0.length cp0_0, .int .i64 xp0_1], F]].getD j []) (fun γ => [(2, .slice none 0 0), (3, .int .i64 xp0_1)]) mixed (by decide) (by decide) (by decide) (by decide) (by decide) (by decide) (by decide) 17 rfl (by decide) (by decide) (by decide) (Ent.refl _) ?_ ?_ (fun _ => ⟨rfl, rfl, trivial⟩) ?_
 exact (All.cons (fun γ => (All.cons (QOb.plain [(0, .pointer (some ⟨bp0, 0, none⟩))] rfl rfl (.o rfl (by decide) .nil) (q_move rfl rfl) rfl) All.nil)) (All.cons (fun γ => (All.cons (QOb.plain [(9, .pointer (some ⟨bp0, 0, none⟩))] rfl rfl (.w 0 rfl rfl rfl .nil) (q_nil rfl rfl) rfl) All.nil)) (All.cons (fun γ => (All.cons (QOb.plain [(10, .pointer (some ⟨bp0, 0, none⟩))] rfl rfl (.w 1 rfl rfl rfl .nil) (q_fa rfl rfl Try.underlying143 rfl rfl Try.sizeOf3 rfl) rfl) All.nil)) (All.cons (fun γ => (All.cons (QOb.plain [(11, .pointer (some ⟨bp0, 1, none⟩))] rfl rfl (.w 2 rfl rfl rfl .nil) (q_load rfl rfl Try.isAgg3 (.obj 0 rfl rfl)) rfl) All.nil)) (All.cons (fun γ => (All.cons (QOb.plain [] rfl rfl .nil (q_asg rfl rfl) rfl) All.nil)) (All.cons (fun γ => (All.cons (QOb.plain [(12, .int .i64 xp0_1)] rfl rfl (.w 3 rfl rfl rfl .nil) (q_asg rfl rfl) rfl) All.nil)) All.nil))))))
 exact All.nil
 intro g3v
 refine nrm_then (sim_rtn ?_)
 refine rtn_then ?_
 exact rtn_fn (none, 0) rfl rfl rfl (.pr_in ⟨Rd.nil _ _, Nat.le_refl _, Nat.zero_le _⟩ (.sel 0 rfl (.sel 0 rfl (.nil _))))
def synodref1_Writer_Done_s_c0.v (xp0_0 : List UInt8) (xp0_1 : Int) : List UInt8 × Int := (synodref1_Writer_Done_s_c0.f xp0_0 xp0_1).getD ([], 0)
theorem synodref1_Writer_Done_s_c0.tot (xp0_0 : List UInt8) (xp0_1 : Int) : synodref1_Writer_Done_s_c0.f xp0_0 xp0_1 = some (synodref1_Writer_Done_s_c0.v xp0_0 xp0_1) := by
  have h : ∃ r, synodref1_Writer_Done_s_c0.f xp0_0 xp0_1 = some r := by
    unfold synodref1_Writer_Done_s_c0.f
    repeat' (first | exact ⟨_, rfl⟩ | split | simp only [Option.bind_some])
  obtain ⟨r, h⟩ := h
  unfold synodref1_Writer_Done_s_c0.v
  rw [h]; rfl
end Go.Proofs.Ytdoghfenhoigmaa

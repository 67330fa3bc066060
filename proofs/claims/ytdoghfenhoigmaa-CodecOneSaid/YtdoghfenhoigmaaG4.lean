/- Printed by gen.py: pure functions and the proofs that the Go functions simulate them. Conditions: as each theorem says. -/
import Derived.Test.YtdoghfenhoigmaaG3
namespace Go.Proofs.Ytdoghfenhoigmaa
open Go.RowKit
set_option linter.unusedVariables false
set_option maxRecDepth 20000
set_option maxHeartbeats 2000000
def synodlaw3_CodecOne.f (k : Nat) (x0_0 : Int) (x0_1 : Int) (x0_2 : Int) (x0_3 : Int) (x0_4 : Int) (x0_5 : Int) (x0_6 : Int) (x0_7 : Int) (x0_8 : Int) (x0_9 : Bool) (x0_10 : List (Int × Int × Int × List UInt8)) (x0_11 : Int) (x0_12 : Int) (x0_13 : List UInt8) (x1_0 : Int) (x1_1 : Int) (x1_2 : Int) (x1_3 : Int) (x1_4 : Int) (x1_5 : Int) (x1_6 : Int) (x1_7 : Int) (x1_8 : Int) (x1_9 : Bool) (x1_10 : List (Int × Int × Int × List UInt8)) (x1_11 : Int) (x1_12 : Int) (x1_13 : List UInt8) (x2 : Int) (x3 : Int) : Option (Bool) := (synodlaw3_first.f k).bind fun s3v => ((synodlaw3_slight.f k x0_0 x0_1 x0_2 x0_3 x0_4 x0_5 x0_6 x0_7 x0_8 x0_9 x0_10 x0_11 x0_12 x0_13).bind fun s6v => ((if s6v = true then ((synodlaw3_slight.f k x1_0 x1_1 x1_2 x1_3 x1_4 x1_5 x1_6 x1_7 x1_8 x1_9 x1_10 x1_11 x1_12 x1_13).bind fun s11v => (some s11v)) else (some false)).bind fun s9v => (if ((!s3v) || (!s9v)) = true then (some s3v) else ((codec_Messages_Put.f k x0_0 x0_1 x0_2 x0_3 x0_4 x0_5 x0_6 x0_7 x0_8 x0_9 x0_10 x0_11 x0_12 x0_13).bind fun s19v => ((codec_Messages_Put.f k x1_0 x1_1 x1_2 x1_3 x1_4 x1_5 x1_6 x1_7 x1_8 x1_9 x1_10 x1_11 x1_12 x1_13).bind fun s22v => ((synodref_Num.f s19v.2).bind fun s25v => (if ((!decide (s25v = (0 : Int))) || (decide ((s19v.1.length : Int) = (0 : Int)))) = true then ((synodref_Num.f s19v.2).bind fun s30v => (some (!decide (s30v = (0 : Int))))) else (orR ((synodref_Num.f s22v.2).bind fun s35v => (if s35v = (0 : Int) then ((synodref_SameBytes.f k s19v.1 s22v.1).bind fun s48v => ((synodref_SameMessage.f k x0_0 x0_1 x0_2 x0_3 x0_4 x0_5 x0_6 x0_7 x0_8 x0_9 x0_10 x0_11 x0_12 x0_13 x1_0 x1_1 x1_2 x1_3 x1_4 x1_5 x1_6 x1_7 x1_8 x1_9 x1_10 x1_11 x1_12 x1_13).bind fun s51v => (if (!(s48v == s51v)) = true then (some (.inr false)) else (some (.inl ()))))) else (some (.inl ())))) fun s33v => (if (s19v.1.length : Int) ≠ 0 then (if (s19v.1.length : Int) ≠ 0 then (if 0 ≤ (0 : Int) ∧ (0 : Int) ≤ Int.tmod (IntKind.i64.wrap ((Int.tmod x2 (s19v.1.length : Int)) + (s19v.1.length : Int))) (s19v.1.length : Int) ∧ Int.tmod (IntKind.i64.wrap ((Int.tmod x2 (s19v.1.length : Int)) + (s19v.1.length : Int))) (s19v.1.length : Int) ≤ (s19v.1.length : Int) then ((codec_Messages_Get.f k (cut s19v.1 (0 : Int) (Int.tmod (IntKind.i64.wrap ((Int.tmod x2 (s19v.1.length : Int)) + (s19v.1.length : Int))) (s19v.1.length : Int)))).bind fun s69v => ((synodref_Bytes.f s19v.1).bind fun s80v => (if 0 ≤ x3 ∧ x3 < 256 then (if (s80v.length + ([(byte x3)] : List UInt8).length) * 1 ≤ 140737488355328 then ((codec_Messages_Get.f k (s80v ++ ([(byte x3)] : List UInt8))).bind fun s91v => ((synodref_Num.f s69v.2.2.2.2.2.2.2.2.2.2.2.2.2.2).bind fun s96v => ((if s96v = (0 : Int) then (some false) else ((synodref_Num.f s91v.2.2.2.2.2.2.2.2.2.2.2.2.2.2).bind fun s101v => (some (!decide (s101v = (0 : Int)))))).bind fun s99v => (some s99v)))) else none) else none))) else none) else none) else none)))))))))
theorem synodlaw3_CodecOne.calls (W : World) (F : HA) (k : Nat) (x0_0 : Int) (x0_1 : Int) (x0_2 : Int) (x0_3 : Int) (x0_4 : Int) (x0_5 : Int) (x0_6 : Int) (x0_7 : Int) (x0_8 : Int) (x0_9 : Bool) (a0_10 : Option Addr) (c0_10 : Nat) (x0_10 : List (Int × Int × Int × List UInt8)) (x0_11 : Int) (x0_12 : Int) (a0_13 : Option Addr) (c0_13 : Nat) (x0_13 : List UInt8) (x1_0 : Int) (x1_1 : Int) (x1_2 : Int) (x1_3 : Int) (x1_4 : Int) (x1_5 : Int) (x1_6 : Int) (x1_7 : Int) (x1_8 : Int) (x1_9 : Bool) (a1_10 : Option Addr) (c1_10 : Nat) (x1_10 : List (Int × Int × Int × List UInt8)) (x1_11 : Int) (x1_12 : Int) (a1_13 : Option Addr) (c1_13 : Nat) (x1_13 : List UInt8) (x2 : Int) (x3 : Int) (h0_10 : RdV F 4 (V61 F) a0_10 x0_10) (hc0_10 : x0_10.length ≤ c0_10) (hm0_10 : c0_10 ≤ maxLen) (h0_13 : Rd F a0_13 (encB x0_13)) (hc0_13 : x0_13.length ≤ c0_13) (hm0_13 : c0_13 ≤ maxLen) (h1_10 : RdV F 4 (V61 F) a1_10 x1_10) (hc1_10 : x1_10.length ≤ c1_10) (hm1_10 : c1_10 ≤ maxLen) (h1_13 : Rd F a1_13 (encB x1_13)) (hc1_13 : x1_13.length ≤ c1_13) (hm1_13 : c1_13 ≤ maxLen) :
    Fn Try.prog W 11 [.agg #[.int .i64 x0_0, .int .i64 x0_1, .int .i64 x0_2, .int .i64 x0_3, .int .i64 x0_4, .int .i64 x0_5, .int .i64 x0_6, .int .i64 x0_7, .int .i64 x0_8, .bool x0_9, .slice a0_10 x0_10.length c0_10, .int .i64 x0_11, .int .i64 x0_12, .slice a0_13 x0_13.length c0_13], .agg #[.int .i64 x1_0, .int .i64 x1_1, .int .i64 x1_2, .int .i64 x1_3, .int .i64 x1_4, .int .i64 x1_5, .int .i64 x1_6, .int .i64 x1_7, .int .i64 x1_8, .bool x1_9, .slice a1_10 x1_10.length c1_10, .int .i64 x1_11, .int .i64 x1_12, .slice a1_13 x1_13.length c1_13], .int .i64 x2, .int .u8 x3] [] F (synodlaw3_CodecOne.f k x0_0 x0_1 x0_2 x0_3 x0_4 x0_5 x0_6 x0_7 x0_8 x0_9 x0_10 x0_11 x0_12 x0_13 x1_0 x1_1 x1_2 x1_3 x1_4 x1_5 x1_6 x1_7 x1_8 x1_9 x1_10 x1_11 x1_12 x1_13 x2 x3) (fun (r : Bool) (y : Unit) => .bool r) (fun r y => []) := by
 unfold synodlaw3_CodecOne.f
 refine fn_intro 108 Try.func11 rfl Try.ntmps11 rfl ?_
 refine sim_seq (sim_region ?_)
 refine simL_eff (re_box rfl rfl rfl) rfl rfl rfl ?_
 intro b1v
 refine simL_eff (re_box rfl rfl rfl) rfl rfl rfl ?_
 intro b2v
 refine simL_val (q_asg rfl rfl) rfl rfl rfl (simL_nil (nrm_then (sim_seq (sim_region ?_))))
 refine simL_bind (fun s3v hs5v => ?_)
 refine simL_eff (re_call (vs := []) (cap := []) (A := []) (rst := [obj b2v 31 [.int .i64 x1_0, .int .i64 x1_1, .int .i64 x1_2, .int .i64 x1_3, .int .i64 x1_4, .int .i64 x1_5, .int .i64 x1_6, .int .i64 x1_7, .int .i64 x1_8, .bool x1_9, .slice a1_10 x1_10.length c1_10, .int .i64 x1_11, .int .i64 x1_12, .slice a1_13 x1_13.length c1_13], obj b1v 31 [.int .i64 x0_0, .int .i64 x0_1, .int .i64 x0_2, .int .i64 x0_3, .int .i64 x0_4, .int .i64 x0_5, .int .i64 x0_6, .int .i64 x0_7, .int .i64 x0_8, .bool x0_9, .slice a0_10 x0_10.length c0_10, .int .i64 x0_11, .int .i64 x0_12, .slice a0_13 x0_13.length c0_13], F]) rfl rfl rfl rfl rfl rfl Try.call14 (.sel 0 rfl (.sel 0 rfl (.sel 0 rfl (.nil _)))) (synodlaw3_first.calls _ _ k  ) hs5v) rfl rfl rfl ?_
 intro y4v
 refine simL_val (q_asg rfl rfl) rfl rfl rfl (simL_nil (nrm_then (sim_seq (sim_region ?_))))
 refine simL_val (q_loado 1 rfl rfl Try.isAgg31 Try.sizeOf31 rfl rfl) rfl rfl rfl ?_
 refine simL_bind (fun s6v hs8v => ?_)
 refine simL_eff (re_call (vs := [.agg #[.int .i64 x0_0, .int .i64 x0_1, .int .i64 x0_2, .int .i64 x0_3, .int .i64 x0_4, .int .i64 x0_5, .int .i64 x0_6, .int .i64 x0_7, .int .i64 x0_8, .bool x0_9, .slice a0_10 x0_10.length c0_10, .int .i64 x0_11, .int .i64 x0_12, .slice a0_13 x0_13.length c0_13]]) (cap := []) (A := []) (rst := [obj b2v 31 [.int .i64 x1_0, .int .i64 x1_1, .int .i64 x1_2, .int .i64 x1_3, .int .i64 x1_4, .int .i64 x1_5, .int .i64 x1_6, .int .i64 x1_7, .int .i64 x1_8, .bool x1_9, .slice a1_10 x1_10.length c1_10, .int .i64 x1_11, .int .i64 x1_12, .slice a1_13 x1_13.length c1_13], obj b1v 31 [.int .i64 x0_0, .int .i64 x0_1, .int .i64 x0_2, .int .i64 x0_3, .int .i64 x0_4, .int .i64 x0_5, .int .i64 x0_6, .int .i64 x0_7, .int .i64 x0_8, .bool x0_9, .slice a0_10 x0_10.length c0_10, .int .i64 x0_11, .int .i64 x0_12, .slice a0_13 x0_13.length c0_13], F]) rfl rfl rfl rfl rfl rfl Try.call15 (.sel 0 rfl (.sel 0 rfl (.sel 0 rfl (.nil _)))) (synodlaw3_slight.calls _ _ k x0_0 x0_1 x0_2 x0_3 x0_4 x0_5 x0_6 x0_7 x0_8 x0_9 a0_10 c0_10 x0_10 x0_11 x0_12 a0_13 c0_13 x0_13 (h0_10.up (Up.lend 2 rfl) (V61.up (Up.lend 2 rfl))) hc0_10 hm0_10 (h0_13.lend 2 rfl) hc0_13 hm0_13) hs8v) rfl rfl rfl ?_
 intro y7v
 refine simL_val (q_move rfl rfl) rfl rfl rfl ?_
 refine simL_cut' 3 (S := Bool) (Unit) (fun s y => [(2, .int .i64 x2), (3, .int .u8 x3), (4, .pointer (some ⟨b1v, 0, none⟩)), (5, .pointer (some ⟨b2v, 0, none⟩)), (9, .bool s3v), (28, .bool s)]) (fun s y => [obj b2v 31 [.int .i64 x1_0, .int .i64 x1_1, .int .i64 x1_2, .int .i64 x1_3, .int .i64 x1_4, .int .i64 x1_5, .int .i64 x1_6, .int .i64 x1_7, .int .i64 x1_8, .bool x1_9, .slice a1_10 x1_10.length c1_10, .int .i64 x1_11, .int .i64 x1_12, .slice a1_13 x1_13.length c1_13], obj b1v 31 [.int .i64 x0_0, .int .i64 x0_1, .int .i64 x0_2, .int .i64 x0_3, .int .i64 x0_4, .int .i64 x0_5, .int .i64 x0_6, .int .i64 x0_7, .int .i64 x0_8, .bool x0_9, .slice a0_10 x0_10.length c0_10, .int .i64 x0_11, .int .i64 x0_12, .slice a0_13 x0_13.length c0_13], F]) ?_ ?_
 refine simL_caseb (fun hb14v => ?_) (fun hb15v => ?_)
 rw [hb14v]
 refine simL_valg (q_loado 0 rfl rfl Try.isAgg31 Try.sizeOf31 rfl rfl) rfl rfl rfl rfl rfl rfl ?_
 refine simL_bind (fun s11v hs13v => ?_)
 refine simL_effg (re_call (vs := [.agg #[.int .i64 x1_0, .int .i64 x1_1, .int .i64 x1_2, .int .i64 x1_3, .int .i64 x1_4, .int .i64 x1_5, .int .i64 x1_6, .int .i64 x1_7, .int .i64 x1_8, .bool x1_9, .slice a1_10 x1_10.length c1_10, .int .i64 x1_11, .int .i64 x1_12, .slice a1_13 x1_13.length c1_13]]) (cap := []) (A := []) (rst := [obj b2v 31 [.int .i64 x1_0, .int .i64 x1_1, .int .i64 x1_2, .int .i64 x1_3, .int .i64 x1_4, .int .i64 x1_5, .int .i64 x1_6, .int .i64 x1_7, .int .i64 x1_8, .bool x1_9, .slice a1_10 x1_10.length c1_10, .int .i64 x1_11, .int .i64 x1_12, .slice a1_13 x1_13.length c1_13], obj b1v 31 [.int .i64 x0_0, .int .i64 x0_1, .int .i64 x0_2, .int .i64 x0_3, .int .i64 x0_4, .int .i64 x0_5, .int .i64 x0_6, .int .i64 x0_7, .int .i64 x0_8, .bool x0_9, .slice a0_10 x0_10.length c0_10, .int .i64 x0_11, .int .i64 x0_12, .slice a0_13 x0_13.length c0_13], F]) rfl rfl rfl rfl rfl rfl Try.call15 (.sel 0 rfl (.sel 0 rfl (.sel 0 rfl (.nil _)))) (synodlaw3_slight.calls _ _ k x1_0 x1_1 x1_2 x1_3 x1_4 x1_5 x1_6 x1_7 x1_8 x1_9 a1_10 c1_10 x1_10 x1_11 x1_12 a1_13 c1_13 x1_13 (h1_10.up (Up.lend 2 rfl) (V61.up (Up.lend 2 rfl))) hc1_10 hm1_10 (h1_13.lend 2 rfl) hc1_13 hm1_13) hs13v) rfl rfl rfl rfl rfl rfl ?_
 intro y12v
 refine simL_val (q_pick rfl rfl rfl rfl rfl) rfl rfl rfl (simL_nil ?_)
 exact nrm_cut (s := s11v) () ⟨rfl, rfl, rfl, rfl, rfl, rfl, trivial⟩ (.sel 0 rfl (.sel 0 rfl (.sel 0 rfl (.nil _))))
 rw [hb15v]
 refine simL_skipd rfl rfl rfl rfl rfl rfl ?_
 refine simL_skipd rfl rfl rfl rfl rfl rfl ?_
 refine simL_val (q_pick rfl rfl rfl rfl rfl) rfl rfl rfl (simL_nil ?_)
 exact nrm_cut (s := false) () ⟨rfl, rfl, rfl, rfl, rfl, rfl, trivial⟩ (.sel 0 rfl (.sel 0 rfl (.sel 0 rfl (.nil _))))
 intro s9v y10v
 refine simL_val (q_asg rfl rfl) rfl rfl rfl (simL_nil (nrm_then (sim_seq (sim_seq (sim_region ?_)))))
 refine simL_val (q_move rfl rfl) rfl rfl rfl ?_
 refine simL_val (q_not rfl rfl) rfl rfl rfl ?_
 refine simL_val (q_move rfl rfl) rfl rfl rfl ?_
 refine simL_valc (b := !s3v) (fun hb110v => RQ.sub (E' := [(10, .bool s9v)]) ⟨rfl, trivial⟩ (q_move rfl rfl)) rfl rfl rfl rfl rfl ?_
 refine simL_valc (b := !s3v) (fun hb109v => RQ.sub (E' := [(32, .bool s9v)]) ⟨lk_cv rfl hb109v, trivial⟩ (q_not rfl rfl)) rfl rfl rfl rfl rfl ?_
 refine simL_val (q_or rfl rfl rfl) rfl rfl rfl (simL_nil (nrm_then ?_))
 refine sim_condb rfl (fun h16v => ?_) (fun h17v => ?_)
 refine sim_seq (sim_region ?_)
 refine simL_val (q_move rfl rfl) rfl rfl rfl ?_
 refine simL_val (q_asg rfl rfl) rfl rfl rfl (simL_nil (nrm_then (sim_rtn ?_)))
 refine rtn_then ?_
 exact rtn_fn () rfl rfl rfl (.sel 2 rfl (.nil _))
 refine sim_skip ?_
 refine nrm_then (sim_seq (sim_region ?_))
 refine simL_val (q_build (v := .agg #[]) rfl rfl (fun _ => by kernel_rfl)) rfl rfl rfl ?_
 refine simL_eff (re_alloc rfl Try.zeroValue44 rfl) rfl rfl rfl ?_
 intro b18v
 refine simL_do (re_store 0 rfl rfl rfl Try.sizeOf44 rfl rfl (one_of (by rfl)) rfl rfl) rfl rfl ?_
 intro _
 refine simL_nil (nrm_then (sim_seq (sim_region ?_)))
 refine simL_val (q_loado 0 rfl rfl Try.isAgg44 Try.sizeOf44 rfl rfl) rfl rfl rfl ?_
 refine simL_val (q_loado 2 rfl rfl Try.isAgg31 Try.sizeOf31 rfl rfl) rfl rfl rfl ?_
 refine simL_bind (fun s19v hs21v => ?_)
 refine simL_eff (re_call (vs := [.agg #[], .agg #[.int .i64 x0_0, .int .i64 x0_1, .int .i64 x0_2, .int .i64 x0_3, .int .i64 x0_4, .int .i64 x0_5, .int .i64 x0_6, .int .i64 x0_7, .int .i64 x0_8, .bool x0_9, .slice a0_10 x0_10.length c0_10, .int .i64 x0_11, .int .i64 x0_12, .slice a0_13 x0_13.length c0_13]]) (cap := []) (A := []) (rst := [obj b18v 44 [], obj b2v 31 [.int .i64 x1_0, .int .i64 x1_1, .int .i64 x1_2, .int .i64 x1_3, .int .i64 x1_4, .int .i64 x1_5, .int .i64 x1_6, .int .i64 x1_7, .int .i64 x1_8, .bool x1_9, .slice a1_10 x1_10.length c1_10, .int .i64 x1_11, .int .i64 x1_12, .slice a1_13 x1_13.length c1_13], obj b1v 31 [.int .i64 x0_0, .int .i64 x0_1, .int .i64 x0_2, .int .i64 x0_3, .int .i64 x0_4, .int .i64 x0_5, .int .i64 x0_6, .int .i64 x0_7, .int .i64 x0_8, .bool x0_9, .slice a0_10 x0_10.length c0_10, .int .i64 x0_11, .int .i64 x0_12, .slice a0_13 x0_13.length c0_13], F]) rfl rfl rfl rfl rfl rfl Try.call57 (.sel 0 rfl (.sel 0 rfl (.sel 0 rfl (.sel 0 rfl (.nil _))))) (codec_Messages_Put.calls _ _ k x0_0 x0_1 x0_2 x0_3 x0_4 x0_5 x0_6 x0_7 x0_8 x0_9 a0_10 c0_10 x0_10 x0_11 x0_12 a0_13 c0_13 x0_13 (h0_10.up (Up.lend 3 rfl) (V61.up (Up.lend 3 rfl))) hc0_10 hm0_10 (h0_13.lend 3 rfl) hc0_13 hm0_13) hs21v) rfl rfl rfl ?_
 intro y20v
 refine simL_val (q_move rfl rfl) rfl rfl rfl ?_
 refine simL_val (q_ext rfl rfl rfl) rfl rfl rfl ?_
 refine simL_val (q_ext rfl rfl rfl) rfl rfl rfl ?_
 refine simL_val (q_asg rfl rfl) rfl rfl rfl ?_
 refine simL_val (q_asg rfl rfl) rfl rfl rfl (simL_nil (nrm_then (sim_seq (sim_region ?_))))
 refine simL_val (q_loado 1 rfl rfl Try.isAgg44 Try.sizeOf44 rfl rfl) rfl rfl rfl ?_
 refine simL_val (q_loado 2 rfl rfl Try.isAgg31 Try.sizeOf31 rfl rfl) rfl rfl rfl ?_
 refine simL_bind (fun s22v hs24v => ?_)
 refine simL_eff (re_call (vs := [.agg #[], .agg #[.int .i64 x1_0, .int .i64 x1_1, .int .i64 x1_2, .int .i64 x1_3, .int .i64 x1_4, .int .i64 x1_5, .int .i64 x1_6, .int .i64 x1_7, .int .i64 x1_8, .bool x1_9, .slice a1_10 x1_10.length c1_10, .int .i64 x1_11, .int .i64 x1_12, .slice a1_13 x1_13.length c1_13]]) (cap := []) (A := []) (rst := [Row 5 1 y20v.1 s19v.1.length y20v.2 (encB s19v.1), obj b18v 44 [], obj b2v 31 [.int .i64 x1_0, .int .i64 x1_1, .int .i64 x1_2, .int .i64 x1_3, .int .i64 x1_4, .int .i64 x1_5, .int .i64 x1_6, .int .i64 x1_7, .int .i64 x1_8, .bool x1_9, .slice a1_10 x1_10.length c1_10, .int .i64 x1_11, .int .i64 x1_12, .slice a1_13 x1_13.length c1_13], obj b1v 31 [.int .i64 x0_0, .int .i64 x0_1, .int .i64 x0_2, .int .i64 x0_3, .int .i64 x0_4, .int .i64 x0_5, .int .i64 x0_6, .int .i64 x0_7, .int .i64 x0_8, .bool x0_9, .slice a0_10 x0_10.length c0_10, .int .i64 x0_11, .int .i64 x0_12, .slice a0_13 x0_13.length c0_13], F]) rfl rfl rfl rfl rfl rfl Try.call57 (.sel 0 rfl (.sel 0 rfl (.sel 0 rfl (.sel 0 rfl (.sel 0 rfl (.nil _)))))) (codec_Messages_Put.calls _ _ k x1_0 x1_1 x1_2 x1_3 x1_4 x1_5 x1_6 x1_7 x1_8 x1_9 a1_10 c1_10 x1_10 x1_11 x1_12 a1_13 c1_13 x1_13 (h1_10.up (Up.lend 4 rfl) (V61.up (Up.lend 4 rfl))) hc1_10 hm1_10 (h1_13.lend 4 rfl) hc1_13 hm1_13) hs24v) rfl rfl rfl ?_
 intro y23v
 refine simL_val (q_move rfl rfl) rfl rfl rfl ?_
 refine simL_val (q_ext rfl rfl rfl) rfl rfl rfl ?_
 refine simL_val (q_ext rfl rfl rfl) rfl rfl rfl ?_
 refine simL_val (q_asg rfl rfl) rfl rfl rfl ?_
 refine simL_val (q_asg rfl rfl) rfl rfl rfl (simL_nil (nrm_then (sim_seq (sim_seq (sim_region ?_)))))
 refine simL_val (q_move rfl rfl) rfl rfl rfl ?_
 refine simL_bind (fun s25v hs27v => ?_)
 refine simL_eff (re_call (vs := [.int .i64 s19v.2]) (cap := []) (A := []) (rst := [Row 5 1 y23v.1 s22v.1.length y23v.2 (encB s22v.1), Row 5 1 y20v.1 s19v.1.length y20v.2 (encB s19v.1), obj b18v 44 [], obj b2v 31 [.int .i64 x1_0, .int .i64 x1_1, .int .i64 x1_2, .int .i64 x1_3, .int .i64 x1_4, .int .i64 x1_5, .int .i64 x1_6, .int .i64 x1_7, .int .i64 x1_8, .bool x1_9, .slice a1_10 x1_10.length c1_10, .int .i64 x1_11, .int .i64 x1_12, .slice a1_13 x1_13.length c1_13], obj b1v 31 [.int .i64 x0_0, .int .i64 x0_1, .int .i64 x0_2, .int .i64 x0_3, .int .i64 x0_4, .int .i64 x0_5, .int .i64 x0_6, .int .i64 x0_7, .int .i64 x0_8, .bool x0_9, .slice a0_10 x0_10.length c0_10, .int .i64 x0_11, .int .i64 x0_12, .slice a0_13 x0_13.length c0_13], F]) rfl rfl rfl rfl rfl rfl Try.call26 (.sel 0 rfl (.sel 0 rfl (.sel 0 rfl (.sel 0 rfl (.sel 0 rfl (.sel 0 rfl (.nil _))))))) (synodref_Num.calls _ _ s19v.2 ) hs27v) rfl rfl rfl ?_
 intro y26v
 refine simL_val (q_neq rfl rfl rfl) rfl rfl rfl ?_
 refine simL_val (q_move rfl rfl) rfl rfl rfl ?_
 refine simL_valc (b := !decide (s25v = (0 : Int))) (fun hb108v => RQ.sub (E' := [(12, .slice y20v.1 s19v.1.length y20v.2)]) ⟨rfl, trivial⟩ (q_move rfl rfl)) rfl rfl rfl rfl rfl ?_
 refine simL_valc (b := !decide (s25v = (0 : Int))) (fun hb107v => RQ.sub (E' := [(53, .slice y20v.1 s19v.1.length y20v.2)]) ⟨lk_cv rfl hb107v, trivial⟩ (q_len rfl rfl rfl Try.underlying27)) rfl rfl rfl rfl rfl ?_
 refine simL_valc (b := !decide (s25v = (0 : Int))) (fun hb106v => RQ.sub (E' := [(54, .int .i64 (s19v.1.length : Int))]) ⟨lk_cv rfl hb106v, trivial⟩ (q_eql rfl rfl rfl)) rfl rfl rfl rfl rfl ?_
 refine simL_val (q_or rfl rfl rfl) rfl rfl rfl (simL_nil (nrm_then ?_))
 refine sim_condb rfl (fun h28v => ?_) (fun h29v => ?_)
 refine sim_seq (sim_region ?_)
 refine simL_val (q_move rfl rfl) rfl rfl rfl ?_
 refine simL_bind (fun s30v hs32v => ?_)
 refine simL_eff (re_call (vs := [.int .i64 s19v.2]) (cap := []) (A := []) (rst := [Row 5 1 y23v.1 s22v.1.length y23v.2 (encB s22v.1), Row 5 1 y20v.1 s19v.1.length y20v.2 (encB s19v.1), obj b18v 44 [], obj b2v 31 [.int .i64 x1_0, .int .i64 x1_1, .int .i64 x1_2, .int .i64 x1_3, .int .i64 x1_4, .int .i64 x1_5, .int .i64 x1_6, .int .i64 x1_7, .int .i64 x1_8, .bool x1_9, .slice a1_10 x1_10.length c1_10, .int .i64 x1_11, .int .i64 x1_12, .slice a1_13 x1_13.length c1_13], obj b1v 31 [.int .i64 x0_0, .int .i64 x0_1, .int .i64 x0_2, .int .i64 x0_3, .int .i64 x0_4, .int .i64 x0_5, .int .i64 x0_6, .int .i64 x0_7, .int .i64 x0_8, .bool x0_9, .slice a0_10 x0_10.length c0_10, .int .i64 x0_11, .int .i64 x0_12, .slice a0_13 x0_13.length c0_13], F]) rfl rfl rfl rfl rfl rfl Try.call26 (.sel 0 rfl (.sel 0 rfl (.sel 0 rfl (.sel 0 rfl (.sel 0 rfl (.sel 0 rfl (.nil _))))))) (synodref_Num.calls _ _ s19v.2 ) hs32v) rfl rfl rfl ?_
 intro y31v
 refine simL_val (q_neq rfl rfl rfl) rfl rfl rfl ?_
 refine simL_val (q_asg rfl rfl) rfl rfl rfl (simL_nil (nrm_then (sim_rtn ?_)))
 refine rtn_then ?_
 exact rtn_fn () rfl rfl rfl (.sel 5 rfl (.nil _))
 refine sim_skip ?_
 refine nrm_then ?_
 refine sim_cutR (S := Unit) (Unit) (fun s y => [(2, .int .i64 x2), (3, .int .u8 x3), (11, .pointer (some ⟨b18v, 0, none⟩)), (12, .slice y20v.1 s19v.1.length y20v.2)]) (fun s y => [obj b18v 44 [], Row 5 1 y20v.1 s19v.1.length y20v.2 (encB s19v.1), F]) ?_ ?_
 refine sim_seq (sim_region ?_)
 refine simL_val (q_move rfl rfl) rfl rfl rfl ?_
 refine simL_bind (fun s35v hs37v => ?_)
 refine simL_eff (re_call (vs := [.int .i64 s22v.2]) (cap := []) (A := []) (rst := [Row 5 1 y23v.1 s22v.1.length y23v.2 (encB s22v.1), Row 5 1 y20v.1 s19v.1.length y20v.2 (encB s19v.1), obj b18v 44 [], obj b2v 31 [.int .i64 x1_0, .int .i64 x1_1, .int .i64 x1_2, .int .i64 x1_3, .int .i64 x1_4, .int .i64 x1_5, .int .i64 x1_6, .int .i64 x1_7, .int .i64 x1_8, .bool x1_9, .slice a1_10 x1_10.length c1_10, .int .i64 x1_11, .int .i64 x1_12, .slice a1_13 x1_13.length c1_13], obj b1v 31 [.int .i64 x0_0, .int .i64 x0_1, .int .i64 x0_2, .int .i64 x0_3, .int .i64 x0_4, .int .i64 x0_5, .int .i64 x0_6, .int .i64 x0_7, .int .i64 x0_8, .bool x0_9, .slice a0_10 x0_10.length c0_10, .int .i64 x0_11, .int .i64 x0_12, .slice a0_13 x0_13.length c0_13], F]) rfl rfl rfl rfl rfl rfl Try.call26 (.sel 0 rfl (.sel 0 rfl (.sel 0 rfl (.sel 0 rfl (.sel 0 rfl (.sel 0 rfl (.nil _))))))) (synodref_Num.calls _ _ s22v.2 ) hs37v) rfl rfl rfl ?_
 intro y36v
 refine simL_val (q_eql rfl rfl rfl) rfl rfl rfl (simL_nil (nrm_then ?_))
 refine sim_cond rfl (fun h38v => ?_) (fun h39v => ?_)
 refine sim_seq (sim_region ?_)
 refine simL_val (q_move rfl rfl) rfl rfl rfl ?_
 refine simL_val (q_move rfl rfl) rfl rfl rfl ?_
 refine simL_bind (fun s48v hs50v => ?_)
 refine simL_lend 1 rfl (fun hq40v hq41v hq42v hq43v => ?_)
 refine simL_lend 0 rfl (fun hq44v hq45v hq46v hq47v => ?_)
 refine simL_eff (re_call (vs := [.slice y20v.1 s19v.1.length y20v.2, .slice y23v.1 s22v.1.length y23v.2]) (cap := []) (A := []) (rst := [Row 5 1 y23v.1 s22v.1.length y23v.2 (encB s22v.1), Row 5 1 y20v.1 s19v.1.length y20v.2 (encB s19v.1), obj b18v 44 [], obj b2v 31 [.int .i64 x1_0, .int .i64 x1_1, .int .i64 x1_2, .int .i64 x1_3, .int .i64 x1_4, .int .i64 x1_5, .int .i64 x1_6, .int .i64 x1_7, .int .i64 x1_8, .bool x1_9, .slice a1_10 x1_10.length c1_10, .int .i64 x1_11, .int .i64 x1_12, .slice a1_13 x1_13.length c1_13], obj b1v 31 [.int .i64 x0_0, .int .i64 x0_1, .int .i64 x0_2, .int .i64 x0_3, .int .i64 x0_4, .int .i64 x0_5, .int .i64 x0_6, .int .i64 x0_7, .int .i64 x0_8, .bool x0_9, .slice a0_10 x0_10.length c0_10, .int .i64 x0_11, .int .i64 x0_12, .slice a0_13 x0_13.length c0_13], F]) rfl rfl rfl rfl rfl rfl Try.call25 (.sel 0 rfl (.sel 0 rfl (.sel 0 rfl (.sel 0 rfl (.sel 0 rfl (.sel 0 rfl (.nil _))))))) (synodref_SameBytes.calls _ _ k y20v.1 y20v.2 s19v.1 y23v.1 y23v.2 s22v.1 (hq40v.lend 1 rfl) hq41v hq42v (hq44v.lend 0 rfl) hq45v hq46v) hs50v) rfl rfl rfl ?_
 intro y49v
 refine simL_val (q_asg rfl rfl) rfl rfl rfl (simL_nil (nrm_then (sim_seq (sim_region ?_))))
 refine simL_val (q_loado 4 rfl rfl Try.isAgg31 Try.sizeOf31 rfl rfl) rfl rfl rfl ?_
 refine simL_val (q_loado 3 rfl rfl Try.isAgg31 Try.sizeOf31 rfl rfl) rfl rfl rfl ?_
 refine simL_bind (fun s51v hs53v => ?_)
 refine simL_eff (re_call (vs := [.agg #[.int .i64 x0_0, .int .i64 x0_1, .int .i64 x0_2, .int .i64 x0_3, .int .i64 x0_4, .int .i64 x0_5, .int .i64 x0_6, .int .i64 x0_7, .int .i64 x0_8, .bool x0_9, .slice a0_10 x0_10.length c0_10, .int .i64 x0_11, .int .i64 x0_12, .slice a0_13 x0_13.length c0_13], .agg #[.int .i64 x1_0, .int .i64 x1_1, .int .i64 x1_2, .int .i64 x1_3, .int .i64 x1_4, .int .i64 x1_5, .int .i64 x1_6, .int .i64 x1_7, .int .i64 x1_8, .bool x1_9, .slice a1_10 x1_10.length c1_10, .int .i64 x1_11, .int .i64 x1_12, .slice a1_13 x1_13.length c1_13]]) (cap := []) (A := []) (rst := [Row 5 1 y23v.1 s22v.1.length y23v.2 (encB s22v.1), Row 5 1 y20v.1 s19v.1.length y20v.2 (encB s19v.1), obj b18v 44 [], obj b2v 31 [.int .i64 x1_0, .int .i64 x1_1, .int .i64 x1_2, .int .i64 x1_3, .int .i64 x1_4, .int .i64 x1_5, .int .i64 x1_6, .int .i64 x1_7, .int .i64 x1_8, .bool x1_9, .slice a1_10 x1_10.length c1_10, .int .i64 x1_11, .int .i64 x1_12, .slice a1_13 x1_13.length c1_13], obj b1v 31 [.int .i64 x0_0, .int .i64 x0_1, .int .i64 x0_2, .int .i64 x0_3, .int .i64 x0_4, .int .i64 x0_5, .int .i64 x0_6, .int .i64 x0_7, .int .i64 x0_8, .bool x0_9, .slice a0_10 x0_10.length c0_10, .int .i64 x0_11, .int .i64 x0_12, .slice a0_13 x0_13.length c0_13], F]) rfl rfl rfl rfl rfl rfl Try.call18 (.sel 0 rfl (.sel 0 rfl (.sel 0 rfl (.sel 0 rfl (.sel 0 rfl (.sel 0 rfl (.nil _))))))) (synodref_SameMessage.calls _ _ k x0_0 x0_1 x0_2 x0_3 x0_4 x0_5 x0_6 x0_7 x0_8 x0_9 a0_10 c0_10 x0_10 x0_11 x0_12 a0_13 c0_13 x0_13 x1_0 x1_1 x1_2 x1_3 x1_4 x1_5 x1_6 x1_7 x1_8 x1_9 a1_10 c1_10 x1_10 x1_11 x1_12 a1_13 c1_13 x1_13 (h0_10.up (Up.lend 5 rfl) (V61.up (Up.lend 5 rfl))) hc0_10 hm0_10 (h0_13.lend 5 rfl) hc0_13 hm0_13 (h1_10.up (Up.lend 5 rfl) (V61.up (Up.lend 5 rfl))) hc1_10 hm1_10 (h1_13.lend 5 rfl) hc1_13 hm1_13) hs53v) rfl rfl rfl ?_
 intro y52v
 refine simL_val (q_asg rfl rfl) rfl rfl rfl (simL_nil (nrm_then (sim_seq (sim_region ?_))))
 refine simL_val (q_move rfl rfl) rfl rfl rfl ?_
 refine simL_val (q_move rfl rfl) rfl rfl rfl ?_
 refine simL_val (q_neb rfl rfl rfl Try.underlying4) rfl rfl rfl (simL_nil (nrm_then ?_))
 refine sim_condb rfl (fun h54v => ?_) (fun h55v => ?_)
 refine sim_seq (sim_region ?_)
 refine simL_val (q_asg rfl rfl) rfl rfl rfl (simL_nil (nrm_then (sim_rtn ?_)))
 refine rtn_cutR ?_
 exact rtn_fn () rfl rfl rfl (.sel 5 rfl (.nil _))
 refine sim_skip ?_
 exact nrm_cutR (s := ()) () ⟨rfl, rfl, rfl, rfl, trivial⟩ (.sel 2 rfl (.sel 1 rfl (.sel 3 rfl (.nil _))))
 refine sim_skip ?_
 exact nrm_cutR (s := ()) () ⟨rfl, rfl, rfl, rfl, trivial⟩ (.sel 2 rfl (.sel 1 rfl (.sel 3 rfl (.nil _))))
 intro s33v y34v
 refine sim_seq (sim_region ?_)
 refine simL_val (q_move rfl rfl) rfl rfl rfl ?_
 refine simL_val (q_move rfl rfl) rfl rfl rfl ?_
 refine simL_val (q_len rfl rfl rfl Try.underlying27) rfl rfl rfl ?_
 refine simL_ask (fun hb56v => ?_)
 refine simL_val (q_rem rfl rfl rfl hb56v) rfl rfl rfl ?_
 refine simL_val (q_move rfl rfl) rfl rfl rfl ?_
 refine simL_val (q_len rfl rfl rfl Try.underlying27) rfl rfl rfl ?_
 refine simL_val (q_add rfl rfl rfl) rfl rfl rfl ?_
 refine simL_val (q_move rfl rfl) rfl rfl rfl ?_
 refine simL_val (q_len rfl rfl rfl Try.underlying27) rfl rfl rfl ?_
 refine simL_ask (fun hb57v => ?_)
 refine simL_val (q_rem rfl rfl rfl hb57v) rfl rfl rfl ?_
 refine simL_val (q_asg rfl rfl) rfl rfl rfl (simL_nil (nrm_then (sim_seq ?_)))
 refine sim_ask (fun hb58v => ?_)
 refine sim_lend 1 rfl (fun hq65v hq66v hq67v hq68v => ?_)
 obtain ⟨a59v, c60v, hS61v, hr62v, hc63v, hm64v⟩ := slice_pre (lo := (0 : Int)) (hi := Int.tmod (IntKind.i64.wrap ((Int.tmod x2 (s19v.1.length : Int)) + (s19v.1.length : Int))) (s19v.1.length : Int)) hq65v hq66v hb58v
 refine sim_bind (fun s69v hs71v => ?_)
 refine sim_drawI (Γ := (Option Addr × Nat × HA × Option Addr × Nat) × Nat) ((none, 0, tt, none, 0), 0) [[], [], [], [1, 2], [0, 1, 2, 3], [0, 1, 2, 3, 4], [0, 1, 2, 3, 4, 5], [0, 1, 2, 3, 4, 5], [], [0, 1, 2, 3, 4, 5, 6, 8], [0, 1, 2, 3, 4, 5, 6, 7, 8, 9]] [4, 8, 9] [0, 1, 2, 3, 5, 6, 7, 10] [[], [4], [8], [4, 8], [4, 8, 9]] 4 (fun i => [[0, 2], [0, 2], [0, 2], [0, 2], [0, 2], [1, 3], [1, 3], [1, 3, 4], [0, 1], [3], [4]].getD i []) (fun i s => ([[], [], [], [], [1, 0, 3, 0, 0], [], [], [], [2, 3, 0, 0, 0], [0, 0, 0, 4, 0], []].getD i []).getD s 0) (fun i => [[], [], [], [], [0, 1, 2, 3, 8], [], [], [], [0, 1, 2, 3, 4, 5, 6, 7], [0, 1, 2, 3, 4, 5, 6, 7, 8], []].getD i []) (fun γ i => [.agg #[], .slice y20v.1 s19v.1.length y20v.2, .int .i64 (Int.tmod (IntKind.i64.wrap ((Int.tmod x2 (s19v.1.length : Int)) + (s19v.1.length : Int))) (s19v.1.length : Int)), .slice a59v ((cut s19v.1 (0 : Int) (Int.tmod (IntKind.i64.wrap ((Int.tmod x2 (s19v.1.length : Int)) + (s19v.1.length : Int))) (s19v.1.length : Int))).length) c60v, .tuple #[.agg #[.int .i64 s69v.1, .int .i64 s69v.2.1, .int .i64 s69v.2.2.1, .int .i64 s69v.2.2.2.1, .int .i64 s69v.2.2.2.2.1, .int .i64 s69v.2.2.2.2.2.1, .int .i64 s69v.2.2.2.2.2.2.1, .int .i64 s69v.2.2.2.2.2.2.2.1, .int .i64 s69v.2.2.2.2.2.2.2.2.1, .bool s69v.2.2.2.2.2.2.2.2.2.1, .slice γ.1.1 s69v.2.2.2.2.2.2.2.2.2.2.1.length γ.1.2.1, .int .i64 s69v.2.2.2.2.2.2.2.2.2.2.2.1, .int .i64 s69v.2.2.2.2.2.2.2.2.2.2.2.2.1, .slice γ.1.2.2.2.1 s69v.2.2.2.2.2.2.2.2.2.2.2.2.2.1.length γ.1.2.2.2.2], .int .i64 s69v.2.2.2.2.2.2.2.2.2.2.2.2.2.2], .tuple #[.agg #[.int .i64 s69v.1, .int .i64 s69v.2.1, .int .i64 s69v.2.2.1, .int .i64 s69v.2.2.2.1, .int .i64 s69v.2.2.2.2.1, .int .i64 s69v.2.2.2.2.2.1, .int .i64 s69v.2.2.2.2.2.2.1, .int .i64 s69v.2.2.2.2.2.2.2.1, .int .i64 s69v.2.2.2.2.2.2.2.2.1, .bool s69v.2.2.2.2.2.2.2.2.2.1, .slice γ.1.1 s69v.2.2.2.2.2.2.2.2.2.2.1.length γ.1.2.1, .int .i64 s69v.2.2.2.2.2.2.2.2.2.2.2.1, .int .i64 s69v.2.2.2.2.2.2.2.2.2.2.2.2.1, .slice γ.1.2.2.2.1 s69v.2.2.2.2.2.2.2.2.2.2.2.2.2.1.length γ.1.2.2.2.2], .int .i64 s69v.2.2.2.2.2.2.2.2.2.2.2.2.2.2], .agg #[.int .i64 s69v.1, .int .i64 s69v.2.1, .int .i64 s69v.2.2.1, .int .i64 s69v.2.2.2.1, .int .i64 s69v.2.2.2.2.1, .int .i64 s69v.2.2.2.2.2.1, .int .i64 s69v.2.2.2.2.2.2.1, .int .i64 s69v.2.2.2.2.2.2.2.1, .int .i64 s69v.2.2.2.2.2.2.2.2.1, .bool s69v.2.2.2.2.2.2.2.2.2.1, .slice γ.1.1 s69v.2.2.2.2.2.2.2.2.2.2.1.length γ.1.2.1, .int .i64 s69v.2.2.2.2.2.2.2.2.2.2.2.1, .int .i64 s69v.2.2.2.2.2.2.2.2.2.2.2.2.1, .slice γ.1.2.2.2.1 s69v.2.2.2.2.2.2.2.2.2.2.2.2.2.1.length γ.1.2.2.2.2], .int .i64 s69v.2.2.2.2.2.2.2.2.2.2.2.2.2.2, .pointer (some ⟨γ.2, 0, none⟩), undef, .int .i64 s69v.2.2.2.2.2.2.2.2.2.2.2.2.2.2].getD i undef) (fun j γ => [[obj b18v 44 [], Row 5 1 y20v.1 s19v.1.length y20v.2 (encB s19v.1), F], [RowV 61 4 (V61 (γ.1.2.2.1)) γ.1.1 s69v.2.2.2.2.2.2.2.2.2.2.1 γ.1.2.1, γ.1.2.2.1, Row 5 1 γ.1.2.2.2.1 s69v.2.2.2.2.2.2.2.2.2.2.2.2.2.1.length γ.1.2.2.2.2 (encB s69v.2.2.2.2.2.2.2.2.2.2.2.2.2.1), obj b18v 44 [], Row 5 1 y20v.1 s19v.1.length y20v.2 (encB s19v.1), F], [obj γ.2 31 [.int .i64 0, .int .i64 0, .int .i64 0, .int .i64 0, .int .i64 0, .int .i64 0, .int .i64 0, .int .i64 0, .int .i64 0, .bool false, .slice none 0 0, .int .i64 0, .int .i64 0, .slice none 0 0], obj b18v 44 [], Row 5 1 y20v.1 s19v.1.length y20v.2 (encB s19v.1), F], [obj γ.2 31 [.int .i64 0, .int .i64 0, .int .i64 0, .int .i64 0, .int .i64 0, .int .i64 0, .int .i64 0, .int .i64 0, .int .i64 0, .bool false, .slice none 0 0, .int .i64 0, .int .i64 0, .slice none 0 0], RowV 61 4 (V61 (γ.1.2.2.1)) γ.1.1 s69v.2.2.2.2.2.2.2.2.2.2.1 γ.1.2.1, γ.1.2.2.1, Row 5 1 γ.1.2.2.2.1 s69v.2.2.2.2.2.2.2.2.2.2.2.2.2.1.length γ.1.2.2.2.2 (encB s69v.2.2.2.2.2.2.2.2.2.2.2.2.2.1), obj b18v 44 [], Row 5 1 y20v.1 s19v.1.length y20v.2 (encB s19v.1), F], [obj γ.2 31 [.int .i64 s69v.1, .int .i64 s69v.2.1, .int .i64 s69v.2.2.1, .int .i64 s69v.2.2.2.1, .int .i64 s69v.2.2.2.2.1, .int .i64 s69v.2.2.2.2.2.1, .int .i64 s69v.2.2.2.2.2.2.1, .int .i64 s69v.2.2.2.2.2.2.2.1, .int .i64 s69v.2.2.2.2.2.2.2.2.1, .bool s69v.2.2.2.2.2.2.2.2.2.1, .slice γ.1.1 s69v.2.2.2.2.2.2.2.2.2.2.1.length γ.1.2.1, .int .i64 s69v.2.2.2.2.2.2.2.2.2.2.2.1, .int .i64 s69v.2.2.2.2.2.2.2.2.2.2.2.2.1, .slice γ.1.2.2.2.1 s69v.2.2.2.2.2.2.2.2.2.2.2.2.2.1.length γ.1.2.2.2.2], RowV 61 4 (V61 (γ.1.2.2.1)) γ.1.1 s69v.2.2.2.2.2.2.2.2.2.2.1 γ.1.2.1, γ.1.2.2.1, Row 5 1 γ.1.2.2.2.1 s69v.2.2.2.2.2.2.2.2.2.2.2.2.2.1.length γ.1.2.2.2.2 (encB s69v.2.2.2.2.2.2.2.2.2.2.2.2.2.1), obj b18v 44 [], Row 5 1 y20v.1 s19v.1.length y20v.2 (encB s19v.1), F]].getD j []) (fun γ => [(3, .int .u8 x3), (11, .pointer (some ⟨b18v, 0, none⟩)), (12, .slice y20v.1 s19v.1.length y20v.2), (19, .int .i64 s69v.2.2.2.2.2.2.2.2.2.2.2.2.2.2)]) mixed (by decide) (by decide) (by decide) (by decide) (by decide) (by decide) 108 rfl (by decide) (by decide) (by decide) (by decide) (by decide) (by decide) (Ent.refl _) ?_ ?_ (fun _ => ⟨rfl, rfl, rfl, rfl, trivial⟩) ?_
 exact (All.cons (fun γ => (All.cons (QOb.plain [(11, .pointer (some ⟨b18v, 0, none⟩))] rfl rfl (.o rfl (by decide) .nil) (q_loado 0 rfl rfl Try.isAgg44 Try.sizeOf44 rfl rfl) rfl) (All.cons (QOb.plain [(11, .pointer (some ⟨b18v, 0, none⟩))] rfl rfl (.o rfl (by decide) .nil) (q_loado 1 rfl rfl Try.isAgg44 Try.sizeOf44 rfl rfl) rfl) All.nil))) (All.cons (fun γ => (All.cons (QOb.plain [(12, .slice y20v.1 s19v.1.length y20v.2)] rfl rfl (.o rfl (by decide) .nil) (q_move rfl rfl) rfl) (All.cons (QOb.plain [(12, .slice y20v.1 s19v.1.length y20v.2)] rfl rfl (.o rfl (by decide) .nil) (q_move rfl rfl) rfl) All.nil))) (All.cons (fun γ => (All.cons (QOb.plain [(2, .int .i64 (Int.tmod (IntKind.i64.wrap ((Int.tmod x2 (s19v.1.length : Int)) + (s19v.1.length : Int))) (s19v.1.length : Int)))] rfl rfl (.o rfl (by decide) .nil) (q_move rfl rfl) rfl) (All.cons (QOb.plain [(2, .int .i64 (Int.tmod (IntKind.i64.wrap ((Int.tmod x2 (s19v.1.length : Int)) + (s19v.1.length : Int))) (s19v.1.length : Int)))] rfl rfl (.o rfl (by decide) .nil) (q_move rfl rfl) rfl) All.nil))) (All.cons (fun γ => (All.cons (QOb.plain [(84, .slice y20v.1 s19v.1.length y20v.2), (85, .int .i64 (Int.tmod (IntKind.i64.wrap ((Int.tmod x2 (s19v.1.length : Int)) + (s19v.1.length : Int))) (s19v.1.length : Int)))] rfl rfl (.w 1 rfl rfl rfl (.w 2 rfl rfl rfl .nil)) (q_sub_ro (l := s19v.1) (lo' := (0 : Int)) (hi' := Int.tmod (IntKind.i64.wrap ((Int.tmod x2 (s19v.1.length : Int)) + (s19v.1.length : Int))) (s19v.1.length : Int)) rfl rfl rfl rfl Try.underlying27 Try.sizeOf5 (.inr ⟨_, rfl⟩) (.inl ⟨rfl, rfl⟩) hb58v hq66v hS61v) rfl) (All.cons (QOb.plain [(84, .slice y20v.1 s19v.1.length y20v.2), (85, .int .i64 (Int.tmod (IntKind.i64.wrap ((Int.tmod x2 (s19v.1.length : Int)) + (s19v.1.length : Int))) (s19v.1.length : Int)))] rfl rfl (.w 1 rfl rfl rfl (.w 2 rfl rfl rfl .nil)) (q_sub_ro (l := s19v.1) (lo' := (0 : Int)) (hi' := Int.tmod (IntKind.i64.wrap ((Int.tmod x2 (s19v.1.length : Int)) + (s19v.1.length : Int))) (s19v.1.length : Int)) rfl rfl rfl rfl Try.underlying27 Try.sizeOf5 (.inr ⟨_, rfl⟩) (.inl ⟨rfl, rfl⟩) hb58v hq66v hS61v) rfl) All.nil))) (All.cons (fun γ => (All.cons (QOb.plain [(87, .tuple #[.agg #[.int .i64 s69v.1, .int .i64 s69v.2.1, .int .i64 s69v.2.2.1, .int .i64 s69v.2.2.2.1, .int .i64 s69v.2.2.2.2.1, .int .i64 s69v.2.2.2.2.2.1, .int .i64 s69v.2.2.2.2.2.2.1, .int .i64 s69v.2.2.2.2.2.2.2.1, .int .i64 s69v.2.2.2.2.2.2.2.2.1, .bool s69v.2.2.2.2.2.2.2.2.2.1, .slice γ.1.1 s69v.2.2.2.2.2.2.2.2.2.2.1.length γ.1.2.1, .int .i64 s69v.2.2.2.2.2.2.2.2.2.2.2.1, .int .i64 s69v.2.2.2.2.2.2.2.2.2.2.2.2.1, .slice γ.1.2.2.2.1 s69v.2.2.2.2.2.2.2.2.2.2.2.2.2.1.length γ.1.2.2.2.2], .int .i64 s69v.2.2.2.2.2.2.2.2.2.2.2.2.2.2])] rfl rfl (.w 4 rfl rfl rfl .nil) (q_move rfl rfl) rfl) (All.cons (QOb.plain [(87, .tuple #[.agg #[.int .i64 s69v.1, .int .i64 s69v.2.1, .int .i64 s69v.2.2.1, .int .i64 s69v.2.2.2.1, .int .i64 s69v.2.2.2.2.1, .int .i64 s69v.2.2.2.2.2.1, .int .i64 s69v.2.2.2.2.2.2.1, .int .i64 s69v.2.2.2.2.2.2.2.1, .int .i64 s69v.2.2.2.2.2.2.2.2.1, .bool s69v.2.2.2.2.2.2.2.2.2.1, .slice γ.1.1 s69v.2.2.2.2.2.2.2.2.2.2.1.length γ.1.2.1, .int .i64 s69v.2.2.2.2.2.2.2.2.2.2.2.1, .int .i64 s69v.2.2.2.2.2.2.2.2.2.2.2.2.1, .slice γ.1.2.2.2.1 s69v.2.2.2.2.2.2.2.2.2.2.2.2.2.1.length γ.1.2.2.2.2], .int .i64 s69v.2.2.2.2.2.2.2.2.2.2.2.2.2.2])] rfl rfl (.w 4 rfl rfl rfl .nil) (q_move rfl rfl) rfl) All.nil))) (All.cons (fun γ => (All.cons (QOb.plain [(82, .tuple #[.agg #[.int .i64 s69v.1, .int .i64 s69v.2.1, .int .i64 s69v.2.2.1, .int .i64 s69v.2.2.2.1, .int .i64 s69v.2.2.2.2.1, .int .i64 s69v.2.2.2.2.2.1, .int .i64 s69v.2.2.2.2.2.2.1, .int .i64 s69v.2.2.2.2.2.2.2.1, .int .i64 s69v.2.2.2.2.2.2.2.2.1, .bool s69v.2.2.2.2.2.2.2.2.2.1, .slice γ.1.1 s69v.2.2.2.2.2.2.2.2.2.2.1.length γ.1.2.1, .int .i64 s69v.2.2.2.2.2.2.2.2.2.2.2.1, .int .i64 s69v.2.2.2.2.2.2.2.2.2.2.2.2.1, .slice γ.1.2.2.2.1 s69v.2.2.2.2.2.2.2.2.2.2.2.2.2.1.length γ.1.2.2.2.2], .int .i64 s69v.2.2.2.2.2.2.2.2.2.2.2.2.2.2])] rfl rfl (.w 5 rfl rfl rfl .nil) (q_ext rfl rfl rfl) rfl) (All.cons (QOb.plain [(82, .tuple #[.agg #[.int .i64 s69v.1, .int .i64 s69v.2.1, .int .i64 s69v.2.2.1, .int .i64 s69v.2.2.2.1, .int .i64 s69v.2.2.2.2.1, .int .i64 s69v.2.2.2.2.2.1, .int .i64 s69v.2.2.2.2.2.2.1, .int .i64 s69v.2.2.2.2.2.2.2.1, .int .i64 s69v.2.2.2.2.2.2.2.2.1, .bool s69v.2.2.2.2.2.2.2.2.2.1, .slice γ.1.1 s69v.2.2.2.2.2.2.2.2.2.2.1.length γ.1.2.1, .int .i64 s69v.2.2.2.2.2.2.2.2.2.2.2.1, .int .i64 s69v.2.2.2.2.2.2.2.2.2.2.2.2.1, .slice γ.1.2.2.2.1 s69v.2.2.2.2.2.2.2.2.2.2.2.2.2.1.length γ.1.2.2.2.2], .int .i64 s69v.2.2.2.2.2.2.2.2.2.2.2.2.2.2])] rfl rfl (.w 5 rfl rfl rfl .nil) (q_ext rfl rfl rfl) rfl) All.nil))) (All.cons (fun γ => (All.cons (QOb.plain [(82, .tuple #[.agg #[.int .i64 s69v.1, .int .i64 s69v.2.1, .int .i64 s69v.2.2.1, .int .i64 s69v.2.2.2.1, .int .i64 s69v.2.2.2.2.1, .int .i64 s69v.2.2.2.2.2.1, .int .i64 s69v.2.2.2.2.2.2.1, .int .i64 s69v.2.2.2.2.2.2.2.1, .int .i64 s69v.2.2.2.2.2.2.2.2.1, .bool s69v.2.2.2.2.2.2.2.2.2.1, .slice γ.1.1 s69v.2.2.2.2.2.2.2.2.2.2.1.length γ.1.2.1, .int .i64 s69v.2.2.2.2.2.2.2.2.2.2.2.1, .int .i64 s69v.2.2.2.2.2.2.2.2.2.2.2.2.1, .slice γ.1.2.2.2.1 s69v.2.2.2.2.2.2.2.2.2.2.2.2.2.1.length γ.1.2.2.2.2], .int .i64 s69v.2.2.2.2.2.2.2.2.2.2.2.2.2.2])] rfl rfl (.w 5 rfl rfl rfl .nil) (q_ext rfl rfl rfl) rfl) (All.cons (QOb.plain [(82, .tuple #[.agg #[.int .i64 s69v.1, .int .i64 s69v.2.1, .int .i64 s69v.2.2.1, .int .i64 s69v.2.2.2.1, .int .i64 s69v.2.2.2.2.1, .int .i64 s69v.2.2.2.2.2.1, .int .i64 s69v.2.2.2.2.2.2.1, .int .i64 s69v.2.2.2.2.2.2.2.1, .int .i64 s69v.2.2.2.2.2.2.2.2.1, .bool s69v.2.2.2.2.2.2.2.2.2.1, .slice γ.1.1 s69v.2.2.2.2.2.2.2.2.2.2.1.length γ.1.2.1, .int .i64 s69v.2.2.2.2.2.2.2.2.2.2.2.1, .int .i64 s69v.2.2.2.2.2.2.2.2.2.2.2.2.1, .slice γ.1.2.2.2.1 s69v.2.2.2.2.2.2.2.2.2.2.2.2.2.1.length γ.1.2.2.2.2], .int .i64 s69v.2.2.2.2.2.2.2.2.2.2.2.2.2.2])] rfl rfl (.w 5 rfl rfl rfl .nil) (q_ext rfl rfl rfl) rfl) (All.cons (QOb.plain [(82, .tuple #[.agg #[.int .i64 s69v.1, .int .i64 s69v.2.1, .int .i64 s69v.2.2.1, .int .i64 s69v.2.2.2.1, .int .i64 s69v.2.2.2.2.1, .int .i64 s69v.2.2.2.2.2.1, .int .i64 s69v.2.2.2.2.2.2.1, .int .i64 s69v.2.2.2.2.2.2.2.1, .int .i64 s69v.2.2.2.2.2.2.2.2.1, .bool s69v.2.2.2.2.2.2.2.2.2.1, .slice γ.1.1 s69v.2.2.2.2.2.2.2.2.2.2.1.length γ.1.2.1, .int .i64 s69v.2.2.2.2.2.2.2.2.2.2.2.1, .int .i64 s69v.2.2.2.2.2.2.2.2.2.2.2.2.1, .slice γ.1.2.2.2.1 s69v.2.2.2.2.2.2.2.2.2.2.2.2.2.1.length γ.1.2.2.2.2], .int .i64 s69v.2.2.2.2.2.2.2.2.2.2.2.2.2.2])] rfl rfl (.w 5 rfl rfl rfl .nil) (q_ext rfl rfl rfl) rfl) All.nil)))) (All.cons (fun γ => (All.cons (QOb.plain [(89, .int .i64 s69v.2.2.2.2.2.2.2.2.2.2.2.2.2.2)] rfl rfl (.w 7 rfl rfl rfl .nil) (q_asg rfl rfl) rfl) All.nil)) All.nil))))))))
 exact (All.cons (fun γ => (All.cons (EObI.mk (Z := Option Addr × Nat × HA × Option Addr × Nat) [(83, .agg #[]), (86, .slice a59v ((cut s19v.1 (0 : Int) (Int.tmod (IntKind.i64.wrap ((Int.tmod x2 (s19v.1.length : Int)) + (s19v.1.length : Int))) (s19v.1.length : Int))).length) c60v)] (fun z => (z, γ.2)) rfl rfl (.w 0 rfl rfl rfl (.w 3 rfl rfl rfl .nil)) (re_call (vs := [.agg #[], .slice a59v ((cut s19v.1 (0 : Int) (Int.tmod (IntKind.i64.wrap ((Int.tmod x2 (s19v.1.length : Int)) + (s19v.1.length : Int))) (s19v.1.length : Int))).length) c60v]) (cap := []) (A := []) (rst := [obj b18v 44 [], Row 5 1 y20v.1 s19v.1.length y20v.2 (encB s19v.1), F]) rfl rfl rfl rfl rfl rfl Try.call60 (.sel 0 rfl (.sel 0 rfl (.sel 0 rfl (.nil _)))) (codec_Messages_Get.calls _ _ k a59v c60v (cut s19v.1 (0 : Int) (Int.tmod (IntKind.i64.wrap ((Int.tmod x2 (s19v.1.length : Int)) + (s19v.1.length : Int))) (s19v.1.length : Int))) (hr62v.lend 1 rfl) hc63v (Nat.le_trans hm64v hq67v)) hs71v) (fun _ => ⟨rfl, rfl, rfl, rfl, rfl, trivial⟩) (fun _ => .inr rfl) (fun z => (.sel 0 rfl (.sel 0 rfl (.sel 0 rfl (.sel 0 rfl (.sel 0 rfl (.sel 0 rfl (.nil _))))))))) (All.cons (EObI.mk (Z := Option Addr × Nat × HA × Option Addr × Nat) [(83, .agg #[]), (86, .slice a59v ((cut s19v.1 (0 : Int) (Int.tmod (IntKind.i64.wrap ((Int.tmod x2 (s19v.1.length : Int)) + (s19v.1.length : Int))) (s19v.1.length : Int))).length) c60v)] (fun z => (z, γ.2)) rfl rfl (.w 0 rfl rfl rfl (.w 3 rfl rfl rfl .nil)) (re_call (vs := [.agg #[], .slice a59v ((cut s19v.1 (0 : Int) (Int.tmod (IntKind.i64.wrap ((Int.tmod x2 (s19v.1.length : Int)) + (s19v.1.length : Int))) (s19v.1.length : Int))).length) c60v]) (cap := []) (A := []) (rst := [obj γ.2 31 [.int .i64 0, .int .i64 0, .int .i64 0, .int .i64 0, .int .i64 0, .int .i64 0, .int .i64 0, .int .i64 0, .int .i64 0, .bool false, .slice none 0 0, .int .i64 0, .int .i64 0, .slice none 0 0], obj b18v 44 [], Row 5 1 y20v.1 s19v.1.length y20v.2 (encB s19v.1), F]) rfl rfl rfl rfl rfl rfl Try.call60 (.sel 0 rfl (.sel 0 rfl (.sel 0 rfl (.sel 0 rfl (.nil _))))) (codec_Messages_Get.calls _ _ k a59v c60v (cut s19v.1 (0 : Int) (Int.tmod (IntKind.i64.wrap ((Int.tmod x2 (s19v.1.length : Int)) + (s19v.1.length : Int))) (s19v.1.length : Int))) (hr62v.lend 2 rfl) hc63v (Nat.le_trans hm64v hq67v)) hs71v) (fun _ => ⟨rfl, rfl, rfl, rfl, rfl, trivial⟩) (fun _ => .inr rfl) (fun z => (.sel 3 rfl (.sel 0 rfl (.sel 0 rfl (.sel 0 rfl (.sel 0 rfl (.sel 0 rfl (.sel 0 rfl (.nil _)))))))))) All.nil))) (All.cons (fun γ => (All.cons (EObI.mk (Z := Nat) [] (fun z => (γ.1, z)) rfl rfl .nil (re_alloc rfl Try.zeroValue31 rfl) (fun _ => ⟨rfl, rfl, rfl, rfl, rfl, rfl, rfl, rfl, trivial⟩) (fun _ => .inr rfl) (fun z => (.sel 0 rfl (.sel 0 rfl (.sel 0 rfl (.sel 0 rfl (.nil _))))))) (All.cons (EObI.mk (Z := Nat) [] (fun z => (γ.1, z)) rfl rfl .nil (re_alloc rfl Try.zeroValue31 rfl) (fun _ => ⟨rfl, rfl, rfl, rfl, rfl, rfl, rfl, rfl, trivial⟩) (fun _ => .inr rfl) (fun z => (.sel 0 rfl (.sel 0 rfl (.sel 0 rfl (.sel 0 rfl (.sel 0 rfl (.sel 0 rfl (.sel 0 rfl (.nil _)))))))))) All.nil))) (All.cons (fun γ => (All.cons (EObI.mk (Z := Unit) [(18, .pointer (some ⟨γ.2, 0, none⟩)), (88, .agg #[.int .i64 s69v.1, .int .i64 s69v.2.1, .int .i64 s69v.2.2.1, .int .i64 s69v.2.2.2.1, .int .i64 s69v.2.2.2.2.1, .int .i64 s69v.2.2.2.2.2.1, .int .i64 s69v.2.2.2.2.2.2.1, .int .i64 s69v.2.2.2.2.2.2.2.1, .int .i64 s69v.2.2.2.2.2.2.2.2.1, .bool s69v.2.2.2.2.2.2.2.2.2.1, .slice γ.1.1 s69v.2.2.2.2.2.2.2.2.2.2.1.length γ.1.2.1, .int .i64 s69v.2.2.2.2.2.2.2.2.2.2.2.1, .int .i64 s69v.2.2.2.2.2.2.2.2.2.2.2.2.1, .slice γ.1.2.2.2.1 s69v.2.2.2.2.2.2.2.2.2.2.2.2.2.1.length γ.1.2.2.2.2])] (fun z => (γ.1, γ.2)) rfl rfl (.w 8 rfl rfl rfl (.w 6 rfl rfl rfl .nil)) (re_store 0 rfl rfl rfl Try.sizeOf31 rfl rfl (one_of (by rfl)) rfl rfl) (fun _ => ⟨rfl, rfl, rfl, rfl, rfl, rfl, rfl, rfl, rfl, trivial⟩) (fun _ => .inl rfl) (fun z => (.sel 0 rfl (.sel 0 rfl (.sel 0 rfl (.sel 0 rfl (.sel 0 rfl (.sel 0 rfl (.sel 0 rfl (.nil _)))))))))) All.nil)) All.nil)))
 intro g73v
 refine nrm_then (sim_seq ?_)
 refine sim_openV 1 rfl (fun rs74v hl75v => ?_)
 refine sim_bind (fun s80v hs82v => ?_)
 refine sim_ask (fun hb84v => ?_)
 refine sim_ask (fun hb86v => ?_)
 refine sim_bind (fun s91v hs93v => ?_)
 refine sim_drawI (Γ := (Option Addr × Nat) × Nat × (Option Addr × Nat) × (Option Addr × Nat × HA × Option Addr × Nat) × Nat) ((none, 0), 0, (none, 0), (none, 0, tt, none, 0), 0) [[], [], [1], [], [3], [1, 2, 3, 4], [0, 1, 2, 3, 4, 5], [0, 1, 2, 3, 4, 5, 6], [0, 1, 2, 3, 4, 5, 6, 7], [0, 1, 2, 3, 4, 5, 6, 7], [], [0, 1, 2, 3, 4, 5, 6, 7, 8, 10], [0, 1, 2, 3, 4, 5, 6, 7, 8, 9, 10, 11]] [2, 4, 5, 6, 10, 11] [0, 1, 3, 7, 8, 9, 12] [[], [2], [4], [2, 4], [2, 4, 5], [2, 4, 5, 6], [10], [2, 10], [4, 10], [2, 4, 10], [2, 4, 5, 10], [2, 4, 5, 6, 10], [2, 4, 5, 6, 10, 11]] 12 (fun i => [[0, 1, 2, 3, 4, 6, 7, 8, 9, 10], [0, 2, 6, 8], [0, 2, 6, 8], [0, 1, 6, 7], [0, 1, 6, 7], [3, 9], [4, 10], [5, 11], [5, 11], [5, 11, 12], [0, 1, 2, 3, 4, 5], [11], [12]].getD i []) (fun i s => ([[], [], [1, 0, 3, 0, 0, 0, 7, 0, 9, 0, 0, 0, 0], [], [2, 3, 0, 0, 0, 0, 8, 9, 0, 0, 0, 0, 0], [0, 0, 0, 4, 0, 0, 0, 0, 0, 10, 0, 0, 0], [0, 0, 0, 0, 5, 0, 0, 0, 0, 0, 11, 0, 0], [], [], [], [6, 7, 8, 9, 10, 11, 0, 0, 0, 0, 0, 0, 0], [0, 0, 0, 0, 0, 0, 0, 0, 0, 0, 0, 12, 0], []].getD i []).getD s 0) (fun i => [[], [], [0, 1, 3, 4, 10], [], [0, 1, 2, 3, 10], [0, 1, 2, 3, 4, 10], [0, 1, 2, 3, 4, 5, 10], [], [], [], [0, 1, 2, 3, 4, 5, 6, 7, 8, 9], [0, 1, 2, 3, 4, 5, 6, 7, 8, 9, 10], []].getD i []) (fun γ i => [.agg #[], .slice y20v.1 s19v.1.length y20v.2, .slice γ.1.1 s80v.length γ.1.2, .int .u8 x3, .slice (some ⟨γ.2.1, 0, none⟩) (([(byte x3)] : List UInt8).length) 1, .slice γ.2.2.1.1 ((s80v ++ ([(byte x3)] : List UInt8)).length) γ.2.2.1.2, .tuple #[.agg #[.int .i64 s91v.1, .int .i64 s91v.2.1, .int .i64 s91v.2.2.1, .int .i64 s91v.2.2.2.1, .int .i64 s91v.2.2.2.2.1, .int .i64 s91v.2.2.2.2.2.1, .int .i64 s91v.2.2.2.2.2.2.1, .int .i64 s91v.2.2.2.2.2.2.2.1, .int .i64 s91v.2.2.2.2.2.2.2.2.1, .bool s91v.2.2.2.2.2.2.2.2.2.1, .slice γ.2.2.2.1.1 s91v.2.2.2.2.2.2.2.2.2.2.1.length γ.2.2.2.1.2.1, .int .i64 s91v.2.2.2.2.2.2.2.2.2.2.2.1, .int .i64 s91v.2.2.2.2.2.2.2.2.2.2.2.2.1, .slice γ.2.2.2.1.2.2.2.1 s91v.2.2.2.2.2.2.2.2.2.2.2.2.2.1.length γ.2.2.2.1.2.2.2.2], .int .i64 s91v.2.2.2.2.2.2.2.2.2.2.2.2.2.2], .tuple #[.agg #[.int .i64 s91v.1, .int .i64 s91v.2.1, .int .i64 s91v.2.2.1, .int .i64 s91v.2.2.2.1, .int .i64 s91v.2.2.2.2.1, .int .i64 s91v.2.2.2.2.2.1, .int .i64 s91v.2.2.2.2.2.2.1, .int .i64 s91v.2.2.2.2.2.2.2.1, .int .i64 s91v.2.2.2.2.2.2.2.2.1, .bool s91v.2.2.2.2.2.2.2.2.2.1, .slice γ.2.2.2.1.1 s91v.2.2.2.2.2.2.2.2.2.2.1.length γ.2.2.2.1.2.1, .int .i64 s91v.2.2.2.2.2.2.2.2.2.2.2.1, .int .i64 s91v.2.2.2.2.2.2.2.2.2.2.2.2.1, .slice γ.2.2.2.1.2.2.2.1 s91v.2.2.2.2.2.2.2.2.2.2.2.2.2.1.length γ.2.2.2.1.2.2.2.2], .int .i64 s91v.2.2.2.2.2.2.2.2.2.2.2.2.2.2], .agg #[.int .i64 s91v.1, .int .i64 s91v.2.1, .int .i64 s91v.2.2.1, .int .i64 s91v.2.2.2.1, .int .i64 s91v.2.2.2.2.1, .int .i64 s91v.2.2.2.2.2.1, .int .i64 s91v.2.2.2.2.2.2.1, .int .i64 s91v.2.2.2.2.2.2.2.1, .int .i64 s91v.2.2.2.2.2.2.2.2.1, .bool s91v.2.2.2.2.2.2.2.2.2.1, .slice γ.2.2.2.1.1 s91v.2.2.2.2.2.2.2.2.2.2.1.length γ.2.2.2.1.2.1, .int .i64 s91v.2.2.2.2.2.2.2.2.2.2.2.1, .int .i64 s91v.2.2.2.2.2.2.2.2.2.2.2.2.1, .slice γ.2.2.2.1.2.2.2.1 s91v.2.2.2.2.2.2.2.2.2.2.2.2.2.1.length γ.2.2.2.1.2.2.2.2], .int .i64 s91v.2.2.2.2.2.2.2.2.2.2.2.2.2.2, .pointer (some ⟨γ.2.2.2.2, 0, none⟩), undef, .int .i64 s91v.2.2.2.2.2.2.2.2.2.2.2.2.2.2].getD i undef) (fun j γ => [[obj g73v.2 31 [.int .i64 s69v.1, .int .i64 s69v.2.1, .int .i64 s69v.2.2.1, .int .i64 s69v.2.2.2.1, .int .i64 s69v.2.2.2.2.1, .int .i64 s69v.2.2.2.2.2.1, .int .i64 s69v.2.2.2.2.2.2.1, .int .i64 s69v.2.2.2.2.2.2.2.1, .int .i64 s69v.2.2.2.2.2.2.2.2.1, .bool s69v.2.2.2.2.2.2.2.2.2.1, .slice g73v.1.1 s69v.2.2.2.2.2.2.2.2.2.2.1.length g73v.1.2.1, .int .i64 s69v.2.2.2.2.2.2.2.2.2.2.2.1, .int .i64 s69v.2.2.2.2.2.2.2.2.2.2.2.2.1, .slice g73v.1.2.2.2.1 s69v.2.2.2.2.2.2.2.2.2.2.2.2.2.1.length g73v.1.2.2.2.2], Row 61 4 g73v.1.1 s69v.2.2.2.2.2.2.2.2.2.2.1.length g73v.1.2.1 rs74v.flatten, g73v.1.2.2.1, Row 5 1 g73v.1.2.2.2.1 s69v.2.2.2.2.2.2.2.2.2.2.2.2.2.1.length g73v.1.2.2.2.2 (encB s69v.2.2.2.2.2.2.2.2.2.2.2.2.2.1), obj b18v 44 [], Row 5 1 y20v.1 s19v.1.length y20v.2 (encB s19v.1), F], [Row 5 1 γ.1.1 s80v.length γ.1.2 (encB s80v), obj g73v.2 31 [.int .i64 s69v.1, .int .i64 s69v.2.1, .int .i64 s69v.2.2.1, .int .i64 s69v.2.2.2.1, .int .i64 s69v.2.2.2.2.1, .int .i64 s69v.2.2.2.2.2.1, .int .i64 s69v.2.2.2.2.2.2.1, .int .i64 s69v.2.2.2.2.2.2.2.1, .int .i64 s69v.2.2.2.2.2.2.2.2.1, .bool s69v.2.2.2.2.2.2.2.2.2.1, .slice g73v.1.1 s69v.2.2.2.2.2.2.2.2.2.2.1.length g73v.1.2.1, .int .i64 s69v.2.2.2.2.2.2.2.2.2.2.2.1, .int .i64 s69v.2.2.2.2.2.2.2.2.2.2.2.2.1, .slice g73v.1.2.2.2.1 s69v.2.2.2.2.2.2.2.2.2.2.2.2.2.1.length g73v.1.2.2.2.2], Row 61 4 g73v.1.1 s69v.2.2.2.2.2.2.2.2.2.2.1.length g73v.1.2.1 rs74v.flatten, g73v.1.2.2.1, Row 5 1 g73v.1.2.2.2.1 s69v.2.2.2.2.2.2.2.2.2.2.2.2.2.1.length g73v.1.2.2.2.2 (encB s69v.2.2.2.2.2.2.2.2.2.2.2.2.2.1), obj b18v 44 [], Row 5 1 y20v.1 s19v.1.length y20v.2 (encB s19v.1), F], [Row 5 1 (some ⟨γ.2.1, 0, none⟩) ([(byte x3)] : List UInt8).length 1 (encB ([(byte x3)] : List UInt8)), obj g73v.2 31 [.int .i64 s69v.1, .int .i64 s69v.2.1, .int .i64 s69v.2.2.1, .int .i64 s69v.2.2.2.1, .int .i64 s69v.2.2.2.2.1, .int .i64 s69v.2.2.2.2.2.1, .int .i64 s69v.2.2.2.2.2.2.1, .int .i64 s69v.2.2.2.2.2.2.2.1, .int .i64 s69v.2.2.2.2.2.2.2.2.1, .bool s69v.2.2.2.2.2.2.2.2.2.1, .slice g73v.1.1 s69v.2.2.2.2.2.2.2.2.2.2.1.length g73v.1.2.1, .int .i64 s69v.2.2.2.2.2.2.2.2.2.2.2.1, .int .i64 s69v.2.2.2.2.2.2.2.2.2.2.2.2.1, .slice g73v.1.2.2.2.1 s69v.2.2.2.2.2.2.2.2.2.2.2.2.2.1.length g73v.1.2.2.2.2], Row 61 4 g73v.1.1 s69v.2.2.2.2.2.2.2.2.2.2.1.length g73v.1.2.1 rs74v.flatten, g73v.1.2.2.1, Row 5 1 g73v.1.2.2.2.1 s69v.2.2.2.2.2.2.2.2.2.2.2.2.2.1.length g73v.1.2.2.2.2 (encB s69v.2.2.2.2.2.2.2.2.2.2.2.2.2.1), obj b18v 44 [], Row 5 1 y20v.1 s19v.1.length y20v.2 (encB s19v.1), F], [Row 5 1 (some ⟨γ.2.1, 0, none⟩) ([(byte x3)] : List UInt8).length 1 (encB ([(byte x3)] : List UInt8)), Row 5 1 γ.1.1 s80v.length γ.1.2 (encB s80v), obj g73v.2 31 [.int .i64 s69v.1, .int .i64 s69v.2.1, .int .i64 s69v.2.2.1, .int .i64 s69v.2.2.2.1, .int .i64 s69v.2.2.2.2.1, .int .i64 s69v.2.2.2.2.2.1, .int .i64 s69v.2.2.2.2.2.2.1, .int .i64 s69v.2.2.2.2.2.2.2.1, .int .i64 s69v.2.2.2.2.2.2.2.2.1, .bool s69v.2.2.2.2.2.2.2.2.2.1, .slice g73v.1.1 s69v.2.2.2.2.2.2.2.2.2.2.1.length g73v.1.2.1, .int .i64 s69v.2.2.2.2.2.2.2.2.2.2.2.1, .int .i64 s69v.2.2.2.2.2.2.2.2.2.2.2.2.1, .slice g73v.1.2.2.2.1 s69v.2.2.2.2.2.2.2.2.2.2.2.2.2.1.length g73v.1.2.2.2.2], Row 61 4 g73v.1.1 s69v.2.2.2.2.2.2.2.2.2.2.1.length g73v.1.2.1 rs74v.flatten, g73v.1.2.2.1, Row 5 1 g73v.1.2.2.2.1 s69v.2.2.2.2.2.2.2.2.2.2.2.2.2.1.length g73v.1.2.2.2.2 (encB s69v.2.2.2.2.2.2.2.2.2.2.2.2.2.1), obj b18v 44 [], Row 5 1 y20v.1 s19v.1.length y20v.2 (encB s19v.1), F], [Row 5 1 (some ⟨γ.2.1, 0, none⟩) ([(byte x3)] : List UInt8).length 1 (encB ([(byte x3)] : List UInt8)), Row 5 1 γ.2.2.1.1 (s80v ++ ([(byte x3)] : List UInt8)).length γ.2.2.1.2 (encB (s80v ++ ([(byte x3)] : List UInt8))), obj g73v.2 31 [.int .i64 s69v.1, .int .i64 s69v.2.1, .int .i64 s69v.2.2.1, .int .i64 s69v.2.2.2.1, .int .i64 s69v.2.2.2.2.1, .int .i64 s69v.2.2.2.2.2.1, .int .i64 s69v.2.2.2.2.2.2.1, .int .i64 s69v.2.2.2.2.2.2.2.1, .int .i64 s69v.2.2.2.2.2.2.2.2.1, .bool s69v.2.2.2.2.2.2.2.2.2.1, .slice g73v.1.1 s69v.2.2.2.2.2.2.2.2.2.2.1.length g73v.1.2.1, .int .i64 s69v.2.2.2.2.2.2.2.2.2.2.2.1, .int .i64 s69v.2.2.2.2.2.2.2.2.2.2.2.2.1, .slice g73v.1.2.2.2.1 s69v.2.2.2.2.2.2.2.2.2.2.2.2.2.1.length g73v.1.2.2.2.2], Row 61 4 g73v.1.1 s69v.2.2.2.2.2.2.2.2.2.2.1.length g73v.1.2.1 rs74v.flatten, g73v.1.2.2.1, Row 5 1 g73v.1.2.2.2.1 s69v.2.2.2.2.2.2.2.2.2.2.2.2.2.1.length g73v.1.2.2.2.2 (encB s69v.2.2.2.2.2.2.2.2.2.2.2.2.2.1), obj b18v 44 [], Row 5 1 y20v.1 s19v.1.length y20v.2 (encB s19v.1), F], [RowV 61 4 (V61 (γ.2.2.2.1.2.2.1)) γ.2.2.2.1.1 s91v.2.2.2.2.2.2.2.2.2.2.1 γ.2.2.2.1.2.1, γ.2.2.2.1.2.2.1, Row 5 1 γ.2.2.2.1.2.2.2.1 s91v.2.2.2.2.2.2.2.2.2.2.2.2.2.1.length γ.2.2.2.1.2.2.2.2 (encB s91v.2.2.2.2.2.2.2.2.2.2.2.2.2.1), Row 5 1 (some ⟨γ.2.1, 0, none⟩) ([(byte x3)] : List UInt8).length 1 (encB ([(byte x3)] : List UInt8)), Row 5 1 γ.2.2.1.1 (s80v ++ ([(byte x3)] : List UInt8)).length γ.2.2.1.2 (encB (s80v ++ ([(byte x3)] : List UInt8))), obj g73v.2 31 [.int .i64 s69v.1, .int .i64 s69v.2.1, .int .i64 s69v.2.2.1, .int .i64 s69v.2.2.2.1, .int .i64 s69v.2.2.2.2.1, .int .i64 s69v.2.2.2.2.2.1, .int .i64 s69v.2.2.2.2.2.2.1, .int .i64 s69v.2.2.2.2.2.2.2.1, .int .i64 s69v.2.2.2.2.2.2.2.2.1, .bool s69v.2.2.2.2.2.2.2.2.2.1, .slice g73v.1.1 s69v.2.2.2.2.2.2.2.2.2.2.1.length g73v.1.2.1, .int .i64 s69v.2.2.2.2.2.2.2.2.2.2.2.1, .int .i64 s69v.2.2.2.2.2.2.2.2.2.2.2.2.1, .slice g73v.1.2.2.2.1 s69v.2.2.2.2.2.2.2.2.2.2.2.2.2.1.length g73v.1.2.2.2.2], Row 61 4 g73v.1.1 s69v.2.2.2.2.2.2.2.2.2.2.1.length g73v.1.2.1 rs74v.flatten, g73v.1.2.2.1, Row 5 1 g73v.1.2.2.2.1 s69v.2.2.2.2.2.2.2.2.2.2.2.2.2.1.length g73v.1.2.2.2.2 (encB s69v.2.2.2.2.2.2.2.2.2.2.2.2.2.1), obj b18v 44 [], Row 5 1 y20v.1 s19v.1.length y20v.2 (encB s19v.1), F], [obj γ.2.2.2.2 31 [.int .i64 0, .int .i64 0, .int .i64 0, .int .i64 0, .int .i64 0, .int .i64 0, .int .i64 0, .int .i64 0, .int .i64 0, .bool false, .slice none 0 0, .int .i64 0, .int .i64 0, .slice none 0 0], obj g73v.2 31 [.int .i64 s69v.1, .int .i64 s69v.2.1, .int .i64 s69v.2.2.1, .int .i64 s69v.2.2.2.1, .int .i64 s69v.2.2.2.2.1, .int .i64 s69v.2.2.2.2.2.1, .int .i64 s69v.2.2.2.2.2.2.1, .int .i64 s69v.2.2.2.2.2.2.2.1, .int .i64 s69v.2.2.2.2.2.2.2.2.1, .bool s69v.2.2.2.2.2.2.2.2.2.1, .slice g73v.1.1 s69v.2.2.2.2.2.2.2.2.2.2.1.length g73v.1.2.1, .int .i64 s69v.2.2.2.2.2.2.2.2.2.2.2.1, .int .i64 s69v.2.2.2.2.2.2.2.2.2.2.2.2.1, .slice g73v.1.2.2.2.1 s69v.2.2.2.2.2.2.2.2.2.2.2.2.2.1.length g73v.1.2.2.2.2], Row 61 4 g73v.1.1 s69v.2.2.2.2.2.2.2.2.2.2.1.length g73v.1.2.1 rs74v.flatten, g73v.1.2.2.1, Row 5 1 g73v.1.2.2.2.1 s69v.2.2.2.2.2.2.2.2.2.2.2.2.2.1.length g73v.1.2.2.2.2 (encB s69v.2.2.2.2.2.2.2.2.2.2.2.2.2.1), obj b18v 44 [], Row 5 1 y20v.1 s19v.1.length y20v.2 (encB s19v.1), F], [obj γ.2.2.2.2 31 [.int .i64 0, .int .i64 0, .int .i64 0, .int .i64 0, .int .i64 0, .int .i64 0, .int .i64 0, .int .i64 0, .int .i64 0, .bool false, .slice none 0 0, .int .i64 0, .int .i64 0, .slice none 0 0], Row 5 1 γ.1.1 s80v.length γ.1.2 (encB s80v), obj g73v.2 31 [.int .i64 s69v.1, .int .i64 s69v.2.1, .int .i64 s69v.2.2.1, .int .i64 s69v.2.2.2.1, .int .i64 s69v.2.2.2.2.1, .int .i64 s69v.2.2.2.2.2.1, .int .i64 s69v.2.2.2.2.2.2.1, .int .i64 s69v.2.2.2.2.2.2.2.1, .int .i64 s69v.2.2.2.2.2.2.2.2.1, .bool s69v.2.2.2.2.2.2.2.2.2.1, .slice g73v.1.1 s69v.2.2.2.2.2.2.2.2.2.2.1.length g73v.1.2.1, .int .i64 s69v.2.2.2.2.2.2.2.2.2.2.2.1, .int .i64 s69v.2.2.2.2.2.2.2.2.2.2.2.2.1, .slice g73v.1.2.2.2.1 s69v.2.2.2.2.2.2.2.2.2.2.2.2.2.1.length g73v.1.2.2.2.2], Row 61 4 g73v.1.1 s69v.2.2.2.2.2.2.2.2.2.2.1.length g73v.1.2.1 rs74v.flatten, g73v.1.2.2.1, Row 5 1 g73v.1.2.2.2.1 s69v.2.2.2.2.2.2.2.2.2.2.2.2.2.1.length g73v.1.2.2.2.2 (encB s69v.2.2.2.2.2.2.2.2.2.2.2.2.2.1), obj b18v 44 [], Row 5 1 y20v.1 s19v.1.length y20v.2 (encB s19v.1), F], [obj γ.2.2.2.2 31 [.int .i64 0, .int .i64 0, .int .i64 0, .int .i64 0, .int .i64 0, .int .i64 0, .int .i64 0, .int .i64 0, .int .i64 0, .bool false, .slice none 0 0, .int .i64 0, .int .i64 0, .slice none 0 0], Row 5 1 (some ⟨γ.2.1, 0, none⟩) ([(byte x3)] : List UInt8).length 1 (encB ([(byte x3)] : List UInt8)), obj g73v.2 31 [.int .i64 s69v.1, .int .i64 s69v.2.1, .int .i64 s69v.2.2.1, .int .i64 s69v.2.2.2.1, .int .i64 s69v.2.2.2.2.1, .int .i64 s69v.2.2.2.2.2.1, .int .i64 s69v.2.2.2.2.2.2.1, .int .i64 s69v.2.2.2.2.2.2.2.1, .int .i64 s69v.2.2.2.2.2.2.2.2.1, .bool s69v.2.2.2.2.2.2.2.2.2.1, .slice g73v.1.1 s69v.2.2.2.2.2.2.2.2.2.2.1.length g73v.1.2.1, .int .i64 s69v.2.2.2.2.2.2.2.2.2.2.2.1, .int .i64 s69v.2.2.2.2.2.2.2.2.2.2.2.2.1, .slice g73v.1.2.2.2.1 s69v.2.2.2.2.2.2.2.2.2.2.2.2.2.1.length g73v.1.2.2.2.2], Row 61 4 g73v.1.1 s69v.2.2.2.2.2.2.2.2.2.2.1.length g73v.1.2.1 rs74v.flatten, g73v.1.2.2.1, Row 5 1 g73v.1.2.2.2.1 s69v.2.2.2.2.2.2.2.2.2.2.2.2.2.1.length g73v.1.2.2.2.2 (encB s69v.2.2.2.2.2.2.2.2.2.2.2.2.2.1), obj b18v 44 [], Row 5 1 y20v.1 s19v.1.length y20v.2 (encB s19v.1), F], [obj γ.2.2.2.2 31 [.int .i64 0, .int .i64 0, .int .i64 0, .int .i64 0, .int .i64 0, .int .i64 0, .int .i64 0, .int .i64 0, .int .i64 0, .bool false, .slice none 0 0, .int .i64 0, .int .i64 0, .slice none 0 0], Row 5 1 (some ⟨γ.2.1, 0, none⟩) ([(byte x3)] : List UInt8).length 1 (encB ([(byte x3)] : List UInt8)), Row 5 1 γ.1.1 s80v.length γ.1.2 (encB s80v), obj g73v.2 31 [.int .i64 s69v.1, .int .i64 s69v.2.1, .int .i64 s69v.2.2.1, .int .i64 s69v.2.2.2.1, .int .i64 s69v.2.2.2.2.1, .int .i64 s69v.2.2.2.2.2.1, .int .i64 s69v.2.2.2.2.2.2.1, .int .i64 s69v.2.2.2.2.2.2.2.1, .int .i64 s69v.2.2.2.2.2.2.2.2.1, .bool s69v.2.2.2.2.2.2.2.2.2.1, .slice g73v.1.1 s69v.2.2.2.2.2.2.2.2.2.2.1.length g73v.1.2.1, .int .i64 s69v.2.2.2.2.2.2.2.2.2.2.2.1, .int .i64 s69v.2.2.2.2.2.2.2.2.2.2.2.2.1, .slice g73v.1.2.2.2.1 s69v.2.2.2.2.2.2.2.2.2.2.2.2.2.1.length g73v.1.2.2.2.2], Row 61 4 g73v.1.1 s69v.2.2.2.2.2.2.2.2.2.2.1.length g73v.1.2.1 rs74v.flatten, g73v.1.2.2.1, Row 5 1 g73v.1.2.2.2.1 s69v.2.2.2.2.2.2.2.2.2.2.2.2.2.1.length g73v.1.2.2.2.2 (encB s69v.2.2.2.2.2.2.2.2.2.2.2.2.2.1), obj b18v 44 [], Row 5 1 y20v.1 s19v.1.length y20v.2 (encB s19v.1), F], [obj γ.2.2.2.2 31 [.int .i64 0, .int .i64 0, .int .i64 0, .int .i64 0, .int .i64 0, .int .i64 0, .int .i64 0, .int .i64 0, .int .i64 0, .bool false, .slice none 0 0, .int .i64 0, .int .i64 0, .slice none 0 0], Row 5 1 (some ⟨γ.2.1, 0, none⟩) ([(byte x3)] : List UInt8).length 1 (encB ([(byte x3)] : List UInt8)), Row 5 1 γ.2.2.1.1 (s80v ++ ([(byte x3)] : List UInt8)).length γ.2.2.1.2 (encB (s80v ++ ([(byte x3)] : List UInt8))), obj g73v.2 31 [.int .i64 s69v.1, .int .i64 s69v.2.1, .int .i64 s69v.2.2.1, .int .i64 s69v.2.2.2.1, .int .i64 s69v.2.2.2.2.1, .int .i64 s69v.2.2.2.2.2.1, .int .i64 s69v.2.2.2.2.2.2.1, .int .i64 s69v.2.2.2.2.2.2.2.1, .int .i64 s69v.2.2.2.2.2.2.2.2.1, .bool s69v.2.2.2.2.2.2.2.2.2.1, .slice g73v.1.1 s69v.2.2.2.2.2.2.2.2.2.2.1.length g73v.1.2.1, .int .i64 s69v.2.2.2.2.2.2.2.2.2.2.2.1, .int .i64 s69v.2.2.2.2.2.2.2.2.2.2.2.2.1, .slice g73v.1.2.2.2.1 s69v.2.2.2.2.2.2.2.2.2.2.2.2.2.1.length g73v.1.2.2.2.2], Row 61 4 g73v.1.1 s69v.2.2.2.2.2.2.2.2.2.2.1.length g73v.1.2.1 rs74v.flatten, g73v.1.2.2.1, Row 5 1 g73v.1.2.2.2.1 s69v.2.2.2.2.2.2.2.2.2.2.2.2.2.1.length g73v.1.2.2.2.2 (encB s69v.2.2.2.2.2.2.2.2.2.2.2.2.2.1), obj b18v 44 [], Row 5 1 y20v.1 s19v.1.length y20v.2 (encB s19v.1), F], [obj γ.2.2.2.2 31 [.int .i64 0, .int .i64 0, .int .i64 0, .int .i64 0, .int .i64 0, .int .i64 0, .int .i64 0, .int .i64 0, .int .i64 0, .bool false, .slice none 0 0, .int .i64 0, .int .i64 0, .slice none 0 0], RowV 61 4 (V61 (γ.2.2.2.1.2.2.1)) γ.2.2.2.1.1 s91v.2.2.2.2.2.2.2.2.2.2.1 γ.2.2.2.1.2.1, γ.2.2.2.1.2.2.1, Row 5 1 γ.2.2.2.1.2.2.2.1 s91v.2.2.2.2.2.2.2.2.2.2.2.2.2.1.length γ.2.2.2.1.2.2.2.2 (encB s91v.2.2.2.2.2.2.2.2.2.2.2.2.2.1), Row 5 1 (some ⟨γ.2.1, 0, none⟩) ([(byte x3)] : List UInt8).length 1 (encB ([(byte x3)] : List UInt8)), Row 5 1 γ.2.2.1.1 (s80v ++ ([(byte x3)] : List UInt8)).length γ.2.2.1.2 (encB (s80v ++ ([(byte x3)] : List UInt8))), obj g73v.2 31 [.int .i64 s69v.1, .int .i64 s69v.2.1, .int .i64 s69v.2.2.1, .int .i64 s69v.2.2.2.1, .int .i64 s69v.2.2.2.2.1, .int .i64 s69v.2.2.2.2.2.1, .int .i64 s69v.2.2.2.2.2.2.1, .int .i64 s69v.2.2.2.2.2.2.2.1, .int .i64 s69v.2.2.2.2.2.2.2.2.1, .bool s69v.2.2.2.2.2.2.2.2.2.1, .slice g73v.1.1 s69v.2.2.2.2.2.2.2.2.2.2.1.length g73v.1.2.1, .int .i64 s69v.2.2.2.2.2.2.2.2.2.2.2.1, .int .i64 s69v.2.2.2.2.2.2.2.2.2.2.2.2.1, .slice g73v.1.2.2.2.1 s69v.2.2.2.2.2.2.2.2.2.2.2.2.2.1.length g73v.1.2.2.2.2], Row 61 4 g73v.1.1 s69v.2.2.2.2.2.2.2.2.2.2.1.length g73v.1.2.1 rs74v.flatten, g73v.1.2.2.1, Row 5 1 g73v.1.2.2.2.1 s69v.2.2.2.2.2.2.2.2.2.2.2.2.2.1.length g73v.1.2.2.2.2 (encB s69v.2.2.2.2.2.2.2.2.2.2.2.2.2.1), obj b18v 44 [], Row 5 1 y20v.1 s19v.1.length y20v.2 (encB s19v.1), F], [obj γ.2.2.2.2 31 [.int .i64 s91v.1, .int .i64 s91v.2.1, .int .i64 s91v.2.2.1, .int .i64 s91v.2.2.2.1, .int .i64 s91v.2.2.2.2.1, .int .i64 s91v.2.2.2.2.2.1, .int .i64 s91v.2.2.2.2.2.2.1, .int .i64 s91v.2.2.2.2.2.2.2.1, .int .i64 s91v.2.2.2.2.2.2.2.2.1, .bool s91v.2.2.2.2.2.2.2.2.2.1, .slice γ.2.2.2.1.1 s91v.2.2.2.2.2.2.2.2.2.2.1.length γ.2.2.2.1.2.1, .int .i64 s91v.2.2.2.2.2.2.2.2.2.2.2.1, .int .i64 s91v.2.2.2.2.2.2.2.2.2.2.2.2.1, .slice γ.2.2.2.1.2.2.2.1 s91v.2.2.2.2.2.2.2.2.2.2.2.2.2.1.length γ.2.2.2.1.2.2.2.2], RowV 61 4 (V61 (γ.2.2.2.1.2.2.1)) γ.2.2.2.1.1 s91v.2.2.2.2.2.2.2.2.2.2.1 γ.2.2.2.1.2.1, γ.2.2.2.1.2.2.1, Row 5 1 γ.2.2.2.1.2.2.2.1 s91v.2.2.2.2.2.2.2.2.2.2.2.2.2.1.length γ.2.2.2.1.2.2.2.2 (encB s91v.2.2.2.2.2.2.2.2.2.2.2.2.2.1), Row 5 1 (some ⟨γ.2.1, 0, none⟩) ([(byte x3)] : List UInt8).length 1 (encB ([(byte x3)] : List UInt8)), Row 5 1 γ.2.2.1.1 (s80v ++ ([(byte x3)] : List UInt8)).length γ.2.2.1.2 (encB (s80v ++ ([(byte x3)] : List UInt8))), obj g73v.2 31 [.int .i64 s69v.1, .int .i64 s69v.2.1, .int .i64 s69v.2.2.1, .int .i64 s69v.2.2.2.1, .int .i64 s69v.2.2.2.2.1, .int .i64 s69v.2.2.2.2.2.1, .int .i64 s69v.2.2.2.2.2.2.1, .int .i64 s69v.2.2.2.2.2.2.2.1, .int .i64 s69v.2.2.2.2.2.2.2.2.1, .bool s69v.2.2.2.2.2.2.2.2.2.1, .slice g73v.1.1 s69v.2.2.2.2.2.2.2.2.2.2.1.length g73v.1.2.1, .int .i64 s69v.2.2.2.2.2.2.2.2.2.2.2.1, .int .i64 s69v.2.2.2.2.2.2.2.2.2.2.2.2.1, .slice g73v.1.2.2.2.1 s69v.2.2.2.2.2.2.2.2.2.2.2.2.2.1.length g73v.1.2.2.2.2], Row 61 4 g73v.1.1 s69v.2.2.2.2.2.2.2.2.2.2.1.length g73v.1.2.1 rs74v.flatten, g73v.1.2.2.1, Row 5 1 g73v.1.2.2.2.1 s69v.2.2.2.2.2.2.2.2.2.2.2.2.2.1.length g73v.1.2.2.2.2 (encB s69v.2.2.2.2.2.2.2.2.2.2.2.2.2.1), obj b18v 44 [], Row 5 1 y20v.1 s19v.1.length y20v.2 (encB s19v.1), F]].getD j []) (fun γ => [(19, .int .i64 s69v.2.2.2.2.2.2.2.2.2.2.2.2.2.2), (21, .int .i64 s91v.2.2.2.2.2.2.2.2.2.2.2.2.2.2)]) mixed (by decide) (by decide) (by decide) (by decide) (by decide) (by decide) 108 rfl (by decide) (by decide) (by decide) (by decide) (by decide) (by decide) (Ent.refl _) ?_ ?_ (fun _ => ⟨rfl, rfl, trivial⟩) ?_
 exact (All.cons (fun γ => (All.cons (QOb.plain [(11, .pointer (some ⟨b18v, 0, none⟩))] rfl rfl (.o rfl (by decide) .nil) (q_loado 4 rfl rfl Try.isAgg44 Try.sizeOf44 rfl rfl) rfl) (All.cons (QOb.plain [(11, .pointer (some ⟨b18v, 0, none⟩))] rfl rfl (.o rfl (by decide) .nil) (q_loado 5 rfl rfl Try.isAgg44 Try.sizeOf44 rfl rfl) rfl) (All.cons (QOb.plain [(11, .pointer (some ⟨b18v, 0, none⟩))] rfl rfl (.o rfl (by decide) .nil) (q_loado 5 rfl rfl Try.isAgg44 Try.sizeOf44 rfl rfl) rfl) (All.cons (QOb.plain [(11, .pointer (some ⟨b18v, 0, none⟩))] rfl rfl (.o rfl (by decide) .nil) (q_loado 6 rfl rfl Try.isAgg44 Try.sizeOf44 rfl rfl) rfl) (All.cons (QOb.plain [(11, .pointer (some ⟨b18v, 0, none⟩))] rfl rfl (.o rfl (by decide) .nil) (q_loado 6 rfl rfl Try.isAgg44 Try.sizeOf44 rfl rfl) rfl) (All.cons (QOb.plain [(11, .pointer (some ⟨b18v, 0, none⟩))] rfl rfl (.o rfl (by decide) .nil) (q_loado 5 rfl rfl Try.isAgg44 Try.sizeOf44 rfl rfl) rfl) (All.cons (QOb.plain [(11, .pointer (some ⟨b18v, 0, none⟩))] rfl rfl (.o rfl (by decide) .nil) (q_loado 6 rfl rfl Try.isAgg44 Try.sizeOf44 rfl rfl) rfl) (All.cons (QOb.plain [(11, .pointer (some ⟨b18v, 0, none⟩))] rfl rfl (.o rfl (by decide) .nil) (q_loado 6 rfl rfl Try.isAgg44 Try.sizeOf44 rfl rfl) rfl) (All.cons (QOb.plain [(11, .pointer (some ⟨b18v, 0, none⟩))] rfl rfl (.o rfl (by decide) .nil) (q_loado 7 rfl rfl Try.isAgg44 Try.sizeOf44 rfl rfl) rfl) (All.cons (QOb.plain [(11, .pointer (some ⟨b18v, 0, none⟩))] rfl rfl (.o rfl (by decide) .nil) (q_loado 7 rfl rfl Try.isAgg44 Try.sizeOf44 rfl rfl) rfl) All.nil))))))))))) (All.cons (fun γ => (All.cons (QOb.plain [(12, .slice y20v.1 s19v.1.length y20v.2)] rfl rfl (.o rfl (by decide) .nil) (q_move rfl rfl) rfl) (All.cons (QOb.plain [(12, .slice y20v.1 s19v.1.length y20v.2)] rfl rfl (.o rfl (by decide) .nil) (q_move rfl rfl) rfl) (All.cons (QOb.plain [(12, .slice y20v.1 s19v.1.length y20v.2)] rfl rfl (.o rfl (by decide) .nil) (q_move rfl rfl) rfl) (All.cons (QOb.plain [(12, .slice y20v.1 s19v.1.length y20v.2)] rfl rfl (.o rfl (by decide) .nil) (q_move rfl rfl) rfl) All.nil))))) (All.cons (fun γ => (All.cons (QOb.plain [(3, .int .u8 x3)] rfl rfl (.o rfl (by decide) .nil) (q_move rfl rfl) rfl) (All.cons (QOb.plain [(3, .int .u8 x3)] rfl rfl (.o rfl (by decide) .nil) (q_move rfl rfl) rfl) (All.cons (QOb.plain [(3, .int .u8 x3)] rfl rfl (.o rfl (by decide) .nil) (q_move rfl rfl) rfl) (All.cons (QOb.plain [(3, .int .u8 x3)] rfl rfl (.o rfl (by decide) .nil) (q_move rfl rfl) rfl) All.nil))))) (All.cons (fun γ => (All.cons (QOb.plain [(97, .tuple #[.agg #[.int .i64 s91v.1, .int .i64 s91v.2.1, .int .i64 s91v.2.2.1, .int .i64 s91v.2.2.2.1, .int .i64 s91v.2.2.2.2.1, .int .i64 s91v.2.2.2.2.2.1, .int .i64 s91v.2.2.2.2.2.2.1, .int .i64 s91v.2.2.2.2.2.2.2.1, .int .i64 s91v.2.2.2.2.2.2.2.2.1, .bool s91v.2.2.2.2.2.2.2.2.2.1, .slice γ.2.2.2.1.1 s91v.2.2.2.2.2.2.2.2.2.2.1.length γ.2.2.2.1.2.1, .int .i64 s91v.2.2.2.2.2.2.2.2.2.2.2.1, .int .i64 s91v.2.2.2.2.2.2.2.2.2.2.2.2.1, .slice γ.2.2.2.1.2.2.2.1 s91v.2.2.2.2.2.2.2.2.2.2.2.2.2.1.length γ.2.2.2.1.2.2.2.2], .int .i64 s91v.2.2.2.2.2.2.2.2.2.2.2.2.2.2])] rfl rfl (.w 6 rfl rfl rfl .nil) (q_move rfl rfl) rfl) (All.cons (QOb.plain [(97, .tuple #[.agg #[.int .i64 s91v.1, .int .i64 s91v.2.1, .int .i64 s91v.2.2.1, .int .i64 s91v.2.2.2.1, .int .i64 s91v.2.2.2.2.1, .int .i64 s91v.2.2.2.2.2.1, .int .i64 s91v.2.2.2.2.2.2.1, .int .i64 s91v.2.2.2.2.2.2.2.1, .int .i64 s91v.2.2.2.2.2.2.2.2.1, .bool s91v.2.2.2.2.2.2.2.2.2.1, .slice γ.2.2.2.1.1 s91v.2.2.2.2.2.2.2.2.2.2.1.length γ.2.2.2.1.2.1, .int .i64 s91v.2.2.2.2.2.2.2.2.2.2.2.1, .int .i64 s91v.2.2.2.2.2.2.2.2.2.2.2.2.1, .slice γ.2.2.2.1.2.2.2.1 s91v.2.2.2.2.2.2.2.2.2.2.2.2.2.1.length γ.2.2.2.1.2.2.2.2], .int .i64 s91v.2.2.2.2.2.2.2.2.2.2.2.2.2.2])] rfl rfl (.w 6 rfl rfl rfl .nil) (q_move rfl rfl) rfl) All.nil))) (All.cons (fun γ => (All.cons (QOb.plain [(90, .tuple #[.agg #[.int .i64 s91v.1, .int .i64 s91v.2.1, .int .i64 s91v.2.2.1, .int .i64 s91v.2.2.2.1, .int .i64 s91v.2.2.2.2.1, .int .i64 s91v.2.2.2.2.2.1, .int .i64 s91v.2.2.2.2.2.2.1, .int .i64 s91v.2.2.2.2.2.2.2.1, .int .i64 s91v.2.2.2.2.2.2.2.2.1, .bool s91v.2.2.2.2.2.2.2.2.2.1, .slice γ.2.2.2.1.1 s91v.2.2.2.2.2.2.2.2.2.2.1.length γ.2.2.2.1.2.1, .int .i64 s91v.2.2.2.2.2.2.2.2.2.2.2.1, .int .i64 s91v.2.2.2.2.2.2.2.2.2.2.2.2.1, .slice γ.2.2.2.1.2.2.2.1 s91v.2.2.2.2.2.2.2.2.2.2.2.2.2.1.length γ.2.2.2.1.2.2.2.2], .int .i64 s91v.2.2.2.2.2.2.2.2.2.2.2.2.2.2])] rfl rfl (.w 7 rfl rfl rfl .nil) (q_ext rfl rfl rfl) rfl) (All.cons (QOb.plain [(90, .tuple #[.agg #[.int .i64 s91v.1, .int .i64 s91v.2.1, .int .i64 s91v.2.2.1, .int .i64 s91v.2.2.2.1, .int .i64 s91v.2.2.2.2.1, .int .i64 s91v.2.2.2.2.2.1, .int .i64 s91v.2.2.2.2.2.2.1, .int .i64 s91v.2.2.2.2.2.2.2.1, .int .i64 s91v.2.2.2.2.2.2.2.2.1, .bool s91v.2.2.2.2.2.2.2.2.2.1, .slice γ.2.2.2.1.1 s91v.2.2.2.2.2.2.2.2.2.2.1.length γ.2.2.2.1.2.1, .int .i64 s91v.2.2.2.2.2.2.2.2.2.2.2.1, .int .i64 s91v.2.2.2.2.2.2.2.2.2.2.2.2.1, .slice γ.2.2.2.1.2.2.2.1 s91v.2.2.2.2.2.2.2.2.2.2.2.2.2.1.length γ.2.2.2.1.2.2.2.2], .int .i64 s91v.2.2.2.2.2.2.2.2.2.2.2.2.2.2])] rfl rfl (.w 7 rfl rfl rfl .nil) (q_ext rfl rfl rfl) rfl) All.nil))) (All.cons (fun γ => (All.cons (QOb.plain [(90, .tuple #[.agg #[.int .i64 s91v.1, .int .i64 s91v.2.1, .int .i64 s91v.2.2.1, .int .i64 s91v.2.2.2.1, .int .i64 s91v.2.2.2.2.1, .int .i64 s91v.2.2.2.2.2.1, .int .i64 s91v.2.2.2.2.2.2.1, .int .i64 s91v.2.2.2.2.2.2.2.1, .int .i64 s91v.2.2.2.2.2.2.2.2.1, .bool s91v.2.2.2.2.2.2.2.2.2.1, .slice γ.2.2.2.1.1 s91v.2.2.2.2.2.2.2.2.2.2.1.length γ.2.2.2.1.2.1, .int .i64 s91v.2.2.2.2.2.2.2.2.2.2.2.1, .int .i64 s91v.2.2.2.2.2.2.2.2.2.2.2.2.1, .slice γ.2.2.2.1.2.2.2.1 s91v.2.2.2.2.2.2.2.2.2.2.2.2.2.1.length γ.2.2.2.1.2.2.2.2], .int .i64 s91v.2.2.2.2.2.2.2.2.2.2.2.2.2.2])] rfl rfl (.w 7 rfl rfl rfl .nil) (q_ext rfl rfl rfl) rfl) (All.cons (QOb.plain [(90, .tuple #[.agg #[.int .i64 s91v.1, .int .i64 s91v.2.1, .int .i64 s91v.2.2.1, .int .i64 s91v.2.2.2.1, .int .i64 s91v.2.2.2.2.1, .int .i64 s91v.2.2.2.2.2.1, .int .i64 s91v.2.2.2.2.2.2.1, .int .i64 s91v.2.2.2.2.2.2.2.1, .int .i64 s91v.2.2.2.2.2.2.2.2.1, .bool s91v.2.2.2.2.2.2.2.2.2.1, .slice γ.2.2.2.1.1 s91v.2.2.2.2.2.2.2.2.2.2.1.length γ.2.2.2.1.2.1, .int .i64 s91v.2.2.2.2.2.2.2.2.2.2.2.1, .int .i64 s91v.2.2.2.2.2.2.2.2.2.2.2.2.1, .slice γ.2.2.2.1.2.2.2.1 s91v.2.2.2.2.2.2.2.2.2.2.2.2.2.1.length γ.2.2.2.1.2.2.2.2], .int .i64 s91v.2.2.2.2.2.2.2.2.2.2.2.2.2.2])] rfl rfl (.w 7 rfl rfl rfl .nil) (q_ext rfl rfl rfl) rfl) (All.cons (QOb.plain [(90, .tuple #[.agg #[.int .i64 s91v.1, .int .i64 s91v.2.1, .int .i64 s91v.2.2.1, .int .i64 s91v.2.2.2.1, .int .i64 s91v.2.2.2.2.1, .int .i64 s91v.2.2.2.2.2.1, .int .i64 s91v.2.2.2.2.2.2.1, .int .i64 s91v.2.2.2.2.2.2.2.1, .int .i64 s91v.2.2.2.2.2.2.2.2.1, .bool s91v.2.2.2.2.2.2.2.2.2.1, .slice γ.2.2.2.1.1 s91v.2.2.2.2.2.2.2.2.2.2.1.length γ.2.2.2.1.2.1, .int .i64 s91v.2.2.2.2.2.2.2.2.2.2.2.1, .int .i64 s91v.2.2.2.2.2.2.2.2.2.2.2.2.1, .slice γ.2.2.2.1.2.2.2.1 s91v.2.2.2.2.2.2.2.2.2.2.2.2.2.1.length γ.2.2.2.1.2.2.2.2], .int .i64 s91v.2.2.2.2.2.2.2.2.2.2.2.2.2.2])] rfl rfl (.w 7 rfl rfl rfl .nil) (q_ext rfl rfl rfl) rfl) All.nil)))) (All.cons (fun γ => (All.cons (QOb.plain [(99, .int .i64 s91v.2.2.2.2.2.2.2.2.2.2.2.2.2.2)] rfl rfl (.w 9 rfl rfl rfl .nil) (q_asg rfl rfl) rfl) All.nil)) All.nil)))))))
 exact (All.cons (fun γ => (All.cons (EObI.mk (Z := Option Addr × Nat) [(92, .slice y20v.1 s19v.1.length y20v.2)] (fun z => (z, γ.2.1, γ.2.2.1, γ.2.2.2.1, γ.2.2.2.2)) rfl rfl (.w 1 rfl rfl rfl .nil) (RE.lend 5 rfl (fun hq76v hq77v hq78v hq79v => re_call (vs := [.slice y20v.1 s19v.1.length y20v.2]) (cap := []) (A := []) (rst := [obj g73v.2 31 [.int .i64 s69v.1, .int .i64 s69v.2.1, .int .i64 s69v.2.2.1, .int .i64 s69v.2.2.2.1, .int .i64 s69v.2.2.2.2.1, .int .i64 s69v.2.2.2.2.2.1, .int .i64 s69v.2.2.2.2.2.2.1, .int .i64 s69v.2.2.2.2.2.2.2.1, .int .i64 s69v.2.2.2.2.2.2.2.2.1, .bool s69v.2.2.2.2.2.2.2.2.2.1, .slice g73v.1.1 s69v.2.2.2.2.2.2.2.2.2.2.1.length g73v.1.2.1, .int .i64 s69v.2.2.2.2.2.2.2.2.2.2.2.1, .int .i64 s69v.2.2.2.2.2.2.2.2.2.2.2.2.1, .slice g73v.1.2.2.2.1 s69v.2.2.2.2.2.2.2.2.2.2.2.2.2.1.length g73v.1.2.2.2.2], Row 61 4 g73v.1.1 s69v.2.2.2.2.2.2.2.2.2.2.1.length g73v.1.2.1 rs74v.flatten, g73v.1.2.2.1, Row 5 1 g73v.1.2.2.2.1 s69v.2.2.2.2.2.2.2.2.2.2.2.2.2.1.length g73v.1.2.2.2.2 (encB s69v.2.2.2.2.2.2.2.2.2.2.2.2.2.1), obj b18v 44 [], Row 5 1 y20v.1 s19v.1.length y20v.2 (encB s19v.1), F]) rfl rfl rfl rfl rfl rfl Try.call62 (.sel 0 rfl (.sel 0 rfl (.sel 0 rfl (.sel 0 rfl (.sel 0 rfl (.sel 0 rfl (.sel 0 rfl (.nil _)))))))) (synodref_Bytes.calls _ _ y20v.1 y20v.2 s19v.1 (hq76v.lend 5 rfl) hq77v hq78v) hs82v)) (fun _ => ⟨rfl, rfl, rfl, rfl, rfl, trivial⟩) (fun _ => .inr rfl) (fun z => (.sel 0 rfl (.sel 0 rfl (.sel 0 rfl (.sel 0 rfl (.sel 0 rfl (.sel 0 rfl (.sel 0 rfl (.sel 0 rfl (.nil _))))))))))) (All.cons (EObI.mk (Z := Option Addr × Nat) [(92, .slice y20v.1 s19v.1.length y20v.2)] (fun z => (z, γ.2.1, γ.2.2.1, γ.2.2.2.1, γ.2.2.2.2)) rfl rfl (.w 1 rfl rfl rfl .nil) (RE.lend 6 rfl (fun hq76v hq77v hq78v hq79v => re_call (vs := [.slice y20v.1 s19v.1.length y20v.2]) (cap := []) (A := []) (rst := [Row 5 1 (some ⟨γ.2.1, 0, none⟩) ([(byte x3)] : List UInt8).length 1 (encB ([(byte x3)] : List UInt8)), obj g73v.2 31 [.int .i64 s69v.1, .int .i64 s69v.2.1, .int .i64 s69v.2.2.1, .int .i64 s69v.2.2.2.1, .int .i64 s69v.2.2.2.2.1, .int .i64 s69v.2.2.2.2.2.1, .int .i64 s69v.2.2.2.2.2.2.1, .int .i64 s69v.2.2.2.2.2.2.2.1, .int .i64 s69v.2.2.2.2.2.2.2.2.1, .bool s69v.2.2.2.2.2.2.2.2.2.1, .slice g73v.1.1 s69v.2.2.2.2.2.2.2.2.2.2.1.length g73v.1.2.1, .int .i64 s69v.2.2.2.2.2.2.2.2.2.2.2.1, .int .i64 s69v.2.2.2.2.2.2.2.2.2.2.2.2.1, .slice g73v.1.2.2.2.1 s69v.2.2.2.2.2.2.2.2.2.2.2.2.2.1.length g73v.1.2.2.2.2], Row 61 4 g73v.1.1 s69v.2.2.2.2.2.2.2.2.2.2.1.length g73v.1.2.1 rs74v.flatten, g73v.1.2.2.1, Row 5 1 g73v.1.2.2.2.1 s69v.2.2.2.2.2.2.2.2.2.2.2.2.2.1.length g73v.1.2.2.2.2 (encB s69v.2.2.2.2.2.2.2.2.2.2.2.2.2.1), obj b18v 44 [], Row 5 1 y20v.1 s19v.1.length y20v.2 (encB s19v.1), F]) rfl rfl rfl rfl rfl rfl Try.call62 (.sel 0 rfl (.sel 0 rfl (.sel 0 rfl (.sel 0 rfl (.sel 0 rfl (.sel 0 rfl (.sel 0 rfl (.sel 0 rfl (.nil _))))))))) (synodref_Bytes.calls _ _ y20v.1 y20v.2 s19v.1 (hq76v.lend 6 rfl) hq77v hq78v) hs82v)) (fun _ => ⟨rfl, rfl, rfl, rfl, rfl, trivial⟩) (fun _ => .inr rfl) (fun z => (.sel 1 rfl (.sel 0 rfl (.sel 0 rfl (.sel 0 rfl (.sel 0 rfl (.sel 0 rfl (.sel 0 rfl (.sel 0 rfl (.sel 0 rfl (.nil _)))))))))))) (All.cons (EObI.mk (Z := Option Addr × Nat) [(92, .slice y20v.1 s19v.1.length y20v.2)] (fun z => (z, γ.2.1, γ.2.2.1, γ.2.2.2.1, γ.2.2.2.2)) rfl rfl (.w 1 rfl rfl rfl .nil) (RE.lend 6 rfl (fun hq76v hq77v hq78v hq79v => re_call (vs := [.slice y20v.1 s19v.1.length y20v.2]) (cap := []) (A := []) (rst := [obj γ.2.2.2.2 31 [.int .i64 0, .int .i64 0, .int .i64 0, .int .i64 0, .int .i64 0, .int .i64 0, .int .i64 0, .int .i64 0, .int .i64 0, .bool false, .slice none 0 0, .int .i64 0, .int .i64 0, .slice none 0 0], obj g73v.2 31 [.int .i64 s69v.1, .int .i64 s69v.2.1, .int .i64 s69v.2.2.1, .int .i64 s69v.2.2.2.1, .int .i64 s69v.2.2.2.2.1, .int .i64 s69v.2.2.2.2.2.1, .int .i64 s69v.2.2.2.2.2.2.1, .int .i64 s69v.2.2.2.2.2.2.2.1, .int .i64 s69v.2.2.2.2.2.2.2.2.1, .bool s69v.2.2.2.2.2.2.2.2.2.1, .slice g73v.1.1 s69v.2.2.2.2.2.2.2.2.2.2.1.length g73v.1.2.1, .int .i64 s69v.2.2.2.2.2.2.2.2.2.2.2.1, .int .i64 s69v.2.2.2.2.2.2.2.2.2.2.2.2.1, .slice g73v.1.2.2.2.1 s69v.2.2.2.2.2.2.2.2.2.2.2.2.2.1.length g73v.1.2.2.2.2], Row 61 4 g73v.1.1 s69v.2.2.2.2.2.2.2.2.2.2.1.length g73v.1.2.1 rs74v.flatten, g73v.1.2.2.1, Row 5 1 g73v.1.2.2.2.1 s69v.2.2.2.2.2.2.2.2.2.2.2.2.2.1.length g73v.1.2.2.2.2 (encB s69v.2.2.2.2.2.2.2.2.2.2.2.2.2.1), obj b18v 44 [], Row 5 1 y20v.1 s19v.1.length y20v.2 (encB s19v.1), F]) rfl rfl rfl rfl rfl rfl Try.call62 (.sel 0 rfl (.sel 0 rfl (.sel 0 rfl (.sel 0 rfl (.sel 0 rfl (.sel 0 rfl (.sel 0 rfl (.sel 0 rfl (.nil _))))))))) (synodref_Bytes.calls _ _ y20v.1 y20v.2 s19v.1 (hq76v.lend 6 rfl) hq77v hq78v) hs82v)) (fun _ => ⟨rfl, rfl, rfl, rfl, rfl, trivial⟩) (fun _ => .inr rfl) (fun z => (.sel 1 rfl (.sel 0 rfl (.sel 0 rfl (.sel 0 rfl (.sel 0 rfl (.sel 0 rfl (.sel 0 rfl (.sel 0 rfl (.sel 0 rfl (.nil _)))))))))))) (All.cons (EObI.mk (Z := Option Addr × Nat) [(92, .slice y20v.1 s19v.1.length y20v.2)] (fun z => (z, γ.2.1, γ.2.2.1, γ.2.2.2.1, γ.2.2.2.2)) rfl rfl (.w 1 rfl rfl rfl .nil) (RE.lend 7 rfl (fun hq76v hq77v hq78v hq79v => re_call (vs := [.slice y20v.1 s19v.1.length y20v.2]) (cap := []) (A := []) (rst := [obj γ.2.2.2.2 31 [.int .i64 0, .int .i64 0, .int .i64 0, .int .i64 0, .int .i64 0, .int .i64 0, .int .i64 0, .int .i64 0, .int .i64 0, .bool false, .slice none 0 0, .int .i64 0, .int .i64 0, .slice none 0 0], Row 5 1 (some ⟨γ.2.1, 0, none⟩) ([(byte x3)] : List UInt8).length 1 (encB ([(byte x3)] : List UInt8)), obj g73v.2 31 [.int .i64 s69v.1, .int .i64 s69v.2.1, .int .i64 s69v.2.2.1, .int .i64 s69v.2.2.2.1, .int .i64 s69v.2.2.2.2.1, .int .i64 s69v.2.2.2.2.2.1, .int .i64 s69v.2.2.2.2.2.2.1, .int .i64 s69v.2.2.2.2.2.2.2.1, .int .i64 s69v.2.2.2.2.2.2.2.2.1, .bool s69v.2.2.2.2.2.2.2.2.2.1, .slice g73v.1.1 s69v.2.2.2.2.2.2.2.2.2.2.1.length g73v.1.2.1, .int .i64 s69v.2.2.2.2.2.2.2.2.2.2.2.1, .int .i64 s69v.2.2.2.2.2.2.2.2.2.2.2.2.1, .slice g73v.1.2.2.2.1 s69v.2.2.2.2.2.2.2.2.2.2.2.2.2.1.length g73v.1.2.2.2.2], Row 61 4 g73v.1.1 s69v.2.2.2.2.2.2.2.2.2.2.1.length g73v.1.2.1 rs74v.flatten, g73v.1.2.2.1, Row 5 1 g73v.1.2.2.2.1 s69v.2.2.2.2.2.2.2.2.2.2.2.2.2.1.length g73v.1.2.2.2.2 (encB s69v.2.2.2.2.2.2.2.2.2.2.2.2.2.1), obj b18v 44 [], Row 5 1 y20v.1 s19v.1.length y20v.2 (encB s19v.1), F]) rfl rfl rfl rfl rfl rfl Try.call62 (.sel 0 rfl (.sel 0 rfl (.sel 0 rfl (.sel 0 rfl (.sel 0 rfl (.sel 0 rfl (.sel 0 rfl (.sel 0 rfl (.sel 0 rfl (.nil _)))))))))) (synodref_Bytes.calls _ _ y20v.1 y20v.2 s19v.1 (hq76v.lend 7 rfl) hq77v hq78v) hs82v)) (fun _ => ⟨rfl, rfl, rfl, rfl, rfl, trivial⟩) (fun _ => .inr rfl) (fun z => (.sel 1 rfl (.sel 1 rfl (.sel 0 rfl (.sel 0 rfl (.sel 0 rfl (.sel 0 rfl (.sel 0 rfl (.sel 0 rfl (.sel 0 rfl (.sel 0 rfl (.nil _))))))))))))) All.nil))))) (All.cons (fun γ => (All.cons (EObI.mk (Z := Nat) [(94, .int .u8 x3)] (fun z => (γ.1, z, γ.2.2.1, γ.2.2.2.1, γ.2.2.2.2)) rfl rfl (.w 3 rfl rfl rfl .nil) (re_litb (cs := [.int .u8 x3]) ([(byte x3)] : List UInt8) rfl rfl Try.underlying27 elt5 rfl (by kernel_rfl) rfl rfl (byte_lit1 hb84v)) (fun _ => ⟨rfl, rfl, rfl, rfl, rfl, trivial⟩) (fun _ => .inr rfl) (fun z => (.sel 0 rfl (.sel 0 rfl (.sel 0 rfl (.sel 0 rfl (.sel 0 rfl (.sel 0 rfl (.sel 0 rfl (.sel 0 rfl (.nil _))))))))))) (All.cons (EObI.mk (Z := Nat) [(94, .int .u8 x3)] (fun z => (γ.1, z, γ.2.2.1, γ.2.2.2.1, γ.2.2.2.2)) rfl rfl (.w 3 rfl rfl rfl .nil) (re_litb (cs := [.int .u8 x3]) ([(byte x3)] : List UInt8) rfl rfl Try.underlying27 elt5 rfl (by kernel_rfl) rfl rfl (byte_lit1 hb84v)) (fun _ => ⟨rfl, rfl, rfl, rfl, rfl, trivial⟩) (fun _ => .inr rfl) (fun z => (.sel 0 rfl (.sel 0 rfl (.sel 0 rfl (.sel 0 rfl (.sel 0 rfl (.sel 0 rfl (.sel 0 rfl (.sel 0 rfl (.sel 0 rfl (.nil _)))))))))))) (All.cons (EObI.mk (Z := Nat) [(94, .int .u8 x3)] (fun z => (γ.1, z, γ.2.2.1, γ.2.2.2.1, γ.2.2.2.2)) rfl rfl (.w 3 rfl rfl rfl .nil) (re_litb (cs := [.int .u8 x3]) ([(byte x3)] : List UInt8) rfl rfl Try.underlying27 elt5 rfl (by kernel_rfl) rfl rfl (byte_lit1 hb84v)) (fun _ => ⟨rfl, rfl, rfl, rfl, rfl, trivial⟩) (fun _ => .inr rfl) (fun z => (.sel 1 rfl (.sel 0 rfl (.sel 0 rfl (.sel 0 rfl (.sel 0 rfl (.sel 0 rfl (.sel 0 rfl (.sel 0 rfl (.sel 0 rfl (.nil _)))))))))))) (All.cons (EObI.mk (Z := Nat) [(94, .int .u8 x3)] (fun z => (γ.1, z, γ.2.2.1, γ.2.2.2.1, γ.2.2.2.2)) rfl rfl (.w 3 rfl rfl rfl .nil) (re_litb (cs := [.int .u8 x3]) ([(byte x3)] : List UInt8) rfl rfl Try.underlying27 elt5 rfl (by kernel_rfl) rfl rfl (byte_lit1 hb84v)) (fun _ => ⟨rfl, rfl, rfl, rfl, rfl, trivial⟩) (fun _ => .inr rfl) (fun z => (.sel 1 rfl (.sel 0 rfl (.sel 0 rfl (.sel 0 rfl (.sel 0 rfl (.sel 0 rfl (.sel 0 rfl (.sel 0 rfl (.sel 0 rfl (.sel 0 rfl (.nil _))))))))))))) All.nil))))) (All.cons (fun γ => (All.cons (EObI.mk (Z := Option Addr × Nat) [(93, .slice γ.1.1 s80v.length γ.1.2), (95, .slice (some ⟨γ.2.1, 0, none⟩) (([(byte x3)] : List UInt8).length) 1)] (fun z => (γ.1, γ.2.1, z, γ.2.2.2.1, γ.2.2.2.2)) rfl rfl (.w 2 rfl rfl rfl (.w 4 rfl rfl rfl .nil)) (re_appendb 1 rfl rfl rfl Try.underlying27 elt5 rfl (Rds.row 0 rfl) hb86v) (fun _ => ⟨rfl, rfl, rfl, rfl, rfl, rfl, trivial⟩) (fun _ => .inr rfl) (fun z => (.sel 0 rfl (.sel 0 rfl (.sel 0 rfl (.sel 0 rfl (.sel 0 rfl (.sel 0 rfl (.sel 0 rfl (.sel 0 rfl (.sel 0 rfl (.nil _)))))))))))) (All.cons (EObI.mk (Z := Option Addr × Nat) [(93, .slice γ.1.1 s80v.length γ.1.2), (95, .slice (some ⟨γ.2.1, 0, none⟩) (([(byte x3)] : List UInt8).length) 1)] (fun z => (γ.1, γ.2.1, z, γ.2.2.2.1, γ.2.2.2.2)) rfl rfl (.w 2 rfl rfl rfl (.w 4 rfl rfl rfl .nil)) (re_appendb 2 rfl rfl rfl Try.underlying27 elt5 rfl (Rds.row 1 rfl) hb86v) (fun _ => ⟨rfl, rfl, rfl, rfl, rfl, rfl, trivial⟩) (fun _ => .inr rfl) (fun z => (.sel 0 rfl (.sel 0 rfl (.sel 0 rfl (.sel 0 rfl (.sel 0 rfl (.sel 0 rfl (.sel 0 rfl (.sel 0 rfl (.sel 0 rfl (.sel 0 rfl (.nil _))))))))))))) All.nil))) (All.cons (fun γ => (All.cons (EObI.mk (Z := Option Addr × Nat × HA × Option Addr × Nat) [(91, .agg #[]), (96, .slice γ.2.2.1.1 ((s80v ++ ([(byte x3)] : List UInt8)).length) γ.2.2.1.2)] (fun z => (γ.1, γ.2.1, γ.2.2.1, z, γ.2.2.2.2)) rfl rfl (.w 0 rfl rfl rfl (.w 5 rfl rfl rfl .nil)) (RE.lend 1 rfl (fun hq87v hq88v hq89v hq90v => re_call (vs := [.agg #[], .slice γ.2.2.1.1 ((s80v ++ ([(byte x3)] : List UInt8)).length) γ.2.2.1.2]) (cap := []) (A := []) (rst := [Row 5 1 (some ⟨γ.2.1, 0, none⟩) ([(byte x3)] : List UInt8).length 1 (encB ([(byte x3)] : List UInt8)), Row 5 1 γ.2.2.1.1 (s80v ++ ([(byte x3)] : List UInt8)).length γ.2.2.1.2 (encB (s80v ++ ([(byte x3)] : List UInt8))), obj g73v.2 31 [.int .i64 s69v.1, .int .i64 s69v.2.1, .int .i64 s69v.2.2.1, .int .i64 s69v.2.2.2.1, .int .i64 s69v.2.2.2.2.1, .int .i64 s69v.2.2.2.2.2.1, .int .i64 s69v.2.2.2.2.2.2.1, .int .i64 s69v.2.2.2.2.2.2.2.1, .int .i64 s69v.2.2.2.2.2.2.2.2.1, .bool s69v.2.2.2.2.2.2.2.2.2.1, .slice g73v.1.1 s69v.2.2.2.2.2.2.2.2.2.2.1.length g73v.1.2.1, .int .i64 s69v.2.2.2.2.2.2.2.2.2.2.2.1, .int .i64 s69v.2.2.2.2.2.2.2.2.2.2.2.2.1, .slice g73v.1.2.2.2.1 s69v.2.2.2.2.2.2.2.2.2.2.2.2.2.1.length g73v.1.2.2.2.2], Row 61 4 g73v.1.1 s69v.2.2.2.2.2.2.2.2.2.2.1.length g73v.1.2.1 rs74v.flatten, g73v.1.2.2.1, Row 5 1 g73v.1.2.2.2.1 s69v.2.2.2.2.2.2.2.2.2.2.2.2.2.1.length g73v.1.2.2.2.2 (encB s69v.2.2.2.2.2.2.2.2.2.2.2.2.2.1), obj b18v 44 [], Row 5 1 y20v.1 s19v.1.length y20v.2 (encB s19v.1), F]) rfl rfl rfl rfl rfl rfl Try.call60 (.sel 0 rfl (.sel 0 rfl (.sel 0 rfl (.sel 0 rfl (.sel 0 rfl (.sel 0 rfl (.sel 0 rfl (.sel 0 rfl (.sel 0 rfl (.nil _)))))))))) (codec_Messages_Get.calls _ _ k γ.2.2.1.1 γ.2.2.1.2 (s80v ++ ([(byte x3)] : List UInt8)) (hq87v.lend 1 rfl) hq88v hq89v) hs93v)) (fun _ => ⟨rfl, rfl, rfl, rfl, rfl, rfl, rfl, trivial⟩) (fun _ => .inr rfl) (fun z => (.sel 0 rfl (.sel 0 rfl (.sel 0 rfl (.sel 0 rfl (.sel 0 rfl (.sel 0 rfl (.sel 0 rfl (.sel 0 rfl (.sel 0 rfl (.sel 0 rfl (.sel 0 rfl (.sel 0 rfl (.nil _))))))))))))))) (All.cons (EObI.mk (Z := Option Addr × Nat × HA × Option Addr × Nat) [(91, .agg #[]), (96, .slice γ.2.2.1.1 ((s80v ++ ([(byte x3)] : List UInt8)).length) γ.2.2.1.2)] (fun z => (γ.1, γ.2.1, γ.2.2.1, z, γ.2.2.2.2)) rfl rfl (.w 0 rfl rfl rfl (.w 5 rfl rfl rfl .nil)) (RE.lend 2 rfl (fun hq87v hq88v hq89v hq90v => re_call (vs := [.agg #[], .slice γ.2.2.1.1 ((s80v ++ ([(byte x3)] : List UInt8)).length) γ.2.2.1.2]) (cap := []) (A := []) (rst := [obj γ.2.2.2.2 31 [.int .i64 0, .int .i64 0, .int .i64 0, .int .i64 0, .int .i64 0, .int .i64 0, .int .i64 0, .int .i64 0, .int .i64 0, .bool false, .slice none 0 0, .int .i64 0, .int .i64 0, .slice none 0 0], Row 5 1 (some ⟨γ.2.1, 0, none⟩) ([(byte x3)] : List UInt8).length 1 (encB ([(byte x3)] : List UInt8)), Row 5 1 γ.2.2.1.1 (s80v ++ ([(byte x3)] : List UInt8)).length γ.2.2.1.2 (encB (s80v ++ ([(byte x3)] : List UInt8))), obj g73v.2 31 [.int .i64 s69v.1, .int .i64 s69v.2.1, .int .i64 s69v.2.2.1, .int .i64 s69v.2.2.2.1, .int .i64 s69v.2.2.2.2.1, .int .i64 s69v.2.2.2.2.2.1, .int .i64 s69v.2.2.2.2.2.2.1, .int .i64 s69v.2.2.2.2.2.2.2.1, .int .i64 s69v.2.2.2.2.2.2.2.2.1, .bool s69v.2.2.2.2.2.2.2.2.2.1, .slice g73v.1.1 s69v.2.2.2.2.2.2.2.2.2.2.1.length g73v.1.2.1, .int .i64 s69v.2.2.2.2.2.2.2.2.2.2.2.1, .int .i64 s69v.2.2.2.2.2.2.2.2.2.2.2.2.1, .slice g73v.1.2.2.2.1 s69v.2.2.2.2.2.2.2.2.2.2.2.2.2.1.length g73v.1.2.2.2.2], Row 61 4 g73v.1.1 s69v.2.2.2.2.2.2.2.2.2.2.1.length g73v.1.2.1 rs74v.flatten, g73v.1.2.2.1, Row 5 1 g73v.1.2.2.2.1 s69v.2.2.2.2.2.2.2.2.2.2.2.2.2.1.length g73v.1.2.2.2.2 (encB s69v.2.2.2.2.2.2.2.2.2.2.2.2.2.1), obj b18v 44 [], Row 5 1 y20v.1 s19v.1.length y20v.2 (encB s19v.1), F]) rfl rfl rfl rfl rfl rfl Try.call60 (.sel 0 rfl (.sel 0 rfl (.sel 0 rfl (.sel 0 rfl (.sel 0 rfl (.sel 0 rfl (.sel 0 rfl (.sel 0 rfl (.sel 0 rfl (.sel 0 rfl (.nil _))))))))))) (codec_Messages_Get.calls _ _ k γ.2.2.1.1 γ.2.2.1.2 (s80v ++ ([(byte x3)] : List UInt8)) (hq87v.lend 2 rfl) hq88v hq89v) hs93v)) (fun _ => ⟨rfl, rfl, rfl, rfl, rfl, rfl, rfl, trivial⟩) (fun _ => .inr rfl) (fun z => (.sel 3 rfl (.sel 0 rfl (.sel 0 rfl (.sel 0 rfl (.sel 0 rfl (.sel 0 rfl (.sel 0 rfl (.sel 0 rfl (.sel 0 rfl (.sel 0 rfl (.sel 0 rfl (.sel 0 rfl (.sel 0 rfl (.nil _)))))))))))))))) All.nil))) (All.cons (fun γ => (All.cons (EObI.mk (Z := Nat) [] (fun z => (γ.1, γ.2.1, γ.2.2.1, γ.2.2.2.1, z)) rfl rfl .nil (re_alloc rfl Try.zeroValue31 rfl) (fun _ => ⟨rfl, rfl, rfl, rfl, rfl, rfl, rfl, rfl, rfl, rfl, trivial⟩) (fun _ => .inr rfl) (fun z => (.sel 0 rfl (.sel 0 rfl (.sel 0 rfl (.sel 0 rfl (.sel 0 rfl (.sel 0 rfl (.sel 0 rfl (.sel 0 rfl (.nil _))))))))))) (All.cons (EObI.mk (Z := Nat) [] (fun z => (γ.1, γ.2.1, γ.2.2.1, γ.2.2.2.1, z)) rfl rfl .nil (re_alloc rfl Try.zeroValue31 rfl) (fun _ => ⟨rfl, rfl, rfl, rfl, rfl, rfl, rfl, rfl, rfl, rfl, trivial⟩) (fun _ => .inr rfl) (fun z => (.sel 0 rfl (.sel 0 rfl (.sel 0 rfl (.sel 0 rfl (.sel 0 rfl (.sel 0 rfl (.sel 0 rfl (.sel 0 rfl (.sel 0 rfl (.nil _)))))))))))) (All.cons (EObI.mk (Z := Nat) [] (fun z => (γ.1, γ.2.1, γ.2.2.1, γ.2.2.2.1, z)) rfl rfl .nil (re_alloc rfl Try.zeroValue31 rfl) (fun _ => ⟨rfl, rfl, rfl, rfl, rfl, rfl, rfl, rfl, rfl, rfl, trivial⟩) (fun _ => .inr rfl) (fun z => (.sel 0 rfl (.sel 0 rfl (.sel 0 rfl (.sel 0 rfl (.sel 0 rfl (.sel 0 rfl (.sel 0 rfl (.sel 0 rfl (.sel 0 rfl (.nil _)))))))))))) (All.cons (EObI.mk (Z := Nat) [] (fun z => (γ.1, γ.2.1, γ.2.2.1, γ.2.2.2.1, z)) rfl rfl .nil (re_alloc rfl Try.zeroValue31 rfl) (fun _ => ⟨rfl, rfl, rfl, rfl, rfl, rfl, rfl, rfl, rfl, rfl, trivial⟩) (fun _ => .inr rfl) (fun z => (.sel 0 rfl (.sel 0 rfl (.sel 0 rfl (.sel 0 rfl (.sel 0 rfl (.sel 0 rfl (.sel 0 rfl (.sel 0 rfl (.sel 0 rfl (.sel 0 rfl (.nil _))))))))))))) (All.cons (EObI.mk (Z := Nat) [] (fun z => (γ.1, γ.2.1, γ.2.2.1, γ.2.2.2.1, z)) rfl rfl .nil (re_alloc rfl Try.zeroValue31 rfl) (fun _ => ⟨rfl, rfl, rfl, rfl, rfl, rfl, rfl, rfl, rfl, rfl, trivial⟩) (fun _ => .inr rfl) (fun z => (.sel 0 rfl (.sel 0 rfl (.sel 0 rfl (.sel 0 rfl (.sel 0 rfl (.sel 0 rfl (.sel 0 rfl (.sel 0 rfl (.sel 0 rfl (.sel 0 rfl (.nil _))))))))))))) (All.cons (EObI.mk (Z := Nat) [] (fun z => (γ.1, γ.2.1, γ.2.2.1, γ.2.2.2.1, z)) rfl rfl .nil (re_alloc rfl Try.zeroValue31 rfl) (fun _ => ⟨rfl, rfl, rfl, rfl, rfl, rfl, rfl, rfl, rfl, rfl, trivial⟩) (fun _ => .inr rfl) (fun z => (.sel 0 rfl (.sel 0 rfl (.sel 0 rfl (.sel 0 rfl (.sel 0 rfl (.sel 0 rfl (.sel 0 rfl (.sel 0 rfl (.sel 0 rfl (.sel 0 rfl (.sel 0 rfl (.sel 0 rfl (.sel 0 rfl (.nil _)))))))))))))))) All.nil))))))) (All.cons (fun γ => (All.cons (EObI.mk (Z := Unit) [(20, .pointer (some ⟨γ.2.2.2.2, 0, none⟩)), (98, .agg #[.int .i64 s91v.1, .int .i64 s91v.2.1, .int .i64 s91v.2.2.1, .int .i64 s91v.2.2.2.1, .int .i64 s91v.2.2.2.2.1, .int .i64 s91v.2.2.2.2.2.1, .int .i64 s91v.2.2.2.2.2.2.1, .int .i64 s91v.2.2.2.2.2.2.2.1, .int .i64 s91v.2.2.2.2.2.2.2.2.1, .bool s91v.2.2.2.2.2.2.2.2.2.1, .slice γ.2.2.2.1.1 s91v.2.2.2.2.2.2.2.2.2.2.1.length γ.2.2.2.1.2.1, .int .i64 s91v.2.2.2.2.2.2.2.2.2.2.2.1, .int .i64 s91v.2.2.2.2.2.2.2.2.2.2.2.2.1, .slice γ.2.2.2.1.2.2.2.1 s91v.2.2.2.2.2.2.2.2.2.2.2.2.2.1.length γ.2.2.2.1.2.2.2.2])] (fun z => (γ.1, γ.2.1, γ.2.2.1, γ.2.2.2.1, γ.2.2.2.2)) rfl rfl (.w 10 rfl rfl rfl (.w 8 rfl rfl rfl .nil)) (re_store 0 rfl rfl rfl Try.sizeOf31 rfl rfl (one_of (by rfl)) rfl rfl) (fun _ => ⟨rfl, rfl, rfl, rfl, rfl, rfl, rfl, rfl, rfl, rfl, rfl, trivial⟩) (fun _ => .inl rfl) (fun z => (.sel 0 rfl (.sel 0 rfl (.sel 0 rfl (.sel 0 rfl (.sel 0 rfl (.sel 0 rfl (.sel 0 rfl (.sel 0 rfl (.sel 0 rfl (.sel 0 rfl (.sel 0 rfl (.sel 0 rfl (.sel 0 rfl (.nil _)))))))))))))))) All.nil)) All.nil))))))
 intro g95v
 refine nrm_then (sim_seq (sim_region ?_))
 refine simL_val (q_move rfl rfl) rfl rfl rfl ?_
 refine simL_bind (fun s96v hs98v => ?_)
 refine simL_eff (re_call (vs := [.int .i64 s69v.2.2.2.2.2.2.2.2.2.2.2.2.2.2]) (cap := []) (A := []) (rst := [obj g95v.2.2.2.2 31 [.int .i64 s91v.1, .int .i64 s91v.2.1, .int .i64 s91v.2.2.1, .int .i64 s91v.2.2.2.1, .int .i64 s91v.2.2.2.2.1, .int .i64 s91v.2.2.2.2.2.1, .int .i64 s91v.2.2.2.2.2.2.1, .int .i64 s91v.2.2.2.2.2.2.2.1, .int .i64 s91v.2.2.2.2.2.2.2.2.1, .bool s91v.2.2.2.2.2.2.2.2.2.1, .slice g95v.2.2.2.1.1 s91v.2.2.2.2.2.2.2.2.2.2.1.length g95v.2.2.2.1.2.1, .int .i64 s91v.2.2.2.2.2.2.2.2.2.2.2.1, .int .i64 s91v.2.2.2.2.2.2.2.2.2.2.2.2.1, .slice g95v.2.2.2.1.2.2.2.1 s91v.2.2.2.2.2.2.2.2.2.2.2.2.2.1.length g95v.2.2.2.1.2.2.2.2], RowV 61 4 (V61 (g95v.2.2.2.1.2.2.1)) g95v.2.2.2.1.1 s91v.2.2.2.2.2.2.2.2.2.2.1 g95v.2.2.2.1.2.1, g95v.2.2.2.1.2.2.1, Row 5 1 g95v.2.2.2.1.2.2.2.1 s91v.2.2.2.2.2.2.2.2.2.2.2.2.2.1.length g95v.2.2.2.1.2.2.2.2 (encB s91v.2.2.2.2.2.2.2.2.2.2.2.2.2.1), Row 5 1 (some ⟨g95v.2.1, 0, none⟩) ([(byte x3)] : List UInt8).length 1 (encB ([(byte x3)] : List UInt8)), Row 5 1 g95v.2.2.1.1 (s80v ++ ([(byte x3)] : List UInt8)).length g95v.2.2.1.2 (encB (s80v ++ ([(byte x3)] : List UInt8))), obj g73v.2 31 [.int .i64 s69v.1, .int .i64 s69v.2.1, .int .i64 s69v.2.2.1, .int .i64 s69v.2.2.2.1, .int .i64 s69v.2.2.2.2.1, .int .i64 s69v.2.2.2.2.2.1, .int .i64 s69v.2.2.2.2.2.2.1, .int .i64 s69v.2.2.2.2.2.2.2.1, .int .i64 s69v.2.2.2.2.2.2.2.2.1, .bool s69v.2.2.2.2.2.2.2.2.2.1, .slice g73v.1.1 s69v.2.2.2.2.2.2.2.2.2.2.1.length g73v.1.2.1, .int .i64 s69v.2.2.2.2.2.2.2.2.2.2.2.1, .int .i64 s69v.2.2.2.2.2.2.2.2.2.2.2.2.1, .slice g73v.1.2.2.2.1 s69v.2.2.2.2.2.2.2.2.2.2.2.2.2.1.length g73v.1.2.2.2.2], Row 61 4 g73v.1.1 s69v.2.2.2.2.2.2.2.2.2.2.1.length g73v.1.2.1 rs74v.flatten, g73v.1.2.2.1, Row 5 1 g73v.1.2.2.2.1 s69v.2.2.2.2.2.2.2.2.2.2.2.2.2.1.length g73v.1.2.2.2.2 (encB s69v.2.2.2.2.2.2.2.2.2.2.2.2.2.1), obj b18v 44 [], Row 5 1 y20v.1 s19v.1.length y20v.2 (encB s19v.1), F]) rfl rfl rfl rfl rfl rfl Try.call26 (.sel 0 rfl (.sel 0 rfl (.sel 0 rfl (.sel 0 rfl (.sel 0 rfl (.sel 0 rfl (.sel 0 rfl (.sel 0 rfl (.sel 0 rfl (.sel 0 rfl (.sel 0 rfl (.sel 0 rfl (.sel 0 rfl (.nil _)))))))))))))) (synodref_Num.calls _ _ s69v.2.2.2.2.2.2.2.2.2.2.2.2.2.2 ) hs98v) rfl rfl rfl ?_
 intro y97v
 refine simL_val (q_neq rfl rfl rfl) rfl rfl rfl ?_
 refine simL_val (q_move rfl rfl) rfl rfl rfl ?_
 refine simL_cut' 4 (S := Bool) (Unit) (fun s y => [(107, .bool s)]) (fun s y => [F]) ?_ ?_
 refine simL_casen (fun hb104v => ?_) (fun hb105v => ?_)
 rw [hb104v]
 refine simL_valg (q_move rfl rfl) rfl rfl rfl rfl rfl rfl ?_
 refine simL_bind (fun s101v hs103v => ?_)
 refine simL_effg (re_call (vs := [.int .i64 s91v.2.2.2.2.2.2.2.2.2.2.2.2.2.2]) (cap := []) (A := []) (rst := [obj g95v.2.2.2.2 31 [.int .i64 s91v.1, .int .i64 s91v.2.1, .int .i64 s91v.2.2.1, .int .i64 s91v.2.2.2.1, .int .i64 s91v.2.2.2.2.1, .int .i64 s91v.2.2.2.2.2.1, .int .i64 s91v.2.2.2.2.2.2.1, .int .i64 s91v.2.2.2.2.2.2.2.1, .int .i64 s91v.2.2.2.2.2.2.2.2.1, .bool s91v.2.2.2.2.2.2.2.2.2.1, .slice g95v.2.2.2.1.1 s91v.2.2.2.2.2.2.2.2.2.2.1.length g95v.2.2.2.1.2.1, .int .i64 s91v.2.2.2.2.2.2.2.2.2.2.2.1, .int .i64 s91v.2.2.2.2.2.2.2.2.2.2.2.2.1, .slice g95v.2.2.2.1.2.2.2.1 s91v.2.2.2.2.2.2.2.2.2.2.2.2.2.1.length g95v.2.2.2.1.2.2.2.2], RowV 61 4 (V61 (g95v.2.2.2.1.2.2.1)) g95v.2.2.2.1.1 s91v.2.2.2.2.2.2.2.2.2.2.1 g95v.2.2.2.1.2.1, g95v.2.2.2.1.2.2.1, Row 5 1 g95v.2.2.2.1.2.2.2.1 s91v.2.2.2.2.2.2.2.2.2.2.2.2.2.1.length g95v.2.2.2.1.2.2.2.2 (encB s91v.2.2.2.2.2.2.2.2.2.2.2.2.2.1), Row 5 1 (some ⟨g95v.2.1, 0, none⟩) ([(byte x3)] : List UInt8).length 1 (encB ([(byte x3)] : List UInt8)), Row 5 1 g95v.2.2.1.1 (s80v ++ ([(byte x3)] : List UInt8)).length g95v.2.2.1.2 (encB (s80v ++ ([(byte x3)] : List UInt8))), obj g73v.2 31 [.int .i64 s69v.1, .int .i64 s69v.2.1, .int .i64 s69v.2.2.1, .int .i64 s69v.2.2.2.1, .int .i64 s69v.2.2.2.2.1, .int .i64 s69v.2.2.2.2.2.1, .int .i64 s69v.2.2.2.2.2.2.1, .int .i64 s69v.2.2.2.2.2.2.2.1, .int .i64 s69v.2.2.2.2.2.2.2.2.1, .bool s69v.2.2.2.2.2.2.2.2.2.1, .slice g73v.1.1 s69v.2.2.2.2.2.2.2.2.2.2.1.length g73v.1.2.1, .int .i64 s69v.2.2.2.2.2.2.2.2.2.2.2.1, .int .i64 s69v.2.2.2.2.2.2.2.2.2.2.2.2.1, .slice g73v.1.2.2.2.1 s69v.2.2.2.2.2.2.2.2.2.2.2.2.2.1.length g73v.1.2.2.2.2], Row 61 4 g73v.1.1 s69v.2.2.2.2.2.2.2.2.2.2.1.length g73v.1.2.1 rs74v.flatten, g73v.1.2.2.1, Row 5 1 g73v.1.2.2.2.1 s69v.2.2.2.2.2.2.2.2.2.2.2.2.2.1.length g73v.1.2.2.2.2 (encB s69v.2.2.2.2.2.2.2.2.2.2.2.2.2.1), obj b18v 44 [], Row 5 1 y20v.1 s19v.1.length y20v.2 (encB s19v.1), F]) rfl rfl rfl rfl rfl rfl Try.call26 (.sel 0 rfl (.sel 0 rfl (.sel 0 rfl (.sel 0 rfl (.sel 0 rfl (.sel 0 rfl (.sel 0 rfl (.sel 0 rfl (.sel 0 rfl (.sel 0 rfl (.sel 0 rfl (.sel 0 rfl (.sel 0 rfl (.nil _)))))))))))))) (synodref_Num.calls _ _ s91v.2.2.2.2.2.2.2.2.2.2.2.2.2.2 ) hs103v) rfl rfl rfl rfl rfl rfl ?_
 intro y102v
 refine simL_valg (q_neq rfl rfl rfl) rfl rfl rfl rfl rfl rfl ?_
 refine simL_val (q_pick rfl rfl rfl rfl rfl) rfl rfl rfl (simL_nil ?_)
 exact nrm_cut (s := !decide (s101v = (0 : Int))) () ⟨rfl, trivial⟩ (.sel 12 rfl (.nil _))
 rw [hb105v]
 refine simL_skipd rfl rfl rfl rfl rfl rfl ?_
 refine simL_skipd rfl rfl rfl rfl rfl rfl ?_
 refine simL_skipd rfl rfl rfl rfl rfl rfl ?_
 refine simL_val (q_pick rfl rfl rfl rfl rfl) rfl rfl rfl (simL_nil ?_)
 exact nrm_cut (s := false) () ⟨rfl, trivial⟩ (.sel 12 rfl (.nil _))
 intro s99v y100v
 refine simL_val (q_asg rfl rfl) rfl rfl rfl (simL_nil (nrm_then (sim_rtn ?_)))
 exact rtn_fn () rfl rfl rfl (.sel 0 rfl (.nil _))

def synodref3_within.f (x0 : Int) (x1 : Int) (x2 : Int) : Option (Bool) := some ((decide (x1 ≤ x0)) && (decide (x0 ≤ x2)))
theorem synodref3_within.calls (W : World) (F : HA) (x0 : Int) (x1 : Int) (x2 : Int)  :
    Fn Try.prog W 69 [.int .i64 x0, .int .i64 x1, .int .i64 x2] [] F (synodref3_within.f x0 x1 x2) (fun (r : Bool) (y : Unit) => .bool r) (fun r y => []) := by
 unfold synodref3_within.f
 refine fn_intro 15 Try.func69 rfl Try.ntmps69 rfl ?_
 refine sim_seq (sim_region ?_)
 refine simL_val (q_asg rfl rfl) rfl rfl rfl (simL_nil (nrm_then (sim_seq (sim_region ?_))))
 refine simL_val (q_move rfl rfl) rfl rfl rfl ?_
 refine simL_val (q_move rfl rfl) rfl rfl rfl ?_
 refine simL_val (q_geq rfl rfl rfl) rfl rfl rfl ?_
 refine simL_val (q_move rfl rfl) rfl rfl rfl ?_
 refine simL_valc (b := decide (x1 ≤ x0)) (fun hb3v => RQ.sub (E' := [(0, .int .i64 x0)]) ⟨rfl, trivial⟩ (q_move rfl rfl)) rfl rfl rfl rfl rfl ?_
 refine simL_valc (b := decide (x1 ≤ x0)) (fun hb2v => RQ.sub (E' := [(2, .int .i64 x2)]) ⟨rfl, trivial⟩ (q_move rfl rfl)) rfl rfl rfl rfl rfl ?_
 refine simL_valc (b := decide (x1 ≤ x0)) (fun hb1v => RQ.sub (E' := [(11, .int .i64 x0), (12, .int .i64 x2)]) ⟨lk_cv rfl hb1v, lk_cv rfl hb1v, trivial⟩ (q_leq rfl rfl rfl)) rfl rfl rfl rfl rfl ?_
 refine simL_val (q_and rfl rfl rfl) rfl rfl rfl ?_
 refine simL_val (q_asg rfl rfl) rfl rfl rfl (simL_nil (nrm_then (sim_rtn ?_)))
 exact rtn_fn () rfl rfl rfl (.sel 0 rfl (.nil _))
def synodref3_within.v (x0 : Int) (x1 : Int) (x2 : Int) : Bool := (synodref3_within.f x0 x1 x2).getD false
theorem synodref3_within.tot (x0 : Int) (x1 : Int) (x2 : Int) : synodref3_within.f x0 x1 x2 = some (synodref3_within.v x0 x1 x2) := by
  have h : ∃ r, synodref3_within.f x0 x1 x2 = some r := by
    unfold synodref3_within.f
    repeat' (first | exact ⟨_, rfl⟩ | split | simp only [Option.bind_some])
  obtain ⟨r, h⟩ := h
  unfold synodref3_within.v
  rw [h]; rfl

def synodref3_CheckEntry.f (x0_0 : Int) (x0_1 : Int) (x0_2 : Int) (x0_3 : List UInt8) : Option (Int) := (synodref3_within.f x0_0 (1 : Int) (4611686018427387904 : Int)).bind fun s2v => ((if (!s2v) = true then (some true) else ((synodref3_within.f x0_1 (1 : Int) (4611686018427387904 : Int)).bind fun s7v => (some (!s7v)))).bind fun s5v => (if s5v = true then (some 1) else (if ((!decide (x0_2 = (0 : Int))) && (!decide (x0_2 = (1 : Int)))) = true then (some 6) else (if (4096 : Int) < (x0_3.length : Int) then (some 3) else (if ((decide (x0_2 = (0 : Int))) && (decide ((0 : Int) < (x0_3.length : Int)))) = true then (some 4) else (some 0))))))
theorem synodref3_CheckEntry.calls (W : World) (F : HA) (x0_0 : Int) (x0_1 : Int) (x0_2 : Int) (a0_3 : Option Addr) (c0_3 : Nat) (x0_3 : List UInt8) (h0_3 : Rd F a0_3 (encB x0_3)) (hc0_3 : x0_3.length ≤ c0_3) (hm0_3 : c0_3 ≤ maxLen) :
    Fn Try.prog W 35 [.agg #[.int .i64 x0_0, .int .i64 x0_1, .int .i64 x0_2, .slice a0_3 x0_3.length c0_3]] [] F (synodref3_CheckEntry.f x0_0 x0_1 x0_2 x0_3) (fun (r : Int) (y : Unit) => .int .i64 r) (fun r y => []) := by
 unfold synodref3_CheckEntry.f
 refine fn_intro 34 Try.func35 rfl Try.ntmps35 rfl ?_
 refine sim_seq (sim_region ?_)
 refine simL_eff (re_box rfl rfl rfl) rfl rfl rfl ?_
 intro b1v
 refine simL_val (q_asg rfl rfl) rfl rfl rfl (simL_nil (nrm_then (sim_seq (sim_seq (sim_region ?_)))))
 refine simL_val (q_fa rfl rfl Try.underlying61 rfl rfl Try.sizeOf3 rfl) rfl rfl rfl ?_
 refine simL_val (q_load rfl rfl Try.isAgg3 (.obj 0 rfl rfl)) rfl rfl rfl ?_
 refine simL_bind (fun s2v hs4v => ?_)
 refine simL_eff (re_call (vs := [.int .i64 x0_0, .int .i64 1, .int .i64 4611686018427387904]) (cap := []) (A := []) (rst := [obj b1v 61 [.int .i64 x0_0, .int .i64 x0_1, .int .i64 x0_2, .slice a0_3 x0_3.length c0_3], F]) rfl rfl rfl rfl rfl rfl Try.call69 (.sel 0 rfl (.sel 0 rfl (.nil _))) (synodref3_within.calls _ _ x0_0 (1 : Int) (4611686018427387904 : Int) ) hs4v) rfl rfl rfl ?_
 intro y3v
 refine simL_val (q_not rfl rfl) rfl rfl rfl ?_
 refine simL_val (q_move rfl rfl) rfl rfl rfl ?_
 refine simL_cut' 5 (S := Bool) (Unit) (fun s y => [(1, .pointer (some ⟨b1v, 0, none⟩)), (12, .bool s)]) (fun s y => [obj b1v 61 [.int .i64 x0_0, .int .i64 x0_1, .int .i64 x0_2, .slice a0_3 x0_3.length c0_3], F]) ?_ ?_
 refine simL_caseb (fun hb10v => ?_) (fun hb11v => ?_)
 rw [hb10v]
 refine simL_skipd rfl rfl rfl rfl rfl rfl ?_
 refine simL_skipd rfl rfl rfl rfl rfl rfl ?_
 refine simL_skipd rfl rfl rfl rfl rfl rfl ?_
 refine simL_skipd rfl rfl rfl rfl rfl rfl ?_
 refine simL_val (q_pick rfl rfl rfl rfl rfl) rfl rfl rfl (simL_nil ?_)
 exact nrm_cut (s := true) () ⟨rfl, rfl, trivial⟩ (.sel 0 rfl (.sel 0 rfl (.nil _)))
 rw [hb11v]
 refine simL_valg (q_fa rfl rfl Try.underlying61 rfl rfl Try.sizeOf3 rfl) rfl rfl rfl rfl rfl rfl ?_
 refine simL_valg (q_load rfl rfl Try.isAgg3 (.obj 0 rfl rfl)) rfl rfl rfl rfl rfl rfl ?_
 refine simL_bind (fun s7v hs9v => ?_)
 refine simL_effg (re_call (vs := [.int .i64 x0_1, .int .i64 1, .int .i64 4611686018427387904]) (cap := []) (A := []) (rst := [obj b1v 61 [.int .i64 x0_0, .int .i64 x0_1, .int .i64 x0_2, .slice a0_3 x0_3.length c0_3], F]) rfl rfl rfl rfl rfl rfl Try.call69 (.sel 0 rfl (.sel 0 rfl (.nil _))) (synodref3_within.calls _ _ x0_1 (1 : Int) (4611686018427387904 : Int) ) hs9v) rfl rfl rfl rfl rfl rfl ?_
 intro y8v
 refine simL_valg (q_not rfl rfl) rfl rfl rfl rfl rfl rfl ?_
 refine simL_val (q_pick rfl rfl rfl rfl rfl) rfl rfl rfl (simL_nil ?_)
 exact nrm_cut (s := !s7v) () ⟨rfl, rfl, trivial⟩ (.sel 0 rfl (.sel 0 rfl (.nil _)))
 intro s5v y6v
 refine simL_nil (nrm_then ?_)
 refine sim_condb rfl (fun h12v => ?_) (fun h13v => ?_)
 refine sim_seq (sim_region ?_)
 refine simL_val (q_asg rfl rfl) rfl rfl rfl (simL_nil (nrm_then (sim_rtn ?_)))
 refine rtn_then ?_
 exact rtn_fn () rfl rfl rfl (.sel 1 rfl (.nil _))
 refine sim_skip ?_
 refine nrm_then (sim_seq (sim_seq (sim_region ?_)))
 refine simL_val (q_fa rfl rfl Try.underlying61 rfl rfl Try.sizeOf3 rfl) rfl rfl rfl ?_
 refine simL_val (q_load rfl rfl Try.isAgg3 (.obj 0 rfl rfl)) rfl rfl rfl ?_
 refine simL_val (q_neq rfl rfl rfl) rfl rfl rfl ?_
 refine simL_val (q_move rfl rfl) rfl rfl rfl ?_
 refine simL_valc (b := !decide (x0_2 = (0 : Int))) (fun hb26v => RQ.sub (E' := [(1, .pointer (some ⟨b1v, 0, none⟩))]) ⟨rfl, trivial⟩ (q_fa rfl rfl Try.underlying61 rfl rfl Try.sizeOf3 rfl)) rfl rfl rfl rfl rfl ?_
 refine simL_valc (b := !decide (x0_2 = (0 : Int))) (fun hb25v => RQ.sub (E' := [(17, .pointer (some ⟨b1v, 2, none⟩))]) ⟨lk_cv rfl hb25v, trivial⟩ (q_load rfl rfl Try.isAgg3 (.obj 0 rfl rfl))) rfl rfl rfl rfl rfl ?_
 refine simL_valc (b := !decide (x0_2 = (0 : Int))) (fun hb24v => RQ.sub (E' := [(18, .int .i64 x0_2)]) ⟨lk_cv rfl hb24v, trivial⟩ (q_neq rfl rfl rfl)) rfl rfl rfl rfl rfl ?_
 refine simL_val (q_and rfl rfl rfl) rfl rfl rfl (simL_nil (nrm_then ?_))
 refine sim_condb rfl (fun h14v => ?_) (fun h15v => ?_)
 refine sim_seq (sim_region ?_)
 refine simL_val (q_asg rfl rfl) rfl rfl rfl (simL_nil (nrm_then (sim_rtn ?_)))
 refine rtn_then ?_
 exact rtn_fn () rfl rfl rfl (.sel 1 rfl (.nil _))
 refine sim_skip ?_
 refine nrm_then (sim_seq (sim_seq (sim_region ?_)))
 refine simL_val (q_fa rfl rfl Try.underlying61 rfl rfl Try.sizeOf27 rfl) rfl rfl rfl ?_
 refine simL_val (q_load rfl rfl Try.isAgg27 (.obj 0 rfl rfl)) rfl rfl rfl ?_
 refine simL_val (q_len rfl rfl rfl Try.underlying27) rfl rfl rfl ?_
 refine simL_val (q_gtr rfl rfl rfl) rfl rfl rfl (simL_nil (nrm_then ?_))
 refine sim_cond rfl (fun h16v => ?_) (fun h17v => ?_)
 refine sim_seq (sim_region ?_)
 refine simL_val (q_asg rfl rfl) rfl rfl rfl (simL_nil (nrm_then (sim_rtn ?_)))
 refine rtn_then ?_
 exact rtn_fn () rfl rfl rfl (.sel 1 rfl (.nil _))
 refine sim_skip ?_
 refine nrm_then (sim_seq (sim_seq (sim_region ?_)))
 refine simL_val (q_fa rfl rfl Try.underlying61 rfl rfl Try.sizeOf3 rfl) rfl rfl rfl ?_
 refine simL_val (q_load rfl rfl Try.isAgg3 (.obj 0 rfl rfl)) rfl rfl rfl ?_
 refine simL_val (q_eql rfl rfl rfl) rfl rfl rfl ?_
 refine simL_val (q_move rfl rfl) rfl rfl rfl ?_
 refine simL_valc (b := decide (x0_2 = (0 : Int))) (fun hb23v => RQ.sub (E' := [(1, .pointer (some ⟨b1v, 0, none⟩))]) ⟨rfl, trivial⟩ (q_fa rfl rfl Try.underlying61 rfl rfl Try.sizeOf27 rfl)) rfl rfl rfl rfl rfl ?_
 refine simL_valc (b := decide (x0_2 = (0 : Int))) (fun hb22v => RQ.sub (E' := [(29, .pointer (some ⟨b1v, 3, none⟩))]) ⟨lk_cv rfl hb22v, trivial⟩ (q_load rfl rfl Try.isAgg27 (.obj 0 rfl rfl))) rfl rfl rfl rfl rfl ?_
 refine simL_valc (b := decide (x0_2 = (0 : Int))) (fun hb21v => RQ.sub (E' := [(30, .slice a0_3 x0_3.length c0_3)]) ⟨lk_cv rfl hb21v, trivial⟩ (q_len rfl rfl rfl Try.underlying27)) rfl rfl rfl rfl rfl ?_
 refine simL_valc (b := decide (x0_2 = (0 : Int))) (fun hb20v => RQ.sub (E' := [(31, .int .i64 (x0_3.length : Int))]) ⟨lk_cv rfl hb20v, trivial⟩ (q_gtr rfl rfl rfl)) rfl rfl rfl rfl rfl ?_
 refine simL_val (q_and rfl rfl rfl) rfl rfl rfl (simL_nil (nrm_then ?_))
 refine sim_condb rfl (fun h18v => ?_) (fun h19v => ?_)
 refine sim_seq (sim_region ?_)
 refine simL_val (q_asg rfl rfl) rfl rfl rfl (simL_nil (nrm_then (sim_rtn ?_)))
 refine rtn_then ?_
 exact rtn_fn () rfl rfl rfl (.sel 1 rfl (.nil _))
 refine sim_skip ?_
 refine nrm_then (sim_seq (sim_region ?_))
 refine simL_val (q_asg rfl rfl) rfl rfl rfl (simL_nil (nrm_then (sim_rtn ?_)))
 exact rtn_fn () rfl rfl rfl (.sel 1 rfl (.nil _))
def synodref3_CheckEntry.v (x0_0 : Int) (x0_1 : Int) (x0_2 : Int) (x0_3 : List UInt8) : Int := (synodref3_CheckEntry.f x0_0 x0_1 x0_2 x0_3).getD 0
theorem synodref3_CheckEntry.tot (x0_0 : Int) (x0_1 : Int) (x0_2 : Int) (x0_3 : List UInt8) : synodref3_CheckEntry.f x0_0 x0_1 x0_2 x0_3 = some (synodref3_CheckEntry.v x0_0 x0_1 x0_2 x0_3) := by
  have h : ∃ r, synodref3_CheckEntry.f x0_0 x0_1 x0_2 x0_3 = some r := by
    unfold synodref3_CheckEntry.f
    repeat' (first | exact ⟨_, rfl⟩ | split | simp only [Option.bind_some, synodref3_within.tot])
  obtain ⟨r, h⟩ := h
  unfold synodref3_CheckEntry.v
  rw [h]; rfl

def synodref1_Size.l0 : Nat → Int → Int → Option (Int)
  | 0, _, _ => none
  | k + 1, z7v, z8v => if (128 : Int) ≤ z7v then (synodref1_Size.l0 k (IntKind.i64.wrap (Int.tdiv z7v 128)) (IntKind.i64.wrap (z8v + 1))) else (some z8v)
def synodref1_Size.f (k : Nat) (x0 : Int) : Option (Int) := if ((decide (x0 < (0 : Int))) || (decide ((4611686018427387904 : Int) < x0))) = true then (some 0) else ((synodref1_Size.l0 k x0 1).bind fun s3v => (some s3v))
theorem synodref1_Size.calls (W : World) (F : HA) (k : Nat) (x0 : Int)  :
    Fn Try.prog W 137 [.int .i64 x0] [] F (synodref1_Size.f k x0) (fun (r : Int) (y : Unit) => .int .i64 r) (fun r y => []) := by
 unfold synodref1_Size.f
 refine fn_intro 17 Try.func137 rfl Try.ntmps137 rfl ?_
 refine sim_seq (sim_region ?_)
 refine simL_val (q_asg rfl rfl) rfl rfl rfl (simL_nil (nrm_then (sim_seq (sim_seq (sim_region ?_)))))
 refine simL_val (q_move rfl rfl) rfl rfl rfl ?_
 refine simL_val (q_lss rfl rfl rfl) rfl rfl rfl ?_
 refine simL_val (q_move rfl rfl) rfl rfl rfl ?_
 refine simL_valc (b := decide (x0 < (0 : Int))) (fun hb13v => RQ.sub (E' := [(0, .int .i64 x0)]) ⟨rfl, trivial⟩ (q_move rfl rfl)) rfl rfl rfl rfl rfl ?_
 refine simL_valc (b := decide (x0 < (0 : Int))) (fun hb12v => RQ.sub (E' := [(7, .int .i64 x0)]) ⟨lk_cv rfl hb12v, trivial⟩ (q_gtr rfl rfl rfl)) rfl rfl rfl rfl rfl ?_
 refine simL_val (q_or rfl rfl rfl) rfl rfl rfl (simL_nil (nrm_then ?_))
 refine sim_condb rfl (fun h1v => ?_) (fun h2v => ?_)
 refine sim_seq (sim_region ?_)
 refine simL_val (q_asg rfl rfl) rfl rfl rfl (simL_nil (nrm_then (sim_rtn ?_)))
 refine rtn_then ?_
 exact rtn_fn () rfl rfl rfl (.sel 0 rfl (.nil _))
 refine sim_skip ?_
 refine nrm_then (sim_seq (sim_region ?_))
 refine simL_val (q_asg rfl rfl) rfl rfl rfl (simL_nil (nrm_then ?_))
 refine sim_cut (S := Int) (Unit) (fun s y => [(3, .int .i64 s)]) (fun s y => [F]) ?_ ?_
 refine sim_block ?_
 refine sim_loop (S := Int × Int) (Unit) (fun k s => synodref1_Size.l0 k s.1 s.2) (fun s y => [(0, .int .i64 s.1), (3, .int .i64 s.2)]) (fun s y => [F]) (fun _ => by rw [synodref1_Size.l0]) ?_ k (x0, 1) () ⟨rfl, rfl, trivial⟩ (.sel 0 rfl (.nil _))
 intro k s5v y6v
 refine sim_eq (by rw [synodref1_Size.l0]) ?_
 refine sim_seq (sim_seq (sim_region ?_))
 refine simL_val (q_move rfl rfl) rfl rfl rfl ?_
 refine simL_val (q_geq rfl rfl rfl) rfl rfl rfl (simL_nil (nrm_then ?_))
 refine sim_cond rfl (fun h9v => ?_) (fun h10v => ?_)
 refine sim_skip ?_
 refine nrm_then ?_
 refine sim_block ?_
 refine sim_seq (sim_region ?_)
 refine simL_val (q_move rfl rfl) rfl rfl rfl ?_
 refine simL_val (q_quo rfl rfl rfl (by decide)) rfl rfl rfl ?_
 refine simL_val (q_asg rfl rfl) rfl rfl rfl (simL_nil (nrm_then (sim_region ?_)))
 refine simL_val (q_move rfl rfl) rfl rfl rfl ?_
 refine simL_val (q_add rfl rfl rfl) rfl rfl rfl ?_
 refine simL_val (q_asg rfl rfl) rfl rfl rfl (simL_nil (nrm_block ?_))
 exact nrm_again (s := (IntKind.i64.wrap (Int.tdiv s5v.1 128), IntKind.i64.wrap (s5v.2 + 1))) () ⟨rfl, rfl, trivial⟩ (.sel 0 rfl (.nil _))
 refine sim_exi ?_
 refine exi_then ?_
 refine exi_loop ?_
 refine exi_here ?_
 exact nrm_cut (s := s5v.2) () ⟨rfl, trivial⟩ (.sel 0 rfl (.nil _))
 intro s3v y4v
 refine sim_seq (sim_region ?_)
 refine simL_val (q_move rfl rfl) rfl rfl rfl ?_
 refine simL_val (q_asg rfl rfl) rfl rfl rfl (simL_nil (nrm_then (sim_rtn ?_)))
 exact rtn_fn () rfl rfl rfl (.sel 0 rfl (.nil _))

def synodref1_PutInt.l0 : Nat → Int → List UInt8 → Option (Int × List UInt8)
  | 0, _, _ => none
  | k + 1, z10v, z11v => if (128 : Int) ≤ z10v then (if 0 ≤ IntKind.u8.wrap (IntKind.i64.wrap ((Int.tmod z10v 128) + 128)) ∧ IntKind.u8.wrap (IntKind.i64.wrap ((Int.tmod z10v 128) + 128)) < 256 then (if (z11v.length + ([(byte (IntKind.u8.wrap (IntKind.i64.wrap ((Int.tmod z10v 128) + 128))))] : List UInt8).length) * 1 ≤ 140737488355328 then (synodref1_PutInt.l0 k (IntKind.i64.wrap (Int.tdiv z10v 128)) (z11v ++ ([(byte (IntKind.u8.wrap (IntKind.i64.wrap ((Int.tmod z10v 128) + 128))))] : List UInt8))) else none) else none) else (some (z10v, z11v))
def synodref1_PutInt.f (k : Nat) (x0 : Int) : Option (List UInt8 × Int) := (synodref1_Size.f k x0).bind fun s1v => (if s1v = (0 : Int) then (some (([] : List UInt8), 1)) else ((synodref1_PutInt.l0 k x0 ([] : List UInt8)).bind fun s6v => (if 0 ≤ IntKind.u8.wrap s6v.1 ∧ IntKind.u8.wrap s6v.1 < 256 then (if (s6v.2.length + ([(byte (IntKind.u8.wrap s6v.1))] : List UInt8).length) * 1 ≤ 140737488355328 then (some (s6v.2 ++ ([(byte (IntKind.u8.wrap s6v.1))] : List UInt8), 0)) else none) else none)))
theorem synodref1_PutInt.calls (W : World) (F : HA) (k : Nat) (x0 : Int)  :
    Fn Try.prog W 127 [.int .i64 x0] [] F (synodref1_PutInt.f k x0) (fun (r : List UInt8 × Int) (y : Option Addr × Nat) => .tuple #[.slice y.1 r.1.length y.2, .int .i64 r.2]) (fun r y => [Row 5 1 y.1 r.1.length y.2 (encB r.1)]) := by
 unfold synodref1_PutInt.f
 refine fn_intro 24 Try.func127 rfl Try.ntmps127 rfl ?_
 refine sim_seq (sim_region ?_)
 refine simL_val (q_asg rfl rfl) rfl rfl rfl ?_
 refine simL_val (q_asg rfl rfl) rfl rfl rfl (simL_nil (nrm_then (sim_seq (sim_seq (sim_region ?_)))))
 refine simL_val (q_move rfl rfl) rfl rfl rfl ?_
 refine simL_bind (fun s1v hs3v => ?_)
 refine simL_eff (re_call (vs := [.int .i64 x0]) (cap := []) (A := []) (rst := [F]) rfl rfl rfl rfl rfl rfl Try.call137 (.sel 0 rfl (.nil _)) (synodref1_Size.calls _ _ k x0 ) hs3v) rfl rfl rfl ?_
 intro y2v
 refine simL_val (q_eql rfl rfl rfl) rfl rfl rfl (simL_nil (nrm_then ?_))
 refine sim_cond rfl (fun h4v => ?_) (fun h5v => ?_)
 refine sim_seq (sim_region ?_)
 refine simL_val (q_asg rfl rfl) rfl rfl rfl ?_
 refine simL_val (q_asg rfl rfl) rfl rfl rfl (simL_nil (nrm_then (sim_rtn ?_)))
 refine rtn_then ?_
 exact rtn_fn (none, 0) rfl rfl rfl (.row_nil (.sel 0 rfl (.nil _)))
 refine sim_skip ?_
 refine nrm_then (sim_seq (sim_region ?_))
 refine simL_val (q_asg rfl rfl) rfl rfl rfl (simL_nil (nrm_then ?_))
 refine sim_cut (S := Int × List UInt8) (Option Addr × Nat) (fun s y => [(0, .int .i64 s.1), (4, .slice y.1 s.2.length y.2)]) (fun s y => [Row 5 1 y.1 s.2.length y.2 (encB s.2), F]) ?_ ?_
 refine sim_block ?_
 refine sim_loop (S := Int × List UInt8) (Option Addr × Nat) (fun k s => synodref1_PutInt.l0 k s.1 s.2) (fun s y => [(0, .int .i64 s.1), (4, .slice y.1 s.2.length y.2)]) (fun s y => [Row 5 1 y.1 s.2.length y.2 (encB s.2), F]) (fun _ => by rw [synodref1_PutInt.l0]) ?_ k (x0, ([] : List UInt8)) (none, 0) ⟨rfl, rfl, trivial⟩ (.row_nil (.sel 0 rfl (.nil _)))
 intro k s8v y9v
 refine sim_eq (by rw [synodref1_PutInt.l0]) ?_
 refine sim_seq (sim_seq (sim_region ?_))
 refine simL_val (q_move rfl rfl) rfl rfl rfl ?_
 refine simL_val (q_geq rfl rfl rfl) rfl rfl rfl (simL_nil (nrm_then ?_))
 refine sim_cond rfl (fun h12v => ?_) (fun h13v => ?_)
 refine sim_skip ?_
 refine nrm_then ?_
 refine sim_block ?_
 refine sim_seq (sim_region ?_)
 refine simL_val (q_move rfl rfl) rfl rfl rfl ?_
 refine simL_val (q_move rfl rfl) rfl rfl rfl ?_
 refine simL_val (q_rem rfl rfl rfl (by decide)) rfl rfl rfl ?_
 refine simL_val (q_add rfl rfl rfl) rfl rfl rfl ?_
 refine simL_val (q_conv rfl rfl Try.underlying3 Try.underlying5) rfl rfl rfl ?_
 refine simL_ask (fun hb16v => ?_)
 refine simL_eff (re_litb (cs := [.int .u8 (IntKind.u8.wrap (IntKind.i64.wrap ((Int.tmod s8v.1 128) + 128)))]) ([(byte (IntKind.u8.wrap (IntKind.i64.wrap ((Int.tmod s8v.1 128) + 128))))] : List UInt8) rfl rfl Try.underlying27 elt5 rfl (by kernel_rfl) rfl rfl (byte_lit1 hb16v)) rfl rfl rfl ?_
 intro b15v
 refine simL_ask (fun hb18v => ?_)
 refine simL_eff (re_appendb 1 rfl rfl rfl Try.underlying27 elt5 rfl (Rds.row 0 rfl) hb18v) rfl rfl rfl ?_
 intro y17v
 refine simL_val (q_asg rfl rfl) rfl rfl rfl (simL_nil (nrm_then (sim_region ?_)))
 refine simL_val (q_move rfl rfl) rfl rfl rfl ?_
 refine simL_val (q_quo rfl rfl rfl (by decide)) rfl rfl rfl ?_
 refine simL_val (q_asg rfl rfl) rfl rfl rfl (simL_nil (nrm_block ?_))
 exact nrm_again (s := (IntKind.i64.wrap (Int.tdiv s8v.1 128), s8v.2 ++ ([(byte (IntKind.u8.wrap (IntKind.i64.wrap ((Int.tmod s8v.1 128) + 128))))] : List UInt8))) (y17v.1, y17v.2) ⟨rfl, rfl, trivial⟩ (.sel 1 rfl (.sel 1 rfl (.nil _)))
 refine sim_exi ?_
 refine exi_then ?_
 refine exi_loop ?_
 refine exi_here ?_
 exact nrm_cut (s := (s8v.1, s8v.2)) (y9v.1, y9v.2) ⟨rfl, rfl, trivial⟩ (.sel 0 rfl (.sel 0 rfl (.nil _)))
 intro s6v y7v
 refine sim_seq (sim_region ?_)
 refine simL_val (q_move rfl rfl) rfl rfl rfl ?_
 refine simL_val (q_move rfl rfl) rfl rfl rfl ?_
 refine simL_val (q_conv rfl rfl Try.underlying3 Try.underlying5) rfl rfl rfl ?_
 refine simL_ask (fun hb21v => ?_)
 refine simL_eff (re_litb (cs := [.int .u8 (IntKind.u8.wrap s6v.1)]) ([(byte (IntKind.u8.wrap s6v.1))] : List UInt8) rfl rfl Try.underlying27 elt5 rfl (by kernel_rfl) rfl rfl (byte_lit1 hb21v)) rfl rfl rfl ?_
 intro b20v
 refine simL_ask (fun hb23v => ?_)
 refine simL_eff (re_appendb 1 rfl rfl rfl Try.underlying27 elt5 rfl (Rds.row 0 rfl) hb23v) rfl rfl rfl ?_
 intro y22v
 refine simL_val (q_asg rfl rfl) rfl rfl rfl ?_
 refine simL_val (q_asg rfl rfl) rfl rfl rfl (simL_nil (nrm_then (sim_rtn ?_)))
 exact rtn_fn (y22v.1, y22v.2) rfl rfl rfl (.sel 1 rfl (.sel 1 rfl (.nil _)))

def synodref1_Writer_Int.f (k : Nat) (x0_0 : List UInt8) (x0_1 : Int) (x1 : Int) : Option (List UInt8 × Int) := if x0_1 = (0 : Int) then ((synodref1_PutInt.f k x1).bind fun s3v => (if (x0_0.length + s3v.1.length) * 1 ≤ 140737488355328 then (some (x0_0 ++ s3v.1, s3v.2)) else none)) else (some (x0_0, x0_1))
theorem synodref1_Writer_Int.calls (W : World) (F : HA) (k : Nat) (b0 : Nat) (a0_0 : Option Addr) (c0_0 : Nat) (x0_0 : List UInt8) (x0_1 : Int) (x1 : Int)  :
    Fn Try.prog W 79 [.pointer (some ⟨b0, 0, none⟩), .int .i64 x1] [obj b0 143 [.slice a0_0 x0_0.length c0_0, .int .i64 x0_1], Row 5 1 a0_0 x0_0.length c0_0 (encB x0_0)] F (synodref1_Writer_Int.f k x0_0 x0_1 x1) (fun (r : List UInt8 × Int) (y : Option Addr × Nat) => .tuple #[]) (fun r y => [obj b0 143 [.slice y.1 r.1.length y.2, .int .i64 r.2], Row 5 1 y.1 r.1.length y.2 (encB r.1)]) := by
 unfold synodref1_Writer_Int.f
 refine fn_intro 29 Try.func79 rfl Try.ntmps79 rfl ?_
 refine sim_seq (sim_seq (sim_region ?_))
 refine simL_val (q_move rfl rfl) rfl rfl rfl ?_
 refine simL_val (q_nil rfl rfl) rfl rfl rfl ?_
 refine simL_val (q_fa rfl rfl Try.underlying143 rfl rfl Try.sizeOf3 rfl) rfl rfl rfl ?_
 refine simL_val (q_load rfl rfl Try.isAgg3 (.obj 0 rfl rfl)) rfl rfl rfl ?_
 refine simL_val (q_neq rfl rfl rfl) rfl rfl rfl (simL_nil (nrm_then ?_))
 refine sim_condn rfl (fun h1v => ?_) (fun h2v => ?_)
 refine sim_skip ?_
 refine nrm_then (sim_seq (sim_region ?_))
 refine simL_val (q_move rfl rfl) rfl rfl rfl ?_
 refine simL_bind (fun s3v hs5v => ?_)
 refine simL_eff (re_call (vs := [.int .i64 x1]) (cap := []) (A := []) (rst := [obj b0 143 [.slice a0_0 x0_0.length c0_0, .int .i64 x0_1], Row 5 1 a0_0 x0_0.length c0_0 (encB x0_0), F]) rfl rfl rfl rfl rfl rfl Try.call127 (.sel 0 rfl (.sel 0 rfl (.sel 0 rfl (.nil _)))) (synodref1_PutInt.calls _ _ k x1 ) hs5v) rfl rfl rfl ?_
 intro y4v
 refine simL_val (q_move rfl rfl) rfl rfl rfl ?_
 refine simL_val (q_ext rfl rfl rfl) rfl rfl rfl ?_
 refine simL_val (q_ext rfl rfl rfl) rfl rfl rfl ?_
 refine simL_val (q_asg rfl rfl) rfl rfl rfl ?_
 refine simL_val (q_asg rfl rfl) rfl rfl rfl (simL_nil (nrm_then (sim_seq (sim_region ?_))))
 refine simL_val (q_move rfl rfl) rfl rfl rfl ?_
 refine simL_val (q_move rfl rfl) rfl rfl rfl ?_
 refine simL_val (q_nil rfl rfl) rfl rfl rfl ?_
 refine simL_val (q_fa rfl rfl Try.underlying143 rfl rfl Try.sizeOf3 rfl) rfl rfl rfl ?_
 refine simL_do (re_store 1 rfl rfl rfl Try.sizeOf3 rfl rfl (one_of (by rfl)) rfl rfl) rfl rfl ?_
 intro _
 refine simL_nil (nrm_then (sim_region ?_))
 refine simL_val (q_move rfl rfl) rfl rfl rfl ?_
 refine simL_val (q_move rfl rfl) rfl rfl rfl ?_
 refine simL_val (q_nil rfl rfl) rfl rfl rfl ?_
 refine simL_val (q_fa rfl rfl Try.underlying143 rfl rfl Try.sizeOf27 rfl) rfl rfl rfl ?_
 refine simL_val (q_load rfl rfl Try.isAgg27 (.obj 1 rfl rfl)) rfl rfl rfl ?_
 refine simL_val (q_move rfl rfl) rfl rfl rfl ?_
 refine simL_ask (fun hb7v => ?_)
 refine simL_eff (re_appendb 2 rfl rfl rfl Try.underlying27 elt5 rfl (Rds.row 0 rfl) hb7v) rfl rfl rfl ?_
 intro y6v
 refine simL_val (q_nil rfl rfl) rfl rfl rfl ?_
 refine simL_val (q_fa rfl rfl Try.underlying143 rfl rfl Try.sizeOf27 rfl) rfl rfl rfl ?_
 refine simL_do (re_store 1 rfl rfl rfl Try.sizeOf27 rfl rfl (one_of (by rfl)) rfl rfl) rfl rfl ?_
 intro _
 refine simL_nil ?_
 exact nrm_fn (y6v.1, y6v.2) rfl rfl rfl (.sel 1 rfl (.sel 1 rfl (.sel 1 rfl (.nil _))))
 refine sim_rtn ?_
 refine rtn_then ?_
 exact rtn_fn (a0_0, c0_0) rfl rfl rfl (.sel 0 rfl (.sel 0 rfl (.sel 0 rfl (.nil _))))

def synodref1_Writer_Bytes.f (k : Nat) (x0_0 : List UInt8) (x0_1 : Int) (x1 : List UInt8) (x2 : Int) : Option (List UInt8 × Int) := if x0_1 = (0 : Int) then (if max x2 (0 : Int) < (x1.length : Int) then (some (x0_0, 3)) else ((synodref1_Writer_Int.f k x0_0 x0_1 (x1.length : Int)).bind fun s5v => (if (s5v.1.length + x1.length) * 1 ≤ 140737488355328 then (some (s5v.1 ++ x1, s5v.2)) else none))) else (some (x0_0, x0_1))
theorem synodref1_Writer_Bytes.calls (W : World) (F : HA) (k : Nat) (b0 : Nat) (a0_0 : Option Addr) (c0_0 : Nat) (x0_0 : List UInt8) (x0_1 : Int) (a1 : Option Addr) (c1 : Nat) (x1 : List UInt8) (x2 : Int) (h1 : Rd F a1 (encB x1)) (hc1 : x1.length ≤ c1) (hm1 : c1 ≤ maxLen) :
    Fn Try.prog W 89 [.pointer (some ⟨b0, 0, none⟩), .slice a1 x1.length c1, .int .i64 x2] [obj b0 143 [.slice a0_0 x0_0.length c0_0, .int .i64 x0_1], Row 5 1 a0_0 x0_0.length c0_0 (encB x0_0)] F (synodref1_Writer_Bytes.f k x0_0 x0_1 x1 x2) (fun (r : List UInt8 × Int) (y : Option Addr × Nat) => .tuple #[]) (fun r y => [obj b0 143 [.slice y.1 r.1.length y.2, .int .i64 r.2], Row 5 1 y.1 r.1.length y.2 (encB r.1)]) := by
 unfold synodref1_Writer_Bytes.f
 refine fn_intro 32 Try.func89 rfl Try.ntmps89 rfl ?_
 refine sim_seq (sim_seq (sim_region ?_))
 refine simL_val (q_move rfl rfl) rfl rfl rfl ?_
 refine simL_val (q_nil rfl rfl) rfl rfl rfl ?_
 refine simL_val (q_fa rfl rfl Try.underlying143 rfl rfl Try.sizeOf3 rfl) rfl rfl rfl ?_
 refine simL_val (q_load rfl rfl Try.isAgg3 (.obj 0 rfl rfl)) rfl rfl rfl ?_
 refine simL_val (q_neq rfl rfl rfl) rfl rfl rfl (simL_nil (nrm_then ?_))
 refine sim_condn rfl (fun h1v => ?_) (fun h2v => ?_)
 refine sim_skip ?_
 refine nrm_then (sim_seq (sim_seq (sim_region ?_)))
 refine simL_val (q_move rfl rfl) rfl rfl rfl ?_
 refine simL_val (q_len rfl rfl rfl Try.underlying27) rfl rfl rfl ?_
 refine simL_val (q_move rfl rfl) rfl rfl rfl ?_
 refine simL_val (q_max rfl rfl rfl) rfl rfl rfl ?_
 refine simL_val (q_gtr rfl rfl rfl) rfl rfl rfl (simL_nil (nrm_then ?_))
 refine sim_cond rfl (fun h3v => ?_) (fun h4v => ?_)
 refine sim_seq (sim_region ?_)
 refine simL_val (q_move rfl rfl) rfl rfl rfl ?_
 refine simL_val (q_nil rfl rfl) rfl rfl rfl ?_
 refine simL_val (q_fa rfl rfl Try.underlying143 rfl rfl Try.sizeOf3 rfl) rfl rfl rfl ?_
 refine simL_do (re_store 0 rfl rfl rfl Try.sizeOf3 rfl rfl (one_of (by rfl)) rfl rfl) rfl rfl ?_
 intro _
 refine simL_nil (nrm_then (sim_rtn ?_))
 refine rtn_then ?_
 exact rtn_fn (a0_0, c0_0) rfl rfl rfl (.sel 0 rfl (.sel 0 rfl (.sel 0 rfl (.nil _))))
 refine sim_skip ?_
 refine nrm_then (sim_seq (sim_region ?_))
 refine simL_val (q_move rfl rfl) rfl rfl rfl ?_
 refine simL_val (q_move rfl rfl) rfl rfl rfl ?_
 refine simL_val (q_len rfl rfl rfl Try.underlying27) rfl rfl rfl ?_
 refine simL_bind (fun s5v hs7v => ?_)
 refine simL_eff (re_call (vs := [.pointer (some ⟨b0, 0, none⟩), .int .i64 (x1.length : Int)]) (cap := []) (A := [obj b0 143 [.slice a0_0 x0_0.length c0_0, .int .i64 x0_1], Row 5 1 a0_0 x0_0.length c0_0 (encB x0_0)]) (rst := [F]) rfl rfl rfl rfl rfl rfl Try.call79 (.sel 0 rfl (.sel 0 rfl (.sel 0 rfl (.nil _)))) (synodref1_Writer_Int.calls _ _ k b0 a0_0 c0_0 x0_0 x0_1 (x1.length : Int) ) hs7v) rfl rfl rfl ?_
 intro y6v
 refine simL_nil (nrm_then (sim_region ?_))
 refine simL_val (q_move rfl rfl) rfl rfl rfl ?_
 refine simL_val (q_move rfl rfl) rfl rfl rfl ?_
 refine simL_val (q_nil rfl rfl) rfl rfl rfl ?_
 refine simL_val (q_fa rfl rfl Try.underlying143 rfl rfl Try.sizeOf27 rfl) rfl rfl rfl ?_
 refine simL_val (q_load rfl rfl Try.isAgg27 (.obj 0 rfl rfl)) rfl rfl rfl ?_
 refine simL_val (q_move rfl rfl) rfl rfl rfl ?_
 refine simL_ask (fun hb9v => ?_)
 refine simL_eff (re_appendb 1 rfl rfl rfl Try.underlying27 elt5 rfl (h1.rds 1 rfl) hb9v) rfl rfl rfl ?_
 intro y8v
 refine simL_val (q_nil rfl rfl) rfl rfl rfl ?_
 refine simL_val (q_fa rfl rfl Try.underlying143 rfl rfl Try.sizeOf27 rfl) rfl rfl rfl ?_
 refine simL_do (re_store 0 rfl rfl rfl Try.sizeOf27 rfl rfl (one_of (by rfl)) rfl rfl) rfl rfl ?_
 intro _
 refine simL_nil ?_
 exact nrm_fn (y8v.1, y8v.2) rfl rfl rfl (.sel 0 rfl (.sel 0 rfl (.sel 0 rfl (.nil _))))
 refine sim_rtn ?_
 refine rtn_then ?_
 exact rtn_fn (a0_0, c0_0) rfl rfl rfl (.sel 0 rfl (.sel 0 rfl (.sel 0 rfl (.nil _))))

def synodref1_Writer_Done.f (x0_0 : List UInt8) (x0_1 : Int) : Option (List UInt8 × Int) := if x0_1 = (0 : Int) then (some (x0_0, 0)) else (some (([] : List UInt8), x0_1))
theorem synodref1_Writer_Done.calls (W : World) (F : HA) (G : HA) (hG : Up G F) (b0 : Nat) (a0_0 : Option Addr) (c0_0 : Nat) (x0_0 : List UInt8) (x0_1 : Int) (h0_0 : Rd G a0_0 (encB x0_0)) (hc0_0 : x0_0.length ≤ c0_0) (hm0_0 : c0_0 ≤ maxLen) :
    Fn Try.prog W 80 [.pointer (some ⟨b0, 0, none⟩)] [obj b0 143 [.slice a0_0 x0_0.length c0_0, .int .i64 x0_1]] F (synodref1_Writer_Done.f x0_0 x0_1) (fun (r : List UInt8 × Int) (y : Option Addr × Nat) => .tuple #[.slice y.1 r.1.length y.2, .int .i64 r.2]) (fun r y => [pr (Rd (G) y.1 (encB r.1) ∧ r.1.length ≤ y.2 ∧ y.2 ≤ maxLen), obj b0 143 [.slice a0_0 x0_0.length c0_0, .int .i64 x0_1]]) := by
 unfold synodref1_Writer_Done.f
 refine fn_intro 17 Try.func80 rfl Try.ntmps80 rfl ?_
 refine sim_seq (sim_region ?_)
 refine simL_val (q_asg rfl rfl) rfl rfl rfl ?_
 refine simL_val (q_asg rfl rfl) rfl rfl rfl (simL_nil (nrm_then (sim_seq (sim_seq (sim_region ?_)))))
 refine simL_val (q_move rfl rfl) rfl rfl rfl ?_
 refine simL_val (q_nil rfl rfl) rfl rfl rfl ?_
 refine simL_val (q_fa rfl rfl Try.underlying143 rfl rfl Try.sizeOf3 rfl) rfl rfl rfl ?_
 refine simL_val (q_load rfl rfl Try.isAgg3 (.obj 0 rfl rfl)) rfl rfl rfl ?_
 refine simL_val (q_neq rfl rfl rfl) rfl rfl rfl (simL_nil (nrm_then ?_))
 refine sim_condn rfl (fun h1v => ?_) (fun h2v => ?_)
 refine sim_skip ?_
 refine nrm_then (sim_seq (sim_region ?_))
 refine simL_val (q_move rfl rfl) rfl rfl rfl ?_
 refine simL_val (q_nil rfl rfl) rfl rfl rfl ?_
 refine simL_val (q_fa rfl rfl Try.underlying143 rfl rfl Try.sizeOf27 rfl) rfl rfl rfl ?_
 refine simL_val (q_load rfl rfl Try.isAgg27 (.obj 0 rfl rfl)) rfl rfl rfl ?_
 refine simL_val (q_asg rfl rfl) rfl rfl rfl ?_
 refine simL_val (q_asg rfl rfl) rfl rfl rfl (simL_nil (nrm_then (sim_rtn ?_)))
 exact rtn_fn (a0_0, c0_0) rfl rfl rfl (.pr_in ⟨h0_0, hc0_0, hm0_0⟩ (.sel 0 rfl (.sel 0 rfl (.nil _))))
 refine sim_seq ?_
 refine sim_draw (Γ := Unit) () [[], [0], [0, 1], [0, 1, 2], [], [0, 1, 2, 3, 4]] [] [0, 1, 2, 3, 4, 5] (fun i => [[0], [0], [0], [0], [0], [0]].getD i []) (fun i => [[], [], [], [], [], []].getD i []) (fun γ i => [.pointer (some ⟨b0, 0, none⟩), .pointer (some ⟨b0, 0, none⟩), .pointer (some ⟨b0, 1, none⟩), .int .i64 x0_1, .slice none 0 0, .int .i64 x0_1].getD i undef) (fun j γ => [[obj b0 143 [.slice a0_0 x0_0.length c0_0, .int .i64 x0_1], F]].getD j []) (fun γ => [(2, .slice none 0 0), (3, .int .i64 x0_1)]) mixed (by decide) (by decide) (by decide) (by decide) (by decide) (by decide) (by decide) 17 rfl (by decide) (by decide) (by decide) (Ent.refl _) ?_ ?_ (fun _ => ⟨rfl, rfl, trivial⟩) ?_
 exact (All.cons (fun γ => (All.cons (QOb.plain [(0, .pointer (some ⟨b0, 0, none⟩))] rfl rfl (.o rfl (by decide) .nil) (q_move rfl rfl) rfl) All.nil)) (All.cons (fun γ => (All.cons (QOb.plain [(9, .pointer (some ⟨b0, 0, none⟩))] rfl rfl (.w 0 rfl rfl rfl .nil) (q_nil rfl rfl) rfl) All.nil)) (All.cons (fun γ => (All.cons (QOb.plain [(10, .pointer (some ⟨b0, 0, none⟩))] rfl rfl (.w 1 rfl rfl rfl .nil) (q_fa rfl rfl Try.underlying143 rfl rfl Try.sizeOf3 rfl) rfl) All.nil)) (All.cons (fun γ => (All.cons (QOb.plain [(11, .pointer (some ⟨b0, 1, none⟩))] rfl rfl (.w 2 rfl rfl rfl .nil) (q_load rfl rfl Try.isAgg3 (.obj 0 rfl rfl)) rfl) All.nil)) (All.cons (fun γ => (All.cons (QOb.plain [] rfl rfl .nil (q_asg rfl rfl) rfl) All.nil)) (All.cons (fun γ => (All.cons (QOb.plain [(12, .int .i64 x0_1)] rfl rfl (.w 3 rfl rfl rfl .nil) (q_asg rfl rfl) rfl) All.nil)) All.nil))))))
 exact All.nil
 intro g3v
 refine nrm_then (sim_rtn ?_)
 refine rtn_then ?_
 exact rtn_fn (none, 0) rfl rfl rfl (.pr_in ⟨Rd.nil _ _, Nat.le_refl _, Nat.zero_le _⟩ (.sel 0 rfl (.sel 0 rfl (.nil _))))
def synodref1_Writer_Done.v (x0_0 : List UInt8) (x0_1 : Int) : List UInt8 × Int := (synodref1_Writer_Done.f x0_0 x0_1).getD ([], 0)
theorem synodref1_Writer_Done.tot (x0_0 : List UInt8) (x0_1 : Int) : synodref1_Writer_Done.f x0_0 x0_1 = some (synodref1_Writer_Done.v x0_0 x0_1) := by
  have h : ∃ r, synodref1_Writer_Done.f x0_0 x0_1 = some r := by
    unfold synodref1_Writer_Done.f
    repeat' (first | exact ⟨_, rfl⟩ | split | simp only [Option.bind_some])
  obtain ⟨r, h⟩ := h
  unfold synodref1_Writer_Done.v
  rw [h]; rfl

def synodref1_Writer_Done_s_c0.f (xp0_0 : List UInt8) (xp0_1 : Int) : Option (List UInt8 × Int) := if xp0_1 = (0 : Int) then (some (xp0_0, 0)) else (some (([] : List UInt8), xp0_1))
theorem synodref1_Writer_Done_s_c0.calls (W : World) (F : HA) (G : HA) (hG : Up G F) (bp0 : Nat) (ap0_0 : Option Addr) (cp0_0 : Nat) (xp0_0 : List UInt8) (xp0_1 : Int) (hp0_0 : Rd G ap0_0 (encB xp0_0)) (hcp0_0 : xp0_0.length ≤ cp0_0) (hmp0_0 : cp0_0 ≤ maxLen) :
    Fn Try.prog W 80 [.pointer (some ⟨bp0, 0, none⟩)] [obj bp0 143 [.slice ap0_0 xp0_0.length cp0_0, .int .i64 xp0_1]] F (synodref1_Writer_Done_s_c0.f xp0_0 xp0_1) (fun (r : List UInt8 × Int) (y : Option Addr × Nat) => .tuple #[.slice y.1 r.1.length y.2, .int .i64 r.2]) (fun r y => [pr (Rd (G) y.1 (encB r.1) ∧ r.1.length ≤ y.2 ∧ y.2 ≤ maxLen), obj bp0 143 [.slice ap0_0 xp0_0.length cp0_0, .int .i64 xp0_1]]) := by
 unfold synodref1_Writer_Done_s_c0.f
 refine fn_intro 17 Try.func80 rfl Try.ntmps80 rfl ?_
 refine sim_seq (sim_region ?_)
 refine simL_val (q_asg rfl rfl) rfl rfl rfl ?_
 refine simL_val (q_asg rfl rfl) rfl rfl rfl (simL_nil (nrm_then (sim_seq (sim_seq (sim_region ?_)))))
 refine simL_val (q_move rfl rfl) rfl rfl rfl ?_
 refine simL_val (q_nil rfl rfl) rfl rfl rfl ?_
 refine simL_val (q_fa rfl rfl Try.underlying143 rfl rfl Try.sizeOf3 rfl) rfl rfl rfl ?_
 refine simL_val (q_load rfl rfl Try.isAgg3 (.obj 0 rfl rfl)) rfl rfl rfl ?_
 refine simL_val (q_neq rfl rfl rfl) rfl rfl rfl (simL_nil (nrm_then ?_))
 refine sim_condn rfl (fun h1v => ?_) (fun h2v => ?_)
 refine sim_skip ?_
 refine nrm_then (sim_seq (sim_region ?_))
 refine simL_val (q_move rfl rfl) rfl rfl rfl ?_
 refine simL_val (q_nil rfl rfl) rfl rfl rfl ?_
 refine simL_val (q_fa rfl rfl Try.underlying143 rfl rfl Try.sizeOf27 rfl) rfl rfl rfl ?_
 refine simL_val (q_load rfl rfl Try.isAgg27 (.obj 0 rfl rfl)) rfl rfl rfl ?_
 refine simL_val (q_asg rfl rfl) rfl rfl rfl ?_
 refine simL_val (q_asg rfl rfl) rfl rfl rfl (simL_nil (nrm_then (sim_rtn ?_)))
 exact rtn_fn (ap0_0, cp0_0) rfl rfl rfl (.pr_in ⟨hp0_0, hcp0_0, hmp0_0⟩ (.sel 0 rfl (.sel 0 rfl (.nil _))))
 refine sim_seq ?_
 refine sim_draw (Γ := Unit) () [[], [0], [0, 1], [0, 1, 2], [], [0, 1, 2, 3, 4]] [] [0, 1, 2, 3, 4, 5] (fun i => [[0], [0], [0], [0], [0], [0]].getD i []) (fun i => [[], [], [], [], [], []].getD i []) (fun γ i => [.pointer (some ⟨bp0, 0, none⟩), .pointer (some ⟨bp0, 0, none⟩), .pointer (some ⟨bp0, 1, none⟩), .int .i64 xp0_1, .slice none 0 0, .int .i64 xp0_1].getD i undef) (fun j γ => [[obj bp0 143 [.slice ap0_0 xp0_0.length cp0_0, .int .i64 xp0_1], F]].getD j []) (fun γ => [(2, .slice none 0 0), (3, .int .i64 xp0_1)]) mixed (by decide) (by decide) (by decide) (by decide) (by decide) (by decide) (by decide) 17 rfl (by decide) (by decide) (by decide) (Ent.refl _) ?_ ?_ (fun _ => ⟨rfl, rfl, trivial⟩) ?_
 exact (All.cons (fun γ => (All.cons (QOb.plain [(0, .pointer (some ⟨bp0, 0, none⟩))] rfl rfl (.o rfl (by decide) .nil) (q_move rfl rfl) rfl) All.nil)) (All.cons (fun γ => (All.cons (QOb.plain [(9, .pointer (some ⟨bp0, 0, none⟩))] rfl rfl (.w 0 rfl rfl rfl .nil) (q_nil rfl rfl) rfl) All.nil)) (All.cons (fun γ => (All.cons (QOb.plain [(10, .pointer (some ⟨bp0, 0, none⟩))] rfl rfl (.w 1 rfl rfl rfl .nil) (q_fa rfl rfl Try.underlying143 rfl rfl Try.sizeOf3 rfl) rfl) All.nil)) (All.cons (fun γ => (All.cons (QOb.plain [(11, .pointer (some ⟨bp0, 1, none⟩))] rfl rfl (.w 2 rfl rfl rfl .nil) (q_load rfl rfl Try.isAgg3 (.obj 0 rfl rfl)) rfl) All.nil)) (All.cons (fun γ => (All.cons (QOb.plain [] rfl rfl .nil (q_asg rfl rfl) rfl) All.nil)) (All.cons (fun γ => (All.cons (QOb.plain [(12, .int .i64 xp0_1)] rfl rfl (.w 3 rfl rfl rfl .nil) (q_asg rfl rfl) rfl) All.nil)) All.nil))))))
 exact All.nil
 intro g3v
 refine nrm_then (sim_rtn ?_)
 refine rtn_then ?_
 exact rtn_fn (none, 0) rfl rfl rfl (.pr_in ⟨Rd.nil _ _, Nat.le_refl _, Nat.zero_le _⟩ (.sel 0 rfl (.sel 0 rfl (.nil _))))
def synodref1_Writer_Done_s_c0.v (xp0_0 : List UInt8) (xp0_1 : Int) : List UInt8 × Int := (synodref1_Writer_Done_s_c0.f xp0_0 xp0_1).getD ([], 0)
theorem synodref1_Writer_Done_s_c0.tot (xp0_0 : List UInt8) (xp0_1 : Int) : synodref1_Writer_Done_s_c0.f xp0_0 xp0_1 = some (synodref1_Writer_Done_s_c0.v xp0_0 xp0_1) := by
  have h : ∃ r, synodref1_Writer_Done_s_c0.f xp0_0 xp0_1 = some r := by
    unfold synodref1_Writer_Done_s_c0.f
    repeat' (first | exact ⟨_, rfl⟩ | split | simp only [Option.bind_some])
  obtain ⟨r, h⟩ := h
  unfold synodref1_Writer_Done_s_c0.v
  rw [h]; rfl

def synodref1_Writer_Done_s_c0p0.f (xp0_0 : List UInt8) (xp0_1 : Int) : Option (List UInt8 × Int) := if xp0_1 = (0 : Int) then (some (xp0_0, 0)) else (some (([] : List UInt8), xp0_1))
theorem synodref1_Writer_Done_s_c0p0.calls (W : World) (F : HA) (bp0 : Nat) (ap0_0 : Option Addr) (cp0_0 : Nat) (xp0_0 : List UInt8) (xp0_1 : Int)  :
    Fn Try.prog W 80 [.pointer (some ⟨bp0, 0, none⟩)] [obj bp0 143 [.slice ap0_0 xp0_0.length cp0_0, .int .i64 xp0_1], Row 5 1 ap0_0 xp0_0.length cp0_0 (encB xp0_0)] F (synodref1_Writer_Done_s_c0p0.f xp0_0 xp0_1) (fun (r : List UInt8 × Int) (y : Option Addr × Nat) => .tuple #[.slice y.1 r.1.length y.2, .int .i64 r.2]) (fun r y => [Row 5 1 y.1 r.1.length y.2 (encB r.1)]) := by
 unfold synodref1_Writer_Done_s_c0p0.f
 refine fn_intro 17 Try.func80 rfl Try.ntmps80 rfl ?_
 refine sim_seq (sim_region ?_)
 refine simL_val (q_asg rfl rfl) rfl rfl rfl ?_
 refine simL_val (q_asg rfl rfl) rfl rfl rfl (simL_nil (nrm_then (sim_seq (sim_seq (sim_region ?_)))))
 refine simL_val (q_move rfl rfl) rfl rfl rfl ?_
 refine simL_val (q_nil rfl rfl) rfl rfl rfl ?_
 refine simL_val (q_fa rfl rfl Try.underlying143 rfl rfl Try.sizeOf3 rfl) rfl rfl rfl ?_
 refine simL_val (q_load rfl rfl Try.isAgg3 (.obj 0 rfl rfl)) rfl rfl rfl ?_
 refine simL_val (q_neq rfl rfl rfl) rfl rfl rfl (simL_nil (nrm_then ?_))
 refine sim_condn rfl (fun h1v => ?_) (fun h2v => ?_)
 refine sim_skip ?_
 refine nrm_then (sim_seq (sim_region ?_))
 refine simL_val (q_move rfl rfl) rfl rfl rfl ?_
 refine simL_val (q_nil rfl rfl) rfl rfl rfl ?_
 refine simL_val (q_fa rfl rfl Try.underlying143 rfl rfl Try.sizeOf27 rfl) rfl rfl rfl ?_
 refine simL_val (q_load rfl rfl Try.isAgg27 (.obj 0 rfl rfl)) rfl rfl rfl ?_
 refine simL_val (q_asg rfl rfl) rfl rfl rfl ?_
 refine simL_val (q_asg rfl rfl) rfl rfl rfl (simL_nil (nrm_then (sim_rtn ?_)))
 exact rtn_fn (ap0_0, cp0_0) rfl rfl rfl (.sel 1 rfl (.sel 1 rfl (.nil _)))
 refine sim_seq ?_
 refine sim_draw (Γ := Unit) () [[], [0], [0, 1], [0, 1, 2], [], [0, 1, 2, 3, 4]] [] [0, 1, 2, 3, 4, 5] (fun i => [[0], [0], [0], [0], [0], [0]].getD i []) (fun i => [[], [], [], [], [], []].getD i []) (fun γ i => [.pointer (some ⟨bp0, 0, none⟩), .pointer (some ⟨bp0, 0, none⟩), .pointer (some ⟨bp0, 1, none⟩), .int .i64 xp0_1, .slice none 0 0, .int .i64 xp0_1].getD i undef) (fun j γ => [[obj bp0 143 [.slice ap0_0 xp0_0.length cp0_0, .int .i64 xp0_1], Row 5 1 ap0_0 xp0_0.length cp0_0 (encB xp0_0), F]].getD j []) (fun γ => [(2, .slice none 0 0), (3, .int .i64 xp0_1)]) mixed (by decide) (by decide) (by decide) (by decide) (by decide) (by decide) (by decide) 17 rfl (by decide) (by decide) (by decide) (Ent.refl _) ?_ ?_ (fun _ => ⟨rfl, rfl, trivial⟩) ?_
 exact (All.cons (fun γ => (All.cons (QOb.plain [(0, .pointer (some ⟨bp0, 0, none⟩))] rfl rfl (.o rfl (by decide) .nil) (q_move rfl rfl) rfl) All.nil)) (All.cons (fun γ => (All.cons (QOb.plain [(9, .pointer (some ⟨bp0, 0, none⟩))] rfl rfl (.w 0 rfl rfl rfl .nil) (q_nil rfl rfl) rfl) All.nil)) (All.cons (fun γ => (All.cons (QOb.plain [(10, .pointer (some ⟨bp0, 0, none⟩))] rfl rfl (.w 1 rfl rfl rfl .nil) (q_fa rfl rfl Try.underlying143 rfl rfl Try.sizeOf3 rfl) rfl) All.nil)) (All.cons (fun γ => (All.cons (QOb.plain [(11, .pointer (some ⟨bp0, 1, none⟩))] rfl rfl (.w 2 rfl rfl rfl .nil) (q_load rfl rfl Try.isAgg3 (.obj 0 rfl rfl)) rfl) All.nil)) (All.cons (fun γ => (All.cons (QOb.plain [] rfl rfl .nil (q_asg rfl rfl) rfl) All.nil)) (All.cons (fun γ => (All.cons (QOb.plain [(12, .int .i64 xp0_1)] rfl rfl (.w 3 rfl rfl rfl .nil) (q_asg rfl rfl) rfl) All.nil)) All.nil))))))
 exact All.nil
 intro g3v
 refine nrm_then (sim_rtn ?_)
 refine rtn_then ?_
 exact rtn_fn (none, 0) rfl rfl rfl (.row_nil (.sel 2 rfl (.nil _)))
def synodref1_Writer_Done_s_c0p0.v (xp0_0 : List UInt8) (xp0_1 : Int) : List UInt8 × Int := (synodref1_Writer_Done_s_c0p0.f xp0_0 xp0_1).getD ([], 0)
theorem synodref1_Writer_Done_s_c0p0.tot (xp0_0 : List UInt8) (xp0_1 : Int) : synodref1_Writer_Done_s_c0p0.f xp0_0 xp0_1 = some (synodref1_Writer_Done_s_c0p0.v xp0_0 xp0_1) := by
  have h : ∃ r, synodref1_Writer_Done_s_c0p0.f xp0_0 xp0_1 = some r := by
    unfold synodref1_Writer_Done_s_c0p0.f
    repeat' (first | exact ⟨_, rfl⟩ | split | simp only [Option.bind_some])
  obtain ⟨r, h⟩ := h
  unfold synodref1_Writer_Done_s_c0p0.v
  rw [h]; rfl

def synodref3_PutEntry.f (k : Nat) (x0_0 : Int) (x0_1 : Int) (x0_2 : Int) (x0_3 : List UInt8) : Option (List UInt8 × Int) := (synodref3_CheckEntry.f x0_0 x0_1 x0_2 x0_3).bind fun s2v => (if s2v = (0 : Int) then ((synodref1_Writer_Int.f k ([] : List UInt8) (0 : Int) x0_0).bind fun s8v => ((synodref1_Writer_Int.f k s8v.1 s8v.2 x0_1).bind fun s11v => ((synodref1_Writer_Int.f k s11v.1 s11v.2 x0_2).bind fun s14v => ((synodref1_Writer_Bytes.f k s14v.1 s14v.2 x0_3 (4096 : Int)).bind fun s17v => ((synodref1_Writer_Done_s_c0p0.f s17v.1 s17v.2).bind fun s20v => (some (s20v.1, s20v.2))))))) else (some (([] : List UInt8), s2v)))
theorem synodref3_PutEntry.calls (W : World) (F : HA) (k : Nat) (x0_0 : Int) (x0_1 : Int) (x0_2 : Int) (a0_3 : Option Addr) (c0_3 : Nat) (x0_3 : List UInt8) (h0_3 : Rd F a0_3 (encB x0_3)) (hc0_3 : x0_3.length ≤ c0_3) (hm0_3 : c0_3 ≤ maxLen) :
    Fn Try.prog W 33 [.agg #[.int .i64 x0_0, .int .i64 x0_1, .int .i64 x0_2, .slice a0_3 x0_3.length c0_3]] [] F (synodref3_PutEntry.f k x0_0 x0_1 x0_2 x0_3) (fun (r : List UInt8 × Int) (y : Option Addr × Nat) => .tuple #[.slice y.1 r.1.length y.2, .int .i64 r.2]) (fun r y => [Row 5 1 y.1 r.1.length y.2 (encB r.1)]) := by
 unfold synodref3_PutEntry.f
 refine fn_intro 33 Try.func33 rfl Try.ntmps33 rfl ?_
 refine sim_seq (sim_region ?_)
 refine simL_eff (re_box rfl rfl rfl) rfl rfl rfl ?_
 intro b1v
 refine simL_val (q_asg rfl rfl) rfl rfl rfl ?_
 refine simL_val (q_asg rfl rfl) rfl rfl rfl (simL_nil (nrm_then (sim_seq (sim_region ?_))))
 refine simL_val (q_loado 0 rfl rfl Try.isAgg61 Try.sizeOf61 rfl rfl) rfl rfl rfl ?_
 refine simL_bind (fun s2v hs4v => ?_)
 refine simL_eff (re_call (vs := [.agg #[.int .i64 x0_0, .int .i64 x0_1, .int .i64 x0_2, .slice a0_3 x0_3.length c0_3]]) (cap := []) (A := []) (rst := [obj b1v 61 [.int .i64 x0_0, .int .i64 x0_1, .int .i64 x0_2, .slice a0_3 x0_3.length c0_3], F]) rfl rfl rfl rfl rfl rfl Try.call35 (.sel 0 rfl (.sel 0 rfl (.nil _))) (synodref3_CheckEntry.calls _ _ x0_0 x0_1 x0_2 a0_3 c0_3 x0_3 (h0_3.lend 1 rfl) hc0_3 hm0_3) hs4v) rfl rfl rfl ?_
 intro y3v
 refine simL_val (q_asg rfl rfl) rfl rfl rfl (simL_nil (nrm_then (sim_seq (sim_seq (sim_region ?_)))))
 refine simL_val (q_move rfl rfl) rfl rfl rfl ?_
 refine simL_val (q_neq rfl rfl rfl) rfl rfl rfl (simL_nil (nrm_then ?_))
 refine sim_condn rfl (fun h5v => ?_) (fun h6v => ?_)
 refine sim_skip ?_
 refine nrm_then (sim_seq (sim_region ?_))
 refine simL_val (q_build (v := .agg #[.slice none 0 0, .int .i64 0]) rfl rfl (fun _ => by kernel_rfl)) rfl rfl rfl ?_
 refine simL_eff (re_box rfl rfl rfl) rfl rfl rfl ?_
 intro b7v
 refine simL_val (q_asg rfl rfl) rfl rfl rfl (simL_nil (nrm_then (sim_seq (sim_region ?_))))
 refine simL_val (q_move rfl rfl) rfl rfl rfl ?_
 refine simL_val (q_fa rfl rfl Try.underlying61 rfl rfl Try.sizeOf3 rfl) rfl rfl rfl ?_
 refine simL_val (q_load rfl rfl Try.isAgg3 (.obj 1 rfl rfl)) rfl rfl rfl ?_
 refine simL_bind (fun s8v hs10v => ?_)
 refine simL_eff (re_call (vs := [.pointer (some ⟨b7v, 0, none⟩), .int .i64 x0_0]) (cap := []) (A := [obj b7v 143 [.slice none 0 0, .int .i64 0], Row 5 1 none ([] : List UInt8).length 0 (encB ([] : List UInt8))]) (rst := [obj b1v 61 [.int .i64 x0_0, .int .i64 x0_1, .int .i64 x0_2, .slice a0_3 x0_3.length c0_3], F]) rfl rfl rfl rfl rfl rfl Try.call79 (.sel 0 rfl (.row_nil (.sel 0 rfl (.sel 0 rfl (.nil _))))) (synodref1_Writer_Int.calls _ _ k b7v none 0 ([] : List UInt8) (0 : Int) x0_0 ) hs10v) rfl rfl rfl ?_
 intro y9v
 refine simL_nil (nrm_then (sim_seq (sim_region ?_)))
 refine simL_val (q_move rfl rfl) rfl rfl rfl ?_
 refine simL_val (q_fa rfl rfl Try.underlying61 rfl rfl Try.sizeOf3 rfl) rfl rfl rfl ?_
 refine simL_val (q_load rfl rfl Try.isAgg3 (.obj 2 rfl rfl)) rfl rfl rfl ?_
 refine simL_bind (fun s11v hs13v => ?_)
 refine simL_eff (re_call (vs := [.pointer (some ⟨b7v, 0, none⟩), .int .i64 x0_1]) (cap := []) (A := [obj b7v 143 [.slice y9v.1 s8v.1.length y9v.2, .int .i64 s8v.2], Row 5 1 y9v.1 s8v.1.length y9v.2 (encB s8v.1)]) (rst := [obj b1v 61 [.int .i64 x0_0, .int .i64 x0_1, .int .i64 x0_2, .slice a0_3 x0_3.length c0_3], F]) rfl rfl rfl rfl rfl rfl Try.call79 (.sel 0 rfl (.sel 0 rfl (.sel 0 rfl (.sel 0 rfl (.nil _))))) (synodref1_Writer_Int.calls _ _ k b7v y9v.1 y9v.2 s8v.1 s8v.2 x0_1 ) hs13v) rfl rfl rfl ?_
 intro y12v
 refine simL_nil (nrm_then (sim_seq (sim_region ?_)))
 refine simL_val (q_move rfl rfl) rfl rfl rfl ?_
 refine simL_val (q_fa rfl rfl Try.underlying61 rfl rfl Try.sizeOf3 rfl) rfl rfl rfl ?_
 refine simL_val (q_load rfl rfl Try.isAgg3 (.obj 2 rfl rfl)) rfl rfl rfl ?_
 refine simL_bind (fun s14v hs16v => ?_)
 refine simL_eff (re_call (vs := [.pointer (some ⟨b7v, 0, none⟩), .int .i64 x0_2]) (cap := []) (A := [obj b7v 143 [.slice y12v.1 s11v.1.length y12v.2, .int .i64 s11v.2], Row 5 1 y12v.1 s11v.1.length y12v.2 (encB s11v.1)]) (rst := [obj b1v 61 [.int .i64 x0_0, .int .i64 x0_1, .int .i64 x0_2, .slice a0_3 x0_3.length c0_3], F]) rfl rfl rfl rfl rfl rfl Try.call79 (.sel 0 rfl (.sel 0 rfl (.sel 0 rfl (.sel 0 rfl (.nil _))))) (synodref1_Writer_Int.calls _ _ k b7v y12v.1 y12v.2 s11v.1 s11v.2 x0_2 ) hs16v) rfl rfl rfl ?_
 intro y15v
 refine simL_nil (nrm_then (sim_seq (sim_region ?_)))
 refine simL_val (q_move rfl rfl) rfl rfl rfl ?_
 refine simL_val (q_fa rfl rfl Try.underlying61 rfl rfl Try.sizeOf27 rfl) rfl rfl rfl ?_
 refine simL_val (q_load rfl rfl Try.isAgg27 (.obj 2 rfl rfl)) rfl rfl rfl ?_
 refine simL_bind (fun s17v hs19v => ?_)
 refine simL_eff (re_call (vs := [.pointer (some ⟨b7v, 0, none⟩), .slice a0_3 x0_3.length c0_3, .int .i64 4096]) (cap := []) (A := [obj b7v 143 [.slice y15v.1 s14v.1.length y15v.2, .int .i64 s14v.2], Row 5 1 y15v.1 s14v.1.length y15v.2 (encB s14v.1)]) (rst := [obj b1v 61 [.int .i64 x0_0, .int .i64 x0_1, .int .i64 x0_2, .slice a0_3 x0_3.length c0_3], F]) rfl rfl rfl rfl rfl rfl Try.call89 (.sel 0 rfl (.sel 0 rfl (.sel 0 rfl (.sel 0 rfl (.nil _))))) (synodref1_Writer_Bytes.calls _ _ k b7v y15v.1 y15v.2 s14v.1 s14v.2 a0_3 c0_3 x0_3 (4096 : Int) (h0_3.lend 1 rfl) hc0_3 hm0_3) hs19v) rfl rfl rfl ?_
 intro y18v
 refine simL_nil (nrm_then (sim_seq (sim_region ?_)))
 refine simL_val (q_move rfl rfl) rfl rfl rfl ?_
 refine simL_bind (fun s20v hs22v => ?_)
 refine simL_eff (re_call (vs := [.pointer (some ⟨b7v, 0, none⟩)]) (cap := []) (A := [obj b7v 143 [.slice y18v.1 s17v.1.length y18v.2, .int .i64 s17v.2], Row 5 1 y18v.1 s17v.1.length y18v.2 (encB s17v.1)]) (rst := [obj b1v 61 [.int .i64 x0_0, .int .i64 x0_1, .int .i64 x0_2, .slice a0_3 x0_3.length c0_3], F]) rfl rfl rfl rfl rfl rfl Try.call80 (.sel 0 rfl (.sel 0 rfl (.sel 0 rfl (.sel 0 rfl (.nil _))))) (synodref1_Writer_Done_s_c0p0.calls _ _ b7v y18v.1 y18v.2 s17v.1 s17v.2 ) hs22v) rfl rfl rfl ?_
 intro y21v
 refine simL_val (q_ext rfl rfl rfl) rfl rfl rfl ?_
 refine simL_val (q_ext rfl rfl rfl) rfl rfl rfl ?_
 refine simL_val (q_asg rfl rfl) rfl rfl rfl ?_
 refine simL_val (q_asg rfl rfl) rfl rfl rfl (simL_nil (nrm_then (sim_rtn ?_)))
 exact rtn_fn (y21v.1, y21v.2) rfl rfl rfl (.sel 0 rfl (.sel 1 rfl (.nil _)))
 refine sim_seq (sim_region ?_)
 refine simL_val (q_move rfl rfl) rfl rfl rfl ?_
 refine simL_val (q_asg rfl rfl) rfl rfl rfl ?_
 refine simL_val (q_asg rfl rfl) rfl rfl rfl (simL_nil (nrm_then (sim_rtn ?_)))
 refine rtn_then ?_
 exact rtn_fn (none, 0) rfl rfl rfl (.row_nil (.sel 1 rfl (.nil _)))

def synodref1_Int.l1 (x0 : List UInt8) (x1 : Int) : Nat → Int → Int → Option (Int)
  | 0, _, _ => none
  | k + 1, z42v, z43v => if (0 : Int) ≤ z43v then (if 0 ≤ IntKind.i64.wrap (x1 + z43v) ∧ IntKind.i64.wrap (x1 + z43v) < (x0.length : Int) then (synodref1_Int.l1 x0 x1 k (IntKind.i64.wrap ((IntKind.i64.wrap (z42v * 128)) + (Int.tmod (IntKind.i64.wrap ((x0.getD (IntKind.i64.wrap (x1 + z43v)).toNat 0).toNat : Int)) 128))) (IntKind.i64.wrap (z43v - 1))) else none) else (some z42v)
def synodref1_Int.l0 (x0 : List UInt8) (x1 : Int) : Nat → Int → Option (Int)
  | 0, _ => none
  | k + 1, z7v => (if ((decide (z7v < (9 : Int))) && (decide (IntKind.i64.wrap (x1 + z7v) < (x0.length : Int)))) = true then (if 0 ≤ IntKind.i64.wrap (x1 + z7v) ∧ IntKind.i64.wrap (x1 + z7v) < (x0.length : Int) then (some (decide ((128 : Int) ≤ ((x0.getD (IntKind.i64.wrap (x1 + z7v)).toNat 0).toNat : Int)))) else none) else (some false)).bind fun s8v => (if s8v = true then (synodref1_Int.l0 x0 x1 k (IntKind.i64.wrap (z7v + 1))) else (some z7v))
def synodref1_Int.f (k : Nat) (x0 : List UInt8) (x1 : Int) : Option (Int × Int × Int) := if ((decide (x1 < (0 : Int))) || (decide ((x0.length : Int) ≤ x1))) = true then (some (0, 0, 2)) else ((synodref1_Int.l0 x0 x1 k 0).bind fun s3v => (if s3v = (9 : Int) then (some (0, 0, 4)) else (if (x0.length : Int) ≤ IntKind.i64.wrap (x1 + s3v) then (some (0, 0, 2)) else ((if (0 : Int) < s3v then (if 0 ≤ IntKind.i64.wrap (x1 + s3v) ∧ IntKind.i64.wrap (x1 + s3v) < (x0.length : Int) then (some (decide (((x0.getD (IntKind.i64.wrap (x1 + s3v)).toNat 0).toNat : Int) = (0 : Int)))) else none) else (some false)).bind fun s28v => (if s28v = true then (some (0, 0, 4)) else ((synodref1_Int.l1 x0 x1 k 0 s3v).bind fun s38v => (if (4611686018427387904 : Int) < s38v then (some (0, 0, 1)) else (some (s38v, IntKind.i64.wrap (s3v + 1), 0)))))))))
theorem synodref1_Int.calls (W : World) (F : HA) (k : Nat) (a0 : Option Addr) (c0 : Nat) (x0 : List UInt8) (x1 : Int) (h0 : Rd F a0 (encB x0)) (hc0 : x0.length ≤ c0) (hm0 : c0 ≤ maxLen) :
    Fn Try.prog W 130 [.slice a0 x0.length c0, .int .i64 x1] [] F (synodref1_Int.f k x0 x1) (fun (r : Int × Int × Int) (y : Unit) => .tuple #[.int .i64 r.1, .int .i64 r.2.1, .int .i64 r.2.2]) (fun r y => []) := by
 unfold synodref1_Int.f
 refine fn_intro 79 Try.func130 rfl Try.ntmps130 rfl ?_
 refine sim_seq (sim_region ?_)
 refine simL_val (q_asg rfl rfl) rfl rfl rfl ?_
 refine simL_val (q_asg rfl rfl) rfl rfl rfl ?_
 refine simL_val (q_asg rfl rfl) rfl rfl rfl (simL_nil (nrm_then (sim_seq (sim_seq (sim_region ?_)))))
 refine simL_val (q_move rfl rfl) rfl rfl rfl ?_
 refine simL_val (q_lss rfl rfl rfl) rfl rfl rfl ?_
 refine simL_val (q_move rfl rfl) rfl rfl rfl ?_
 refine simL_valc (b := decide (x1 < (0 : Int))) (fun hb56v => RQ.sub (E' := [(1, .int .i64 x1)]) ⟨rfl, trivial⟩ (q_move rfl rfl)) rfl rfl rfl rfl rfl ?_
 refine simL_valc (b := decide (x1 < (0 : Int))) (fun hb55v => RQ.sub (E' := [(0, .slice a0 x0.length c0)]) ⟨rfl, trivial⟩ (q_move rfl rfl)) rfl rfl rfl rfl rfl ?_
 refine simL_valc (b := decide (x1 < (0 : Int))) (fun hb54v => RQ.sub (E' := [(14, .slice a0 x0.length c0)]) ⟨lk_cv rfl hb54v, trivial⟩ (q_len rfl rfl rfl Try.underlying27)) rfl rfl rfl rfl rfl ?_
 refine simL_valc (b := decide (x1 < (0 : Int))) (fun hb53v => RQ.sub (E' := [(13, .int .i64 x1), (15, .int .i64 (x0.length : Int))]) ⟨lk_cv rfl hb53v, lk_cv rfl hb53v, trivial⟩ (q_geq rfl rfl rfl)) rfl rfl rfl rfl rfl ?_
 refine simL_val (q_or rfl rfl rfl) rfl rfl rfl (simL_nil (nrm_then ?_))
 refine sim_condb rfl (fun h1v => ?_) (fun h2v => ?_)
 refine sim_seq (sim_region ?_)
 refine simL_val (q_asg rfl rfl) rfl rfl rfl ?_
 refine simL_val (q_asg rfl rfl) rfl rfl rfl ?_
 refine simL_val (q_asg rfl rfl) rfl rfl rfl (simL_nil (nrm_then (sim_rtn ?_)))
 refine rtn_then ?_
 exact rtn_fn () rfl rfl rfl (.sel 0 rfl (.nil _))
 refine sim_skip ?_
 refine nrm_then (sim_seq (sim_region ?_))
 refine simL_val (q_asg rfl rfl) rfl rfl rfl (simL_nil (nrm_then ?_))
 refine sim_cut (S := Int) (Unit) (fun s y => [(0, .slice a0 x0.length c0), (1, .int .i64 x1), (7, .int .i64 s)]) (fun s y => [F]) ?_ ?_
 refine sim_block ?_
 refine sim_loop (S := Int) (Unit) (fun k s => synodref1_Int.l0 x0 x1 k s) (fun s y => [(0, .slice a0 x0.length c0), (1, .int .i64 x1), (7, .int .i64 s)]) (fun s y => [F]) (fun _ => by rw [synodref1_Int.l0]) ?_ k 0 () ⟨rfl, rfl, rfl, trivial⟩ (.sel 0 rfl (.nil _))
 intro k s5v y6v
 refine sim_eq (by rw [synodref1_Int.l0]) ?_
 refine sim_seq (sim_seq (sim_region ?_))
 refine simL_val (q_move rfl rfl) rfl rfl rfl ?_
 refine simL_val (q_lss rfl rfl rfl) rfl rfl rfl ?_
 refine simL_val (q_move rfl rfl) rfl rfl rfl ?_
 refine simL_valc (b := decide (s5v < (9 : Int))) (fun hb23v => RQ.sub (E' := [(1, .int .i64 x1)]) ⟨rfl, trivial⟩ (q_move rfl rfl)) rfl rfl rfl rfl rfl ?_
 refine simL_valc (b := decide (s5v < (9 : Int))) (fun hb22v => RQ.sub (E' := [(7, .int .i64 s5v)]) ⟨rfl, trivial⟩ (q_move rfl rfl)) rfl rfl rfl rfl rfl ?_
 refine simL_valc (b := decide (s5v < (9 : Int))) (fun hb21v => RQ.sub (E' := [(21, .int .i64 x1), (22, .int .i64 s5v)]) ⟨lk_cv rfl hb21v, lk_cv rfl hb21v, trivial⟩ (q_add rfl rfl rfl)) rfl rfl rfl rfl rfl ?_
 refine simL_valc (b := decide (s5v < (9 : Int))) (fun hb20v => RQ.sub (E' := [(0, .slice a0 x0.length c0)]) ⟨rfl, trivial⟩ (q_move rfl rfl)) rfl rfl rfl rfl rfl ?_
 refine simL_valc (b := decide (s5v < (9 : Int))) (fun hb19v => RQ.sub (E' := [(24, .slice a0 x0.length c0)]) ⟨lk_cv rfl hb19v, trivial⟩ (q_len rfl rfl rfl Try.underlying27)) rfl rfl rfl rfl rfl ?_
 refine simL_valc (b := decide (s5v < (9 : Int))) (fun hb18v => RQ.sub (E' := [(23, .int .i64 (IntKind.i64.wrap (x1 + s5v))), (25, .int .i64 (x0.length : Int))]) ⟨lk_cv rfl hb18v, lk_cv rfl hb18v, trivial⟩ (q_lss rfl rfl rfl)) rfl rfl rfl rfl rfl ?_
 refine simL_val (q_and rfl rfl rfl) rfl rfl rfl ?_
 refine simL_val (q_move rfl rfl) rfl rfl rfl ?_
 refine simL_cut' 8 (S := Bool) (Unit) (fun s y => [(0, .slice a0 x0.length c0), (1, .int .i64 x1), (7, .int .i64 s5v), (36, .bool s)]) (fun s y => [F]) ?_ ?_
 refine simL_caseb (fun hb14v => ?_) (fun hb15v => ?_)
 rw [hb14v]
 refine simL_valg (q_move rfl rfl) rfl rfl rfl rfl rfl rfl ?_
 refine simL_valg (q_move rfl rfl) rfl rfl rfl rfl rfl rfl ?_
 refine simL_valg (q_move rfl rfl) rfl rfl rfl rfl rfl rfl ?_
 refine simL_valg (q_add rfl rfl rfl) rfl rfl rfl rfl rfl rfl ?_
 refine simL_ask (fun hi10v => ?_)
 obtain ⟨b11v, b11vo, ha12v⟩ := h0.pos (encB_ne (j := (IntKind.i64.wrap (x1 + s5v)).toNat) (by omega))
 refine simL_valg (q_idx1 rfl rfl rfl ha12v Try.underlying27 Try.sizeOf5 hi10v.1 hi10v.2) rfl rfl rfl rfl rfl rfl ?_
 refine simL_valg (q_load rfl rfl Try.isAgg5 (h0.cell 0 rfl ha12v (encB_get (by omega)))) rfl rfl rfl rfl rfl rfl ?_
 refine simL_valg (q_geq rfl rfl rfl) rfl rfl rfl rfl rfl rfl ?_
 refine simL_val (q_pick rfl rfl rfl rfl rfl) rfl rfl rfl (simL_nil ?_)
 exact nrm_cut (s := decide ((128 : Int) ≤ ((x0.getD (IntKind.i64.wrap (x1 + s5v)).toNat 0).toNat : Int))) () ⟨rfl, rfl, rfl, rfl, trivial⟩ (.sel 0 rfl (.nil _))
 rw [hb15v]
 refine simL_skipd rfl rfl rfl rfl rfl rfl ?_
 refine simL_skipd rfl rfl rfl rfl rfl rfl ?_
 refine simL_skipd rfl rfl rfl rfl rfl rfl ?_
 refine simL_skipd rfl rfl rfl rfl rfl rfl ?_
 refine simL_skipd rfl rfl rfl rfl rfl rfl ?_
 refine simL_skipd rfl rfl rfl rfl rfl rfl ?_
 refine simL_skipd rfl rfl rfl rfl rfl rfl ?_
 refine simL_val (q_pick rfl rfl rfl rfl rfl) rfl rfl rfl (simL_nil ?_)
 exact nrm_cut (s := false) () ⟨rfl, rfl, rfl, rfl, trivial⟩ (.sel 0 rfl (.nil _))
 intro s8v y9v
 refine simL_nil (nrm_then ?_)
 refine sim_condb rfl (fun h16v => ?_) (fun h17v => ?_)
 refine sim_skip ?_
 refine nrm_then ?_
 refine sim_block ?_
 refine sim_region ?_
 refine simL_val (q_move rfl rfl) rfl rfl rfl ?_
 refine simL_val (q_add rfl rfl rfl) rfl rfl rfl ?_
 refine simL_val (q_asg rfl rfl) rfl rfl rfl (simL_nil (nrm_block ?_))
 exact nrm_again (s := IntKind.i64.wrap (s5v + 1)) () ⟨rfl, rfl, rfl, trivial⟩ (.sel 0 rfl (.nil _))
 refine sim_exi ?_
 refine exi_then ?_
 refine exi_loop ?_
 refine exi_here ?_
 exact nrm_cut (s := s5v) () ⟨rfl, rfl, rfl, trivial⟩ (.sel 0 rfl (.nil _))
 intro s3v y4v
 refine sim_seq (sim_seq (sim_region ?_))
 refine simL_val (q_move rfl rfl) rfl rfl rfl ?_
 refine simL_val (q_eql rfl rfl rfl) rfl rfl rfl (simL_nil (nrm_then ?_))
 refine sim_cond rfl (fun h24v => ?_) (fun h25v => ?_)
 refine sim_seq (sim_region ?_)
 refine simL_val (q_asg rfl rfl) rfl rfl rfl ?_
 refine simL_val (q_asg rfl rfl) rfl rfl rfl ?_
 refine simL_val (q_asg rfl rfl) rfl rfl rfl (simL_nil (nrm_then (sim_rtn ?_)))
 refine rtn_then ?_
 exact rtn_fn () rfl rfl rfl (.sel 0 rfl (.nil _))
 refine sim_skip ?_
 refine nrm_then (sim_seq (sim_seq (sim_region ?_)))
 refine simL_val (q_move rfl rfl) rfl rfl rfl ?_
 refine simL_val (q_move rfl rfl) rfl rfl rfl ?_
 refine simL_val (q_add rfl rfl rfl) rfl rfl rfl ?_
 refine simL_val (q_move rfl rfl) rfl rfl rfl ?_
 refine simL_val (q_len rfl rfl rfl Try.underlying27) rfl rfl rfl ?_
 refine simL_val (q_geq rfl rfl rfl) rfl rfl rfl (simL_nil (nrm_then ?_))
 refine sim_cond rfl (fun h26v => ?_) (fun h27v => ?_)
 refine sim_seq (sim_region ?_)
 refine simL_val (q_asg rfl rfl) rfl rfl rfl ?_
 refine simL_val (q_asg rfl rfl) rfl rfl rfl ?_
 refine simL_val (q_asg rfl rfl) rfl rfl rfl (simL_nil (nrm_then (sim_rtn ?_)))
 refine rtn_then ?_
 exact rtn_fn () rfl rfl rfl (.sel 0 rfl (.nil _))
 refine sim_skip ?_
 refine nrm_then (sim_seq (sim_seq (sim_region ?_)))
 refine simL_val (q_move rfl rfl) rfl rfl rfl ?_
 refine simL_val (q_gtr rfl rfl rfl) rfl rfl rfl ?_
 refine simL_val (q_move rfl rfl) rfl rfl rfl ?_
 refine simL_cut' 8 (S := Bool) (Unit) (fun s y => [(0, .slice a0 x0.length c0), (1, .int .i64 x1), (7, .int .i64 s3v), (57, .bool s)]) (fun s y => [F]) ?_ ?_
 refine simL_casep (fun hb34v => ?_) (fun hb35v => ?_)
 rw [hb34v]
 refine simL_valg (q_move rfl rfl) rfl rfl rfl rfl rfl rfl ?_
 refine simL_valg (q_move rfl rfl) rfl rfl rfl rfl rfl rfl ?_
 refine simL_valg (q_move rfl rfl) rfl rfl rfl rfl rfl rfl ?_
 refine simL_valg (q_add rfl rfl rfl) rfl rfl rfl rfl rfl rfl ?_
 refine simL_ask (fun hi30v => ?_)
 obtain ⟨b31v, b31vo, ha32v⟩ := h0.pos (encB_ne (j := (IntKind.i64.wrap (x1 + s3v)).toNat) (by omega))
 refine simL_valg (q_idx1 rfl rfl rfl ha32v Try.underlying27 Try.sizeOf5 hi30v.1 hi30v.2) rfl rfl rfl rfl rfl rfl ?_
 refine simL_valg (q_load rfl rfl Try.isAgg5 (h0.cell 0 rfl ha32v (encB_get (by omega)))) rfl rfl rfl rfl rfl rfl ?_
 refine simL_valg (q_eql rfl rfl rfl) rfl rfl rfl rfl rfl rfl ?_
 refine simL_val (q_pick rfl rfl rfl rfl rfl) rfl rfl rfl (simL_nil ?_)
 exact nrm_cut (s := decide (((x0.getD (IntKind.i64.wrap (x1 + s3v)).toNat 0).toNat : Int) = (0 : Int))) () ⟨rfl, rfl, rfl, rfl, trivial⟩ (.sel 0 rfl (.nil _))
 rw [hb35v]
 refine simL_skipd rfl rfl rfl rfl rfl rfl ?_
 refine simL_skipd rfl rfl rfl rfl rfl rfl ?_
 refine simL_skipd rfl rfl rfl rfl rfl rfl ?_
 refine simL_skipd rfl rfl rfl rfl rfl rfl ?_
 refine simL_skipd rfl rfl rfl rfl rfl rfl ?_
 refine simL_skipd rfl rfl rfl rfl rfl rfl ?_
 refine simL_skipd rfl rfl rfl rfl rfl rfl ?_
 refine simL_val (q_pick rfl rfl rfl rfl rfl) rfl rfl rfl (simL_nil ?_)
 exact nrm_cut (s := false) () ⟨rfl, rfl, rfl, rfl, trivial⟩ (.sel 0 rfl (.nil _))
 intro s28v y29v
 refine simL_nil (nrm_then ?_)
 refine sim_condb rfl (fun h36v => ?_) (fun h37v => ?_)
 refine sim_seq (sim_region ?_)
 refine simL_val (q_asg rfl rfl) rfl rfl rfl ?_
 refine simL_val (q_asg rfl rfl) rfl rfl rfl ?_
 refine simL_val (q_asg rfl rfl) rfl rfl rfl (simL_nil (nrm_then (sim_rtn ?_)))
 refine rtn_then ?_
 exact rtn_fn () rfl rfl rfl (.sel 0 rfl (.nil _))
 refine sim_skip ?_
 refine nrm_then (sim_seq (sim_region ?_))
 refine simL_val (q_asg rfl rfl) rfl rfl rfl (simL_nil (nrm_then ?_))
 refine sim_cut (S := Int) (Unit) (fun s y => [(7, .int .i64 s3v), (8, .int .i64 s)]) (fun s y => [F]) ?_ ?_
 refine sim_seq (sim_region ?_)
 refine simL_val (q_move rfl rfl) rfl rfl rfl ?_
 refine simL_val (q_asg rfl rfl) rfl rfl rfl (simL_nil (nrm_then ?_))
 refine sim_block ?_
 refine sim_loop (S := Int × Int) (Unit) (fun k s => synodref1_Int.l1 x0 x1 k s.1 s.2) (fun s y => [(0, .slice a0 x0.length c0), (1, .int .i64 x1), (7, .int .i64 s3v), (8, .int .i64 s.1), (9, .int .i64 s.2)]) (fun s y => [F]) (fun _ => by rw [synodref1_Int.l1]) ?_ k (0, s3v) () ⟨rfl, rfl, rfl, rfl, rfl, trivial⟩ (.sel 0 rfl (.nil _))
 intro k s40v y41v
 refine sim_eq (by rw [synodref1_Int.l1]) ?_
 refine sim_seq (sim_seq (sim_region ?_))
 refine simL_val (q_move rfl rfl) rfl rfl rfl ?_
 refine simL_val (q_geq rfl rfl rfl) rfl rfl rfl (simL_nil (nrm_then ?_))
 refine sim_cond rfl (fun h44v => ?_) (fun h45v => ?_)
 refine sim_skip ?_
 refine nrm_then (sim_seq ?_)
 refine sim_block ?_
 refine sim_region ?_
 refine simL_val (q_move rfl rfl) rfl rfl rfl ?_
 refine simL_val (q_mul rfl rfl rfl) rfl rfl rfl ?_
 refine simL_val (q_move rfl rfl) rfl rfl rfl ?_
 refine simL_val (q_move rfl rfl) rfl rfl rfl ?_
 refine simL_val (q_move rfl rfl) rfl rfl rfl ?_
 refine simL_val (q_add rfl rfl rfl) rfl rfl rfl ?_
 refine simL_ask (fun hi46v => ?_)
 obtain ⟨b47v, b47vo, ha48v⟩ := h0.pos (encB_ne (j := (IntKind.i64.wrap (x1 + s40v.2)).toNat) (by omega))
 refine simL_val (q_idx1 rfl rfl rfl ha48v Try.underlying27 Try.sizeOf5 hi46v.1 hi46v.2) rfl rfl rfl ?_
 refine simL_val (q_load rfl rfl Try.isAgg5 (h0.cell 0 rfl ha48v (encB_get (by omega)))) rfl rfl rfl ?_
 refine simL_val (q_conv rfl rfl Try.underlying5 Try.underlying3) rfl rfl rfl ?_
 refine simL_val (q_rem rfl rfl rfl (by decide)) rfl rfl rfl ?_
 refine simL_val (q_add rfl rfl rfl) rfl rfl rfl ?_
 refine simL_val (q_asg rfl rfl) rfl rfl rfl (simL_nil (nrm_block (nrm_then (sim_region ?_))))
 refine simL_val (q_move rfl rfl) rfl rfl rfl ?_
 refine simL_val (q_sub rfl rfl rfl) rfl rfl rfl ?_
 refine simL_val (q_asg rfl rfl) rfl rfl rfl (simL_nil ?_)
 exact nrm_again (s := (IntKind.i64.wrap ((IntKind.i64.wrap (s40v.1 * 128)) + (Int.tmod (IntKind.i64.wrap ((x0.getD (IntKind.i64.wrap (x1 + s40v.2)).toNat 0).toNat : Int)) 128)), IntKind.i64.wrap (s40v.2 - 1))) () ⟨rfl, rfl, rfl, rfl, rfl, trivial⟩ (.sel 0 rfl (.nil _))
 refine sim_exi ?_
 refine exi_then ?_
 refine exi_loop ?_
 refine exi_here ?_
 exact nrm_cut (s := s40v.1) () ⟨rfl, rfl, trivial⟩ (.sel 0 rfl (.nil _))
 intro s38v y39v
 refine sim_seq (sim_seq (sim_region ?_))
 refine simL_val (q_move rfl rfl) rfl rfl rfl ?_
 refine simL_val (q_gtr rfl rfl rfl) rfl rfl rfl (simL_nil (nrm_then ?_))
 refine sim_cond rfl (fun h51v => ?_) (fun h52v => ?_)
 refine sim_seq (sim_region ?_)
 refine simL_val (q_asg rfl rfl) rfl rfl rfl ?_
 refine simL_val (q_asg rfl rfl) rfl rfl rfl ?_
 refine simL_val (q_asg rfl rfl) rfl rfl rfl (simL_nil (nrm_then (sim_rtn ?_)))
 refine rtn_then ?_
 exact rtn_fn () rfl rfl rfl (.sel 0 rfl (.nil _))
 refine sim_skip ?_
 refine nrm_then (sim_seq (sim_region ?_))
 refine simL_val (q_move rfl rfl) rfl rfl rfl ?_
 refine simL_val (q_move rfl rfl) rfl rfl rfl ?_
 refine simL_val (q_add rfl rfl rfl) rfl rfl rfl ?_
 refine simL_val (q_asg rfl rfl) rfl rfl rfl ?_
 refine simL_val (q_asg rfl rfl) rfl rfl rfl ?_
 refine simL_val (q_asg rfl rfl) rfl rfl rfl (simL_nil (nrm_then (sim_rtn ?_)))
 exact rtn_fn () rfl rfl rfl (.sel 0 rfl (.nil _))

def synodref1_Reader_Int.f (k : Nat) (x0_0 : List UInt8) (x0_1 : Int) (x0_2 : Int) : Option (Int × Int × Int) := if x0_2 = (0 : Int) then ((synodref1_Int.f k x0_0 x0_1).bind fun s3v => (some (s3v.1, IntKind.i64.wrap (x0_1 + s3v.2.1), s3v.2.2))) else (some (0, x0_1, x0_2))
theorem synodref1_Reader_Int.calls (W : World) (F : HA) (k : Nat) (b0 : Nat) (a0_0 : Option Addr) (c0_0 : Nat) (x0_0 : List UInt8) (x0_1 : Int) (x0_2 : Int) (h0_0 : Rd F a0_0 (encB x0_0)) (hc0_0 : x0_0.length ≤ c0_0) (hm0_0 : c0_0 ≤ maxLen) :
    Fn Try.prog W 85 [.pointer (some ⟨b0, 0, none⟩)] [obj b0 152 [.slice a0_0 x0_0.length c0_0, .int .i64 x0_1, .int .i64 x0_2]] F (synodref1_Reader_Int.f k x0_0 x0_1 x0_2) (fun (r : Int × Int × Int) (y : Unit) => .int .i64 r.1) (fun r y => [obj b0 152 [.slice a0_0 x0_0.length c0_0, .int .i64 r.2.1, .int .i64 r.2.2]]) := by
 unfold synodref1_Reader_Int.f
 refine fn_intro 38 Try.func85 rfl Try.ntmps85 rfl ?_
 refine sim_seq (sim_region ?_)
 refine simL_val (q_asg rfl rfl) rfl rfl rfl (simL_nil (nrm_then (sim_seq (sim_seq (sim_region ?_)))))
 refine simL_val (q_move rfl rfl) rfl rfl rfl ?_
 refine simL_val (q_nil rfl rfl) rfl rfl rfl ?_
 refine simL_val (q_fa rfl rfl Try.underlying152 rfl rfl Try.sizeOf3 rfl) rfl rfl rfl ?_
 refine simL_val (q_load rfl rfl Try.isAgg3 (.obj 0 rfl rfl)) rfl rfl rfl ?_
 refine simL_val (q_neq rfl rfl rfl) rfl rfl rfl (simL_nil (nrm_then ?_))
 refine sim_condn rfl (fun h1v => ?_) (fun h2v => ?_)
 refine sim_skip ?_
 refine nrm_then (sim_seq ?_)
 refine sim_bind (fun s3v hs5v => ?_)
 refine sim_draw (Γ := Unit) () [[], [0], [0, 1], [0, 1, 2], [], [4], [4, 5], [4, 5, 6], [0, 1, 2, 3, 4, 5, 6, 7], [0, 1, 2, 3, 4, 5, 6, 7, 8], [0, 1, 2, 3, 4, 5, 6, 7, 8, 9], [0, 1, 2, 3, 4, 5, 6, 7, 8, 9], [0, 1, 2, 3, 4, 5, 6, 7, 8, 9], [0, 1, 2, 3, 4, 5, 6, 7, 8, 9, 10], [0, 1, 2, 3, 4, 5, 6, 7, 8, 9, 10, 11, 13], [0, 1, 2, 3, 4, 5, 6, 7, 8, 9, 10, 11, 12, 13, 14]] [8] [0, 1, 2, 3, 4, 5, 6, 7, 9, 10, 11, 12, 13, 14, 15] (fun i => [[0], [0], [0], [0], [0], [0], [0], [0], [], [1], [1], [1], [1], [1], [1], [1]].getD i []) (fun i => [[], [], [], [], [], [], [], [], [0, 1, 2, 3, 4, 5, 6, 7], [], [], [], [], [], [], []].getD i []) (fun γ i => [.pointer (some ⟨b0, 0, none⟩), .pointer (some ⟨b0, 0, none⟩), .pointer (some ⟨b0, 0, none⟩), .slice a0_0 x0_0.length c0_0, .pointer (some ⟨b0, 0, none⟩), .pointer (some ⟨b0, 0, none⟩), .pointer (some ⟨b0, 1, none⟩), .int .i64 x0_1, .tuple #[.int .i64 s3v.1, .int .i64 s3v.2.1, .int .i64 s3v.2.2], .tuple #[.int .i64 s3v.1, .int .i64 s3v.2.1, .int .i64 s3v.2.2], .int .i64 s3v.1, .int .i64 s3v.2.1, .int .i64 s3v.2.2, .int .i64 s3v.1, .int .i64 s3v.2.1, .int .i64 s3v.2.2].getD i undef) (fun j γ => [[obj b0 152 [.slice a0_0 x0_0.length c0_0, .int .i64 x0_1, .int .i64 x0_2], F], [obj b0 152 [.slice a0_0 x0_0.length c0_0, .int .i64 x0_1, .int .i64 x0_2], F]].getD j []) (fun γ => [(0, .pointer (some ⟨b0, 0, none⟩)), (3, .int .i64 s3v.1), (4, .int .i64 s3v.2.1), (5, .int .i64 s3v.2.2)]) mixed (by decide) (by decide) (by decide) (by decide) (by decide) (by decide) (by decide) 38 rfl (by decide) (by decide) (by decide) (Ent.refl _) ?_ ?_ (fun _ => ⟨rfl, rfl, rfl, rfl, trivial⟩) ?_
 exact (All.cons (fun γ => (All.cons (QOb.plain [(0, .pointer (some ⟨b0, 0, none⟩))] rfl rfl (.o rfl (by decide) .nil) (q_move rfl rfl) rfl) All.nil)) (All.cons (fun γ => (All.cons (QOb.plain [(12, .pointer (some ⟨b0, 0, none⟩))] rfl rfl (.w 0 rfl rfl rfl .nil) (q_nil rfl rfl) rfl) All.nil)) (All.cons (fun γ => (All.cons (QOb.plain [(13, .pointer (some ⟨b0, 0, none⟩))] rfl rfl (.w 1 rfl rfl rfl .nil) (q_fa rfl rfl Try.underlying152 rfl rfl Try.sizeOf27 rfl) rfl) All.nil)) (All.cons (fun γ => (All.cons (QOb.plain [(14, .pointer (some ⟨b0, 0, none⟩))] rfl rfl (.w 2 rfl rfl rfl .nil) (q_load rfl rfl Try.isAgg27 (.obj 0 rfl rfl)) rfl) All.nil)) (All.cons (fun γ => (All.cons (QOb.plain [(0, .pointer (some ⟨b0, 0, none⟩))] rfl rfl (.o rfl (by decide) .nil) (q_move rfl rfl) rfl) All.nil)) (All.cons (fun γ => (All.cons (QOb.plain [(16, .pointer (some ⟨b0, 0, none⟩))] rfl rfl (.w 4 rfl rfl rfl .nil) (q_nil rfl rfl) rfl) All.nil)) (All.cons (fun γ => (All.cons (QOb.plain [(17, .pointer (some ⟨b0, 0, none⟩))] rfl rfl (.w 5 rfl rfl rfl .nil) (q_fa rfl rfl Try.underlying152 rfl rfl Try.sizeOf3 rfl) rfl) All.nil)) (All.cons (fun γ => (All.cons (QOb.plain [(18, .pointer (some ⟨b0, 1, none⟩))] rfl rfl (.w 6 rfl rfl rfl .nil) (q_load rfl rfl Try.isAgg3 (.obj 0 rfl rfl)) rfl) All.nil)) (All.cons (fun γ => (All.cons (QOb.plain [(20, .tuple #[.int .i64 s3v.1, .int .i64 s3v.2.1, .int .i64 s3v.2.2])] rfl rfl (.w 8 rfl rfl rfl .nil) (q_move rfl rfl) rfl) All.nil)) (All.cons (fun γ => (All.cons (QOb.plain [(11, .tuple #[.int .i64 s3v.1, .int .i64 s3v.2.1, .int .i64 s3v.2.2])] rfl rfl (.w 9 rfl rfl rfl .nil) (q_ext rfl rfl rfl) rfl) All.nil)) (All.cons (fun γ => (All.cons (QOb.plain [(11, .tuple #[.int .i64 s3v.1, .int .i64 s3v.2.1, .int .i64 s3v.2.2])] rfl rfl (.w 9 rfl rfl rfl .nil) (q_ext rfl rfl rfl) rfl) All.nil)) (All.cons (fun γ => (All.cons (QOb.plain [(11, .tuple #[.int .i64 s3v.1, .int .i64 s3v.2.1, .int .i64 s3v.2.2])] rfl rfl (.w 9 rfl rfl rfl .nil) (q_ext rfl rfl rfl) rfl) All.nil)) (All.cons (fun γ => (All.cons (QOb.plain [(21, .int .i64 s3v.1)] rfl rfl (.w 10 rfl rfl rfl .nil) (q_asg rfl rfl) rfl) All.nil)) (All.cons (fun γ => (All.cons (QOb.plain [(22, .int .i64 s3v.2.1)] rfl rfl (.w 11 rfl rfl rfl .nil) (q_asg rfl rfl) rfl) All.nil)) (All.cons (fun γ => (All.cons (QOb.plain [(23, .int .i64 s3v.2.2)] rfl rfl (.w 12 rfl rfl rfl .nil) (q_asg rfl rfl) rfl) All.nil)) All.nil)))))))))))))))
 exact (All.cons (fun γ => EOb.mk (Z := Unit) [(15, .slice a0_0 x0_0.length c0_0), (19, .int .i64 x0_1)] (fun z => ()) rfl rfl (.w 3 rfl rfl rfl (.w 7 rfl rfl rfl .nil)) (re_call (vs := [.slice a0_0 x0_0.length c0_0, .int .i64 x0_1]) (cap := []) (A := []) (rst := [obj b0 152 [.slice a0_0 x0_0.length c0_0, .int .i64 x0_1, .int .i64 x0_2], F]) rfl rfl rfl rfl rfl rfl Try.call130 (.sel 0 rfl (.sel 0 rfl (.nil _))) (synodref1_Int.calls _ _ k a0_0 c0_0 x0_0 x0_1 (h0_0.lend 1 rfl) hc0_0 hm0_0) hs5v) (fun _ => ⟨rfl, rfl, rfl, rfl, rfl, rfl, rfl, rfl, trivial⟩) (fun _ => .inr rfl) (fun z => Ent.refl _)) All.nil)
 intro g6v
 refine nrm_then (sim_seq (sim_region ?_))
 refine simL_val (q_move rfl rfl) rfl rfl rfl ?_
 refine simL_val (q_move rfl rfl) rfl rfl rfl ?_
 refine simL_val (q_nil rfl rfl) rfl rfl rfl ?_
 refine simL_val (q_fa rfl rfl Try.underlying152 rfl rfl Try.sizeOf3 rfl) rfl rfl rfl ?_
 refine simL_do (re_store 0 rfl rfl rfl Try.sizeOf3 rfl rfl (one_of (by rfl)) rfl rfl) rfl rfl ?_
 intro _
 refine simL_nil (nrm_then (sim_seq (sim_region ?_)))
 refine simL_val (q_move rfl rfl) rfl rfl rfl ?_
 refine simL_val (q_move rfl rfl) rfl rfl rfl ?_
 refine simL_val (q_nil rfl rfl) rfl rfl rfl ?_
 refine simL_val (q_fa rfl rfl Try.underlying152 rfl rfl Try.sizeOf3 rfl) rfl rfl rfl ?_
 refine simL_val (q_load rfl rfl Try.isAgg3 (.obj 0 rfl rfl)) rfl rfl rfl ?_
 refine simL_val (q_move rfl rfl) rfl rfl rfl ?_
 refine simL_val (q_add rfl rfl rfl) rfl rfl rfl ?_
 refine simL_val (q_nil rfl rfl) rfl rfl rfl ?_
 refine simL_val (q_fa rfl rfl Try.underlying152 rfl rfl Try.sizeOf3 rfl) rfl rfl rfl ?_
 refine simL_do (re_store 0 rfl rfl rfl Try.sizeOf3 rfl rfl (one_of (by rfl)) rfl rfl) rfl rfl ?_
 intro _
 refine simL_nil (nrm_then (sim_seq (sim_region ?_)))
 refine simL_val (q_move rfl rfl) rfl rfl rfl ?_
 refine simL_val (q_asg rfl rfl) rfl rfl rfl (simL_nil (nrm_then (sim_rtn ?_)))
 exact rtn_fn () rfl rfl rfl (.sel 0 rfl (.sel 0 rfl (.nil _)))
 refine sim_seq (sim_region ?_)
 refine simL_val (q_asg rfl rfl) rfl rfl rfl (simL_nil (nrm_then (sim_rtn ?_)))
 refine rtn_then ?_
 exact rtn_fn () rfl rfl rfl (.sel 0 rfl (.sel 0 rfl (.nil _)))

def synodref1_Reader_Bytes.f (k : Nat) (x0_0 : List UInt8) (x0_1 : Int) (x0_2 : Int) (x1 : Int) : Option (List UInt8 × Int × Int) := (synodref1_Reader_Int.f k x0_0 x0_1 x0_2).bind fun s1v => (if s1v.2.2 = (0 : Int) then ((if max x1 (0 : Int) < s1v.1 then (some 3) else (if IntKind.i64.wrap ((x0_0.length : Int) - s1v.2.1) < s1v.1 then (some 2) else (some s1v.2.2))).bind fun s6v => (if s6v = (0 : Int) then (if 0 ≤ IntKind.i64.wrap ((IntKind.i64.wrap (s1v.2.1 + s1v.1)) - s1v.1) ∧ IntKind.i64.wrap ((IntKind.i64.wrap (s1v.2.1 + s1v.1)) - s1v.1) ≤ IntKind.i64.wrap (s1v.2.1 + s1v.1) ∧ IntKind.i64.wrap (s1v.2.1 + s1v.1) ≤ (x0_0.length : Int) then ((synodref_Bytes.f (cut x0_0 (IntKind.i64.wrap ((IntKind.i64.wrap (s1v.2.1 + s1v.1)) - s1v.1)) (IntKind.i64.wrap (s1v.2.1 + s1v.1)))).bind fun s22v => (some (s22v, IntKind.i64.wrap (s1v.2.1 + s1v.1), s6v))) else none) else (some (([] : List UInt8), x0_1, s6v)))) else (some (([] : List UInt8), s1v.2.1, s1v.2.2)))
theorem synodref1_Reader_Bytes.calls (W : World) (F : HA) (k : Nat) (b0 : Nat) (a0_0 : Option Addr) (c0_0 : Nat) (x0_0 : List UInt8) (x0_1 : Int) (x0_2 : Int) (x1 : Int) (h0_0 : Rd F a0_0 (encB x0_0)) (hc0_0 : x0_0.length ≤ c0_0) (hm0_0 : c0_0 ≤ maxLen) :
    Fn Try.prog W 92 [.pointer (some ⟨b0, 0, none⟩), .int .i64 x1] [obj b0 152 [.slice a0_0 x0_0.length c0_0, .int .i64 x0_1, .int .i64 x0_2]] F (synodref1_Reader_Bytes.f k x0_0 x0_1 x0_2 x1) (fun (r : List UInt8 × Int × Int) (y : Option Addr × Nat) => .slice y.1 r.1.length y.2) (fun r y => [Row 5 1 y.1 r.1.length y.2 (encB r.1), obj b0 152 [.slice a0_0 x0_0.length c0_0, .int .i64 r.2.1, .int .i64 r.2.2]]) := by
 unfold synodref1_Reader_Bytes.f
 refine fn_intro 74 Try.func92 rfl Try.ntmps92 rfl ?_
 refine sim_seq (sim_region ?_)
 refine simL_val (q_asg rfl rfl) rfl rfl rfl (simL_nil (nrm_then (sim_seq (sim_region ?_))))
 refine simL_val (q_move rfl rfl) rfl rfl rfl ?_
 refine simL_val (q_nil rfl rfl) rfl rfl rfl ?_
 refine simL_val (q_fa rfl rfl Try.underlying152 rfl rfl Try.sizeOf3 rfl) rfl rfl rfl ?_
 refine simL_val (q_load rfl rfl Try.isAgg3 (.obj 0 rfl rfl)) rfl rfl rfl ?_
 refine simL_val (q_asg rfl rfl) rfl rfl rfl (simL_nil (nrm_then (sim_seq (sim_region ?_))))
 refine simL_val (q_move rfl rfl) rfl rfl rfl ?_
 refine simL_bind (fun s1v hs3v => ?_)
 refine simL_eff (re_call (vs := [.pointer (some ⟨b0, 0, none⟩)]) (cap := []) (A := [obj b0 152 [.slice a0_0 x0_0.length c0_0, .int .i64 x0_1, .int .i64 x0_2]]) (rst := [F]) rfl rfl rfl rfl rfl rfl Try.call85 (.sel 0 rfl (.sel 0 rfl (.nil _))) (synodref1_Reader_Int.calls _ _ k b0 a0_0 c0_0 x0_0 x0_1 x0_2 (h0_0.lend 0 rfl) hc0_0 hm0_0) hs3v) rfl rfl rfl ?_
 intro y2v
 refine simL_val (q_asg rfl rfl) rfl rfl rfl (simL_nil (nrm_then (sim_seq (sim_seq (sim_region ?_)))))
 refine simL_val (q_move rfl rfl) rfl rfl rfl ?_
 refine simL_val (q_nil rfl rfl) rfl rfl rfl ?_
 refine simL_val (q_fa rfl rfl Try.underlying152 rfl rfl Try.sizeOf3 rfl) rfl rfl rfl ?_
 refine simL_val (q_load rfl rfl Try.isAgg3 (.obj 0 rfl rfl)) rfl rfl rfl ?_
 refine simL_val (q_neq rfl rfl rfl) rfl rfl rfl (simL_nil (nrm_then ?_))
 refine sim_condn rfl (fun h4v => ?_) (fun h5v => ?_)
 refine sim_skip ?_
 refine nrm_then ?_
 refine sim_cut (S := Int) (Unit) (fun s y => [(0, .pointer (some ⟨b0, 0, none⟩)), (5, .int .i64 x0_1), (6, .int .i64 s1v.1)]) (fun s y => [obj b0 152 [.slice a0_0 x0_0.length c0_0, .int .i64 s1v.2.1, .int .i64 s], F]) ?_ ?_
 refine sim_seq (sim_region ?_)
 refine simL_val (q_move rfl rfl) rfl rfl rfl ?_
 refine simL_val (q_move rfl rfl) rfl rfl rfl ?_
 refine simL_val (q_max rfl rfl rfl) rfl rfl rfl ?_
 refine simL_val (q_gtr rfl rfl rfl) rfl rfl rfl (simL_nil (nrm_then ?_))
 refine sim_cond rfl (fun h8v => ?_) (fun h9v => ?_)
 refine sim_region ?_
 refine simL_val (q_move rfl rfl) rfl rfl rfl ?_
 refine simL_val (q_nil rfl rfl) rfl rfl rfl ?_
 refine simL_val (q_fa rfl rfl Try.underlying152 rfl rfl Try.sizeOf3 rfl) rfl rfl rfl ?_
 refine simL_do (re_store 0 rfl rfl rfl Try.sizeOf3 rfl rfl (one_of (by rfl)) rfl rfl) rfl rfl ?_
 intro _
 refine simL_nil ?_
 exact nrm_cut (s := 3) () ⟨rfl, rfl, rfl, trivial⟩ (.sel 0 rfl (.sel 0 rfl (.nil _)))
 refine sim_seq ?_
 refine sim_draw (Γ := Unit) () [[], [], [1], [1, 2], [1, 2, 3], [1, 2, 3, 4], [], [6], [6, 7], [6, 7, 8], [1, 2, 3, 4, 5, 6, 7, 8, 9], [0, 1, 2, 3, 4, 5, 6, 7, 8, 9, 10]] [] [0, 1, 2, 3, 4, 5, 6, 7, 8, 9, 10, 11] (fun i => [[0], [0], [0], [0], [0], [0], [0], [0], [0], [0], [0], [0]].getD i []) (fun i => [[], [], [], [], [], [], [], [], [], [], [], []].getD i []) (fun γ i => [.int .i64 s1v.1, .pointer (some ⟨b0, 0, none⟩), .pointer (some ⟨b0, 0, none⟩), .pointer (some ⟨b0, 0, none⟩), .slice a0_0 x0_0.length c0_0, .int .i64 (x0_0.length : Int), .pointer (some ⟨b0, 0, none⟩), .pointer (some ⟨b0, 0, none⟩), .pointer (some ⟨b0, 1, none⟩), .int .i64 s1v.2.1, .int .i64 (IntKind.i64.wrap ((x0_0.length : Int) - s1v.2.1)), .bool (decide (IntKind.i64.wrap ((x0_0.length : Int) - s1v.2.1) < s1v.1))].getD i undef) (fun j γ => [[obj b0 152 [.slice a0_0 x0_0.length c0_0, .int .i64 s1v.2.1, .int .i64 s1v.2.2], F]].getD j []) (fun γ => [(0, .pointer (some ⟨b0, 0, none⟩)), (5, .int .i64 x0_1), (6, .int .i64 s1v.1), (36, .bool (decide (IntKind.i64.wrap ((x0_0.length : Int) - s1v.2.1) < s1v.1)))]) mixed (by decide) (by decide) (by decide) (by decide) (by decide) (by decide) (by decide) 74 rfl (by decide) (by decide) (by decide) (Ent.refl _) ?_ ?_ (fun _ => ⟨rfl, rfl, rfl, rfl, trivial⟩) ?_
 exact (All.cons (fun γ => (All.cons (QOb.plain [(6, .int .i64 s1v.1)] rfl rfl (.o rfl (by decide) .nil) (q_move rfl rfl) rfl) All.nil)) (All.cons (fun γ => (All.cons (QOb.plain [(0, .pointer (some ⟨b0, 0, none⟩))] rfl rfl (.o rfl (by decide) .nil) (q_move rfl rfl) rfl) All.nil)) (All.cons (fun γ => (All.cons (QOb.plain [(26, .pointer (some ⟨b0, 0, none⟩))] rfl rfl (.w 1 rfl rfl rfl .nil) (q_nil rfl rfl) rfl) All.nil)) (All.cons (fun γ => (All.cons (QOb.plain [(27, .pointer (some ⟨b0, 0, none⟩))] rfl rfl (.w 2 rfl rfl rfl .nil) (q_fa rfl rfl Try.underlying152 rfl rfl Try.sizeOf27 rfl) rfl) All.nil)) (All.cons (fun γ => (All.cons (QOb.plain [(28, .pointer (some ⟨b0, 0, none⟩))] rfl rfl (.w 3 rfl rfl rfl .nil) (q_load rfl rfl Try.isAgg27 (.obj 0 rfl rfl)) rfl) All.nil)) (All.cons (fun γ => (All.cons (QOb.plain [(29, .slice a0_0 x0_0.length c0_0)] rfl rfl (.w 4 rfl rfl rfl .nil) (q_len rfl rfl rfl Try.underlying27) rfl) All.nil)) (All.cons (fun γ => (All.cons (QOb.plain [(0, .pointer (some ⟨b0, 0, none⟩))] rfl rfl (.o rfl (by decide) .nil) (q_move rfl rfl) rfl) All.nil)) (All.cons (fun γ => (All.cons (QOb.plain [(31, .pointer (some ⟨b0, 0, none⟩))] rfl rfl (.w 6 rfl rfl rfl .nil) (q_nil rfl rfl) rfl) All.nil)) (All.cons (fun γ => (All.cons (QOb.plain [(32, .pointer (some ⟨b0, 0, none⟩))] rfl rfl (.w 7 rfl rfl rfl .nil) (q_fa rfl rfl Try.underlying152 rfl rfl Try.sizeOf3 rfl) rfl) All.nil)) (All.cons (fun γ => (All.cons (QOb.plain [(33, .pointer (some ⟨b0, 1, none⟩))] rfl rfl (.w 8 rfl rfl rfl .nil) (q_load rfl rfl Try.isAgg3 (.obj 0 rfl rfl)) rfl) All.nil)) (All.cons (fun γ => (All.cons (QOb.plain [(30, .int .i64 (x0_0.length : Int)), (34, .int .i64 s1v.2.1)] rfl rfl (.w 5 rfl rfl rfl (.w 9 rfl rfl rfl .nil)) (q_sub rfl rfl rfl) rfl) All.nil)) (All.cons (fun γ => (All.cons (QOb.plain [(25, .int .i64 s1v.1), (35, .int .i64 (IntKind.i64.wrap ((x0_0.length : Int) - s1v.2.1)))] rfl rfl (.w 0 rfl rfl rfl (.w 10 rfl rfl rfl .nil)) (q_gtr rfl rfl rfl) rfl) All.nil)) All.nil))))))))))))
 exact All.nil
 intro g10v
 refine nrm_then ?_
 refine sim_cond rfl (fun h11v => ?_) (fun h12v => ?_)
 refine sim_region ?_
 refine simL_val (q_move rfl rfl) rfl rfl rfl ?_
 refine simL_val (q_nil rfl rfl) rfl rfl rfl ?_
 refine simL_val (q_fa rfl rfl Try.underlying152 rfl rfl Try.sizeOf3 rfl) rfl rfl rfl ?_
 refine simL_do (re_store 0 rfl rfl rfl Try.sizeOf3 rfl rfl (one_of (by rfl)) rfl rfl) rfl rfl ?_
 intro _
 refine simL_nil ?_
 exact nrm_cut (s := 2) () ⟨rfl, rfl, rfl, trivial⟩ (.sel 0 rfl (.sel 0 rfl (.nil _)))
 refine sim_skip ?_
 exact nrm_cut (s := s1v.2.2) () ⟨rfl, rfl, rfl, trivial⟩ (.sel 0 rfl (.sel 0 rfl (.nil _)))
 intro s6v y7v
 refine sim_seq (sim_seq (sim_region ?_))
 refine simL_val (q_move rfl rfl) rfl rfl rfl ?_
 refine simL_val (q_nil rfl rfl) rfl rfl rfl ?_
 refine simL_val (q_fa rfl rfl Try.underlying152 rfl rfl Try.sizeOf3 rfl) rfl rfl rfl ?_
 refine simL_val (q_load rfl rfl Try.isAgg3 (.obj 0 rfl rfl)) rfl rfl rfl ?_
 refine simL_val (q_neq rfl rfl rfl) rfl rfl rfl (simL_nil (nrm_then ?_))
 refine sim_condn rfl (fun h13v => ?_) (fun h14v => ?_)
 refine sim_skip ?_
 refine nrm_then (sim_seq (sim_region ?_))
 refine simL_val (q_move rfl rfl) rfl rfl rfl ?_
 refine simL_val (q_move rfl rfl) rfl rfl rfl ?_
 refine simL_val (q_nil rfl rfl) rfl rfl rfl ?_
 refine simL_val (q_fa rfl rfl Try.underlying152 rfl rfl Try.sizeOf3 rfl) rfl rfl rfl ?_
 refine simL_val (q_load rfl rfl Try.isAgg3 (.obj 0 rfl rfl)) rfl rfl rfl ?_
 refine simL_val (q_move rfl rfl) rfl rfl rfl ?_
 refine simL_val (q_add rfl rfl rfl) rfl rfl rfl ?_
 refine simL_val (q_nil rfl rfl) rfl rfl rfl ?_
 refine simL_val (q_fa rfl rfl Try.underlying152 rfl rfl Try.sizeOf3 rfl) rfl rfl rfl ?_
 refine simL_do (re_store 0 rfl rfl rfl Try.sizeOf3 rfl rfl (one_of (by rfl)) rfl rfl) rfl rfl ?_
 intro _
 refine simL_nil (nrm_then (sim_seq ?_))
 refine sim_ask (fun hb15v => ?_)
 obtain ⟨a16v, c17v, hS18v, hr19v, hc20v, hm21v⟩ := slice_pre (lo := IntKind.i64.wrap ((IntKind.i64.wrap (s1v.2.1 + s1v.1)) - s1v.1)) (hi := IntKind.i64.wrap (s1v.2.1 + s1v.1)) h0_0 hc0_0 hb15v
 refine sim_bind (fun s22v hs24v => ?_)
 refine sim_draw (Γ := (Option Addr × Nat)) (none, 0) [[], [0], [0, 1], [0, 1, 2], [], [4], [4, 5], [4, 5, 6], [], [4, 5, 6, 7, 8], [], [10], [10, 11], [10, 11, 12], [0, 1, 2, 3, 4, 5, 6, 7, 8, 9, 10, 11, 12, 13], [0, 1, 2, 3, 4, 5, 6, 7, 8, 9, 10, 11, 12, 13, 14], [0, 1, 2, 3, 4, 5, 6, 7, 8, 9, 10, 11, 12, 13, 14, 15]] [15] [0, 1, 2, 3, 4, 5, 6, 7, 8, 9, 10, 11, 12, 13, 14, 16] (fun i => [[0], [0], [0], [0], [0], [0], [0], [0], [0], [0], [0], [0], [0], [0], [0], [], [1]].getD i []) (fun i => [[], [], [], [], [], [], [], [], [], [], [], [], [], [], [], [0, 1, 2, 3, 4, 5, 6, 7, 8, 9, 10, 11, 12, 13, 14], []].getD i []) (fun γ i => [.pointer (some ⟨b0, 0, none⟩), .pointer (some ⟨b0, 0, none⟩), .pointer (some ⟨b0, 0, none⟩), .slice a0_0 x0_0.length c0_0, .pointer (some ⟨b0, 0, none⟩), .pointer (some ⟨b0, 0, none⟩), .pointer (some ⟨b0, 1, none⟩), .int .i64 (IntKind.i64.wrap (s1v.2.1 + s1v.1)), .int .i64 s1v.1, .int .i64 (IntKind.i64.wrap ((IntKind.i64.wrap (s1v.2.1 + s1v.1)) - s1v.1)), .pointer (some ⟨b0, 0, none⟩), .pointer (some ⟨b0, 0, none⟩), .pointer (some ⟨b0, 1, none⟩), .int .i64 (IntKind.i64.wrap (s1v.2.1 + s1v.1)), .slice a16v ((cut x0_0 (IntKind.i64.wrap ((IntKind.i64.wrap (s1v.2.1 + s1v.1)) - s1v.1)) (IntKind.i64.wrap (s1v.2.1 + s1v.1))).length) c17v, .slice γ.1 s22v.length γ.2, .slice γ.1 s22v.length γ.2].getD i undef) (fun j γ => [[obj b0 152 [.slice a0_0 x0_0.length c0_0, .int .i64 (IntKind.i64.wrap (s1v.2.1 + s1v.1)), .int .i64 s6v], F], [Row 5 1 γ.1 s22v.length γ.2 (encB s22v), obj b0 152 [.slice a0_0 x0_0.length c0_0, .int .i64 (IntKind.i64.wrap (s1v.2.1 + s1v.1)), .int .i64 s6v], F]].getD j []) (fun γ => [(4, .slice γ.1 s22v.length γ.2)]) mixed (by decide) (by decide) (by decide) (by decide) (by decide) (by decide) (by decide) 74 rfl (by decide) (by decide) (by decide) (Ent.refl _) ?_ ?_ (fun _ => ⟨rfl, trivial⟩) ?_
 exact (All.cons (fun γ => (All.cons (QOb.plain [(0, .pointer (some ⟨b0, 0, none⟩))] rfl rfl (.o rfl (by decide) .nil) (q_move rfl rfl) rfl) All.nil)) (All.cons (fun γ => (All.cons (QOb.plain [(58, .pointer (some ⟨b0, 0, none⟩))] rfl rfl (.w 0 rfl rfl rfl .nil) (q_nil rfl rfl) rfl) All.nil)) (All.cons (fun γ => (All.cons (QOb.plain [(59, .pointer (some ⟨b0, 0, none⟩))] rfl rfl (.w 1 rfl rfl rfl .nil) (q_fa rfl rfl Try.underlying152 rfl rfl Try.sizeOf27 rfl) rfl) All.nil)) (All.cons (fun γ => (All.cons (QOb.plain [(60, .pointer (some ⟨b0, 0, none⟩))] rfl rfl (.w 2 rfl rfl rfl .nil) (q_load rfl rfl Try.isAgg27 (.obj 0 rfl rfl)) rfl) All.nil)) (All.cons (fun γ => (All.cons (QOb.plain [(0, .pointer (some ⟨b0, 0, none⟩))] rfl rfl (.o rfl (by decide) .nil) (q_move rfl rfl) rfl) All.nil)) (All.cons (fun γ => (All.cons (QOb.plain [(62, .pointer (some ⟨b0, 0, none⟩))] rfl rfl (.w 4 rfl rfl rfl .nil) (q_nil rfl rfl) rfl) All.nil)) (All.cons (fun γ => (All.cons (QOb.plain [(63, .pointer (some ⟨b0, 0, none⟩))] rfl rfl (.w 5 rfl rfl rfl .nil) (q_fa rfl rfl Try.underlying152 rfl rfl Try.sizeOf3 rfl) rfl) All.nil)) (All.cons (fun γ => (All.cons (QOb.plain [(64, .pointer (some ⟨b0, 1, none⟩))] rfl rfl (.w 6 rfl rfl rfl .nil) (q_load rfl rfl Try.isAgg3 (.obj 0 rfl rfl)) rfl) All.nil)) (All.cons (fun γ => (All.cons (QOb.plain [(6, .int .i64 s1v.1)] rfl rfl (.o rfl (by decide) .nil) (q_move rfl rfl) rfl) All.nil)) (All.cons (fun γ => (All.cons (QOb.plain [(65, .int .i64 (IntKind.i64.wrap (s1v.2.1 + s1v.1))), (66, .int .i64 s1v.1)] rfl rfl (.w 7 rfl rfl rfl (.w 8 rfl rfl rfl .nil)) (q_sub rfl rfl rfl) rfl) All.nil)) (All.cons (fun γ => (All.cons (QOb.plain [(0, .pointer (some ⟨b0, 0, none⟩))] rfl rfl (.o rfl (by decide) .nil) (q_move rfl rfl) rfl) All.nil)) (All.cons (fun γ => (All.cons (QOb.plain [(68, .pointer (some ⟨b0, 0, none⟩))] rfl rfl (.w 10 rfl rfl rfl .nil) (q_nil rfl rfl) rfl) All.nil)) (All.cons (fun γ => (All.cons (QOb.plain [(69, .pointer (some ⟨b0, 0, none⟩))] rfl rfl (.w 11 rfl rfl rfl .nil) (q_fa rfl rfl Try.underlying152 rfl rfl Try.sizeOf3 rfl) rfl) All.nil)) (All.cons (fun γ => (All.cons (QOb.plain [(70, .pointer (some ⟨b0, 1, none⟩))] rfl rfl (.w 12 rfl rfl rfl .nil) (q_load rfl rfl Try.isAgg3 (.obj 0 rfl rfl)) rfl) All.nil)) (All.cons (fun γ => (All.cons (QOb.plain [(61, .slice a0_0 x0_0.length c0_0), (67, .int .i64 (IntKind.i64.wrap ((IntKind.i64.wrap (s1v.2.1 + s1v.1)) - s1v.1))), (71, .int .i64 (IntKind.i64.wrap (s1v.2.1 + s1v.1)))] rfl rfl (.w 3 rfl rfl rfl (.w 9 rfl rfl rfl (.w 13 rfl rfl rfl .nil))) (q_sub_ro (l := x0_0) (lo' := IntKind.i64.wrap ((IntKind.i64.wrap (s1v.2.1 + s1v.1)) - s1v.1)) (hi' := IntKind.i64.wrap (s1v.2.1 + s1v.1)) rfl rfl rfl rfl Try.underlying27 Try.sizeOf5 (.inr ⟨_, rfl⟩) (.inr ⟨_, rfl⟩) hb15v hc0_0 hS18v) rfl) All.nil)) (All.cons (fun γ => (All.cons (QOb.plain [(73, .slice γ.1 s22v.length γ.2)] rfl rfl (.w 15 rfl rfl rfl .nil) (q_asg rfl rfl) rfl) All.nil)) All.nil))))))))))))))))
 exact (All.cons (fun γ => EOb.mk (Z := Option Addr × Nat) [(72, .slice a16v ((cut x0_0 (IntKind.i64.wrap ((IntKind.i64.wrap (s1v.2.1 + s1v.1)) - s1v.1)) (IntKind.i64.wrap (s1v.2.1 + s1v.1))).length) c17v)] (fun z => z) rfl rfl (.w 14 rfl rfl rfl .nil) (re_call (vs := [.slice a16v ((cut x0_0 (IntKind.i64.wrap ((IntKind.i64.wrap (s1v.2.1 + s1v.1)) - s1v.1)) (IntKind.i64.wrap (s1v.2.1 + s1v.1))).length) c17v]) (cap := []) (A := []) (rst := [obj b0 152 [.slice a0_0 x0_0.length c0_0, .int .i64 (IntKind.i64.wrap (s1v.2.1 + s1v.1)), .int .i64 s6v], F]) rfl rfl rfl rfl rfl rfl Try.call62 (.sel 0 rfl (.sel 0 rfl (.nil _))) (synodref_Bytes.calls _ _ a16v c17v (cut x0_0 (IntKind.i64.wrap ((IntKind.i64.wrap (s1v.2.1 + s1v.1)) - s1v.1)) (IntKind.i64.wrap (s1v.2.1 + s1v.1))) (hr19v.lend 1 rfl) hc20v (Nat.le_trans hm21v hm0_0)) hs24v) (fun _ => ⟨rfl, rfl, rfl, rfl, rfl, rfl, rfl, rfl, rfl, rfl, rfl, rfl, rfl, rfl, rfl, trivial⟩) (fun _ => .inr rfl) (fun z => Ent.refl _)) All.nil)
 intro g25v
 refine nrm_then (sim_rtn ?_)
 exact rtn_fn (g25v.1, g25v.2) rfl rfl rfl (.sel 0 rfl (.sel 0 rfl (.sel 0 rfl (.nil _))))
 refine sim_seq (sim_region ?_)
 refine simL_val (q_move rfl rfl) rfl rfl rfl ?_
 refine simL_val (q_move rfl rfl) rfl rfl rfl ?_
 refine simL_val (q_nil rfl rfl) rfl rfl rfl ?_
 refine simL_val (q_fa rfl rfl Try.underlying152 rfl rfl Try.sizeOf3 rfl) rfl rfl rfl ?_
 refine simL_do (re_store 0 rfl rfl rfl Try.sizeOf3 rfl rfl (one_of (by rfl)) rfl rfl) rfl rfl ?_
 intro _
 refine simL_nil (nrm_then (sim_seq (sim_region ?_)))
 refine simL_val (q_asg rfl rfl) rfl rfl rfl (simL_nil (nrm_then (sim_rtn ?_)))
 refine rtn_then ?_
 exact rtn_fn (none, 0) rfl rfl rfl (.row_nil (.sel 0 rfl (.sel 0 rfl (.nil _))))
 refine sim_seq (sim_region ?_)
 refine simL_val (q_asg rfl rfl) rfl rfl rfl (simL_nil (nrm_then (sim_rtn ?_)))
 refine rtn_then ?_
 exact rtn_fn (none, 0) rfl rfl rfl (.row_nil (.sel 0 rfl (.sel 0 rfl (.nil _))))

def synodref1_Reader_Left.f (x0_0 : List UInt8) (x0_1 : Int) (x0_2 : Int) : Option (Int) := some (IntKind.i64.wrap ((x0_0.length : Int) - x0_1))
theorem synodref1_Reader_Left.calls (W : World) (F : HA) (b0 : Nat) (a0_0 : Option Addr) (c0_0 : Nat) (x0_0 : List UInt8) (x0_1 : Int) (x0_2 : Int) (h0_0 : Rd F a0_0 (encB x0_0)) (hc0_0 : x0_0.length ≤ c0_0) (hm0_0 : c0_0 ≤ maxLen) :
    Fn Try.prog W 131 [.pointer (some ⟨b0, 0, none⟩)] [obj b0 152 [.slice a0_0 x0_0.length c0_0, .int .i64 x0_1, .int .i64 x0_2]] F (synodref1_Reader_Left.f x0_0 x0_1 x0_2) (fun (r : Int) (y : Unit) => .int .i64 r) (fun r y => [obj b0 152 [.slice a0_0 x0_0.length c0_0, .int .i64 x0_1, .int .i64 x0_2]]) := by
 unfold synodref1_Reader_Left.f
 refine fn_intro 13 Try.func131 rfl Try.ntmps131 rfl ?_
 refine sim_seq (sim_region ?_)
 refine simL_val (q_asg rfl rfl) rfl rfl rfl (simL_nil (nrm_then (sim_seq ?_)))
 refine sim_draw (Γ := Unit) () [[], [0], [0, 1], [0, 1, 2], [0, 1, 2, 3], [], [5], [5, 6], [5, 6, 7], [0, 1, 2, 3, 4, 5, 6, 7, 8], [0, 1, 2, 3, 4, 5, 6, 7, 8, 9]] [] [0, 1, 2, 3, 4, 5, 6, 7, 8, 9, 10] (fun i => [[0], [0], [0], [0], [0], [0], [0], [0], [0], [0], [0]].getD i []) (fun i => [[], [], [], [], [], [], [], [], [], [], []].getD i []) (fun γ i => [.pointer (some ⟨b0, 0, none⟩), .pointer (some ⟨b0, 0, none⟩), .pointer (some ⟨b0, 0, none⟩), .slice a0_0 x0_0.length c0_0, .int .i64 (x0_0.length : Int), .pointer (some ⟨b0, 0, none⟩), .pointer (some ⟨b0, 0, none⟩), .pointer (some ⟨b0, 1, none⟩), .int .i64 x0_1, .int .i64 (IntKind.i64.wrap ((x0_0.length : Int) - x0_1)), .int .i64 (IntKind.i64.wrap ((x0_0.length : Int) - x0_1))].getD i undef) (fun j γ => [[obj b0 152 [.slice a0_0 x0_0.length c0_0, .int .i64 x0_1, .int .i64 x0_2], F]].getD j []) (fun γ => [(2, .int .i64 (IntKind.i64.wrap ((x0_0.length : Int) - x0_1)))]) mixed (by decide) (by decide) (by decide) (by decide) (by decide) (by decide) (by decide) 13 rfl (by decide) (by decide) (by decide) (Ent.refl _) ?_ ?_ (fun _ => ⟨rfl, trivial⟩) ?_
 exact (All.cons (fun γ => (All.cons (QOb.plain [(0, .pointer (some ⟨b0, 0, none⟩))] rfl rfl (.o rfl (by decide) .nil) (q_move rfl rfl) rfl) All.nil)) (All.cons (fun γ => (All.cons (QOb.plain [(3, .pointer (some ⟨b0, 0, none⟩))] rfl rfl (.w 0 rfl rfl rfl .nil) (q_nil rfl rfl) rfl) All.nil)) (All.cons (fun γ => (All.cons (QOb.plain [(4, .pointer (some ⟨b0, 0, none⟩))] rfl rfl (.w 1 rfl rfl rfl .nil) (q_fa rfl rfl Try.underlying152 rfl rfl Try.sizeOf27 rfl) rfl) All.nil)) (All.cons (fun γ => (All.cons (QOb.plain [(5, .pointer (some ⟨b0, 0, none⟩))] rfl rfl (.w 2 rfl rfl rfl .nil) (q_load rfl rfl Try.isAgg27 (.obj 0 rfl rfl)) rfl) All.nil)) (All.cons (fun γ => (All.cons (QOb.plain [(6, .slice a0_0 x0_0.length c0_0)] rfl rfl (.w 3 rfl rfl rfl .nil) (q_len rfl rfl rfl Try.underlying27) rfl) All.nil)) (All.cons (fun γ => (All.cons (QOb.plain [(0, .pointer (some ⟨b0, 0, none⟩))] rfl rfl (.o rfl (by decide) .nil) (q_move rfl rfl) rfl) All.nil)) (All.cons (fun γ => (All.cons (QOb.plain [(8, .pointer (some ⟨b0, 0, none⟩))] rfl rfl (.w 5 rfl rfl rfl .nil) (q_nil rfl rfl) rfl) All.nil)) (All.cons (fun γ => (All.cons (QOb.plain [(9, .pointer (some ⟨b0, 0, none⟩))] rfl rfl (.w 6 rfl rfl rfl .nil) (q_fa rfl rfl Try.underlying152 rfl rfl Try.sizeOf3 rfl) rfl) All.nil)) (All.cons (fun γ => (All.cons (QOb.plain [(10, .pointer (some ⟨b0, 1, none⟩))] rfl rfl (.w 7 rfl rfl rfl .nil) (q_load rfl rfl Try.isAgg3 (.obj 0 rfl rfl)) rfl) All.nil)) (All.cons (fun γ => (All.cons (QOb.plain [(7, .int .i64 (x0_0.length : Int)), (11, .int .i64 x0_1)] rfl rfl (.w 4 rfl rfl rfl (.w 8 rfl rfl rfl .nil)) (q_sub rfl rfl rfl) rfl) All.nil)) (All.cons (fun γ => (All.cons (QOb.plain [(12, .int .i64 (IntKind.i64.wrap ((x0_0.length : Int) - x0_1)))] rfl rfl (.w 9 rfl rfl rfl .nil) (q_asg rfl rfl) rfl) All.nil)) All.nil)))))))))))
 exact All.nil
 intro g1v
 refine nrm_then (sim_rtn ?_)
 exact rtn_fn () rfl rfl rfl (.sel 0 rfl (.sel 0 rfl (.nil _)))
def synodref1_Reader_Left.v (x0_0 : List UInt8) (x0_1 : Int) (x0_2 : Int) : Int := (synodref1_Reader_Left.f x0_0 x0_1 x0_2).getD 0
theorem synodref1_Reader_Left.tot (x0_0 : List UInt8) (x0_1 : Int) (x0_2 : Int) : synodref1_Reader_Left.f x0_0 x0_1 x0_2 = some (synodref1_Reader_Left.v x0_0 x0_1 x0_2) := by
  have h : ∃ r, synodref1_Reader_Left.f x0_0 x0_1 x0_2 = some r := by
    unfold synodref1_Reader_Left.f
    repeat' (first | exact ⟨_, rfl⟩ | split | simp only [Option.bind_some])
  obtain ⟨r, h⟩ := h
  unfold synodref1_Reader_Left.v
  rw [h]; rfl

def synodref1_Reader_Done.f (x0_0 : List UInt8) (x0_1 : Int) (x0_2 : Int) : Option (Int) := (if x0_2 = (0 : Int) then ((synodref1_Reader_Left.f x0_0 x0_1 x0_2).bind fun s3v => (some (decide ((0 : Int) < s3v)))) else (some false)).bind fun s1v => (if s1v = true then (some 3) else (some x0_2))
theorem synodref1_Reader_Done.calls (W : World) (F : HA) (b0 : Nat) (a0_0 : Option Addr) (c0_0 : Nat) (x0_0 : List UInt8) (x0_1 : Int) (x0_2 : Int) (h0_0 : Rd F a0_0 (encB x0_0)) (hc0_0 : x0_0.length ≤ c0_0) (hm0_0 : c0_0 ≤ maxLen) :
    Fn Try.prog W 86 [.pointer (some ⟨b0, 0, none⟩)] [obj b0 152 [.slice a0_0 x0_0.length c0_0, .int .i64 x0_1, .int .i64 x0_2]] F (synodref1_Reader_Done.f x0_0 x0_1 x0_2) (fun (r : Int) (y : Unit) => .int .i64 r) (fun r y => [obj b0 152 [.slice a0_0 x0_0.length c0_0, .int .i64 x0_1, .int .i64 x0_2]]) := by
 unfold synodref1_Reader_Done.f
 refine fn_intro 17 Try.func86 rfl Try.ntmps86 rfl ?_
 refine sim_seq (sim_region ?_)
 refine simL_val (q_asg rfl rfl) rfl rfl rfl (simL_nil (nrm_then (sim_seq (sim_seq (sim_region ?_)))))
 refine simL_val (q_move rfl rfl) rfl rfl rfl ?_
 refine simL_val (q_nil rfl rfl) rfl rfl rfl ?_
 refine simL_val (q_fa rfl rfl Try.underlying152 rfl rfl Try.sizeOf3 rfl) rfl rfl rfl ?_
 refine simL_val (q_load rfl rfl Try.isAgg3 (.obj 0 rfl rfl)) rfl rfl rfl ?_
 refine simL_val (q_eql rfl rfl rfl) rfl rfl rfl ?_
 refine simL_val (q_move rfl rfl) rfl rfl rfl ?_
 refine simL_cut' 4 (S := Bool) (Unit) (fun s y => [(0, .pointer (some ⟨b0, 0, none⟩)), (12, .bool s)]) (fun s y => [obj b0 152 [.slice a0_0 x0_0.length c0_0, .int .i64 x0_1, .int .i64 x0_2], F]) ?_ ?_
 refine simL_casep (fun hb6v => ?_) (fun hb7v => ?_)
 rw [hb6v]
 refine simL_valg (q_move rfl rfl) rfl rfl rfl rfl rfl rfl ?_
 refine simL_bind (fun s3v hs5v => ?_)
 refine simL_effg (re_call (vs := [.pointer (some ⟨b0, 0, none⟩)]) (cap := []) (A := [obj b0 152 [.slice a0_0 x0_0.length c0_0, .int .i64 x0_1, .int .i64 x0_2]]) (rst := [F]) rfl rfl rfl rfl rfl rfl Try.call131 (.sel 0 rfl (.sel 0 rfl (.nil _))) (synodref1_Reader_Left.calls _ _ b0 a0_0 c0_0 x0_0 x0_1 x0_2 (h0_0.lend 0 rfl) hc0_0 hm0_0) hs5v) rfl rfl rfl rfl rfl rfl ?_
 intro y4v
 refine simL_valg (q_gtr rfl rfl rfl) rfl rfl rfl rfl rfl rfl ?_
 refine simL_val (q_pick rfl rfl rfl rfl rfl) rfl rfl rfl (simL_nil ?_)
 exact nrm_cut (s := decide ((0 : Int) < s3v)) () ⟨rfl, rfl, trivial⟩ (.sel 0 rfl (.sel 0 rfl (.nil _)))
 rw [hb7v]
 refine simL_skipd rfl rfl rfl rfl rfl rfl ?_
 refine simL_skipd rfl rfl rfl rfl rfl rfl ?_
 refine simL_skipd rfl rfl rfl rfl rfl rfl ?_
 refine simL_val (q_pick rfl rfl rfl rfl rfl) rfl rfl rfl (simL_nil ?_)
 exact nrm_cut (s := false) () ⟨rfl, rfl, trivial⟩ (.sel 0 rfl (.sel 0 rfl (.nil _)))
 intro s1v y2v
 refine simL_nil (nrm_then ?_)
 refine sim_condb rfl (fun h8v => ?_) (fun h9v => ?_)
 refine sim_seq (sim_region ?_)
 refine simL_val (q_asg rfl rfl) rfl rfl rfl (simL_nil (nrm_then (sim_rtn ?_)))
 refine rtn_then ?_
 exact rtn_fn () rfl rfl rfl (.sel 0 rfl (.sel 0 rfl (.nil _)))
 refine sim_skip ?_
 refine nrm_then (sim_seq (sim_region ?_))
 refine simL_val (q_move rfl rfl) rfl rfl rfl ?_
 refine simL_val (q_nil rfl rfl) rfl rfl rfl ?_
 refine simL_val (q_fa rfl rfl Try.underlying152 rfl rfl Try.sizeOf3 rfl) rfl rfl rfl ?_
 refine simL_val (q_load rfl rfl Try.isAgg3 (.obj 0 rfl rfl)) rfl rfl rfl ?_
 refine simL_val (q_asg rfl rfl) rfl rfl rfl (simL_nil (nrm_then (sim_rtn ?_)))
 exact rtn_fn () rfl rfl rfl (.sel 0 rfl (.sel 0 rfl (.nil _)))
def synodref1_Reader_Done.v (x0_0 : List UInt8) (x0_1 : Int) (x0_2 : Int) : Int := (synodref1_Reader_Done.f x0_0 x0_1 x0_2).getD 0
theorem synodref1_Reader_Done.tot (x0_0 : List UInt8) (x0_1 : Int) (x0_2 : Int) : synodref1_Reader_Done.f x0_0 x0_1 x0_2 = some (synodref1_Reader_Done.v x0_0 x0_1 x0_2) := by
  have h : ∃ r, synodref1_Reader_Done.f x0_0 x0_1 x0_2 = some r := by
    unfold synodref1_Reader_Done.f
    repeat' (first | exact ⟨_, rfl⟩ | split | simp only [Option.bind_some, synodref1_Reader_Left.tot])
  obtain ⟨r, h⟩ := h
  unfold synodref1_Reader_Done.v
  rw [h]; rfl

def synodref3_GetEntry.f (k : Nat) (x0 : List UInt8) : Option (Int × Int × Int × List UInt8 × Int) := (synodref1_Reader_Int.f k x0 (0 : Int) (0 : Int)).bind fun s3v => ((synodref1_Reader_Int.f k x0 s3v.2.1 s3v.2.2).bind fun s6v => ((synodref1_Reader_Int.f k x0 s6v.2.1 s6v.2.2).bind fun s9v => ((synodref1_Reader_Bytes.f k x0 s9v.2.1 s9v.2.2 (4096 : Int)).bind fun s12v => ((synodref1_Reader_Done.f x0 s12v.2.1 s12v.2.2).bind fun s16v => ((if s16v = (0 : Int) then ((synodref3_CheckEntry.f s3v.1 s6v.1 s9v.1 s12v.1).bind fun s27v => (some s27v)) else (some s16v)).bind fun s19v => (if s19v = (0 : Int) then (some (s3v.1, s6v.1, s9v.1, s12v.1, s19v)) else (some (0, 0, 0, ([] : List UInt8), s19v))))))))
theorem synodref3_GetEntry.calls (W : World) (F : HA) (k : Nat) (a0 : Option Addr) (c0 : Nat) (x0 : List UInt8) (h0 : Rd F a0 (encB x0)) (hc0 : x0.length ≤ c0) (hm0 : c0 ≤ maxLen) :
    Fn Try.prog W 37 [.slice a0 x0.length c0] [] F (synodref3_GetEntry.f k x0) (fun (r : Int × Int × Int × List UInt8 × Int) (y : Option Addr × Nat) => .tuple #[.agg #[.int .i64 r.1, .int .i64 r.2.1, .int .i64 r.2.2.1, .slice y.1 r.2.2.2.1.length y.2], .int .i64 r.2.2.2.2]) (fun r y => [Row 5 1 y.1 r.2.2.2.1.length y.2 (encB r.2.2.2.1)]) := by
 unfold synodref3_GetEntry.f
 refine fn_intro 31 Try.func37 rfl Try.ntmps37 rfl ?_
 refine sim_seq (sim_region ?_)
 refine simL_eff (re_alloc rfl Try.zeroValue61 rfl) rfl rfl rfl ?_
 intro b1v
 refine simL_val (q_asg rfl rfl) rfl rfl rfl (simL_nil (nrm_then (sim_seq (sim_region ?_))))
 refine simL_val (q_move rfl rfl) rfl rfl rfl ?_
 refine simL_val (q_build (v := .agg #[.slice a0 x0.length c0, .int .i64 0, .int .i64 0]) rfl rfl (fun _ => by kernel_rfl)) rfl rfl rfl ?_
 refine simL_eff (re_box rfl rfl rfl) rfl rfl rfl ?_
 intro b2v
 refine simL_val (q_asg rfl rfl) rfl rfl rfl (simL_nil (nrm_then (sim_seq (sim_region ?_))))
 refine simL_val (q_move rfl rfl) rfl rfl rfl ?_
 refine simL_bind (fun s3v hs5v => ?_)
 refine simL_eff (re_call (vs := [.pointer (some ⟨b2v, 0, none⟩)]) (cap := []) (A := [obj b2v 152 [.slice a0 x0.length c0, .int .i64 0, .int .i64 0]]) (rst := [obj b1v 61 [.int .i64 0, .int .i64 0, .int .i64 0, .slice none 0 0], F]) rfl rfl rfl rfl rfl rfl Try.call85 (.sel 0 rfl (.sel 0 rfl (.sel 0 rfl (.nil _)))) (synodref1_Reader_Int.calls _ _ k b2v a0 c0 x0 (0 : Int) (0 : Int) (h0.lend 1 rfl) hc0 hm0) hs5v) rfl rfl rfl ?_
 intro y4v
 refine simL_val (q_move rfl rfl) rfl rfl rfl ?_
 refine simL_bind (fun s6v hs8v => ?_)
 refine simL_eff (re_call (vs := [.pointer (some ⟨b2v, 0, none⟩)]) (cap := []) (A := [obj b2v 152 [.slice a0 x0.length c0, .int .i64 s3v.2.1, .int .i64 s3v.2.2]]) (rst := [obj b1v 61 [.int .i64 0, .int .i64 0, .int .i64 0, .slice none 0 0], F]) rfl rfl rfl rfl rfl rfl Try.call85 (.sel 0 rfl (.sel 0 rfl (.sel 0 rfl (.nil _)))) (synodref1_Reader_Int.calls _ _ k b2v a0 c0 x0 s3v.2.1 s3v.2.2 (h0.lend 1 rfl) hc0 hm0) hs8v) rfl rfl rfl ?_
 intro y7v
 refine simL_val (q_move rfl rfl) rfl rfl rfl ?_
 refine simL_bind (fun s9v hs11v => ?_)
 refine simL_eff (re_call (vs := [.pointer (some ⟨b2v, 0, none⟩)]) (cap := []) (A := [obj b2v 152 [.slice a0 x0.length c0, .int .i64 s6v.2.1, .int .i64 s6v.2.2]]) (rst := [obj b1v 61 [.int .i64 0, .int .i64 0, .int .i64 0, .slice none 0 0], F]) rfl rfl rfl rfl rfl rfl Try.call85 (.sel 0 rfl (.sel 0 rfl (.sel 0 rfl (.nil _)))) (synodref1_Reader_Int.calls _ _ k b2v a0 c0 x0 s6v.2.1 s6v.2.2 (h0.lend 1 rfl) hc0 hm0) hs11v) rfl rfl rfl ?_
 intro y10v
 refine simL_val (q_move rfl rfl) rfl rfl rfl ?_
 refine simL_bind (fun s12v hs14v => ?_)
 refine simL_eff (re_call (vs := [.pointer (some ⟨b2v, 0, none⟩), .int .i64 4096]) (cap := []) (A := [obj b2v 152 [.slice a0 x0.length c0, .int .i64 s9v.2.1, .int .i64 s9v.2.2]]) (rst := [obj b1v 61 [.int .i64 0, .int .i64 0, .int .i64 0, .slice none 0 0], F]) rfl rfl rfl rfl rfl rfl Try.call92 (.sel 0 rfl (.sel 0 rfl (.sel 0 rfl (.nil _)))) (synodref1_Reader_Bytes.calls _ _ k b2v a0 c0 x0 s9v.2.1 s9v.2.2 (4096 : Int) (h0.lend 1 rfl) hc0 hm0) hs14v) rfl rfl rfl ?_
 intro y13v
 refine simL_val (q_build (v := .agg #[.int .i64 s3v.1, .int .i64 s6v.1, .int .i64 s9v.1, .slice y13v.1 s12v.1.length y13v.2]) rfl rfl (fun _ => by kernel_rfl)) rfl rfl rfl ?_
 refine simL_eff (re_alloc rfl Try.zeroValue61 rfl) rfl rfl rfl ?_
 intro b15v
 refine simL_do (re_store 0 rfl rfl rfl Try.sizeOf61 rfl rfl (one_of (by rfl)) rfl rfl) rfl rfl ?_
 intro _
 refine simL_nil (nrm_then (sim_seq (sim_region ?_)))
 refine simL_val (q_move rfl rfl) rfl rfl rfl ?_
 refine simL_bind (fun s16v hs18v => ?_)
 refine simL_eff (re_call (vs := [.pointer (some ⟨b2v, 0, none⟩)]) (cap := []) (A := [obj b2v 152 [.slice a0 x0.length c0, .int .i64 s12v.2.1, .int .i64 s12v.2.2]]) (rst := [obj b15v 61 [.int .i64 s3v.1, .int .i64 s6v.1, .int .i64 s9v.1, .slice y13v.1 s12v.1.length y13v.2], Row 5 1 y13v.1 s12v.1.length y13v.2 (encB s12v.1), obj b1v 61 [.int .i64 0, .int .i64 0, .int .i64 0, .slice none 0 0], F]) rfl rfl rfl rfl rfl rfl Try.call86 (.sel 2 rfl (.sel 0 rfl (.sel 0 rfl (.sel 0 rfl (.sel 0 rfl (.nil _)))))) (synodref1_Reader_Done.calls _ _ b2v a0 c0 x0 s12v.2.1 s12v.2.2 (h0.lend 3 rfl) hc0 hm0) hs18v) rfl rfl rfl ?_
 intro y17v
 refine simL_val (q_asg rfl rfl) rfl rfl rfl (simL_nil (nrm_then ?_))
 refine sim_cut (S := Int) (Unit) (fun s y => [(2, .pointer (some ⟨b1v, 0, none⟩)), (5, .pointer (some ⟨b15v, 0, none⟩)), (6, .int .i64 s)]) (fun s y => [obj b15v 61 [.int .i64 s3v.1, .int .i64 s6v.1, .int .i64 s9v.1, .slice y13v.1 s12v.1.length y13v.2], obj b1v 61 [.int .i64 0, .int .i64 0, .int .i64 0, .slice none 0 0], Row 5 1 y13v.1 s12v.1.length y13v.2 (encB s12v.1), F]) ?_ ?_
 refine sim_seq (sim_region ?_)
 refine simL_val (q_move rfl rfl) rfl rfl rfl ?_
 refine simL_val (q_eql rfl rfl rfl) rfl rfl rfl (simL_nil (nrm_then ?_))
 refine sim_cond rfl (fun h21v => ?_) (fun h22v => ?_)
 refine sim_region ?_
 refine simL_val (q_loado 1 rfl rfl Try.isAgg61 Try.sizeOf61 rfl rfl) rfl rfl rfl ?_
 refine simL_bind (fun s27v hs29v => ?_)
 refine simL_lend 2 rfl (fun hq23v hq24v hq25v hq26v => ?_)
 refine simL_eff (re_call (vs := [.agg #[.int .i64 s3v.1, .int .i64 s6v.1, .int .i64 s9v.1, .slice y13v.1 s12v.1.length y13v.2]]) (cap := []) (A := []) (rst := [obj b2v 152 [.slice a0 x0.length c0, .int .i64 s12v.2.1, .int .i64 s12v.2.2], obj b15v 61 [.int .i64 s3v.1, .int .i64 s6v.1, .int .i64 s9v.1, .slice y13v.1 s12v.1.length y13v.2], Row 5 1 y13v.1 s12v.1.length y13v.2 (encB s12v.1), obj b1v 61 [.int .i64 0, .int .i64 0, .int .i64 0, .slice none 0 0], F]) rfl rfl rfl rfl rfl rfl Try.call35 (.sel 0 rfl (.sel 0 rfl (.sel 0 rfl (.sel 0 rfl (.sel 0 rfl (.nil _)))))) (synodref3_CheckEntry.calls _ _ s3v.1 s6v.1 s9v.1 y13v.1 y13v.2 s12v.1 (hq23v.lend 2 rfl) hq24v hq25v) hs29v) rfl rfl rfl ?_
 intro y28v
 refine simL_val (q_asg rfl rfl) rfl rfl rfl (simL_nil ?_)
 exact nrm_cut (s := s27v) () ⟨rfl, rfl, rfl, trivial⟩ (.sel 1 rfl (.sel 2 rfl (.sel 1 rfl (.sel 1 rfl (.nil _)))))
 refine sim_skip ?_
 exact nrm_cut (s := s16v) () ⟨rfl, rfl, rfl, trivial⟩ (.sel 1 rfl (.sel 2 rfl (.sel 1 rfl (.sel 1 rfl (.nil _)))))
 intro s19v y20v
 refine sim_seq (sim_seq (sim_region ?_))
 refine simL_val (q_move rfl rfl) rfl rfl rfl ?_
 refine simL_val (q_neq rfl rfl rfl) rfl rfl rfl (simL_nil (nrm_then ?_))
 refine sim_condn rfl (fun h30v => ?_) (fun h31v => ?_)
 refine sim_skip ?_
 refine nrm_then (sim_seq (sim_region ?_))
 refine simL_val (q_loado 0 rfl rfl Try.isAgg61 Try.sizeOf61 rfl rfl) rfl rfl rfl ?_
 refine simL_val (q_move rfl rfl) rfl rfl rfl ?_
 refine simL_do (re_store 1 rfl rfl rfl Try.sizeOf61 rfl rfl (one_of (by rfl)) rfl rfl) rfl rfl ?_
 intro _
 refine simL_val (q_asg rfl rfl) rfl rfl rfl (simL_nil (nrm_then (sim_rtn ?_)))
 exact rtn_fnC (vs := [.agg #[.int .i64 s3v.1, .int .i64 s6v.1, .int .i64 s9v.1, .slice y13v.1 s12v.1.length y13v.2], .int .i64 s19v]) (y13v.1, y13v.2) rfl ⟨⟨b1v, rfl, load_agg 1 Try.isAgg61 Try.sizeOf61 rfl rfl⟩, rfl, trivial⟩ rfl (.sel 2 rfl (.sel 2 rfl (.nil _)))
 refine sim_seq (sim_region ?_)
 refine simL_val (q_build (v := .agg #[.int .i64 0, .int .i64 0, .int .i64 0, .slice none 0 0]) rfl rfl (fun _ => by kernel_rfl)) rfl rfl rfl ?_
 refine simL_val (q_move rfl rfl) rfl rfl rfl ?_
 refine simL_do (re_store 1 rfl rfl rfl Try.sizeOf61 rfl rfl (one_of (by rfl)) rfl rfl) rfl rfl ?_
 intro _
 refine simL_val (q_asg rfl rfl) rfl rfl rfl (simL_nil (nrm_then (sim_rtn ?_)))
 refine rtn_then ?_
 exact rtn_fnC (vs := [.agg #[.int .i64 0, .int .i64 0, .int .i64 0, .slice none 0 0], .int .i64 s19v]) (none, 0) rfl ⟨⟨b1v, rfl, load_agg 1 Try.isAgg61 Try.sizeOf61 rfl rfl⟩, rfl, trivial⟩ rfl (.row_nil (.sel 3 rfl (.nil _)))
end Go.Proofs.Ytdoghfenhoigmaa

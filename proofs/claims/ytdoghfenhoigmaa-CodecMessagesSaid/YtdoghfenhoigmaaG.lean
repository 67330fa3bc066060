/- Printed by gen.py: pure functions and the proofs that the Go functions simulate them. Conditions: as each theorem says. -/
import Derived.Test.YtdoghfenhoigmaaG5
namespace Go.Proofs.Ytdoghfenhoigmaa
open Go.RowKit
set_option linter.unusedVariables false
set_option maxRecDepth 20000
set_option maxHeartbeats 2000000
def synodlaw3_CodecMessages.l0 : Nat → List UInt8 → Int → Option (Unit)
  | 0, _, _ => none
  | k + 1, z141v, z142v => if z142v < (z141v.length : Int) then (if 0 ≤ z142v ∧ z142v < (z141v.length : Int) then (synodlaw3_CodecMessages.l0 k (z141v.set z142v.toNat 255) (IntKind.i64.wrap (z142v + 1))) else none) else (some ())
def synodlaw3_CodecMessages.f (k : Nat) (x0_0 : Int) (x0_1 : Int) (x0_2 : Int) (x0_3 : Int) (x0_4 : Int) (x0_5 : Int) (x0_6 : Int) (x0_7 : Int) (x0_8 : Int) (x0_9 : Bool) (x0_10 : List (Int × Int × Int × List UInt8)) (x0_11 : Int) (x0_12 : Int) (x0_13 : List UInt8) (x1 : List UInt8) : Option (Bool) := (synodlaw3_first.f k).bind fun s2v => ((synodlaw3_slight.f k x0_0 x0_1 x0_2 x0_3 x0_4 x0_5 x0_6 x0_7 x0_8 x0_9 x0_10 x0_11 x0_12 x0_13).bind fun s5v => (if ((!s2v) || (!(s5v && (decide ((x1.length : Int) ≤ (20000 : Int)))))) = true then (some s2v) else ((codec_Messages_Put.f k x0_0 x0_1 x0_2 x0_3 x0_4 x0_5 x0_6 x0_7 x0_8 x0_9 x0_10 x0_11 x0_12 x0_13).bind fun s11v => ((synodref3_PutMessage.f k x0_0 x0_1 x0_2 x0_3 x0_4 x0_5 x0_6 x0_7 x0_8 x0_9 x0_10 x0_11 x0_12 x0_13).bind fun s14v => ((synodref_SameBytes.f k s11v.1 s14v.1).bind fun s25v => ((if (((!s25v) || (!decide ((synodref_Num.v s11v.2) = s14v.2))) == false) = true then (codec_Messages_Check.f k x0_0 x0_1 x0_2 x0_3 x0_4 x0_5 x0_6 x0_7 x0_8 x0_9 x0_10 x0_11 x0_12 x0_13) else some 0).bind fun s31v => ((if (((!s25v) || (!decide ((synodref_Num.v s11v.2) = s14v.2))) == false) = true then (synodref3_CheckMessage.f k x0_0 x0_1 x0_2 x0_3 x0_4 x0_5 x0_6 x0_7 x0_8 x0_9 x0_10 x0_11 x0_12 x0_13) else some 0).bind fun s37v => (if (((!s25v) || (!decide ((synodref_Num.v s11v.2) = s14v.2))) || (!decide ((synodref_Num.v s31v) = s37v))) = true then (some false) else ((synodref_Lent.f x1).bind fun s60v => ((codec_Messages_Get.f k s60v.1).bind fun s67v => ((synodref3_GetMessage.f k x1).bind fun s71v => ((synodref_Kept.f k s60v.1 s60v.2 x1).bind fun s79v => ((synodref_SameMessage.f k s67v.1 s67v.2.1 s67v.2.2.1 s67v.2.2.2.1 s67v.2.2.2.2.1 s67v.2.2.2.2.2.1 s67v.2.2.2.2.2.2.1 s67v.2.2.2.2.2.2.2.1 s67v.2.2.2.2.2.2.2.2.1 s67v.2.2.2.2.2.2.2.2.2.1 s67v.2.2.2.2.2.2.2.2.2.2.1 s67v.2.2.2.2.2.2.2.2.2.2.2.1 s67v.2.2.2.2.2.2.2.2.2.2.2.2.1 s67v.2.2.2.2.2.2.2.2.2.2.2.2.2.1 s71v.1 s71v.2.1 s71v.2.2.1 s71v.2.2.2.1 s71v.2.2.2.2.1 s71v.2.2.2.2.2.1 s71v.2.2.2.2.2.2.1 s71v.2.2.2.2.2.2.2.1 s71v.2.2.2.2.2.2.2.2.1 s71v.2.2.2.2.2.2.2.2.2.1 s71v.2.2.2.2.2.2.2.2.2.2.1 s71v.2.2.2.2.2.2.2.2.2.2.2.1 s71v.2.2.2.2.2.2.2.2.2.2.2.2.1 s71v.2.2.2.2.2.2.2.2.2.2.2.2.2.1).bind fun s102v => ((if (!s102v) = true then (some true) else ((synodref_Num.f s67v.2.2.2.2.2.2.2.2.2.2.2.2.2.2).bind fun s107v => (some (!decide (s107v = s71v.2.2.2.2.2.2.2.2.2.2.2.2.2.2))))).bind fun s105v => (if (s105v || (!s79v)) = true then (some false) else (if s14v.2 = (0 : Int) then ((codec_Messages_Get.f k s11v.1).bind fun s120v => ((synodref_SameMessage.f k s120v.1 s120v.2.1 s120v.2.2.1 s120v.2.2.2.1 s120v.2.2.2.2.1 s120v.2.2.2.2.2.1 s120v.2.2.2.2.2.2.1 s120v.2.2.2.2.2.2.2.1 s120v.2.2.2.2.2.2.2.2.1 s120v.2.2.2.2.2.2.2.2.2.1 s120v.2.2.2.2.2.2.2.2.2.2.1 s120v.2.2.2.2.2.2.2.2.2.2.2.1 s120v.2.2.2.2.2.2.2.2.2.2.2.2.1 s120v.2.2.2.2.2.2.2.2.2.2.2.2.2.1 x0_0 x0_1 x0_2 x0_3 x0_4 x0_5 x0_6 x0_7 x0_8 x0_9 x0_10 x0_11 x0_12 x0_13).bind fun s134v => ((synodlaw3_CodecMessages.l0 k s11v.1 0).bind fun s137v => ((if s134v = true then ((synodref_Num.f s120v.2.2.2.2.2.2.2.2.2.2.2.2.2.2).bind fun s152v => (some (decide (s152v = (0 : Int))))) else (some false)).bind fun s150v => ((if s150v = true then ((synodref_SameMessage.f k s120v.1 s120v.2.1 s120v.2.2.1 s120v.2.2.2.1 s120v.2.2.2.2.1 s120v.2.2.2.2.2.1 s120v.2.2.2.2.2.2.1 s120v.2.2.2.2.2.2.2.1 s120v.2.2.2.2.2.2.2.2.1 s120v.2.2.2.2.2.2.2.2.2.1 s120v.2.2.2.2.2.2.2.2.2.2.1 s120v.2.2.2.2.2.2.2.2.2.2.2.1 s120v.2.2.2.2.2.2.2.2.2.2.2.2.1 s120v.2.2.2.2.2.2.2.2.2.2.2.2.2.1 x0_0 x0_1 x0_2 x0_3 x0_4 x0_5 x0_6 x0_7 x0_8 x0_9 x0_10 x0_11 x0_12 x0_13).bind fun s169v => (some s169v)) else (some false)).bind fun s157v => (some s157v)))))) else (some true)))))))))))))))))
theorem synodlaw3_CodecMessages.calls (W : World) (F : HA) (k : Nat) (x0_0 : Int) (x0_1 : Int) (x0_2 : Int) (x0_3 : Int) (x0_4 : Int) (x0_5 : Int) (x0_6 : Int) (x0_7 : Int) (x0_8 : Int) (x0_9 : Bool) (a0_10 : Option Addr) (c0_10 : Nat) (x0_10 : List (Int × Int × Int × List UInt8)) (x0_11 : Int) (x0_12 : Int) (a0_13 : Option Addr) (c0_13 : Nat) (x0_13 : List UInt8) (a1 : Option Addr) (c1 : Nat) (x1 : List UInt8) (h0_10 : RdV F 4 (V61 F) a0_10 x0_10) (hc0_10 : x0_10.length ≤ c0_10) (hm0_10 : c0_10 ≤ maxLen) (h0_13 : Rd F a0_13 (encB x0_13)) (hc0_13 : x0_13.length ≤ c0_13) (hm0_13 : c0_13 ≤ maxLen) (h1 : Rd F a1 (encB x1)) (hc1 : x1.length ≤ c1) (hm1 : c1 ≤ maxLen) :
    Fn Try.prog W 9 [.agg #[.int .i64 x0_0, .int .i64 x0_1, .int .i64 x0_2, .int .i64 x0_3, .int .i64 x0_4, .int .i64 x0_5, .int .i64 x0_6, .int .i64 x0_7, .int .i64 x0_8, .bool x0_9, .slice a0_10 x0_10.length c0_10, .int .i64 x0_11, .int .i64 x0_12, .slice a0_13 x0_13.length c0_13], .slice a1 x1.length c1] [] F (synodlaw3_CodecMessages.f k x0_0 x0_1 x0_2 x0_3 x0_4 x0_5 x0_6 x0_7 x0_8 x0_9 x0_10 x0_11 x0_12 x0_13 x1) (fun (r : Bool) (y : Unit) => .bool r) (fun r y => []) := by
 unfold synodlaw3_CodecMessages.f
 refine fn_intro 133 Try.func9 rfl Try.ntmps9 rfl ?_
 refine sim_seq (sim_region ?_)
 refine simL_eff (re_box rfl rfl rfl) rfl rfl rfl ?_
 intro b1v
 refine simL_val (q_asg rfl rfl) rfl rfl rfl (simL_nil (nrm_then (sim_seq (sim_region ?_))))
 refine simL_bind (fun s2v hs4v => ?_)
 refine simL_eff (re_call (vs := []) (cap := []) (A := []) (rst := [obj b1v 31 [.int .i64 x0_0, .int .i64 x0_1, .int .i64 x0_2, .int .i64 x0_3, .int .i64 x0_4, .int .i64 x0_5, .int .i64 x0_6, .int .i64 x0_7, .int .i64 x0_8, .bool x0_9, .slice a0_10 x0_10.length c0_10, .int .i64 x0_11, .int .i64 x0_12, .slice a0_13 x0_13.length c0_13], F]) rfl rfl rfl rfl rfl rfl Try.call14 (.sel 0 rfl (.sel 0 rfl (.nil _))) (synodlaw3_first.calls _ _ k  ) hs4v) rfl rfl rfl ?_
 intro y3v
 refine simL_val (q_asg rfl rfl) rfl rfl rfl (simL_nil (nrm_then (sim_seq (sim_region ?_))))
 refine simL_val (q_loado 0 rfl rfl Try.isAgg31 Try.sizeOf31 rfl rfl) rfl rfl rfl ?_
 refine simL_bind (fun s5v hs7v => ?_)
 refine simL_eff (re_call (vs := [.agg #[.int .i64 x0_0, .int .i64 x0_1, .int .i64 x0_2, .int .i64 x0_3, .int .i64 x0_4, .int .i64 x0_5, .int .i64 x0_6, .int .i64 x0_7, .int .i64 x0_8, .bool x0_9, .slice a0_10 x0_10.length c0_10, .int .i64 x0_11, .int .i64 x0_12, .slice a0_13 x0_13.length c0_13]]) (cap := []) (A := []) (rst := [obj b1v 31 [.int .i64 x0_0, .int .i64 x0_1, .int .i64 x0_2, .int .i64 x0_3, .int .i64 x0_4, .int .i64 x0_5, .int .i64 x0_6, .int .i64 x0_7, .int .i64 x0_8, .bool x0_9, .slice a0_10 x0_10.length c0_10, .int .i64 x0_11, .int .i64 x0_12, .slice a0_13 x0_13.length c0_13], F]) rfl rfl rfl rfl rfl rfl Try.call15 (.sel 0 rfl (.sel 0 rfl (.nil _))) (synodlaw3_slight.calls _ _ k x0_0 x0_1 x0_2 x0_3 x0_4 x0_5 x0_6 x0_7 x0_8 x0_9 a0_10 c0_10 x0_10 x0_11 x0_12 a0_13 c0_13 x0_13 (h0_10.up (Up.lend 1 rfl) (V61.up (Up.lend 1 rfl))) hc0_10 hm0_10 (h0_13.lend 1 rfl) hc0_13 hm0_13) hs7v) rfl rfl rfl ?_
 intro y6v
 refine simL_val (q_move rfl rfl) rfl rfl rfl ?_
 refine simL_valc (b := s5v) (fun hb180v => RQ.sub (E' := [(1, .slice a1 x1.length c1)]) ⟨rfl, trivial⟩ (q_move rfl rfl)) rfl rfl rfl rfl rfl ?_
 refine simL_valc (b := s5v) (fun hb179v => RQ.sub (E' := [(28, .slice a1 x1.length c1)]) ⟨lk_cv rfl hb179v, trivial⟩ (q_len rfl rfl rfl Try.underlying27)) rfl rfl rfl rfl rfl ?_
 refine simL_valc (b := s5v) (fun hb178v => RQ.sub (E' := [(29, .int .i64 (x1.length : Int))]) ⟨lk_cv rfl hb178v, trivial⟩ (q_leq rfl rfl rfl)) rfl rfl rfl rfl rfl ?_
 refine simL_val (q_and rfl rfl rfl) rfl rfl rfl ?_
 refine simL_val (q_asg rfl rfl) rfl rfl rfl (simL_nil (nrm_then (sim_seq (sim_seq (sim_region ?_)))))
 refine simL_val (q_move rfl rfl) rfl rfl rfl ?_
 refine simL_val (q_not rfl rfl) rfl rfl rfl ?_
 refine simL_val (q_move rfl rfl) rfl rfl rfl ?_
 refine simL_valc (b := !s2v) (fun hb177v => RQ.sub (E' := [(6, .bool (s5v && (decide ((x1.length : Int) ≤ (20000 : Int)))))]) ⟨rfl, trivial⟩ (q_move rfl rfl)) rfl rfl rfl rfl rfl ?_
 refine simL_valc (b := !s2v) (fun hb176v => RQ.sub (E' := [(35, .bool (s5v && (decide ((x1.length : Int) ≤ (20000 : Int)))))]) ⟨lk_cv rfl hb176v, trivial⟩ (q_not rfl rfl)) rfl rfl rfl rfl rfl ?_
 refine simL_val (q_or rfl rfl rfl) rfl rfl rfl (simL_nil (nrm_then ?_))
 refine sim_condb rfl (fun h8v => ?_) (fun h9v => ?_)
 refine sim_seq (sim_region ?_)
 refine simL_val (q_move rfl rfl) rfl rfl rfl ?_
 refine simL_val (q_asg rfl rfl) rfl rfl rfl (simL_nil (nrm_then (sim_rtn ?_)))
 refine rtn_then ?_
 exact rtn_fn () rfl rfl rfl (.sel 1 rfl (.nil _))
 refine sim_skip ?_
 refine nrm_then (sim_seq (sim_region ?_))
 refine simL_val (q_build (v := .agg #[]) rfl rfl (fun _ => by kernel_rfl)) rfl rfl rfl ?_
 refine simL_eff (re_alloc rfl Try.zeroValue44 rfl) rfl rfl rfl ?_
 intro b10v
 refine simL_do (re_store 0 rfl rfl rfl Try.sizeOf44 rfl rfl (one_of (by rfl)) rfl rfl) rfl rfl ?_
 intro _
 refine simL_nil (nrm_then (sim_seq (sim_region ?_)))
 refine simL_val (q_loado 0 rfl rfl Try.isAgg44 Try.sizeOf44 rfl rfl) rfl rfl rfl ?_
 refine simL_val (q_loado 1 rfl rfl Try.isAgg31 Try.sizeOf31 rfl rfl) rfl rfl rfl ?_
 refine simL_bind (fun s11v hs13v => ?_)
 refine simL_eff (re_call (vs := [.agg #[], .agg #[.int .i64 x0_0, .int .i64 x0_1, .int .i64 x0_2, .int .i64 x0_3, .int .i64 x0_4, .int .i64 x0_5, .int .i64 x0_6, .int .i64 x0_7, .int .i64 x0_8, .bool x0_9, .slice a0_10 x0_10.length c0_10, .int .i64 x0_11, .int .i64 x0_12, .slice a0_13 x0_13.length c0_13]]) (cap := []) (A := []) (rst := [obj b10v 44 [], obj b1v 31 [.int .i64 x0_0, .int .i64 x0_1, .int .i64 x0_2, .int .i64 x0_3, .int .i64 x0_4, .int .i64 x0_5, .int .i64 x0_6, .int .i64 x0_7, .int .i64 x0_8, .bool x0_9, .slice a0_10 x0_10.length c0_10, .int .i64 x0_11, .int .i64 x0_12, .slice a0_13 x0_13.length c0_13], F]) rfl rfl rfl rfl rfl rfl Try.call57 (.sel 0 rfl (.sel 0 rfl (.sel 0 rfl (.nil _)))) (codec_Messages_Put.calls _ _ k x0_0 x0_1 x0_2 x0_3 x0_4 x0_5 x0_6 x0_7 x0_8 x0_9 a0_10 c0_10 x0_10 x0_11 x0_12 a0_13 c0_13 x0_13 (h0_10.up (Up.lend 2 rfl) (V61.up (Up.lend 2 rfl))) hc0_10 hm0_10 (h0_13.lend 2 rfl) hc0_13 hm0_13) hs13v) rfl rfl rfl ?_
 intro y12v
 refine simL_val (q_move rfl rfl) rfl rfl rfl ?_
 refine simL_val (q_ext rfl rfl rfl) rfl rfl rfl ?_
 refine simL_val (q_ext rfl rfl rfl) rfl rfl rfl ?_
 refine simL_val (q_asg rfl rfl) rfl rfl rfl ?_
 refine simL_val (q_asg rfl rfl) rfl rfl rfl (simL_nil (nrm_then (sim_seq (sim_region ?_))))
 refine simL_val (q_loado 2 rfl rfl Try.isAgg31 Try.sizeOf31 rfl rfl) rfl rfl rfl ?_
 refine simL_bind (fun s14v hs16v => ?_)
 refine simL_eff (re_call (vs := [.agg #[.int .i64 x0_0, .int .i64 x0_1, .int .i64 x0_2, .int .i64 x0_3, .int .i64 x0_4, .int .i64 x0_5, .int .i64 x0_6, .int .i64 x0_7, .int .i64 x0_8, .bool x0_9, .slice a0_10 x0_10.length c0_10, .int .i64 x0_11, .int .i64 x0_12, .slice a0_13 x0_13.length c0_13]]) (cap := []) (A := []) (rst := [Row 5 1 y12v.1 s11v.1.length y12v.2 (encB s11v.1), obj b10v 44 [], obj b1v 31 [.int .i64 x0_0, .int .i64 x0_1, .int .i64 x0_2, .int .i64 x0_3, .int .i64 x0_4, .int .i64 x0_5, .int .i64 x0_6, .int .i64 x0_7, .int .i64 x0_8, .bool x0_9, .slice a0_10 x0_10.length c0_10, .int .i64 x0_11, .int .i64 x0_12, .slice a0_13 x0_13.length c0_13], F]) rfl rfl rfl rfl rfl rfl Try.call58 (.sel 0 rfl (.sel 0 rfl (.sel 0 rfl (.sel 0 rfl (.nil _))))) (synodref3_PutMessage.calls _ _ k x0_0 x0_1 x0_2 x0_3 x0_4 x0_5 x0_6 x0_7 x0_8 x0_9 a0_10 c0_10 x0_10 x0_11 x0_12 a0_13 c0_13 x0_13 (h0_10.up (Up.lend 3 rfl) (V61.up (Up.lend 3 rfl))) hc0_10 hm0_10 (h0_13.lend 3 rfl) hc0_13 hm0_13) hs16v) rfl rfl rfl ?_
 intro y15v
 refine simL_val (q_move rfl rfl) rfl rfl rfl ?_
 refine simL_val (q_ext rfl rfl rfl) rfl rfl rfl ?_
 refine simL_val (q_ext rfl rfl rfl) rfl rfl rfl ?_
 refine simL_val (q_asg rfl rfl) rfl rfl rfl ?_
 refine simL_val (q_asg rfl rfl) rfl rfl rfl (simL_nil (nrm_then (sim_seq (sim_region ?_))))
 refine simL_val (q_move rfl rfl) rfl rfl rfl ?_
 refine simL_val (q_move rfl rfl) rfl rfl rfl ?_
 refine simL_bind (fun s25v hs27v => ?_)
 refine simL_lend 1 rfl (fun hq17v hq18v hq19v hq20v => ?_)
 refine simL_lend 0 rfl (fun hq21v hq22v hq23v hq24v => ?_)
 refine simL_eff (re_call (vs := [.slice y12v.1 s11v.1.length y12v.2, .slice y15v.1 s14v.1.length y15v.2]) (cap := []) (A := []) (rst := [Row 5 1 y15v.1 s14v.1.length y15v.2 (encB s14v.1), Row 5 1 y12v.1 s11v.1.length y12v.2 (encB s11v.1), obj b10v 44 [], obj b1v 31 [.int .i64 x0_0, .int .i64 x0_1, .int .i64 x0_2, .int .i64 x0_3, .int .i64 x0_4, .int .i64 x0_5, .int .i64 x0_6, .int .i64 x0_7, .int .i64 x0_8, .bool x0_9, .slice a0_10 x0_10.length c0_10, .int .i64 x0_11, .int .i64 x0_12, .slice a0_13 x0_13.length c0_13], F]) rfl rfl rfl rfl rfl rfl Try.call25 (.sel 0 rfl (.sel 0 rfl (.sel 0 rfl (.sel 0 rfl (.sel 0 rfl (.nil _)))))) (synodref_SameBytes.calls _ _ k y12v.1 y12v.2 s11v.1 y15v.1 y15v.2 s14v.1 (hq17v.lend 1 rfl) hq18v hq19v (hq21v.lend 0 rfl) hq22v hq23v) hs27v) rfl rfl rfl ?_
 intro y26v
 refine simL_val (q_asg rfl rfl) rfl rfl rfl (simL_nil (nrm_then (sim_seq (sim_seq ?_))))
 refine sim_bind (fun s31v hs33v => ?_)
 refine sim_bind (fun s37v hs39v => ?_)
 refine sim_draw (Γ := Unit) () [[], [0], [0, 1], [0, 1, 2], [0, 1, 2, 3], [0, 1, 2], [0, 1, 2, 3, 4, 5], [0, 1, 2, 3, 4, 5, 6], [0, 1, 2, 3, 4, 5, 6, 7], [0, 1, 2, 3, 4, 5, 6, 7, 8], [0, 1, 2, 3, 4, 5, 6, 7, 8], [0, 1, 2, 3, 4, 5, 6, 7, 8, 9, 10], [0, 1, 2, 3, 4, 5, 6, 7, 8, 9, 10, 11], [0, 1, 2, 3, 4, 5, 6, 7, 8], [0, 1, 2, 3, 4, 5, 6, 7, 8, 9, 10, 11, 12, 13], [0, 1, 2, 3, 4, 5, 6, 7, 8, 9, 10, 11, 12, 13, 14], [0, 1, 2, 3, 4, 5, 6, 7, 8, 9, 10, 11, 12, 13, 14, 15]] [] [0, 1, 2, 3, 4, 5, 6, 7, 8, 9, 10, 11, 12, 13, 14, 15, 16] (fun i => [[0], [0], [0], [0], [0], [0], [0], [0], [0], [0], [0], [0], [0], [0], [0], [0], [0]].getD i []) (fun i => [[], [], [], [], [], [], [], [], [], [], [], [], [], [], [], [], []].getD i []) (fun γ i => [.bool s25v, .bool (!s25v), .bool (!s25v), cv ((!s25v) == false) (.int .i64 s11v.2), cv ((!s25v) == false) (.int .i64 (synodref_Num.v s11v.2)), cv ((!s25v) == false) (.int .i64 s14v.2), cv ((!s25v) == false) (.bool (!decide ((synodref_Num.v s11v.2) = s14v.2))), .bool ((!s25v) || (!decide ((synodref_Num.v s11v.2) = s14v.2))), .bool ((!s25v) || (!decide ((synodref_Num.v s11v.2) = s14v.2))), cv (((!s25v) || (!decide ((synodref_Num.v s11v.2) = s14v.2))) == false) (.agg #[]), cv (((!s25v) || (!decide ((synodref_Num.v s11v.2) = s14v.2))) == false) (.agg #[.int .i64 x0_0, .int .i64 x0_1, .int .i64 x0_2, .int .i64 x0_3, .int .i64 x0_4, .int .i64 x0_5, .int .i64 x0_6, .int .i64 x0_7, .int .i64 x0_8, .bool x0_9, .slice a0_10 x0_10.length c0_10, .int .i64 x0_11, .int .i64 x0_12, .slice a0_13 x0_13.length c0_13]), cv (((!s25v) || (!decide ((synodref_Num.v s11v.2) = s14v.2))) == false) (.int .i64 s31v), cv (((!s25v) || (!decide ((synodref_Num.v s11v.2) = s14v.2))) == false) (.int .i64 (synodref_Num.v s31v)), cv (((!s25v) || (!decide ((synodref_Num.v s11v.2) = s14v.2))) == false) (.agg #[.int .i64 x0_0, .int .i64 x0_1, .int .i64 x0_2, .int .i64 x0_3, .int .i64 x0_4, .int .i64 x0_5, .int .i64 x0_6, .int .i64 x0_7, .int .i64 x0_8, .bool x0_9, .slice a0_10 x0_10.length c0_10, .int .i64 x0_11, .int .i64 x0_12, .slice a0_13 x0_13.length c0_13]), cv (((!s25v) || (!decide ((synodref_Num.v s11v.2) = s14v.2))) == false) (.int .i64 s37v), cv (((!s25v) || (!decide ((synodref_Num.v s11v.2) = s14v.2))) == false) (.bool (!decide ((synodref_Num.v s31v) = s37v))), .bool (((!s25v) || (!decide ((synodref_Num.v s11v.2) = s14v.2))) || (!decide ((synodref_Num.v s31v) = s37v)))].getD i undef) (fun j γ => [[Row 5 1 y15v.1 s14v.1.length y15v.2 (encB s14v.1), Row 5 1 y12v.1 s11v.1.length y12v.2 (encB s11v.1), obj b10v 44 [], obj b1v 31 [.int .i64 x0_0, .int .i64 x0_1, .int .i64 x0_2, .int .i64 x0_3, .int .i64 x0_4, .int .i64 x0_5, .int .i64 x0_6, .int .i64 x0_7, .int .i64 x0_8, .bool x0_9, .slice a0_10 x0_10.length c0_10, .int .i64 x0_11, .int .i64 x0_12, .slice a0_13 x0_13.length c0_13], F]].getD j []) (fun γ => [(1, .slice a1 x1.length c1), (2, .pointer (some ⟨b1v, 0, none⟩)), (7, .pointer (some ⟨b10v, 0, none⟩)), (8, .slice y12v.1 s11v.1.length y12v.2), (11, .int .i64 s14v.2), (70, .bool (((!s25v) || (!decide ((synodref_Num.v s11v.2) = s14v.2))) || (!decide ((synodref_Num.v s31v) = s37v))))]) mixed (by decide) (by decide) (by decide) (by decide) (by decide) (by decide) (by decide) 133 rfl (by decide) (by decide) (by decide) (Ent.refl _) ?_ ?_ (fun _ => ⟨rfl, rfl, rfl, rfl, rfl, rfl, trivial⟩) ?_
 exact (All.cons (fun γ => (All.cons (QOb.plain [(12, .bool s25v)] rfl rfl (.o rfl (by decide) .nil) (q_move rfl rfl) rfl) All.nil)) (All.cons (fun γ => (All.cons (QOb.plain [(54, .bool s25v)] rfl rfl (.w 0 rfl rfl rfl .nil) (q_not rfl rfl) rfl) All.nil)) (All.cons (fun γ => (All.cons (QOb.plain [(55, .bool (!s25v))] rfl rfl (.w 1 rfl rfl rfl .nil) (q_move rfl rfl) rfl) All.nil)) (All.cons (fun γ => (All.cons (QOb.grd (b := !s25v) [(9, .int .i64 s11v.2), (56, .bool (!s25v))] rfl rfl rfl rfl (.o rfl (by decide) (.w 2 rfl rfl rfl .nil)) (fun hb40v => RQ.sub (E' := [(9, .int .i64 s11v.2)]) ⟨rfl, trivial⟩ (q_move rfl rfl)) rfl) All.nil)) (All.cons (fun γ => (All.cons (QOb.grd (b := !s25v) [(56, .bool (!s25v)), (57, cv ((!s25v) == false) (.int .i64 s11v.2))] rfl rfl rfl rfl (.w 2 rfl rfl rfl (.w 3 rfl rfl rfl .nil)) (fun hb44v => RQ.sub (E' := [(57, .int .i64 s11v.2)]) ⟨lk_cv rfl hb44v, trivial⟩ (RE.rq (re_call (vs := [.int .i64 s11v.2]) (cap := []) (A := []) (rst := [Row 5 1 y15v.1 s14v.1.length y15v.2 (encB s14v.1), Row 5 1 y12v.1 s11v.1.length y12v.2 (encB s11v.1), obj b10v 44 [], obj b1v 31 [.int .i64 x0_0, .int .i64 x0_1, .int .i64 x0_2, .int .i64 x0_3, .int .i64 x0_4, .int .i64 x0_5, .int .i64 x0_6, .int .i64 x0_7, .int .i64 x0_8, .bool x0_9, .slice a0_10 x0_10.length c0_10, .int .i64 x0_11, .int .i64 x0_12, .slice a0_13 x0_13.length c0_13], F]) rfl rfl rfl rfl rfl rfl Try.call26 (.sel 0 rfl (.sel 0 rfl (.sel 0 rfl (.sel 0 rfl (.sel 0 rfl (.nil _)))))) (synodref_Num.calls _ _ s11v.2 ) (synodref_Num.tot s11v.2)) (fun _ => rfl) (fun _ => (.sel 0 rfl (.sel 0 rfl (.sel 0 rfl (.sel 0 rfl (.sel 0 rfl (.nil _))))))))) rfl) All.nil)) (All.cons (fun γ => (All.cons (QOb.grd (b := !s25v) [(11, .int .i64 s14v.2), (56, .bool (!s25v))] rfl rfl rfl rfl (.o rfl (by decide) (.w 2 rfl rfl rfl .nil)) (fun hb45v => RQ.sub (E' := [(11, .int .i64 s14v.2)]) ⟨rfl, trivial⟩ (q_move rfl rfl)) rfl) All.nil)) (All.cons (fun γ => (All.cons (QOb.grd (b := !s25v) [(56, .bool (!s25v)), (58, cv ((!s25v) == false) (.int .i64 (synodref_Num.v s11v.2))), (59, cv ((!s25v) == false) (.int .i64 s14v.2))] rfl rfl rfl rfl (.w 2 rfl rfl rfl (.w 4 rfl rfl rfl (.w 5 rfl rfl rfl .nil))) (fun hb46v => RQ.sub (E' := [(58, .int .i64 (synodref_Num.v s11v.2)), (59, .int .i64 s14v.2)]) ⟨lk_cv rfl hb46v, lk_cv rfl hb46v, trivial⟩ (q_neq rfl rfl rfl)) rfl) All.nil)) (All.cons (fun γ => (All.cons (QOb.plain [(56, .bool (!s25v)), (60, cv ((!s25v) == false) (.bool (!decide ((synodref_Num.v s11v.2) = s14v.2))))] rfl rfl (.w 2 rfl rfl rfl (.w 6 rfl rfl rfl .nil)) (q_or rfl rfl rfl) rfl) All.nil)) (All.cons (fun γ => (All.cons (QOb.plain [(61, .bool ((!s25v) || (!decide ((synodref_Num.v s11v.2) = s14v.2))))] rfl rfl (.w 7 rfl rfl rfl .nil) (q_move rfl rfl) rfl) All.nil)) (All.cons (fun γ => (All.cons (QOb.grd (b := (!s25v) || (!decide ((synodref_Num.v s11v.2) = s14v.2))) [(7, .pointer (some ⟨b10v, 0, none⟩)), (62, .bool ((!s25v) || (!decide ((synodref_Num.v s11v.2) = s14v.2))))] rfl rfl rfl rfl (.o rfl (by decide) (.w 8 rfl rfl rfl .nil)) (fun hb47v => RQ.sub (E' := [(7, .pointer (some ⟨b10v, 0, none⟩))]) ⟨rfl, trivial⟩ (q_loado 2 rfl rfl Try.isAgg44 Try.sizeOf44 rfl rfl)) rfl) All.nil)) (All.cons (fun γ => (All.cons (QOb.grd (b := (!s25v) || (!decide ((synodref_Num.v s11v.2) = s14v.2))) [(2, .pointer (some ⟨b1v, 0, none⟩)), (62, .bool ((!s25v) || (!decide ((synodref_Num.v s11v.2) = s14v.2))))] rfl rfl rfl rfl (.o rfl (by decide) (.w 8 rfl rfl rfl .nil)) (fun hb48v => RQ.sub (E' := [(2, .pointer (some ⟨b1v, 0, none⟩))]) ⟨rfl, trivial⟩ (q_loado 3 rfl rfl Try.isAgg31 Try.sizeOf31 rfl rfl)) rfl) All.nil)) (All.cons (fun γ => (All.cons (QOb.grd (b := (!s25v) || (!decide ((synodref_Num.v s11v.2) = s14v.2))) [(62, .bool ((!s25v) || (!decide ((synodref_Num.v s11v.2) = s14v.2)))), (63, cv (((!s25v) || (!decide ((synodref_Num.v s11v.2) = s14v.2))) == false) (.agg #[])), (64, cv (((!s25v) || (!decide ((synodref_Num.v s11v.2) = s14v.2))) == false) (.agg #[.int .i64 x0_0, .int .i64 x0_1, .int .i64 x0_2, .int .i64 x0_3, .int .i64 x0_4, .int .i64 x0_5, .int .i64 x0_6, .int .i64 x0_7, .int .i64 x0_8, .bool x0_9, .slice a0_10 x0_10.length c0_10, .int .i64 x0_11, .int .i64 x0_12, .slice a0_13 x0_13.length c0_13]))] rfl rfl rfl rfl (.w 8 rfl rfl rfl (.w 9 rfl rfl rfl (.w 10 rfl rfl rfl .nil))) (fun hb49v => RQ.sub (E' := [(63, .agg #[]), (64, .agg #[.int .i64 x0_0, .int .i64 x0_1, .int .i64 x0_2, .int .i64 x0_3, .int .i64 x0_4, .int .i64 x0_5, .int .i64 x0_6, .int .i64 x0_7, .int .i64 x0_8, .bool x0_9, .slice a0_10 x0_10.length c0_10, .int .i64 x0_11, .int .i64 x0_12, .slice a0_13 x0_13.length c0_13])]) ⟨lk_cv rfl hb49v, lk_cv rfl hb49v, trivial⟩ (RE.rq (re_call (vs := [.agg #[], .agg #[.int .i64 x0_0, .int .i64 x0_1, .int .i64 x0_2, .int .i64 x0_3, .int .i64 x0_4, .int .i64 x0_5, .int .i64 x0_6, .int .i64 x0_7, .int .i64 x0_8, .bool x0_9, .slice a0_10 x0_10.length c0_10, .int .i64 x0_11, .int .i64 x0_12, .slice a0_13 x0_13.length c0_13]]) (cap := []) (A := []) (rst := [Row 5 1 y15v.1 s14v.1.length y15v.2 (encB s14v.1), Row 5 1 y12v.1 s11v.1.length y12v.2 (encB s11v.1), obj b10v 44 [], obj b1v 31 [.int .i64 x0_0, .int .i64 x0_1, .int .i64 x0_2, .int .i64 x0_3, .int .i64 x0_4, .int .i64 x0_5, .int .i64 x0_6, .int .i64 x0_7, .int .i64 x0_8, .bool x0_9, .slice a0_10 x0_10.length c0_10, .int .i64 x0_11, .int .i64 x0_12, .slice a0_13 x0_13.length c0_13], F]) rfl rfl rfl rfl rfl rfl Try.call59 (.sel 0 rfl (.sel 0 rfl (.sel 0 rfl (.sel 0 rfl (.sel 0 rfl (.nil _)))))) (codec_Messages_Check.calls _ _ k x0_0 x0_1 x0_2 x0_3 x0_4 x0_5 x0_6 x0_7 x0_8 x0_9 a0_10 c0_10 x0_10 x0_11 x0_12 a0_13 c0_13 x0_13 (h0_10.up (Up.lend 4 rfl) (V61.up (Up.lend 4 rfl))) hc0_10 hm0_10 (h0_13.lend 4 rfl) hc0_13 hm0_13) (by rw [if_pos hb49v] at hs33v; exact hs33v)) (fun _ => rfl) (fun _ => (.sel 0 rfl (.sel 0 rfl (.sel 0 rfl (.sel 0 rfl (.sel 0 rfl (.nil _))))))))) rfl) All.nil)) (All.cons (fun γ => (All.cons (QOb.grd (b := (!s25v) || (!decide ((synodref_Num.v s11v.2) = s14v.2))) [(62, .bool ((!s25v) || (!decide ((synodref_Num.v s11v.2) = s14v.2)))), (65, cv (((!s25v) || (!decide ((synodref_Num.v s11v.2) = s14v.2))) == false) (.int .i64 s31v))] rfl rfl rfl rfl (.w 8 rfl rfl rfl (.w 11 rfl rfl rfl .nil)) (fun hb53v => RQ.sub (E' := [(65, .int .i64 s31v)]) ⟨lk_cv rfl hb53v, trivial⟩ (RE.rq (re_call (vs := [.int .i64 s31v]) (cap := []) (A := []) (rst := [Row 5 1 y15v.1 s14v.1.length y15v.2 (encB s14v.1), Row 5 1 y12v.1 s11v.1.length y12v.2 (encB s11v.1), obj b10v 44 [], obj b1v 31 [.int .i64 x0_0, .int .i64 x0_1, .int .i64 x0_2, .int .i64 x0_3, .int .i64 x0_4, .int .i64 x0_5, .int .i64 x0_6, .int .i64 x0_7, .int .i64 x0_8, .bool x0_9, .slice a0_10 x0_10.length c0_10, .int .i64 x0_11, .int .i64 x0_12, .slice a0_13 x0_13.length c0_13], F]) rfl rfl rfl rfl rfl rfl Try.call26 (.sel 0 rfl (.sel 0 rfl (.sel 0 rfl (.sel 0 rfl (.sel 0 rfl (.nil _)))))) (synodref_Num.calls _ _ s31v ) (synodref_Num.tot s31v)) (fun _ => rfl) (fun _ => (.sel 0 rfl (.sel 0 rfl (.sel 0 rfl (.sel 0 rfl (.sel 0 rfl (.nil _))))))))) rfl) All.nil)) (All.cons (fun γ => (All.cons (QOb.grd (b := (!s25v) || (!decide ((synodref_Num.v s11v.2) = s14v.2))) [(2, .pointer (some ⟨b1v, 0, none⟩)), (62, .bool ((!s25v) || (!decide ((synodref_Num.v s11v.2) = s14v.2))))] rfl rfl rfl rfl (.o rfl (by decide) (.w 8 rfl rfl rfl .nil)) (fun hb54v => RQ.sub (E' := [(2, .pointer (some ⟨b1v, 0, none⟩))]) ⟨rfl, trivial⟩ (q_loado 3 rfl rfl Try.isAgg31 Try.sizeOf31 rfl rfl)) rfl) All.nil)) (All.cons (fun γ => (All.cons (QOb.grd (b := (!s25v) || (!decide ((synodref_Num.v s11v.2) = s14v.2))) [(62, .bool ((!s25v) || (!decide ((synodref_Num.v s11v.2) = s14v.2)))), (67, cv (((!s25v) || (!decide ((synodref_Num.v s11v.2) = s14v.2))) == false) (.agg #[.int .i64 x0_0, .int .i64 x0_1, .int .i64 x0_2, .int .i64 x0_3, .int .i64 x0_4, .int .i64 x0_5, .int .i64 x0_6, .int .i64 x0_7, .int .i64 x0_8, .bool x0_9, .slice a0_10 x0_10.length c0_10, .int .i64 x0_11, .int .i64 x0_12, .slice a0_13 x0_13.length c0_13]))] rfl rfl rfl rfl (.w 8 rfl rfl rfl (.w 13 rfl rfl rfl .nil)) (fun hb55v => RQ.sub (E' := [(67, .agg #[.int .i64 x0_0, .int .i64 x0_1, .int .i64 x0_2, .int .i64 x0_3, .int .i64 x0_4, .int .i64 x0_5, .int .i64 x0_6, .int .i64 x0_7, .int .i64 x0_8, .bool x0_9, .slice a0_10 x0_10.length c0_10, .int .i64 x0_11, .int .i64 x0_12, .slice a0_13 x0_13.length c0_13])]) ⟨lk_cv rfl hb55v, trivial⟩ (RE.rq (re_call (vs := [.agg #[.int .i64 x0_0, .int .i64 x0_1, .int .i64 x0_2, .int .i64 x0_3, .int .i64 x0_4, .int .i64 x0_5, .int .i64 x0_6, .int .i64 x0_7, .int .i64 x0_8, .bool x0_9, .slice a0_10 x0_10.length c0_10, .int .i64 x0_11, .int .i64 x0_12, .slice a0_13 x0_13.length c0_13]]) (cap := []) (A := []) (rst := [Row 5 1 y15v.1 s14v.1.length y15v.2 (encB s14v.1), Row 5 1 y12v.1 s11v.1.length y12v.2 (encB s11v.1), obj b10v 44 [], obj b1v 31 [.int .i64 x0_0, .int .i64 x0_1, .int .i64 x0_2, .int .i64 x0_3, .int .i64 x0_4, .int .i64 x0_5, .int .i64 x0_6, .int .i64 x0_7, .int .i64 x0_8, .bool x0_9, .slice a0_10 x0_10.length c0_10, .int .i64 x0_11, .int .i64 x0_12, .slice a0_13 x0_13.length c0_13], F]) rfl rfl rfl rfl rfl rfl Try.call19 (.sel 0 rfl (.sel 0 rfl (.sel 0 rfl (.sel 0 rfl (.sel 0 rfl (.nil _)))))) (synodref3_CheckMessage.calls _ _ k x0_0 x0_1 x0_2 x0_3 x0_4 x0_5 x0_6 x0_7 x0_8 x0_9 a0_10 c0_10 x0_10 x0_11 x0_12 a0_13 c0_13 x0_13 (h0_10.up (Up.lend 4 rfl) (V61.up (Up.lend 4 rfl))) hc0_10 hm0_10 (h0_13.lend 4 rfl) hc0_13 hm0_13) (by rw [if_pos hb55v] at hs39v; exact hs39v)) (fun _ => rfl) (fun _ => (.sel 0 rfl (.sel 0 rfl (.sel 0 rfl (.sel 0 rfl (.sel 0 rfl (.nil _))))))))) rfl) All.nil)) (All.cons (fun γ => (All.cons (QOb.grd (b := (!s25v) || (!decide ((synodref_Num.v s11v.2) = s14v.2))) [(62, .bool ((!s25v) || (!decide ((synodref_Num.v s11v.2) = s14v.2)))), (66, cv (((!s25v) || (!decide ((synodref_Num.v s11v.2) = s14v.2))) == false) (.int .i64 (synodref_Num.v s31v))), (68, cv (((!s25v) || (!decide ((synodref_Num.v s11v.2) = s14v.2))) == false) (.int .i64 s37v))] rfl rfl rfl rfl (.w 8 rfl rfl rfl (.w 12 rfl rfl rfl (.w 14 rfl rfl rfl .nil))) (fun hb56v => RQ.sub (E' := [(66, .int .i64 (synodref_Num.v s31v)), (68, .int .i64 s37v)]) ⟨lk_cv rfl hb56v, lk_cv rfl hb56v, trivial⟩ (q_neq rfl rfl rfl)) rfl) All.nil)) (All.cons (fun γ => (All.cons (QOb.plain [(62, .bool ((!s25v) || (!decide ((synodref_Num.v s11v.2) = s14v.2)))), (69, cv (((!s25v) || (!decide ((synodref_Num.v s11v.2) = s14v.2))) == false) (.bool (!decide ((synodref_Num.v s31v) = s37v))))] rfl rfl (.w 8 rfl rfl rfl (.w 15 rfl rfl rfl .nil)) (q_or rfl rfl rfl) rfl) All.nil)) All.nil)))))))))))))))))
 exact All.nil
 intro g57v
 refine nrm_then ?_
 refine sim_condb rfl (fun h58v => ?_) (fun h59v => ?_)
 refine sim_seq (sim_region ?_)
 refine simL_val (q_asg rfl rfl) rfl rfl rfl (simL_nil (nrm_then (sim_rtn ?_)))
 refine rtn_then ?_
 exact rtn_fn () rfl rfl rfl (.sel 4 rfl (.nil _))
 refine sim_skip ?_
 refine nrm_then (sim_seq (sim_region ?_))
 refine simL_val (q_move rfl rfl) rfl rfl rfl ?_
 refine simL_bind (fun s60v hs62v => ?_)
 refine simL_eff (re_call (vs := [.slice a1 x1.length c1]) (cap := []) (A := []) (rst := [Row 5 1 y15v.1 s14v.1.length y15v.2 (encB s14v.1), Row 5 1 y12v.1 s11v.1.length y12v.2 (encB s11v.1), obj b10v 44 [], obj b1v 31 [.int .i64 x0_0, .int .i64 x0_1, .int .i64 x0_2, .int .i64 x0_3, .int .i64 x0_4, .int .i64 x0_5, .int .i64 x0_6, .int .i64 x0_7, .int .i64 x0_8, .bool x0_9, .slice a0_10 x0_10.length c0_10, .int .i64 x0_11, .int .i64 x0_12, .slice a0_13 x0_13.length c0_13], F]) rfl rfl rfl rfl rfl rfl Try.call28 (.sel 0 rfl (.sel 0 rfl (.sel 0 rfl (.sel 0 rfl (.sel 0 rfl (.nil _)))))) (synodref_Lent.calls _ _ a1 c1 x1 (h1.lend 4 rfl) hc1 hm1) hs62v) rfl rfl rfl ?_
 intro y61v
 refine simL_val (q_asg rfl rfl) rfl rfl rfl (simL_nil (nrm_then (sim_seq (sim_region ?_))))
 refine simL_val (q_loado 3 rfl rfl Try.isAgg44 Try.sizeOf44 rfl rfl) rfl rfl rfl ?_
 refine simL_val (q_move rfl rfl) rfl rfl rfl ?_
 refine simL_bind (fun s67v hs69v => ?_)
 refine simL_lend 0 rfl (fun hq63v hq64v hq65v hq66v => ?_)
 refine simL_eff (re_call (vs := [.agg #[], .slice y61v.1 s60v.1.length y61v.2]) (cap := []) (A := []) (rst := [Row 5 1 y61v.1 s60v.1.length y61v.2 (encB (s60v.1 ++ s60v.2)), Row 5 1 y15v.1 s14v.1.length y15v.2 (encB s14v.1), Row 5 1 y12v.1 s11v.1.length y12v.2 (encB s11v.1), obj b10v 44 [], obj b1v 31 [.int .i64 x0_0, .int .i64 x0_1, .int .i64 x0_2, .int .i64 x0_3, .int .i64 x0_4, .int .i64 x0_5, .int .i64 x0_6, .int .i64 x0_7, .int .i64 x0_8, .bool x0_9, .slice a0_10 x0_10.length c0_10, .int .i64 x0_11, .int .i64 x0_12, .slice a0_13 x0_13.length c0_13], F]) rfl rfl rfl rfl rfl rfl Try.call60 (.sel 0 rfl (.sel 0 rfl (.sel 0 rfl (.sel 0 rfl (.sel 0 rfl (.sel 0 rfl (.nil _))))))) (codec_Messages_Get.calls _ _ k y61v.1 y61v.2 s60v.1 ((rd_front hq63v).lend 0 rfl) hq64v hq65v) hs69v) rfl rfl rfl ?_
 intro y68v
 refine simL_val (q_move rfl rfl) rfl rfl rfl ?_
 refine simL_val (q_ext rfl rfl rfl) rfl rfl rfl ?_
 refine simL_val (q_ext rfl rfl rfl) rfl rfl rfl ?_
 refine simL_eff (re_alloc rfl Try.zeroValue31 rfl) rfl rfl rfl ?_
 intro b70v
 refine simL_do (re_store 0 rfl rfl rfl Try.sizeOf31 rfl rfl (one_of (by rfl)) rfl rfl) rfl rfl ?_
 intro _
 refine simL_ent (H' := [obj b70v 31 [.int .i64 s67v.1, .int .i64 s67v.2.1, .int .i64 s67v.2.2.1, .int .i64 s67v.2.2.2.1, .int .i64 s67v.2.2.2.2.1, .int .i64 s67v.2.2.2.2.2.1, .int .i64 s67v.2.2.2.2.2.2.1, .int .i64 s67v.2.2.2.2.2.2.2.1, .int .i64 s67v.2.2.2.2.2.2.2.2.1, .bool s67v.2.2.2.2.2.2.2.2.2.1, .slice y68v.1 s67v.2.2.2.2.2.2.2.2.2.2.1.length y68v.2.1, .int .i64 s67v.2.2.2.2.2.2.2.2.2.2.2.1, .int .i64 s67v.2.2.2.2.2.2.2.2.2.2.2.2.1, .slice y68v.2.2.2.1 s67v.2.2.2.2.2.2.2.2.2.2.2.2.2.1.length y68v.2.2.2.2], RowV 61 4 (V61 (y68v.2.2.1)) y68v.1 s67v.2.2.2.2.2.2.2.2.2.2.1 y68v.2.1, y68v.2.2.1, Row 5 1 y68v.2.2.2.1 s67v.2.2.2.2.2.2.2.2.2.2.2.2.2.1.length y68v.2.2.2.2 (encB s67v.2.2.2.2.2.2.2.2.2.2.2.2.2.1), Row 5 1 y61v.1 s60v.1.length y61v.2 (encB (s60v.1 ++ s60v.2)), Row 5 1 y15v.1 s14v.1.length y15v.2 (encB s14v.1), Row 5 1 y12v.1 s11v.1.length y12v.2 (encB s11v.1), obj b10v 44 [], obj b1v 31 [.int .i64 x0_0, .int .i64 x0_1, .int .i64 x0_2, .int .i64 x0_3, .int .i64 x0_4, .int .i64 x0_5, .int .i64 x0_6, .int .i64 x0_7, .int .i64 x0_8, .bool x0_9, .slice a0_10 x0_10.length c0_10, .int .i64 x0_11, .int .i64 x0_12, .slice a0_13 x0_13.length c0_13], F]) (Ent.refl _) ?_
 refine simL_val (q_asg rfl rfl) rfl rfl rfl (simL_nil (nrm_then (sim_seq (sim_region ?_))))
 refine simL_val (q_move rfl rfl) rfl rfl rfl ?_
 refine simL_bind (fun s71v hs73v => ?_)
 refine simL_eff (re_call (vs := [.slice a1 x1.length c1]) (cap := []) (A := []) (rst := [obj b70v 31 [.int .i64 s67v.1, .int .i64 s67v.2.1, .int .i64 s67v.2.2.1, .int .i64 s67v.2.2.2.1, .int .i64 s67v.2.2.2.2.1, .int .i64 s67v.2.2.2.2.2.1, .int .i64 s67v.2.2.2.2.2.2.1, .int .i64 s67v.2.2.2.2.2.2.2.1, .int .i64 s67v.2.2.2.2.2.2.2.2.1, .bool s67v.2.2.2.2.2.2.2.2.2.1, .slice y68v.1 s67v.2.2.2.2.2.2.2.2.2.2.1.length y68v.2.1, .int .i64 s67v.2.2.2.2.2.2.2.2.2.2.2.1, .int .i64 s67v.2.2.2.2.2.2.2.2.2.2.2.2.1, .slice y68v.2.2.2.1 s67v.2.2.2.2.2.2.2.2.2.2.2.2.2.1.length y68v.2.2.2.2], RowV 61 4 (V61 (y68v.2.2.1)) y68v.1 s67v.2.2.2.2.2.2.2.2.2.2.1 y68v.2.1, y68v.2.2.1, Row 5 1 y68v.2.2.2.1 s67v.2.2.2.2.2.2.2.2.2.2.2.2.2.1.length y68v.2.2.2.2 (encB s67v.2.2.2.2.2.2.2.2.2.2.2.2.2.1), Row 5 1 y61v.1 s60v.1.length y61v.2 (encB (s60v.1 ++ s60v.2)), Row 5 1 y15v.1 s14v.1.length y15v.2 (encB s14v.1), Row 5 1 y12v.1 s11v.1.length y12v.2 (encB s11v.1), obj b10v 44 [], obj b1v 31 [.int .i64 x0_0, .int .i64 x0_1, .int .i64 x0_2, .int .i64 x0_3, .int .i64 x0_4, .int .i64 x0_5, .int .i64 x0_6, .int .i64 x0_7, .int .i64 x0_8, .bool x0_9, .slice a0_10 x0_10.length c0_10, .int .i64 x0_11, .int .i64 x0_12, .slice a0_13 x0_13.length c0_13], F]) rfl rfl rfl rfl rfl rfl Try.call61 (.sel 0 rfl (.sel 0 rfl (.sel 0 rfl (.sel 0 rfl (.sel 0 rfl (.sel 0 rfl (.sel 0 rfl (.sel 0 rfl (.sel 0 rfl (.sel 0 rfl (.nil _))))))))))) (synodref3_GetMessage.calls _ _ k a1 c1 x1 (h1.lend 9 rfl) hc1 hm1) hs73v) rfl rfl rfl ?_
 intro y72v
 refine simL_val (q_move rfl rfl) rfl rfl rfl ?_
 refine simL_val (q_ext rfl rfl rfl) rfl rfl rfl ?_
 refine simL_val (q_ext rfl rfl rfl) rfl rfl rfl ?_
 refine simL_eff (re_alloc rfl Try.zeroValue31 rfl) rfl rfl rfl ?_
 intro b74v
 refine simL_do (re_store 0 rfl rfl rfl Try.sizeOf31 rfl rfl (one_of (by rfl)) rfl rfl) rfl rfl ?_
 intro _
 refine simL_ent (H' := [obj b74v 31 [.int .i64 s71v.1, .int .i64 s71v.2.1, .int .i64 s71v.2.2.1, .int .i64 s71v.2.2.2.1, .int .i64 s71v.2.2.2.2.1, .int .i64 s71v.2.2.2.2.2.1, .int .i64 s71v.2.2.2.2.2.2.1, .int .i64 s71v.2.2.2.2.2.2.2.1, .int .i64 s71v.2.2.2.2.2.2.2.2.1, .bool s71v.2.2.2.2.2.2.2.2.2.1, .slice y72v.1 s71v.2.2.2.2.2.2.2.2.2.2.1.length y72v.2.1, .int .i64 s71v.2.2.2.2.2.2.2.2.2.2.2.1, .int .i64 s71v.2.2.2.2.2.2.2.2.2.2.2.2.1, .slice y72v.2.2.2.1 s71v.2.2.2.2.2.2.2.2.2.2.2.2.2.1.length y72v.2.2.2.2], RowV 61 4 (V61 (y72v.2.2.1)) y72v.1 s71v.2.2.2.2.2.2.2.2.2.2.1 y72v.2.1, y72v.2.2.1, Row 5 1 y72v.2.2.2.1 s71v.2.2.2.2.2.2.2.2.2.2.2.2.2.1.length y72v.2.2.2.2 (encB s71v.2.2.2.2.2.2.2.2.2.2.2.2.2.1), obj b70v 31 [.int .i64 s67v.1, .int .i64 s67v.2.1, .int .i64 s67v.2.2.1, .int .i64 s67v.2.2.2.1, .int .i64 s67v.2.2.2.2.1, .int .i64 s67v.2.2.2.2.2.1, .int .i64 s67v.2.2.2.2.2.2.1, .int .i64 s67v.2.2.2.2.2.2.2.1, .int .i64 s67v.2.2.2.2.2.2.2.2.1, .bool s67v.2.2.2.2.2.2.2.2.2.1, .slice y68v.1 s67v.2.2.2.2.2.2.2.2.2.2.1.length y68v.2.1, .int .i64 s67v.2.2.2.2.2.2.2.2.2.2.2.1, .int .i64 s67v.2.2.2.2.2.2.2.2.2.2.2.2.1, .slice y68v.2.2.2.1 s67v.2.2.2.2.2.2.2.2.2.2.2.2.2.1.length y68v.2.2.2.2], RowV 61 4 (V61 (y68v.2.2.1)) y68v.1 s67v.2.2.2.2.2.2.2.2.2.2.1 y68v.2.1, y68v.2.2.1, Row 5 1 y68v.2.2.2.1 s67v.2.2.2.2.2.2.2.2.2.2.2.2.2.1.length y68v.2.2.2.2 (encB s67v.2.2.2.2.2.2.2.2.2.2.2.2.2.1), Row 5 1 y61v.1 s60v.1.length y61v.2 (encB (s60v.1 ++ s60v.2)), Row 5 1 y15v.1 s14v.1.length y15v.2 (encB s14v.1), Row 5 1 y12v.1 s11v.1.length y12v.2 (encB s11v.1), obj b10v 44 [], obj b1v 31 [.int .i64 x0_0, .int .i64 x0_1, .int .i64 x0_2, .int .i64 x0_3, .int .i64 x0_4, .int .i64 x0_5, .int .i64 x0_6, .int .i64 x0_7, .int .i64 x0_8, .bool x0_9, .slice a0_10 x0_10.length c0_10, .int .i64 x0_11, .int .i64 x0_12, .slice a0_13 x0_13.length c0_13], F]) (Ent.refl _) ?_
 refine simL_val (q_asg rfl rfl) rfl rfl rfl (simL_nil (nrm_then (sim_seq (sim_region ?_))))
 refine simL_val (q_move rfl rfl) rfl rfl rfl ?_
 refine simL_val (q_move rfl rfl) rfl rfl rfl ?_
 refine simL_bind (fun s79v hs81v => ?_)
 refine simL_lendt 8 rfl (fun hq75v hq76v hq77v => ?_)
 refine simL_eff (re_call (vs := [.slice y61v.1 s60v.1.length y61v.2, .slice a1 x1.length c1]) (cap := []) (A := []) (rst := [obj b74v 31 [.int .i64 s71v.1, .int .i64 s71v.2.1, .int .i64 s71v.2.2.1, .int .i64 s71v.2.2.2.1, .int .i64 s71v.2.2.2.2.1, .int .i64 s71v.2.2.2.2.2.1, .int .i64 s71v.2.2.2.2.2.2.1, .int .i64 s71v.2.2.2.2.2.2.2.1, .int .i64 s71v.2.2.2.2.2.2.2.2.1, .bool s71v.2.2.2.2.2.2.2.2.2.1, .slice y72v.1 s71v.2.2.2.2.2.2.2.2.2.2.1.length y72v.2.1, .int .i64 s71v.2.2.2.2.2.2.2.2.2.2.2.1, .int .i64 s71v.2.2.2.2.2.2.2.2.2.2.2.2.1, .slice y72v.2.2.2.1 s71v.2.2.2.2.2.2.2.2.2.2.2.2.2.1.length y72v.2.2.2.2], RowV 61 4 (V61 (y72v.2.2.1)) y72v.1 s71v.2.2.2.2.2.2.2.2.2.2.1 y72v.2.1, y72v.2.2.1, Row 5 1 y72v.2.2.2.1 s71v.2.2.2.2.2.2.2.2.2.2.2.2.2.1.length y72v.2.2.2.2 (encB s71v.2.2.2.2.2.2.2.2.2.2.2.2.2.1), obj b70v 31 [.int .i64 s67v.1, .int .i64 s67v.2.1, .int .i64 s67v.2.2.1, .int .i64 s67v.2.2.2.1, .int .i64 s67v.2.2.2.2.1, .int .i64 s67v.2.2.2.2.2.1, .int .i64 s67v.2.2.2.2.2.2.1, .int .i64 s67v.2.2.2.2.2.2.2.1, .int .i64 s67v.2.2.2.2.2.2.2.2.1, .bool s67v.2.2.2.2.2.2.2.2.2.1, .slice y68v.1 s67v.2.2.2.2.2.2.2.2.2.2.1.length y68v.2.1, .int .i64 s67v.2.2.2.2.2.2.2.2.2.2.2.1, .int .i64 s67v.2.2.2.2.2.2.2.2.2.2.2.2.1, .slice y68v.2.2.2.1 s67v.2.2.2.2.2.2.2.2.2.2.2.2.2.1.length y68v.2.2.2.2], RowV 61 4 (V61 (y68v.2.2.1)) y68v.1 s67v.2.2.2.2.2.2.2.2.2.2.1 y68v.2.1, y68v.2.2.1, Row 5 1 y68v.2.2.2.1 s67v.2.2.2.2.2.2.2.2.2.2.2.2.2.1.length y68v.2.2.2.2 (encB s67v.2.2.2.2.2.2.2.2.2.2.2.2.2.1), Row 5 1 y61v.1 s60v.1.length y61v.2 (encB (s60v.1 ++ s60v.2)), Row 5 1 y15v.1 s14v.1.length y15v.2 (encB s14v.1), Row 5 1 y12v.1 s11v.1.length y12v.2 (encB s11v.1), obj b10v 44 [], obj b1v 31 [.int .i64 x0_0, .int .i64 x0_1, .int .i64 x0_2, .int .i64 x0_3, .int .i64 x0_4, .int .i64 x0_5, .int .i64 x0_6, .int .i64 x0_7, .int .i64 x0_8, .bool x0_9, .slice a0_10 x0_10.length c0_10, .int .i64 x0_11, .int .i64 x0_12, .slice a0_13 x0_13.length c0_13], F]) rfl rfl rfl rfl rfl rfl Try.call31 (.sel 0 rfl (.sel 0 rfl (.sel 0 rfl (.sel 0 rfl (.sel 0 rfl (.sel 0 rfl (.sel 0 rfl (.sel 0 rfl (.sel 0 rfl (.sel 0 rfl (.sel 0 rfl (.sel 0 rfl (.sel 0 rfl (.sel 0 rfl (.nil _))))))))))))))) (synodref_Kept.calls _ _ k y61v.1 y61v.2 s60v.1 s60v.2 a1 c1 x1 (hq75v.lend 8 rfl) (by rw [encB_length, Nat.mul_one] at hq76v; exact hq76v) hq77v (h1.lend 13 rfl) hc1 hm1) hs81v) rfl rfl rfl ?_
 intro y80v
 refine simL_val (q_asg rfl rfl) rfl rfl rfl (simL_nil (nrm_then (sim_seq (sim_region ?_))))
 refine simL_val (q_loado 4 rfl rfl Try.isAgg31 Try.sizeOf31 rfl rfl) rfl rfl rfl ?_
 refine simL_val (q_loado 0 rfl rfl Try.isAgg31 Try.sizeOf31 rfl rfl) rfl rfl rfl ?_
 refine simL_openV 1 rfl (fun rs82v hl83v => ?_)
 refine simL_openV 5 rfl (fun rs84v hl85v => ?_)
 refine simL_bind (fun s102v hs104v => ?_)
 refine simL_lend 5 rfl (fun hq86v hq87v hq88v hq89v => ?_)
 refine simL_lend 7 rfl (fun hq90v hq91v hq92v hq93v => ?_)
 refine simL_lend 1 rfl (fun hq94v hq95v hq96v hq97v => ?_)
 refine simL_lend 3 rfl (fun hq98v hq99v hq100v hq101v => ?_)
 refine simL_eff (re_call (vs := [.agg #[.int .i64 s67v.1, .int .i64 s67v.2.1, .int .i64 s67v.2.2.1, .int .i64 s67v.2.2.2.1, .int .i64 s67v.2.2.2.2.1, .int .i64 s67v.2.2.2.2.2.1, .int .i64 s67v.2.2.2.2.2.2.1, .int .i64 s67v.2.2.2.2.2.2.2.1, .int .i64 s67v.2.2.2.2.2.2.2.2.1, .bool s67v.2.2.2.2.2.2.2.2.2.1, .slice y68v.1 s67v.2.2.2.2.2.2.2.2.2.2.1.length y68v.2.1, .int .i64 s67v.2.2.2.2.2.2.2.2.2.2.2.1, .int .i64 s67v.2.2.2.2.2.2.2.2.2.2.2.2.1, .slice y68v.2.2.2.1 s67v.2.2.2.2.2.2.2.2.2.2.2.2.2.1.length y68v.2.2.2.2], .agg #[.int .i64 s71v.1, .int .i64 s71v.2.1, .int .i64 s71v.2.2.1, .int .i64 s71v.2.2.2.1, .int .i64 s71v.2.2.2.2.1, .int .i64 s71v.2.2.2.2.2.1, .int .i64 s71v.2.2.2.2.2.2.1, .int .i64 s71v.2.2.2.2.2.2.2.1, .int .i64 s71v.2.2.2.2.2.2.2.2.1, .bool s71v.2.2.2.2.2.2.2.2.2.1, .slice y72v.1 s71v.2.2.2.2.2.2.2.2.2.2.1.length y72v.2.1, .int .i64 s71v.2.2.2.2.2.2.2.2.2.2.2.1, .int .i64 s71v.2.2.2.2.2.2.2.2.2.2.2.2.1, .slice y72v.2.2.2.1 s71v.2.2.2.2.2.2.2.2.2.2.2.2.2.1.length y72v.2.2.2.2]]) (cap := []) (A := []) (rst := [obj b74v 31 [.int .i64 s71v.1, .int .i64 s71v.2.1, .int .i64 s71v.2.2.1, .int .i64 s71v.2.2.2.1, .int .i64 s71v.2.2.2.2.1, .int .i64 s71v.2.2.2.2.2.1, .int .i64 s71v.2.2.2.2.2.2.1, .int .i64 s71v.2.2.2.2.2.2.2.1, .int .i64 s71v.2.2.2.2.2.2.2.2.1, .bool s71v.2.2.2.2.2.2.2.2.2.1, .slice y72v.1 s71v.2.2.2.2.2.2.2.2.2.2.1.length y72v.2.1, .int .i64 s71v.2.2.2.2.2.2.2.2.2.2.2.1, .int .i64 s71v.2.2.2.2.2.2.2.2.2.2.2.2.1, .slice y72v.2.2.2.1 s71v.2.2.2.2.2.2.2.2.2.2.2.2.2.1.length y72v.2.2.2.2], Row 61 4 y72v.1 s71v.2.2.2.2.2.2.2.2.2.2.1.length y72v.2.1 rs82v.flatten, y72v.2.2.1, Row 5 1 y72v.2.2.2.1 s71v.2.2.2.2.2.2.2.2.2.2.2.2.2.1.length y72v.2.2.2.2 (encB s71v.2.2.2.2.2.2.2.2.2.2.2.2.2.1), obj b70v 31 [.int .i64 s67v.1, .int .i64 s67v.2.1, .int .i64 s67v.2.2.1, .int .i64 s67v.2.2.2.1, .int .i64 s67v.2.2.2.2.1, .int .i64 s67v.2.2.2.2.2.1, .int .i64 s67v.2.2.2.2.2.2.1, .int .i64 s67v.2.2.2.2.2.2.2.1, .int .i64 s67v.2.2.2.2.2.2.2.2.1, .bool s67v.2.2.2.2.2.2.2.2.2.1, .slice y68v.1 s67v.2.2.2.2.2.2.2.2.2.2.1.length y68v.2.1, .int .i64 s67v.2.2.2.2.2.2.2.2.2.2.2.1, .int .i64 s67v.2.2.2.2.2.2.2.2.2.2.2.2.1, .slice y68v.2.2.2.1 s67v.2.2.2.2.2.2.2.2.2.2.2.2.2.1.length y68v.2.2.2.2], Row 61 4 y68v.1 s67v.2.2.2.2.2.2.2.2.2.2.1.length y68v.2.1 rs84v.flatten, y68v.2.2.1, Row 5 1 y68v.2.2.2.1 s67v.2.2.2.2.2.2.2.2.2.2.2.2.2.1.length y68v.2.2.2.2 (encB s67v.2.2.2.2.2.2.2.2.2.2.2.2.2.1), Row 5 1 y61v.1 s60v.1.length y61v.2 (encB (s60v.1 ++ s60v.2)), Row 5 1 y15v.1 s14v.1.length y15v.2 (encB s14v.1), Row 5 1 y12v.1 s11v.1.length y12v.2 (encB s11v.1), obj b10v 44 [], obj b1v 31 [.int .i64 x0_0, .int .i64 x0_1, .int .i64 x0_2, .int .i64 x0_3, .int .i64 x0_4, .int .i64 x0_5, .int .i64 x0_6, .int .i64 x0_7, .int .i64 x0_8, .bool x0_9, .slice a0_10 x0_10.length c0_10, .int .i64 x0_11, .int .i64 x0_12, .slice a0_13 x0_13.length c0_13], F]) rfl rfl rfl rfl rfl rfl Try.call18 (.sel 0 rfl (.sel 0 rfl (.sel 0 rfl (.sel 0 rfl (.sel 0 rfl (.sel 0 rfl (.sel 0 rfl (.sel 0 rfl (.sel 0 rfl (.sel 0 rfl (.sel 0 rfl (.sel 0 rfl (.sel 0 rfl (.sel 0 rfl (.nil _))))))))))))))) (synodref_SameMessage.calls _ _ k s67v.1 s67v.2.1 s67v.2.2.1 s67v.2.2.2.1 s67v.2.2.2.2.1 s67v.2.2.2.2.2.1 s67v.2.2.2.2.2.2.1 s67v.2.2.2.2.2.2.2.1 s67v.2.2.2.2.2.2.2.2.1 s67v.2.2.2.2.2.2.2.2.2.1 y68v.1 y68v.2.1 s67v.2.2.2.2.2.2.2.2.2.2.1 s67v.2.2.2.2.2.2.2.2.2.2.2.1 s67v.2.2.2.2.2.2.2.2.2.2.2.2.1 y68v.2.2.2.1 y68v.2.2.2.2 s67v.2.2.2.2.2.2.2.2.2.2.2.2.2.1 s71v.1 s71v.2.1 s71v.2.2.1 s71v.2.2.2.1 s71v.2.2.2.2.1 s71v.2.2.2.2.2.1 s71v.2.2.2.2.2.2.1 s71v.2.2.2.2.2.2.2.1 s71v.2.2.2.2.2.2.2.2.1 s71v.2.2.2.2.2.2.2.2.2.1 y72v.1 y72v.2.1 s71v.2.2.2.2.2.2.2.2.2.2.1 s71v.2.2.2.2.2.2.2.2.2.2.2.1 s71v.2.2.2.2.2.2.2.2.2.2.2.2.1 y72v.2.2.2.1 y72v.2.2.2.2 s71v.2.2.2.2.2.2.2.2.2.2.2.2.2.1 ((Rd.asV hl85v hq86v).up (Up.lend 5 rfl) (V61.up (Up.lend 6 rfl))) hq87v hq88v (hq90v.lend 7 rfl) hq91v hq92v ((Rd.asV hl83v hq94v).up (Up.lend 1 rfl) (V61.up (Up.lend 2 rfl))) hq95v hq96v (hq98v.lend 3 rfl) hq99v hq100v) hs104v) rfl rfl rfl ?_
 intro y103v
 refine simL_val (q_asg rfl rfl) rfl rfl rfl (simL_nil (nrm_then (sim_seq (sim_seq (sim_region ?_)))))
 refine simL_val (q_move rfl rfl) rfl rfl rfl ?_
 refine simL_val (q_not rfl rfl) rfl rfl rfl ?_
 refine simL_val (q_move rfl rfl) rfl rfl rfl ?_
 refine simL_cut' 5 (S := Bool) (Unit) (fun s y => [(2, .pointer (some ⟨b1v, 0, none⟩)), (7, .pointer (some ⟨b10v, 0, none⟩)), (8, .slice y12v.1 s11v.1.length y12v.2), (11, .int .i64 s14v.2), (18, .bool s79v), (97, .bool s)]) (fun s y => [obj b10v 44 [], obj b1v 31 [.int .i64 x0_0, .int .i64 x0_1, .int .i64 x0_2, .int .i64 x0_3, .int .i64 x0_4, .int .i64 x0_5, .int .i64 x0_6, .int .i64 x0_7, .int .i64 x0_8, .bool x0_9, .slice a0_10 x0_10.length c0_10, .int .i64 x0_11, .int .i64 x0_12, .slice a0_13 x0_13.length c0_13], Row 5 1 y12v.1 s11v.1.length y12v.2 (encB s11v.1), F]) ?_ ?_
 refine simL_caseb (fun hb110v => ?_) (fun hb111v => ?_)
 rw [hb110v]
 refine simL_skipd rfl rfl rfl rfl rfl rfl ?_
 refine simL_skipd rfl rfl rfl rfl rfl rfl ?_
 refine simL_skipd rfl rfl rfl rfl rfl rfl ?_
 refine simL_skipd rfl rfl rfl rfl rfl rfl ?_
 refine simL_val (q_pick rfl rfl rfl rfl rfl) rfl rfl rfl (simL_nil ?_)
 exact nrm_cut (s := true) () ⟨rfl, rfl, rfl, rfl, rfl, rfl, trivial⟩ (.sel 11 rfl (.sel 11 rfl (.sel 10 rfl (.sel 10 rfl (.nil _)))))
 rw [hb111v]
 refine simL_valg (q_move rfl rfl) rfl rfl rfl rfl rfl rfl ?_
 refine simL_bind (fun s107v hs109v => ?_)
 refine simL_effg (re_call (vs := [.int .i64 s67v.2.2.2.2.2.2.2.2.2.2.2.2.2.2]) (cap := []) (A := []) (rst := [obj b74v 31 [.int .i64 s71v.1, .int .i64 s71v.2.1, .int .i64 s71v.2.2.1, .int .i64 s71v.2.2.2.1, .int .i64 s71v.2.2.2.2.1, .int .i64 s71v.2.2.2.2.2.1, .int .i64 s71v.2.2.2.2.2.2.1, .int .i64 s71v.2.2.2.2.2.2.2.1, .int .i64 s71v.2.2.2.2.2.2.2.2.1, .bool s71v.2.2.2.2.2.2.2.2.2.1, .slice y72v.1 s71v.2.2.2.2.2.2.2.2.2.2.1.length y72v.2.1, .int .i64 s71v.2.2.2.2.2.2.2.2.2.2.2.1, .int .i64 s71v.2.2.2.2.2.2.2.2.2.2.2.2.1, .slice y72v.2.2.2.1 s71v.2.2.2.2.2.2.2.2.2.2.2.2.2.1.length y72v.2.2.2.2], Row 61 4 y72v.1 s71v.2.2.2.2.2.2.2.2.2.2.1.length y72v.2.1 rs82v.flatten, y72v.2.2.1, Row 5 1 y72v.2.2.2.1 s71v.2.2.2.2.2.2.2.2.2.2.2.2.2.1.length y72v.2.2.2.2 (encB s71v.2.2.2.2.2.2.2.2.2.2.2.2.2.1), obj b70v 31 [.int .i64 s67v.1, .int .i64 s67v.2.1, .int .i64 s67v.2.2.1, .int .i64 s67v.2.2.2.1, .int .i64 s67v.2.2.2.2.1, .int .i64 s67v.2.2.2.2.2.1, .int .i64 s67v.2.2.2.2.2.2.1, .int .i64 s67v.2.2.2.2.2.2.2.1, .int .i64 s67v.2.2.2.2.2.2.2.2.1, .bool s67v.2.2.2.2.2.2.2.2.2.1, .slice y68v.1 s67v.2.2.2.2.2.2.2.2.2.2.1.length y68v.2.1, .int .i64 s67v.2.2.2.2.2.2.2.2.2.2.2.1, .int .i64 s67v.2.2.2.2.2.2.2.2.2.2.2.2.1, .slice y68v.2.2.2.1 s67v.2.2.2.2.2.2.2.2.2.2.2.2.2.1.length y68v.2.2.2.2], Row 61 4 y68v.1 s67v.2.2.2.2.2.2.2.2.2.2.1.length y68v.2.1 rs84v.flatten, y68v.2.2.1, Row 5 1 y68v.2.2.2.1 s67v.2.2.2.2.2.2.2.2.2.2.2.2.2.1.length y68v.2.2.2.2 (encB s67v.2.2.2.2.2.2.2.2.2.2.2.2.2.1), Row 5 1 y61v.1 s60v.1.length y61v.2 (encB (s60v.1 ++ s60v.2)), Row 5 1 y15v.1 s14v.1.length y15v.2 (encB s14v.1), Row 5 1 y12v.1 s11v.1.length y12v.2 (encB s11v.1), obj b10v 44 [], obj b1v 31 [.int .i64 x0_0, .int .i64 x0_1, .int .i64 x0_2, .int .i64 x0_3, .int .i64 x0_4, .int .i64 x0_5, .int .i64 x0_6, .int .i64 x0_7, .int .i64 x0_8, .bool x0_9, .slice a0_10 x0_10.length c0_10, .int .i64 x0_11, .int .i64 x0_12, .slice a0_13 x0_13.length c0_13], F]) rfl rfl rfl rfl rfl rfl Try.call26 (.sel 0 rfl (.sel 0 rfl (.sel 0 rfl (.sel 0 rfl (.sel 0 rfl (.sel 0 rfl (.sel 0 rfl (.sel 0 rfl (.sel 0 rfl (.sel 0 rfl (.sel 0 rfl (.sel 0 rfl (.sel 0 rfl (.sel 0 rfl (.nil _))))))))))))))) (synodref_Num.calls _ _ s67v.2.2.2.2.2.2.2.2.2.2.2.2.2.2 ) hs109v) rfl rfl rfl rfl rfl rfl ?_
 intro y108v
 refine simL_valg (q_move rfl rfl) rfl rfl rfl rfl rfl rfl ?_
 refine simL_valg (q_neq rfl rfl rfl) rfl rfl rfl rfl rfl rfl ?_
 refine simL_val (q_pick rfl rfl rfl rfl rfl) rfl rfl rfl (simL_nil ?_)
 exact nrm_cut (s := !decide (s107v = s71v.2.2.2.2.2.2.2.2.2.2.2.2.2.2)) () ⟨rfl, rfl, rfl, rfl, rfl, rfl, trivial⟩ (.sel 11 rfl (.sel 11 rfl (.sel 10 rfl (.sel 10 rfl (.nil _)))))
 intro s105v y106v
 refine simL_val (q_move rfl rfl) rfl rfl rfl ?_
 refine simL_valc (b := s105v) (fun hb175v => RQ.sub (E' := [(18, .bool s79v)]) ⟨rfl, trivial⟩ (q_move rfl rfl)) rfl rfl rfl rfl rfl ?_
 refine simL_valc (b := s105v) (fun hb174v => RQ.sub (E' := [(99, .bool s79v)]) ⟨lk_cv rfl hb174v, trivial⟩ (q_not rfl rfl)) rfl rfl rfl rfl rfl ?_
 refine simL_val (q_or rfl rfl rfl) rfl rfl rfl (simL_nil (nrm_then ?_))
 refine sim_condb rfl (fun h112v => ?_) (fun h113v => ?_)
 refine sim_seq (sim_region ?_)
 refine simL_val (q_asg rfl rfl) rfl rfl rfl (simL_nil (nrm_then (sim_rtn ?_)))
 refine rtn_then ?_
 exact rtn_fn () rfl rfl rfl (.sel 3 rfl (.nil _))
 refine sim_skip ?_
 refine nrm_then (sim_seq (sim_seq (sim_region ?_)))
 refine simL_val (q_move rfl rfl) rfl rfl rfl ?_
 refine simL_val (q_neq rfl rfl rfl) rfl rfl rfl (simL_nil (nrm_then ?_))
 refine sim_condn rfl (fun h114v => ?_) (fun h115v => ?_)
 refine sim_skip ?_
 refine nrm_then (sim_seq (sim_region ?_))
 refine simL_val (q_loado 0 rfl rfl Try.isAgg44 Try.sizeOf44 rfl rfl) rfl rfl rfl ?_
 refine simL_val (q_move rfl rfl) rfl rfl rfl ?_
 refine simL_bind (fun s120v hs122v => ?_)
 refine simL_lend 2 rfl (fun hq116v hq117v hq118v hq119v => ?_)
 refine simL_eff (re_call (vs := [.agg #[], .slice y12v.1 s11v.1.length y12v.2]) (cap := []) (A := []) (rst := [obj b10v 44 [], obj b1v 31 [.int .i64 x0_0, .int .i64 x0_1, .int .i64 x0_2, .int .i64 x0_3, .int .i64 x0_4, .int .i64 x0_5, .int .i64 x0_6, .int .i64 x0_7, .int .i64 x0_8, .bool x0_9, .slice a0_10 x0_10.length c0_10, .int .i64 x0_11, .int .i64 x0_12, .slice a0_13 x0_13.length c0_13], Row 5 1 y12v.1 s11v.1.length y12v.2 (encB s11v.1), F]) rfl rfl rfl rfl rfl rfl Try.call60 (.sel 0 rfl (.sel 0 rfl (.sel 0 rfl (.sel 0 rfl (.nil _))))) (codec_Messages_Get.calls _ _ k y12v.1 y12v.2 s11v.1 (hq116v.lend 2 rfl) hq117v hq118v) hs122v) rfl rfl rfl ?_
 intro y121v
 refine simL_val (q_move rfl rfl) rfl rfl rfl ?_
 refine simL_val (q_ext rfl rfl rfl) rfl rfl rfl ?_
 refine simL_val (q_ext rfl rfl rfl) rfl rfl rfl ?_
 refine simL_eff (re_alloc rfl Try.zeroValue31 rfl) rfl rfl rfl ?_
 intro b123v
 refine simL_do (re_store 0 rfl rfl rfl Try.sizeOf31 rfl rfl (one_of (by rfl)) rfl rfl) rfl rfl ?_
 intro _
 refine simL_ent (H' := [obj b123v 31 [.int .i64 s120v.1, .int .i64 s120v.2.1, .int .i64 s120v.2.2.1, .int .i64 s120v.2.2.2.1, .int .i64 s120v.2.2.2.2.1, .int .i64 s120v.2.2.2.2.2.1, .int .i64 s120v.2.2.2.2.2.2.1, .int .i64 s120v.2.2.2.2.2.2.2.1, .int .i64 s120v.2.2.2.2.2.2.2.2.1, .bool s120v.2.2.2.2.2.2.2.2.2.1, .slice y121v.1 s120v.2.2.2.2.2.2.2.2.2.2.1.length y121v.2.1, .int .i64 s120v.2.2.2.2.2.2.2.2.2.2.2.1, .int .i64 s120v.2.2.2.2.2.2.2.2.2.2.2.2.1, .slice y121v.2.2.2.1 s120v.2.2.2.2.2.2.2.2.2.2.2.2.2.1.length y121v.2.2.2.2], RowV 61 4 (V61 (y121v.2.2.1)) y121v.1 s120v.2.2.2.2.2.2.2.2.2.2.1 y121v.2.1, y121v.2.2.1, Row 5 1 y121v.2.2.2.1 s120v.2.2.2.2.2.2.2.2.2.2.2.2.2.1.length y121v.2.2.2.2 (encB s120v.2.2.2.2.2.2.2.2.2.2.2.2.2.1), obj b10v 44 [], obj b1v 31 [.int .i64 x0_0, .int .i64 x0_1, .int .i64 x0_2, .int .i64 x0_3, .int .i64 x0_4, .int .i64 x0_5, .int .i64 x0_6, .int .i64 x0_7, .int .i64 x0_8, .bool x0_9, .slice a0_10 x0_10.length c0_10, .int .i64 x0_11, .int .i64 x0_12, .slice a0_13 x0_13.length c0_13], Row 5 1 y12v.1 s11v.1.length y12v.2 (encB s11v.1), F]) (Ent.refl _) ?_
 refine simL_val (q_asg rfl rfl) rfl rfl rfl (simL_nil (nrm_then (sim_seq (sim_region ?_))))
 refine simL_val (q_loado 0 rfl rfl Try.isAgg31 Try.sizeOf31 rfl rfl) rfl rfl rfl ?_
 refine simL_val (q_loado 5 rfl rfl Try.isAgg31 Try.sizeOf31 rfl rfl) rfl rfl rfl ?_
 refine simL_openV 1 rfl (fun rs124v hl125v => ?_)
 refine simL_bind (fun s134v hs136v => ?_)
 refine simL_lend 1 rfl (fun hq126v hq127v hq128v hq129v => ?_)
 refine simL_lend 3 rfl (fun hq130v hq131v hq132v hq133v => ?_)
 refine simL_eff (re_call (vs := [.agg #[.int .i64 s120v.1, .int .i64 s120v.2.1, .int .i64 s120v.2.2.1, .int .i64 s120v.2.2.2.1, .int .i64 s120v.2.2.2.2.1, .int .i64 s120v.2.2.2.2.2.1, .int .i64 s120v.2.2.2.2.2.2.1, .int .i64 s120v.2.2.2.2.2.2.2.1, .int .i64 s120v.2.2.2.2.2.2.2.2.1, .bool s120v.2.2.2.2.2.2.2.2.2.1, .slice y121v.1 s120v.2.2.2.2.2.2.2.2.2.2.1.length y121v.2.1, .int .i64 s120v.2.2.2.2.2.2.2.2.2.2.2.1, .int .i64 s120v.2.2.2.2.2.2.2.2.2.2.2.2.1, .slice y121v.2.2.2.1 s120v.2.2.2.2.2.2.2.2.2.2.2.2.2.1.length y121v.2.2.2.2], .agg #[.int .i64 x0_0, .int .i64 x0_1, .int .i64 x0_2, .int .i64 x0_3, .int .i64 x0_4, .int .i64 x0_5, .int .i64 x0_6, .int .i64 x0_7, .int .i64 x0_8, .bool x0_9, .slice a0_10 x0_10.length c0_10, .int .i64 x0_11, .int .i64 x0_12, .slice a0_13 x0_13.length c0_13]]) (cap := []) (A := []) (rst := [obj b123v 31 [.int .i64 s120v.1, .int .i64 s120v.2.1, .int .i64 s120v.2.2.1, .int .i64 s120v.2.2.2.1, .int .i64 s120v.2.2.2.2.1, .int .i64 s120v.2.2.2.2.2.1, .int .i64 s120v.2.2.2.2.2.2.1, .int .i64 s120v.2.2.2.2.2.2.2.1, .int .i64 s120v.2.2.2.2.2.2.2.2.1, .bool s120v.2.2.2.2.2.2.2.2.2.1, .slice y121v.1 s120v.2.2.2.2.2.2.2.2.2.2.1.length y121v.2.1, .int .i64 s120v.2.2.2.2.2.2.2.2.2.2.2.1, .int .i64 s120v.2.2.2.2.2.2.2.2.2.2.2.2.1, .slice y121v.2.2.2.1 s120v.2.2.2.2.2.2.2.2.2.2.2.2.2.1.length y121v.2.2.2.2], Row 61 4 y121v.1 s120v.2.2.2.2.2.2.2.2.2.2.1.length y121v.2.1 rs124v.flatten, y121v.2.2.1, Row 5 1 y121v.2.2.2.1 s120v.2.2.2.2.2.2.2.2.2.2.2.2.2.1.length y121v.2.2.2.2 (encB s120v.2.2.2.2.2.2.2.2.2.2.2.2.2.1), obj b10v 44 [], obj b1v 31 [.int .i64 x0_0, .int .i64 x0_1, .int .i64 x0_2, .int .i64 x0_3, .int .i64 x0_4, .int .i64 x0_5, .int .i64 x0_6, .int .i64 x0_7, .int .i64 x0_8, .bool x0_9, .slice a0_10 x0_10.length c0_10, .int .i64 x0_11, .int .i64 x0_12, .slice a0_13 x0_13.length c0_13], Row 5 1 y12v.1 s11v.1.length y12v.2 (encB s11v.1), F]) rfl rfl rfl rfl rfl rfl Try.call18 (.sel 0 rfl (.sel 0 rfl (.sel 0 rfl (.sel 0 rfl (.sel 0 rfl (.sel 0 rfl (.sel 0 rfl (.sel 0 rfl (.nil _))))))))) (synodref_SameMessage.calls _ _ k s120v.1 s120v.2.1 s120v.2.2.1 s120v.2.2.2.1 s120v.2.2.2.2.1 s120v.2.2.2.2.2.1 s120v.2.2.2.2.2.2.1 s120v.2.2.2.2.2.2.2.1 s120v.2.2.2.2.2.2.2.2.1 s120v.2.2.2.2.2.2.2.2.2.1 y121v.1 y121v.2.1 s120v.2.2.2.2.2.2.2.2.2.2.1 s120v.2.2.2.2.2.2.2.2.2.2.2.1 s120v.2.2.2.2.2.2.2.2.2.2.2.2.1 y121v.2.2.2.1 y121v.2.2.2.2 s120v.2.2.2.2.2.2.2.2.2.2.2.2.2.1 x0_0 x0_1 x0_2 x0_3 x0_4 x0_5 x0_6 x0_7 x0_8 x0_9 a0_10 c0_10 x0_10 x0_11 x0_12 a0_13 c0_13 x0_13 ((Rd.asV hl125v hq126v).up (Up.lend 1 rfl) (V61.up (Up.lend 2 rfl))) hq127v hq128v (hq130v.lend 3 rfl) hq131v hq132v (h0_10.up (Up.lend 7 rfl) (V61.up (Up.lend 7 rfl))) hc0_10 hm0_10 (h0_13.lend 7 rfl) hc0_13 hm0_13) hs136v) rfl rfl rfl ?_
 intro y135v
 refine simL_val (q_asg rfl rfl) rfl rfl rfl (simL_nil (nrm_then ?_))
 refine sim_cut (S := Unit) (HA) (fun s y => [(2, .pointer (some ⟨b1v, 0, none⟩)), (20, .pointer (some ⟨b123v, 0, none⟩)), (21, .int .i64 s120v.2.2.2.2.2.2.2.2.2.2.2.2.2.2), (22, .bool s134v)]) (fun s y => [obj b123v 31 [.int .i64 s120v.1, .int .i64 s120v.2.1, .int .i64 s120v.2.2.1, .int .i64 s120v.2.2.2.1, .int .i64 s120v.2.2.2.2.1, .int .i64 s120v.2.2.2.2.2.1, .int .i64 s120v.2.2.2.2.2.2.1, .int .i64 s120v.2.2.2.2.2.2.2.1, .int .i64 s120v.2.2.2.2.2.2.2.2.1, .bool s120v.2.2.2.2.2.2.2.2.2.1, .slice y121v.1 s120v.2.2.2.2.2.2.2.2.2.2.1.length y121v.2.1, .int .i64 s120v.2.2.2.2.2.2.2.2.2.2.2.1, .int .i64 s120v.2.2.2.2.2.2.2.2.2.2.2.2.1, .slice y121v.2.2.2.1 s120v.2.2.2.2.2.2.2.2.2.2.2.2.2.1.length y121v.2.2.2.2], obj b1v 31 [.int .i64 x0_0, .int .i64 x0_1, .int .i64 x0_2, .int .i64 x0_3, .int .i64 x0_4, .int .i64 x0_5, .int .i64 x0_6, .int .i64 x0_7, .int .i64 x0_8, .bool x0_9, .slice a0_10 x0_10.length c0_10, .int .i64 x0_11, .int .i64 x0_12, .slice a0_13 x0_13.length c0_13], RowV 61 4 (V61 (y)) y121v.1 s120v.2.2.2.2.2.2.2.2.2.2.1 y121v.2.1, Row 5 1 y121v.2.2.2.1 s120v.2.2.2.2.2.2.2.2.2.2.2.2.2.1.length y121v.2.2.2.2 (encB s120v.2.2.2.2.2.2.2.2.2.2.2.2.2.1), y, F]) ?_ ?_
 refine sim_seq (sim_region ?_)
 refine simL_val (q_asg rfl rfl) rfl rfl rfl (simL_nil (nrm_then ?_))
 refine sim_block ?_
 refine sim_loop (S := List UInt8 × Int) (HA) (fun k s => synodlaw3_CodecMessages.l0 k s.1 s.2) (fun s y => [(2, .pointer (some ⟨b1v, 0, none⟩)), (8, .slice y12v.1 s.1.length y12v.2), (20, .pointer (some ⟨b123v, 0, none⟩)), (21, .int .i64 s120v.2.2.2.2.2.2.2.2.2.2.2.2.2.2), (22, .bool s134v), (23, .int .i64 s.2)]) (fun s y => [obj b123v 31 [.int .i64 s120v.1, .int .i64 s120v.2.1, .int .i64 s120v.2.2.1, .int .i64 s120v.2.2.2.1, .int .i64 s120v.2.2.2.2.1, .int .i64 s120v.2.2.2.2.2.1, .int .i64 s120v.2.2.2.2.2.2.1, .int .i64 s120v.2.2.2.2.2.2.2.1, .int .i64 s120v.2.2.2.2.2.2.2.2.1, .bool s120v.2.2.2.2.2.2.2.2.2.1, .slice y121v.1 s120v.2.2.2.2.2.2.2.2.2.2.1.length y121v.2.1, .int .i64 s120v.2.2.2.2.2.2.2.2.2.2.2.1, .int .i64 s120v.2.2.2.2.2.2.2.2.2.2.2.2.1, .slice y121v.2.2.2.1 s120v.2.2.2.2.2.2.2.2.2.2.2.2.2.1.length y121v.2.2.2.2], obj b1v 31 [.int .i64 x0_0, .int .i64 x0_1, .int .i64 x0_2, .int .i64 x0_3, .int .i64 x0_4, .int .i64 x0_5, .int .i64 x0_6, .int .i64 x0_7, .int .i64 x0_8, .bool x0_9, .slice a0_10 x0_10.length c0_10, .int .i64 x0_11, .int .i64 x0_12, .slice a0_13 x0_13.length c0_13], Row 5 1 y12v.1 s.1.length y12v.2 (encB s.1), RowV 61 4 (V61 (y)) y121v.1 s120v.2.2.2.2.2.2.2.2.2.2.1 y121v.2.1, Row 5 1 y121v.2.2.2.1 s120v.2.2.2.2.2.2.2.2.2.2.2.2.2.1.length y121v.2.2.2.2 (encB s120v.2.2.2.2.2.2.2.2.2.2.2.2.2.1), y, F]) (fun _ => by rw [synodlaw3_CodecMessages.l0]) ?_ k (s11v.1, 0) y121v.2.2.1 ⟨rfl, rfl, rfl, rfl, rfl, rfl, trivial⟩ (.sel 0 rfl (.sel 4 rfl (.sel 4 rfl (.sel' 0 rfl (RowV.mk hl125v) (.sel 1 rfl (.sel 0 rfl (.sel 1 rfl (.nil _))))))))
 intro k s139v y140v
 refine sim_eq (by rw [synodlaw3_CodecMessages.l0]) ?_
 refine sim_seq (sim_seq (sim_region ?_))
 refine simL_val (q_move rfl rfl) rfl rfl rfl ?_
 refine simL_val (q_move rfl rfl) rfl rfl rfl ?_
 refine simL_val (q_len rfl rfl rfl Try.underlying27) rfl rfl rfl ?_
 refine simL_val (q_lss rfl rfl rfl) rfl rfl rfl (simL_nil (nrm_then ?_))
 refine sim_cond rfl (fun h143v => ?_) (fun h144v => ?_)
 refine sim_skip ?_
 refine nrm_then (sim_seq ?_)
 refine sim_block ?_
 refine sim_region ?_
 refine simL_val (q_move rfl rfl) rfl rfl rfl ?_
 refine simL_val (q_move rfl rfl) rfl rfl rfl ?_
 refine simL_ask (fun hi145v => ?_)
 refine simL_row 2 rfl (encB_ne (j := s139v.2.toNat) (by omega)) (fun b146v b146vo ha147v => ?_)
 refine simL_val (q_idx1 rfl rfl rfl ha147v Try.underlying27 Try.sizeOf5 hi145v.1 hi145v.2) rfl rfl rfl ?_
 refine simL_do (re_storeb 255 2 rfl rfl rfl Try.sizeOf5 rfl ha147v hi145v.2 hi145v.1 rfl) rfl rfl ?_
 intro _
 refine simL_ren (.slice y12v.1 ((s139v.1.set s139v.2.toNat 255).length) y12v.2) (d := 8) rfl (slc_len (by simp)) ?_
 refine simL_ren (.slice y12v.1 ((s139v.1.set s139v.2.toNat 255).length) y12v.2) (d := 114) rfl (slc_len (by simp)) ?_
 refine simL_ren (.slice y12v.1 ((s139v.1.set s139v.2.toNat 255).length) y12v.2) (d := 119) rfl (slc_len (by simp)) ?_
 refine simL_nil (nrm_block (nrm_then (sim_region ?_)))
 refine simL_val (q_move rfl rfl) rfl rfl rfl ?_
 refine simL_val (q_add rfl rfl rfl) rfl rfl rfl ?_
 refine simL_val (q_asg rfl rfl) rfl rfl rfl (simL_nil ?_)
 exact nrm_again (s := (s139v.1.set s139v.2.toNat 255, IntKind.i64.wrap (s139v.2 + 1))) y140v ⟨rfl, rfl, rfl, rfl, rfl, rfl, trivial⟩ (.sel 0 rfl (.sel 0 rfl (.sel 0 rfl (.sel 0 rfl (.sel 0 rfl (.sel 0 rfl (.sel 0 rfl (.nil _))))))))
 refine sim_exi ?_
 refine exi_then ?_
 refine exi_loop ?_
 refine exi_here ?_
 exact nrm_cut (s := ()) y140v ⟨rfl, rfl, rfl, rfl, trivial⟩ (.sel 0 rfl (.sel 0 rfl (.sel 1 rfl (.sel 1 rfl (.sel 1 rfl (.sel 1 rfl (.nil _)))))))
 intro s137v y138v
 refine sim_seq (sim_region ?_)
 refine simL_val (q_move rfl rfl) rfl rfl rfl ?_
 refine simL_val (q_move rfl rfl) rfl rfl rfl ?_
 refine simL_cut' 4 (S := Bool) (HA) (fun s y => [(2, .pointer (some ⟨b1v, 0, none⟩)), (20, .pointer (some ⟨b123v, 0, none⟩)), (127, .bool s)]) (fun s y => [obj b123v 31 [.int .i64 s120v.1, .int .i64 s120v.2.1, .int .i64 s120v.2.2.1, .int .i64 s120v.2.2.2.1, .int .i64 s120v.2.2.2.2.1, .int .i64 s120v.2.2.2.2.2.1, .int .i64 s120v.2.2.2.2.2.2.1, .int .i64 s120v.2.2.2.2.2.2.2.1, .int .i64 s120v.2.2.2.2.2.2.2.2.1, .bool s120v.2.2.2.2.2.2.2.2.2.1, .slice y121v.1 s120v.2.2.2.2.2.2.2.2.2.2.1.length y121v.2.1, .int .i64 s120v.2.2.2.2.2.2.2.2.2.2.2.1, .int .i64 s120v.2.2.2.2.2.2.2.2.2.2.2.2.1, .slice y121v.2.2.2.1 s120v.2.2.2.2.2.2.2.2.2.2.2.2.2.1.length y121v.2.2.2.2], obj b1v 31 [.int .i64 x0_0, .int .i64 x0_1, .int .i64 x0_2, .int .i64 x0_3, .int .i64 x0_4, .int .i64 x0_5, .int .i64 x0_6, .int .i64 x0_7, .int .i64 x0_8, .bool x0_9, .slice a0_10 x0_10.length c0_10, .int .i64 x0_11, .int .i64 x0_12, .slice a0_13 x0_13.length c0_13], RowV 61 4 (V61 (y)) y121v.1 s120v.2.2.2.2.2.2.2.2.2.2.1 y121v.2.1, Row 5 1 y121v.2.2.2.1 s120v.2.2.2.2.2.2.2.2.2.2.2.2.2.1.length y121v.2.2.2.2 (encB s120v.2.2.2.2.2.2.2.2.2.2.2.2.2.1), y, F]) ?_ ?_
 refine simL_caseb (fun hb155v => ?_) (fun hb156v => ?_)
 rw [hb155v]
 refine simL_valg (q_move rfl rfl) rfl rfl rfl rfl rfl rfl ?_
 refine simL_bind (fun s152v hs154v => ?_)
 refine simL_effg (re_call (vs := [.int .i64 s120v.2.2.2.2.2.2.2.2.2.2.2.2.2.2]) (cap := []) (A := []) (rst := [obj b123v 31 [.int .i64 s120v.1, .int .i64 s120v.2.1, .int .i64 s120v.2.2.1, .int .i64 s120v.2.2.2.1, .int .i64 s120v.2.2.2.2.1, .int .i64 s120v.2.2.2.2.2.1, .int .i64 s120v.2.2.2.2.2.2.1, .int .i64 s120v.2.2.2.2.2.2.2.1, .int .i64 s120v.2.2.2.2.2.2.2.2.1, .bool s120v.2.2.2.2.2.2.2.2.2.1, .slice y121v.1 s120v.2.2.2.2.2.2.2.2.2.2.1.length y121v.2.1, .int .i64 s120v.2.2.2.2.2.2.2.2.2.2.2.1, .int .i64 s120v.2.2.2.2.2.2.2.2.2.2.2.2.1, .slice y121v.2.2.2.1 s120v.2.2.2.2.2.2.2.2.2.2.2.2.2.1.length y121v.2.2.2.2], obj b1v 31 [.int .i64 x0_0, .int .i64 x0_1, .int .i64 x0_2, .int .i64 x0_3, .int .i64 x0_4, .int .i64 x0_5, .int .i64 x0_6, .int .i64 x0_7, .int .i64 x0_8, .bool x0_9, .slice a0_10 x0_10.length c0_10, .int .i64 x0_11, .int .i64 x0_12, .slice a0_13 x0_13.length c0_13], RowV 61 4 (V61 (y138v)) y121v.1 s120v.2.2.2.2.2.2.2.2.2.2.1 y121v.2.1, Row 5 1 y121v.2.2.2.1 s120v.2.2.2.2.2.2.2.2.2.2.2.2.2.1.length y121v.2.2.2.2 (encB s120v.2.2.2.2.2.2.2.2.2.2.2.2.2.1), y138v, F]) rfl rfl rfl rfl rfl rfl Try.call26 (.sel 0 rfl (.sel 0 rfl (.sel 0 rfl (.sel 0 rfl (.sel 0 rfl (.sel 0 rfl (.nil _))))))) (synodref_Num.calls _ _ s120v.2.2.2.2.2.2.2.2.2.2.2.2.2.2 ) hs154v) rfl rfl rfl rfl rfl rfl ?_
 intro y153v
 refine simL_valg (q_eql rfl rfl rfl) rfl rfl rfl rfl rfl rfl ?_
 refine simL_val (q_pick rfl rfl rfl rfl rfl) rfl rfl rfl (simL_nil ?_)
 exact nrm_cut (s := decide (s152v = (0 : Int))) y138v ⟨rfl, rfl, rfl, trivial⟩ (.sel 0 rfl (.sel 0 rfl (.sel 0 rfl (.sel 0 rfl (.sel 0 rfl (.sel 0 rfl (.nil _)))))))
 rw [hb156v]
 refine simL_skipd rfl rfl rfl rfl rfl rfl ?_
 refine simL_skipd rfl rfl rfl rfl rfl rfl ?_
 refine simL_skipd rfl rfl rfl rfl rfl rfl ?_
 refine simL_val (q_pick rfl rfl rfl rfl rfl) rfl rfl rfl (simL_nil ?_)
 exact nrm_cut (s := false) y138v ⟨rfl, rfl, rfl, trivial⟩ (.sel 0 rfl (.sel 0 rfl (.sel 0 rfl (.sel 0 rfl (.sel 0 rfl (.sel 0 rfl (.nil _)))))))
 intro s150v y151v
 refine simL_val (q_move rfl rfl) rfl rfl rfl ?_
 refine simL_cut' 4 (S := Bool) (Unit) (fun s y => [(132, .bool s)]) (fun s y => [F]) ?_ ?_
 refine simL_caseb (fun hb172v => ?_) (fun hb173v => ?_)
 rw [hb172v]
 refine simL_valg (q_loado 0 rfl rfl Try.isAgg31 Try.sizeOf31 rfl rfl) rfl rfl rfl rfl rfl rfl ?_
 refine simL_valg (q_loado 1 rfl rfl Try.isAgg31 Try.sizeOf31 rfl rfl) rfl rfl rfl rfl rfl rfl ?_
 refine simL_openV 2 rfl (fun rs159v hl160v => ?_)
 refine simL_bind (fun s169v hs171v => ?_)
 refine simL_lend 2 rfl (fun hq161v hq162v hq163v hq164v => ?_)
 refine simL_lend 3 rfl (fun hq165v hq166v hq167v hq168v => ?_)
 refine simL_effg (re_call (vs := [.agg #[.int .i64 s120v.1, .int .i64 s120v.2.1, .int .i64 s120v.2.2.1, .int .i64 s120v.2.2.2.1, .int .i64 s120v.2.2.2.2.1, .int .i64 s120v.2.2.2.2.2.1, .int .i64 s120v.2.2.2.2.2.2.1, .int .i64 s120v.2.2.2.2.2.2.2.1, .int .i64 s120v.2.2.2.2.2.2.2.2.1, .bool s120v.2.2.2.2.2.2.2.2.2.1, .slice y121v.1 s120v.2.2.2.2.2.2.2.2.2.2.1.length y121v.2.1, .int .i64 s120v.2.2.2.2.2.2.2.2.2.2.2.1, .int .i64 s120v.2.2.2.2.2.2.2.2.2.2.2.2.1, .slice y121v.2.2.2.1 s120v.2.2.2.2.2.2.2.2.2.2.2.2.2.1.length y121v.2.2.2.2], .agg #[.int .i64 x0_0, .int .i64 x0_1, .int .i64 x0_2, .int .i64 x0_3, .int .i64 x0_4, .int .i64 x0_5, .int .i64 x0_6, .int .i64 x0_7, .int .i64 x0_8, .bool x0_9, .slice a0_10 x0_10.length c0_10, .int .i64 x0_11, .int .i64 x0_12, .slice a0_13 x0_13.length c0_13]]) (cap := []) (A := []) (rst := [obj b123v 31 [.int .i64 s120v.1, .int .i64 s120v.2.1, .int .i64 s120v.2.2.1, .int .i64 s120v.2.2.2.1, .int .i64 s120v.2.2.2.2.1, .int .i64 s120v.2.2.2.2.2.1, .int .i64 s120v.2.2.2.2.2.2.1, .int .i64 s120v.2.2.2.2.2.2.2.1, .int .i64 s120v.2.2.2.2.2.2.2.2.1, .bool s120v.2.2.2.2.2.2.2.2.2.1, .slice y121v.1 s120v.2.2.2.2.2.2.2.2.2.2.1.length y121v.2.1, .int .i64 s120v.2.2.2.2.2.2.2.2.2.2.2.1, .int .i64 s120v.2.2.2.2.2.2.2.2.2.2.2.2.1, .slice y121v.2.2.2.1 s120v.2.2.2.2.2.2.2.2.2.2.2.2.2.1.length y121v.2.2.2.2], obj b1v 31 [.int .i64 x0_0, .int .i64 x0_1, .int .i64 x0_2, .int .i64 x0_3, .int .i64 x0_4, .int .i64 x0_5, .int .i64 x0_6, .int .i64 x0_7, .int .i64 x0_8, .bool x0_9, .slice a0_10 x0_10.length c0_10, .int .i64 x0_11, .int .i64 x0_12, .slice a0_13 x0_13.length c0_13], Row 61 4 y121v.1 s120v.2.2.2.2.2.2.2.2.2.2.1.length y121v.2.1 rs159v.flatten, Row 5 1 y121v.2.2.2.1 s120v.2.2.2.2.2.2.2.2.2.2.2.2.2.1.length y121v.2.2.2.2 (encB s120v.2.2.2.2.2.2.2.2.2.2.2.2.2.1), y151v, F]) rfl rfl rfl rfl rfl rfl Try.call18 (.sel 0 rfl (.sel 0 rfl (.sel 0 rfl (.sel 0 rfl (.sel 0 rfl (.sel 0 rfl (.nil _))))))) (synodref_SameMessage.calls _ _ k s120v.1 s120v.2.1 s120v.2.2.1 s120v.2.2.2.1 s120v.2.2.2.2.1 s120v.2.2.2.2.2.1 s120v.2.2.2.2.2.2.1 s120v.2.2.2.2.2.2.2.1 s120v.2.2.2.2.2.2.2.2.1 s120v.2.2.2.2.2.2.2.2.2.1 y121v.1 y121v.2.1 s120v.2.2.2.2.2.2.2.2.2.2.1 s120v.2.2.2.2.2.2.2.2.2.2.2.1 s120v.2.2.2.2.2.2.2.2.2.2.2.2.1 y121v.2.2.2.1 y121v.2.2.2.2 s120v.2.2.2.2.2.2.2.2.2.2.2.2.2.1 x0_0 x0_1 x0_2 x0_3 x0_4 x0_5 x0_6 x0_7 x0_8 x0_9 a0_10 c0_10 x0_10 x0_11 x0_12 a0_13 c0_13 x0_13 ((Rd.asV hl160v hq161v).up (Up.lend 2 rfl) (V61.up (Up.lend 4 rfl))) hq162v hq163v (hq165v.lend 3 rfl) hq166v hq167v (h0_10.up (Up.lend 5 rfl) (V61.up (Up.lend 5 rfl))) hc0_10 hm0_10 (h0_13.lend 5 rfl) hc0_13 hm0_13) hs171v) rfl rfl rfl rfl rfl rfl ?_
 intro y170v
 refine simL_val (q_pick rfl rfl rfl rfl rfl) rfl rfl rfl (simL_nil ?_)
 exact nrm_cut (s := s169v) () ⟨rfl, trivial⟩ (.sel 5 rfl (.nil _))
 rw [hb173v]
 refine simL_skipd rfl rfl rfl rfl rfl rfl ?_
 refine simL_skipd rfl rfl rfl rfl rfl rfl ?_
 refine simL_skipd rfl rfl rfl rfl rfl rfl ?_
 refine simL_val (q_pick rfl rfl rfl rfl rfl) rfl rfl rfl (simL_nil ?_)
 exact nrm_cut (s := false) () ⟨rfl, trivial⟩ (.sel 5 rfl (.nil _))
 intro s157v y158v
 refine simL_val (q_asg rfl rfl) rfl rfl rfl (simL_nil (nrm_then (sim_rtn ?_)))
 exact rtn_fn () rfl rfl rfl (.sel 0 rfl (.nil _))
 refine sim_seq (sim_region ?_)
 refine simL_val (q_asg rfl rfl) rfl rfl rfl (simL_nil (nrm_then (sim_rtn ?_)))
 refine rtn_then ?_
 exact rtn_fn () rfl rfl rfl (.sel 3 rfl (.nil _))

def synodref3_CheckState.f (x0_0 : Int) (x0_1 : Int) (x0_2 : Int) : Option (Int) := (synodref3_within.f x0_0 (0 : Int) (4611686018427387904 : Int)).bind fun s2v => ((if (!s2v) = true then (some true) else ((synodref3_within.f x0_2 (0 : Int) (4611686018427387904 : Int)).bind fun s7v => (some (!s7v)))).bind fun s5v => ((if s5v = true then (some true) else ((synodref3_within.f x0_1 (0 : Int) (7 : Int)).bind fun s14v => (some (!s14v)))).bind fun s12v => (if s12v = true then (some 1) else (if ((!decide (x0_1 = (0 : Int))) && (decide (x0_0 = (0 : Int)))) = true then (some 4) else (some 0)))))
theorem synodref3_CheckState.calls (W : World) (F : HA) (x0_0 : Int) (x0_1 : Int) (x0_2 : Int)  :
    Fn Try.prog W 16 [.agg #[.int .i64 x0_0, .int .i64 x0_1, .int .i64 x0_2]] [] F (synodref3_CheckState.f x0_0 x0_1 x0_2) (fun (r : Int) (y : Unit) => .int .i64 r) (fun r y => []) := by
 unfold synodref3_CheckState.f
 refine fn_intro 27 Try.func16 rfl Try.ntmps16 rfl ?_
 refine sim_seq (sim_region ?_)
 refine simL_eff (re_box rfl rfl rfl) rfl rfl rfl ?_
 intro b1v
 refine simL_val (q_asg rfl rfl) rfl rfl rfl (simL_nil (nrm_then (sim_seq (sim_seq (sim_region ?_)))))
 refine simL_val (q_fa rfl rfl Try.underlying23 rfl rfl Try.sizeOf3 rfl) rfl rfl rfl ?_
 refine simL_val (q_load rfl rfl Try.isAgg3 (.obj 0 rfl rfl)) rfl rfl rfl ?_
 refine simL_bind (fun s2v hs4v => ?_)
 refine simL_eff (re_call (vs := [.int .i64 x0_0, .int .i64 0, .int .i64 4611686018427387904]) (cap := []) (A := []) (rst := [obj b1v 23 [.int .i64 x0_0, .int .i64 x0_1, .int .i64 x0_2], F]) rfl rfl rfl rfl rfl rfl Try.call69 (.sel 0 rfl (.sel 0 rfl (.nil _))) (synodref3_within.calls _ _ x0_0 (0 : Int) (4611686018427387904 : Int) ) hs4v) rfl rfl rfl ?_
 intro y3v
 refine simL_val (q_not rfl rfl) rfl rfl rfl ?_
 refine simL_val (q_move rfl rfl) rfl rfl rfl ?_
 refine simL_cut' 5 (S := Bool) (Unit) (fun s y => [(1, .pointer (some ⟨b1v, 0, none⟩)), (12, .bool s)]) (fun s y => [obj b1v 23 [.int .i64 x0_0, .int .i64 x0_1, .int .i64 x0_2], F]) ?_ ?_
 refine simL_caseb (fun hb10v => ?_) (fun hb11v => ?_)
 rw [hb10v]
 refine simL_skipd rfl rfl rfl rfl rfl rfl ?_
 refine simL_skipd rfl rfl rfl rfl rfl rfl ?_
 refine simL_skipd rfl rfl rfl rfl rfl rfl ?_
 refine simL_skipd rfl rfl rfl rfl rfl rfl ?_
 refine simL_val (q_pick rfl rfl rfl rfl rfl) rfl rfl rfl (simL_nil ?_)
 exact nrm_cut (s := true) () ⟨rfl, rfl, trivial⟩ (.sel 0 rfl (.sel 0 rfl (.nil _)))
 rw [hb11v]
 refine simL_valg (q_fa rfl rfl Try.underlying23 rfl rfl Try.sizeOf3 rfl) rfl rfl rfl rfl rfl rfl ?_
 refine simL_valg (q_load rfl rfl Try.isAgg3 (.obj 0 rfl rfl)) rfl rfl rfl rfl rfl rfl ?_
 refine simL_bind (fun s7v hs9v => ?_)
 refine simL_effg (re_call (vs := [.int .i64 x0_2, .int .i64 0, .int .i64 4611686018427387904]) (cap := []) (A := []) (rst := [obj b1v 23 [.int .i64 x0_0, .int .i64 x0_1, .int .i64 x0_2], F]) rfl rfl rfl rfl rfl rfl Try.call69 (.sel 0 rfl (.sel 0 rfl (.nil _))) (synodref3_within.calls _ _ x0_2 (0 : Int) (4611686018427387904 : Int) ) hs9v) rfl rfl rfl rfl rfl rfl ?_
 intro y8v
 refine simL_valg (q_not rfl rfl) rfl rfl rfl rfl rfl rfl ?_
 refine simL_val (q_pick rfl rfl rfl rfl rfl) rfl rfl rfl (simL_nil ?_)
 exact nrm_cut (s := !s7v) () ⟨rfl, rfl, trivial⟩ (.sel 0 rfl (.sel 0 rfl (.nil _)))
 intro s5v y6v
 refine simL_val (q_move rfl rfl) rfl rfl rfl ?_
 refine simL_cut' 5 (S := Bool) (Unit) (fun s y => [(1, .pointer (some ⟨b1v, 0, none⟩)), (18, .bool s)]) (fun s y => [obj b1v 23 [.int .i64 x0_0, .int .i64 x0_1, .int .i64 x0_2], F]) ?_ ?_
 refine simL_caseb (fun hb17v => ?_) (fun hb18v => ?_)
 rw [hb17v]
 refine simL_skipd rfl rfl rfl rfl rfl rfl ?_
 refine simL_skipd rfl rfl rfl rfl rfl rfl ?_
 refine simL_skipd rfl rfl rfl rfl rfl rfl ?_
 refine simL_skipd rfl rfl rfl rfl rfl rfl ?_
 refine simL_val (q_pick rfl rfl rfl rfl rfl) rfl rfl rfl (simL_nil ?_)
 exact nrm_cut (s := true) () ⟨rfl, rfl, trivial⟩ (.sel 0 rfl (.sel 0 rfl (.nil _)))
 rw [hb18v]
 refine simL_valg (q_fa rfl rfl Try.underlying23 rfl rfl Try.sizeOf3 rfl) rfl rfl rfl rfl rfl rfl ?_
 refine simL_valg (q_load rfl rfl Try.isAgg3 (.obj 0 rfl rfl)) rfl rfl rfl rfl rfl rfl ?_
 refine simL_bind (fun s14v hs16v => ?_)
 refine simL_effg (re_call (vs := [.int .i64 x0_1, .int .i64 0, .int .i64 7]) (cap := []) (A := []) (rst := [obj b1v 23 [.int .i64 x0_0, .int .i64 x0_1, .int .i64 x0_2], F]) rfl rfl rfl rfl rfl rfl Try.call69 (.sel 0 rfl (.sel 0 rfl (.nil _))) (synodref3_within.calls _ _ x0_1 (0 : Int) (7 : Int) ) hs16v) rfl rfl rfl rfl rfl rfl ?_
 intro y15v
 refine simL_valg (q_not rfl rfl) rfl rfl rfl rfl rfl rfl ?_
 refine simL_val (q_pick rfl rfl rfl rfl rfl) rfl rfl rfl (simL_nil ?_)
 exact nrm_cut (s := !s14v) () ⟨rfl, rfl, trivial⟩ (.sel 0 rfl (.sel 0 rfl (.nil _)))
 intro s12v y13v
 refine simL_nil (nrm_then ?_)
 refine sim_condb rfl (fun h19v => ?_) (fun h20v => ?_)
 refine sim_seq (sim_region ?_)
 refine simL_val (q_asg rfl rfl) rfl rfl rfl (simL_nil (nrm_then (sim_rtn ?_)))
 refine rtn_then ?_
 exact rtn_fn () rfl rfl rfl (.sel 1 rfl (.nil _))
 refine sim_skip ?_
 refine nrm_then (sim_seq (sim_seq (sim_region ?_)))
 refine simL_val (q_fa rfl rfl Try.underlying23 rfl rfl Try.sizeOf3 rfl) rfl rfl rfl ?_
 refine simL_val (q_load rfl rfl Try.isAgg3 (.obj 0 rfl rfl)) rfl rfl rfl ?_
 refine simL_val (q_neq rfl rfl rfl) rfl rfl rfl ?_
 refine simL_val (q_move rfl rfl) rfl rfl rfl ?_
 refine simL_valc (b := !decide (x0_1 = (0 : Int))) (fun hb25v => RQ.sub (E' := [(1, .pointer (some ⟨b1v, 0, none⟩))]) ⟨rfl, trivial⟩ (q_fa rfl rfl Try.underlying23 rfl rfl Try.sizeOf3 rfl)) rfl rfl rfl rfl rfl ?_
 refine simL_valc (b := !decide (x0_1 = (0 : Int))) (fun hb24v => RQ.sub (E' := [(23, .pointer (some ⟨b1v, 0, none⟩))]) ⟨lk_cv rfl hb24v, trivial⟩ (q_load rfl rfl Try.isAgg3 (.obj 0 rfl rfl))) rfl rfl rfl rfl rfl ?_
 refine simL_valc (b := !decide (x0_1 = (0 : Int))) (fun hb23v => RQ.sub (E' := [(24, .int .i64 x0_0)]) ⟨lk_cv rfl hb23v, trivial⟩ (q_eql rfl rfl rfl)) rfl rfl rfl rfl rfl ?_
 refine simL_val (q_and rfl rfl rfl) rfl rfl rfl (simL_nil (nrm_then ?_))
 refine sim_condb rfl (fun h21v => ?_) (fun h22v => ?_)
 refine sim_seq (sim_region ?_)
 refine simL_val (q_asg rfl rfl) rfl rfl rfl (simL_nil (nrm_then (sim_rtn ?_)))
 refine rtn_then ?_
 exact rtn_fn () rfl rfl rfl (.sel 1 rfl (.nil _))
 refine sim_skip ?_
 refine nrm_then (sim_seq (sim_region ?_))
 refine simL_val (q_asg rfl rfl) rfl rfl rfl (simL_nil (nrm_then (sim_rtn ?_)))
 exact rtn_fn () rfl rfl rfl (.sel 1 rfl (.nil _))
def synodref3_CheckState.v (x0_0 : Int) (x0_1 : Int) (x0_2 : Int) : Int := (synodref3_CheckState.f x0_0 x0_1 x0_2).getD 0
theorem synodref3_CheckState.tot (x0_0 : Int) (x0_1 : Int) (x0_2 : Int) : synodref3_CheckState.f x0_0 x0_1 x0_2 = some (synodref3_CheckState.v x0_0 x0_1 x0_2) := by
  have h : ∃ r, synodref3_CheckState.f x0_0 x0_1 x0_2 = some r := by
    unfold synodref3_CheckState.f
    repeat' (first | exact ⟨_, rfl⟩ | split | simp only [Option.bind_some, synodref3_within.tot])
  obtain ⟨r, h⟩ := h
  unfold synodref3_CheckState.v
  rw [h]; rfl

def synodref3_PutState.f (k : Nat) (x0_0 : Int) (x0_1 : Int) (x0_2 : Int) : Option (List UInt8 × Int) := (synodref3_CheckState.f x0_0 x0_1 x0_2).bind fun s2v => (if s2v = (0 : Int) then ((synodref1_Writer_Int.f k ([] : List UInt8) (0 : Int) x0_0).bind fun s8v => ((synodref1_Writer_Int.f k s8v.1 s8v.2 x0_1).bind fun s11v => ((synodref1_Writer_Int.f k s11v.1 s11v.2 x0_2).bind fun s14v => ((synodref1_Writer_Done_s_c0p0.f s14v.1 s14v.2).bind fun s17v => (some (s17v.1, s17v.2)))))) else (some (([] : List UInt8), s2v)))
theorem synodref3_PutState.calls (W : World) (F : HA) (k : Nat) (x0_0 : Int) (x0_1 : Int) (x0_2 : Int)  :
    Fn Try.prog W 24 [.agg #[.int .i64 x0_0, .int .i64 x0_1, .int .i64 x0_2]] [] F (synodref3_PutState.f k x0_0 x0_1 x0_2) (fun (r : List UInt8 × Int) (y : Option Addr × Nat) => .tuple #[.slice y.1 r.1.length y.2, .int .i64 r.2]) (fun r y => [Row 5 1 y.1 r.1.length y.2 (encB r.1)]) := by
 unfold synodref3_PutState.f
 refine fn_intro 29 Try.func24 rfl Try.ntmps24 rfl ?_
 refine sim_seq (sim_region ?_)
 refine simL_eff (re_box rfl rfl rfl) rfl rfl rfl ?_
 intro b1v
 refine simL_val (q_asg rfl rfl) rfl rfl rfl ?_
 refine simL_val (q_asg rfl rfl) rfl rfl rfl (simL_nil (nrm_then (sim_seq (sim_region ?_))))
 refine simL_val (q_loado 0 rfl rfl Try.isAgg23 Try.sizeOf23 rfl rfl) rfl rfl rfl ?_
 refine simL_bind (fun s2v hs4v => ?_)
 refine simL_eff (re_call (vs := [.agg #[.int .i64 x0_0, .int .i64 x0_1, .int .i64 x0_2]]) (cap := []) (A := []) (rst := [obj b1v 23 [.int .i64 x0_0, .int .i64 x0_1, .int .i64 x0_2], F]) rfl rfl rfl rfl rfl rfl Try.call16 (.sel 0 rfl (.sel 0 rfl (.nil _))) (synodref3_CheckState.calls _ _ x0_0 x0_1 x0_2 ) hs4v) rfl rfl rfl ?_
 intro y3v
 refine simL_val (q_asg rfl rfl) rfl rfl rfl (simL_nil (nrm_then (sim_seq (sim_seq (sim_region ?_)))))
 refine simL_val (q_move rfl rfl) rfl rfl rfl ?_
 refine simL_val (q_neq rfl rfl rfl) rfl rfl rfl (simL_nil (nrm_then ?_))
 refine sim_condn rfl (fun h5v => ?_) (fun h6v => ?_)
 refine sim_skip ?_
 refine nrm_then (sim_seq (sim_region ?_))
 refine simL_val (q_build (v := .agg #[.slice none 0 0, .int .i64 0]) rfl rfl (fun _ => by kernel_rfl)) rfl rfl rfl ?_
 refine simL_eff (re_box rfl rfl rfl) rfl rfl rfl ?_
 intro b7v
 refine simL_val (q_asg rfl rfl) rfl rfl rfl (simL_nil (nrm_then (sim_seq (sim_region ?_))))
 refine simL_val (q_move rfl rfl) rfl rfl rfl ?_
 refine simL_val (q_fa rfl rfl Try.underlying23 rfl rfl Try.sizeOf3 rfl) rfl rfl rfl ?_
 refine simL_val (q_load rfl rfl Try.isAgg3 (.obj 1 rfl rfl)) rfl rfl rfl ?_
 refine simL_bind (fun s8v hs10v => ?_)
 refine simL_eff (re_call (vs := [.pointer (some ⟨b7v, 0, none⟩), .int .i64 x0_0]) (cap := []) (A := [obj b7v 143 [.slice none 0 0, .int .i64 0], Row 5 1 none ([] : List UInt8).length 0 (encB ([] : List UInt8))]) (rst := [obj b1v 23 [.int .i64 x0_0, .int .i64 x0_1, .int .i64 x0_2], F]) rfl rfl rfl rfl rfl rfl Try.call79 (.sel 0 rfl (.row_nil (.sel 0 rfl (.sel 0 rfl (.nil _))))) (synodref1_Writer_Int.calls _ _ k b7v none 0 ([] : List UInt8) (0 : Int) x0_0 ) hs10v) rfl rfl rfl ?_
 intro y9v
 refine simL_nil (nrm_then (sim_seq (sim_region ?_)))
 refine simL_val (q_move rfl rfl) rfl rfl rfl ?_
 refine simL_val (q_fa rfl rfl Try.underlying23 rfl rfl Try.sizeOf3 rfl) rfl rfl rfl ?_
 refine simL_val (q_load rfl rfl Try.isAgg3 (.obj 2 rfl rfl)) rfl rfl rfl ?_
 refine simL_bind (fun s11v hs13v => ?_)
 refine simL_eff (re_call (vs := [.pointer (some ⟨b7v, 0, none⟩), .int .i64 x0_1]) (cap := []) (A := [obj b7v 143 [.slice y9v.1 s8v.1.length y9v.2, .int .i64 s8v.2], Row 5 1 y9v.1 s8v.1.length y9v.2 (encB s8v.1)]) (rst := [obj b1v 23 [.int .i64 x0_0, .int .i64 x0_1, .int .i64 x0_2], F]) rfl rfl rfl rfl rfl rfl Try.call79 (.sel 0 rfl (.sel 0 rfl (.sel 0 rfl (.sel 0 rfl (.nil _))))) (synodref1_Writer_Int.calls _ _ k b7v y9v.1 y9v.2 s8v.1 s8v.2 x0_1 ) hs13v) rfl rfl rfl ?_
 intro y12v
 refine simL_nil (nrm_then (sim_seq (sim_region ?_)))
 refine simL_val (q_move rfl rfl) rfl rfl rfl ?_
 refine simL_val (q_fa rfl rfl Try.underlying23 rfl rfl Try.sizeOf3 rfl) rfl rfl rfl ?_
 refine simL_val (q_load rfl rfl Try.isAgg3 (.obj 2 rfl rfl)) rfl rfl rfl ?_
 refine simL_bind (fun s14v hs16v => ?_)
 refine simL_eff (re_call (vs := [.pointer (some ⟨b7v, 0, none⟩), .int .i64 x0_2]) (cap := []) (A := [obj b7v 143 [.slice y12v.1 s11v.1.length y12v.2, .int .i64 s11v.2], Row 5 1 y12v.1 s11v.1.length y12v.2 (encB s11v.1)]) (rst := [obj b1v 23 [.int .i64 x0_0, .int .i64 x0_1, .int .i64 x0_2], F]) rfl rfl rfl rfl rfl rfl Try.call79 (.sel 0 rfl (.sel 0 rfl (.sel 0 rfl (.sel 0 rfl (.nil _))))) (synodref1_Writer_Int.calls _ _ k b7v y12v.1 y12v.2 s11v.1 s11v.2 x0_2 ) hs16v) rfl rfl rfl ?_
 intro y15v
 refine simL_nil (nrm_then (sim_seq (sim_region ?_)))
 refine simL_val (q_move rfl rfl) rfl rfl rfl ?_
 refine simL_bind (fun s17v hs19v => ?_)
 refine simL_eff (re_call (vs := [.pointer (some ⟨b7v, 0, none⟩)]) (cap := []) (A := [obj b7v 143 [.slice y15v.1 s14v.1.length y15v.2, .int .i64 s14v.2], Row 5 1 y15v.1 s14v.1.length y15v.2 (encB s14v.1)]) (rst := [obj b1v 23 [.int .i64 x0_0, .int .i64 x0_1, .int .i64 x0_2], F]) rfl rfl rfl rfl rfl rfl Try.call80 (.sel 0 rfl (.sel 0 rfl (.sel 0 rfl (.sel 0 rfl (.nil _))))) (synodref1_Writer_Done_s_c0p0.calls _ _ b7v y15v.1 y15v.2 s14v.1 s14v.2 ) hs19v) rfl rfl rfl ?_
 intro y18v
 refine simL_val (q_ext rfl rfl rfl) rfl rfl rfl ?_
 refine simL_val (q_ext rfl rfl rfl) rfl rfl rfl ?_
 refine simL_val (q_asg rfl rfl) rfl rfl rfl ?_
 refine simL_val (q_asg rfl rfl) rfl rfl rfl (simL_nil (nrm_then (sim_rtn ?_)))
 exact rtn_fn (y18v.1, y18v.2) rfl rfl rfl (.sel 0 rfl (.sel 1 rfl (.nil _)))
 refine sim_seq (sim_region ?_)
 refine simL_val (q_move rfl rfl) rfl rfl rfl ?_
 refine simL_val (q_asg rfl rfl) rfl rfl rfl ?_
 refine simL_val (q_asg rfl rfl) rfl rfl rfl (simL_nil (nrm_then (sim_rtn ?_)))
 refine rtn_then ?_
 exact rtn_fn (none, 0) rfl rfl rfl (.row_nil (.sel 1 rfl (.nil _)))

def synodref3_GetState.f (k : Nat) (x0 : List UInt8) : Option (Int × Int × Int × Int) := (synodref1_Reader_Int.f k x0 (0 : Int) (0 : Int)).bind fun s3v => ((synodref1_Reader_Int.f k x0 s3v.2.1 s3v.2.2).bind fun s6v => ((synodref1_Reader_Int.f k x0 s6v.2.1 s6v.2.2).bind fun s9v => ((synodref1_Reader_Done.f x0 s9v.2.1 s9v.2.2).bind fun s13v => ((if s13v = (0 : Int) then ((synodref3_CheckState.f s3v.1 s6v.1 s9v.1).bind fun s20v => (some s20v)) else (some s13v)).bind fun s16v => (if s16v = (0 : Int) then (some (s3v.1, s6v.1, s9v.1, s16v)) else (some (0, 0, 0, s16v)))))))
theorem synodref3_GetState.calls (W : World) (F : HA) (k : Nat) (a0 : Option Addr) (c0 : Nat) (x0 : List UInt8) (h0 : Rd F a0 (encB x0)) (hc0 : x0.length ≤ c0) (hm0 : c0 ≤ maxLen) :
    Fn Try.prog W 30 [.slice a0 x0.length c0] [] F (synodref3_GetState.f k x0) (fun (r : Int × Int × Int × Int) (y : Unit) => .tuple #[.agg #[.int .i64 r.1, .int .i64 r.2.1, .int .i64 r.2.2.1], .int .i64 r.2.2.2]) (fun r y => []) := by
 unfold synodref3_GetState.f
 refine fn_intro 29 Try.func30 rfl Try.ntmps30 rfl ?_
 refine sim_seq (sim_region ?_)
 refine simL_eff (re_alloc rfl Try.zeroValue23 rfl) rfl rfl rfl ?_
 intro b1v
 refine simL_val (q_asg rfl rfl) rfl rfl rfl (simL_nil (nrm_then (sim_seq (sim_region ?_))))
 refine simL_val (q_move rfl rfl) rfl rfl rfl ?_
 refine simL_val (q_build (v := .agg #[.slice a0 x0.length c0, .int .i64 0, .int .i64 0]) rfl rfl (fun _ => by kernel_rfl)) rfl rfl rfl ?_
 refine simL_eff (re_box rfl rfl rfl) rfl rfl rfl ?_
 intro b2v
 refine simL_val (q_asg rfl rfl) rfl rfl rfl (simL_nil (nrm_then (sim_seq (sim_region ?_))))
 refine simL_val (q_move rfl rfl) rfl rfl rfl ?_
 refine simL_bind (fun s3v hs5v => ?_)
 refine simL_eff (re_call (vs := [.pointer (some ⟨b2v, 0, none⟩)]) (cap := []) (A := [obj b2v 152 [.slice a0 x0.length c0, .int .i64 0, .int .i64 0]]) (rst := [obj b1v 23 [.int .i64 0, .int .i64 0, .int .i64 0], F]) rfl rfl rfl rfl rfl rfl Try.call85 (.sel 0 rfl (.sel 0 rfl (.sel 0 rfl (.nil _)))) (synodref1_Reader_Int.calls _ _ k b2v a0 c0 x0 (0 : Int) (0 : Int) (h0.lend 1 rfl) hc0 hm0) hs5v) rfl rfl rfl ?_
 intro y4v
 refine simL_val (q_move rfl rfl) rfl rfl rfl ?_
 refine simL_bind (fun s6v hs8v => ?_)
 refine simL_eff (re_call (vs := [.pointer (some ⟨b2v, 0, none⟩)]) (cap := []) (A := [obj b2v 152 [.slice a0 x0.length c0, .int .i64 s3v.2.1, .int .i64 s3v.2.2]]) (rst := [obj b1v 23 [.int .i64 0, .int .i64 0, .int .i64 0], F]) rfl rfl rfl rfl rfl rfl Try.call85 (.sel 0 rfl (.sel 0 rfl (.sel 0 rfl (.nil _)))) (synodref1_Reader_Int.calls _ _ k b2v a0 c0 x0 s3v.2.1 s3v.2.2 (h0.lend 1 rfl) hc0 hm0) hs8v) rfl rfl rfl ?_
 intro y7v
 refine simL_val (q_move rfl rfl) rfl rfl rfl ?_
 refine simL_bind (fun s9v hs11v => ?_)
 refine simL_eff (re_call (vs := [.pointer (some ⟨b2v, 0, none⟩)]) (cap := []) (A := [obj b2v 152 [.slice a0 x0.length c0, .int .i64 s6v.2.1, .int .i64 s6v.2.2]]) (rst := [obj b1v 23 [.int .i64 0, .int .i64 0, .int .i64 0], F]) rfl rfl rfl rfl rfl rfl Try.call85 (.sel 0 rfl (.sel 0 rfl (.sel 0 rfl (.nil _)))) (synodref1_Reader_Int.calls _ _ k b2v a0 c0 x0 s6v.2.1 s6v.2.2 (h0.lend 1 rfl) hc0 hm0) hs11v) rfl rfl rfl ?_
 intro y10v
 refine simL_val (q_build (v := .agg #[.int .i64 s3v.1, .int .i64 s6v.1, .int .i64 s9v.1]) rfl rfl (fun _ => by kernel_rfl)) rfl rfl rfl ?_
 refine simL_eff (re_alloc rfl Try.zeroValue23 rfl) rfl rfl rfl ?_
 intro b12v
 refine simL_do (re_store 0 rfl rfl rfl Try.sizeOf23 rfl rfl (one_of (by rfl)) rfl rfl) rfl rfl ?_
 intro _
 refine simL_nil (nrm_then (sim_seq (sim_region ?_)))
 refine simL_val (q_move rfl rfl) rfl rfl rfl ?_
 refine simL_bind (fun s13v hs15v => ?_)
 refine simL_eff (re_call (vs := [.pointer (some ⟨b2v, 0, none⟩)]) (cap := []) (A := [obj b2v 152 [.slice a0 x0.length c0, .int .i64 s9v.2.1, .int .i64 s9v.2.2]]) (rst := [obj b12v 23 [.int .i64 s3v.1, .int .i64 s6v.1, .int .i64 s9v.1], obj b1v 23 [.int .i64 0, .int .i64 0, .int .i64 0], F]) rfl rfl rfl rfl rfl rfl Try.call86 (.sel 1 rfl (.sel 0 rfl (.sel 0 rfl (.sel 0 rfl (.nil _))))) (synodref1_Reader_Done.calls _ _ b2v a0 c0 x0 s9v.2.1 s9v.2.2 (h0.lend 2 rfl) hc0 hm0) hs15v) rfl rfl rfl ?_
 intro y14v
 refine simL_val (q_asg rfl rfl) rfl rfl rfl (simL_nil (nrm_then ?_))
 refine sim_cut (S := Int) (Unit) (fun s y => [(2, .pointer (some ⟨b1v, 0, none⟩)), (5, .pointer (some ⟨b12v, 0, none⟩)), (6, .int .i64 s)]) (fun s y => [obj b12v 23 [.int .i64 s3v.1, .int .i64 s6v.1, .int .i64 s9v.1], obj b1v 23 [.int .i64 0, .int .i64 0, .int .i64 0], F]) ?_ ?_
 refine sim_seq (sim_region ?_)
 refine simL_val (q_move rfl rfl) rfl rfl rfl ?_
 refine simL_val (q_eql rfl rfl rfl) rfl rfl rfl (simL_nil (nrm_then ?_))
 refine sim_cond rfl (fun h18v => ?_) (fun h19v => ?_)
 refine sim_region ?_
 refine simL_val (q_loado 1 rfl rfl Try.isAgg23 Try.sizeOf23 rfl rfl) rfl rfl rfl ?_
 refine simL_bind (fun s20v hs22v => ?_)
 refine simL_eff (re_call (vs := [.agg #[.int .i64 s3v.1, .int .i64 s6v.1, .int .i64 s9v.1]]) (cap := []) (A := []) (rst := [obj b2v 152 [.slice a0 x0.length c0, .int .i64 s9v.2.1, .int .i64 s9v.2.2], obj b12v 23 [.int .i64 s3v.1, .int .i64 s6v.1, .int .i64 s9v.1], obj b1v 23 [.int .i64 0, .int .i64 0, .int .i64 0], F]) rfl rfl rfl rfl rfl rfl Try.call16 (.sel 0 rfl (.sel 0 rfl (.sel 0 rfl (.sel 0 rfl (.nil _))))) (synodref3_CheckState.calls _ _ s3v.1 s6v.1 s9v.1 ) hs22v) rfl rfl rfl ?_
 intro y21v
 refine simL_val (q_asg rfl rfl) rfl rfl rfl (simL_nil ?_)
 exact nrm_cut (s := s20v) () ⟨rfl, rfl, rfl, trivial⟩ (.sel 1 rfl (.sel 1 rfl (.sel 1 rfl (.nil _))))
 refine sim_skip ?_
 exact nrm_cut (s := s13v) () ⟨rfl, rfl, rfl, trivial⟩ (.sel 1 rfl (.sel 1 rfl (.sel 1 rfl (.nil _))))
 intro s16v y17v
 refine sim_seq (sim_seq (sim_region ?_))
 refine simL_val (q_move rfl rfl) rfl rfl rfl ?_
 refine simL_val (q_neq rfl rfl rfl) rfl rfl rfl (simL_nil (nrm_then ?_))
 refine sim_condn rfl (fun h23v => ?_) (fun h24v => ?_)
 refine sim_skip ?_
 refine nrm_then (sim_seq (sim_region ?_))
 refine simL_val (q_loado 0 rfl rfl Try.isAgg23 Try.sizeOf23 rfl rfl) rfl rfl rfl ?_
 refine simL_val (q_move rfl rfl) rfl rfl rfl ?_
 refine simL_do (re_store 1 rfl rfl rfl Try.sizeOf23 rfl rfl (one_of (by rfl)) rfl rfl) rfl rfl ?_
 intro _
 refine simL_val (q_asg rfl rfl) rfl rfl rfl (simL_nil (nrm_then (sim_rtn ?_)))
 exact rtn_fnC (vs := [.agg #[.int .i64 s3v.1, .int .i64 s6v.1, .int .i64 s9v.1], .int .i64 s16v]) () rfl ⟨⟨b1v, rfl, load_agg 1 Try.isAgg23 Try.sizeOf23 rfl rfl⟩, rfl, trivial⟩ rfl (.sel 2 rfl (.nil _))
 refine sim_seq (sim_region ?_)
 refine simL_val (q_build (v := .agg #[.int .i64 0, .int .i64 0, .int .i64 0]) rfl rfl (fun _ => by kernel_rfl)) rfl rfl rfl ?_
 refine simL_val (q_move rfl rfl) rfl rfl rfl ?_
 refine simL_do (re_store 1 rfl rfl rfl Try.sizeOf23 rfl rfl (one_of (by rfl)) rfl rfl) rfl rfl ?_
 intro _
 refine simL_val (q_asg rfl rfl) rfl rfl rfl (simL_nil (nrm_then (sim_rtn ?_)))
 refine rtn_then ?_
 exact rtn_fnC (vs := [.agg #[.int .i64 0, .int .i64 0, .int .i64 0], .int .i64 s16v]) () rfl ⟨⟨b1v, rfl, load_agg 1 Try.isAgg23 Try.sizeOf23 rfl rfl⟩, rfl, trivial⟩ rfl (.sel 2 rfl (.nil _))

def codec_last_State_States.f (xp0_0 : List UInt8) (xp0_1 : Int) (xp0_2 : Int) (x2_0 : Int) (x2_1 : Int) (x2_2 : Int) : Option (Int × Int × Int × Int) := (wire_Reader_Done.f xp0_0 xp0_1 xp0_2).bind fun s3v => ((if s3v = (0 : Int) then ((codec_States_Check.f x2_0 x2_1 x2_2).bind fun s10v => (some s10v)) else (some s3v)).bind fun s6v => (if s6v = (0 : Int) then (some (x2_0, x2_1, x2_2, 0)) else (some (0, 0, 0, s6v))))
theorem codec_last_State_States.calls (W : World) (F : HA) (bp0 : Nat) (ap0_0 : Option Addr) (cp0_0 : Nat) (xp0_0 : List UInt8) (xp0_1 : Int) (xp0_2 : Int) (x2_0 : Int) (x2_1 : Int) (x2_2 : Int) (hp0_0 : Rd F ap0_0 (encB xp0_0)) (hcp0_0 : xp0_0.length ≤ cp0_0) (hmp0_0 : cp0_0 ≤ maxLen) :
    Fn Try.prog W 84 [.pointer (some ⟨bp0, 0, none⟩), .iface 40 (.agg #[]), .agg #[.int .i64 x2_0, .int .i64 x2_1, .int .i64 x2_2]] [obj bp0 194 [.slice ap0_0 xp0_0.length cp0_0, .int .i64 xp0_1, .int .i64 xp0_2]] F (codec_last_State_States.f xp0_0 xp0_1 xp0_2 x2_0 x2_1 x2_2) (fun (r : Int × Int × Int × Int) (y : Unit) => .tuple #[.agg #[.int .i64 r.1, .int .i64 r.2.1, .int .i64 r.2.2.1], .int .i64 r.2.2.2]) (fun r y => [obj bp0 194 [.slice ap0_0 xp0_0.length cp0_0, .int .i64 xp0_1, .int .i64 xp0_2]]) := by
 unfold codec_last_State_States.f
 refine fn_intro 22 Try.func84 rfl Try.ntmps84 rfl ?_
 refine sim_seq (sim_region ?_)
 refine simL_eff (re_box rfl rfl rfl) rfl rfl rfl ?_
 intro b1v
 refine simL_eff (re_alloc rfl Try.zeroValue23 rfl) rfl rfl rfl ?_
 intro b2v
 refine simL_val (q_asg rfl rfl) rfl rfl rfl (simL_nil (nrm_then (sim_seq (sim_region ?_))))
 refine simL_val (q_move rfl rfl) rfl rfl rfl ?_
 refine simL_bind (fun s3v hs5v => ?_)
 refine simL_eff (re_call (vs := [.pointer (some ⟨bp0, 0, none⟩)]) (cap := []) (A := [obj bp0 194 [.slice ap0_0 xp0_0.length cp0_0, .int .i64 xp0_1, .int .i64 xp0_2]]) (rst := [obj b2v 23 [.int .i64 0, .int .i64 0, .int .i64 0], obj b1v 23 [.int .i64 x2_0, .int .i64 x2_1, .int .i64 x2_2], F]) rfl rfl rfl rfl rfl rfl Try.call124 (.sel 2 rfl (.sel 0 rfl (.sel 0 rfl (.sel 0 rfl (.nil _))))) (wire_Reader_Done.calls _ _ bp0 ap0_0 cp0_0 xp0_0 xp0_1 xp0_2 (hp0_0.lend 2 rfl) hcp0_0 hmp0_0) hs5v) rfl rfl rfl ?_
 intro y4v
 refine simL_val (q_asg rfl rfl) rfl rfl rfl (simL_nil (nrm_then ?_))
 refine sim_cut (S := Int) (Unit) (fun s y => [(5, .pointer (some ⟨b1v, 0, none⟩)), (6, .pointer (some ⟨b2v, 0, none⟩)), (8, .int .i64 s)]) (fun s y => [obj bp0 194 [.slice ap0_0 xp0_0.length cp0_0, .int .i64 xp0_1, .int .i64 xp0_2], obj b2v 23 [.int .i64 0, .int .i64 0, .int .i64 0], obj b1v 23 [.int .i64 x2_0, .int .i64 x2_1, .int .i64 x2_2], F]) ?_ ?_
 refine sim_seq (sim_region ?_)
 refine simL_val (q_move rfl rfl) rfl rfl rfl ?_
 refine simL_val (q_eql rfl rfl rfl) rfl rfl rfl (simL_nil (nrm_then ?_))
 refine sim_cond rfl (fun h8v => ?_) (fun h9v => ?_)
 refine sim_region ?_
 refine simL_val (q_move rfl rfl) rfl rfl rfl ?_
 refine simL_val (q_loado 2 rfl rfl Try.isAgg23 Try.sizeOf23 rfl rfl) rfl rfl rfl ?_
 refine simL_bind (fun s10v hs12v => ?_)
 refine simL_eff (re_invoke (vs := [.agg #[.int .i64 x2_0, .int .i64 x2_1, .int .i64 x2_2]]) (A := []) (rst := [obj bp0 194 [.slice ap0_0 xp0_0.length cp0_0, .int .i64 xp0_1, .int .i64 xp0_2], obj b2v 23 [.int .i64 0, .int .i64 0, .int .i64 0], obj b1v 23 [.int .i64 x2_0, .int .i64 x2_1, .int .i64 x2_2], F]) rfl rfl rfl rfl rfl (fun _ => by kernel_rfl) Try.call27 (.sel 0 rfl (.sel 0 rfl (.sel 0 rfl (.sel 0 rfl (.nil _))))) (codec_States_Check.calls _ _ x2_0 x2_1 x2_2 ) hs12v) rfl rfl rfl ?_
 intro y11v
 refine simL_val (q_asg rfl rfl) rfl rfl rfl (simL_nil ?_)
 exact nrm_cut (s := s10v) () ⟨rfl, rfl, rfl, trivial⟩ (.sel 0 rfl (.sel 0 rfl (.sel 0 rfl (.sel 0 rfl (.nil _)))))
 refine sim_skip ?_
 exact nrm_cut (s := s3v) () ⟨rfl, rfl, rfl, trivial⟩ (.sel 0 rfl (.sel 0 rfl (.sel 0 rfl (.sel 0 rfl (.nil _)))))
 intro s6v y7v
 refine sim_seq (sim_seq (sim_region ?_))
 refine simL_val (q_move rfl rfl) rfl rfl rfl ?_
 refine simL_val (q_neq rfl rfl rfl) rfl rfl rfl (simL_nil (nrm_then ?_))
 refine sim_condn rfl (fun h13v => ?_) (fun h14v => ?_)
 refine sim_skip ?_
 refine nrm_then (sim_seq (sim_region ?_))
 refine simL_val (q_loado 2 rfl rfl Try.isAgg23 Try.sizeOf23 rfl rfl) rfl rfl rfl ?_
 refine simL_do (re_store 1 rfl rfl rfl Try.sizeOf23 rfl rfl (one_of (by rfl)) rfl rfl) rfl rfl ?_
 intro _
 refine simL_val (q_asg rfl rfl) rfl rfl rfl (simL_nil (nrm_then (sim_rtn ?_)))
 exact rtn_fnC (vs := [.agg #[.int .i64 x2_0, .int .i64 x2_1, .int .i64 x2_2], .int .i64 0]) () rfl ⟨⟨b2v, rfl, load_agg 1 Try.isAgg23 Try.sizeOf23 rfl rfl⟩, rfl, trivial⟩ rfl (.sel 0 rfl (.sel 2 rfl (.nil _)))
 refine sim_seq (sim_region ?_)
 refine simL_eff (re_alloc rfl Try.zeroValue23 rfl) rfl rfl rfl ?_
 intro b15v
 refine simL_nil (nrm_then (sim_seq (sim_region ?_)))
 refine simL_val (q_loado 0 rfl rfl Try.isAgg23 Try.sizeOf23 rfl rfl) rfl rfl rfl ?_
 refine simL_val (q_move rfl rfl) rfl rfl rfl ?_
 refine simL_do (re_store 2 rfl rfl rfl Try.sizeOf23 rfl rfl (one_of (by rfl)) rfl rfl) rfl rfl ?_
 intro _
 refine simL_val (q_asg rfl rfl) rfl rfl rfl (simL_nil (nrm_then (sim_rtn ?_)))
 refine rtn_then ?_
 exact rtn_fnC (vs := [.agg #[.int .i64 0, .int .i64 0, .int .i64 0], .int .i64 s6v]) () rfl ⟨⟨b2v, rfl, load_agg 2 Try.isAgg23 Try.sizeOf23 rfl rfl⟩, rfl, trivial⟩ rfl (.sel 1 rfl (.sel 3 rfl (.nil _)))
def codec_last_State_States.v (xp0_0 : List UInt8) (xp0_1 : Int) (xp0_2 : Int) (x2_0 : Int) (x2_1 : Int) (x2_2 : Int) : Int × Int × Int × Int := (codec_last_State_States.f xp0_0 xp0_1 xp0_2 x2_0 x2_1 x2_2).getD (0, 0, 0, 0)
theorem codec_last_State_States.tot (xp0_0 : List UInt8) (xp0_1 : Int) (xp0_2 : Int) (x2_0 : Int) (x2_1 : Int) (x2_2 : Int) : codec_last_State_States.f xp0_0 xp0_1 xp0_2 x2_0 x2_1 x2_2 = some (codec_last_State_States.v xp0_0 xp0_1 xp0_2 x2_0 x2_1 x2_2) := by
  have h : ∃ r, codec_last_State_States.f xp0_0 xp0_1 xp0_2 x2_0 x2_1 x2_2 = some r := by
    unfold codec_last_State_States.f
    repeat' (first | exact ⟨_, rfl⟩ | split | simp only [Option.bind_some, wire_Reader_Done.tot, codec_States_Check.tot])
  obtain ⟨r, h⟩ := h
  unfold codec_last_State_States.v
  rw [h]; rfl

def codec_States_Get.f (k : Nat) (x1 : List UInt8) : Option (Int × Int × Int × Int) := (wire_NewReader.f x1).bind fun s3v => ((wire_Reader_Int.f k s3v.1 s3v.2.1 s3v.2.2).bind fun s10v => ((wire_Reader_Int.f k s3v.1 s10v.2.1 s10v.2.2).bind fun s17v => ((wire_Reader_Int.f k s3v.1 s17v.2.1 s17v.2.2).bind fun s24v => ((codec_last_State_States.f s3v.1 s24v.2.1 s24v.2.2 s10v.1 s17v.1 s24v.1).bind fun s32v => (some (s32v.1, s32v.2.1, s32v.2.2.1, s32v.2.2.2))))))
theorem codec_States_Get.calls (W : World) (F : HA) (k : Nat) (a1 : Option Addr) (c1 : Nat) (x1 : List UInt8) (h1 : Rd F a1 (encB x1)) (hc1 : x1.length ≤ c1) (hm1 : c1 ≤ maxLen) :
    Fn Try.prog W 29 [.agg #[], .slice a1 x1.length c1] [] F (codec_States_Get.f k x1) (fun (r : Int × Int × Int × Int) (y : Unit) => .tuple #[.agg #[.int .i64 r.1, .int .i64 r.2.1, .int .i64 r.2.2.1], .int .i64 r.2.2.2]) (fun r y => []) := by
 unfold codec_States_Get.f
 refine fn_intro 24 Try.func29 rfl Try.ntmps29 rfl ?_
 refine sim_seq (sim_region ?_)
 refine simL_eff (re_box rfl rfl rfl) rfl rfl rfl ?_
 intro b1v
 refine simL_eff (re_alloc rfl Try.zeroValue23 rfl) rfl rfl rfl ?_
 intro b2v
 refine simL_val (q_asg rfl rfl) rfl rfl rfl (simL_nil (nrm_then (sim_seq (sim_region ?_))))
 refine simL_val (q_move rfl rfl) rfl rfl rfl ?_
 refine simL_bind (fun s3v hs5v => ?_)
 refine simL_eff (re_call (vs := [.slice a1 x1.length c1]) (cap := []) (A := []) (rst := [obj b2v 23 [.int .i64 0, .int .i64 0, .int .i64 0], obj b1v 40 [], F]) rfl rfl rfl rfl rfl rfl Try.call82 (.sel 0 rfl (.sel 0 rfl (.sel 0 rfl (.nil _)))) (wire_NewReader.calls _ _ a1 c1 x1 (h1.lend 2 rfl) hc1 hm1) hs5v) rfl rfl rfl ?_
 intro y4v
 refine simL_val (q_asg rfl rfl) rfl rfl rfl (simL_nil (nrm_then (sim_seq (sim_region ?_))))
 refine simL_val (q_move rfl rfl) rfl rfl rfl ?_
 refine simL_bind (fun s10v hs12v => ?_)
 refine simL_lend 1 rfl (fun hq6v hq7v hq8v hq9v => ?_)
 refine simL_eff (re_call (vs := [.pointer (some ⟨y4v.1, 0, none⟩)]) (cap := []) (A := [obj y4v.1 194 [.slice y4v.2.1 s3v.1.length y4v.2.2, .int .i64 s3v.2.1, .int .i64 s3v.2.2]]) (rst := [Row 5 1 y4v.2.1 s3v.1.length y4v.2.2 (encB s3v.1), obj b2v 23 [.int .i64 0, .int .i64 0, .int .i64 0], obj b1v 40 [], F]) rfl rfl rfl rfl rfl rfl Try.call83 (.sel 0 rfl (.sel 0 rfl (.sel 0 rfl (.sel 0 rfl (.sel 0 rfl (.nil _)))))) (wire_Reader_Int.calls _ _ k y4v.1 y4v.2.1 y4v.2.2 s3v.1 s3v.2.1 s3v.2.2 (hq6v.lend 0 rfl) hq7v hq8v) hs12v) rfl rfl rfl ?_
 intro y11v
 refine simL_val (q_move rfl rfl) rfl rfl rfl ?_
 refine simL_bind (fun s17v hs19v => ?_)
 refine simL_lend 1 rfl (fun hq13v hq14v hq15v hq16v => ?_)
 refine simL_eff (re_call (vs := [.pointer (some ⟨y4v.1, 0, none⟩)]) (cap := []) (A := [obj y4v.1 194 [.slice y4v.2.1 s3v.1.length y4v.2.2, .int .i64 s10v.2.1, .int .i64 s10v.2.2]]) (rst := [Row 5 1 y4v.2.1 s3v.1.length y4v.2.2 (encB s3v.1), obj b2v 23 [.int .i64 0, .int .i64 0, .int .i64 0], obj b1v 40 [], F]) rfl rfl rfl rfl rfl rfl Try.call83 (.sel 0 rfl (.sel 0 rfl (.sel 0 rfl (.sel 0 rfl (.sel 0 rfl (.nil _)))))) (wire_Reader_Int.calls _ _ k y4v.1 y4v.2.1 y4v.2.2 s3v.1 s10v.2.1 s10v.2.2 (hq13v.lend 0 rfl) hq14v hq15v) hs19v) rfl rfl rfl ?_
 intro y18v
 refine simL_val (q_move rfl rfl) rfl rfl rfl ?_
 refine simL_bind (fun s24v hs26v => ?_)
 refine simL_lend 1 rfl (fun hq20v hq21v hq22v hq23v => ?_)
 refine simL_eff (re_call (vs := [.pointer (some ⟨y4v.1, 0, none⟩)]) (cap := []) (A := [obj y4v.1 194 [.slice y4v.2.1 s3v.1.length y4v.2.2, .int .i64 s17v.2.1, .int .i64 s17v.2.2]]) (rst := [Row 5 1 y4v.2.1 s3v.1.length y4v.2.2 (encB s3v.1), obj b2v 23 [.int .i64 0, .int .i64 0, .int .i64 0], obj b1v 40 [], F]) rfl rfl rfl rfl rfl rfl Try.call83 (.sel 0 rfl (.sel 0 rfl (.sel 0 rfl (.sel 0 rfl (.sel 0 rfl (.nil _)))))) (wire_Reader_Int.calls _ _ k y4v.1 y4v.2.1 y4v.2.2 s3v.1 s17v.2.1 s17v.2.2 (hq20v.lend 0 rfl) hq21v hq22v) hs26v) rfl rfl rfl ?_
 intro y25v
 refine simL_val (q_build (v := .agg #[.int .i64 s10v.1, .int .i64 s17v.1, .int .i64 s24v.1]) rfl rfl (fun _ => by kernel_rfl)) rfl rfl rfl ?_
 refine simL_eff (re_alloc rfl Try.zeroValue23 rfl) rfl rfl rfl ?_
 intro b27v
 refine simL_do (re_store 0 rfl rfl rfl Try.sizeOf23 rfl rfl (one_of (by rfl)) rfl rfl) rfl rfl ?_
 intro _
 refine simL_nil (nrm_then (sim_seq (sim_region ?_)))
 refine simL_val (q_move rfl rfl) rfl rfl rfl ?_
 refine simL_val (q_loado 4 rfl rfl Try.isAgg40 Try.sizeOf40 rfl rfl) rfl rfl rfl ?_
 refine simL_val (q_mkif rfl rfl Try.underlying40 rfl) rfl rfl rfl ?_
 refine simL_val (q_loado 0 rfl rfl Try.isAgg23 Try.sizeOf23 rfl rfl) rfl rfl rfl ?_
 refine simL_bind (fun s32v hs34v => ?_)
 refine simL_lend 2 rfl (fun hq28v hq29v hq30v hq31v => ?_)
 refine simL_eff (re_call (vs := [.pointer (some ⟨y4v.1, 0, none⟩), .iface 40 (.agg #[]), .agg #[.int .i64 s10v.1, .int .i64 s17v.1, .int .i64 s24v.1]]) (cap := []) (A := [obj y4v.1 194 [.slice y4v.2.1 s3v.1.length y4v.2.2, .int .i64 s24v.2.1, .int .i64 s24v.2.2]]) (rst := [obj b27v 23 [.int .i64 s10v.1, .int .i64 s17v.1, .int .i64 s24v.1], Row 5 1 y4v.2.1 s3v.1.length y4v.2.2 (encB s3v.1), obj b2v 23 [.int .i64 0, .int .i64 0, .int .i64 0], obj b1v 40 [], F]) rfl rfl rfl rfl rfl rfl Try.call84 (.sel 1 rfl (.sel 0 rfl (.sel 0 rfl (.sel 0 rfl (.sel 0 rfl (.sel 0 rfl (.nil _))))))) (codec_last_State_States.calls _ _ y4v.1 y4v.2.1 y4v.2.2 s3v.1 s24v.2.1 s24v.2.2 s10v.1 s17v.1 s24v.1 (hq28v.lend 1 rfl) hq29v hq30v) hs34v) rfl rfl rfl ?_
 intro y33v
 refine simL_val (q_ext rfl rfl rfl) rfl rfl rfl ?_
 refine simL_val (q_ext rfl rfl rfl) rfl rfl rfl ?_
 refine simL_do (re_store 3 rfl rfl rfl Try.sizeOf23 rfl rfl (one_of (by rfl)) rfl rfl) rfl rfl ?_
 intro _
 refine simL_val (q_asg rfl rfl) rfl rfl rfl (simL_nil (nrm_then (sim_rtn ?_)))
 exact rtn_fnC (vs := [.agg #[.int .i64 s32v.1, .int .i64 s32v.2.1, .int .i64 s32v.2.2.1], .int .i64 s32v.2.2.2]) () rfl ⟨⟨b2v, rfl, load_agg 3 Try.isAgg23 Try.sizeOf23 rfl rfl⟩, rfl, trivial⟩ rfl (.sel 5 rfl (.nil _))

def wire_Reader_Text.f (k : Nat) (x0_0 : List UInt8) (x0_1 : Int) (x0_2 : Int) (x1 : Int) : Option (List UInt8 × Int × Int) := (wire_Reader_Bytes.f k x0_0 x0_1 x0_2 x1).bind fun s1v => (some (s1v.1, s1v.2.1, s1v.2.2))
theorem wire_Reader_Text.calls (W : World) (F : HA) (k : Nat) (b0 : Nat) (a0_0 : Option Addr) (c0_0 : Nat) (x0_0 : List UInt8) (x0_1 : Int) (x0_2 : Int) (x1 : Int) (h0_0 : Rd F a0_0 (encB x0_0)) (hc0_0 : x0_0.length ≤ c0_0) (hm0_0 : c0_0 ≤ maxLen) :
    Fn Try.prog W 99 [.pointer (some ⟨b0, 0, none⟩), .int .i64 x1] [obj b0 194 [.slice a0_0 x0_0.length c0_0, .int .i64 x0_1, .int .i64 x0_2]] F (wire_Reader_Text.f k x0_0 x0_1 x0_2 x1) (fun (r : List UInt8 × Int × Int) (y : Unit) => str r.1) (fun r y => [obj b0 194 [.slice a0_0 x0_0.length c0_0, .int .i64 r.2.1, .int .i64 r.2.2]]) := by
 unfold wire_Reader_Text.f
 refine fn_intro 9 Try.func99 rfl Try.ntmps99 rfl ?_
 refine sim_seq (sim_region ?_)
 refine simL_val (q_asg rfl rfl) rfl rfl rfl (simL_nil (nrm_then (sim_seq (sim_region ?_))))
 refine simL_val (q_move rfl rfl) rfl rfl rfl ?_
 refine simL_val (q_move rfl rfl) rfl rfl rfl ?_
 refine simL_bind (fun s1v hs3v => ?_)
 refine simL_eff (re_call (vs := [.pointer (some ⟨b0, 0, none⟩), .int .i64 x1]) (cap := []) (A := [obj b0 194 [.slice a0_0 x0_0.length c0_0, .int .i64 x0_1, .int .i64 x0_2]]) (rst := [F]) rfl rfl rfl rfl rfl rfl Try.call90 (.sel 0 rfl (.sel 0 rfl (.nil _))) (wire_Reader_Bytes.calls _ _ k b0 a0_0 c0_0 x0_0 x0_1 x0_2 x1 (h0_0.lend 0 rfl) hc0_0 hm0_0) hs3v) rfl rfl rfl ?_
 intro y2v
 refine simL_val (q_tostr rfl rfl Try.underlying27 Try.underlying5 Try.underlying9 (Rds.row 0 rfl) rfl) rfl rfl rfl ?_
 refine simL_val (q_asg rfl rfl) rfl rfl rfl (simL_nil (nrm_then (sim_rtn ?_)))
 exact rtn_fn () rfl rfl rfl (.sel 1 rfl (.sel 1 rfl (.nil _)))

def synodref1_Reader_Text.f (k : Nat) (x0_0 : List UInt8) (x0_1 : Int) (x0_2 : Int) (x1 : Int) : Option (List UInt8 × Int × Int) := (synodref1_Reader_Bytes.f k x0_0 x0_1 x0_2 x1).bind fun s1v => (some (s1v.1, s1v.2.1, s1v.2.2))
theorem synodref1_Reader_Text.calls (W : World) (F : HA) (k : Nat) (b0 : Nat) (a0_0 : Option Addr) (c0_0 : Nat) (x0_0 : List UInt8) (x0_1 : Int) (x0_2 : Int) (x1 : Int) (h0_0 : Rd F a0_0 (encB x0_0)) (hc0_0 : x0_0.length ≤ c0_0) (hm0_0 : c0_0 ≤ maxLen) :
    Fn Try.prog W 101 [.pointer (some ⟨b0, 0, none⟩), .int .i64 x1] [obj b0 152 [.slice a0_0 x0_0.length c0_0, .int .i64 x0_1, .int .i64 x0_2]] F (synodref1_Reader_Text.f k x0_0 x0_1 x0_2 x1) (fun (r : List UInt8 × Int × Int) (y : Unit) => str r.1) (fun r y => [obj b0 152 [.slice a0_0 x0_0.length c0_0, .int .i64 r.2.1, .int .i64 r.2.2]]) := by
 unfold synodref1_Reader_Text.f
 refine fn_intro 9 Try.func101 rfl Try.ntmps101 rfl ?_
 refine sim_seq (sim_region ?_)
 refine simL_val (q_asg rfl rfl) rfl rfl rfl (simL_nil (nrm_then (sim_seq (sim_region ?_))))
 refine simL_val (q_move rfl rfl) rfl rfl rfl ?_
 refine simL_val (q_move rfl rfl) rfl rfl rfl ?_
 refine simL_bind (fun s1v hs3v => ?_)
 refine simL_eff (re_call (vs := [.pointer (some ⟨b0, 0, none⟩), .int .i64 x1]) (cap := []) (A := [obj b0 152 [.slice a0_0 x0_0.length c0_0, .int .i64 x0_1, .int .i64 x0_2]]) (rst := [F]) rfl rfl rfl rfl rfl rfl Try.call92 (.sel 0 rfl (.sel 0 rfl (.nil _))) (synodref1_Reader_Bytes.calls _ _ k b0 a0_0 c0_0 x0_0 x0_1 x0_2 x1 (h0_0.lend 0 rfl) hc0_0 hm0_0) hs3v) rfl rfl rfl ?_
 intro y2v
 refine simL_val (q_tostr rfl rfl Try.underlying27 Try.underlying5 Try.underlying9 (Rds.row 0 rfl) rfl) rfl rfl rfl ?_
 refine simL_val (q_asg rfl rfl) rfl rfl rfl (simL_nil (nrm_then (sim_rtn ?_)))
 exact rtn_fn () rfl rfl rfl (.sel 1 rfl (.sel 1 rfl (.nil _)))

def synodref1_Writer_Text.f (k : Nat) (x0_0 : List UInt8) (x0_1 : Int) (x1 : List UInt8) (x2 : Int) : Option (List UInt8 × Int) := if x1.length ≤ 140737488355328 then ((synodref1_Writer_Bytes.f k x0_0 x0_1 x1 x2).bind fun s7v => (some (s7v.1, s7v.2))) else none
theorem synodref1_Writer_Text.calls (W : World) (F : HA) (k : Nat) (b0 : Nat) (a0_0 : Option Addr) (c0_0 : Nat) (x0_0 : List UInt8) (x0_1 : Int) (x1 : List UInt8) (x2 : Int)  :
    Fn Try.prog W 98 [.pointer (some ⟨b0, 0, none⟩), str x1, .int .i64 x2] [obj b0 143 [.slice a0_0 x0_0.length c0_0, .int .i64 x0_1], Row 5 1 a0_0 x0_0.length c0_0 (encB x0_0)] F (synodref1_Writer_Text.f k x0_0 x0_1 x1 x2) (fun (r : List UInt8 × Int) (y : Option Addr × Nat) => .tuple #[]) (fun r y => [obj b0 143 [.slice y.1 r.1.length y.2, .int .i64 r.2], Row 5 1 y.1 r.1.length y.2 (encB r.1)]) := by
 unfold synodref1_Writer_Text.f
 refine fn_intro 11 Try.func98 rfl Try.ntmps98 rfl ?_
 refine sim_region ?_
 refine simL_val (q_move rfl rfl) rfl rfl rfl ?_
 refine simL_val (q_move rfl rfl) rfl rfl rfl ?_
 refine simL_ask (fun hb2v => ?_)
 refine simL_eff (re_tobytes rfl rfl Try.underlying9 Try.underlying27 Try.underlying5 hb2v) rfl rfl rfl ?_
 intro y1v
 refine simL_val (q_move rfl rfl) rfl rfl rfl ?_
 refine simL_bind (fun s7v hs9v => ?_)
 refine simL_lend 0 rfl (fun hq3v hq4v hq5v hq6v => ?_)
 refine simL_eff (re_call (vs := [.pointer (some ⟨b0, 0, none⟩), .slice (some ⟨y1v.1, 0, none⟩) x1.length y1v.2, .int .i64 x2]) (cap := []) (A := [obj b0 143 [.slice a0_0 x0_0.length c0_0, .int .i64 x0_1], Row 5 1 a0_0 x0_0.length c0_0 (encB x0_0)]) (rst := [Row 5 1 (some ⟨y1v.1, 0, none⟩) x1.length y1v.2 (encB x1), F]) rfl rfl rfl rfl rfl rfl Try.call89 (.sel 1 rfl (.sel 1 rfl (.sel 0 rfl (.sel 0 rfl (.nil _))))) (synodref1_Writer_Bytes.calls _ _ k b0 a0_0 c0_0 x0_0 x0_1 (some ⟨y1v.1, 0, none⟩) y1v.2 x1 x2 (hq3v.lend 0 rfl) hq4v hq5v) hs9v) rfl rfl rfl ?_
 intro y8v
 refine simL_nil ?_
 exact nrm_fn (y8v.1, y8v.2) rfl rfl rfl (.sel 0 rfl (.sel 0 rfl (.sel 1 rfl (.nil _))))

def wire_Writer_Text.f (k : Nat) (x0_0 : List UInt8) (x0_1 : Int) (x1 : List UInt8) (x2 : Int) : Option (List UInt8 × Int) := if x1.length ≤ 140737488355328 then ((wire_Writer_Bytes.f k x0_0 x0_1 x1 x2).bind fun s7v => (some (s7v.1, s7v.2))) else none
theorem wire_Writer_Text.calls (W : World) (F : HA) (k : Nat) (b0 : Nat) (a0_0 : Option Addr) (c0_0 : Nat) (x0_0 : List UInt8) (x0_1 : Int) (x1 : List UInt8) (x2 : Int)  :
    Fn Try.prog W 97 [.pointer (some ⟨b0, 0, none⟩), str x1, .int .i64 x2] [obj b0 187 [.slice a0_0 x0_0.length c0_0, .int .i64 x0_1], Row 5 1 a0_0 x0_0.length c0_0 (encB x0_0)] F (wire_Writer_Text.f k x0_0 x0_1 x1 x2) (fun (r : List UInt8 × Int) (y : Option Addr × Nat) => .tuple #[]) (fun r y => [obj b0 187 [.slice y.1 r.1.length y.2, .int .i64 r.2], Row 5 1 y.1 r.1.length y.2 (encB r.1)]) := by
 unfold wire_Writer_Text.f
 refine fn_intro 11 Try.func97 rfl Try.ntmps97 rfl ?_
 refine sim_region ?_
 refine simL_val (q_move rfl rfl) rfl rfl rfl ?_
 refine simL_val (q_move rfl rfl) rfl rfl rfl ?_
 refine simL_ask (fun hb2v => ?_)
 refine simL_eff (re_tobytes rfl rfl Try.underlying9 Try.underlying27 Try.underlying5 hb2v) rfl rfl rfl ?_
 intro y1v
 refine simL_val (q_move rfl rfl) rfl rfl rfl ?_
 refine simL_bind (fun s7v hs9v => ?_)
 refine simL_lend 0 rfl (fun hq3v hq4v hq5v hq6v => ?_)
 refine simL_eff (re_call (vs := [.pointer (some ⟨b0, 0, none⟩), .slice (some ⟨y1v.1, 0, none⟩) x1.length y1v.2, .int .i64 x2]) (cap := []) (A := [obj b0 187 [.slice a0_0 x0_0.length c0_0, .int .i64 x0_1], Row 5 1 a0_0 x0_0.length c0_0 (encB x0_0)]) (rst := [Row 5 1 (some ⟨y1v.1, 0, none⟩) x1.length y1v.2 (encB x1), F]) rfl rfl rfl rfl rfl rfl Try.call88 (.sel 1 rfl (.sel 1 rfl (.sel 0 rfl (.sel 0 rfl (.nil _))))) (wire_Writer_Bytes.calls _ _ k b0 a0_0 c0_0 x0_0 x0_1 (some ⟨y1v.1, 0, none⟩) y1v.2 x1 x2 (hq3v.lend 0 rfl) hq4v hq5v) hs9v) rfl rfl rfl ?_
 intro y8v
 refine simL_nil ?_
 exact nrm_fn (y8v.1, y8v.2) rfl rfl rfl (.sel 0 rfl (.sel 0 rfl (.sel 1 rfl (.nil _))))
end Go.Proofs.Ytdoghfenhoigmaa

/- Printed by gen.py: pure functions and the proofs that the Go functions simulate them. Conditions: as each theorem says. -/
import Derived.Test.YtdoghfenhoigmaaG4
namespace Go.Proofs.Ytdoghfenhoigmaa
open Go.RowKit
set_option linter.unusedVariables false
set_option maxRecDepth 20000
set_option maxHeartbeats 2000000
def codec_Snaps_Get.f (k : Nat) (x1 : List UInt8) : Option (Int × Int × List UInt8 × Int) := (wire_NewReader.f x1).bind fun s3v => ((wire_Reader_Int.f k s3v.1 s3v.2.1 s3v.2.2).bind fun s10v => ((wire_Reader_Int.f k s3v.1 s10v.2.1 s10v.2.2).bind fun s17v => ((wire_Reader_Bytes.f k s3v.1 s17v.2.1 s17v.2.2 (524288 : Int)).bind fun s24v => ((codec_last_Snap_Snaps_c2.f s3v.1 s24v.2.1 s24v.2.2 s10v.1 s17v.1 s24v.1).bind fun s32v => (some (s32v.1, s32v.2.1, s32v.2.2.1, s32v.2.2.2))))))
theorem codec_Snaps_Get.calls (W : World) (F : HA) (k : Nat) (a1 : Option Addr) (c1 : Nat) (x1 : List UInt8) (h1 : Rd F a1 (encB x1)) (hc1 : x1.length ≤ c1) (hm1 : c1 ≤ maxLen) :
    Fn Try.prog W 43 [.agg #[], .slice a1 x1.length c1] [] F (codec_Snaps_Get.f k x1) (fun (r : Int × Int × List UInt8 × Int) (y : Option Addr × Nat) => .tuple #[.agg #[.int .i64 r.1, .int .i64 r.2.1, .slice y.1 r.2.2.1.length y.2], .int .i64 r.2.2.2]) (fun r y => [Row 5 1 y.1 r.2.2.1.length y.2 (encB r.2.2.1)]) := by
 unfold codec_Snaps_Get.f
 refine fn_intro 24 Try.func43 rfl Try.ntmps43 rfl ?_
 refine sim_seq (sim_region ?_)
 refine simL_eff (re_box rfl rfl rfl) rfl rfl rfl ?_
 intro b1v
 refine simL_eff (re_alloc rfl Try.zeroValue29 rfl) rfl rfl rfl ?_
 intro b2v
 refine simL_val (q_asg rfl rfl) rfl rfl rfl (simL_nil (nrm_then (sim_seq (sim_region ?_))))
 refine simL_val (q_move rfl rfl) rfl rfl rfl ?_
 refine simL_bind (fun s3v hs5v => ?_)
 refine simL_eff (re_call (vs := [.slice a1 x1.length c1]) (cap := []) (A := []) (rst := [obj b2v 29 [.int .i64 0, .int .i64 0, .slice none 0 0], obj b1v 73 [], F]) rfl rfl rfl rfl rfl rfl Try.call82 (.sel 0 rfl (.sel 0 rfl (.sel 0 rfl (.nil _)))) (wire_NewReader.calls _ _ a1 c1 x1 (h1.lend 2 rfl) hc1 hm1) hs5v) rfl rfl rfl ?_
 intro y4v
 refine simL_val (q_asg rfl rfl) rfl rfl rfl (simL_nil (nrm_then (sim_seq (sim_region ?_))))
 refine simL_val (q_move rfl rfl) rfl rfl rfl ?_
 refine simL_bind (fun s10v hs12v => ?_)
 refine simL_lend 1 rfl (fun hq6v hq7v hq8v hq9v => ?_)
 refine simL_eff (re_call (vs := [.pointer (some ⟨y4v.1, 0, none⟩)]) (cap := []) (A := [obj y4v.1 194 [.slice y4v.2.1 s3v.1.length y4v.2.2, .int .i64 s3v.2.1, .int .i64 s3v.2.2]]) (rst := [Row 5 1 y4v.2.1 s3v.1.length y4v.2.2 (encB s3v.1), obj b2v 29 [.int .i64 0, .int .i64 0, .slice none 0 0], obj b1v 73 [], F]) rfl rfl rfl rfl rfl rfl Try.call83 (.sel 0 rfl (.sel 0 rfl (.sel 0 rfl (.sel 0 rfl (.sel 0 rfl (.nil _)))))) (wire_Reader_Int.calls _ _ k y4v.1 y4v.2.1 y4v.2.2 s3v.1 s3v.2.1 s3v.2.2 (hq6v.lend 0 rfl) hq7v hq8v) hs12v) rfl rfl rfl ?_
 intro y11v
 refine simL_val (q_move rfl rfl) rfl rfl rfl ?_
 refine simL_bind (fun s17v hs19v => ?_)
 refine simL_lend 1 rfl (fun hq13v hq14v hq15v hq16v => ?_)
 refine simL_eff (re_call (vs := [.pointer (some ⟨y4v.1, 0, none⟩)]) (cap := []) (A := [obj y4v.1 194 [.slice y4v.2.1 s3v.1.length y4v.2.2, .int .i64 s10v.2.1, .int .i64 s10v.2.2]]) (rst := [Row 5 1 y4v.2.1 s3v.1.length y4v.2.2 (encB s3v.1), obj b2v 29 [.int .i64 0, .int .i64 0, .slice none 0 0], obj b1v 73 [], F]) rfl rfl rfl rfl rfl rfl Try.call83 (.sel 0 rfl (.sel 0 rfl (.sel 0 rfl (.sel 0 rfl (.sel 0 rfl (.nil _)))))) (wire_Reader_Int.calls _ _ k y4v.1 y4v.2.1 y4v.2.2 s3v.1 s10v.2.1 s10v.2.2 (hq13v.lend 0 rfl) hq14v hq15v) hs19v) rfl rfl rfl ?_
 intro y18v
 refine simL_val (q_move rfl rfl) rfl rfl rfl ?_
 refine simL_bind (fun s24v hs26v => ?_)
 refine simL_lend 1 rfl (fun hq20v hq21v hq22v hq23v => ?_)
 refine simL_eff (re_call (vs := [.pointer (some ⟨y4v.1, 0, none⟩), .int .i64 524288]) (cap := []) (A := [obj y4v.1 194 [.slice y4v.2.1 s3v.1.length y4v.2.2, .int .i64 s17v.2.1, .int .i64 s17v.2.2]]) (rst := [Row 5 1 y4v.2.1 s3v.1.length y4v.2.2 (encB s3v.1), obj b2v 29 [.int .i64 0, .int .i64 0, .slice none 0 0], obj b1v 73 [], F]) rfl rfl rfl rfl rfl rfl Try.call90 (.sel 0 rfl (.sel 0 rfl (.sel 0 rfl (.sel 0 rfl (.sel 0 rfl (.nil _)))))) (wire_Reader_Bytes.calls _ _ k y4v.1 y4v.2.1 y4v.2.2 s3v.1 s17v.2.1 s17v.2.2 (524288 : Int) (hq20v.lend 0 rfl) hq21v hq22v) hs26v) rfl rfl rfl ?_
 intro y25v
 refine simL_val (q_build (v := .agg #[.int .i64 s10v.1, .int .i64 s17v.1, .slice y25v.1 s24v.1.length y25v.2]) rfl rfl (fun _ => by kernel_rfl)) rfl rfl rfl ?_
 refine simL_eff (re_alloc rfl Try.zeroValue29 rfl) rfl rfl rfl ?_
 intro b27v
 refine simL_do (re_store 0 rfl rfl rfl Try.sizeOf29 rfl rfl (one_of (by rfl)) rfl rfl) rfl rfl ?_
 intro _
 refine simL_nil (nrm_then (sim_seq (sim_region ?_)))
 refine simL_val (q_move rfl rfl) rfl rfl rfl ?_
 refine simL_val (q_loado 5 rfl rfl Try.isAgg73 Try.sizeOf73 rfl rfl) rfl rfl rfl ?_
 refine simL_val (q_mkif rfl rfl Try.underlying73 rfl) rfl rfl rfl ?_
 refine simL_val (q_loado 0 rfl rfl Try.isAgg29 Try.sizeOf29 rfl rfl) rfl rfl rfl ?_
 refine simL_bind (fun s32v hs34v => ?_)
 refine simL_lend 3 rfl (fun hq28v hq29v hq30v hq31v => ?_)
 refine simL_eff (re_call (vs := [.pointer (some ⟨y4v.1, 0, none⟩), .iface 73 (.agg #[]), .agg #[.int .i64 s10v.1, .int .i64 s17v.1, .slice y25v.1 s24v.1.length y25v.2]]) (cap := []) (A := [obj y4v.1 194 [.slice y4v.2.1 s3v.1.length y4v.2.2, .int .i64 s24v.2.1, .int .i64 s24v.2.2], Row 5 1 y25v.1 s24v.1.length y25v.2 (encB s24v.1)]) (rst := [obj b27v 29 [.int .i64 s10v.1, .int .i64 s17v.1, .slice y25v.1 s24v.1.length y25v.2], Row 5 1 y4v.2.1 s3v.1.length y4v.2.2 (encB s3v.1), obj b2v 29 [.int .i64 0, .int .i64 0, .slice none 0 0], obj b1v 73 [], F]) rfl rfl rfl rfl rfl rfl Try.call95 (.sel 2 rfl (.sel 1 rfl (.sel 0 rfl (.sel 0 rfl (.sel 0 rfl (.sel 0 rfl (.sel 0 rfl (.nil _)))))))) (codec_last_Snap_Snaps_c2.calls _ _ y4v.1 y4v.2.1 y4v.2.2 s3v.1 s24v.2.1 s24v.2.2 s10v.1 s17v.1 y25v.1 y25v.2 s24v.1 (hq28v.lend 1 rfl) hq29v hq30v) hs34v) rfl rfl rfl ?_
 intro y33v
 refine simL_val (q_ext rfl rfl rfl) rfl rfl rfl ?_
 refine simL_val (q_ext rfl rfl rfl) rfl rfl rfl ?_
 refine simL_do (re_store 4 rfl rfl rfl Try.sizeOf29 rfl rfl (one_of (by rfl)) rfl rfl) rfl rfl ?_
 intro _
 refine simL_val (q_asg rfl rfl) rfl rfl rfl (simL_nil (nrm_then (sim_rtn ?_)))
 exact rtn_fnC (vs := [.agg #[.int .i64 s32v.1, .int .i64 s32v.2.1, .slice y33v.1 s32v.2.2.1.length y33v.2], .int .i64 s32v.2.2.2]) (y33v.1, y33v.2) rfl ⟨⟨b2v, rfl, load_agg 4 Try.isAgg29 Try.sizeOf29 rfl rfl⟩, rfl, trivial⟩ rfl (.sel 0 rfl (.sel 5 rfl (.nil _)))

def wire_Reader_Text.f (k : Nat) (x0_0 : List UInt8) (x0_1 : Int) (x0_2 : Int) (x1 : Int) : Option (List UInt8 × Int × Int) := (wire_Reader_Bytes.f k x0_0 x0_1 x0_2 x1).bind fun s1v => (some (s1v.1, s1v.2.1, s1v.2.2))
theorem wire_Reader_Text.calls (W : World) (F : HA) (k : Nat) (b0 : Nat) (a0_0 : Option Addr) (c0_0 : Nat) (x0_0 : List UInt8) (x0_1 : Int) (x0_2 : Int) (x1 : Int) (h0_0 : Rd F a0_0 (encB x0_0)) (hc0_0 : x0_0.length ≤ c0_0) (hm0_0 : c0_0 ≤ maxLen) :
    Fn Try.prog W 99 [.pointer (some ⟨b0, 0, none⟩), .int .i64 x1] [obj b0 194 [.slice a0_0 x0_0.length c0_0, .int .i64 x0_1, .int .i64 x0_2]] F (wire_Reader_Text.f k x0_0 x0_1 x0_2 x1) (fun (r : List UInt8 × Int × Int) (y : Unit) => str r.1) (fun r y => [obj b0 194 [.slice a0_0 x0_0.length c0_0, .int .i64 r.2.1, .int .i64 r.2.2]]) := by
 unfold wire_Reader_Text.f
 refine fn_intro 9 Try.func99 rfl Try.ntmps99 rfl ?_
 refine sim_seq (sim_region ?_)
 refine simL_val (q_asg rfl rfl) rfl rfl rfl (simL_nil (nrm_then (sim_seq (sim_region ?_))))
 refine simL_val (q_move rfl rfl) rfl rfl rfl ?_
 refine simL_val (q_move rfl rfl) rfl rfl rfl ?_
 refine simL_bind (fun s1v hs3v => ?_)
 refine simL_eff (re_call (vs := [.pointer (some ⟨b0, 0, none⟩), .int .i64 x1]) (cap := []) (A := [obj b0 194 [.slice a0_0 x0_0.length c0_0, .int .i64 x0_1, .int .i64 x0_2]]) (rst := [F]) rfl rfl rfl rfl rfl rfl Try.call90 (.sel 0 rfl (.sel 0 rfl (.nil _))) (wire_Reader_Bytes.calls _ _ k b0 a0_0 c0_0 x0_0 x0_1 x0_2 x1 (h0_0.lend 0 rfl) hc0_0 hm0_0) hs3v) rfl rfl rfl ?_
 intro y2v
 refine simL_val (q_tostr rfl rfl Try.underlying27 Try.underlying5 Try.underlying9 (Rds.row 0 rfl) rfl) rfl rfl rfl ?_
 refine simL_val (q_asg rfl rfl) rfl rfl rfl (simL_nil (nrm_then (sim_rtn ?_)))
 exact rtn_fn () rfl rfl rfl (.sel 1 rfl (.sel 1 rfl (.nil _)))

def wire_Reader_Bool.f (k : Nat) (x0_0 : List UInt8) (x0_1 : Int) (x0_2 : Int) : Option (Bool × Int × Int) := (wire_Reader_look.f k x0_0 x0_1 x0_2).bind fun s1v => (if (!s1v.2.2.1) = true then (some (false, s1v.2.2.2.1, s1v.2.2.2.2)) else (if (1 : Int) < s1v.1 then (some (false, s1v.2.2.2.1, 4)) else (some (decide (s1v.1 = (1 : Int)), IntKind.i64.wrap (s1v.2.2.2.1 + s1v.2.1), s1v.2.2.2.2))))
theorem wire_Reader_Bool.calls (W : World) (F : HA) (k : Nat) (b0 : Nat) (a0_0 : Option Addr) (c0_0 : Nat) (x0_0 : List UInt8) (x0_1 : Int) (x0_2 : Int) (h0_0 : Rd F a0_0 (encB x0_0)) (hc0_0 : x0_0.length ≤ c0_0) (hm0_0 : c0_0 ≤ maxLen) :
    Fn Try.prog W 111 [.pointer (some ⟨b0, 0, none⟩)] [obj b0 194 [.slice a0_0 x0_0.length c0_0, .int .i64 x0_1, .int .i64 x0_2]] F (wire_Reader_Bool.f k x0_0 x0_1 x0_2) (fun (r : Bool × Int × Int) (y : Unit) => .bool r.1) (fun r y => [obj b0 194 [.slice a0_0 x0_0.length c0_0, .int .i64 r.2.1, .int .i64 r.2.2]]) := by
 unfold wire_Reader_Bool.f
 refine fn_intro 29 Try.func111 rfl Try.ntmps111 rfl ?_
 refine sim_seq (sim_region ?_)
 refine simL_val (q_asg rfl rfl) rfl rfl rfl (simL_nil (nrm_then (sim_seq (sim_region ?_))))
 refine simL_val (q_move rfl rfl) rfl rfl rfl ?_
 refine simL_bind (fun s1v hs3v => ?_)
 refine simL_eff (re_call (vs := [.pointer (some ⟨b0, 0, none⟩)]) (cap := []) (A := [obj b0 194 [.slice a0_0 x0_0.length c0_0, .int .i64 x0_1, .int .i64 x0_2]]) (rst := [F]) rfl rfl rfl rfl rfl rfl Try.call129 (.sel 0 rfl (.sel 0 rfl (.nil _))) (wire_Reader_look.calls _ _ k b0 a0_0 c0_0 x0_0 x0_1 x0_2 (h0_0.lend 0 rfl) hc0_0 hm0_0) hs3v) rfl rfl rfl ?_
 intro y2v
 refine simL_val (q_move rfl rfl) rfl rfl rfl ?_
 refine simL_val (q_ext rfl rfl rfl) rfl rfl rfl ?_
 refine simL_val (q_ext rfl rfl rfl) rfl rfl rfl ?_
 refine simL_val (q_ext rfl rfl rfl) rfl rfl rfl ?_
 refine simL_val (q_asg rfl rfl) rfl rfl rfl ?_
 refine simL_val (q_asg rfl rfl) rfl rfl rfl ?_
 refine simL_val (q_asg rfl rfl) rfl rfl rfl (simL_nil (nrm_then (sim_seq (sim_seq (sim_region ?_)))))
 refine simL_val (q_move rfl rfl) rfl rfl rfl ?_
 refine simL_val (q_not rfl rfl) rfl rfl rfl (simL_nil (nrm_then ?_))
 refine sim_condb rfl (fun h4v => ?_) (fun h5v => ?_)
 refine sim_seq (sim_region ?_)
 refine simL_val (q_asg rfl rfl) rfl rfl rfl (simL_nil (nrm_then (sim_rtn ?_)))
 refine rtn_then ?_
 exact rtn_fn () rfl rfl rfl (.sel 0 rfl (.sel 0 rfl (.nil _)))
 refine sim_skip ?_
 refine nrm_then (sim_seq (sim_seq (sim_region ?_)))
 refine simL_val (q_move rfl rfl) rfl rfl rfl ?_
 refine simL_val (q_gtr rfl rfl rfl) rfl rfl rfl (simL_nil (nrm_then ?_))
 refine sim_cond rfl (fun h6v => ?_) (fun h7v => ?_)
 refine sim_seq (sim_region ?_)
 refine simL_val (q_move rfl rfl) rfl rfl rfl ?_
 refine simL_val (q_nil rfl rfl) rfl rfl rfl ?_
 refine simL_val (q_fa rfl rfl Try.underlying194 rfl rfl Try.sizeOf46 rfl) rfl rfl rfl ?_
 refine simL_do (re_store 0 rfl rfl rfl Try.sizeOf46 rfl rfl (one_of (by rfl)) rfl rfl) rfl rfl ?_
 intro _
 refine simL_nil (nrm_then (sim_seq (sim_region ?_)))
 refine simL_val (q_asg rfl rfl) rfl rfl rfl (simL_nil (nrm_then (sim_rtn ?_)))
 refine rtn_then ?_
 exact rtn_fn () rfl rfl rfl (.sel 0 rfl (.sel 0 rfl (.nil _)))
 refine sim_skip ?_
 refine nrm_then (sim_seq (sim_region ?_))
 refine simL_val (q_move rfl rfl) rfl rfl rfl ?_
 refine simL_val (q_nil rfl rfl) rfl rfl rfl ?_
 refine simL_val (q_fa rfl rfl Try.underlying194 rfl rfl Try.sizeOf3 rfl) rfl rfl rfl ?_
 refine simL_val (q_load rfl rfl Try.isAgg3 (.obj 0 rfl rfl)) rfl rfl rfl ?_
 refine simL_val (q_move rfl rfl) rfl rfl rfl ?_
 refine simL_val (q_add rfl rfl rfl) rfl rfl rfl ?_
 refine simL_val (q_nil rfl rfl) rfl rfl rfl ?_
 refine simL_val (q_fa rfl rfl Try.underlying194 rfl rfl Try.sizeOf3 rfl) rfl rfl rfl ?_
 refine simL_do (re_store 0 rfl rfl rfl Try.sizeOf3 rfl rfl (one_of (by rfl)) rfl rfl) rfl rfl ?_
 intro _
 refine simL_nil (nrm_then (sim_seq (sim_region ?_)))
 refine simL_val (q_move rfl rfl) rfl rfl rfl ?_
 refine simL_val (q_eql rfl rfl rfl) rfl rfl rfl ?_
 refine simL_val (q_asg rfl rfl) rfl rfl rfl (simL_nil (nrm_then (sim_rtn ?_)))
 exact rtn_fn () rfl rfl rfl (.sel 0 rfl (.sel 0 rfl (.nil _)))

def synodref1_Reader_Text.f (k : Nat) (x0_0 : List UInt8) (x0_1 : Int) (x0_2 : Int) (x1 : Int) : Option (List UInt8 × Int × Int) := (synodref1_Reader_Bytes.f k x0_0 x0_1 x0_2 x1).bind fun s1v => (some (s1v.1, s1v.2.1, s1v.2.2))
theorem synodref1_Reader_Text.calls (W : World) (F : HA) (k : Nat) (b0 : Nat) (a0_0 : Option Addr) (c0_0 : Nat) (x0_0 : List UInt8) (x0_1 : Int) (x0_2 : Int) (x1 : Int) (h0_0 : Rd F a0_0 (encB x0_0)) (hc0_0 : x0_0.length ≤ c0_0) (hm0_0 : c0_0 ≤ maxLen) :
    Fn Try.prog W 101 [.pointer (some ⟨b0, 0, none⟩), .int .i64 x1] [obj b0 152 [.slice a0_0 x0_0.length c0_0, .int .i64 x0_1, .int .i64 x0_2]] F (synodref1_Reader_Text.f k x0_0 x0_1 x0_2 x1) (fun (r : List UInt8 × Int × Int) (y : Unit) => str r.1) (fun r y => [obj b0 152 [.slice a0_0 x0_0.length c0_0, .int .i64 r.2.1, .int .i64 r.2.2]]) := by
 unfold synodref1_Reader_Text.f
 refine fn_intro 9 Try.func101 rfl Try.ntmps101 rfl ?_
 refine sim_seq (sim_region ?_)
 refine simL_val (q_asg rfl rfl) rfl rfl rfl (simL_nil (nrm_then (sim_seq (sim_region ?_))))
 refine simL_val (q_move rfl rfl) rfl rfl rfl ?_
 refine simL_val (q_move rfl rfl) rfl rfl rfl ?_
 refine simL_bind (fun s1v hs3v => ?_)
 refine simL_eff (re_call (vs := [.pointer (some ⟨b0, 0, none⟩), .int .i64 x1]) (cap := []) (A := [obj b0 152 [.slice a0_0 x0_0.length c0_0, .int .i64 x0_1, .int .i64 x0_2]]) (rst := [F]) rfl rfl rfl rfl rfl rfl Try.call92 (.sel 0 rfl (.sel 0 rfl (.nil _))) (synodref1_Reader_Bytes.calls _ _ k b0 a0_0 c0_0 x0_0 x0_1 x0_2 x1 (h0_0.lend 0 rfl) hc0_0 hm0_0) hs3v) rfl rfl rfl ?_
 intro y2v
 refine simL_val (q_tostr rfl rfl Try.underlying27 Try.underlying5 Try.underlying9 (Rds.row 0 rfl) rfl) rfl rfl rfl ?_
 refine simL_val (q_asg rfl rfl) rfl rfl rfl (simL_nil (nrm_then (sim_rtn ?_)))
 exact rtn_fn () rfl rfl rfl (.sel 1 rfl (.sel 1 rfl (.nil _)))

def synodref1_Reader_Bool.f (k : Nat) (x0_0 : List UInt8) (x0_1 : Int) (x0_2 : Int) : Option (Bool × Int × Int) := (synodref1_Reader_Int.f k x0_0 x0_1 x0_2).bind fun s1v => ((if ((decide (s1v.2.2 = (0 : Int))) && (decide ((1 : Int) < s1v.1))) = true then (some (x0_1, 4)) else (some (s1v.2.1, s1v.2.2))).bind fun s4v => (some ((decide (s4v.2 = (0 : Int))) && (decide (s1v.1 = (1 : Int))), s4v.1, s4v.2)))
theorem synodref1_Reader_Bool.calls (W : World) (F : HA) (k : Nat) (b0 : Nat) (a0_0 : Option Addr) (c0_0 : Nat) (x0_0 : List UInt8) (x0_1 : Int) (x0_2 : Int) (h0_0 : Rd F a0_0 (encB x0_0)) (hc0_0 : x0_0.length ≤ c0_0) (hm0_0 : c0_0 ≤ maxLen) :
    Fn Try.prog W 117 [.pointer (some ⟨b0, 0, none⟩)] [obj b0 152 [.slice a0_0 x0_0.length c0_0, .int .i64 x0_1, .int .i64 x0_2]] F (synodref1_Reader_Bool.f k x0_0 x0_1 x0_2) (fun (r : Bool × Int × Int) (y : Unit) => .bool r.1) (fun r y => [obj b0 152 [.slice a0_0 x0_0.length c0_0, .int .i64 r.2.1, .int .i64 r.2.2]]) := by
 unfold synodref1_Reader_Bool.f
 refine fn_intro 36 Try.func117 rfl Try.ntmps117 rfl ?_
 refine sim_seq (sim_region ?_)
 refine simL_val (q_asg rfl rfl) rfl rfl rfl (simL_nil (nrm_then (sim_seq (sim_region ?_))))
 refine simL_val (q_move rfl rfl) rfl rfl rfl ?_
 refine simL_val (q_nil rfl rfl) rfl rfl rfl ?_
 refine simL_val (q_fa rfl rfl Try.underlying152 rfl rfl Try.sizeOf3 rfl) rfl rfl rfl ?_
 refine simL_val (q_load rfl rfl Try.isAgg3 (.obj 0 rfl rfl)) rfl rfl rfl ?_
 refine simL_val (q_asg rfl rfl) rfl rfl rfl (simL_nil (nrm_then (sim_seq (sim_region ?_))))
 refine simL_val (q_move rfl rfl) rfl rfl rfl ?_
 refine simL_bind (fun s1v hs3v => ?_)
 refine simL_eff (re_call (vs := [.pointer (some ⟨b0, 0, none⟩)]) (cap := []) (A := [obj b0 152 [.slice a0_0 x0_0.length c0_0, .int .i64 x0_1, .int .i64 x0_2]]) (rst := [F]) rfl rfl rfl rfl rfl rfl Try.call85 (.sel 0 rfl (.sel 0 rfl (.nil _))) (synodref1_Reader_Int.calls _ _ k b0 a0_0 c0_0 x0_0 x0_1 x0_2 (h0_0.lend 0 rfl) hc0_0 hm0_0) hs3v) rfl rfl rfl ?_
 intro y2v
 refine simL_val (q_asg rfl rfl) rfl rfl rfl (simL_nil (nrm_then ?_))
 refine sim_cut (S := Int × Int) (Unit) (fun s y => [(0, .pointer (some ⟨b0, 0, none⟩)), (4, .int .i64 s1v.1)]) (fun s y => [obj b0 152 [.slice a0_0 x0_0.length c0_0, .int .i64 s.1, .int .i64 s.2], F]) ?_ ?_
 refine sim_seq (sim_region ?_)
 refine simL_val (q_move rfl rfl) rfl rfl rfl ?_
 refine simL_val (q_nil rfl rfl) rfl rfl rfl ?_
 refine simL_val (q_fa rfl rfl Try.underlying152 rfl rfl Try.sizeOf3 rfl) rfl rfl rfl ?_
 refine simL_val (q_load rfl rfl Try.isAgg3 (.obj 0 rfl rfl)) rfl rfl rfl ?_
 refine simL_val (q_eql rfl rfl rfl) rfl rfl rfl ?_
 refine simL_val (q_move rfl rfl) rfl rfl rfl ?_
 refine simL_valc (b := decide (s1v.2.2 = (0 : Int))) (fun hb9v => RQ.sub (E' := [(4, .int .i64 s1v.1)]) ⟨rfl, trivial⟩ (q_move rfl rfl)) rfl rfl rfl rfl rfl ?_
 refine simL_valc (b := decide (s1v.2.2 = (0 : Int))) (fun hb8v => RQ.sub (E' := [(17, .int .i64 s1v.1)]) ⟨lk_cv rfl hb8v, trivial⟩ (q_gtr rfl rfl rfl)) rfl rfl rfl rfl rfl ?_
 refine simL_val (q_and rfl rfl rfl) rfl rfl rfl (simL_nil (nrm_then ?_))
 refine sim_condb rfl (fun h6v => ?_) (fun h7v => ?_)
 refine sim_seq (sim_region ?_)
 refine simL_val (q_move rfl rfl) rfl rfl rfl ?_
 refine simL_val (q_nil rfl rfl) rfl rfl rfl ?_
 refine simL_val (q_fa rfl rfl Try.underlying152 rfl rfl Try.sizeOf3 rfl) rfl rfl rfl ?_
 refine simL_do (re_store 0 rfl rfl rfl Try.sizeOf3 rfl rfl (one_of (by rfl)) rfl rfl) rfl rfl ?_
 intro _
 refine simL_nil (nrm_then (sim_region ?_))
 refine simL_val (q_move rfl rfl) rfl rfl rfl ?_
 refine simL_val (q_move rfl rfl) rfl rfl rfl ?_
 refine simL_val (q_nil rfl rfl) rfl rfl rfl ?_
 refine simL_val (q_fa rfl rfl Try.underlying152 rfl rfl Try.sizeOf3 rfl) rfl rfl rfl ?_
 refine simL_do (re_store 0 rfl rfl rfl Try.sizeOf3 rfl rfl (one_of (by rfl)) rfl rfl) rfl rfl ?_
 intro _
 refine simL_nil ?_
 exact nrm_cut (s := (x0_1, 4)) () ⟨rfl, rfl, trivial⟩ (.sel 0 rfl (.sel 0 rfl (.nil _)))
 refine sim_skip ?_
 exact nrm_cut (s := (s1v.2.1, s1v.2.2)) () ⟨rfl, rfl, trivial⟩ (.sel 0 rfl (.sel 0 rfl (.nil _)))
 intro s4v y5v
 refine sim_seq (sim_region ?_)
 refine simL_val (q_move rfl rfl) rfl rfl rfl ?_
 refine simL_val (q_nil rfl rfl) rfl rfl rfl ?_
 refine simL_val (q_fa rfl rfl Try.underlying152 rfl rfl Try.sizeOf3 rfl) rfl rfl rfl ?_
 refine simL_val (q_load rfl rfl Try.isAgg3 (.obj 0 rfl rfl)) rfl rfl rfl ?_
 refine simL_val (q_eql rfl rfl rfl) rfl rfl rfl ?_
 refine simL_val (q_move rfl rfl) rfl rfl rfl ?_
 refine simL_valc (b := decide (s4v.2 = (0 : Int))) (fun hb11v => RQ.sub (E' := [(4, .int .i64 s1v.1)]) ⟨rfl, trivial⟩ (q_move rfl rfl)) rfl rfl rfl rfl rfl ?_
 refine simL_valc (b := decide (s4v.2 = (0 : Int))) (fun hb10v => RQ.sub (E' := [(33, .int .i64 s1v.1)]) ⟨lk_cv rfl hb10v, trivial⟩ (q_eql rfl rfl rfl)) rfl rfl rfl rfl rfl ?_
 refine simL_val (q_and rfl rfl rfl) rfl rfl rfl ?_
 refine simL_val (q_asg rfl rfl) rfl rfl rfl (simL_nil (nrm_then (sim_rtn ?_)))
 exact rtn_fn () rfl rfl rfl (.sel 0 rfl (.sel 0 rfl (.nil _)))

def synodref1_Writer_Text.f (k : Nat) (x0_0 : List UInt8) (x0_1 : Int) (x1 : List UInt8) (x2 : Int) : Option (List UInt8 × Int) := if x1.length ≤ 140737488355328 then ((synodref1_Writer_Bytes.f k x0_0 x0_1 x1 x2).bind fun s7v => (some (s7v.1, s7v.2))) else none
theorem synodref1_Writer_Text.calls (W : World) (F : HA) (k : Nat) (b0 : Nat) (a0_0 : Option Addr) (c0_0 : Nat) (x0_0 : List UInt8) (x0_1 : Int) (x1 : List UInt8) (x2 : Int)  :
    Fn Try.prog W 98 [.pointer (some ⟨b0, 0, none⟩), str x1, .int .i64 x2] [obj b0 143 [.slice a0_0 x0_0.length c0_0, .int .i64 x0_1], Row 5 1 a0_0 x0_0.length c0_0 (encB x0_0)] F (synodref1_Writer_Text.f k x0_0 x0_1 x1 x2) (fun (r : List UInt8 × Int) (y : Option Addr × Nat) => .tuple #[]) (fun r y => [obj b0 143 [.slice y.1 r.1.length y.2, .int .i64 r.2], Row 5 1 y.1 r.1.length y.2 (encB r.1)]) := by
 unfold synodref1_Writer_Text.f
 refine fn_intro 11 Try.func98 rfl Try.ntmps98 rfl ?_
 refine sim_region ?_
 refine simL_val (q_move rfl rfl) rfl rfl rfl ?_
 refine simL_val (q_move rfl rfl) rfl rfl rfl ?_
 refine simL_ask (fun hb2v => ?_)
 refine simL_eff (re_tobytes rfl rfl Try.underlying9 Try.underlying27 Try.underlying5 hb2v) rfl rfl rfl ?_
 intro y1v
 refine simL_val (q_move rfl rfl) rfl rfl rfl ?_
 refine simL_bind (fun s7v hs9v => ?_)
 refine simL_lend 0 rfl (fun hq3v hq4v hq5v hq6v => ?_)
 refine simL_eff (re_call (vs := [.pointer (some ⟨b0, 0, none⟩), .slice (some ⟨y1v.1, 0, none⟩) x1.length y1v.2, .int .i64 x2]) (cap := []) (A := [obj b0 143 [.slice a0_0 x0_0.length c0_0, .int .i64 x0_1], Row 5 1 a0_0 x0_0.length c0_0 (encB x0_0)]) (rst := [Row 5 1 (some ⟨y1v.1, 0, none⟩) x1.length y1v.2 (encB x1), F]) rfl rfl rfl rfl rfl rfl Try.call89 (.sel 1 rfl (.sel 1 rfl (.sel 0 rfl (.sel 0 rfl (.nil _))))) (synodref1_Writer_Bytes.calls _ _ k b0 a0_0 c0_0 x0_0 x0_1 (some ⟨y1v.1, 0, none⟩) y1v.2 x1 x2 (hq3v.lend 0 rfl) hq4v hq5v) hs9v) rfl rfl rfl ?_
 intro y8v
 refine simL_nil ?_
 exact nrm_fn (y8v.1, y8v.2) rfl rfl rfl (.sel 0 rfl (.sel 0 rfl (.sel 1 rfl (.nil _))))

def synodref1_Writer_Bool.f (k : Nat) (x0_0 : List UInt8) (x0_1 : Int) (x1 : Bool) : Option (List UInt8 × Int) := if x1 = true then ((synodref1_Writer_Int.f k x0_0 x0_1 (1 : Int)).bind fun s3v => (some (s3v.1, s3v.2))) else ((synodref1_Writer_Int.f k x0_0 x0_1 (0 : Int)).bind fun s6v => (some (s6v.1, s6v.2)))
theorem synodref1_Writer_Bool.calls (W : World) (F : HA) (k : Nat) (b0 : Nat) (a0_0 : Option Addr) (c0_0 : Nat) (x0_0 : List UInt8) (x0_1 : Int) (x1 : Bool)  :
    Fn Try.prog W 106 [.pointer (some ⟨b0, 0, none⟩), .bool x1] [obj b0 143 [.slice a0_0 x0_0.length c0_0, .int .i64 x0_1], Row 5 1 a0_0 x0_0.length c0_0 (encB x0_0)] F (synodref1_Writer_Bool.f k x0_0 x0_1 x1) (fun (r : List UInt8 × Int) (y : Option Addr × Nat) => .tuple #[]) (fun r y => [obj b0 143 [.slice y.1 r.1.length y.2, .int .i64 r.2], Row 5 1 y.1 r.1.length y.2 (encB r.1)]) := by
 unfold synodref1_Writer_Bool.f
 refine fn_intro 9 Try.func106 rfl Try.ntmps106 rfl ?_
 refine sim_seq (sim_region ?_)
 refine simL_val (q_move rfl rfl) rfl rfl rfl (simL_nil (nrm_then ?_))
 refine sim_condb rfl (fun h1v => ?_) (fun h2v => ?_)
 refine sim_region ?_
 refine simL_val (q_move rfl rfl) rfl rfl rfl ?_
 refine simL_bind (fun s3v hs5v => ?_)
 refine simL_eff (re_call (vs := [.pointer (some ⟨b0, 0, none⟩), .int .i64 1]) (cap := []) (A := [obj b0 143 [.slice a0_0 x0_0.length c0_0, .int .i64 x0_1], Row 5 1 a0_0 x0_0.length c0_0 (encB x0_0)]) (rst := [F]) rfl rfl rfl rfl rfl rfl Try.call79 (.sel 0 rfl (.sel 0 rfl (.sel 0 rfl (.nil _)))) (synodref1_Writer_Int.calls _ _ k b0 a0_0 c0_0 x0_0 x0_1 (1 : Int) ) hs5v) rfl rfl rfl ?_
 intro y4v
 refine simL_nil ?_
 exact nrm_fn (y4v.1, y4v.2) rfl rfl rfl (.sel 0 rfl (.sel 0 rfl (.sel 0 rfl (.nil _))))
 refine sim_region ?_
 refine simL_val (q_move rfl rfl) rfl rfl rfl ?_
 refine simL_bind (fun s6v hs8v => ?_)
 refine simL_eff (re_call (vs := [.pointer (some ⟨b0, 0, none⟩), .int .i64 0]) (cap := []) (A := [obj b0 143 [.slice a0_0 x0_0.length c0_0, .int .i64 x0_1], Row 5 1 a0_0 x0_0.length c0_0 (encB x0_0)]) (rst := [F]) rfl rfl rfl rfl rfl rfl Try.call79 (.sel 0 rfl (.sel 0 rfl (.sel 0 rfl (.nil _)))) (synodref1_Writer_Int.calls _ _ k b0 a0_0 c0_0 x0_0 x0_1 (0 : Int) ) hs8v) rfl rfl rfl ?_
 intro y7v
 refine simL_nil ?_
 exact nrm_fn (y7v.1, y7v.2) rfl rfl rfl (.sel 0 rfl (.sel 0 rfl (.sel 0 rfl (.nil _))))

def synodref_Lent.f (x0 : List UInt8) : Option (List UInt8 × List UInt8) := (synodref_Bytes.f x0).bind fun s1v => (if (s1v.length + ([201] : List UInt8).length) * 1 ≤ 140737488355328 then (if 0 ≤ (x0.length : Int) ∧ (x0.length : Int) ≤ ((s1v ++ ([201] : List UInt8)).length : Int) then (some (List.take (x0.length : Int).toNat (s1v ++ ([201] : List UInt8)), List.drop (x0.length : Int).toNat (s1v ++ ([201] : List UInt8)))) else none) else none)
theorem synodref_Lent.calls (W : World) (F : HA) (a0 : Option Addr) (c0 : Nat) (x0 : List UInt8) (h0 : Rd F a0 (encB x0)) (hc0 : x0.length ≤ c0) (hm0 : c0 ≤ maxLen) :
    Fn Try.prog W 28 [.slice a0 x0.length c0] [] F (synodref_Lent.f x0) (fun (r : List UInt8 × List UInt8) (y : Option Addr × Nat) => .slice y.1 r.1.length y.2) (fun r y => [Row 5 1 y.1 r.1.length y.2 (encB (r.1 ++ r.2))]) := by
 unfold synodref_Lent.f
 refine fn_intro 12 Try.func28 rfl Try.ntmps28 rfl ?_
 refine sim_seq (sim_region ?_)
 refine simL_val (q_asg rfl rfl) rfl rfl rfl (simL_nil (nrm_then (sim_seq (sim_region ?_))))
 refine simL_val (q_move rfl rfl) rfl rfl rfl ?_
 refine simL_bind (fun s1v hs3v => ?_)
 refine simL_eff (re_call (vs := [.slice a0 x0.length c0]) (cap := []) (A := []) (rst := [F]) rfl rfl rfl rfl rfl rfl Try.call62 (.sel 0 rfl (.nil _)) (synodref_Bytes.calls _ _ a0 c0 x0 (h0.lend 0 rfl) hc0 hm0) hs3v) rfl rfl rfl ?_
 intro y2v
 refine simL_eff (re_litb (cs := [.int .u8 201]) ([201] : List UInt8) rfl rfl Try.underlying27 elt5 rfl (by kernel_rfl) rfl rfl rfl) rfl rfl rfl ?_
 intro b4v
 refine simL_ask (fun hb7v => ?_)
 refine simL_eff (re_appendb 1 rfl rfl rfl Try.underlying27 elt5 rfl (Rds.row 0 rfl) hb7v) rfl rfl rfl ?_
 intro y6v
 refine simL_val (q_asg rfl rfl) rfl rfl rfl (simL_nil (nrm_then (sim_seq (sim_region ?_))))
 refine simL_val (q_move rfl rfl) rfl rfl rfl ?_
 refine simL_val (q_move rfl rfl) rfl rfl rfl ?_
 refine simL_val (q_len rfl rfl rfl Try.underlying27) rfl rfl rfl ?_
 refine simL_ask (fun hb8v => ?_)
 refine simL_eff (re_cut0 1 rfl rfl rfl Try.underlying27 Try.sizeOf5 rfl hb8v) rfl rfl rfl ?_
 intro _
 refine simL_val (q_asg rfl rfl) rfl rfl rfl (simL_nil (nrm_then (sim_rtn ?_)))
 exact rtn_fn (y6v.1, y6v.2) rfl rfl rfl (.sel 1 rfl (.sel 1 rfl (.nil _)))

def synodref_Kept.f (k : Nat) (x0 : List UInt8) (z0 : List UInt8) (x1 : List UInt8) : Option (Bool) := (synodref_SameBytes.f k x0 x1).bind fun s1v => ((if (s1v && (decide ((x0.length : Int) = (x1.length : Int)))) = true then (if 0 ≤ (0 : Int) ∧ (0 : Int) ≤ IntKind.i64.wrap ((x1.length : Int) + 1) ∧ IntKind.i64.wrap ((x1.length : Int) + 1) ≤ ((x0 ++ z0).length : Int) then (if 0 ≤ (x1.length : Int) ∧ (x1.length : Int) < ((cut (x0 ++ z0) (0 : Int) (IntKind.i64.wrap ((x1.length : Int) + 1))).length : Int) then (some (decide ((((cut (x0 ++ z0) (0 : Int) (IntKind.i64.wrap ((x1.length : Int) + 1))).getD (x1.length : Int).toNat 0).toNat : Int) = (201 : Int)))) else none) else none) else (some false)).bind fun s4v => (some s4v))
theorem synodref_Kept.calls (W : World) (F : HA) (k : Nat) (a0 : Option Addr) (c0 : Nat) (x0 z0 : List UInt8) (a1 : Option Addr) (c1 : Nat) (x1 : List UInt8) (h0 : Rd F a0 (encB (x0 ++ z0))) (hc0 : (x0 ++ z0).length ≤ c0) (hm0 : c0 ≤ maxLen) (h1 : Rd F a1 (encB x1)) (hc1 : x1.length ≤ c1) (hm1 : c1 ≤ maxLen) :
    Fn Try.prog W 31 [.slice a0 x0.length c0, .slice a1 x1.length c1] [] F (synodref_Kept.f k x0 z0 x1) (fun (r : Bool) (y : Unit) => .bool r) (fun r y => []) := by
 unfold synodref_Kept.f
 refine fn_intro 29 Try.func31 rfl Try.ntmps31 rfl ?_
 refine sim_seq (sim_region ?_)
 refine simL_val (q_asg rfl rfl) rfl rfl rfl (simL_nil (nrm_then (sim_seq (sim_region ?_))))
 refine simL_val (q_move rfl rfl) rfl rfl rfl ?_
 refine simL_val (q_move rfl rfl) rfl rfl rfl ?_
 refine simL_bind (fun s1v hs3v => ?_)
 refine simL_eff (re_call (vs := [.slice a0 x0.length c0, .slice a1 x1.length c1]) (cap := []) (A := []) (rst := [F]) rfl rfl rfl rfl rfl rfl Try.call25 (.sel 0 rfl (.nil _)) (synodref_SameBytes.calls _ _ k a0 c0 x0 a1 c1 x1 ((rd_front h0).lend 0 rfl) (front_len hc0) hm0 (h1.lend 0 rfl) hc1 hm1) hs3v) rfl rfl rfl ?_
 intro y2v
 refine simL_val (q_asg rfl rfl) rfl rfl rfl (simL_nil (nrm_then (sim_seq (sim_region ?_))))
 refine simL_val (q_move rfl rfl) rfl rfl rfl ?_
 refine simL_val (q_move rfl rfl) rfl rfl rfl ?_
 refine simL_valc (b := s1v) (fun hb23v => RQ.sub (E' := [(0, .slice a0 x0.length c0)]) ⟨rfl, trivial⟩ (q_move rfl rfl)) rfl rfl rfl rfl rfl ?_
 refine simL_valc (b := s1v) (fun hb22v => RQ.sub (E' := [(11, .slice a0 x0.length c0)]) ⟨lk_cv rfl hb22v, trivial⟩ (q_len rfl rfl rfl Try.underlying27)) rfl rfl rfl rfl rfl ?_
 refine simL_valc (b := s1v) (fun hb21v => RQ.sub (E' := [(1, .slice a1 x1.length c1)]) ⟨rfl, trivial⟩ (q_move rfl rfl)) rfl rfl rfl rfl rfl ?_
 refine simL_valc (b := s1v) (fun hb20v => RQ.sub (E' := [(13, .slice a1 x1.length c1)]) ⟨lk_cv rfl hb20v, trivial⟩ (q_len rfl rfl rfl Try.underlying27)) rfl rfl rfl rfl rfl ?_
 refine simL_valc (b := s1v) (fun hb19v => RQ.sub (E' := [(12, .int .i64 (x0.length : Int)), (14, .int .i64 (x1.length : Int))]) ⟨lk_cv rfl hb19v, lk_cv rfl hb19v, trivial⟩ (q_eql rfl rfl rfl)) rfl rfl rfl rfl rfl ?_
 refine simL_val (q_and rfl rfl rfl) rfl rfl rfl ?_
 refine simL_val (q_move rfl rfl) rfl rfl rfl ?_
 refine simL_cut' 11 (S := Bool) (Unit) (fun s y => [(28, .bool s)]) (fun s y => [F]) ?_ ?_
 refine simL_caseb (fun hb17v => ?_) (fun hb18v => ?_)
 rw [hb17v]
 refine simL_valg (q_move rfl rfl) rfl rfl rfl rfl rfl rfl ?_
 refine simL_valg (q_move rfl rfl) rfl rfl rfl rfl rfl rfl ?_
 refine simL_valg (q_len rfl rfl rfl Try.underlying27) rfl rfl rfl rfl rfl rfl ?_
 refine simL_valg (q_add rfl rfl rfl) rfl rfl rfl rfl rfl rfl ?_
 refine simL_ask (fun hb6v => ?_)
 obtain ⟨a7v, c8v, hS9v, hr10v, hc11v, hm12v⟩ := slice_pre (lo := (0 : Int)) (hi := IntKind.i64.wrap ((x1.length : Int) + 1)) h0 hc0 hb6v
 refine simL_valg (q_sub_ro (l := (x0 ++ z0)) (lo' := (0 : Int)) (hi' := IntKind.i64.wrap ((x1.length : Int) + 1)) rfl rfl rfl rfl Try.underlying27 Try.sizeOf5 (.inr ⟨_, rfl⟩) (.inl ⟨rfl, rfl⟩) hb6v hc0 hS9v) rfl rfl rfl rfl rfl rfl ?_
 refine simL_valg (q_move rfl rfl) rfl rfl rfl rfl rfl rfl ?_
 refine simL_valg (q_len rfl rfl rfl Try.underlying27) rfl rfl rfl rfl rfl rfl ?_
 refine simL_ask (fun hi13v => ?_)
 obtain ⟨b14v, b14vo, ha15v⟩ := hr10v.pos (encB_ne (j := (x1.length : Int).toNat) (by omega))
 refine simL_valg (q_idx1 rfl rfl rfl ha15v Try.underlying27 Try.sizeOf5 hi13v.1 hi13v.2) rfl rfl rfl rfl rfl rfl ?_
 refine simL_valg (q_load rfl rfl Try.isAgg5 (hr10v.cell 0 rfl ha15v (encB_get (by omega)))) rfl rfl rfl rfl rfl rfl ?_
 refine simL_valg (q_eql rfl rfl rfl) rfl rfl rfl rfl rfl rfl ?_
 refine simL_val (q_pick rfl rfl rfl rfl rfl) rfl rfl rfl (simL_nil ?_)
 exact nrm_cut (s := decide ((((cut (x0 ++ z0) (0 : Int) (IntKind.i64.wrap ((x1.length : Int) + 1))).getD (x1.length : Int).toNat 0).toNat : Int) = (201 : Int))) () ⟨rfl, trivial⟩ (.sel 0 rfl (.nil _))
 rw [hb18v]
 refine simL_skipd rfl rfl rfl rfl rfl rfl ?_
 refine simL_skipd rfl rfl rfl rfl rfl rfl ?_
 refine simL_skipd rfl rfl rfl rfl rfl rfl ?_
 refine simL_skipd rfl rfl rfl rfl rfl rfl ?_
 refine simL_skipd rfl rfl rfl rfl rfl rfl ?_
 refine simL_skipd rfl rfl rfl rfl rfl rfl ?_
 refine simL_skipd rfl rfl rfl rfl rfl rfl ?_
 refine simL_skipd rfl rfl rfl rfl rfl rfl ?_
 refine simL_skipd rfl rfl rfl rfl rfl rfl ?_
 refine simL_skipd rfl rfl rfl rfl rfl rfl ?_
 refine simL_val (q_pick rfl rfl rfl rfl rfl) rfl rfl rfl (simL_nil ?_)
 exact nrm_cut (s := false) () ⟨rfl, trivial⟩ (.sel 0 rfl (.nil _))
 intro s4v y5v
 refine simL_val (q_asg rfl rfl) rfl rfl rfl (simL_nil (nrm_then (sim_rtn ?_)))
 exact rtn_fn () rfl rfl rfl (.sel 0 rfl (.nil _))

def synodref3_PutCommand.f (k : Nat) (x0_0 : Int) (x0_1 : Int) (x0_2 : Int) (x0_3 : List UInt8) (x0_4 : List UInt8) (x0_5 : List UInt8) : Option (List UInt8 × Int) := (synodref3_CheckCommand.f x0_0 x0_1 x0_2 x0_3 x0_4 x0_5).bind fun s2v => (if s2v = (0 : Int) then ((synodref1_Writer_Int.f k ([] : List UInt8) (0 : Int) x0_0).bind fun s8v => ((synodref1_Writer_Int.f k s8v.1 s8v.2 x0_1).bind fun s11v => ((synodref1_Writer_Int.f k s11v.1 s11v.2 x0_2).bind fun s14v => ((synodref1_Writer_Text.f k s14v.1 s14v.2 x0_3 (64 : Int)).bind fun s17v => ((synodref1_Writer_Text.f k s17v.1 s17v.2 x0_4 (1024 : Int)).bind fun s20v => ((synodref1_Writer_Text.f k s20v.1 s20v.2 x0_5 (1024 : Int)).bind fun s23v => ((synodref1_Writer_Done_s_c0p0.f s23v.1 s23v.2).bind fun s26v => (some (s26v.1, s26v.2))))))))) else (some (([] : List UInt8), s2v)))
theorem synodref3_PutCommand.calls (W : World) (F : HA) (k : Nat) (x0_0 : Int) (x0_1 : Int) (x0_2 : Int) (x0_3 : List UInt8) (x0_4 : List UInt8) (x0_5 : List UInt8)  :
    Fn Try.prog W 53 [.agg #[.int .i64 x0_0, .int .i64 x0_1, .int .i64 x0_2, str x0_3, str x0_4, str x0_5]] [] F (synodref3_PutCommand.f k x0_0 x0_1 x0_2 x0_3 x0_4 x0_5) (fun (r : List UInt8 × Int) (y : Option Addr × Nat) => .tuple #[.slice y.1 r.1.length y.2, .int .i64 r.2]) (fun r y => [Row 5 1 y.1 r.1.length y.2 (encB r.1)]) := by
 unfold synodref3_PutCommand.f
 refine fn_intro 41 Try.func53 rfl Try.ntmps53 rfl ?_
 refine sim_seq (sim_region ?_)
 refine simL_eff (re_box rfl rfl rfl) rfl rfl rfl ?_
 intro b1v
 refine simL_val (q_asg rfl rfl) rfl rfl rfl ?_
 refine simL_val (q_asg rfl rfl) rfl rfl rfl (simL_nil (nrm_then (sim_seq (sim_region ?_))))
 refine simL_val (q_loado 0 rfl rfl Try.isAgg25 Try.sizeOf25 rfl rfl) rfl rfl rfl ?_
 refine simL_bind (fun s2v hs4v => ?_)
 refine simL_eff (re_call (vs := [.agg #[.int .i64 x0_0, .int .i64 x0_1, .int .i64 x0_2, str x0_3, str x0_4, str x0_5]]) (cap := []) (A := []) (rst := [obj b1v 25 [.int .i64 x0_0, .int .i64 x0_1, .int .i64 x0_2, str x0_3, str x0_4, str x0_5], F]) rfl rfl rfl rfl rfl rfl Try.call17 (.sel 0 rfl (.sel 0 rfl (.nil _))) (synodref3_CheckCommand.calls _ _ x0_0 x0_1 x0_2 x0_3 x0_4 x0_5 ) hs4v) rfl rfl rfl ?_
 intro y3v
 refine simL_val (q_asg rfl rfl) rfl rfl rfl (simL_nil (nrm_then (sim_seq (sim_seq (sim_region ?_)))))
 refine simL_val (q_move rfl rfl) rfl rfl rfl ?_
 refine simL_val (q_neq rfl rfl rfl) rfl rfl rfl (simL_nil (nrm_then ?_))
 refine sim_condn rfl (fun h5v => ?_) (fun h6v => ?_)
 refine sim_skip ?_
 refine nrm_then (sim_seq (sim_region ?_))
 refine simL_val (q_build (v := .agg #[.slice none 0 0, .int .i64 0]) rfl rfl (fun _ => by kernel_rfl)) rfl rfl rfl ?_
 refine simL_eff (re_box rfl rfl rfl) rfl rfl rfl ?_
 intro b7v
 refine simL_val (q_asg rfl rfl) rfl rfl rfl (simL_nil (nrm_then (sim_seq (sim_region ?_))))
 refine simL_val (q_move rfl rfl) rfl rfl rfl ?_
 refine simL_val (q_fa rfl rfl Try.underlying25 rfl rfl Try.sizeOf3 rfl) rfl rfl rfl ?_
 refine simL_val (q_load rfl rfl Try.isAgg3 (.obj 1 rfl rfl)) rfl rfl rfl ?_
 refine simL_bind (fun s8v hs10v => ?_)
 refine simL_eff (re_call (vs := [.pointer (some ⟨b7v, 0, none⟩), .int .i64 x0_0]) (cap := []) (A := [obj b7v 143 [.slice none 0 0, .int .i64 0], Row 5 1 none ([] : List UInt8).length 0 (encB ([] : List UInt8))]) (rst := [obj b1v 25 [.int .i64 x0_0, .int .i64 x0_1, .int .i64 x0_2, str x0_3, str x0_4, str x0_5], F]) rfl rfl rfl rfl rfl rfl Try.call79 (.sel 0 rfl (.row_nil (.sel 0 rfl (.sel 0 rfl (.nil _))))) (synodref1_Writer_Int.calls _ _ k b7v none 0 ([] : List UInt8) (0 : Int) x0_0 ) hs10v) rfl rfl rfl ?_
 intro y9v
 refine simL_nil (nrm_then (sim_seq (sim_region ?_)))
 refine simL_val (q_move rfl rfl) rfl rfl rfl ?_
 refine simL_val (q_fa rfl rfl Try.underlying25 rfl rfl Try.sizeOf3 rfl) rfl rfl rfl ?_
 refine simL_val (q_load rfl rfl Try.isAgg3 (.obj 2 rfl rfl)) rfl rfl rfl ?_
 refine simL_bind (fun s11v hs13v => ?_)
 refine simL_eff (re_call (vs := [.pointer (some ⟨b7v, 0, none⟩), .int .i64 x0_1]) (cap := []) (A := [obj b7v 143 [.slice y9v.1 s8v.1.length y9v.2, .int .i64 s8v.2], Row 5 1 y9v.1 s8v.1.length y9v.2 (encB s8v.1)]) (rst := [obj b1v 25 [.int .i64 x0_0, .int .i64 x0_1, .int .i64 x0_2, str x0_3, str x0_4, str x0_5], F]) rfl rfl rfl rfl rfl rfl Try.call79 (.sel 0 rfl (.sel 0 rfl (.sel 0 rfl (.sel 0 rfl (.nil _))))) (synodref1_Writer_Int.calls _ _ k b7v y9v.1 y9v.2 s8v.1 s8v.2 x0_1 ) hs13v) rfl rfl rfl ?_
 intro y12v
 refine simL_nil (nrm_then (sim_seq (sim_region ?_)))
 refine simL_val (q_move rfl rfl) rfl rfl rfl ?_
 refine simL_val (q_fa rfl rfl Try.underlying25 rfl rfl Try.sizeOf3 rfl) rfl rfl rfl ?_
 refine simL_val (q_load rfl rfl Try.isAgg3 (.obj 2 rfl rfl)) rfl rfl rfl ?_
 refine simL_bind (fun s14v hs16v => ?_)
 refine simL_eff (re_call (vs := [.pointer (some ⟨b7v, 0, none⟩), .int .i64 x0_2]) (cap := []) (A := [obj b7v 143 [.slice y12v.1 s11v.1.length y12v.2, .int .i64 s11v.2], Row 5 1 y12v.1 s11v.1.length y12v.2 (encB s11v.1)]) (rst := [obj b1v 25 [.int .i64 x0_0, .int .i64 x0_1, .int .i64 x0_2, str x0_3, str x0_4, str x0_5], F]) rfl rfl rfl rfl rfl rfl Try.call79 (.sel 0 rfl (.sel 0 rfl (.sel 0 rfl (.sel 0 rfl (.nil _))))) (synodref1_Writer_Int.calls _ _ k b7v y12v.1 y12v.2 s11v.1 s11v.2 x0_2 ) hs16v) rfl rfl rfl ?_
 intro y15v
 refine simL_nil (nrm_then (sim_seq (sim_region ?_)))
 refine simL_val (q_move rfl rfl) rfl rfl rfl ?_
 refine simL_val (q_fa rfl rfl Try.underlying25 rfl rfl Try.sizeOf9 rfl) rfl rfl rfl ?_
 refine simL_val (q_load rfl rfl Try.isAgg9 (.obj 2 rfl rfl)) rfl rfl rfl ?_
 refine simL_bind (fun s17v hs19v => ?_)
 refine simL_eff (re_call (vs := [.pointer (some ⟨b7v, 0, none⟩), str x0_3, .int .i64 64]) (cap := []) (A := [obj b7v 143 [.slice y15v.1 s14v.1.length y15v.2, .int .i64 s14v.2], Row 5 1 y15v.1 s14v.1.length y15v.2 (encB s14v.1)]) (rst := [obj b1v 25 [.int .i64 x0_0, .int .i64 x0_1, .int .i64 x0_2, str x0_3, str x0_4, str x0_5], F]) rfl rfl rfl rfl rfl rfl Try.call98 (.sel 0 rfl (.sel 0 rfl (.sel 0 rfl (.sel 0 rfl (.nil _))))) (synodref1_Writer_Text.calls _ _ k b7v y15v.1 y15v.2 s14v.1 s14v.2 x0_3 (64 : Int) ) hs19v) rfl rfl rfl ?_
 intro y18v
 refine simL_nil (nrm_then (sim_seq (sim_region ?_)))
 refine simL_val (q_move rfl rfl) rfl rfl rfl ?_
 refine simL_val (q_fa rfl rfl Try.underlying25 rfl rfl Try.sizeOf9 rfl) rfl rfl rfl ?_
 refine simL_val (q_load rfl rfl Try.isAgg9 (.obj 2 rfl rfl)) rfl rfl rfl ?_
 refine simL_bind (fun s20v hs22v => ?_)
 refine simL_eff (re_call (vs := [.pointer (some ⟨b7v, 0, none⟩), str x0_4, .int .i64 1024]) (cap := []) (A := [obj b7v 143 [.slice y18v.1 s17v.1.length y18v.2, .int .i64 s17v.2], Row 5 1 y18v.1 s17v.1.length y18v.2 (encB s17v.1)]) (rst := [obj b1v 25 [.int .i64 x0_0, .int .i64 x0_1, .int .i64 x0_2, str x0_3, str x0_4, str x0_5], F]) rfl rfl rfl rfl rfl rfl Try.call98 (.sel 0 rfl (.sel 0 rfl (.sel 0 rfl (.sel 0 rfl (.nil _))))) (synodref1_Writer_Text.calls _ _ k b7v y18v.1 y18v.2 s17v.1 s17v.2 x0_4 (1024 : Int) ) hs22v) rfl rfl rfl ?_
 intro y21v
 refine simL_nil (nrm_then (sim_seq (sim_region ?_)))
 refine simL_val (q_move rfl rfl) rfl rfl rfl ?_
 refine simL_val (q_fa rfl rfl Try.underlying25 rfl rfl Try.sizeOf9 rfl) rfl rfl rfl ?_
 refine simL_val (q_load rfl rfl Try.isAgg9 (.obj 2 rfl rfl)) rfl rfl rfl ?_
 refine simL_bind (fun s23v hs25v => ?_)
 refine simL_eff (re_call (vs := [.pointer (some ⟨b7v, 0, none⟩), str x0_5, .int .i64 1024]) (cap := []) (A := [obj b7v 143 [.slice y21v.1 s20v.1.length y21v.2, .int .i64 s20v.2], Row 5 1 y21v.1 s20v.1.length y21v.2 (encB s20v.1)]) (rst := [obj b1v 25 [.int .i64 x0_0, .int .i64 x0_1, .int .i64 x0_2, str x0_3, str x0_4, str x0_5], F]) rfl rfl rfl rfl rfl rfl Try.call98 (.sel 0 rfl (.sel 0 rfl (.sel 0 rfl (.sel 0 rfl (.nil _))))) (synodref1_Writer_Text.calls _ _ k b7v y21v.1 y21v.2 s20v.1 s20v.2 x0_5 (1024 : Int) ) hs25v) rfl rfl rfl ?_
 intro y24v
 refine simL_nil (nrm_then (sim_seq (sim_region ?_)))
 refine simL_val (q_move rfl rfl) rfl rfl rfl ?_
 refine simL_bind (fun s26v hs28v => ?_)
 refine simL_eff (re_call (vs := [.pointer (some ⟨b7v, 0, none⟩)]) (cap := []) (A := [obj b7v 143 [.slice y24v.1 s23v.1.length y24v.2, .int .i64 s23v.2], Row 5 1 y24v.1 s23v.1.length y24v.2 (encB s23v.1)]) (rst := [obj b1v 25 [.int .i64 x0_0, .int .i64 x0_1, .int .i64 x0_2, str x0_3, str x0_4, str x0_5], F]) rfl rfl rfl rfl rfl rfl Try.call80 (.sel 0 rfl (.sel 0 rfl (.sel 0 rfl (.sel 0 rfl (.nil _))))) (synodref1_Writer_Done_s_c0p0.calls _ _ b7v y24v.1 y24v.2 s23v.1 s23v.2 ) hs28v) rfl rfl rfl ?_
 intro y27v
 refine simL_val (q_ext rfl rfl rfl) rfl rfl rfl ?_
 refine simL_val (q_ext rfl rfl rfl) rfl rfl rfl ?_
 refine simL_val (q_asg rfl rfl) rfl rfl rfl ?_
 refine simL_val (q_asg rfl rfl) rfl rfl rfl (simL_nil (nrm_then (sim_rtn ?_)))
 exact rtn_fn (y27v.1, y27v.2) rfl rfl rfl (.sel 0 rfl (.sel 1 rfl (.nil _)))
 refine sim_seq (sim_region ?_)
 refine simL_val (q_move rfl rfl) rfl rfl rfl ?_
 refine simL_val (q_asg rfl rfl) rfl rfl rfl ?_
 refine simL_val (q_asg rfl rfl) rfl rfl rfl (simL_nil (nrm_then (sim_rtn ?_)))
 refine rtn_then ?_
 exact rtn_fn (none, 0) rfl rfl rfl (.row_nil (.sel 1 rfl (.nil _)))

def synodref3_GetCommand.f (k : Nat) (x0 : List UInt8) : Option (Int × Int × Int × List UInt8 × List UInt8 × List UInt8 × Int) := (synodref1_Reader_Int.f k x0 (0 : Int) (0 : Int)).bind fun s3v => ((synodref1_Reader_Int.f k x0 s3v.2.1 s3v.2.2).bind fun s6v => ((synodref1_Reader_Int.f k x0 s6v.2.1 s6v.2.2).bind fun s9v => ((synodref1_Reader_Text.f k x0 s9v.2.1 s9v.2.2 (64 : Int)).bind fun s12v => ((synodref1_Reader_Text.f k x0 s12v.2.1 s12v.2.2 (1024 : Int)).bind fun s15v => ((synodref1_Reader_Text.f k x0 s15v.2.1 s15v.2.2 (1024 : Int)).bind fun s18v => ((synodref1_Reader_Done.f x0 s18v.2.1 s18v.2.2).bind fun s22v => ((if s22v = (0 : Int) then ((synodref3_CheckCommand.f s3v.1 s6v.1 s9v.1 s12v.1 s15v.1 s18v.1).bind fun s29v => (some s29v)) else (some s22v)).bind fun s25v => (if s25v = (0 : Int) then (some (s3v.1, s6v.1, s9v.1, s12v.1, s15v.1, s18v.1, s25v)) else (some (0, 0, 0, ([] : List UInt8), ([] : List UInt8), ([] : List UInt8), s25v))))))))))
theorem synodref3_GetCommand.calls (W : World) (F : HA) (k : Nat) (a0 : Option Addr) (c0 : Nat) (x0 : List UInt8) (h0 : Rd F a0 (encB x0)) (hc0 : x0.length ≤ c0) (hm0 : c0 ≤ maxLen) :
    Fn Try.prog W 56 [.slice a0 x0.length c0] [] F (synodref3_GetCommand.f k x0) (fun (r : Int × Int × Int × List UInt8 × List UInt8 × List UInt8 × Int) (y : Unit) => .tuple #[.agg #[.int .i64 r.1, .int .i64 r.2.1, .int .i64 r.2.2.1, str r.2.2.2.1, str r.2.2.2.2.1, str r.2.2.2.2.2.1], .int .i64 r.2.2.2.2.2.2]) (fun r y => []) := by
 unfold synodref3_GetCommand.f
 refine fn_intro 35 Try.func56 rfl Try.ntmps56 rfl ?_
 refine sim_seq (sim_region ?_)
 refine simL_eff (re_alloc rfl Try.zeroValue25 rfl) rfl rfl rfl ?_
 intro b1v
 refine simL_val (q_asg rfl rfl) rfl rfl rfl (simL_nil (nrm_then (sim_seq (sim_region ?_))))
 refine simL_val (q_move rfl rfl) rfl rfl rfl ?_
 refine simL_val (q_build (v := .agg #[.slice a0 x0.length c0, .int .i64 0, .int .i64 0]) rfl rfl (fun _ => by kernel_rfl)) rfl rfl rfl ?_
 refine simL_eff (re_box rfl rfl rfl) rfl rfl rfl ?_
 intro b2v
 refine simL_val (q_asg rfl rfl) rfl rfl rfl (simL_nil (nrm_then (sim_seq (sim_region ?_))))
 refine simL_val (q_move rfl rfl) rfl rfl rfl ?_
 refine simL_bind (fun s3v hs5v => ?_)
 refine simL_eff (re_call (vs := [.pointer (some ⟨b2v, 0, none⟩)]) (cap := []) (A := [obj b2v 152 [.slice a0 x0.length c0, .int .i64 0, .int .i64 0]]) (rst := [obj b1v 25 [.int .i64 0, .int .i64 0, .int .i64 0, str ([] : List UInt8), str ([] : List UInt8), str ([] : List UInt8)], F]) rfl rfl rfl rfl rfl rfl Try.call85 (.sel 0 rfl (.sel 0 rfl (.sel 0 rfl (.nil _)))) (synodref1_Reader_Int.calls _ _ k b2v a0 c0 x0 (0 : Int) (0 : Int) (h0.lend 1 rfl) hc0 hm0) hs5v) rfl rfl rfl ?_
 intro y4v
 refine simL_val (q_move rfl rfl) rfl rfl rfl ?_
 refine simL_bind (fun s6v hs8v => ?_)
 refine simL_eff (re_call (vs := [.pointer (some ⟨b2v, 0, none⟩)]) (cap := []) (A := [obj b2v 152 [.slice a0 x0.length c0, .int .i64 s3v.2.1, .int .i64 s3v.2.2]]) (rst := [obj b1v 25 [.int .i64 0, .int .i64 0, .int .i64 0, str ([] : List UInt8), str ([] : List UInt8), str ([] : List UInt8)], F]) rfl rfl rfl rfl rfl rfl Try.call85 (.sel 0 rfl (.sel 0 rfl (.sel 0 rfl (.nil _)))) (synodref1_Reader_Int.calls _ _ k b2v a0 c0 x0 s3v.2.1 s3v.2.2 (h0.lend 1 rfl) hc0 hm0) hs8v) rfl rfl rfl ?_
 intro y7v
 refine simL_val (q_move rfl rfl) rfl rfl rfl ?_
 refine simL_bind (fun s9v hs11v => ?_)
 refine simL_eff (re_call (vs := [.pointer (some ⟨b2v, 0, none⟩)]) (cap := []) (A := [obj b2v 152 [.slice a0 x0.length c0, .int .i64 s6v.2.1, .int .i64 s6v.2.2]]) (rst := [obj b1v 25 [.int .i64 0, .int .i64 0, .int .i64 0, str ([] : List UInt8), str ([] : List UInt8), str ([] : List UInt8)], F]) rfl rfl rfl rfl rfl rfl Try.call85 (.sel 0 rfl (.sel 0 rfl (.sel 0 rfl (.nil _)))) (synodref1_Reader_Int.calls _ _ k b2v a0 c0 x0 s6v.2.1 s6v.2.2 (h0.lend 1 rfl) hc0 hm0) hs11v) rfl rfl rfl ?_
 intro y10v
 refine simL_val (q_move rfl rfl) rfl rfl rfl ?_
 refine simL_bind (fun s12v hs14v => ?_)
 refine simL_eff (re_call (vs := [.pointer (some ⟨b2v, 0, none⟩), .int .i64 64]) (cap := []) (A := [obj b2v 152 [.slice a0 x0.length c0, .int .i64 s9v.2.1, .int .i64 s9v.2.2]]) (rst := [obj b1v 25 [.int .i64 0, .int .i64 0, .int .i64 0, str ([] : List UInt8), str ([] : List UInt8), str ([] : List UInt8)], F]) rfl rfl rfl rfl rfl rfl Try.call101 (.sel 0 rfl (.sel 0 rfl (.sel 0 rfl (.nil _)))) (synodref1_Reader_Text.calls _ _ k b2v a0 c0 x0 s9v.2.1 s9v.2.2 (64 : Int) (h0.lend 1 rfl) hc0 hm0) hs14v) rfl rfl rfl ?_
 intro y13v
 refine simL_val (q_move rfl rfl) rfl rfl rfl ?_
 refine simL_bind (fun s15v hs17v => ?_)
 refine simL_eff (re_call (vs := [.pointer (some ⟨b2v, 0, none⟩), .int .i64 1024]) (cap := []) (A := [obj b2v 152 [.slice a0 x0.length c0, .int .i64 s12v.2.1, .int .i64 s12v.2.2]]) (rst := [obj b1v 25 [.int .i64 0, .int .i64 0, .int .i64 0, str ([] : List UInt8), str ([] : List UInt8), str ([] : List UInt8)], F]) rfl rfl rfl rfl rfl rfl Try.call101 (.sel 0 rfl (.sel 0 rfl (.sel 0 rfl (.nil _)))) (synodref1_Reader_Text.calls _ _ k b2v a0 c0 x0 s12v.2.1 s12v.2.2 (1024 : Int) (h0.lend 1 rfl) hc0 hm0) hs17v) rfl rfl rfl ?_
 intro y16v
 refine simL_val (q_move rfl rfl) rfl rfl rfl ?_
 refine simL_bind (fun s18v hs20v => ?_)
 refine simL_eff (re_call (vs := [.pointer (some ⟨b2v, 0, none⟩), .int .i64 1024]) (cap := []) (A := [obj b2v 152 [.slice a0 x0.length c0, .int .i64 s15v.2.1, .int .i64 s15v.2.2]]) (rst := [obj b1v 25 [.int .i64 0, .int .i64 0, .int .i64 0, str ([] : List UInt8), str ([] : List UInt8), str ([] : List UInt8)], F]) rfl rfl rfl rfl rfl rfl Try.call101 (.sel 0 rfl (.sel 0 rfl (.sel 0 rfl (.nil _)))) (synodref1_Reader_Text.calls _ _ k b2v a0 c0 x0 s15v.2.1 s15v.2.2 (1024 : Int) (h0.lend 1 rfl) hc0 hm0) hs20v) rfl rfl rfl ?_
 intro y19v
 refine simL_val (q_build (v := .agg #[.int .i64 s3v.1, .int .i64 s6v.1, .int .i64 s9v.1, str s12v.1, str s15v.1, str s18v.1]) rfl rfl (fun _ => by kernel_rfl)) rfl rfl rfl ?_
 refine simL_eff (re_alloc rfl Try.zeroValue25 rfl) rfl rfl rfl ?_
 intro b21v
 refine simL_do (re_store 0 rfl rfl rfl Try.sizeOf25 rfl rfl (one_of (by rfl)) rfl rfl) rfl rfl ?_
 intro _
 refine simL_ent (H' := [obj b21v 25 [.int .i64 s3v.1, .int .i64 s6v.1, .int .i64 s9v.1, str s12v.1, str s15v.1, str s18v.1], obj b2v 152 [.slice a0 x0.length c0, .int .i64 s18v.2.1, .int .i64 s18v.2.2], obj b1v 25 [.int .i64 0, .int .i64 0, .int .i64 0, str ([] : List UInt8), str ([] : List UInt8), str ([] : List UInt8)], F]) (Ent.refl _) ?_
 refine simL_nil (nrm_then (sim_seq (sim_region ?_)))
 refine simL_val (q_move rfl rfl) rfl rfl rfl ?_
 refine simL_bind (fun s22v hs24v => ?_)
 refine simL_eff (re_call (vs := [.pointer (some ⟨b2v, 0, none⟩)]) (cap := []) (A := [obj b2v 152 [.slice a0 x0.length c0, .int .i64 s18v.2.1, .int .i64 s18v.2.2]]) (rst := [obj b21v 25 [.int .i64 s3v.1, .int .i64 s6v.1, .int .i64 s9v.1, str s12v.1, str s15v.1, str s18v.1], obj b1v 25 [.int .i64 0, .int .i64 0, .int .i64 0, str ([] : List UInt8), str ([] : List UInt8), str ([] : List UInt8)], F]) rfl rfl rfl rfl rfl rfl Try.call86 (.sel 1 rfl (.sel 0 rfl (.sel 0 rfl (.sel 0 rfl (.nil _))))) (synodref1_Reader_Done.calls _ _ b2v a0 c0 x0 s18v.2.1 s18v.2.2 (h0.lend 2 rfl) hc0 hm0) hs24v) rfl rfl rfl ?_
 intro y23v
 refine simL_val (q_asg rfl rfl) rfl rfl rfl (simL_nil (nrm_then ?_))
 refine sim_cut (S := Int) (Unit) (fun s y => [(2, .pointer (some ⟨b1v, 0, none⟩)), (5, .pointer (some ⟨b21v, 0, none⟩)), (6, .int .i64 s)]) (fun s y => [obj b21v 25 [.int .i64 s3v.1, .int .i64 s6v.1, .int .i64 s9v.1, str s12v.1, str s15v.1, str s18v.1], obj b1v 25 [.int .i64 0, .int .i64 0, .int .i64 0, str ([] : List UInt8), str ([] : List UInt8), str ([] : List UInt8)], F]) ?_ ?_
 refine sim_seq (sim_region ?_)
 refine simL_val (q_move rfl rfl) rfl rfl rfl ?_
 refine simL_val (q_eql rfl rfl rfl) rfl rfl rfl (simL_nil (nrm_then ?_))
 refine sim_cond rfl (fun h27v => ?_) (fun h28v => ?_)
 refine sim_region ?_
 refine simL_val (q_loado 1 rfl rfl Try.isAgg25 Try.sizeOf25 rfl rfl) rfl rfl rfl ?_
 refine simL_bind (fun s29v hs31v => ?_)
 refine simL_eff (re_call (vs := [.agg #[.int .i64 s3v.1, .int .i64 s6v.1, .int .i64 s9v.1, str s12v.1, str s15v.1, str s18v.1]]) (cap := []) (A := []) (rst := [obj b2v 152 [.slice a0 x0.length c0, .int .i64 s18v.2.1, .int .i64 s18v.2.2], obj b21v 25 [.int .i64 s3v.1, .int .i64 s6v.1, .int .i64 s9v.1, str s12v.1, str s15v.1, str s18v.1], obj b1v 25 [.int .i64 0, .int .i64 0, .int .i64 0, str ([] : List UInt8), str ([] : List UInt8), str ([] : List UInt8)], F]) rfl rfl rfl rfl rfl rfl Try.call17 (.sel 0 rfl (.sel 0 rfl (.sel 0 rfl (.sel 0 rfl (.nil _))))) (synodref3_CheckCommand.calls _ _ s3v.1 s6v.1 s9v.1 s12v.1 s15v.1 s18v.1 ) hs31v) rfl rfl rfl ?_
 intro y30v
 refine simL_val (q_asg rfl rfl) rfl rfl rfl (simL_nil ?_)
 exact nrm_cut (s := s29v) () ⟨rfl, rfl, rfl, trivial⟩ (.sel 1 rfl (.sel 1 rfl (.sel 1 rfl (.nil _))))
 refine sim_skip ?_
 exact nrm_cut (s := s22v) () ⟨rfl, rfl, rfl, trivial⟩ (.sel 1 rfl (.sel 1 rfl (.sel 1 rfl (.nil _))))
 intro s25v y26v
 refine sim_seq (sim_seq (sim_region ?_))
 refine simL_val (q_move rfl rfl) rfl rfl rfl ?_
 refine simL_val (q_neq rfl rfl rfl) rfl rfl rfl (simL_nil (nrm_then ?_))
 refine sim_condn rfl (fun h32v => ?_) (fun h33v => ?_)
 refine sim_skip ?_
 refine nrm_then (sim_seq (sim_region ?_))
 refine simL_val (q_loado 0 rfl rfl Try.isAgg25 Try.sizeOf25 rfl rfl) rfl rfl rfl ?_
 refine simL_val (q_move rfl rfl) rfl rfl rfl ?_
 refine simL_do (re_store 1 rfl rfl rfl Try.sizeOf25 rfl rfl (one_of (by rfl)) rfl rfl) rfl rfl ?_
 intro _
 refine simL_ent (H' := [obj b21v 25 [.int .i64 s3v.1, .int .i64 s6v.1, .int .i64 s9v.1, str s12v.1, str s15v.1, str s18v.1], obj b1v 25 [.int .i64 s3v.1, .int .i64 s6v.1, .int .i64 s9v.1, str s12v.1, str s15v.1, str s18v.1], F]) (Ent.refl _) ?_
 refine simL_val (q_asg rfl rfl) rfl rfl rfl (simL_nil (nrm_then (sim_rtn ?_)))
 exact rtn_fnC (vs := [.agg #[.int .i64 s3v.1, .int .i64 s6v.1, .int .i64 s9v.1, str s12v.1, str s15v.1, str s18v.1], .int .i64 s25v]) () rfl ⟨⟨b1v, rfl, load_agg 1 Try.isAgg25 Try.sizeOf25 rfl rfl⟩, rfl, trivial⟩ rfl (.sel 2 rfl (.nil _))
 refine sim_seq (sim_region ?_)
 refine simL_val (q_build (v := .agg #[.int .i64 0, .int .i64 0, .int .i64 0, str ([] : List UInt8), str ([] : List UInt8), str ([] : List UInt8)]) rfl rfl (fun _ => by kernel_rfl)) rfl rfl rfl ?_
 refine simL_val (q_move rfl rfl) rfl rfl rfl ?_
 refine simL_do (re_store 1 rfl rfl rfl Try.sizeOf25 rfl rfl (one_of (by rfl)) rfl rfl) rfl rfl ?_
 intro _
 refine simL_ent (H' := [obj b21v 25 [.int .i64 s3v.1, .int .i64 s6v.1, .int .i64 s9v.1, str s12v.1, str s15v.1, str s18v.1], obj b1v 25 [.int .i64 0, .int .i64 0, .int .i64 0, str ([] : List UInt8), str ([] : List UInt8), str ([] : List UInt8)], F]) (Ent.refl _) ?_
 refine simL_val (q_asg rfl rfl) rfl rfl rfl (simL_nil (nrm_then (sim_rtn ?_)))
 refine rtn_then ?_
 exact rtn_fnC (vs := [.agg #[.int .i64 0, .int .i64 0, .int .i64 0, str ([] : List UInt8), str ([] : List UInt8), str ([] : List UInt8)], .int .i64 s25v]) () rfl ⟨⟨b1v, rfl, load_agg 1 Try.isAgg25 Try.sizeOf25 rfl rfl⟩, rfl, trivial⟩ rfl (.sel 2 rfl (.nil _))

def codec_last_Command_Commands.f (xp0_0 : List UInt8) (xp0_1 : Int) (xp0_2 : Int) (x2_0 : Int) (x2_1 : Int) (x2_2 : Int) (x2_3 : List UInt8) (x2_4 : List UInt8) (x2_5 : List UInt8) : Option (Int × Int × Int × List UInt8 × List UInt8 × List UInt8 × Int) := (wire_Reader_Done.f xp0_0 xp0_1 xp0_2).bind fun s3v => ((if s3v = (0 : Int) then ((codec_Commands_Check.f x2_0 x2_1 x2_2 x2_3 x2_4 x2_5).bind fun s10v => (some s10v)) else (some s3v)).bind fun s6v => (if s6v = (0 : Int) then (some (x2_0, x2_1, x2_2, x2_3, x2_4, x2_5, 0)) else (some (0, 0, 0, ([] : List UInt8), ([] : List UInt8), ([] : List UInt8), s6v))))
theorem codec_last_Command_Commands.calls (W : World) (F : HA) (bp0 : Nat) (ap0_0 : Option Addr) (cp0_0 : Nat) (xp0_0 : List UInt8) (xp0_1 : Int) (xp0_2 : Int) (x2_0 : Int) (x2_1 : Int) (x2_2 : Int) (x2_3 : List UInt8) (x2_4 : List UInt8) (x2_5 : List UInt8) (hp0_0 : Rd F ap0_0 (encB xp0_0)) (hcp0_0 : xp0_0.length ≤ cp0_0) (hmp0_0 : cp0_0 ≤ maxLen) :
    Fn Try.prog W 103 [.pointer (some ⟨bp0, 0, none⟩), .iface 42 (.agg #[]), .agg #[.int .i64 x2_0, .int .i64 x2_1, .int .i64 x2_2, str x2_3, str x2_4, str x2_5]] [obj bp0 194 [.slice ap0_0 xp0_0.length cp0_0, .int .i64 xp0_1, .int .i64 xp0_2]] F (codec_last_Command_Commands.f xp0_0 xp0_1 xp0_2 x2_0 x2_1 x2_2 x2_3 x2_4 x2_5) (fun (r : Int × Int × Int × List UInt8 × List UInt8 × List UInt8 × Int) (y : Unit) => .tuple #[.agg #[.int .i64 r.1, .int .i64 r.2.1, .int .i64 r.2.2.1, str r.2.2.2.1, str r.2.2.2.2.1, str r.2.2.2.2.2.1], .int .i64 r.2.2.2.2.2.2]) (fun r y => [obj bp0 194 [.slice ap0_0 xp0_0.length cp0_0, .int .i64 xp0_1, .int .i64 xp0_2]]) := by
 unfold codec_last_Command_Commands.f
 refine fn_intro 22 Try.func103 rfl Try.ntmps103 rfl ?_
 refine sim_seq (sim_region ?_)
 refine simL_eff (re_box rfl rfl rfl) rfl rfl rfl ?_
 intro b1v
 refine simL_eff (re_alloc rfl Try.zeroValue25 rfl) rfl rfl rfl ?_
 intro b2v
 refine simL_val (q_asg rfl rfl) rfl rfl rfl (simL_nil (nrm_then (sim_seq (sim_region ?_))))
 refine simL_val (q_move rfl rfl) rfl rfl rfl ?_
 refine simL_bind (fun s3v hs5v => ?_)
 refine simL_eff (re_call (vs := [.pointer (some ⟨bp0, 0, none⟩)]) (cap := []) (A := [obj bp0 194 [.slice ap0_0 xp0_0.length cp0_0, .int .i64 xp0_1, .int .i64 xp0_2]]) (rst := [obj b2v 25 [.int .i64 0, .int .i64 0, .int .i64 0, str ([] : List UInt8), str ([] : List UInt8), str ([] : List UInt8)], obj b1v 25 [.int .i64 x2_0, .int .i64 x2_1, .int .i64 x2_2, str x2_3, str x2_4, str x2_5], F]) rfl rfl rfl rfl rfl rfl Try.call124 (.sel 2 rfl (.sel 0 rfl (.sel 0 rfl (.sel 0 rfl (.nil _))))) (wire_Reader_Done.calls _ _ bp0 ap0_0 cp0_0 xp0_0 xp0_1 xp0_2 (hp0_0.lend 2 rfl) hcp0_0 hmp0_0) hs5v) rfl rfl rfl ?_
 intro y4v
 refine simL_val (q_asg rfl rfl) rfl rfl rfl (simL_nil (nrm_then ?_))
 refine sim_cut (S := Int) (Unit) (fun s y => [(5, .pointer (some ⟨b1v, 0, none⟩)), (6, .pointer (some ⟨b2v, 0, none⟩)), (8, .int .i64 s)]) (fun s y => [obj bp0 194 [.slice ap0_0 xp0_0.length cp0_0, .int .i64 xp0_1, .int .i64 xp0_2], obj b2v 25 [.int .i64 0, .int .i64 0, .int .i64 0, str ([] : List UInt8), str ([] : List UInt8), str ([] : List UInt8)], obj b1v 25 [.int .i64 x2_0, .int .i64 x2_1, .int .i64 x2_2, str x2_3, str x2_4, str x2_5], F]) ?_ ?_
 refine sim_seq (sim_region ?_)
 refine simL_val (q_move rfl rfl) rfl rfl rfl ?_
 refine simL_val (q_eql rfl rfl rfl) rfl rfl rfl (simL_nil (nrm_then ?_))
 refine sim_cond rfl (fun h8v => ?_) (fun h9v => ?_)
 refine sim_region ?_
 refine simL_val (q_move rfl rfl) rfl rfl rfl ?_
 refine simL_val (q_loado 2 rfl rfl Try.isAgg25 Try.sizeOf25 rfl rfl) rfl rfl rfl ?_
 refine simL_bind (fun s10v hs12v => ?_)
 refine simL_eff (re_invoke (vs := [.agg #[.int .i64 x2_0, .int .i64 x2_1, .int .i64 x2_2, str x2_3, str x2_4, str x2_5]]) (A := []) (rst := [obj bp0 194 [.slice ap0_0 xp0_0.length cp0_0, .int .i64 xp0_1, .int .i64 xp0_2], obj b2v 25 [.int .i64 0, .int .i64 0, .int .i64 0, str ([] : List UInt8), str ([] : List UInt8), str ([] : List UInt8)], obj b1v 25 [.int .i64 x2_0, .int .i64 x2_1, .int .i64 x2_2, str x2_3, str x2_4, str x2_5], F]) rfl rfl rfl rfl rfl (fun _ => by kernel_rfl) Try.call54 (.sel 0 rfl (.sel 0 rfl (.sel 0 rfl (.sel 0 rfl (.nil _))))) (codec_Commands_Check.calls _ _ x2_0 x2_1 x2_2 x2_3 x2_4 x2_5 ) hs12v) rfl rfl rfl ?_
 intro y11v
 refine simL_val (q_asg rfl rfl) rfl rfl rfl (simL_nil ?_)
 exact nrm_cut (s := s10v) () ⟨rfl, rfl, rfl, trivial⟩ (.sel 0 rfl (.sel 0 rfl (.sel 0 rfl (.sel 0 rfl (.nil _)))))
 refine sim_skip ?_
 exact nrm_cut (s := s3v) () ⟨rfl, rfl, rfl, trivial⟩ (.sel 0 rfl (.sel 0 rfl (.sel 0 rfl (.sel 0 rfl (.nil _)))))
 intro s6v y7v
 refine sim_seq (sim_seq (sim_region ?_))
 refine simL_val (q_move rfl rfl) rfl rfl rfl ?_
 refine simL_val (q_neq rfl rfl rfl) rfl rfl rfl (simL_nil (nrm_then ?_))
 refine sim_condn rfl (fun h13v => ?_) (fun h14v => ?_)
 refine sim_skip ?_
 refine nrm_then (sim_seq (sim_region ?_))
 refine simL_val (q_loado 2 rfl rfl Try.isAgg25 Try.sizeOf25 rfl rfl) rfl rfl rfl ?_
 refine simL_do (re_store 1 rfl rfl rfl Try.sizeOf25 rfl rfl (one_of (by rfl)) rfl rfl) rfl rfl ?_
 intro _
 refine simL_ent (H' := [obj bp0 194 [.slice ap0_0 xp0_0.length cp0_0, .int .i64 xp0_1, .int .i64 xp0_2], obj b2v 25 [.int .i64 x2_0, .int .i64 x2_1, .int .i64 x2_2, str x2_3, str x2_4, str x2_5], obj b1v 25 [.int .i64 x2_0, .int .i64 x2_1, .int .i64 x2_2, str x2_3, str x2_4, str x2_5], F]) (Ent.refl _) ?_
 refine simL_val (q_asg rfl rfl) rfl rfl rfl (simL_nil (nrm_then (sim_rtn ?_)))
 exact rtn_fnC (vs := [.agg #[.int .i64 x2_0, .int .i64 x2_1, .int .i64 x2_2, str x2_3, str x2_4, str x2_5], .int .i64 0]) () rfl ⟨⟨b2v, rfl, load_agg 1 Try.isAgg25 Try.sizeOf25 rfl rfl⟩, rfl, trivial⟩ rfl (.sel 0 rfl (.sel 2 rfl (.nil _)))
 refine sim_seq (sim_region ?_)
 refine simL_eff (re_alloc rfl Try.zeroValue25 rfl) rfl rfl rfl ?_
 intro b15v
 refine simL_nil (nrm_then (sim_seq (sim_region ?_)))
 refine simL_val (q_loado 0 rfl rfl Try.isAgg25 Try.sizeOf25 rfl rfl) rfl rfl rfl ?_
 refine simL_val (q_move rfl rfl) rfl rfl rfl ?_
 refine simL_do (re_store 2 rfl rfl rfl Try.sizeOf25 rfl rfl (one_of (by rfl)) rfl rfl) rfl rfl ?_
 intro _
 refine simL_ent (H' := [obj b15v 25 [.int .i64 0, .int .i64 0, .int .i64 0, str ([] : List UInt8), str ([] : List UInt8), str ([] : List UInt8)], obj bp0 194 [.slice ap0_0 xp0_0.length cp0_0, .int .i64 xp0_1, .int .i64 xp0_2], obj b2v 25 [.int .i64 0, .int .i64 0, .int .i64 0, str ([] : List UInt8), str ([] : List UInt8), str ([] : List UInt8)], obj b1v 25 [.int .i64 x2_0, .int .i64 x2_1, .int .i64 x2_2, str x2_3, str x2_4, str x2_5], F]) (Ent.refl _) ?_
 refine simL_val (q_asg rfl rfl) rfl rfl rfl (simL_nil (nrm_then (sim_rtn ?_)))
 refine rtn_then ?_
 exact rtn_fnC (vs := [.agg #[.int .i64 0, .int .i64 0, .int .i64 0, str ([] : List UInt8), str ([] : List UInt8), str ([] : List UInt8)], .int .i64 s6v]) () rfl ⟨⟨b2v, rfl, load_agg 2 Try.isAgg25 Try.sizeOf25 rfl rfl⟩, rfl, trivial⟩ rfl (.sel 1 rfl (.sel 3 rfl (.nil _)))
def codec_last_Command_Commands.v (xp0_0 : List UInt8) (xp0_1 : Int) (xp0_2 : Int) (x2_0 : Int) (x2_1 : Int) (x2_2 : Int) (x2_3 : List UInt8) (x2_4 : List UInt8) (x2_5 : List UInt8) : Int × Int × Int × List UInt8 × List UInt8 × List UInt8 × Int := (codec_last_Command_Commands.f xp0_0 xp0_1 xp0_2 x2_0 x2_1 x2_2 x2_3 x2_4 x2_5).getD (0, 0, 0, [], [], [], 0)
theorem codec_last_Command_Commands.tot (xp0_0 : List UInt8) (xp0_1 : Int) (xp0_2 : Int) (x2_0 : Int) (x2_1 : Int) (x2_2 : Int) (x2_3 : List UInt8) (x2_4 : List UInt8) (x2_5 : List UInt8) : codec_last_Command_Commands.f xp0_0 xp0_1 xp0_2 x2_0 x2_1 x2_2 x2_3 x2_4 x2_5 = some (codec_last_Command_Commands.v xp0_0 xp0_1 xp0_2 x2_0 x2_1 x2_2 x2_3 x2_4 x2_5) := by
  have h : ∃ r, codec_last_Command_Commands.f xp0_0 xp0_1 xp0_2 x2_0 x2_1 x2_2 x2_3 x2_4 x2_5 = some r := by
    unfold codec_last_Command_Commands.f
    repeat' (first | exact ⟨_, rfl⟩ | split | simp only [Option.bind_some, wire_Reader_Done.tot, codec_Commands_Check.tot])
  obtain ⟨r, h⟩ := h
  unfold codec_last_Command_Commands.v
  rw [h]; rfl

def codec_Commands_Get.f (k : Nat) (x1 : List UInt8) : Option (Int × Int × Int × List UInt8 × List UInt8 × List UInt8 × Int) := (wire_NewReader.f x1).bind fun s3v => ((wire_Reader_Int.f k s3v.1 s3v.2.1 s3v.2.2).bind fun s10v => ((wire_Reader_Int.f k s3v.1 s10v.2.1 s10v.2.2).bind fun s17v => ((wire_Reader_Int.f k s3v.1 s17v.2.1 s17v.2.2).bind fun s24v => ((wire_Reader_Text.f k s3v.1 s24v.2.1 s24v.2.2 (64 : Int)).bind fun s31v => ((wire_Reader_Text.f k s3v.1 s31v.2.1 s31v.2.2 (1024 : Int)).bind fun s38v => ((wire_Reader_Text.f k s3v.1 s38v.2.1 s38v.2.2 (1024 : Int)).bind fun s45v => ((codec_last_Command_Commands.f s3v.1 s45v.2.1 s45v.2.2 s10v.1 s17v.1 s24v.1 s31v.1 s38v.1 s45v.1).bind fun s53v => (some (s53v.1, s53v.2.1, s53v.2.2.1, s53v.2.2.2.1, s53v.2.2.2.2.1, s53v.2.2.2.2.2.1, s53v.2.2.2.2.2.2)))))))))
theorem codec_Commands_Get.calls (W : World) (F : HA) (k : Nat) (a1 : Option Addr) (c1 : Nat) (x1 : List UInt8) (h1 : Rd F a1 (encB x1)) (hc1 : x1.length ≤ c1) (hm1 : c1 ≤ maxLen) :
    Fn Try.prog W 55 [.agg #[], .slice a1 x1.length c1] [] F (codec_Commands_Get.f k x1) (fun (r : Int × Int × Int × List UInt8 × List UInt8 × List UInt8 × Int) (y : Unit) => .tuple #[.agg #[.int .i64 r.1, .int .i64 r.2.1, .int .i64 r.2.2.1, str r.2.2.2.1, str r.2.2.2.2.1, str r.2.2.2.2.2.1], .int .i64 r.2.2.2.2.2.2]) (fun r y => []) := by
 unfold codec_Commands_Get.f
 refine fn_intro 30 Try.func55 rfl Try.ntmps55 rfl ?_
 refine sim_seq (sim_region ?_)
 refine simL_eff (re_box rfl rfl rfl) rfl rfl rfl ?_
 intro b1v
 refine simL_eff (re_alloc rfl Try.zeroValue25 rfl) rfl rfl rfl ?_
 intro b2v
 refine simL_val (q_asg rfl rfl) rfl rfl rfl (simL_nil (nrm_then (sim_seq (sim_region ?_))))
 refine simL_val (q_move rfl rfl) rfl rfl rfl ?_
 refine simL_bind (fun s3v hs5v => ?_)
 refine simL_eff (re_call (vs := [.slice a1 x1.length c1]) (cap := []) (A := []) (rst := [obj b2v 25 [.int .i64 0, .int .i64 0, .int .i64 0, str ([] : List UInt8), str ([] : List UInt8), str ([] : List UInt8)], obj b1v 42 [], F]) rfl rfl rfl rfl rfl rfl Try.call82 (.sel 0 rfl (.sel 0 rfl (.sel 0 rfl (.nil _)))) (wire_NewReader.calls _ _ a1 c1 x1 (h1.lend 2 rfl) hc1 hm1) hs5v) rfl rfl rfl ?_
 intro y4v
 refine simL_val (q_asg rfl rfl) rfl rfl rfl (simL_nil (nrm_then (sim_seq (sim_region ?_))))
 refine simL_val (q_move rfl rfl) rfl rfl rfl ?_
 refine simL_bind (fun s10v hs12v => ?_)
 refine simL_lend 1 rfl (fun hq6v hq7v hq8v hq9v => ?_)
 refine simL_eff (re_call (vs := [.pointer (some ⟨y4v.1, 0, none⟩)]) (cap := []) (A := [obj y4v.1 194 [.slice y4v.2.1 s3v.1.length y4v.2.2, .int .i64 s3v.2.1, .int .i64 s3v.2.2]]) (rst := [Row 5 1 y4v.2.1 s3v.1.length y4v.2.2 (encB s3v.1), obj b2v 25 [.int .i64 0, .int .i64 0, .int .i64 0, str ([] : List UInt8), str ([] : List UInt8), str ([] : List UInt8)], obj b1v 42 [], F]) rfl rfl rfl rfl rfl rfl Try.call83 (.sel 0 rfl (.sel 0 rfl (.sel 0 rfl (.sel 0 rfl (.sel 0 rfl (.nil _)))))) (wire_Reader_Int.calls _ _ k y4v.1 y4v.2.1 y4v.2.2 s3v.1 s3v.2.1 s3v.2.2 (hq6v.lend 0 rfl) hq7v hq8v) hs12v) rfl rfl rfl ?_
 intro y11v
 refine simL_val (q_move rfl rfl) rfl rfl rfl ?_
 refine simL_bind (fun s17v hs19v => ?_)
 refine simL_lend 1 rfl (fun hq13v hq14v hq15v hq16v => ?_)
 refine simL_eff (re_call (vs := [.pointer (some ⟨y4v.1, 0, none⟩)]) (cap := []) (A := [obj y4v.1 194 [.slice y4v.2.1 s3v.1.length y4v.2.2, .int .i64 s10v.2.1, .int .i64 s10v.2.2]]) (rst := [Row 5 1 y4v.2.1 s3v.1.length y4v.2.2 (encB s3v.1), obj b2v 25 [.int .i64 0, .int .i64 0, .int .i64 0, str ([] : List UInt8), str ([] : List UInt8), str ([] : List UInt8)], obj b1v 42 [], F]) rfl rfl rfl rfl rfl rfl Try.call83 (.sel 0 rfl (.sel 0 rfl (.sel 0 rfl (.sel 0 rfl (.sel 0 rfl (.nil _)))))) (wire_Reader_Int.calls _ _ k y4v.1 y4v.2.1 y4v.2.2 s3v.1 s10v.2.1 s10v.2.2 (hq13v.lend 0 rfl) hq14v hq15v) hs19v) rfl rfl rfl ?_
 intro y18v
 refine simL_val (q_move rfl rfl) rfl rfl rfl ?_
 refine simL_bind (fun s24v hs26v => ?_)
 refine simL_lend 1 rfl (fun hq20v hq21v hq22v hq23v => ?_)
 refine simL_eff (re_call (vs := [.pointer (some ⟨y4v.1, 0, none⟩)]) (cap := []) (A := [obj y4v.1 194 [.slice y4v.2.1 s3v.1.length y4v.2.2, .int .i64 s17v.2.1, .int .i64 s17v.2.2]]) (rst := [Row 5 1 y4v.2.1 s3v.1.length y4v.2.2 (encB s3v.1), obj b2v 25 [.int .i64 0, .int .i64 0, .int .i64 0, str ([] : List UInt8), str ([] : List UInt8), str ([] : List UInt8)], obj b1v 42 [], F]) rfl rfl rfl rfl rfl rfl Try.call83 (.sel 0 rfl (.sel 0 rfl (.sel 0 rfl (.sel 0 rfl (.sel 0 rfl (.nil _)))))) (wire_Reader_Int.calls _ _ k y4v.1 y4v.2.1 y4v.2.2 s3v.1 s17v.2.1 s17v.2.2 (hq20v.lend 0 rfl) hq21v hq22v) hs26v) rfl rfl rfl ?_
 intro y25v
 refine simL_val (q_move rfl rfl) rfl rfl rfl ?_
 refine simL_bind (fun s31v hs33v => ?_)
 refine simL_lend 1 rfl (fun hq27v hq28v hq29v hq30v => ?_)
 refine simL_eff (re_call (vs := [.pointer (some ⟨y4v.1, 0, none⟩), .int .i64 64]) (cap := []) (A := [obj y4v.1 194 [.slice y4v.2.1 s3v.1.length y4v.2.2, .int .i64 s24v.2.1, .int .i64 s24v.2.2]]) (rst := [Row 5 1 y4v.2.1 s3v.1.length y4v.2.2 (encB s3v.1), obj b2v 25 [.int .i64 0, .int .i64 0, .int .i64 0, str ([] : List UInt8), str ([] : List UInt8), str ([] : List UInt8)], obj b1v 42 [], F]) rfl rfl rfl rfl rfl rfl Try.call99 (.sel 0 rfl (.sel 0 rfl (.sel 0 rfl (.sel 0 rfl (.sel 0 rfl (.nil _)))))) (wire_Reader_Text.calls _ _ k y4v.1 y4v.2.1 y4v.2.2 s3v.1 s24v.2.1 s24v.2.2 (64 : Int) (hq27v.lend 0 rfl) hq28v hq29v) hs33v) rfl rfl rfl ?_
 intro y32v
 refine simL_val (q_move rfl rfl) rfl rfl rfl ?_
 refine simL_bind (fun s38v hs40v => ?_)
 refine simL_lend 1 rfl (fun hq34v hq35v hq36v hq37v => ?_)
 refine simL_eff (re_call (vs := [.pointer (some ⟨y4v.1, 0, none⟩), .int .i64 1024]) (cap := []) (A := [obj y4v.1 194 [.slice y4v.2.1 s3v.1.length y4v.2.2, .int .i64 s31v.2.1, .int .i64 s31v.2.2]]) (rst := [Row 5 1 y4v.2.1 s3v.1.length y4v.2.2 (encB s3v.1), obj b2v 25 [.int .i64 0, .int .i64 0, .int .i64 0, str ([] : List UInt8), str ([] : List UInt8), str ([] : List UInt8)], obj b1v 42 [], F]) rfl rfl rfl rfl rfl rfl Try.call99 (.sel 0 rfl (.sel 0 rfl (.sel 0 rfl (.sel 0 rfl (.sel 0 rfl (.nil _)))))) (wire_Reader_Text.calls _ _ k y4v.1 y4v.2.1 y4v.2.2 s3v.1 s31v.2.1 s31v.2.2 (1024 : Int) (hq34v.lend 0 rfl) hq35v hq36v) hs40v) rfl rfl rfl ?_
 intro y39v
 refine simL_val (q_move rfl rfl) rfl rfl rfl ?_
 refine simL_bind (fun s45v hs47v => ?_)
 refine simL_lend 1 rfl (fun hq41v hq42v hq43v hq44v => ?_)
 refine simL_eff (re_call (vs := [.pointer (some ⟨y4v.1, 0, none⟩), .int .i64 1024]) (cap := []) (A := [obj y4v.1 194 [.slice y4v.2.1 s3v.1.length y4v.2.2, .int .i64 s38v.2.1, .int .i64 s38v.2.2]]) (rst := [Row 5 1 y4v.2.1 s3v.1.length y4v.2.2 (encB s3v.1), obj b2v 25 [.int .i64 0, .int .i64 0, .int .i64 0, str ([] : List UInt8), str ([] : List UInt8), str ([] : List UInt8)], obj b1v 42 [], F]) rfl rfl rfl rfl rfl rfl Try.call99 (.sel 0 rfl (.sel 0 rfl (.sel 0 rfl (.sel 0 rfl (.sel 0 rfl (.nil _)))))) (wire_Reader_Text.calls _ _ k y4v.1 y4v.2.1 y4v.2.2 s3v.1 s38v.2.1 s38v.2.2 (1024 : Int) (hq41v.lend 0 rfl) hq42v hq43v) hs47v) rfl rfl rfl ?_
 intro y46v
 refine simL_val (q_build (v := .agg #[.int .i64 s10v.1, .int .i64 s17v.1, .int .i64 s24v.1, str s31v.1, str s38v.1, str s45v.1]) rfl rfl (fun _ => by kernel_rfl)) rfl rfl rfl ?_
 refine simL_eff (re_alloc rfl Try.zeroValue25 rfl) rfl rfl rfl ?_
 intro b48v
 refine simL_do (re_store 0 rfl rfl rfl Try.sizeOf25 rfl rfl (one_of (by rfl)) rfl rfl) rfl rfl ?_
 intro _
 refine simL_ent (H' := [obj b48v 25 [.int .i64 s10v.1, .int .i64 s17v.1, .int .i64 s24v.1, str s31v.1, str s38v.1, str s45v.1], obj y4v.1 194 [.slice y4v.2.1 s3v.1.length y4v.2.2, .int .i64 s45v.2.1, .int .i64 s45v.2.2], Row 5 1 y4v.2.1 s3v.1.length y4v.2.2 (encB s3v.1), obj b2v 25 [.int .i64 0, .int .i64 0, .int .i64 0, str ([] : List UInt8), str ([] : List UInt8), str ([] : List UInt8)], obj b1v 42 [], F]) (Ent.refl _) ?_
 refine simL_nil (nrm_then (sim_seq (sim_region ?_)))
 refine simL_val (q_move rfl rfl) rfl rfl rfl ?_
 refine simL_val (q_loado 4 rfl rfl Try.isAgg42 Try.sizeOf42 rfl rfl) rfl rfl rfl ?_
 refine simL_val (q_mkif rfl rfl Try.underlying42 rfl) rfl rfl rfl ?_
 refine simL_val (q_loado 0 rfl rfl Try.isAgg25 Try.sizeOf25 rfl rfl) rfl rfl rfl ?_
 refine simL_bind (fun s53v hs55v => ?_)
 refine simL_lend 2 rfl (fun hq49v hq50v hq51v hq52v => ?_)
 refine simL_eff (re_call (vs := [.pointer (some ⟨y4v.1, 0, none⟩), .iface 42 (.agg #[]), .agg #[.int .i64 s10v.1, .int .i64 s17v.1, .int .i64 s24v.1, str s31v.1, str s38v.1, str s45v.1]]) (cap := []) (A := [obj y4v.1 194 [.slice y4v.2.1 s3v.1.length y4v.2.2, .int .i64 s45v.2.1, .int .i64 s45v.2.2]]) (rst := [obj b48v 25 [.int .i64 s10v.1, .int .i64 s17v.1, .int .i64 s24v.1, str s31v.1, str s38v.1, str s45v.1], Row 5 1 y4v.2.1 s3v.1.length y4v.2.2 (encB s3v.1), obj b2v 25 [.int .i64 0, .int .i64 0, .int .i64 0, str ([] : List UInt8), str ([] : List UInt8), str ([] : List UInt8)], obj b1v 42 [], F]) rfl rfl rfl rfl rfl rfl Try.call103 (.sel 1 rfl (.sel 0 rfl (.sel 0 rfl (.sel 0 rfl (.sel 0 rfl (.sel 0 rfl (.nil _))))))) (codec_last_Command_Commands.calls _ _ y4v.1 y4v.2.1 y4v.2.2 s3v.1 s45v.2.1 s45v.2.2 s10v.1 s17v.1 s24v.1 s31v.1 s38v.1 s45v.1 (hq49v.lend 1 rfl) hq50v hq51v) hs55v) rfl rfl rfl ?_
 intro y54v
 refine simL_val (q_ext rfl rfl rfl) rfl rfl rfl ?_
 refine simL_val (q_ext rfl rfl rfl) rfl rfl rfl ?_
 refine simL_do (re_store 3 rfl rfl rfl Try.sizeOf25 rfl rfl (one_of (by rfl)) rfl rfl) rfl rfl ?_
 intro _
 refine simL_ent (H' := [obj y4v.1 194 [.slice y4v.2.1 s3v.1.length y4v.2.2, .int .i64 s45v.2.1, .int .i64 s45v.2.2], obj b48v 25 [.int .i64 s10v.1, .int .i64 s17v.1, .int .i64 s24v.1, str s31v.1, str s38v.1, str s45v.1], Row 5 1 y4v.2.1 s3v.1.length y4v.2.2 (encB s3v.1), obj b2v 25 [.int .i64 s53v.1, .int .i64 s53v.2.1, .int .i64 s53v.2.2.1, str s53v.2.2.2.1, str s53v.2.2.2.2.1, str s53v.2.2.2.2.2.1], obj b1v 42 [], F]) (Ent.refl _) ?_
 refine simL_val (q_asg rfl rfl) rfl rfl rfl (simL_nil (nrm_then (sim_rtn ?_)))
 exact rtn_fnC (vs := [.agg #[.int .i64 s53v.1, .int .i64 s53v.2.1, .int .i64 s53v.2.2.1, str s53v.2.2.2.1, str s53v.2.2.2.2.1, str s53v.2.2.2.2.2.1], .int .i64 s53v.2.2.2.2.2.2]) () rfl ⟨⟨b2v, rfl, load_agg 3 Try.isAgg25 Try.sizeOf25 rfl rfl⟩, rfl, trivial⟩ rfl (.sel 5 rfl (.nil _))
end Go.Proofs.Ytdoghfenhoigmaa

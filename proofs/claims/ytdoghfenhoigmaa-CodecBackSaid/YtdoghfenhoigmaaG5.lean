/- Printed by gen.py: pure functions and the proofs that the Go functions simulate them. Conditions: as each theorem says. -/
import Derived.Test.YtdoghfenhoigmaaG4
namespace Go.Proofs.Ytdoghfenhoigmaa
open Go.RowKit
set_option linter.unusedVariables false
set_option maxRecDepth 20000
set_option maxHeartbeats 2000000
def synodref3_GetState.f (k : Nat) (x0 : List UInt8) : Option (Int × Int × Int × Int) := (synodref1_Reader_Int.f k x0 (0 : Int) (0 : Int)).bind fun s3v => ((synodref1_Reader_Int.f k x0 s3v.2.1 s3v.2.2).bind fun s6v => ((synodref1_Reader_Int.f k x0 s6v.2.1 s6v.2.2).bind fun s9v => ((synodref1_Reader_Done.f x0 s9v.2.1 s9v.2.2).bind fun s13v => ((if s13v = (0 : Int) then ((synodref3_CheckState.f s3v.1 s6v.1 s9v.1).bind fun s20v => (some s20v)) else (some s13v)).bind fun s16v => (if s16v = (0 : Int) then (some (s3v.1, s6v.1, s9v.1, s16v)) else (some (0, 0, 0, s16v)))))))
theorem synodref3_GetState.calls (W : World) (F : HA) (k : Nat) (a0 : Option Addr) (c0 : Nat) (x0 : List UInt8) (h0 : Rd F a0 (encB x0)) (hc0 : x0.length ≤ c0) (hm0 : c0 ≤ maxLen) :
    Fn Try.prog W 30 [.slice a0 x0.length c0] [] F (synodref3_GetState.f k x0) (fun (r : Int × Int × Int × Int) (y : Unit) => .tuple #[.agg #[.int .i64 r.1, .int .i64 r.2.1, .int .i64 r.2.2.1], .int .i64 r.2.2.2]) (fun r y => []) := by
 unfold synodref3_GetState.f
 refine fn_intro 29 Try.func30 rfl Try.ntmps30 rfl ?_
 refine sim_seq (sim_region ?_)
 refine simL_eff (re_alloc rfl Try.zeroValue23 rfl) rfl rfl rfl ?_
 intro b1v
 refine simL_val (q_asg rfl rfl) rfl rfl rfl (simL_nil (nrm_then (sim_seq (sim_region ?_))))
 refine simL_val (q_move rfl rfl) rfl rfl rfl ?_
 refine simL_val (q_build (v := .agg #[.slice a0 x0.length c0, .int .i64 0, .int .i64 0]) rfl rfl (fun _ => by kernel_rfl)) rfl rfl rfl ?_
 refine simL_eff (re_box rfl rfl rfl) rfl rfl rfl ?_
 intro b2v
 refine simL_val (q_asg rfl rfl) rfl rfl rfl (simL_nil (nrm_then (sim_seq (sim_region ?_))))
 refine simL_val (q_move rfl rfl) rfl rfl rfl ?_
 refine simL_bind (fun s3v hs5v => ?_)
 refine simL_eff (re_call (vs := [.pointer (some ⟨b2v, 0, none⟩)]) (cap := []) (A := [obj b2v 152 [.slice a0 x0.length c0, .int .i64 0, .int .i64 0]]) (rst := [obj b1v 23 [.int .i64 0, .int .i64 0, .int .i64 0], F]) rfl rfl rfl rfl rfl rfl Try.call85 (.sel 0 rfl (.sel 0 rfl (.sel 0 rfl (.nil _)))) (synodref1_Reader_Int.calls _ _ k b2v a0 c0 x0 (0 : Int) (0 : Int) (h0.lend 1 rfl) hc0 hm0) hs5v) rfl rfl rfl ?_
 intro y4v
 refine simL_val (q_move rfl rfl) rfl rfl rfl ?_
 refine simL_bind (fun s6v hs8v => ?_)
 refine simL_eff (re_call (vs := [.pointer (some ⟨b2v, 0, none⟩)]) (cap := []) (A := [obj b2v 152 [.slice a0 x0.length c0, .int .i64 s3v.2.1, .int .i64 s3v.2.2]]) (rst := [obj b1v 23 [.int .i64 0, .int .i64 0, .int .i64 0], F]) rfl rfl rfl rfl rfl rfl Try.call85 (.sel 0 rfl (.sel 0 rfl (.sel 0 rfl (.nil _)))) (synodref1_Reader_Int.calls _ _ k b2v a0 c0 x0 s3v.2.1 s3v.2.2 (h0.lend 1 rfl) hc0 hm0) hs8v) rfl rfl rfl ?_
 intro y7v
 refine simL_val (q_move rfl rfl) rfl rfl rfl ?_
 refine simL_bind (fun s9v hs11v => ?_)
 refine simL_eff (re_call (vs := [.pointer (some ⟨b2v, 0, none⟩)]) (cap := []) (A := [obj b2v 152 [.slice a0 x0.length c0, .int .i64 s6v.2.1, .int .i64 s6v.2.2]]) (rst := [obj b1v 23 [.int .i64 0, .int .i64 0, .int .i64 0], F]) rfl rfl rfl rfl rfl rfl Try.call85 (.sel 0 rfl (.sel 0 rfl (.sel 0 rfl (.nil _)))) (synodref1_Reader_Int.calls _ _ k b2v a0 c0 x0 s6v.2.1 s6v.2.2 (h0.lend 1 rfl) hc0 hm0) hs11v) rfl rfl rfl ?_
 intro y10v
 refine simL_val (q_build (v := .agg #[.int .i64 s3v.1, .int .i64 s6v.1, .int .i64 s9v.1]) rfl rfl (fun _ => by kernel_rfl)) rfl rfl rfl ?_
 refine simL_eff (re_alloc rfl Try.zeroValue23 rfl) rfl rfl rfl ?_
 intro b12v
 refine simL_do (re_store 0 rfl rfl rfl Try.sizeOf23 rfl rfl (one_of (by rfl)) rfl rfl) rfl rfl ?_
 intro _
 refine simL_nil (nrm_then (sim_seq (sim_region ?_)))
 refine simL_val (q_move rfl rfl) rfl rfl rfl ?_
 refine simL_bind (fun s13v hs15v => ?_)
 refine simL_eff (re_call (vs := [.pointer (some ⟨b2v, 0, none⟩)]) (cap := []) (A := [obj b2v 152 [.slice a0 x0.length c0, .int .i64 s9v.2.1, .int .i64 s9v.2.2]]) (rst := [obj b12v 23 [.int .i64 s3v.1, .int .i64 s6v.1, .int .i64 s9v.1], obj b1v 23 [.int .i64 0, .int .i64 0, .int .i64 0], F]) rfl rfl rfl rfl rfl rfl Try.call86 (.sel 1 rfl (.sel 0 rfl (.sel 0 rfl (.sel 0 rfl (.nil _))))) (synodref1_Reader_Done.calls _ _ b2v a0 c0 x0 s9v.2.1 s9v.2.2 (h0.lend 2 rfl) hc0 hm0) hs15v) rfl rfl rfl ?_
 intro y14v
 refine simL_val (q_asg rfl rfl) rfl rfl rfl (simL_nil (nrm_then ?_))
 refine sim_cut (S := Int) (Unit) (fun s y => [(2, .pointer (some ⟨b1v, 0, none⟩)), (5, .pointer (some ⟨b12v, 0, none⟩)), (6, .int .i64 s)]) (fun s y => [obj b12v 23 [.int .i64 s3v.1, .int .i64 s6v.1, .int .i64 s9v.1], obj b1v 23 [.int .i64 0, .int .i64 0, .int .i64 0], F]) ?_ ?_
 refine sim_seq (sim_region ?_)
 refine simL_val (q_move rfl rfl) rfl rfl rfl ?_
 refine simL_val (q_eql rfl rfl rfl) rfl rfl rfl (simL_nil (nrm_then ?_))
 refine sim_cond rfl (fun h18v => ?_) (fun h19v => ?_)
 refine sim_region ?_
 refine simL_val (q_loado 1 rfl rfl Try.isAgg23 Try.sizeOf23 rfl rfl) rfl rfl rfl ?_
 refine simL_bind (fun s20v hs22v => ?_)
 refine simL_eff (re_call (vs := [.agg #[.int .i64 s3v.1, .int .i64 s6v.1, .int .i64 s9v.1]]) (cap := []) (A := []) (rst := [obj b2v 152 [.slice a0 x0.length c0, .int .i64 s9v.2.1, .int .i64 s9v.2.2], obj b12v 23 [.int .i64 s3v.1, .int .i64 s6v.1, .int .i64 s9v.1], obj b1v 23 [.int .i64 0, .int .i64 0, .int .i64 0], F]) rfl rfl rfl rfl rfl rfl Try.call16 (.sel 0 rfl (.sel 0 rfl (.sel 0 rfl (.sel 0 rfl (.nil _))))) (synodref3_CheckState.calls _ _ s3v.1 s6v.1 s9v.1 ) hs22v) rfl rfl rfl ?_
 intro y21v
 refine simL_val (q_asg rfl rfl) rfl rfl rfl (simL_nil ?_)
 exact nrm_cut (s := s20v) () ⟨rfl, rfl, rfl, trivial⟩ (.sel 1 rfl (.sel 1 rfl (.sel 1 rfl (.nil _))))
 refine sim_skip ?_
 exact nrm_cut (s := s13v) () ⟨rfl, rfl, rfl, trivial⟩ (.sel 1 rfl (.sel 1 rfl (.sel 1 rfl (.nil _))))
 intro s16v y17v
 refine sim_seq (sim_seq (sim_region ?_))
 refine simL_val (q_move rfl rfl) rfl rfl rfl ?_
 refine simL_val (q_neq rfl rfl rfl) rfl rfl rfl (simL_nil (nrm_then ?_))
 refine sim_condn rfl (fun h23v => ?_) (fun h24v => ?_)
 refine sim_skip ?_
 refine nrm_then (sim_seq (sim_region ?_))
 refine simL_val (q_loado 0 rfl rfl Try.isAgg23 Try.sizeOf23 rfl rfl) rfl rfl rfl ?_
 refine simL_val (q_move rfl rfl) rfl rfl rfl ?_
 refine simL_do (re_store 1 rfl rfl rfl Try.sizeOf23 rfl rfl (one_of (by rfl)) rfl rfl) rfl rfl ?_
 intro _
 refine simL_val (q_asg rfl rfl) rfl rfl rfl (simL_nil (nrm_then (sim_rtn ?_)))
 exact rtn_fnC (vs := [.agg #[.int .i64 s3v.1, .int .i64 s6v.1, .int .i64 s9v.1], .int .i64 s16v]) () rfl ⟨⟨b1v, rfl, load_agg 1 Try.isAgg23 Try.sizeOf23 rfl rfl⟩, rfl, trivial⟩ rfl (.sel 2 rfl (.nil _))
 refine sim_seq (sim_region ?_)
 refine simL_val (q_build (v := .agg #[.int .i64 0, .int .i64 0, .int .i64 0]) rfl rfl (fun _ => by kernel_rfl)) rfl rfl rfl ?_
 refine simL_val (q_move rfl rfl) rfl rfl rfl ?_
 refine simL_do (re_store 1 rfl rfl rfl Try.sizeOf23 rfl rfl (one_of (by rfl)) rfl rfl) rfl rfl ?_
 intro _
 refine simL_val (q_asg rfl rfl) rfl rfl rfl (simL_nil (nrm_then (sim_rtn ?_)))
 refine rtn_then ?_
 exact rtn_fnC (vs := [.agg #[.int .i64 0, .int .i64 0, .int .i64 0], .int .i64 s16v]) () rfl ⟨⟨b1v, rfl, load_agg 1 Try.isAgg23 Try.sizeOf23 rfl rfl⟩, rfl, trivial⟩ rfl (.sel 2 rfl (.nil _))

def codec_last_State_States.f (xp0_0 : List UInt8) (xp0_1 : Int) (xp0_2 : Int) (x2_0 : Int) (x2_1 : Int) (x2_2 : Int) : Option (Int × Int × Int × Int) := (wire_Reader_Done.f xp0_0 xp0_1 xp0_2).bind fun s3v => ((if s3v = (0 : Int) then ((codec_States_Check.f x2_0 x2_1 x2_2).bind fun s10v => (some s10v)) else (some s3v)).bind fun s6v => (if s6v = (0 : Int) then (some (x2_0, x2_1, x2_2, 0)) else (some (0, 0, 0, s6v))))
theorem codec_last_State_States.calls (W : World) (F : HA) (bp0 : Nat) (ap0_0 : Option Addr) (cp0_0 : Nat) (xp0_0 : List UInt8) (xp0_1 : Int) (xp0_2 : Int) (x2_0 : Int) (x2_1 : Int) (x2_2 : Int) (hp0_0 : Rd F ap0_0 (encB xp0_0)) (hcp0_0 : xp0_0.length ≤ cp0_0) (hmp0_0 : cp0_0 ≤ maxLen) :
    Fn Try.prog W 84 [.pointer (some ⟨bp0, 0, none⟩), .iface 40 (.agg #[]), .agg #[.int .i64 x2_0, .int .i64 x2_1, .int .i64 x2_2]] [obj bp0 194 [.slice ap0_0 xp0_0.length cp0_0, .int .i64 xp0_1, .int .i64 xp0_2]] F (codec_last_State_States.f xp0_0 xp0_1 xp0_2 x2_0 x2_1 x2_2) (fun (r : Int × Int × Int × Int) (y : Unit) => .tuple #[.agg #[.int .i64 r.1, .int .i64 r.2.1, .int .i64 r.2.2.1], .int .i64 r.2.2.2]) (fun r y => [obj bp0 194 [.slice ap0_0 xp0_0.length cp0_0, .int .i64 xp0_1, .int .i64 xp0_2]]) := by
 unfold codec_last_State_States.f
 refine fn_intro 22 Try.func84 rfl Try.ntmps84 rfl ?_
 refine sim_seq (sim_region ?_)
 refine simL_eff (re_box rfl rfl rfl) rfl rfl rfl ?_
 intro b1v
 refine simL_eff (re_alloc rfl Try.zeroValue23 rfl) rfl rfl rfl ?_
 intro b2v
 refine simL_val (q_asg rfl rfl) rfl rfl rfl (simL_nil (nrm_then (sim_seq (sim_region ?_))))
 refine simL_val (q_move rfl rfl) rfl rfl rfl ?_
 refine simL_bind (fun s3v hs5v => ?_)
 refine simL_eff (re_call (vs := [.pointer (some ⟨bp0, 0, none⟩)]) (cap := []) (A := [obj bp0 194 [.slice ap0_0 xp0_0.length cp0_0, .int .i64 xp0_1, .int .i64 xp0_2]]) (rst := [obj b2v 23 [.int .i64 0, .int .i64 0, .int .i64 0], obj b1v 23 [.int .i64 x2_0, .int .i64 x2_1, .int .i64 x2_2], F]) rfl rfl rfl rfl rfl rfl Try.call124 (.sel 2 rfl (.sel 0 rfl (.sel 0 rfl (.sel 0 rfl (.nil _))))) (wire_Reader_Done.calls _ _ bp0 ap0_0 cp0_0 xp0_0 xp0_1 xp0_2 (hp0_0.lend 2 rfl) hcp0_0 hmp0_0) hs5v) rfl rfl rfl ?_
 intro y4v
 refine simL_val (q_asg rfl rfl) rfl rfl rfl (simL_nil (nrm_then ?_))
 refine sim_cut (S := Int) (Unit) (fun s y => [(5, .pointer (some ⟨b1v, 0, none⟩)), (6, .pointer (some ⟨b2v, 0, none⟩)), (8, .int .i64 s)]) (fun s y => [obj bp0 194 [.slice ap0_0 xp0_0.length cp0_0, .int .i64 xp0_1, .int .i64 xp0_2], obj b2v 23 [.int .i64 0, .int .i64 0, .int .i64 0], obj b1v 23 [.int .i64 x2_0, .int .i64 x2_1, .int .i64 x2_2], F]) ?_ ?_
 refine sim_seq (sim_region ?_)
 refine simL_val (q_move rfl rfl) rfl rfl rfl ?_
 refine simL_val (q_eql rfl rfl rfl) rfl rfl rfl (simL_nil (nrm_then ?_))
 refine sim_cond rfl (fun h8v => ?_) (fun h9v => ?_)
 refine sim_region ?_
 refine simL_val (q_move rfl rfl) rfl rfl rfl ?_
 refine simL_val (q_loado 2 rfl rfl Try.isAgg23 Try.sizeOf23 rfl rfl) rfl rfl rfl ?_
 refine simL_bind (fun s10v hs12v => ?_)
 refine simL_eff (re_invoke (vs := [.agg #[.int .i64 x2_0, .int .i64 x2_1, .int .i64 x2_2]]) (A := []) (rst := [obj bp0 194 [.slice ap0_0 xp0_0.length cp0_0, .int .i64 xp0_1, .int .i64 xp0_2], obj b2v 23 [.int .i64 0, .int .i64 0, .int .i64 0], obj b1v 23 [.int .i64 x2_0, .int .i64 x2_1, .int .i64 x2_2], F]) rfl rfl rfl rfl rfl (fun _ => by kernel_rfl) Try.call27 (.sel 0 rfl (.sel 0 rfl (.sel 0 rfl (.sel 0 rfl (.nil _))))) (codec_States_Check.calls _ _ x2_0 x2_1 x2_2 ) hs12v) rfl rfl rfl ?_
 intro y11v
 refine simL_val (q_asg rfl rfl) rfl rfl rfl (simL_nil ?_)
 exact nrm_cut (s := s10v) () ⟨rfl, rfl, rfl, trivial⟩ (.sel 0 rfl (.sel 0 rfl (.sel 0 rfl (.sel 0 rfl (.nil _)))))
 refine sim_skip ?_
 exact nrm_cut (s := s3v) () ⟨rfl, rfl, rfl, trivial⟩ (.sel 0 rfl (.sel 0 rfl (.sel 0 rfl (.sel 0 rfl (.nil _)))))
 intro s6v y7v
 refine sim_seq (sim_seq (sim_region ?_))
 refine simL_val (q_move rfl rfl) rfl rfl rfl ?_
 refine simL_val (q_neq rfl rfl rfl) rfl rfl rfl (simL_nil (nrm_then ?_))
 refine sim_condn rfl (fun h13v => ?_) (fun h14v => ?_)
 refine sim_skip ?_
 refine nrm_then (sim_seq (sim_region ?_))
 refine simL_val (q_loado 2 rfl rfl Try.isAgg23 Try.sizeOf23 rfl rfl) rfl rfl rfl ?_
 refine simL_do (re_store 1 rfl rfl rfl Try.sizeOf23 rfl rfl (one_of (by rfl)) rfl rfl) rfl rfl ?_
 intro _
 refine simL_val (q_asg rfl rfl) rfl rfl rfl (simL_nil (nrm_then (sim_rtn ?_)))
 exact rtn_fnC (vs := [.agg #[.int .i64 x2_0, .int .i64 x2_1, .int .i64 x2_2], .int .i64 0]) () rfl ⟨⟨b2v, rfl, load_agg 1 Try.isAgg23 Try.sizeOf23 rfl rfl⟩, rfl, trivial⟩ rfl (.sel 0 rfl (.sel 2 rfl (.nil _)))
 refine sim_seq (sim_region ?_)
 refine simL_eff (re_alloc rfl Try.zeroValue23 rfl) rfl rfl rfl ?_
 intro b15v
 refine simL_nil (nrm_then (sim_seq (sim_region ?_)))
 refine simL_val (q_loado 0 rfl rfl Try.isAgg23 Try.sizeOf23 rfl rfl) rfl rfl rfl ?_
 refine simL_val (q_move rfl rfl) rfl rfl rfl ?_
 refine simL_do (re_store 2 rfl rfl rfl Try.sizeOf23 rfl rfl (one_of (by rfl)) rfl rfl) rfl rfl ?_
 intro _
 refine simL_val (q_asg rfl rfl) rfl rfl rfl (simL_nil (nrm_then (sim_rtn ?_)))
 refine rtn_then ?_
 exact rtn_fnC (vs := [.agg #[.int .i64 0, .int .i64 0, .int .i64 0], .int .i64 s6v]) () rfl ⟨⟨b2v, rfl, load_agg 2 Try.isAgg23 Try.sizeOf23 rfl rfl⟩, rfl, trivial⟩ rfl (.sel 1 rfl (.sel 3 rfl (.nil _)))
def codec_last_State_States.v (xp0_0 : List UInt8) (xp0_1 : Int) (xp0_2 : Int) (x2_0 : Int) (x2_1 : Int) (x2_2 : Int) : Int × Int × Int × Int := (codec_last_State_States.f xp0_0 xp0_1 xp0_2 x2_0 x2_1 x2_2).getD (0, 0, 0, 0)
theorem codec_last_State_States.tot (xp0_0 : List UInt8) (xp0_1 : Int) (xp0_2 : Int) (x2_0 : Int) (x2_1 : Int) (x2_2 : Int) : codec_last_State_States.f xp0_0 xp0_1 xp0_2 x2_0 x2_1 x2_2 = some (codec_last_State_States.v xp0_0 xp0_1 xp0_2 x2_0 x2_1 x2_2) := by
  have h : ∃ r, codec_last_State_States.f xp0_0 xp0_1 xp0_2 x2_0 x2_1 x2_2 = some r := by
    unfold codec_last_State_States.f
    repeat' (first | exact ⟨_, rfl⟩ | split | simp only [Option.bind_some, wire_Reader_Done.tot, codec_States_Check.tot])
  obtain ⟨r, h⟩ := h
  unfold codec_last_State_States.v
  rw [h]; rfl

def codec_States_Get.f (k : Nat) (x1 : List UInt8) : Option (Int × Int × Int × Int) := (wire_NewReader.f x1).bind fun s3v => ((wire_Reader_Int.f k s3v.1 s3v.2.1 s3v.2.2).bind fun s10v => ((wire_Reader_Int.f k s3v.1 s10v.2.1 s10v.2.2).bind fun s17v => ((wire_Reader_Int.f k s3v.1 s17v.2.1 s17v.2.2).bind fun s24v => ((codec_last_State_States.f s3v.1 s24v.2.1 s24v.2.2 s10v.1 s17v.1 s24v.1).bind fun s32v => (some (s32v.1, s32v.2.1, s32v.2.2.1, s32v.2.2.2))))))
theorem codec_States_Get.calls (W : World) (F : HA) (k : Nat) (a1 : Option Addr) (c1 : Nat) (x1 : List UInt8) (h1 : Rd F a1 (encB x1)) (hc1 : x1.length ≤ c1) (hm1 : c1 ≤ maxLen) :
    Fn Try.prog W 29 [.agg #[], .slice a1 x1.length c1] [] F (codec_States_Get.f k x1) (fun (r : Int × Int × Int × Int) (y : Unit) => .tuple #[.agg #[.int .i64 r.1, .int .i64 r.2.1, .int .i64 r.2.2.1], .int .i64 r.2.2.2]) (fun r y => []) := by
 unfold codec_States_Get.f
 refine fn_intro 24 Try.func29 rfl Try.ntmps29 rfl ?_
 refine sim_seq (sim_region ?_)
 refine simL_eff (re_box rfl rfl rfl) rfl rfl rfl ?_
 intro b1v
 refine simL_eff (re_alloc rfl Try.zeroValue23 rfl) rfl rfl rfl ?_
 intro b2v
 refine simL_val (q_asg rfl rfl) rfl rfl rfl (simL_nil (nrm_then (sim_seq (sim_region ?_))))
 refine simL_val (q_move rfl rfl) rfl rfl rfl ?_
 refine simL_bind (fun s3v hs5v => ?_)
 refine simL_eff (re_call (vs := [.slice a1 x1.length c1]) (cap := []) (A := []) (rst := [obj b2v 23 [.int .i64 0, .int .i64 0, .int .i64 0], obj b1v 40 [], F]) rfl rfl rfl rfl rfl rfl Try.call82 (.sel 0 rfl (.sel 0 rfl (.sel 0 rfl (.nil _)))) (wire_NewReader.calls _ _ a1 c1 x1 (h1.lend 2 rfl) hc1 hm1) hs5v) rfl rfl rfl ?_
 intro y4v
 refine simL_val (q_asg rfl rfl) rfl rfl rfl (simL_nil (nrm_then (sim_seq (sim_region ?_))))
 refine simL_val (q_move rfl rfl) rfl rfl rfl ?_
 refine simL_bind (fun s10v hs12v => ?_)
 refine simL_lend 1 rfl (fun hq6v hq7v hq8v hq9v => ?_)
 refine simL_eff (re_call (vs := [.pointer (some ⟨y4v.1, 0, none⟩)]) (cap := []) (A := [obj y4v.1 194 [.slice y4v.2.1 s3v.1.length y4v.2.2, .int .i64 s3v.2.1, .int .i64 s3v.2.2]]) (rst := [Row 5 1 y4v.2.1 s3v.1.length y4v.2.2 (encB s3v.1), obj b2v 23 [.int .i64 0, .int .i64 0, .int .i64 0], obj b1v 40 [], F]) rfl rfl rfl rfl rfl rfl Try.call83 (.sel 0 rfl (.sel 0 rfl (.sel 0 rfl (.sel 0 rfl (.sel 0 rfl (.nil _)))))) (wire_Reader_Int.calls _ _ k y4v.1 y4v.2.1 y4v.2.2 s3v.1 s3v.2.1 s3v.2.2 (hq6v.lend 0 rfl) hq7v hq8v) hs12v) rfl rfl rfl ?_
 intro y11v
 refine simL_val (q_move rfl rfl) rfl rfl rfl ?_
 refine simL_bind (fun s17v hs19v => ?_)
 refine simL_lend 1 rfl (fun hq13v hq14v hq15v hq16v => ?_)
 refine simL_eff (re_call (vs := [.pointer (some ⟨y4v.1, 0, none⟩)]) (cap := []) (A := [obj y4v.1 194 [.slice y4v.2.1 s3v.1.length y4v.2.2, .int .i64 s10v.2.1, .int .i64 s10v.2.2]]) (rst := [Row 5 1 y4v.2.1 s3v.1.length y4v.2.2 (encB s3v.1), obj b2v 23 [.int .i64 0, .int .i64 0, .int .i64 0], obj b1v 40 [], F]) rfl rfl rfl rfl rfl rfl Try.call83 (.sel 0 rfl (.sel 0 rfl (.sel 0 rfl (.sel 0 rfl (.sel 0 rfl (.nil _)))))) (wire_Reader_Int.calls _ _ k y4v.1 y4v.2.1 y4v.2.2 s3v.1 s10v.2.1 s10v.2.2 (hq13v.lend 0 rfl) hq14v hq15v) hs19v) rfl rfl rfl ?_
 intro y18v
 refine simL_val (q_move rfl rfl) rfl rfl rfl ?_
 refine simL_bind (fun s24v hs26v => ?_)
 refine simL_lend 1 rfl (fun hq20v hq21v hq22v hq23v => ?_)
 refine simL_eff (re_call (vs := [.pointer (some ⟨y4v.1, 0, none⟩)]) (cap := []) (A := [obj y4v.1 194 [.slice y4v.2.1 s3v.1.length y4v.2.2, .int .i64 s17v.2.1, .int .i64 s17v.2.2]]) (rst := [Row 5 1 y4v.2.1 s3v.1.length y4v.2.2 (encB s3v.1), obj b2v 23 [.int .i64 0, .int .i64 0, .int .i64 0], obj b1v 40 [], F]) rfl rfl rfl rfl rfl rfl Try.call83 (.sel 0 rfl (.sel 0 rfl (.sel 0 rfl (.sel 0 rfl (.sel 0 rfl (.nil _)))))) (wire_Reader_Int.calls _ _ k y4v.1 y4v.2.1 y4v.2.2 s3v.1 s17v.2.1 s17v.2.2 (hq20v.lend 0 rfl) hq21v hq22v) hs26v) rfl rfl rfl ?_
 intro y25v
 refine simL_val (q_build (v := .agg #[.int .i64 s10v.1, .int .i64 s17v.1, .int .i64 s24v.1]) rfl rfl (fun _ => by kernel_rfl)) rfl rfl rfl ?_
 refine simL_eff (re_alloc rfl Try.zeroValue23 rfl) rfl rfl rfl ?_
 intro b27v
 refine simL_do (re_store 0 rfl rfl rfl Try.sizeOf23 rfl rfl (one_of (by rfl)) rfl rfl) rfl rfl ?_
 intro _
 refine simL_nil (nrm_then (sim_seq (sim_region ?_)))
 refine simL_val (q_move rfl rfl) rfl rfl rfl ?_
 refine simL_val (q_loado 4 rfl rfl Try.isAgg40 Try.sizeOf40 rfl rfl) rfl rfl rfl ?_
 refine simL_val (q_mkif rfl rfl Try.underlying40 rfl) rfl rfl rfl ?_
 refine simL_val (q_loado 0 rfl rfl Try.isAgg23 Try.sizeOf23 rfl rfl) rfl rfl rfl ?_
 refine simL_bind (fun s32v hs34v => ?_)
 refine simL_lend 2 rfl (fun hq28v hq29v hq30v hq31v => ?_)
 refine simL_eff (re_call (vs := [.pointer (some ⟨y4v.1, 0, none⟩), .iface 40 (.agg #[]), .agg #[.int .i64 s10v.1, .int .i64 s17v.1, .int .i64 s24v.1]]) (cap := []) (A := [obj y4v.1 194 [.slice y4v.2.1 s3v.1.length y4v.2.2, .int .i64 s24v.2.1, .int .i64 s24v.2.2]]) (rst := [obj b27v 23 [.int .i64 s10v.1, .int .i64 s17v.1, .int .i64 s24v.1], Row 5 1 y4v.2.1 s3v.1.length y4v.2.2 (encB s3v.1), obj b2v 23 [.int .i64 0, .int .i64 0, .int .i64 0], obj b1v 40 [], F]) rfl rfl rfl rfl rfl rfl Try.call84 (.sel 1 rfl (.sel 0 rfl (.sel 0 rfl (.sel 0 rfl (.sel 0 rfl (.sel 0 rfl (.nil _))))))) (codec_last_State_States.calls _ _ y4v.1 y4v.2.1 y4v.2.2 s3v.1 s24v.2.1 s24v.2.2 s10v.1 s17v.1 s24v.1 (hq28v.lend 1 rfl) hq29v hq30v) hs34v) rfl rfl rfl ?_
 intro y33v
 refine simL_val (q_ext rfl rfl rfl) rfl rfl rfl ?_
 refine simL_val (q_ext rfl rfl rfl) rfl rfl rfl ?_
 refine simL_do (re_store 3 rfl rfl rfl Try.sizeOf23 rfl rfl (one_of (by rfl)) rfl rfl) rfl rfl ?_
 intro _
 refine simL_val (q_asg rfl rfl) rfl rfl rfl (simL_nil (nrm_then (sim_rtn ?_)))
 exact rtn_fnC (vs := [.agg #[.int .i64 s32v.1, .int .i64 s32v.2.1, .int .i64 s32v.2.2.1], .int .i64 s32v.2.2.2]) () rfl ⟨⟨b2v, rfl, load_agg 3 Try.isAgg23 Try.sizeOf23 rfl rfl⟩, rfl, trivial⟩ rfl (.sel 5 rfl (.nil _))

def wire_Reader_Text.f (k : Nat) (x0_0 : List UInt8) (x0_1 : Int) (x0_2 : Int) (x1 : Int) : Option (List UInt8 × Int × Int) := (wire_Reader_Bytes.f k x0_0 x0_1 x0_2 x1).bind fun s1v => (some (s1v.1, s1v.2.1, s1v.2.2))
theorem wire_Reader_Text.calls (W : World) (F : HA) (k : Nat) (b0 : Nat) (a0_0 : Option Addr) (c0_0 : Nat) (x0_0 : List UInt8) (x0_1 : Int) (x0_2 : Int) (x1 : Int) (h0_0 : Rd F a0_0 (encB x0_0)) (hc0_0 : x0_0.length ≤ c0_0) (hm0_0 : c0_0 ≤ maxLen) :
    Fn Try.prog W 99 [.pointer (some ⟨b0, 0, none⟩), .int .i64 x1] [obj b0 194 [.slice a0_0 x0_0.length c0_0, .int .i64 x0_1, .int .i64 x0_2]] F (wire_Reader_Text.f k x0_0 x0_1 x0_2 x1) (fun (r : List UInt8 × Int × Int) (y : Unit) => str r.1) (fun r y => [obj b0 194 [.slice a0_0 x0_0.length c0_0, .int .i64 r.2.1, .int .i64 r.2.2]]) := by
 unfold wire_Reader_Text.f
 refine fn_intro 9 Try.func99 rfl Try.ntmps99 rfl ?_
 refine sim_seq (sim_region ?_)
 refine simL_val (q_asg rfl rfl) rfl rfl rfl (simL_nil (nrm_then (sim_seq (sim_region ?_))))
 refine simL_val (q_move rfl rfl) rfl rfl rfl ?_
 refine simL_val (q_move rfl rfl) rfl rfl rfl ?_
 refine simL_bind (fun s1v hs3v => ?_)
 refine simL_eff (re_call (vs := [.pointer (some ⟨b0, 0, none⟩), .int .i64 x1]) (cap := []) (A := [obj b0 194 [.slice a0_0 x0_0.length c0_0, .int .i64 x0_1, .int .i64 x0_2]]) (rst := [F]) rfl rfl rfl rfl rfl rfl Try.call90 (.sel 0 rfl (.sel 0 rfl (.nil _))) (wire_Reader_Bytes.calls _ _ k b0 a0_0 c0_0 x0_0 x0_1 x0_2 x1 (h0_0.lend 0 rfl) hc0_0 hm0_0) hs3v) rfl rfl rfl ?_
 intro y2v
 refine simL_val (q_tostr rfl rfl Try.underlying27 Try.underlying5 Try.underlying9 (Rds.row 0 rfl) rfl) rfl rfl rfl ?_
 refine simL_val (q_asg rfl rfl) rfl rfl rfl (simL_nil (nrm_then (sim_rtn ?_)))
 exact rtn_fn () rfl rfl rfl (.sel 1 rfl (.sel 1 rfl (.nil _)))

def synodref1_Reader_Text.f (k : Nat) (x0_0 : List UInt8) (x0_1 : Int) (x0_2 : Int) (x1 : Int) : Option (List UInt8 × Int × Int) := (synodref1_Reader_Bytes.f k x0_0 x0_1 x0_2 x1).bind fun s1v => (some (s1v.1, s1v.2.1, s1v.2.2))
theorem synodref1_Reader_Text.calls (W : World) (F : HA) (k : Nat) (b0 : Nat) (a0_0 : Option Addr) (c0_0 : Nat) (x0_0 : List UInt8) (x0_1 : Int) (x0_2 : Int) (x1 : Int) (h0_0 : Rd F a0_0 (encB x0_0)) (hc0_0 : x0_0.length ≤ c0_0) (hm0_0 : c0_0 ≤ maxLen) :
    Fn Try.prog W 101 [.pointer (some ⟨b0, 0, none⟩), .int .i64 x1] [obj b0 152 [.slice a0_0 x0_0.length c0_0, .int .i64 x0_1, .int .i64 x0_2]] F (synodref1_Reader_Text.f k x0_0 x0_1 x0_2 x1) (fun (r : List UInt8 × Int × Int) (y : Unit) => str r.1) (fun r y => [obj b0 152 [.slice a0_0 x0_0.length c0_0, .int .i64 r.2.1, .int .i64 r.2.2]]) := by
 unfold synodref1_Reader_Text.f
 refine fn_intro 9 Try.func101 rfl Try.ntmps101 rfl ?_
 refine sim_seq (sim_region ?_)
 refine simL_val (q_asg rfl rfl) rfl rfl rfl (simL_nil (nrm_then (sim_seq (sim_region ?_))))
 refine simL_val (q_move rfl rfl) rfl rfl rfl ?_
 refine simL_val (q_move rfl rfl) rfl rfl rfl ?_
 refine simL_bind (fun s1v hs3v => ?_)
 refine simL_eff (re_call (vs := [.pointer (some ⟨b0, 0, none⟩), .int .i64 x1]) (cap := []) (A := [obj b0 152 [.slice a0_0 x0_0.length c0_0, .int .i64 x0_1, .int .i64 x0_2]]) (rst := [F]) rfl rfl rfl rfl rfl rfl Try.call92 (.sel 0 rfl (.sel 0 rfl (.nil _))) (synodref1_Reader_Bytes.calls _ _ k b0 a0_0 c0_0 x0_0 x0_1 x0_2 x1 (h0_0.lend 0 rfl) hc0_0 hm0_0) hs3v) rfl rfl rfl ?_
 intro y2v
 refine simL_val (q_tostr rfl rfl Try.underlying27 Try.underlying5 Try.underlying9 (Rds.row 0 rfl) rfl) rfl rfl rfl ?_
 refine simL_val (q_asg rfl rfl) rfl rfl rfl (simL_nil (nrm_then (sim_rtn ?_)))
 exact rtn_fn () rfl rfl rfl (.sel 1 rfl (.sel 1 rfl (.nil _)))

def synodref1_Reader_Bool.f (k : Nat) (x0_0 : List UInt8) (x0_1 : Int) (x0_2 : Int) : Option (Bool × Int × Int) := (synodref1_Reader_Int.f k x0_0 x0_1 x0_2).bind fun s1v => ((if ((decide (s1v.2.2 = (0 : Int))) && (decide ((1 : Int) < s1v.1))) = true then (some (x0_1, 4)) else (some (s1v.2.1, s1v.2.2))).bind fun s4v => (some ((decide (s4v.2 = (0 : Int))) && (decide (s1v.1 = (1 : Int))), s4v.1, s4v.2)))
theorem synodref1_Reader_Bool.calls (W : World) (F : HA) (k : Nat) (b0 : Nat) (a0_0 : Option Addr) (c0_0 : Nat) (x0_0 : List UInt8) (x0_1 : Int) (x0_2 : Int) (h0_0 : Rd F a0_0 (encB x0_0)) (hc0_0 : x0_0.length ≤ c0_0) (hm0_0 : c0_0 ≤ maxLen) :
    Fn Try.prog W 117 [.pointer (some ⟨b0, 0, none⟩)] [obj b0 152 [.slice a0_0 x0_0.length c0_0, .int .i64 x0_1, .int .i64 x0_2]] F (synodref1_Reader_Bool.f k x0_0 x0_1 x0_2) (fun (r : Bool × Int × Int) (y : Unit) => .bool r.1) (fun r y => [obj b0 152 [.slice a0_0 x0_0.length c0_0, .int .i64 r.2.1, .int .i64 r.2.2]]) := by
 unfold synodref1_Reader_Bool.f
 refine fn_intro 36 Try.func117 rfl Try.ntmps117 rfl ?_
 refine sim_seq (sim_region ?_)
 refine simL_val (q_asg rfl rfl) rfl rfl rfl (simL_nil (nrm_then (sim_seq (sim_region ?_))))
 refine simL_val (q_move rfl rfl) rfl rfl rfl ?_
 refine simL_val (q_nil rfl rfl) rfl rfl rfl ?_
 refine simL_val (q_fa rfl rfl Try.underlying152 rfl rfl Try.sizeOf3 rfl) rfl rfl rfl ?_
 refine simL_val (q_load rfl rfl Try.isAgg3 (.obj 0 rfl rfl)) rfl rfl rfl ?_
 refine simL_val (q_asg rfl rfl) rfl rfl rfl (simL_nil (nrm_then (sim_seq (sim_region ?_))))
 refine simL_val (q_move rfl rfl) rfl rfl rfl ?_
 refine simL_bind (fun s1v hs3v => ?_)
 refine simL_eff (re_call (vs := [.pointer (some ⟨b0, 0, none⟩)]) (cap := []) (A := [obj b0 152 [.slice a0_0 x0_0.length c0_0, .int .i64 x0_1, .int .i64 x0_2]]) (rst := [F]) rfl rfl rfl rfl rfl rfl Try.call85 (.sel 0 rfl (.sel 0 rfl (.nil _))) (synodref1_Reader_Int.calls _ _ k b0 a0_0 c0_0 x0_0 x0_1 x0_2 (h0_0.lend 0 rfl) hc0_0 hm0_0) hs3v) rfl rfl rfl ?_
 intro y2v
 refine simL_val (q_asg rfl rfl) rfl rfl rfl (simL_nil (nrm_then ?_))
 refine sim_cut (S := Int × Int) (Unit) (fun s y => [(0, .pointer (some ⟨b0, 0, none⟩)), (4, .int .i64 s1v.1)]) (fun s y => [obj b0 152 [.slice a0_0 x0_0.length c0_0, .int .i64 s.1, .int .i64 s.2], F]) ?_ ?_
 refine sim_seq (sim_region ?_)
 refine simL_val (q_move rfl rfl) rfl rfl rfl ?_
 refine simL_val (q_nil rfl rfl) rfl rfl rfl ?_
 refine simL_val (q_fa rfl rfl Try.underlying152 rfl rfl Try.sizeOf3 rfl) rfl rfl rfl ?_
 refine simL_val (q_load rfl rfl Try.isAgg3 (.obj 0 rfl rfl)) rfl rfl rfl ?_
 refine simL_val (q_eql rfl rfl rfl) rfl rfl rfl ?_
 refine simL_val (q_move rfl rfl) rfl rfl rfl ?_
 refine simL_valc (b := decide (s1v.2.2 = (0 : Int))) (fun hb9v => RQ.sub (E' := [(4, .int .i64 s1v.1)]) ⟨rfl, trivial⟩ (q_move rfl rfl)) rfl rfl rfl rfl rfl ?_
 refine simL_valc (b := decide (s1v.2.2 = (0 : Int))) (fun hb8v => RQ.sub (E' := [(17, .int .i64 s1v.1)]) ⟨lk_cv rfl hb8v, trivial⟩ (q_gtr rfl rfl rfl)) rfl rfl rfl rfl rfl ?_
 refine simL_val (q_and rfl rfl rfl) rfl rfl rfl (simL_nil (nrm_then ?_))
 refine sim_condb rfl (fun h6v => ?_) (fun h7v => ?_)
 refine sim_seq (sim_region ?_)
 refine simL_val (q_move rfl rfl) rfl rfl rfl ?_
 refine simL_val (q_nil rfl rfl) rfl rfl rfl ?_
 refine simL_val (q_fa rfl rfl Try.underlying152 rfl rfl Try.sizeOf3 rfl) rfl rfl rfl ?_
 refine simL_do (re_store 0 rfl rfl rfl Try.sizeOf3 rfl rfl (one_of (by rfl)) rfl rfl) rfl rfl ?_
 intro _
 refine simL_nil (nrm_then (sim_region ?_))
 refine simL_val (q_move rfl rfl) rfl rfl rfl ?_
 refine simL_val (q_move rfl rfl) rfl rfl rfl ?_
 refine simL_val (q_nil rfl rfl) rfl rfl rfl ?_
 refine simL_val (q_fa rfl rfl Try.underlying152 rfl rfl Try.sizeOf3 rfl) rfl rfl rfl ?_
 refine simL_do (re_store 0 rfl rfl rfl Try.sizeOf3 rfl rfl (one_of (by rfl)) rfl rfl) rfl rfl ?_
 intro _
 refine simL_nil ?_
 exact nrm_cut (s := (x0_1, 4)) () ⟨rfl, rfl, trivial⟩ (.sel 0 rfl (.sel 0 rfl (.nil _)))
 refine sim_skip ?_
 exact nrm_cut (s := (s1v.2.1, s1v.2.2)) () ⟨rfl, rfl, trivial⟩ (.sel 0 rfl (.sel 0 rfl (.nil _)))
 intro s4v y5v
 refine sim_seq (sim_region ?_)
 refine simL_val (q_move rfl rfl) rfl rfl rfl ?_
 refine simL_val (q_nil rfl rfl) rfl rfl rfl ?_
 refine simL_val (q_fa rfl rfl Try.underlying152 rfl rfl Try.sizeOf3 rfl) rfl rfl rfl ?_
 refine simL_val (q_load rfl rfl Try.isAgg3 (.obj 0 rfl rfl)) rfl rfl rfl ?_
 refine simL_val (q_eql rfl rfl rfl) rfl rfl rfl ?_
 refine simL_val (q_move rfl rfl) rfl rfl rfl ?_
 refine simL_valc (b := decide (s4v.2 = (0 : Int))) (fun hb11v => RQ.sub (E' := [(4, .int .i64 s1v.1)]) ⟨rfl, trivial⟩ (q_move rfl rfl)) rfl rfl rfl rfl rfl ?_
 refine simL_valc (b := decide (s4v.2 = (0 : Int))) (fun hb10v => RQ.sub (E' := [(33, .int .i64 s1v.1)]) ⟨lk_cv rfl hb10v, trivial⟩ (q_eql rfl rfl rfl)) rfl rfl rfl rfl rfl ?_
 refine simL_val (q_and rfl rfl rfl) rfl rfl rfl ?_
 refine simL_val (q_asg rfl rfl) rfl rfl rfl (simL_nil (nrm_then (sim_rtn ?_)))
 exact rtn_fn () rfl rfl rfl (.sel 0 rfl (.sel 0 rfl (.nil _)))

def synodref1_Writer_Text.f (k : Nat) (x0_0 : List UInt8) (x0_1 : Int) (x1 : List UInt8) (x2 : Int) : Option (List UInt8 × Int) := if x1.length ≤ 140737488355328 then ((synodref1_Writer_Bytes.f k x0_0 x0_1 x1 x2).bind fun s7v => (some (s7v.1, s7v.2))) else none
theorem synodref1_Writer_Text.calls (W : World) (F : HA) (k : Nat) (b0 : Nat) (a0_0 : Option Addr) (c0_0 : Nat) (x0_0 : List UInt8) (x0_1 : Int) (x1 : List UInt8) (x2 : Int)  :
    Fn Try.prog W 98 [.pointer (some ⟨b0, 0, none⟩), str x1, .int .i64 x2] [obj b0 143 [.slice a0_0 x0_0.length c0_0, .int .i64 x0_1], Row 5 1 a0_0 x0_0.length c0_0 (encB x0_0)] F (synodref1_Writer_Text.f k x0_0 x0_1 x1 x2) (fun (r : List UInt8 × Int) (y : Option Addr × Nat) => .tuple #[]) (fun r y => [obj b0 143 [.slice y.1 r.1.length y.2, .int .i64 r.2], Row 5 1 y.1 r.1.length y.2 (encB r.1)]) := by
 unfold synodref1_Writer_Text.f
 refine fn_intro 11 Try.func98 rfl Try.ntmps98 rfl ?_
 refine sim_region ?_
 refine simL_val (q_move rfl rfl) rfl rfl rfl ?_
 refine simL_val (q_move rfl rfl) rfl rfl rfl ?_
 refine simL_ask (fun hb2v => ?_)
 refine simL_eff (re_tobytes rfl rfl Try.underlying9 Try.underlying27 Try.underlying5 hb2v) rfl rfl rfl ?_
 intro y1v
 refine simL_val (q_move rfl rfl) rfl rfl rfl ?_
 refine simL_bind (fun s7v hs9v => ?_)
 refine simL_lend 0 rfl (fun hq3v hq4v hq5v hq6v => ?_)
 refine simL_eff (re_call (vs := [.pointer (some ⟨b0, 0, none⟩), .slice (some ⟨y1v.1, 0, none⟩) x1.length y1v.2, .int .i64 x2]) (cap := []) (A := [obj b0 143 [.slice a0_0 x0_0.length c0_0, .int .i64 x0_1], Row 5 1 a0_0 x0_0.length c0_0 (encB x0_0)]) (rst := [Row 5 1 (some ⟨y1v.1, 0, none⟩) x1.length y1v.2 (encB x1), F]) rfl rfl rfl rfl rfl rfl Try.call89 (.sel 1 rfl (.sel 1 rfl (.sel 0 rfl (.sel 0 rfl (.nil _))))) (synodref1_Writer_Bytes.calls _ _ k b0 a0_0 c0_0 x0_0 x0_1 (some ⟨y1v.1, 0, none⟩) y1v.2 x1 x2 (hq3v.lend 0 rfl) hq4v hq5v) hs9v) rfl rfl rfl ?_
 intro y8v
 refine simL_nil ?_
 exact nrm_fn (y8v.1, y8v.2) rfl rfl rfl (.sel 0 rfl (.sel 0 rfl (.sel 1 rfl (.nil _))))

def synodref1_Writer_Bool.f (k : Nat) (x0_0 : List UInt8) (x0_1 : Int) (x1 : Bool) : Option (List UInt8 × Int) := if x1 = true then ((synodref1_Writer_Int.f k x0_0 x0_1 (1 : Int)).bind fun s3v => (some (s3v.1, s3v.2))) else ((synodref1_Writer_Int.f k x0_0 x0_1 (0 : Int)).bind fun s6v => (some (s6v.1, s6v.2)))
theorem synodref1_Writer_Bool.calls (W : World) (F : HA) (k : Nat) (b0 : Nat) (a0_0 : Option Addr) (c0_0 : Nat) (x0_0 : List UInt8) (x0_1 : Int) (x1 : Bool)  :
    Fn Try.prog W 106 [.pointer (some ⟨b0, 0, none⟩), .bool x1] [obj b0 143 [.slice a0_0 x0_0.length c0_0, .int .i64 x0_1], Row 5 1 a0_0 x0_0.length c0_0 (encB x0_0)] F (synodref1_Writer_Bool.f k x0_0 x0_1 x1) (fun (r : List UInt8 × Int) (y : Option Addr × Nat) => .tuple #[]) (fun r y => [obj b0 143 [.slice y.1 r.1.length y.2, .int .i64 r.2], Row 5 1 y.1 r.1.length y.2 (encB r.1)]) := by
 unfold synodref1_Writer_Bool.f
 refine fn_intro 9 Try.func106 rfl Try.ntmps106 rfl ?_
 refine sim_seq (sim_region ?_)
 refine simL_val (q_move rfl rfl) rfl rfl rfl (simL_nil (nrm_then ?_))
 refine sim_condb rfl (fun h1v => ?_) (fun h2v => ?_)
 refine sim_region ?_
 refine simL_val (q_move rfl rfl) rfl rfl rfl ?_
 refine simL_bind (fun s3v hs5v => ?_)
 refine simL_eff (re_call (vs := [.pointer (some ⟨b0, 0, none⟩), .int .i64 1]) (cap := []) (A := [obj b0 143 [.slice a0_0 x0_0.length c0_0, .int .i64 x0_1], Row 5 1 a0_0 x0_0.length c0_0 (encB x0_0)]) (rst := [F]) rfl rfl rfl rfl rfl rfl Try.call79 (.sel 0 rfl (.sel 0 rfl (.sel 0 rfl (.nil _)))) (synodref1_Writer_Int.calls _ _ k b0 a0_0 c0_0 x0_0 x0_1 (1 : Int) ) hs5v) rfl rfl rfl ?_
 intro y4v
 refine simL_nil ?_
 exact nrm_fn (y4v.1, y4v.2) rfl rfl rfl (.sel 0 rfl (.sel 0 rfl (.sel 0 rfl (.nil _))))
 refine sim_region ?_
 refine simL_val (q_move rfl rfl) rfl rfl rfl ?_
 refine simL_bind (fun s6v hs8v => ?_)
 refine simL_eff (re_call (vs := [.pointer (some ⟨b0, 0, none⟩), .int .i64 0]) (cap := []) (A := [obj b0 143 [.slice a0_0 x0_0.length c0_0, .int .i64 x0_1], Row 5 1 a0_0 x0_0.length c0_0 (encB x0_0)]) (rst := [F]) rfl rfl rfl rfl rfl rfl Try.call79 (.sel 0 rfl (.sel 0 rfl (.sel 0 rfl (.nil _)))) (synodref1_Writer_Int.calls _ _ k b0 a0_0 c0_0 x0_0 x0_1 (0 : Int) ) hs8v) rfl rfl rfl ?_
 intro y7v
 refine simL_nil ?_
 exact nrm_fn (y7v.1, y7v.2) rfl rfl rfl (.sel 0 rfl (.sel 0 rfl (.sel 0 rfl (.nil _))))

def wire_Writer_Text.f (k : Nat) (x0_0 : List UInt8) (x0_1 : Int) (x1 : List UInt8) (x2 : Int) : Option (List UInt8 × Int) := if x1.length ≤ 140737488355328 then ((wire_Writer_Bytes.f k x0_0 x0_1 x1 x2).bind fun s7v => (some (s7v.1, s7v.2))) else none
theorem wire_Writer_Text.calls (W : World) (F : HA) (k : Nat) (b0 : Nat) (a0_0 : Option Addr) (c0_0 : Nat) (x0_0 : List UInt8) (x0_1 : Int) (x1 : List UInt8) (x2 : Int)  :
    Fn Try.prog W 97 [.pointer (some ⟨b0, 0, none⟩), str x1, .int .i64 x2] [obj b0 187 [.slice a0_0 x0_0.length c0_0, .int .i64 x0_1], Row 5 1 a0_0 x0_0.length c0_0 (encB x0_0)] F (wire_Writer_Text.f k x0_0 x0_1 x1 x2) (fun (r : List UInt8 × Int) (y : Option Addr × Nat) => .tuple #[]) (fun r y => [obj b0 187 [.slice y.1 r.1.length y.2, .int .i64 r.2], Row 5 1 y.1 r.1.length y.2 (encB r.1)]) := by
 unfold wire_Writer_Text.f
 refine fn_intro 11 Try.func97 rfl Try.ntmps97 rfl ?_
 refine sim_region ?_
 refine simL_val (q_move rfl rfl) rfl rfl rfl ?_
 refine simL_val (q_move rfl rfl) rfl rfl rfl ?_
 refine simL_ask (fun hb2v => ?_)
 refine simL_eff (re_tobytes rfl rfl Try.underlying9 Try.underlying27 Try.underlying5 hb2v) rfl rfl rfl ?_
 intro y1v
 refine simL_val (q_move rfl rfl) rfl rfl rfl ?_
 refine simL_bind (fun s7v hs9v => ?_)
 refine simL_lend 0 rfl (fun hq3v hq4v hq5v hq6v => ?_)
 refine simL_eff (re_call (vs := [.pointer (some ⟨b0, 0, none⟩), .slice (some ⟨y1v.1, 0, none⟩) x1.length y1v.2, .int .i64 x2]) (cap := []) (A := [obj b0 187 [.slice a0_0 x0_0.length c0_0, .int .i64 x0_1], Row 5 1 a0_0 x0_0.length c0_0 (encB x0_0)]) (rst := [Row 5 1 (some ⟨y1v.1, 0, none⟩) x1.length y1v.2 (encB x1), F]) rfl rfl rfl rfl rfl rfl Try.call88 (.sel 1 rfl (.sel 1 rfl (.sel 0 rfl (.sel 0 rfl (.nil _))))) (wire_Writer_Bytes.calls _ _ k b0 a0_0 c0_0 x0_0 x0_1 (some ⟨y1v.1, 0, none⟩) y1v.2 x1 x2 (hq3v.lend 0 rfl) hq4v hq5v) hs9v) rfl rfl rfl ?_
 intro y8v
 refine simL_nil ?_
 exact nrm_fn (y8v.1, y8v.2) rfl rfl rfl (.sel 0 rfl (.sel 0 rfl (.sel 1 rfl (.nil _))))

def synodref_Lent.f (x0 : List UInt8) : Option (List UInt8 × List UInt8) := (synodref_Bytes.f x0).bind fun s1v => (if (s1v.length + ([201] : List UInt8).length) * 1 ≤ 140737488355328 then (if 0 ≤ (x0.length : Int) ∧ (x0.length : Int) ≤ ((s1v ++ ([201] : List UInt8)).length : Int) then (some (List.take (x0.length : Int).toNat (s1v ++ ([201] : List UInt8)), List.drop (x0.length : Int).toNat (s1v ++ ([201] : List UInt8)))) else none) else none)
theorem synodref_Lent.calls (W : World) (F : HA) (a0 : Option Addr) (c0 : Nat) (x0 : List UInt8) (h0 : Rd F a0 (encB x0)) (hc0 : x0.length ≤ c0) (hm0 : c0 ≤ maxLen) :
    Fn Try.prog W 28 [.slice a0 x0.length c0] [] F (synodref_Lent.f x0) (fun (r : List UInt8 × List UInt8) (y : Option Addr × Nat) => .slice y.1 r.1.length y.2) (fun r y => [Row 5 1 y.1 r.1.length y.2 (encB (r.1 ++ r.2))]) := by
 unfold synodref_Lent.f
 refine fn_intro 12 Try.func28 rfl Try.ntmps28 rfl ?_
 refine sim_seq (sim_region ?_)
 refine simL_val (q_asg rfl rfl) rfl rfl rfl (simL_nil (nrm_then (sim_seq (sim_region ?_))))
 refine simL_val (q_move rfl rfl) rfl rfl rfl ?_
 refine simL_bind (fun s1v hs3v => ?_)
 refine simL_eff (re_call (vs := [.slice a0 x0.length c0]) (cap := []) (A := []) (rst := [F]) rfl rfl rfl rfl rfl rfl Try.call62 (.sel 0 rfl (.nil _)) (synodref_Bytes.calls _ _ a0 c0 x0 (h0.lend 0 rfl) hc0 hm0) hs3v) rfl rfl rfl ?_
 intro y2v
 refine simL_eff (re_litb (cs := [.int .u8 201]) ([201] : List UInt8) rfl rfl Try.underlying27 elt5 rfl (by kernel_rfl) rfl rfl rfl) rfl rfl rfl ?_
 intro b4v
 refine simL_ask (fun hb7v => ?_)
 refine simL_eff (re_appendb 1 rfl rfl rfl Try.underlying27 elt5 rfl (Rds.row 0 rfl) hb7v) rfl rfl rfl ?_
 intro y6v
 refine simL_val (q_asg rfl rfl) rfl rfl rfl (simL_nil (nrm_then (sim_seq (sim_region ?_))))
 refine simL_val (q_move rfl rfl) rfl rfl rfl ?_
 refine simL_val (q_move rfl rfl) rfl rfl rfl ?_
 refine simL_val (q_len rfl rfl rfl Try.underlying27) rfl rfl rfl ?_
 refine simL_ask (fun hb8v => ?_)
 refine simL_eff (re_cut0 1 rfl rfl rfl Try.underlying27 Try.sizeOf5 rfl hb8v) rfl rfl rfl ?_
 intro _
 refine simL_val (q_asg rfl rfl) rfl rfl rfl (simL_nil (nrm_then (sim_rtn ?_)))
 exact rtn_fn (y6v.1, y6v.2) rfl rfl rfl (.sel 1 rfl (.sel 1 rfl (.nil _)))

def synodref_Kept.f (k : Nat) (x0 : List UInt8) (z0 : List UInt8) (x1 : List UInt8) : Option (Bool) := (synodref_SameBytes.f k x0 x1).bind fun s1v => ((if (s1v && (decide ((x0.length : Int) = (x1.length : Int)))) = true then (if 0 ≤ (0 : Int) ∧ (0 : Int) ≤ IntKind.i64.wrap ((x1.length : Int) + 1) ∧ IntKind.i64.wrap ((x1.length : Int) + 1) ≤ ((x0 ++ z0).length : Int) then (if 0 ≤ (x1.length : Int) ∧ (x1.length : Int) < ((cut (x0 ++ z0) (0 : Int) (IntKind.i64.wrap ((x1.length : Int) + 1))).length : Int) then (some (decide ((((cut (x0 ++ z0) (0 : Int) (IntKind.i64.wrap ((x1.length : Int) + 1))).getD (x1.length : Int).toNat 0).toNat : Int) = (201 : Int)))) else none) else none) else (some false)).bind fun s4v => (some s4v))
theorem synodref_Kept.calls (W : World) (F : HA) (k : Nat) (a0 : Option Addr) (c0 : Nat) (x0 z0 : List UInt8) (a1 : Option Addr) (c1 : Nat) (x1 : List UInt8) (h0 : Rd F a0 (encB (x0 ++ z0))) (hc0 : (x0 ++ z0).length ≤ c0) (hm0 : c0 ≤ maxLen) (h1 : Rd F a1 (encB x1)) (hc1 : x1.length ≤ c1) (hm1 : c1 ≤ maxLen) :
    Fn Try.prog W 31 [.slice a0 x0.length c0, .slice a1 x1.length c1] [] F (synodref_Kept.f k x0 z0 x1) (fun (r : Bool) (y : Unit) => .bool r) (fun r y => []) := by
 unfold synodref_Kept.f
 refine fn_intro 29 Try.func31 rfl Try.ntmps31 rfl ?_
 refine sim_seq (sim_region ?_)
 refine simL_val (q_asg rfl rfl) rfl rfl rfl (simL_nil (nrm_then (sim_seq (sim_region ?_))))
 refine simL_val (q_move rfl rfl) rfl rfl rfl ?_
 refine simL_val (q_move rfl rfl) rfl rfl rfl ?_
 refine simL_bind (fun s1v hs3v => ?_)
 refine simL_eff (re_call (vs := [.slice a0 x0.length c0, .slice a1 x1.length c1]) (cap := []) (A := []) (rst := [F]) rfl rfl rfl rfl rfl rfl Try.call25 (.sel 0 rfl (.nil _)) (synodref_SameBytes.calls _ _ k a0 c0 x0 a1 c1 x1 ((rd_front h0).lend 0 rfl) (front_len hc0) hm0 (h1.lend 0 rfl) hc1 hm1) hs3v) rfl rfl rfl ?_
 intro y2v
 refine simL_val (q_asg rfl rfl) rfl rfl rfl (simL_nil (nrm_then (sim_seq (sim_region ?_))))
 refine simL_val (q_move rfl rfl) rfl rfl rfl ?_
 refine simL_val (q_move rfl rfl) rfl rfl rfl ?_
 refine simL_valc (b := s1v) (fun hb23v => RQ.sub (E' := [(0, .slice a0 x0.length c0)]) ⟨rfl, trivial⟩ (q_move rfl rfl)) rfl rfl rfl rfl rfl ?_
 refine simL_valc (b := s1v) (fun hb22v => RQ.sub (E' := [(11, .slice a0 x0.length c0)]) ⟨lk_cv rfl hb22v, trivial⟩ (q_len rfl rfl rfl Try.underlying27)) rfl rfl rfl rfl rfl ?_
 refine simL_valc (b := s1v) (fun hb21v => RQ.sub (E' := [(1, .slice a1 x1.length c1)]) ⟨rfl, trivial⟩ (q_move rfl rfl)) rfl rfl rfl rfl rfl ?_
 refine simL_valc (b := s1v) (fun hb20v => RQ.sub (E' := [(13, .slice a1 x1.length c1)]) ⟨lk_cv rfl hb20v, trivial⟩ (q_len rfl rfl rfl Try.underlying27)) rfl rfl rfl rfl rfl ?_
 refine simL_valc (b := s1v) (fun hb19v => RQ.sub (E' := [(12, .int .i64 (x0.length : Int)), (14, .int .i64 (x1.length : Int))]) ⟨lk_cv rfl hb19v, lk_cv rfl hb19v, trivial⟩ (q_eql rfl rfl rfl)) rfl rfl rfl rfl rfl ?_
 refine simL_val (q_and rfl rfl rfl) rfl rfl rfl ?_
 refine simL_val (q_move rfl rfl) rfl rfl rfl ?_
 refine simL_cut' 11 (S := Bool) (Unit) (fun s y => [(28, .bool s)]) (fun s y => [F]) ?_ ?_
 refine simL_caseb (fun hb17v => ?_) (fun hb18v => ?_)
 rw [hb17v]
 refine simL_valg (q_move rfl rfl) rfl rfl rfl rfl rfl rfl ?_
 refine simL_valg (q_move rfl rfl) rfl rfl rfl rfl rfl rfl ?_
 refine simL_valg (q_len rfl rfl rfl Try.underlying27) rfl rfl rfl rfl rfl rfl ?_
 refine simL_valg (q_add rfl rfl rfl) rfl rfl rfl rfl rfl rfl ?_
 refine simL_ask (fun hb6v => ?_)
 obtain ⟨a7v, c8v, hS9v, hr10v, hc11v, hm12v⟩ := slice_pre (lo := (0 : Int)) (hi := IntKind.i64.wrap ((x1.length : Int) + 1)) h0 hc0 hb6v
 refine simL_valg (q_sub_ro (l := (x0 ++ z0)) (lo' := (0 : Int)) (hi' := IntKind.i64.wrap ((x1.length : Int) + 1)) rfl rfl rfl rfl Try.underlying27 Try.sizeOf5 (.inr ⟨_, rfl⟩) (.inl ⟨rfl, rfl⟩) hb6v hc0 hS9v) rfl rfl rfl rfl rfl rfl ?_
 refine simL_valg (q_move rfl rfl) rfl rfl rfl rfl rfl rfl ?_
 refine simL_valg (q_len rfl rfl rfl Try.underlying27) rfl rfl rfl rfl rfl rfl ?_
 refine simL_ask (fun hi13v => ?_)
 obtain ⟨b14v, b14vo, ha15v⟩ := hr10v.pos (encB_ne (j := (x1.length : Int).toNat) (by omega))
 refine simL_valg (q_idx1 rfl rfl rfl ha15v Try.underlying27 Try.sizeOf5 hi13v.1 hi13v.2) rfl rfl rfl rfl rfl rfl ?_
 refine simL_valg (q_load rfl rfl Try.isAgg5 (hr10v.cell 0 rfl ha15v (encB_get (by omega)))) rfl rfl rfl rfl rfl rfl ?_
 refine simL_valg (q_eql rfl rfl rfl) rfl rfl rfl rfl rfl rfl ?_
 refine simL_val (q_pick rfl rfl rfl rfl rfl) rfl rfl rfl (simL_nil ?_)
 exact nrm_cut (s := decide ((((cut (x0 ++ z0) (0 : Int) (IntKind.i64.wrap ((x1.length : Int) + 1))).getD (x1.length : Int).toNat 0).toNat : Int) = (201 : Int))) () ⟨rfl, trivial⟩ (.sel 0 rfl (.nil _))
 rw [hb18v]
 refine simL_skipd rfl rfl rfl rfl rfl rfl ?_
 refine simL_skipd rfl rfl rfl rfl rfl rfl ?_
 refine simL_skipd rfl rfl rfl rfl rfl rfl ?_
 refine simL_skipd rfl rfl rfl rfl rfl rfl ?_
 refine simL_skipd rfl rfl rfl rfl rfl rfl ?_
 refine simL_skipd rfl rfl rfl rfl rfl rfl ?_
 refine simL_skipd rfl rfl rfl rfl rfl rfl ?_
 refine simL_skipd rfl rfl rfl rfl rfl rfl ?_
 refine simL_skipd rfl rfl rfl rfl rfl rfl ?_
 refine simL_skipd rfl rfl rfl rfl rfl rfl ?_
 refine simL_val (q_pick rfl rfl rfl rfl rfl) rfl rfl rfl (simL_nil ?_)
 exact nrm_cut (s := false) () ⟨rfl, trivial⟩ (.sel 0 rfl (.nil _))
 intro s4v y5v
 refine simL_val (q_asg rfl rfl) rfl rfl rfl (simL_nil (nrm_then (sim_rtn ?_)))
 exact rtn_fn () rfl rfl rfl (.sel 0 rfl (.nil _))

def synodref_Number.f (x0 : Int) : Option (Bool) := some ((decide ((0 : Int) ≤ x0)) && (decide (x0 ≤ (4611686018427387904 : Int))))
theorem synodref_Number.calls (W : World) (F : HA) (x0 : Int)  :
    Fn Try.prog W 71 [.int .i64 x0] [] F (synodref_Number.f x0) (fun (r : Bool) (y : Unit) => .bool r) (fun r y => []) := by
 unfold synodref_Number.f
 refine fn_intro 9 Try.func71 rfl Try.ntmps71 rfl ?_
 refine sim_seq (sim_region ?_)
 refine simL_val (q_asg rfl rfl) rfl rfl rfl (simL_nil (nrm_then (sim_seq (sim_region ?_))))
 refine simL_val (q_move rfl rfl) rfl rfl rfl ?_
 refine simL_val (q_geq rfl rfl rfl) rfl rfl rfl ?_
 refine simL_val (q_move rfl rfl) rfl rfl rfl ?_
 refine simL_valc (b := decide ((0 : Int) ≤ x0)) (fun hb2v => RQ.sub (E' := [(0, .int .i64 x0)]) ⟨rfl, trivial⟩ (q_move rfl rfl)) rfl rfl rfl rfl rfl ?_
 refine simL_valc (b := decide ((0 : Int) ≤ x0)) (fun hb1v => RQ.sub (E' := [(6, .int .i64 x0)]) ⟨lk_cv rfl hb1v, trivial⟩ (q_leq rfl rfl rfl)) rfl rfl rfl rfl rfl ?_
 refine simL_val (q_and rfl rfl rfl) rfl rfl rfl ?_
 refine simL_val (q_asg rfl rfl) rfl rfl rfl (simL_nil (nrm_then (sim_rtn ?_)))
 exact rtn_fn () rfl rfl rfl (.sel 0 rfl (.nil _))
def synodref_Number.v (x0 : Int) : Bool := (synodref_Number.f x0).getD false
theorem synodref_Number.tot (x0 : Int) : synodref_Number.f x0 = some (synodref_Number.v x0) := by
  have h : ∃ r, synodref_Number.f x0 = some r := by
    unfold synodref_Number.f
    repeat' (first | exact ⟨_, rfl⟩ | split | simp only [Option.bind_some])
  obtain ⟨r, h⟩ := h
  unfold synodref_Number.v
  rw [h]; rfl

def synodref3_used.f (x0_0 : Int) (x0_1 : Int) (x0_2 : Int) (x0_3 : Int) (x0_4 : Int) (x0_5 : Int) (x0_6 : Int) (x0_7 : Int) (x0_8 : Int) (x0_9 : Bool) (x0_10 : List (Int × Int × Int × List UInt8)) (x0_11 : Int) (x0_12 : Int) (x0_13 : List UInt8) : Option (Int × Int × Int × Int × Int × Int × Int × Int × Int × Bool × (List (Int × Int × Int × List UInt8)) × Int × Int × List UInt8) := (if x0_0 = (1 : Int) then (some (x0_4, x0_5, 0, 0, 0, false, ([] : List (Int × Int × Int × List UInt8)), 0, 0, ([] : List UInt8))) else (if x0_0 = (2 : Int) then (some (0, 0, 0, 0, 0, x0_9, ([] : List (Int × Int × Int × List UInt8)), 0, 0, ([] : List UInt8))) else (if x0_0 = (3 : Int) then (some (x0_4, x0_5, x0_6, 0, 0, false, x0_10, 0, 0, ([] : List UInt8))) else (if x0_0 = (4 : Int) then (some (x0_4, 0, 0, x0_7, 0, x0_9, ([] : List (Int × Int × Int × List UInt8)), 0, 0, ([] : List UInt8))) else (if x0_0 = (5 : Int) then (some (0, 0, x0_6, 0, x0_8, false, ([] : List (Int × Int × Int × List UInt8)), 0, 0, ([] : List UInt8))) else (if x0_0 = (6 : Int) then (some (0, 0, 0, 0, x0_8, false, ([] : List (Int × Int × Int × List UInt8)), 0, 0, ([] : List UInt8))) else (if x0_0 = (7 : Int) then (some (0, 0, 0, 0, 0, false, ([] : List (Int × Int × Int × List UInt8)), x0_11, x0_12, x0_13)) else (some (0, 0, 0, 0, 0, false, ([] : List (Int × Int × Int × List UInt8)), 0, 0, ([] : List UInt8)))))))))).bind fun s4v => (some (x0_0, x0_1, x0_2, x0_3, s4v.1, s4v.2.1, s4v.2.2.1, s4v.2.2.2.1, s4v.2.2.2.2.1, s4v.2.2.2.2.2.1, s4v.2.2.2.2.2.2.1, s4v.2.2.2.2.2.2.2.1, s4v.2.2.2.2.2.2.2.2.1, s4v.2.2.2.2.2.2.2.2.2))
theorem synodref3_used.calls (W : World) (F : HA) (G : HA) (hG : Up G F) (x0_0 : Int) (x0_1 : Int) (x0_2 : Int) (x0_3 : Int) (x0_4 : Int) (x0_5 : Int) (x0_6 : Int) (x0_7 : Int) (x0_8 : Int) (x0_9 : Bool) (a0_10 : Option Addr) (c0_10 : Nat) (x0_10 : List (Int × Int × Int × List UInt8)) (x0_11 : Int) (x0_12 : Int) (a0_13 : Option Addr) (c0_13 : Nat) (x0_13 : List UInt8) (h0_10 : RdV G 4 (V61 G) a0_10 x0_10) (hc0_10 : x0_10.length ≤ c0_10) (hm0_10 : c0_10 ≤ maxLen) (h0_13 : Rd G a0_13 (encB x0_13)) (hc0_13 : x0_13.length ≤ c0_13) (hm0_13 : c0_13 ≤ maxLen) :
    Fn Try.prog W 72 [.agg #[.int .i64 x0_0, .int .i64 x0_1, .int .i64 x0_2, .int .i64 x0_3, .int .i64 x0_4, .int .i64 x0_5, .int .i64 x0_6, .int .i64 x0_7, .int .i64 x0_8, .bool x0_9, .slice a0_10 x0_10.length c0_10, .int .i64 x0_11, .int .i64 x0_12, .slice a0_13 x0_13.length c0_13]] [] F (synodref3_used.f x0_0 x0_1 x0_2 x0_3 x0_4 x0_5 x0_6 x0_7 x0_8 x0_9 x0_10 x0_11 x0_12 x0_13) (fun (r : Int × Int × Int × Int × Int × Int × Int × Int × Int × Bool × (List (Int × Int × Int × List UInt8)) × Int × Int × List UInt8) (y : Option Addr × Nat × Option Addr × Nat) => .agg #[.int .i64 r.1, .int .i64 r.2.1, .int .i64 r.2.2.1, .int .i64 r.2.2.2.1, .int .i64 r.2.2.2.2.1, .int .i64 r.2.2.2.2.2.1, .int .i64 r.2.2.2.2.2.2.1, .int .i64 r.2.2.2.2.2.2.2.1, .int .i64 r.2.2.2.2.2.2.2.2.1, .bool r.2.2.2.2.2.2.2.2.2.1, .slice y.1 r.2.2.2.2.2.2.2.2.2.2.1.length y.2.1, .int .i64 r.2.2.2.2.2.2.2.2.2.2.2.1, .int .i64 r.2.2.2.2.2.2.2.2.2.2.2.2.1, .slice y.2.2.1 r.2.2.2.2.2.2.2.2.2.2.2.2.2.length y.2.2.2]) (fun r y => [pr (RdV (G) 4 (V61 (G)) y.1 r.2.2.2.2.2.2.2.2.2.2.1 ∧ r.2.2.2.2.2.2.2.2.2.2.1.length ≤ y.2.1 ∧ y.2.1 ≤ maxLen), pr (Rd (G) y.2.2.1 (encB r.2.2.2.2.2.2.2.2.2.2.2.2.2) ∧ r.2.2.2.2.2.2.2.2.2.2.2.2.2.length ≤ y.2.2.2 ∧ y.2.2.2 ≤ maxLen)]) := by
 unfold synodref3_used.f
 refine fn_intro 72 Try.func72 rfl Try.ntmps72 rfl ?_
 refine sim_seq (sim_region ?_)
 refine simL_eff (re_box rfl rfl rfl) rfl rfl rfl ?_
 intro b1v
 refine simL_eff (re_alloc rfl Try.zeroValue31 rfl) rfl rfl rfl ?_
 intro b2v
 refine simL_nil (nrm_then (sim_seq (sim_region ?_)))
 refine simL_val (q_fa rfl rfl Try.underlying31 rfl rfl Try.sizeOf3 rfl) rfl rfl rfl ?_
 refine simL_val (q_load rfl rfl Try.isAgg3 (.obj 1 rfl rfl)) rfl rfl rfl ?_
 refine simL_val (q_fa rfl rfl Try.underlying31 rfl rfl Try.sizeOf3 rfl) rfl rfl rfl ?_
 refine simL_val (q_load rfl rfl Try.isAgg3 (.obj 1 rfl rfl)) rfl rfl rfl ?_
 refine simL_val (q_fa rfl rfl Try.underlying31 rfl rfl Try.sizeOf3 rfl) rfl rfl rfl ?_
 refine simL_val (q_load rfl rfl Try.isAgg3 (.obj 1 rfl rfl)) rfl rfl rfl ?_
 refine simL_val (q_fa rfl rfl Try.underlying31 rfl rfl Try.sizeOf3 rfl) rfl rfl rfl ?_
 refine simL_val (q_load rfl rfl Try.isAgg3 (.obj 1 rfl rfl)) rfl rfl rfl ?_
 refine simL_val (q_build (v := .agg #[.int .i64 x0_0, .int .i64 x0_1, .int .i64 x0_2, .int .i64 x0_3, .int .i64 0, .int .i64 0, .int .i64 0, .int .i64 0, .int .i64 0, .bool false, .slice none 0 0, .int .i64 0, .int .i64 0, .slice none 0 0]) rfl rfl (fun _ => by kernel_rfl)) rfl rfl rfl ?_
 refine simL_eff (re_alloc rfl Try.zeroValue31 rfl) rfl rfl rfl ?_
 intro b3v
 refine simL_do (re_store 0 rfl rfl rfl Try.sizeOf31 rfl rfl (one_of (by rfl)) rfl rfl) rfl rfl ?_
 intro _
 refine simL_ent (H' := [obj b3v 31 [.int .i64 x0_0, .int .i64 x0_1, .int .i64 x0_2, .int .i64 x0_3, .int .i64 0, .int .i64 0, .int .i64 0, .int .i64 0, .int .i64 0, .bool false, .slice none 0 0, .int .i64 0, .int .i64 0, .slice none 0 0], obj b2v 31 [.int .i64 0, .int .i64 0, .int .i64 0, .int .i64 0, .int .i64 0, .int .i64 0, .int .i64 0, .int .i64 0, .int .i64 0, .bool false, .slice none 0 0, .int .i64 0, .int .i64 0, .slice none 0 0], obj b1v 31 [.int .i64 x0_0, .int .i64 x0_1, .int .i64 x0_2, .int .i64 x0_3, .int .i64 x0_4, .int .i64 x0_5, .int .i64 x0_6, .int .i64 x0_7, .int .i64 x0_8, .bool x0_9, .slice a0_10 x0_10.length c0_10, .int .i64 x0_11, .int .i64 x0_12, .slice a0_13 x0_13.length c0_13], F]) (Ent.refl _) ?_
 refine simL_nil (nrm_then ?_)
 refine sim_cut (S := Int × Int × Int × Int × Int × Bool × (List (Int × Int × Int × List UInt8)) × Int × Int × List UInt8) (Option Addr × Nat × Option Addr × Nat) (fun s y => [(2, .pointer (some ⟨b2v, 0, none⟩)), (3, .pointer (some ⟨b3v, 0, none⟩))]) (fun s y => [pr (RdV G 4 (V61 G) y.1 s.2.2.2.2.2.2.1 ∧ s.2.2.2.2.2.2.1.length ≤ y.2.1 ∧ y.2.1 ≤ maxLen), pr (Rd G y.2.2.1 (encB s.2.2.2.2.2.2.2.2.2) ∧ s.2.2.2.2.2.2.2.2.2.length ≤ y.2.2.2 ∧ y.2.2.2 ≤ maxLen), obj b3v 31 [.int .i64 x0_0, .int .i64 x0_1, .int .i64 x0_2, .int .i64 x0_3, .int .i64 s.1, .int .i64 s.2.1, .int .i64 s.2.2.1, .int .i64 s.2.2.2.1, .int .i64 s.2.2.2.2.1, .bool s.2.2.2.2.2.1, .slice y.1 s.2.2.2.2.2.2.1.length y.2.1, .int .i64 s.2.2.2.2.2.2.2.1, .int .i64 s.2.2.2.2.2.2.2.2.1, .slice y.2.2.1 s.2.2.2.2.2.2.2.2.2.length y.2.2.2], obj b2v 31 [.int .i64 0, .int .i64 0, .int .i64 0, .int .i64 0, .int .i64 0, .int .i64 0, .int .i64 0, .int .i64 0, .int .i64 0, .bool false, .slice none 0 0, .int .i64 0, .int .i64 0, .slice none 0 0], F]) ?_ ?_
 refine sim_seq (sim_region ?_)
 refine simL_val (q_fa rfl rfl Try.underlying31 rfl rfl Try.sizeOf3 rfl) rfl rfl rfl ?_
 refine simL_val (q_load rfl rfl Try.isAgg3 (.obj 2 rfl rfl)) rfl rfl rfl (simL_nil (nrm_then ?_))
 refine sim_block ?_
 refine sim_seq (sim_region ?_)
 refine simL_val (q_eql rfl rfl rfl) rfl rfl rfl ?_
 refine simL_val (q_asg rfl rfl) rfl rfl rfl (simL_nil (nrm_then ?_))
 refine sim_cond rfl (fun h6v => ?_) (fun h7v => ?_)
 refine sim_seq (sim_region ?_)
 refine simL_val (q_fa rfl rfl Try.underlying31 rfl rfl Try.sizeOf3 rfl) rfl rfl rfl ?_
 refine simL_val (q_load rfl rfl Try.isAgg3 (.obj 2 rfl rfl)) rfl rfl rfl ?_
 refine simL_val (q_fa rfl rfl Try.underlying31 rfl rfl Try.sizeOf3 rfl) rfl rfl rfl ?_
 refine simL_do (re_store 0 rfl rfl rfl Try.sizeOf3 rfl rfl (one_of (by rfl)) rfl rfl) rfl rfl ?_
 intro _
 refine simL_ent (H' := [obj b3v 31 [.int .i64 x0_0, .int .i64 x0_1, .int .i64 x0_2, .int .i64 x0_3, .int .i64 x0_4, .int .i64 0, .int .i64 0, .int .i64 0, .int .i64 0, .bool false, .slice none 0 0, .int .i64 0, .int .i64 0, .slice none 0 0], obj b2v 31 [.int .i64 0, .int .i64 0, .int .i64 0, .int .i64 0, .int .i64 0, .int .i64 0, .int .i64 0, .int .i64 0, .int .i64 0, .bool false, .slice none 0 0, .int .i64 0, .int .i64 0, .slice none 0 0], obj b1v 31 [.int .i64 x0_0, .int .i64 x0_1, .int .i64 x0_2, .int .i64 x0_3, .int .i64 x0_4, .int .i64 x0_5, .int .i64 x0_6, .int .i64 x0_7, .int .i64 x0_8, .bool x0_9, .slice a0_10 x0_10.length c0_10, .int .i64 x0_11, .int .i64 x0_12, .slice a0_13 x0_13.length c0_13], F]) (Ent.refl _) ?_
 refine simL_nil (nrm_then (sim_region ?_))
 refine simL_val (q_fa rfl rfl Try.underlying31 rfl rfl Try.sizeOf3 rfl) rfl rfl rfl ?_
 refine simL_val (q_load rfl rfl Try.isAgg3 (.obj 2 rfl rfl)) rfl rfl rfl ?_
 refine simL_val (q_fa rfl rfl Try.underlying31 rfl rfl Try.sizeOf3 rfl) rfl rfl rfl ?_
 refine simL_do (re_store 0 rfl rfl rfl Try.sizeOf3 rfl rfl (one_of (by rfl)) rfl rfl) rfl rfl ?_
 intro _
 refine simL_ent (H' := [obj b3v 31 [.int .i64 x0_0, .int .i64 x0_1, .int .i64 x0_2, .int .i64 x0_3, .int .i64 x0_4, .int .i64 x0_5, .int .i64 0, .int .i64 0, .int .i64 0, .bool false, .slice none 0 0, .int .i64 0, .int .i64 0, .slice none 0 0], obj b2v 31 [.int .i64 0, .int .i64 0, .int .i64 0, .int .i64 0, .int .i64 0, .int .i64 0, .int .i64 0, .int .i64 0, .int .i64 0, .bool false, .slice none 0 0, .int .i64 0, .int .i64 0, .slice none 0 0], obj b1v 31 [.int .i64 x0_0, .int .i64 x0_1, .int .i64 x0_2, .int .i64 x0_3, .int .i64 x0_4, .int .i64 x0_5, .int .i64 x0_6, .int .i64 x0_7, .int .i64 x0_8, .bool x0_9, .slice a0_10 x0_10.length c0_10, .int .i64 x0_11, .int .i64 x0_12, .slice a0_13 x0_13.length c0_13], F]) (Ent.refl _) ?_
 refine simL_nil (nrm_block ?_)
 exact nrm_cut (s := (x0_4, x0_5, 0, 0, 0, false, ([] : List (Int × Int × Int × List UInt8)), 0, 0, ([] : List UInt8))) (none, 0, none, 0) ⟨rfl, rfl, trivial⟩ (.pr_in ⟨RdV.nil, Nat.le_refl _, Nat.zero_le _⟩ (.pr_in ⟨Rd.nil _ _, Nat.le_refl _, Nat.zero_le _⟩ (.sel 0 rfl (.sel 0 rfl (.sel 1 rfl (.nil _))))))
 refine sim_seq (sim_region ?_)
 refine simL_val (q_eql rfl rfl rfl) rfl rfl rfl ?_
 refine simL_val (q_asg rfl rfl) rfl rfl rfl (simL_nil (nrm_then ?_))
 refine sim_cond rfl (fun h8v => ?_) (fun h9v => ?_)
 refine sim_region ?_
 refine simL_val (q_fa rfl rfl Try.underlying31 rfl rfl Try.sizeOf4 rfl) rfl rfl rfl ?_
 refine simL_val (q_load rfl rfl Try.isAgg4 (.obj 2 rfl rfl)) rfl rfl rfl ?_
 refine simL_val (q_fa rfl rfl Try.underlying31 rfl rfl Try.sizeOf4 rfl) rfl rfl rfl ?_
 refine simL_do (re_store 0 rfl rfl rfl Try.sizeOf4 rfl rfl (one_of (by rfl)) rfl rfl) rfl rfl ?_
 intro _
 refine simL_ent (H' := [obj b3v 31 [.int .i64 x0_0, .int .i64 x0_1, .int .i64 x0_2, .int .i64 x0_3, .int .i64 0, .int .i64 0, .int .i64 0, .int .i64 0, .int .i64 0, .bool x0_9, .slice none 0 0, .int .i64 0, .int .i64 0, .slice none 0 0], obj b2v 31 [.int .i64 0, .int .i64 0, .int .i64 0, .int .i64 0, .int .i64 0, .int .i64 0, .int .i64 0, .int .i64 0, .int .i64 0, .bool false, .slice none 0 0, .int .i64 0, .int .i64 0, .slice none 0 0], obj b1v 31 [.int .i64 x0_0, .int .i64 x0_1, .int .i64 x0_2, .int .i64 x0_3, .int .i64 x0_4, .int .i64 x0_5, .int .i64 x0_6, .int .i64 x0_7, .int .i64 x0_8, .bool x0_9, .slice a0_10 x0_10.length c0_10, .int .i64 x0_11, .int .i64 x0_12, .slice a0_13 x0_13.length c0_13], F]) (Ent.refl _) ?_
 refine simL_nil (nrm_block ?_)
 exact nrm_cut (s := (0, 0, 0, 0, 0, x0_9, ([] : List (Int × Int × Int × List UInt8)), 0, 0, ([] : List UInt8))) (none, 0, none, 0) ⟨rfl, rfl, trivial⟩ (.pr_in ⟨RdV.nil, Nat.le_refl _, Nat.zero_le _⟩ (.pr_in ⟨Rd.nil _ _, Nat.le_refl _, Nat.zero_le _⟩ (.sel 0 rfl (.sel 0 rfl (.sel 1 rfl (.nil _))))))
 refine sim_seq (sim_region ?_)
 refine simL_val (q_eql rfl rfl rfl) rfl rfl rfl ?_
 refine simL_val (q_asg rfl rfl) rfl rfl rfl (simL_nil (nrm_then ?_))
 refine sim_cond rfl (fun h10v => ?_) (fun h11v => ?_)
 refine sim_seq (sim_region ?_)
 refine simL_val (q_fa rfl rfl Try.underlying31 rfl rfl Try.sizeOf3 rfl) rfl rfl rfl ?_
 refine simL_val (q_load rfl rfl Try.isAgg3 (.obj 2 rfl rfl)) rfl rfl rfl ?_
 refine simL_val (q_fa rfl rfl Try.underlying31 rfl rfl Try.sizeOf3 rfl) rfl rfl rfl ?_
 refine simL_do (re_store 0 rfl rfl rfl Try.sizeOf3 rfl rfl (one_of (by rfl)) rfl rfl) rfl rfl ?_
 intro _
 refine simL_ent (H' := [obj b3v 31 [.int .i64 x0_0, .int .i64 x0_1, .int .i64 x0_2, .int .i64 x0_3, .int .i64 x0_4, .int .i64 0, .int .i64 0, .int .i64 0, .int .i64 0, .bool false, .slice none 0 0, .int .i64 0, .int .i64 0, .slice none 0 0], obj b2v 31 [.int .i64 0, .int .i64 0, .int .i64 0, .int .i64 0, .int .i64 0, .int .i64 0, .int .i64 0, .int .i64 0, .int .i64 0, .bool false, .slice none 0 0, .int .i64 0, .int .i64 0, .slice none 0 0], obj b1v 31 [.int .i64 x0_0, .int .i64 x0_1, .int .i64 x0_2, .int .i64 x0_3, .int .i64 x0_4, .int .i64 x0_5, .int .i64 x0_6, .int .i64 x0_7, .int .i64 x0_8, .bool x0_9, .slice a0_10 x0_10.length c0_10, .int .i64 x0_11, .int .i64 x0_12, .slice a0_13 x0_13.length c0_13], F]) (Ent.refl _) ?_
 refine simL_nil (nrm_then (sim_seq (sim_region ?_)))
 refine simL_val (q_fa rfl rfl Try.underlying31 rfl rfl Try.sizeOf3 rfl) rfl rfl rfl ?_
 refine simL_val (q_load rfl rfl Try.isAgg3 (.obj 2 rfl rfl)) rfl rfl rfl ?_
 refine simL_val (q_fa rfl rfl Try.underlying31 rfl rfl Try.sizeOf3 rfl) rfl rfl rfl ?_
 refine simL_do (re_store 0 rfl rfl rfl Try.sizeOf3 rfl rfl (one_of (by rfl)) rfl rfl) rfl rfl ?_
 intro _
 refine simL_ent (H' := [obj b3v 31 [.int .i64 x0_0, .int .i64 x0_1, .int .i64 x0_2, .int .i64 x0_3, .int .i64 x0_4, .int .i64 x0_5, .int .i64 0, .int .i64 0, .int .i64 0, .bool false, .slice none 0 0, .int .i64 0, .int .i64 0, .slice none 0 0], obj b2v 31 [.int .i64 0, .int .i64 0, .int .i64 0, .int .i64 0, .int .i64 0, .int .i64 0, .int .i64 0, .int .i64 0, .int .i64 0, .bool false, .slice none 0 0, .int .i64 0, .int .i64 0, .slice none 0 0], obj b1v 31 [.int .i64 x0_0, .int .i64 x0_1, .int .i64 x0_2, .int .i64 x0_3, .int .i64 x0_4, .int .i64 x0_5, .int .i64 x0_6, .int .i64 x0_7, .int .i64 x0_8, .bool x0_9, .slice a0_10 x0_10.length c0_10, .int .i64 x0_11, .int .i64 x0_12, .slice a0_13 x0_13.length c0_13], F]) (Ent.refl _) ?_
 refine simL_nil (nrm_then (sim_seq (sim_region ?_)))
 refine simL_val (q_fa rfl rfl Try.underlying31 rfl rfl Try.sizeOf3 rfl) rfl rfl rfl ?_
 refine simL_val (q_load rfl rfl Try.isAgg3 (.obj 2 rfl rfl)) rfl rfl rfl ?_
 refine simL_val (q_fa rfl rfl Try.underlying31 rfl rfl Try.sizeOf3 rfl) rfl rfl rfl ?_
 refine simL_do (re_store 0 rfl rfl rfl Try.sizeOf3 rfl rfl (one_of (by rfl)) rfl rfl) rfl rfl ?_
 intro _
 refine simL_ent (H' := [obj b3v 31 [.int .i64 x0_0, .int .i64 x0_1, .int .i64 x0_2, .int .i64 x0_3, .int .i64 x0_4, .int .i64 x0_5, .int .i64 x0_6, .int .i64 0, .int .i64 0, .bool false, .slice none 0 0, .int .i64 0, .int .i64 0, .slice none 0 0], obj b2v 31 [.int .i64 0, .int .i64 0, .int .i64 0, .int .i64 0, .int .i64 0, .int .i64 0, .int .i64 0, .int .i64 0, .int .i64 0, .bool false, .slice none 0 0, .int .i64 0, .int .i64 0, .slice none 0 0], obj b1v 31 [.int .i64 x0_0, .int .i64 x0_1, .int .i64 x0_2, .int .i64 x0_3, .int .i64 x0_4, .int .i64 x0_5, .int .i64 x0_6, .int .i64 x0_7, .int .i64 x0_8, .bool x0_9, .slice a0_10 x0_10.length c0_10, .int .i64 x0_11, .int .i64 x0_12, .slice a0_13 x0_13.length c0_13], F]) (Ent.refl _) ?_
 refine simL_nil (nrm_then (sim_region ?_))
 refine simL_val (q_fa rfl rfl Try.underlying31 rfl rfl Try.sizeOf26 rfl) rfl rfl rfl ?_
 refine simL_val (q_load rfl rfl Try.isAgg26 (.obj 2 rfl rfl)) rfl rfl rfl ?_
 refine simL_val (q_fa rfl rfl Try.underlying31 rfl rfl Try.sizeOf26 rfl) rfl rfl rfl ?_
 refine simL_do (re_store 0 rfl rfl rfl Try.sizeOf26 rfl rfl (one_of (by rfl)) rfl rfl) rfl rfl ?_
 intro _
 refine simL_ent (H' := [obj b3v 31 [.int .i64 x0_0, .int .i64 x0_1, .int .i64 x0_2, .int .i64 x0_3, .int .i64 x0_4, .int .i64 x0_5, .int .i64 x0_6, .int .i64 0, .int .i64 0, .bool false, .slice a0_10 x0_10.length c0_10, .int .i64 0, .int .i64 0, .slice none 0 0], obj b2v 31 [.int .i64 0, .int .i64 0, .int .i64 0, .int .i64 0, .int .i64 0, .int .i64 0, .int .i64 0, .int .i64 0, .int .i64 0, .bool false, .slice none 0 0, .int .i64 0, .int .i64 0, .slice none 0 0], obj b1v 31 [.int .i64 x0_0, .int .i64 x0_1, .int .i64 x0_2, .int .i64 x0_3, .int .i64 x0_4, .int .i64 x0_5, .int .i64 x0_6, .int .i64 x0_7, .int .i64 x0_8, .bool x0_9, .slice a0_10 x0_10.length c0_10, .int .i64 x0_11, .int .i64 x0_12, .slice a0_13 x0_13.length c0_13], F]) (Ent.refl _) ?_
 refine simL_nil (nrm_block ?_)
 exact nrm_cut (s := (x0_4, x0_5, x0_6, 0, 0, false, x0_10, 0, 0, ([] : List UInt8))) (a0_10, c0_10, none, 0) ⟨rfl, rfl, trivial⟩ (.pr_in ⟨h0_10, hc0_10, hm0_10⟩ (.pr_in ⟨Rd.nil _ _, Nat.le_refl _, Nat.zero_le _⟩ (.sel 0 rfl (.sel 0 rfl (.sel 1 rfl (.nil _))))))
 refine sim_seq (sim_region ?_)
 refine simL_val (q_eql rfl rfl rfl) rfl rfl rfl ?_
 refine simL_val (q_asg rfl rfl) rfl rfl rfl (simL_nil (nrm_then ?_))
 refine sim_cond rfl (fun h12v => ?_) (fun h13v => ?_)
 refine sim_seq (sim_region ?_)
 refine simL_val (q_fa rfl rfl Try.underlying31 rfl rfl Try.sizeOf3 rfl) rfl rfl rfl ?_
 refine simL_val (q_load rfl rfl Try.isAgg3 (.obj 2 rfl rfl)) rfl rfl rfl ?_
 refine simL_val (q_fa rfl rfl Try.underlying31 rfl rfl Try.sizeOf3 rfl) rfl rfl rfl ?_
 refine simL_do (re_store 0 rfl rfl rfl Try.sizeOf3 rfl rfl (one_of (by rfl)) rfl rfl) rfl rfl ?_
 intro _
 refine simL_ent (H' := [obj b3v 31 [.int .i64 x0_0, .int .i64 x0_1, .int .i64 x0_2, .int .i64 x0_3, .int .i64 x0_4, .int .i64 0, .int .i64 0, .int .i64 0, .int .i64 0, .bool false, .slice none 0 0, .int .i64 0, .int .i64 0, .slice none 0 0], obj b2v 31 [.int .i64 0, .int .i64 0, .int .i64 0, .int .i64 0, .int .i64 0, .int .i64 0, .int .i64 0, .int .i64 0, .int .i64 0, .bool false, .slice none 0 0, .int .i64 0, .int .i64 0, .slice none 0 0], obj b1v 31 [.int .i64 x0_0, .int .i64 x0_1, .int .i64 x0_2, .int .i64 x0_3, .int .i64 x0_4, .int .i64 x0_5, .int .i64 x0_6, .int .i64 x0_7, .int .i64 x0_8, .bool x0_9, .slice a0_10 x0_10.length c0_10, .int .i64 x0_11, .int .i64 x0_12, .slice a0_13 x0_13.length c0_13], F]) (Ent.refl _) ?_
 refine simL_nil (nrm_then (sim_seq (sim_region ?_)))
 refine simL_val (q_fa rfl rfl Try.underlying31 rfl rfl Try.sizeOf4 rfl) rfl rfl rfl ?_
 refine simL_val (q_load rfl rfl Try.isAgg4 (.obj 2 rfl rfl)) rfl rfl rfl ?_
 refine simL_val (q_fa rfl rfl Try.underlying31 rfl rfl Try.sizeOf4 rfl) rfl rfl rfl ?_
 refine simL_do (re_store 0 rfl rfl rfl Try.sizeOf4 rfl rfl (one_of (by rfl)) rfl rfl) rfl rfl ?_
 intro _
 refine simL_ent (H' := [obj b3v 31 [.int .i64 x0_0, .int .i64 x0_1, .int .i64 x0_2, .int .i64 x0_3, .int .i64 x0_4, .int .i64 0, .int .i64 0, .int .i64 0, .int .i64 0, .bool x0_9, .slice none 0 0, .int .i64 0, .int .i64 0, .slice none 0 0], obj b2v 31 [.int .i64 0, .int .i64 0, .int .i64 0, .int .i64 0, .int .i64 0, .int .i64 0, .int .i64 0, .int .i64 0, .int .i64 0, .bool false, .slice none 0 0, .int .i64 0, .int .i64 0, .slice none 0 0], obj b1v 31 [.int .i64 x0_0, .int .i64 x0_1, .int .i64 x0_2, .int .i64 x0_3, .int .i64 x0_4, .int .i64 x0_5, .int .i64 x0_6, .int .i64 x0_7, .int .i64 x0_8, .bool x0_9, .slice a0_10 x0_10.length c0_10, .int .i64 x0_11, .int .i64 x0_12, .slice a0_13 x0_13.length c0_13], F]) (Ent.refl _) ?_
 refine simL_nil (nrm_then (sim_region ?_))
 refine simL_val (q_fa rfl rfl Try.underlying31 rfl rfl Try.sizeOf3 rfl) rfl rfl rfl ?_
 refine simL_val (q_load rfl rfl Try.isAgg3 (.obj 2 rfl rfl)) rfl rfl rfl ?_
 refine simL_val (q_fa rfl rfl Try.underlying31 rfl rfl Try.sizeOf3 rfl) rfl rfl rfl ?_
 refine simL_do (re_store 0 rfl rfl rfl Try.sizeOf3 rfl rfl (one_of (by rfl)) rfl rfl) rfl rfl ?_
 intro _
 refine simL_ent (H' := [obj b3v 31 [.int .i64 x0_0, .int .i64 x0_1, .int .i64 x0_2, .int .i64 x0_3, .int .i64 x0_4, .int .i64 0, .int .i64 0, .int .i64 x0_7, .int .i64 0, .bool x0_9, .slice none 0 0, .int .i64 0, .int .i64 0, .slice none 0 0], obj b2v 31 [.int .i64 0, .int .i64 0, .int .i64 0, .int .i64 0, .int .i64 0, .int .i64 0, .int .i64 0, .int .i64 0, .int .i64 0, .bool false, .slice none 0 0, .int .i64 0, .int .i64 0, .slice none 0 0], obj b1v 31 [.int .i64 x0_0, .int .i64 x0_1, .int .i64 x0_2, .int .i64 x0_3, .int .i64 x0_4, .int .i64 x0_5, .int .i64 x0_6, .int .i64 x0_7, .int .i64 x0_8, .bool x0_9, .slice a0_10 x0_10.length c0_10, .int .i64 x0_11, .int .i64 x0_12, .slice a0_13 x0_13.length c0_13], F]) (Ent.refl _) ?_
 refine simL_nil (nrm_block ?_)
 exact nrm_cut (s := (x0_4, 0, 0, x0_7, 0, x0_9, ([] : List (Int × Int × Int × List UInt8)), 0, 0, ([] : List UInt8))) (none, 0, none, 0) ⟨rfl, rfl, trivial⟩ (.pr_in ⟨RdV.nil, Nat.le_refl _, Nat.zero_le _⟩ (.pr_in ⟨Rd.nil _ _, Nat.le_refl _, Nat.zero_le _⟩ (.sel 0 rfl (.sel 0 rfl (.sel 1 rfl (.nil _))))))
 refine sim_seq (sim_region ?_)
 refine simL_val (q_eql rfl rfl rfl) rfl rfl rfl ?_
 refine simL_val (q_asg rfl rfl) rfl rfl rfl (simL_nil (nrm_then ?_))
 refine sim_cond rfl (fun h14v => ?_) (fun h15v => ?_)
 refine sim_seq (sim_region ?_)
 refine simL_val (q_fa rfl rfl Try.underlying31 rfl rfl Try.sizeOf3 rfl) rfl rfl rfl ?_
 refine simL_val (q_load rfl rfl Try.isAgg3 (.obj 2 rfl rfl)) rfl rfl rfl ?_
 refine simL_val (q_fa rfl rfl Try.underlying31 rfl rfl Try.sizeOf3 rfl) rfl rfl rfl ?_
 refine simL_do (re_store 0 rfl rfl rfl Try.sizeOf3 rfl rfl (one_of (by rfl)) rfl rfl) rfl rfl ?_
 intro _
 refine simL_ent (H' := [obj b3v 31 [.int .i64 x0_0, .int .i64 x0_1, .int .i64 x0_2, .int .i64 x0_3, .int .i64 0, .int .i64 0, .int .i64 x0_6, .int .i64 0, .int .i64 0, .bool false, .slice none 0 0, .int .i64 0, .int .i64 0, .slice none 0 0], obj b2v 31 [.int .i64 0, .int .i64 0, .int .i64 0, .int .i64 0, .int .i64 0, .int .i64 0, .int .i64 0, .int .i64 0, .int .i64 0, .bool false, .slice none 0 0, .int .i64 0, .int .i64 0, .slice none 0 0], obj b1v 31 [.int .i64 x0_0, .int .i64 x0_1, .int .i64 x0_2, .int .i64 x0_3, .int .i64 x0_4, .int .i64 x0_5, .int .i64 x0_6, .int .i64 x0_7, .int .i64 x0_8, .bool x0_9, .slice a0_10 x0_10.length c0_10, .int .i64 x0_11, .int .i64 x0_12, .slice a0_13 x0_13.length c0_13], F]) (Ent.refl _) ?_
 refine simL_nil (nrm_then (sim_region ?_))
 refine simL_val (q_fa rfl rfl Try.underlying31 rfl rfl Try.sizeOf3 rfl) rfl rfl rfl ?_
 refine simL_val (q_load rfl rfl Try.isAgg3 (.obj 2 rfl rfl)) rfl rfl rfl ?_
 refine simL_val (q_fa rfl rfl Try.underlying31 rfl rfl Try.sizeOf3 rfl) rfl rfl rfl ?_
 refine simL_do (re_store 0 rfl rfl rfl Try.sizeOf3 rfl rfl (one_of (by rfl)) rfl rfl) rfl rfl ?_
 intro _
 refine simL_ent (H' := [obj b3v 31 [.int .i64 x0_0, .int .i64 x0_1, .int .i64 x0_2, .int .i64 x0_3, .int .i64 0, .int .i64 0, .int .i64 x0_6, .int .i64 0, .int .i64 x0_8, .bool false, .slice none 0 0, .int .i64 0, .int .i64 0, .slice none 0 0], obj b2v 31 [.int .i64 0, .int .i64 0, .int .i64 0, .int .i64 0, .int .i64 0, .int .i64 0, .int .i64 0, .int .i64 0, .int .i64 0, .bool false, .slice none 0 0, .int .i64 0, .int .i64 0, .slice none 0 0], obj b1v 31 [.int .i64 x0_0, .int .i64 x0_1, .int .i64 x0_2, .int .i64 x0_3, .int .i64 x0_4, .int .i64 x0_5, .int .i64 x0_6, .int .i64 x0_7, .int .i64 x0_8, .bool x0_9, .slice a0_10 x0_10.length c0_10, .int .i64 x0_11, .int .i64 x0_12, .slice a0_13 x0_13.length c0_13], F]) (Ent.refl _) ?_
 refine simL_nil (nrm_block ?_)
 exact nrm_cut (s := (0, 0, x0_6, 0, x0_8, false, ([] : List (Int × Int × Int × List UInt8)), 0, 0, ([] : List UInt8))) (none, 0, none, 0) ⟨rfl, rfl, trivial⟩ (.pr_in ⟨RdV.nil, Nat.le_refl _, Nat.zero_le _⟩ (.pr_in ⟨Rd.nil _ _, Nat.le_refl _, Nat.zero_le _⟩ (.sel 0 rfl (.sel 0 rfl (.sel 1 rfl (.nil _))))))
 refine sim_seq (sim_region ?_)
 refine simL_val (q_eql rfl rfl rfl) rfl rfl rfl ?_
 refine simL_val (q_asg rfl rfl) rfl rfl rfl (simL_nil (nrm_then ?_))
 refine sim_cond rfl (fun h16v => ?_) (fun h17v => ?_)
 refine sim_region ?_
 refine simL_val (q_fa rfl rfl Try.underlying31 rfl rfl Try.sizeOf3 rfl) rfl rfl rfl ?_
 refine simL_val (q_load rfl rfl Try.isAgg3 (.obj 2 rfl rfl)) rfl rfl rfl ?_
 refine simL_val (q_fa rfl rfl Try.underlying31 rfl rfl Try.sizeOf3 rfl) rfl rfl rfl ?_
 refine simL_do (re_store 0 rfl rfl rfl Try.sizeOf3 rfl rfl (one_of (by rfl)) rfl rfl) rfl rfl ?_
 intro _
 refine simL_ent (H' := [obj b3v 31 [.int .i64 x0_0, .int .i64 x0_1, .int .i64 x0_2, .int .i64 x0_3, .int .i64 0, .int .i64 0, .int .i64 0, .int .i64 0, .int .i64 x0_8, .bool false, .slice none 0 0, .int .i64 0, .int .i64 0, .slice none 0 0], obj b2v 31 [.int .i64 0, .int .i64 0, .int .i64 0, .int .i64 0, .int .i64 0, .int .i64 0, .int .i64 0, .int .i64 0, .int .i64 0, .bool false, .slice none 0 0, .int .i64 0, .int .i64 0, .slice none 0 0], obj b1v 31 [.int .i64 x0_0, .int .i64 x0_1, .int .i64 x0_2, .int .i64 x0_3, .int .i64 x0_4, .int .i64 x0_5, .int .i64 x0_6, .int .i64 x0_7, .int .i64 x0_8, .bool x0_9, .slice a0_10 x0_10.length c0_10, .int .i64 x0_11, .int .i64 x0_12, .slice a0_13 x0_13.length c0_13], F]) (Ent.refl _) ?_
 refine simL_nil (nrm_block ?_)
 exact nrm_cut (s := (0, 0, 0, 0, x0_8, false, ([] : List (Int × Int × Int × List UInt8)), 0, 0, ([] : List UInt8))) (none, 0, none, 0) ⟨rfl, rfl, trivial⟩ (.pr_in ⟨RdV.nil, Nat.le_refl _, Nat.zero_le _⟩ (.pr_in ⟨Rd.nil _ _, Nat.le_refl _, Nat.zero_le _⟩ (.sel 0 rfl (.sel 0 rfl (.sel 1 rfl (.nil _))))))
 refine sim_seq (sim_region ?_)
 refine simL_val (q_eql rfl rfl rfl) rfl rfl rfl ?_
 refine simL_val (q_asg rfl rfl) rfl rfl rfl (simL_nil (nrm_then ?_))
 refine sim_cond rfl (fun h18v => ?_) (fun h19v => ?_)
 refine sim_region ?_
 refine simL_val (q_fa rfl rfl Try.underlying31 rfl rfl Try.sizeOf29 rfl) rfl rfl rfl ?_
 refine simL_val (q_loads (vs := [.int .i64 x0_11, .int .i64 x0_12, .slice a0_13 x0_13.length c0_13]) rfl rfl Try.isAgg29 Try.sizeOf29 rfl (cells_obj 2 rfl (cells_lit rfl))) rfl rfl rfl ?_
 refine simL_val (q_fa rfl rfl Try.underlying31 rfl rfl Try.sizeOf29 rfl) rfl rfl rfl ?_
 refine simL_do (re_store 0 rfl rfl rfl Try.sizeOf29 rfl rfl (one_of (by rfl)) rfl rfl) rfl rfl ?_
 intro _
 refine simL_ent (H' := [obj b3v 31 [.int .i64 x0_0, .int .i64 x0_1, .int .i64 x0_2, .int .i64 x0_3, .int .i64 0, .int .i64 0, .int .i64 0, .int .i64 0, .int .i64 0, .bool false, .slice none 0 0, .int .i64 x0_11, .int .i64 x0_12, .slice a0_13 x0_13.length c0_13], obj b2v 31 [.int .i64 0, .int .i64 0, .int .i64 0, .int .i64 0, .int .i64 0, .int .i64 0, .int .i64 0, .int .i64 0, .int .i64 0, .bool false, .slice none 0 0, .int .i64 0, .int .i64 0, .slice none 0 0], obj b1v 31 [.int .i64 x0_0, .int .i64 x0_1, .int .i64 x0_2, .int .i64 x0_3, .int .i64 x0_4, .int .i64 x0_5, .int .i64 x0_6, .int .i64 x0_7, .int .i64 x0_8, .bool x0_9, .slice a0_10 x0_10.length c0_10, .int .i64 x0_11, .int .i64 x0_12, .slice a0_13 x0_13.length c0_13], F]) (Ent.refl _) ?_
 refine simL_nil (nrm_block ?_)
 exact nrm_cut (s := (0, 0, 0, 0, 0, false, ([] : List (Int × Int × Int × List UInt8)), x0_11, x0_12, x0_13)) (none, 0, a0_13, c0_13) ⟨rfl, rfl, trivial⟩ (.pr_in ⟨RdV.nil, Nat.le_refl _, Nat.zero_le _⟩ (.pr_in ⟨h0_13, hc0_13, hm0_13⟩ (.sel 0 rfl (.sel 0 rfl (.sel 1 rfl (.nil _))))))
 refine sim_skip ?_
 refine nrm_block ?_
 exact nrm_cut (s := (0, 0, 0, 0, 0, false, ([] : List (Int × Int × Int × List UInt8)), 0, 0, ([] : List UInt8))) (none, 0, none, 0) ⟨rfl, rfl, trivial⟩ (.pr_in ⟨RdV.nil, Nat.le_refl _, Nat.zero_le _⟩ (.pr_in ⟨Rd.nil _ _, Nat.le_refl _, Nat.zero_le _⟩ (.sel 0 rfl (.sel 0 rfl (.sel 1 rfl (.nil _))))))
 intro s4v y5v
 refine sim_pr (fun hj20v => ?_)
 refine sim_pr (fun hj21v => ?_)
 refine sim_seq (sim_region ?_)
 refine simL_val (q_loado 0 rfl rfl Try.isAgg31 Try.sizeOf31 rfl rfl) rfl rfl rfl ?_
 refine simL_do (re_store 1 rfl rfl rfl Try.sizeOf31 rfl rfl (one_of (by rfl)) rfl rfl) rfl rfl ?_
 intro _
 refine simL_ent (H' := [obj b3v 31 [.int .i64 x0_0, .int .i64 x0_1, .int .i64 x0_2, .int .i64 x0_3, .int .i64 s4v.1, .int .i64 s4v.2.1, .int .i64 s4v.2.2.1, .int .i64 s4v.2.2.2.1, .int .i64 s4v.2.2.2.2.1, .bool s4v.2.2.2.2.2.1, .slice y5v.1 s4v.2.2.2.2.2.2.1.length y5v.2.1, .int .i64 s4v.2.2.2.2.2.2.2.1, .int .i64 s4v.2.2.2.2.2.2.2.2.1, .slice y5v.2.2.1 s4v.2.2.2.2.2.2.2.2.2.length y5v.2.2.2], obj b2v 31 [.int .i64 x0_0, .int .i64 x0_1, .int .i64 x0_2, .int .i64 x0_3, .int .i64 s4v.1, .int .i64 s4v.2.1, .int .i64 s4v.2.2.1, .int .i64 s4v.2.2.2.1, .int .i64 s4v.2.2.2.2.1, .bool s4v.2.2.2.2.2.1, .slice y5v.1 s4v.2.2.2.2.2.2.1.length y5v.2.1, .int .i64 s4v.2.2.2.2.2.2.2.1, .int .i64 s4v.2.2.2.2.2.2.2.2.1, .slice y5v.2.2.1 s4v.2.2.2.2.2.2.2.2.2.length y5v.2.2.2], F]) (Ent.refl _) ?_
 refine simL_nil (nrm_then (sim_rtn ?_))
 exact rtn_fnC (vs := [.agg #[.int .i64 x0_0, .int .i64 x0_1, .int .i64 x0_2, .int .i64 x0_3, .int .i64 s4v.1, .int .i64 s4v.2.1, .int .i64 s4v.2.2.1, .int .i64 s4v.2.2.2.1, .int .i64 s4v.2.2.2.2.1, .bool s4v.2.2.2.2.2.1, .slice y5v.1 s4v.2.2.2.2.2.2.1.length y5v.2.1, .int .i64 s4v.2.2.2.2.2.2.2.1, .int .i64 s4v.2.2.2.2.2.2.2.2.1, .slice y5v.2.2.1 s4v.2.2.2.2.2.2.2.2.2.length y5v.2.2.2]]) (y5v.1, y5v.2.1, y5v.2.2.1, y5v.2.2.2) rfl ⟨⟨b2v, rfl, load_agg 1 Try.isAgg31 Try.sizeOf31 rfl rfl⟩, trivial⟩ rfl (.pr_in ⟨hj20v.1, hj20v.2.1, hj20v.2.2⟩ (.pr_in ⟨hj21v.1, hj21v.2.1, hj21v.2.2⟩ (.sel 2 rfl (.nil _))))
def synodref3_used.v (x0_0 : Int) (x0_1 : Int) (x0_2 : Int) (x0_3 : Int) (x0_4 : Int) (x0_5 : Int) (x0_6 : Int) (x0_7 : Int) (x0_8 : Int) (x0_9 : Bool) (x0_10 : List (Int × Int × Int × List UInt8)) (x0_11 : Int) (x0_12 : Int) (x0_13 : List UInt8) : Int × Int × Int × Int × Int × Int × Int × Int × Int × Bool × (List (Int × Int × Int × List UInt8)) × Int × Int × List UInt8 := (synodref3_used.f x0_0 x0_1 x0_2 x0_3 x0_4 x0_5 x0_6 x0_7 x0_8 x0_9 x0_10 x0_11 x0_12 x0_13).getD (0, 0, 0, 0, 0, 0, 0, 0, 0, false, [], 0, 0, [])
theorem synodref3_used.tot (x0_0 : Int) (x0_1 : Int) (x0_2 : Int) (x0_3 : Int) (x0_4 : Int) (x0_5 : Int) (x0_6 : Int) (x0_7 : Int) (x0_8 : Int) (x0_9 : Bool) (x0_10 : List (Int × Int × Int × List UInt8)) (x0_11 : Int) (x0_12 : Int) (x0_13 : List UInt8) : synodref3_used.f x0_0 x0_1 x0_2 x0_3 x0_4 x0_5 x0_6 x0_7 x0_8 x0_9 x0_10 x0_11 x0_12 x0_13 = some (synodref3_used.v x0_0 x0_1 x0_2 x0_3 x0_4 x0_5 x0_6 x0_7 x0_8 x0_9 x0_10 x0_11 x0_12 x0_13) := by
  have h : ∃ r, synodref3_used.f x0_0 x0_1 x0_2 x0_3 x0_4 x0_5 x0_6 x0_7 x0_8 x0_9 x0_10 x0_11 x0_12 x0_13 = some r := by
    unfold synodref3_used.f
    repeat' (first | exact ⟨_, rfl⟩ | split | simp only [Option.bind_some])
  obtain ⟨r, h⟩ := h
  unfold synodref3_used.v
  rw [h]; rfl

def synodref3_app.l1 (x0_3 : Int) (x0_4 : Int) (x0_10 : List (Int × Int × Int × List UInt8)) : Nat → Int → Int → Option ((Unit) ⊕ (Int))
  | 0, _, _ => none
  | k + 1, z35v, z36v => if z36v < (x0_10.length : Int) then (if 0 ≤ z36v ∧ z36v < (x0_10.length : Int) then (if (((!decide ((x0_10.getD z36v.toNat ((0 : Int), (0 : Int), (0 : Int), ([] : List UInt8))).2.1 = IntKind.i64.wrap ((IntKind.i64.wrap (x0_4 + 1)) + z36v))) || (decide ((x0_10.getD z36v.toNat ((0 : Int), (0 : Int), (0 : Int), ([] : List UInt8))).1 < z35v))) || (decide (x0_3 < (x0_10.getD z36v.toNat ((0 : Int), (0 : Int), (0 : Int), ([] : List UInt8))).1))) = true then (some (.inr 4)) else (synodref3_app.l1 x0_3 x0_4 x0_10 k ((x0_10.getD z36v.toNat ((0 : Int), (0 : Int), (0 : Int), ([] : List UInt8))).1) (IntKind.i64.wrap (z36v + 1)))) else none) else (some (.inl ()))
def synodref3_app.l0 (x0_10 : List (Int × Int × Int × List UInt8)) : Nat → Int → Option ((Unit) ⊕ (Int))
  | 0, _ => none
  | k + 1, z8v => if z8v < (x0_10.length : Int) then (if 0 ≤ z8v ∧ z8v < (x0_10.length : Int) then ((synodref3_CheckEntry.f ((x0_10.getD z8v.toNat ((0 : Int), (0 : Int), (0 : Int), ([] : List UInt8))).1) ((x0_10.getD z8v.toNat ((0 : Int), (0 : Int), (0 : Int), ([] : List UInt8))).2.1) ((x0_10.getD z8v.toNat ((0 : Int), (0 : Int), (0 : Int), ([] : List UInt8))).2.2.1) ((x0_10.getD z8v.toNat ((0 : Int), (0 : Int), (0 : Int), ([] : List UInt8))).2.2.2)).bind fun s24v => (if s24v = (0 : Int) then (synodref3_app.l0 x0_10 k (IntKind.i64.wrap (z8v + 1))) else (some (.inr s24v)))) else none) else (some (.inl ()))
def synodref3_app.f (k : Nat) (x0_0 : Int) (x0_1 : Int) (x0_2 : Int) (x0_3 : Int) (x0_4 : Int) (x0_5 : Int) (x0_6 : Int) (x0_7 : Int) (x0_8 : Int) (x0_9 : Bool) (x0_10 : List (Int × Int × Int × List UInt8)) (x0_11 : Int) (x0_12 : Int) (x0_13 : List UInt8) : Option (Int) := if (64 : Int) < (x0_10.length : Int) then (some 3) else (orR (synodref3_app.l0 x0_10 k 0) fun s4v => (if ((decide (x0_3 < x0_5)) || (!((decide (x0_5 = (0 : Int))) == (decide (x0_4 = (0 : Int)))))) = true then (some 4) else (orR (synodref3_app.l1 x0_3 x0_4 x0_10 k x0_5 0) fun s31v => (some 0))))
theorem synodref3_app.calls (W : World) (F : HA) (k : Nat) (x0_0 : Int) (x0_1 : Int) (x0_2 : Int) (x0_3 : Int) (x0_4 : Int) (x0_5 : Int) (x0_6 : Int) (x0_7 : Int) (x0_8 : Int) (x0_9 : Bool) (a0_10 : Option Addr) (c0_10 : Nat) (x0_10 : List (Int × Int × Int × List UInt8)) (x0_11 : Int) (x0_12 : Int) (a0_13 : Option Addr) (c0_13 : Nat) (x0_13 : List UInt8) (h0_10 : RdV F 4 (V61 F) a0_10 x0_10) (hc0_10 : x0_10.length ≤ c0_10) (hm0_10 : c0_10 ≤ maxLen) (h0_13 : Rd F a0_13 (encB x0_13)) (hc0_13 : x0_13.length ≤ c0_13) (hm0_13 : c0_13 ≤ maxLen) :
    Fn Try.prog W 73 [.agg #[.int .i64 x0_0, .int .i64 x0_1, .int .i64 x0_2, .int .i64 x0_3, .int .i64 x0_4, .int .i64 x0_5, .int .i64 x0_6, .int .i64 x0_7, .int .i64 x0_8, .bool x0_9, .slice a0_10 x0_10.length c0_10, .int .i64 x0_11, .int .i64 x0_12, .slice a0_13 x0_13.length c0_13]] [] F (synodref3_app.f k x0_0 x0_1 x0_2 x0_3 x0_4 x0_5 x0_6 x0_7 x0_8 x0_9 x0_10 x0_11 x0_12 x0_13) (fun (r : Int) (y : Unit) => .int .i64 r) (fun r y => []) := by
 unfold synodref3_app.f
 refine fn_intro 79 Try.func73 rfl Try.ntmps73 rfl ?_
 refine sim_seq (sim_region ?_)
 refine simL_eff (re_box rfl rfl rfl) rfl rfl rfl ?_
 intro b1v
 refine simL_val (q_asg rfl rfl) rfl rfl rfl (simL_nil (nrm_then (sim_seq (sim_seq (sim_region ?_)))))
 refine simL_val (q_fa rfl rfl Try.underlying31 rfl rfl Try.sizeOf26 rfl) rfl rfl rfl ?_
 refine simL_val (q_load rfl rfl Try.isAgg26 (.obj 0 rfl rfl)) rfl rfl rfl ?_
 refine simL_val (q_len rfl rfl rfl Try.underlying26) rfl rfl rfl ?_
 refine simL_val (q_gtr rfl rfl rfl) rfl rfl rfl (simL_nil (nrm_then ?_))
 refine sim_cond rfl (fun h2v => ?_) (fun h3v => ?_)
 refine sim_seq (sim_region ?_)
 refine simL_val (q_asg rfl rfl) rfl rfl rfl (simL_nil (nrm_then (sim_rtn ?_)))
 refine rtn_then ?_
 exact rtn_fn () rfl rfl rfl (.sel 1 rfl (.nil _))
 refine sim_skip ?_
 refine nrm_then ?_
 refine sim_cutR (S := Unit) (Unit) (fun s y => [(1, .pointer (some ⟨b1v, 0, none⟩))]) (fun s y => [obj b1v 31 [.int .i64 x0_0, .int .i64 x0_1, .int .i64 x0_2, .int .i64 x0_3, .int .i64 x0_4, .int .i64 x0_5, .int .i64 x0_6, .int .i64 x0_7, .int .i64 x0_8, .bool x0_9, .slice a0_10 x0_10.length c0_10, .int .i64 x0_11, .int .i64 x0_12, .slice a0_13 x0_13.length c0_13], F]) ?_ ?_
 refine sim_seq (sim_region ?_)
 refine simL_val (q_asg rfl rfl) rfl rfl rfl (simL_nil (nrm_then ?_))
 refine sim_block ?_
 refine sim_loop (S := Int) (Unit) (fun k s => synodref3_app.l0 x0_10 k s) (fun s y => [(1, .pointer (some ⟨b1v, 0, none⟩)), (3, .int .i64 s)]) (fun s y => [obj b1v 31 [.int .i64 x0_0, .int .i64 x0_1, .int .i64 x0_2, .int .i64 x0_3, .int .i64 x0_4, .int .i64 x0_5, .int .i64 x0_6, .int .i64 x0_7, .int .i64 x0_8, .bool x0_9, .slice a0_10 x0_10.length c0_10, .int .i64 x0_11, .int .i64 x0_12, .slice a0_13 x0_13.length c0_13], F]) (fun _ => by rw [synodref3_app.l0]) ?_ k 0 () ⟨rfl, rfl, trivial⟩ (.sel 0 rfl (.sel 0 rfl (.nil _)))
 intro k s6v y7v
 refine sim_eq (by rw [synodref3_app.l0]) ?_
 refine sim_seq (sim_seq (sim_region ?_))
 refine simL_val (q_move rfl rfl) rfl rfl rfl ?_
 refine simL_val (q_fa rfl rfl Try.underlying31 rfl rfl Try.sizeOf26 rfl) rfl rfl rfl ?_
 refine simL_val (q_load rfl rfl Try.isAgg26 (.obj 0 rfl rfl)) rfl rfl rfl ?_
 refine simL_val (q_len rfl rfl rfl Try.underlying26) rfl rfl rfl ?_
 refine simL_val (q_lss rfl rfl rfl) rfl rfl rfl (simL_nil (nrm_then ?_))
 refine sim_cond rfl (fun h9v => ?_) (fun h10v => ?_)
 refine sim_skip ?_
 refine nrm_then (sim_seq ?_)
 refine sim_block ?_
 refine sim_seq (sim_region ?_)
 refine simL_val (q_fa rfl rfl Try.underlying31 rfl rfl Try.sizeOf26 rfl) rfl rfl rfl ?_
 refine simL_val (q_load rfl rfl Try.isAgg26 (.obj 0 rfl rfl)) rfl rfl rfl ?_
 refine simL_val (q_move rfl rfl) rfl rfl rfl ?_
 refine simL_ask (fun hi11v => ?_)
 obtain ⟨b12v, b12vo, r15v, ha13v, hV16v, hlr17v, hcell18v⟩ := RdV.pos h0_10 (Up.refl _) rfl (i := s6v.toNat) (by omega) ((0 : Int), (0 : Int), (0 : Int), ([] : List UInt8))
 obtain ⟨a19v, c20v, rfl, ⟨he21v, hc22v, hm23v⟩⟩ := hV16v
 refine simL_val (q_idx rfl rfl rfl ha13v Try.underlying26 Try.sizeOf61 hi11v.1 hi11v.2) rfl rfl rfl ?_
 refine simL_val (q_loads rfl rfl Try.isAgg61 Try.sizeOf61 rfl (fun j v hj => hcell18v 1 rfl j v hj)) rfl rfl rfl ?_
 refine simL_bind (fun s24v hs26v => ?_)
 refine simL_eff (re_call (vs := [.agg #[.int .i64 ((x0_10.getD s6v.toNat ((0 : Int), (0 : Int), (0 : Int), ([] : List UInt8))).1), .int .i64 ((x0_10.getD s6v.toNat ((0 : Int), (0 : Int), (0 : Int), ([] : List UInt8))).2.1), .int .i64 ((x0_10.getD s6v.toNat ((0 : Int), (0 : Int), (0 : Int), ([] : List UInt8))).2.2.1), .slice a19v (((x0_10.getD s6v.toNat ((0 : Int), (0 : Int), (0 : Int), ([] : List UInt8))).2.2.2).length) c20v]]) (cap := []) (A := []) (rst := [obj b1v 31 [.int .i64 x0_0, .int .i64 x0_1, .int .i64 x0_2, .int .i64 x0_3, .int .i64 x0_4, .int .i64 x0_5, .int .i64 x0_6, .int .i64 x0_7, .int .i64 x0_8, .bool x0_9, .slice a0_10 x0_10.length c0_10, .int .i64 x0_11, .int .i64 x0_12, .slice a0_13 x0_13.length c0_13], F]) rfl rfl rfl rfl rfl rfl Try.call35 (.sel 0 rfl (.sel 0 rfl (.nil _))) (synodref3_CheckEntry.calls _ _ ((x0_10.getD s6v.toNat ((0 : Int), (0 : Int), (0 : Int), ([] : List UInt8))).1) ((x0_10.getD s6v.toNat ((0 : Int), (0 : Int), (0 : Int), ([] : List UInt8))).2.1) ((x0_10.getD s6v.toNat ((0 : Int), (0 : Int), (0 : Int), ([] : List UInt8))).2.2.1) a19v c20v ((x0_10.getD s6v.toNat ((0 : Int), (0 : Int), (0 : Int), ([] : List UInt8))).2.2.2) (he21v.lend 1 rfl) hc22v hm23v) hs26v) rfl rfl rfl ?_
 intro y25v
 refine simL_val (q_asg rfl rfl) rfl rfl rfl (simL_nil (nrm_then (sim_seq (sim_region ?_))))
 refine simL_val (q_move rfl rfl) rfl rfl rfl ?_
 refine simL_val (q_neq rfl rfl rfl) rfl rfl rfl (simL_nil (nrm_then ?_))
 refine sim_condn rfl (fun h27v => ?_) (fun h28v => ?_)
 refine sim_skip ?_
 refine nrm_block (nrm_then (sim_region ?_))
 refine simL_val (q_move rfl rfl) rfl rfl rfl ?_
 refine simL_val (q_add rfl rfl rfl) rfl rfl rfl ?_
 refine simL_val (q_asg rfl rfl) rfl rfl rfl (simL_nil ?_)
 exact nrm_again (s := IntKind.i64.wrap (s6v + 1)) () ⟨rfl, rfl, trivial⟩ (.sel 0 rfl (.sel 0 rfl (.nil _)))
 refine sim_seq (sim_region ?_)
 refine simL_val (q_move rfl rfl) rfl rfl rfl ?_
 refine simL_val (q_asg rfl rfl) rfl rfl rfl (simL_nil (nrm_then (sim_rtn ?_)))
 refine rtn_block ?_
 refine rtn_then ?_
 refine rtn_loop ?_
 refine rtn_block ?_
 refine rtn_cutR ?_
 exact rtn_fn () rfl rfl rfl (.sel 1 rfl (.nil _))
 refine sim_exi ?_
 refine exi_then ?_
 refine exi_loop ?_
 refine exi_here ?_
 exact nrm_cutR (s := ()) () ⟨rfl, trivial⟩ (.sel 0 rfl (.sel 0 rfl (.nil _)))
 intro s4v y5v
 refine sim_seq (sim_seq (sim_region ?_))
 refine simL_val (q_fa rfl rfl Try.underlying31 rfl rfl Try.sizeOf3 rfl) rfl rfl rfl ?_
 refine simL_val (q_load rfl rfl Try.isAgg3 (.obj 0 rfl rfl)) rfl rfl rfl ?_
 refine simL_val (q_fa rfl rfl Try.underlying31 rfl rfl Try.sizeOf3 rfl) rfl rfl rfl ?_
 refine simL_val (q_load rfl rfl Try.isAgg3 (.obj 0 rfl rfl)) rfl rfl rfl ?_
 refine simL_val (q_gtr rfl rfl rfl) rfl rfl rfl ?_
 refine simL_val (q_move rfl rfl) rfl rfl rfl ?_
 refine simL_valc (b := decide (x0_3 < x0_5)) (fun hb70v => RQ.sub (E' := [(1, .pointer (some ⟨b1v, 0, none⟩))]) ⟨rfl, trivial⟩ (q_fa rfl rfl Try.underlying31 rfl rfl Try.sizeOf3 rfl)) rfl rfl rfl rfl rfl ?_
 refine simL_valc (b := decide (x0_3 < x0_5)) (fun hb69v => RQ.sub (E' := [(34, .pointer (some ⟨b1v, 5, none⟩))]) ⟨lk_cv rfl hb69v, trivial⟩ (q_load rfl rfl Try.isAgg3 (.obj 0 rfl rfl))) rfl rfl rfl rfl rfl ?_
 refine simL_valc (b := decide (x0_3 < x0_5)) (fun hb68v => RQ.sub (E' := [(35, .int .i64 x0_5)]) ⟨lk_cv rfl hb68v, trivial⟩ (q_eql rfl rfl rfl)) rfl rfl rfl rfl rfl ?_
 refine simL_valc (b := decide (x0_3 < x0_5)) (fun hb67v => RQ.sub (E' := [(1, .pointer (some ⟨b1v, 0, none⟩))]) ⟨rfl, trivial⟩ (q_fa rfl rfl Try.underlying31 rfl rfl Try.sizeOf3 rfl)) rfl rfl rfl rfl rfl ?_
 refine simL_valc (b := decide (x0_3 < x0_5)) (fun hb66v => RQ.sub (E' := [(37, .pointer (some ⟨b1v, 4, none⟩))]) ⟨lk_cv rfl hb66v, trivial⟩ (q_load rfl rfl Try.isAgg3 (.obj 0 rfl rfl))) rfl rfl rfl rfl rfl ?_
 refine simL_valc (b := decide (x0_3 < x0_5)) (fun hb65v => RQ.sub (E' := [(38, .int .i64 x0_4)]) ⟨lk_cv rfl hb65v, trivial⟩ (q_eql rfl rfl rfl)) rfl rfl rfl rfl rfl ?_
 refine simL_valc (b := decide (x0_3 < x0_5)) (fun hb64v => RQ.sub (E' := [(36, .bool (decide (x0_5 = (0 : Int)))), (39, .bool (decide (x0_4 = (0 : Int))))]) ⟨lk_cv rfl hb64v, lk_cv rfl hb64v, trivial⟩ (q_neb rfl rfl rfl Try.underlying4)) rfl rfl rfl rfl rfl ?_
 refine simL_val (q_or rfl rfl rfl) rfl rfl rfl (simL_nil (nrm_then ?_))
 refine sim_condb rfl (fun h29v => ?_) (fun h30v => ?_)
 refine sim_seq (sim_region ?_)
 refine simL_val (q_asg rfl rfl) rfl rfl rfl (simL_nil (nrm_then (sim_rtn ?_)))
 refine rtn_then ?_
 exact rtn_fn () rfl rfl rfl (.sel 1 rfl (.nil _))
 refine sim_skip ?_
 refine nrm_then (sim_seq (sim_region ?_))
 refine simL_val (q_fa rfl rfl Try.underlying31 rfl rfl Try.sizeOf3 rfl) rfl rfl rfl ?_
 refine simL_val (q_load rfl rfl Try.isAgg3 (.obj 0 rfl rfl)) rfl rfl rfl ?_
 refine simL_val (q_asg rfl rfl) rfl rfl rfl (simL_nil (nrm_then ?_))
 refine sim_cutR (S := Unit) (Unit) (fun s y => []) (fun s y => [F]) ?_ ?_
 refine sim_seq (sim_region ?_)
 refine simL_val (q_asg rfl rfl) rfl rfl rfl (simL_nil (nrm_then ?_))
 refine sim_block ?_
 refine sim_loop (S := Int × Int) (Unit) (fun k s => synodref3_app.l1 x0_3 x0_4 x0_10 k s.1 s.2) (fun s y => [(1, .pointer (some ⟨b1v, 0, none⟩)), (5, .int .i64 s.1), (6, .int .i64 s.2)]) (fun s y => [obj b1v 31 [.int .i64 x0_0, .int .i64 x0_1, .int .i64 x0_2, .int .i64 x0_3, .int .i64 x0_4, .int .i64 x0_5, .int .i64 x0_6, .int .i64 x0_7, .int .i64 x0_8, .bool x0_9, .slice a0_10 x0_10.length c0_10, .int .i64 x0_11, .int .i64 x0_12, .slice a0_13 x0_13.length c0_13], F]) (fun _ => by rw [synodref3_app.l1]) ?_ k (x0_5, 0) () ⟨rfl, rfl, rfl, trivial⟩ (.sel 0 rfl (.sel 0 rfl (.nil _)))
 intro k s33v y34v
 refine sim_eq (by rw [synodref3_app.l1]) ?_
 refine sim_seq (sim_seq (sim_region ?_))
 refine simL_val (q_move rfl rfl) rfl rfl rfl ?_
 refine simL_val (q_fa rfl rfl Try.underlying31 rfl rfl Try.sizeOf26 rfl) rfl rfl rfl ?_
 refine simL_val (q_load rfl rfl Try.isAgg26 (.obj 0 rfl rfl)) rfl rfl rfl ?_
 refine simL_val (q_len rfl rfl rfl Try.underlying26) rfl rfl rfl ?_
 refine simL_val (q_lss rfl rfl rfl) rfl rfl rfl (simL_nil (nrm_then ?_))
 refine sim_cond rfl (fun h37v => ?_) (fun h38v => ?_)
 refine sim_skip ?_
 refine nrm_then (sim_seq ?_)
 refine sim_block ?_
 refine sim_seq (sim_region ?_)
 refine simL_val (q_fa rfl rfl Try.underlying31 rfl rfl Try.sizeOf26 rfl) rfl rfl rfl ?_
 refine simL_val (q_load rfl rfl Try.isAgg26 (.obj 0 rfl rfl)) rfl rfl rfl ?_
 refine simL_val (q_move rfl rfl) rfl rfl rfl ?_
 refine simL_ask (fun hi39v => ?_)
 obtain ⟨b40v, b40vo, r43v, ha41v, hV44v, hlr45v, hcell46v⟩ := RdV.pos h0_10 (Up.refl _) rfl (i := s33v.2.toNat) (by omega) ((0 : Int), (0 : Int), (0 : Int), ([] : List UInt8))
 obtain ⟨a47v, c48v, rfl, ⟨he49v, hc50v, hm51v⟩⟩ := hV44v
 refine simL_val (q_idx rfl rfl rfl ha41v Try.underlying26 Try.sizeOf61 hi39v.1 hi39v.2) rfl rfl rfl ?_
 refine simL_val (q_loads rfl rfl Try.isAgg61 Try.sizeOf61 rfl (fun j v hj => hcell46v 1 rfl j v hj)) rfl rfl rfl ?_
 refine simL_eff (re_alloc rfl Try.zeroValue61 rfl) rfl rfl rfl ?_
 intro b52v
 refine simL_do (re_store 0 rfl rfl rfl Try.sizeOf61 rfl rfl (one_of (by rfl)) rfl rfl) rfl rfl ?_
 intro _
 refine simL_nil (nrm_then (sim_seq (sim_seq (sim_region ?_))))
 refine simL_val (q_fa rfl rfl Try.underlying61 rfl rfl Try.sizeOf3 rfl) rfl rfl rfl ?_
 refine simL_val (q_load rfl rfl Try.isAgg3 (.obj 0 rfl rfl)) rfl rfl rfl ?_
 refine simL_val (q_fa rfl rfl Try.underlying31 rfl rfl Try.sizeOf3 rfl) rfl rfl rfl ?_
 refine simL_val (q_load rfl rfl Try.isAgg3 (.obj 1 rfl rfl)) rfl rfl rfl ?_
 refine simL_val (q_add rfl rfl rfl) rfl rfl rfl ?_
 refine simL_val (q_move rfl rfl) rfl rfl rfl ?_
 refine simL_val (q_add rfl rfl rfl) rfl rfl rfl ?_
 refine simL_val (q_neq rfl rfl rfl) rfl rfl rfl ?_
 refine simL_val (q_move rfl rfl) rfl rfl rfl ?_
 refine simL_valc (b := !decide ((x0_10.getD s33v.2.toNat ((0 : Int), (0 : Int), (0 : Int), ([] : List UInt8))).2.1 = IntKind.i64.wrap ((IntKind.i64.wrap (x0_4 + 1)) + s33v.2))) (fun hb63v => RQ.sub (E' := [(7, .pointer (some ⟨b52v, 0, none⟩))]) ⟨rfl, trivial⟩ (q_fa rfl rfl Try.underlying61 rfl rfl Try.sizeOf3 rfl)) rfl rfl rfl rfl rfl ?_
 refine simL_valc (b := !decide ((x0_10.getD s33v.2.toNat ((0 : Int), (0 : Int), (0 : Int), ([] : List UInt8))).2.1 = IntKind.i64.wrap ((IntKind.i64.wrap (x0_4 + 1)) + s33v.2))) (fun hb62v => RQ.sub (E' := [(65, .pointer (some ⟨b52v, 0, none⟩))]) ⟨lk_cv rfl hb62v, trivial⟩ (q_load rfl rfl Try.isAgg3 (.obj 0 rfl rfl))) rfl rfl rfl rfl rfl ?_
 refine simL_valc (b := !decide ((x0_10.getD s33v.2.toNat ((0 : Int), (0 : Int), (0 : Int), ([] : List UInt8))).2.1 = IntKind.i64.wrap ((IntKind.i64.wrap (x0_4 + 1)) + s33v.2))) (fun hb61v => RQ.sub (E' := [(5, .int .i64 s33v.1)]) ⟨rfl, trivial⟩ (q_move rfl rfl)) rfl rfl rfl rfl rfl ?_
 refine simL_valc (b := !decide ((x0_10.getD s33v.2.toNat ((0 : Int), (0 : Int), (0 : Int), ([] : List UInt8))).2.1 = IntKind.i64.wrap ((IntKind.i64.wrap (x0_4 + 1)) + s33v.2))) (fun hb60v => RQ.sub (E' := [(66, .int .i64 ((x0_10.getD s33v.2.toNat ((0 : Int), (0 : Int), (0 : Int), ([] : List UInt8))).1)), (67, .int .i64 s33v.1)]) ⟨lk_cv rfl hb60v, lk_cv rfl hb60v, trivial⟩ (q_lss rfl rfl rfl)) rfl rfl rfl rfl rfl ?_
 refine simL_val (q_or rfl rfl rfl) rfl rfl rfl ?_
 refine simL_val (q_move rfl rfl) rfl rfl rfl ?_
 refine simL_valc (b := (!decide ((x0_10.getD s33v.2.toNat ((0 : Int), (0 : Int), (0 : Int), ([] : List UInt8))).2.1 = IntKind.i64.wrap ((IntKind.i64.wrap (x0_4 + 1)) + s33v.2))) || (decide ((x0_10.getD s33v.2.toNat ((0 : Int), (0 : Int), (0 : Int), ([] : List UInt8))).1 < s33v.1))) (fun hb59v => RQ.sub (E' := [(7, .pointer (some ⟨b52v, 0, none⟩))]) ⟨rfl, trivial⟩ (q_fa rfl rfl Try.underlying61 rfl rfl Try.sizeOf3 rfl)) rfl rfl rfl rfl rfl ?_
 refine simL_valc (b := (!decide ((x0_10.getD s33v.2.toNat ((0 : Int), (0 : Int), (0 : Int), ([] : List UInt8))).2.1 = IntKind.i64.wrap ((IntKind.i64.wrap (x0_4 + 1)) + s33v.2))) || (decide ((x0_10.getD s33v.2.toNat ((0 : Int), (0 : Int), (0 : Int), ([] : List UInt8))).1 < s33v.1))) (fun hb58v => RQ.sub (E' := [(71, .pointer (some ⟨b52v, 0, none⟩))]) ⟨lk_cv rfl hb58v, trivial⟩ (q_load rfl rfl Try.isAgg3 (.obj 0 rfl rfl))) rfl rfl rfl rfl rfl ?_
 refine simL_valc (b := (!decide ((x0_10.getD s33v.2.toNat ((0 : Int), (0 : Int), (0 : Int), ([] : List UInt8))).2.1 = IntKind.i64.wrap ((IntKind.i64.wrap (x0_4 + 1)) + s33v.2))) || (decide ((x0_10.getD s33v.2.toNat ((0 : Int), (0 : Int), (0 : Int), ([] : List UInt8))).1 < s33v.1))) (fun hb57v => RQ.sub (E' := [(1, .pointer (some ⟨b1v, 0, none⟩))]) ⟨rfl, trivial⟩ (q_fa rfl rfl Try.underlying31 rfl rfl Try.sizeOf3 rfl)) rfl rfl rfl rfl rfl ?_
 refine simL_valc (b := (!decide ((x0_10.getD s33v.2.toNat ((0 : Int), (0 : Int), (0 : Int), ([] : List UInt8))).2.1 = IntKind.i64.wrap ((IntKind.i64.wrap (x0_4 + 1)) + s33v.2))) || (decide ((x0_10.getD s33v.2.toNat ((0 : Int), (0 : Int), (0 : Int), ([] : List UInt8))).1 < s33v.1))) (fun hb56v => RQ.sub (E' := [(73, .pointer (some ⟨b1v, 3, none⟩))]) ⟨lk_cv rfl hb56v, trivial⟩ (q_load rfl rfl Try.isAgg3 (.obj 1 rfl rfl))) rfl rfl rfl rfl rfl ?_
 refine simL_valc (b := (!decide ((x0_10.getD s33v.2.toNat ((0 : Int), (0 : Int), (0 : Int), ([] : List UInt8))).2.1 = IntKind.i64.wrap ((IntKind.i64.wrap (x0_4 + 1)) + s33v.2))) || (decide ((x0_10.getD s33v.2.toNat ((0 : Int), (0 : Int), (0 : Int), ([] : List UInt8))).1 < s33v.1))) (fun hb55v => RQ.sub (E' := [(72, .int .i64 ((x0_10.getD s33v.2.toNat ((0 : Int), (0 : Int), (0 : Int), ([] : List UInt8))).1)), (74, .int .i64 x0_3)]) ⟨lk_cv rfl hb55v, lk_cv rfl hb55v, trivial⟩ (q_gtr rfl rfl rfl)) rfl rfl rfl rfl rfl ?_
 refine simL_val (q_or rfl rfl rfl) rfl rfl rfl (simL_nil (nrm_then ?_))
 refine sim_condb rfl (fun h53v => ?_) (fun h54v => ?_)
 refine sim_seq (sim_region ?_)
 refine simL_val (q_asg rfl rfl) rfl rfl rfl (simL_nil (nrm_then (sim_rtn ?_)))
 refine rtn_then ?_
 refine rtn_block ?_
 refine rtn_then ?_
 refine rtn_loop ?_
 refine rtn_block ?_
 refine rtn_cutR ?_
 exact rtn_fn () rfl rfl rfl (.sel 2 rfl (.nil _))
 refine sim_skip ?_
 refine nrm_then (sim_region ?_)
 refine simL_val (q_fa rfl rfl Try.underlying61 rfl rfl Try.sizeOf3 rfl) rfl rfl rfl ?_
 refine simL_val (q_load rfl rfl Try.isAgg3 (.obj 0 rfl rfl)) rfl rfl rfl ?_
 refine simL_val (q_asg rfl rfl) rfl rfl rfl (simL_nil (nrm_block (nrm_then (sim_region ?_))))
 refine simL_val (q_move rfl rfl) rfl rfl rfl ?_
 refine simL_val (q_add rfl rfl rfl) rfl rfl rfl ?_
 refine simL_val (q_asg rfl rfl) rfl rfl rfl (simL_nil ?_)
 exact nrm_again (s := ((x0_10.getD s33v.2.toNat ((0 : Int), (0 : Int), (0 : Int), ([] : List UInt8))).1, IntKind.i64.wrap (s33v.2 + 1))) () ⟨rfl, rfl, rfl, trivial⟩ (.sel 1 rfl (.sel 1 rfl (.nil _)))
 refine sim_exi ?_
 refine exi_then ?_
 refine exi_loop ?_
 refine exi_here ?_
 exact nrm_cutR (s := ()) () trivial (.sel 1 rfl (.nil _))
 intro s31v y32v
 refine sim_seq (sim_region ?_)
 refine simL_val (q_asg rfl rfl) rfl rfl rfl (simL_nil (nrm_then (sim_rtn ?_)))
 exact rtn_fn () rfl rfl rfl (.sel 0 rfl (.nil _))

def synodref3_CheckMessage.f (k : Nat) (x0_0 : Int) (x0_1 : Int) (x0_2 : Int) (x0_3 : Int) (x0_4 : Int) (x0_5 : Int) (x0_6 : Int) (x0_7 : Int) (x0_8 : Int) (x0_9 : Bool) (x0_10 : List (Int × Int × Int × List UInt8)) (x0_11 : Int) (x0_12 : Int) (x0_13 : List UInt8) : Option (Int) := (synodref3_within.f x0_0 (1 : Int) (7 : Int)).bind fun s2v => (if (!s2v) = true then (some 6) else ((synodref3_within.f x0_1 (1 : Int) (7 : Int)).bind fun s7v => ((if s7v = true then ((synodref3_within.f x0_2 (1 : Int) (7 : Int)).bind fun s12v => (some s12v)) else (some false)).bind fun s10v => ((synodref3_within.f x0_3 (1 : Int) (4611686018427387904 : Int)).bind fun s17v => ((if s17v = true then ((synodref_Number.f x0_4).bind fun s22v => (some s22v)) else (some false)).bind fun s20v => ((if s20v = true then ((synodref_Number.f x0_5).bind fun s29v => (some s29v)) else (some false)).bind fun s27v => ((if s27v = true then ((synodref_Number.f x0_6).bind fun s36v => (some s36v)) else (some false)).bind fun s34v => ((if ((!s10v) || (!s34v)) = true then (some true) else ((synodref_Number.f x0_7).bind fun s43v => (some (!s43v)))).bind fun s41v => ((if s41v = true then (some true) else ((synodref_Number.f x0_8).bind fun s50v => (some (!s50v)))).bind fun s48v => (if s48v = true then (some 1) else ((synodref3_used.f x0_0 x0_1 x0_2 x0_3 x0_4 x0_5 x0_6 x0_7 x0_8 x0_9 x0_10 x0_11 x0_12 x0_13).bind fun s57v => ((synodref_SameMessage.f k x0_0 x0_1 x0_2 x0_3 x0_4 x0_5 x0_6 x0_7 x0_8 x0_9 x0_10 x0_11 x0_12 x0_13 s57v.1 s57v.2.1 s57v.2.2.1 s57v.2.2.2.1 s57v.2.2.2.2.1 s57v.2.2.2.2.2.1 s57v.2.2.2.2.2.2.1 s57v.2.2.2.2.2.2.2.1 s57v.2.2.2.2.2.2.2.2.1 s57v.2.2.2.2.2.2.2.2.2.1 s57v.2.2.2.2.2.2.2.2.2.2.1 s57v.2.2.2.2.2.2.2.2.2.2.2.1 s57v.2.2.2.2.2.2.2.2.2.2.2.2.1 s57v.2.2.2.2.2.2.2.2.2.2.2.2.2).bind fun s62v => (if ((decide (x0_1 = x0_2)) || (!s62v)) = true then (some 4) else (orR (if x0_0 = (3 : Int) then ((synodref3_app.f k x0_0 x0_1 x0_2 x0_3 x0_4 x0_5 x0_6 x0_7 x0_8 x0_9 x0_10 x0_11 x0_12 x0_13).bind fun s72v => (some (.inr s72v))) else (if x0_0 = (1 : Int) then (if ((decide (x0_3 ≤ x0_5)) || (!((decide (x0_5 = (0 : Int))) == (decide (x0_4 = (0 : Int)))))) = true then (some (.inr 4)) else (some (.inl ()))) else (if x0_0 = (4 : Int) then (if ((!decide (x0_7 = (0 : Int))) && (!x0_9)) = true then (some (.inr 4)) else (some (.inl ()))) else (if x0_0 = (7 : Int) then ((synodref3_CheckSnap.f x0_11 x0_12 x0_13).bind fun s95v => (if s95v = (0 : Int) then ((synodref3_None.f x0_11 x0_12 x0_13).bind fun s100v => (if (s100v || (decide (x0_3 < x0_12))) = true then (some (.inr 4)) else (some (.inl ())))) else (some (.inr s95v)))) else (some (.inl ())))))) fun s68v => (some 0)))))))))))))))
theorem synodref3_CheckMessage.calls (W : World) (F : HA) (k : Nat) (x0_0 : Int) (x0_1 : Int) (x0_2 : Int) (x0_3 : Int) (x0_4 : Int) (x0_5 : Int) (x0_6 : Int) (x0_7 : Int) (x0_8 : Int) (x0_9 : Bool) (a0_10 : Option Addr) (c0_10 : Nat) (x0_10 : List (Int × Int × Int × List UInt8)) (x0_11 : Int) (x0_12 : Int) (a0_13 : Option Addr) (c0_13 : Nat) (x0_13 : List UInt8) (h0_10 : RdV F 4 (V61 F) a0_10 x0_10) (hc0_10 : x0_10.length ≤ c0_10) (hm0_10 : c0_10 ≤ maxLen) (h0_13 : Rd F a0_13 (encB x0_13)) (hc0_13 : x0_13.length ≤ c0_13) (hm0_13 : c0_13 ≤ maxLen) :
    Fn Try.prog W 19 [.agg #[.int .i64 x0_0, .int .i64 x0_1, .int .i64 x0_2, .int .i64 x0_3, .int .i64 x0_4, .int .i64 x0_5, .int .i64 x0_6, .int .i64 x0_7, .int .i64 x0_8, .bool x0_9, .slice a0_10 x0_10.length c0_10, .int .i64 x0_11, .int .i64 x0_12, .slice a0_13 x0_13.length c0_13]] [] F (synodref3_CheckMessage.f k x0_0 x0_1 x0_2 x0_3 x0_4 x0_5 x0_6 x0_7 x0_8 x0_9 x0_10 x0_11 x0_12 x0_13) (fun (r : Int) (y : Unit) => .int .i64 r) (fun r y => []) := by
 unfold synodref3_CheckMessage.f
 refine fn_intro 119 Try.func19 rfl Try.ntmps19 rfl ?_
 refine sim_seq (sim_region ?_)
 refine simL_eff (re_box rfl rfl rfl) rfl rfl rfl ?_
 intro b1v
 refine simL_val (q_asg rfl rfl) rfl rfl rfl (simL_nil (nrm_then (sim_seq (sim_seq (sim_region ?_)))))
 refine simL_val (q_fa rfl rfl Try.underlying31 rfl rfl Try.sizeOf3 rfl) rfl rfl rfl ?_
 refine simL_val (q_load rfl rfl Try.isAgg3 (.obj 0 rfl rfl)) rfl rfl rfl ?_
 refine simL_bind (fun s2v hs4v => ?_)
 refine simL_eff (re_call (vs := [.int .i64 x0_0, .int .i64 1, .int .i64 7]) (cap := []) (A := []) (rst := [obj b1v 31 [.int .i64 x0_0, .int .i64 x0_1, .int .i64 x0_2, .int .i64 x0_3, .int .i64 x0_4, .int .i64 x0_5, .int .i64 x0_6, .int .i64 x0_7, .int .i64 x0_8, .bool x0_9, .slice a0_10 x0_10.length c0_10, .int .i64 x0_11, .int .i64 x0_12, .slice a0_13 x0_13.length c0_13], F]) rfl rfl rfl rfl rfl rfl Try.call69 (.sel 0 rfl (.sel 0 rfl (.nil _))) (synodref3_within.calls _ _ x0_0 (1 : Int) (7 : Int) ) hs4v) rfl rfl rfl ?_
 intro y3v
 refine simL_val (q_not rfl rfl) rfl rfl rfl (simL_nil (nrm_then ?_))
 refine sim_condb rfl (fun h5v => ?_) (fun h6v => ?_)
 refine sim_seq (sim_region ?_)
 refine simL_val (q_asg rfl rfl) rfl rfl rfl (simL_nil (nrm_then (sim_rtn ?_)))
 refine rtn_then ?_
 exact rtn_fn () rfl rfl rfl (.sel 1 rfl (.nil _))
 refine sim_skip ?_
 refine nrm_then (sim_seq (sim_region ?_))
 refine simL_val (q_fa rfl rfl Try.underlying31 rfl rfl Try.sizeOf3 rfl) rfl rfl rfl ?_
 refine simL_val (q_load rfl rfl Try.isAgg3 (.obj 0 rfl rfl)) rfl rfl rfl ?_
 refine simL_bind (fun s7v hs9v => ?_)
 refine simL_eff (re_call (vs := [.int .i64 x0_1, .int .i64 1, .int .i64 7]) (cap := []) (A := []) (rst := [obj b1v 31 [.int .i64 x0_0, .int .i64 x0_1, .int .i64 x0_2, .int .i64 x0_3, .int .i64 x0_4, .int .i64 x0_5, .int .i64 x0_6, .int .i64 x0_7, .int .i64 x0_8, .bool x0_9, .slice a0_10 x0_10.length c0_10, .int .i64 x0_11, .int .i64 x0_12, .slice a0_13 x0_13.length c0_13], F]) rfl rfl rfl rfl rfl rfl Try.call69 (.sel 0 rfl (.sel 0 rfl (.nil _))) (synodref3_within.calls _ _ x0_1 (1 : Int) (7 : Int) ) hs9v) rfl rfl rfl ?_
 intro y8v
 refine simL_val (q_move rfl rfl) rfl rfl rfl ?_
 refine simL_cut' 4 (S := Bool) (Unit) (fun s y => [(1, .pointer (some ⟨b1v, 0, none⟩)), (18, .bool s)]) (fun s y => [obj b1v 31 [.int .i64 x0_0, .int .i64 x0_1, .int .i64 x0_2, .int .i64 x0_3, .int .i64 x0_4, .int .i64 x0_5, .int .i64 x0_6, .int .i64 x0_7, .int .i64 x0_8, .bool x0_9, .slice a0_10 x0_10.length c0_10, .int .i64 x0_11, .int .i64 x0_12, .slice a0_13 x0_13.length c0_13], F]) ?_ ?_
 refine simL_caseb (fun hb15v => ?_) (fun hb16v => ?_)
 rw [hb15v]
 refine simL_valg (q_fa rfl rfl Try.underlying31 rfl rfl Try.sizeOf3 rfl) rfl rfl rfl rfl rfl rfl ?_
 refine simL_valg (q_load rfl rfl Try.isAgg3 (.obj 0 rfl rfl)) rfl rfl rfl rfl rfl rfl ?_
 refine simL_bind (fun s12v hs14v => ?_)
 refine simL_effg (re_call (vs := [.int .i64 x0_2, .int .i64 1, .int .i64 7]) (cap := []) (A := []) (rst := [obj b1v 31 [.int .i64 x0_0, .int .i64 x0_1, .int .i64 x0_2, .int .i64 x0_3, .int .i64 x0_4, .int .i64 x0_5, .int .i64 x0_6, .int .i64 x0_7, .int .i64 x0_8, .bool x0_9, .slice a0_10 x0_10.length c0_10, .int .i64 x0_11, .int .i64 x0_12, .slice a0_13 x0_13.length c0_13], F]) rfl rfl rfl rfl rfl rfl Try.call69 (.sel 0 rfl (.sel 0 rfl (.nil _))) (synodref3_within.calls _ _ x0_2 (1 : Int) (7 : Int) ) hs14v) rfl rfl rfl rfl rfl rfl ?_
 intro y13v
 refine simL_val (q_pick rfl rfl rfl rfl rfl) rfl rfl rfl (simL_nil ?_)
 exact nrm_cut (s := s12v) () ⟨rfl, rfl, trivial⟩ (.sel 0 rfl (.sel 0 rfl (.nil _)))
 rw [hb16v]
 refine simL_skipd rfl rfl rfl rfl rfl rfl ?_
 refine simL_skipd rfl rfl rfl rfl rfl rfl ?_
 refine simL_skipd rfl rfl rfl rfl rfl rfl ?_
 refine simL_val (q_pick rfl rfl rfl rfl rfl) rfl rfl rfl (simL_nil ?_)
 exact nrm_cut (s := false) () ⟨rfl, rfl, trivial⟩ (.sel 0 rfl (.sel 0 rfl (.nil _)))
 intro s10v y11v
 refine simL_val (q_asg rfl rfl) rfl rfl rfl (simL_nil (nrm_then (sim_seq (sim_region ?_))))
 refine simL_val (q_fa rfl rfl Try.underlying31 rfl rfl Try.sizeOf3 rfl) rfl rfl rfl ?_
 refine simL_val (q_load rfl rfl Try.isAgg3 (.obj 0 rfl rfl)) rfl rfl rfl ?_
 refine simL_bind (fun s17v hs19v => ?_)
 refine simL_eff (re_call (vs := [.int .i64 x0_3, .int .i64 1, .int .i64 4611686018427387904]) (cap := []) (A := []) (rst := [obj b1v 31 [.int .i64 x0_0, .int .i64 x0_1, .int .i64 x0_2, .int .i64 x0_3, .int .i64 x0_4, .int .i64 x0_5, .int .i64 x0_6, .int .i64 x0_7, .int .i64 x0_8, .bool x0_9, .slice a0_10 x0_10.length c0_10, .int .i64 x0_11, .int .i64 x0_12, .slice a0_13 x0_13.length c0_13], F]) rfl rfl rfl rfl rfl rfl Try.call69 (.sel 0 rfl (.sel 0 rfl (.nil _))) (synodref3_within.calls _ _ x0_3 (1 : Int) (4611686018427387904 : Int) ) hs19v) rfl rfl rfl ?_
 intro y18v
 refine simL_val (q_move rfl rfl) rfl rfl rfl ?_
 refine simL_cut' 4 (S := Bool) (Unit) (fun s y => [(1, .pointer (some ⟨b1v, 0, none⟩)), (3, .bool s10v), (26, .bool s)]) (fun s y => [obj b1v 31 [.int .i64 x0_0, .int .i64 x0_1, .int .i64 x0_2, .int .i64 x0_3, .int .i64 x0_4, .int .i64 x0_5, .int .i64 x0_6, .int .i64 x0_7, .int .i64 x0_8, .bool x0_9, .slice a0_10 x0_10.length c0_10, .int .i64 x0_11, .int .i64 x0_12, .slice a0_13 x0_13.length c0_13], F]) ?_ ?_
 refine simL_caseb (fun hb25v => ?_) (fun hb26v => ?_)
 rw [hb25v]
 refine simL_valg (q_fa rfl rfl Try.underlying31 rfl rfl Try.sizeOf3 rfl) rfl rfl rfl rfl rfl rfl ?_
 refine simL_valg (q_load rfl rfl Try.isAgg3 (.obj 0 rfl rfl)) rfl rfl rfl rfl rfl rfl ?_
 refine simL_bind (fun s22v hs24v => ?_)
 refine simL_effg (re_call (vs := [.int .i64 x0_4]) (cap := []) (A := []) (rst := [obj b1v 31 [.int .i64 x0_0, .int .i64 x0_1, .int .i64 x0_2, .int .i64 x0_3, .int .i64 x0_4, .int .i64 x0_5, .int .i64 x0_6, .int .i64 x0_7, .int .i64 x0_8, .bool x0_9, .slice a0_10 x0_10.length c0_10, .int .i64 x0_11, .int .i64 x0_12, .slice a0_13 x0_13.length c0_13], F]) rfl rfl rfl rfl rfl rfl Try.call71 (.sel 0 rfl (.sel 0 rfl (.nil _))) (synodref_Number.calls _ _ x0_4 ) hs24v) rfl rfl rfl rfl rfl rfl ?_
 intro y23v
 refine simL_val (q_pick rfl rfl rfl rfl rfl) rfl rfl rfl (simL_nil ?_)
 exact nrm_cut (s := s22v) () ⟨rfl, rfl, rfl, trivial⟩ (.sel 0 rfl (.sel 0 rfl (.nil _)))
 rw [hb26v]
 refine simL_skipd rfl rfl rfl rfl rfl rfl ?_
 refine simL_skipd rfl rfl rfl rfl rfl rfl ?_
 refine simL_skipd rfl rfl rfl rfl rfl rfl ?_
 refine simL_val (q_pick rfl rfl rfl rfl rfl) rfl rfl rfl (simL_nil ?_)
 exact nrm_cut (s := false) () ⟨rfl, rfl, rfl, trivial⟩ (.sel 0 rfl (.sel 0 rfl (.nil _)))
 intro s20v y21v
 refine simL_val (q_move rfl rfl) rfl rfl rfl ?_
 refine simL_cut' 4 (S := Bool) (Unit) (fun s y => [(1, .pointer (some ⟨b1v, 0, none⟩)), (3, .bool s10v), (31, .bool s)]) (fun s y => [obj b1v 31 [.int .i64 x0_0, .int .i64 x0_1, .int .i64 x0_2, .int .i64 x0_3, .int .i64 x0_4, .int .i64 x0_5, .int .i64 x0_6, .int .i64 x0_7, .int .i64 x0_8, .bool x0_9, .slice a0_10 x0_10.length c0_10, .int .i64 x0_11, .int .i64 x0_12, .slice a0_13 x0_13.length c0_13], F]) ?_ ?_
 refine simL_caseb (fun hb32v => ?_) (fun hb33v => ?_)
 rw [hb32v]
 refine simL_valg (q_fa rfl rfl Try.underlying31 rfl rfl Try.sizeOf3 rfl) rfl rfl rfl rfl rfl rfl ?_
 refine simL_valg (q_load rfl rfl Try.isAgg3 (.obj 0 rfl rfl)) rfl rfl rfl rfl rfl rfl ?_
 refine simL_bind (fun s29v hs31v => ?_)
 refine simL_effg (re_call (vs := [.int .i64 x0_5]) (cap := []) (A := []) (rst := [obj b1v 31 [.int .i64 x0_0, .int .i64 x0_1, .int .i64 x0_2, .int .i64 x0_3, .int .i64 x0_4, .int .i64 x0_5, .int .i64 x0_6, .int .i64 x0_7, .int .i64 x0_8, .bool x0_9, .slice a0_10 x0_10.length c0_10, .int .i64 x0_11, .int .i64 x0_12, .slice a0_13 x0_13.length c0_13], F]) rfl rfl rfl rfl rfl rfl Try.call71 (.sel 0 rfl (.sel 0 rfl (.nil _))) (synodref_Number.calls _ _ x0_5 ) hs31v) rfl rfl rfl rfl rfl rfl ?_
 intro y30v
 refine simL_val (q_pick rfl rfl rfl rfl rfl) rfl rfl rfl (simL_nil ?_)
 exact nrm_cut (s := s29v) () ⟨rfl, rfl, rfl, trivial⟩ (.sel 0 rfl (.sel 0 rfl (.nil _)))
 rw [hb33v]
 refine simL_skipd rfl rfl rfl rfl rfl rfl ?_
 refine simL_skipd rfl rfl rfl rfl rfl rfl ?_
 refine simL_skipd rfl rfl rfl rfl rfl rfl ?_
 refine simL_val (q_pick rfl rfl rfl rfl rfl) rfl rfl rfl (simL_nil ?_)
 exact nrm_cut (s := false) () ⟨rfl, rfl, rfl, trivial⟩ (.sel 0 rfl (.sel 0 rfl (.nil _)))
 intro s27v y28v
 refine simL_val (q_move rfl rfl) rfl rfl rfl ?_
 refine simL_cut' 4 (S := Bool) (Unit) (fun s y => [(1, .pointer (some ⟨b1v, 0, none⟩)), (3, .bool s10v), (36, .bool s)]) (fun s y => [obj b1v 31 [.int .i64 x0_0, .int .i64 x0_1, .int .i64 x0_2, .int .i64 x0_3, .int .i64 x0_4, .int .i64 x0_5, .int .i64 x0_6, .int .i64 x0_7, .int .i64 x0_8, .bool x0_9, .slice a0_10 x0_10.length c0_10, .int .i64 x0_11, .int .i64 x0_12, .slice a0_13 x0_13.length c0_13], F]) ?_ ?_
 refine simL_caseb (fun hb39v => ?_) (fun hb40v => ?_)
 rw [hb39v]
 refine simL_valg (q_fa rfl rfl Try.underlying31 rfl rfl Try.sizeOf3 rfl) rfl rfl rfl rfl rfl rfl ?_
 refine simL_valg (q_load rfl rfl Try.isAgg3 (.obj 0 rfl rfl)) rfl rfl rfl rfl rfl rfl ?_
 refine simL_bind (fun s36v hs38v => ?_)
 refine simL_effg (re_call (vs := [.int .i64 x0_6]) (cap := []) (A := []) (rst := [obj b1v 31 [.int .i64 x0_0, .int .i64 x0_1, .int .i64 x0_2, .int .i64 x0_3, .int .i64 x0_4, .int .i64 x0_5, .int .i64 x0_6, .int .i64 x0_7, .int .i64 x0_8, .bool x0_9, .slice a0_10 x0_10.length c0_10, .int .i64 x0_11, .int .i64 x0_12, .slice a0_13 x0_13.length c0_13], F]) rfl rfl rfl rfl rfl rfl Try.call71 (.sel 0 rfl (.sel 0 rfl (.nil _))) (synodref_Number.calls _ _ x0_6 ) hs38v) rfl rfl rfl rfl rfl rfl ?_
 intro y37v
 refine simL_val (q_pick rfl rfl rfl rfl rfl) rfl rfl rfl (simL_nil ?_)
 exact nrm_cut (s := s36v) () ⟨rfl, rfl, rfl, trivial⟩ (.sel 0 rfl (.sel 0 rfl (.nil _)))
 rw [hb40v]
 refine simL_skipd rfl rfl rfl rfl rfl rfl ?_
 refine simL_skipd rfl rfl rfl rfl rfl rfl ?_
 refine simL_skipd rfl rfl rfl rfl rfl rfl ?_
 refine simL_val (q_pick rfl rfl rfl rfl rfl) rfl rfl rfl (simL_nil ?_)
 exact nrm_cut (s := false) () ⟨rfl, rfl, rfl, trivial⟩ (.sel 0 rfl (.sel 0 rfl (.nil _)))
 intro s34v y35v
 refine simL_val (q_asg rfl rfl) rfl rfl rfl (simL_nil (nrm_then (sim_seq (sim_seq (sim_region ?_)))))
 refine simL_val (q_move rfl rfl) rfl rfl rfl ?_
 refine simL_val (q_not rfl rfl) rfl rfl rfl ?_
 refine simL_val (q_move rfl rfl) rfl rfl rfl ?_
 refine simL_valc (b := !s10v) (fun hb114v => RQ.sub (E' := [(4, .bool s34v)]) ⟨rfl, trivial⟩ (q_move rfl rfl)) rfl rfl rfl rfl rfl ?_
 refine simL_valc (b := !s10v) (fun hb113v => RQ.sub (E' := [(40, .bool s34v)]) ⟨lk_cv rfl hb113v, trivial⟩ (q_not rfl rfl)) rfl rfl rfl rfl rfl ?_
 refine simL_val (q_or rfl rfl rfl) rfl rfl rfl ?_
 refine simL_val (q_move rfl rfl) rfl rfl rfl ?_
 refine simL_cut' 5 (S := Bool) (Unit) (fun s y => [(1, .pointer (some ⟨b1v, 0, none⟩)), (48, .bool s)]) (fun s y => [obj b1v 31 [.int .i64 x0_0, .int .i64 x0_1, .int .i64 x0_2, .int .i64 x0_3, .int .i64 x0_4, .int .i64 x0_5, .int .i64 x0_6, .int .i64 x0_7, .int .i64 x0_8, .bool x0_9, .slice a0_10 x0_10.length c0_10, .int .i64 x0_11, .int .i64 x0_12, .slice a0_13 x0_13.length c0_13], F]) ?_ ?_
 refine simL_caseb (fun hb46v => ?_) (fun hb47v => ?_)
 rw [hb46v]
 refine simL_skipd rfl rfl rfl rfl rfl rfl ?_
 refine simL_skipd rfl rfl rfl rfl rfl rfl ?_
 refine simL_skipd rfl rfl rfl rfl rfl rfl ?_
 refine simL_skipd rfl rfl rfl rfl rfl rfl ?_
 refine simL_val (q_pick rfl rfl rfl rfl rfl) rfl rfl rfl (simL_nil ?_)
 exact nrm_cut (s := true) () ⟨rfl, rfl, trivial⟩ (.sel 0 rfl (.sel 0 rfl (.nil _)))
 rw [hb47v]
 refine simL_valg (q_fa rfl rfl Try.underlying31 rfl rfl Try.sizeOf3 rfl) rfl rfl rfl rfl rfl rfl ?_
 refine simL_valg (q_load rfl rfl Try.isAgg3 (.obj 0 rfl rfl)) rfl rfl rfl rfl rfl rfl ?_
 refine simL_bind (fun s43v hs45v => ?_)
 refine simL_effg (re_call (vs := [.int .i64 x0_7]) (cap := []) (A := []) (rst := [obj b1v 31 [.int .i64 x0_0, .int .i64 x0_1, .int .i64 x0_2, .int .i64 x0_3, .int .i64 x0_4, .int .i64 x0_5, .int .i64 x0_6, .int .i64 x0_7, .int .i64 x0_8, .bool x0_9, .slice a0_10 x0_10.length c0_10, .int .i64 x0_11, .int .i64 x0_12, .slice a0_13 x0_13.length c0_13], F]) rfl rfl rfl rfl rfl rfl Try.call71 (.sel 0 rfl (.sel 0 rfl (.nil _))) (synodref_Number.calls _ _ x0_7 ) hs45v) rfl rfl rfl rfl rfl rfl ?_
 intro y44v
 refine simL_valg (q_not rfl rfl) rfl rfl rfl rfl rfl rfl ?_
 refine simL_val (q_pick rfl rfl rfl rfl rfl) rfl rfl rfl (simL_nil ?_)
 exact nrm_cut (s := !s43v) () ⟨rfl, rfl, trivial⟩ (.sel 0 rfl (.sel 0 rfl (.nil _)))
 intro s41v y42v
 refine simL_val (q_move rfl rfl) rfl rfl rfl ?_
 refine simL_cut' 5 (S := Bool) (Unit) (fun s y => [(1, .pointer (some ⟨b1v, 0, none⟩)), (54, .bool s)]) (fun s y => [obj b1v 31 [.int .i64 x0_0, .int .i64 x0_1, .int .i64 x0_2, .int .i64 x0_3, .int .i64 x0_4, .int .i64 x0_5, .int .i64 x0_6, .int .i64 x0_7, .int .i64 x0_8, .bool x0_9, .slice a0_10 x0_10.length c0_10, .int .i64 x0_11, .int .i64 x0_12, .slice a0_13 x0_13.length c0_13], F]) ?_ ?_
 refine simL_caseb (fun hb53v => ?_) (fun hb54v => ?_)
 rw [hb53v]
 refine simL_skipd rfl rfl rfl rfl rfl rfl ?_
 refine simL_skipd rfl rfl rfl rfl rfl rfl ?_
 refine simL_skipd rfl rfl rfl rfl rfl rfl ?_
 refine simL_skipd rfl rfl rfl rfl rfl rfl ?_
 refine simL_val (q_pick rfl rfl rfl rfl rfl) rfl rfl rfl (simL_nil ?_)
 exact nrm_cut (s := true) () ⟨rfl, rfl, trivial⟩ (.sel 0 rfl (.sel 0 rfl (.nil _)))
 rw [hb54v]
 refine simL_valg (q_fa rfl rfl Try.underlying31 rfl rfl Try.sizeOf3 rfl) rfl rfl rfl rfl rfl rfl ?_
 refine simL_valg (q_load rfl rfl Try.isAgg3 (.obj 0 rfl rfl)) rfl rfl rfl rfl rfl rfl ?_
 refine simL_bind (fun s50v hs52v => ?_)
 refine simL_effg (re_call (vs := [.int .i64 x0_8]) (cap := []) (A := []) (rst := [obj b1v 31 [.int .i64 x0_0, .int .i64 x0_1, .int .i64 x0_2, .int .i64 x0_3, .int .i64 x0_4, .int .i64 x0_5, .int .i64 x0_6, .int .i64 x0_7, .int .i64 x0_8, .bool x0_9, .slice a0_10 x0_10.length c0_10, .int .i64 x0_11, .int .i64 x0_12, .slice a0_13 x0_13.length c0_13], F]) rfl rfl rfl rfl rfl rfl Try.call71 (.sel 0 rfl (.sel 0 rfl (.nil _))) (synodref_Number.calls _ _ x0_8 ) hs52v) rfl rfl rfl rfl rfl rfl ?_
 intro y51v
 refine simL_valg (q_not rfl rfl) rfl rfl rfl rfl rfl rfl ?_
 refine simL_val (q_pick rfl rfl rfl rfl rfl) rfl rfl rfl (simL_nil ?_)
 exact nrm_cut (s := !s50v) () ⟨rfl, rfl, trivial⟩ (.sel 0 rfl (.sel 0 rfl (.nil _)))
 intro s48v y49v
 refine simL_nil (nrm_then ?_)
 refine sim_condb rfl (fun h55v => ?_) (fun h56v => ?_)
 refine sim_seq (sim_region ?_)
 refine simL_val (q_asg rfl rfl) rfl rfl rfl (simL_nil (nrm_then (sim_rtn ?_)))
 refine rtn_then ?_
 exact rtn_fn () rfl rfl rfl (.sel 1 rfl (.nil _))
 refine sim_skip ?_
 refine nrm_then (sim_seq ?_)
 refine sim_bind (fun s57v hs59v => ?_)
 refine sim_bind (fun s62v hs64v => ?_)
 refine sim_draw (Γ := (Option Addr × Nat × Option Addr × Nat)) (none, 0, none, 0) [[], [], [1], [0, 1, 2], [0, 1, 2, 3]] [2, 3] [0, 1, 4] (fun i => [[0, 1], [0], [], [], [2]].getD i []) (fun i => [[], [], [0, 1], [0, 1, 2], []].getD i []) (fun γ i => [.agg #[.int .i64 x0_0, .int .i64 x0_1, .int .i64 x0_2, .int .i64 x0_3, .int .i64 x0_4, .int .i64 x0_5, .int .i64 x0_6, .int .i64 x0_7, .int .i64 x0_8, .bool x0_9, .slice a0_10 x0_10.length c0_10, .int .i64 x0_11, .int .i64 x0_12, .slice a0_13 x0_13.length c0_13], .agg #[.int .i64 x0_0, .int .i64 x0_1, .int .i64 x0_2, .int .i64 x0_3, .int .i64 x0_4, .int .i64 x0_5, .int .i64 x0_6, .int .i64 x0_7, .int .i64 x0_8, .bool x0_9, .slice a0_10 x0_10.length c0_10, .int .i64 x0_11, .int .i64 x0_12, .slice a0_13 x0_13.length c0_13], .agg #[.int .i64 s57v.1, .int .i64 s57v.2.1, .int .i64 s57v.2.2.1, .int .i64 s57v.2.2.2.1, .int .i64 s57v.2.2.2.2.1, .int .i64 s57v.2.2.2.2.2.1, .int .i64 s57v.2.2.2.2.2.2.1, .int .i64 s57v.2.2.2.2.2.2.2.1, .int .i64 s57v.2.2.2.2.2.2.2.2.1, .bool s57v.2.2.2.2.2.2.2.2.2.1, .slice γ.1 s57v.2.2.2.2.2.2.2.2.2.2.1.length γ.2.1, .int .i64 s57v.2.2.2.2.2.2.2.2.2.2.2.1, .int .i64 s57v.2.2.2.2.2.2.2.2.2.2.2.2.1, .slice γ.2.2.1 s57v.2.2.2.2.2.2.2.2.2.2.2.2.2.length γ.2.2.2], .bool s62v, .bool s62v].getD i undef) (fun j γ => [[obj b1v 31 [.int .i64 x0_0, .int .i64 x0_1, .int .i64 x0_2, .int .i64 x0_3, .int .i64 x0_4, .int .i64 x0_5, .int .i64 x0_6, .int .i64 x0_7, .int .i64 x0_8, .bool x0_9, .slice a0_10 x0_10.length c0_10, .int .i64 x0_11, .int .i64 x0_12, .slice a0_13 x0_13.length c0_13], F], [pr (RdV (F) 4 (V61 (F)) γ.1 s57v.2.2.2.2.2.2.2.2.2.2.1 ∧ s57v.2.2.2.2.2.2.2.2.2.2.1.length ≤ γ.2.1 ∧ γ.2.1 ≤ maxLen), pr (Rd (F) γ.2.2.1 (encB s57v.2.2.2.2.2.2.2.2.2.2.2.2.2) ∧ s57v.2.2.2.2.2.2.2.2.2.2.2.2.2.length ≤ γ.2.2.2 ∧ γ.2.2.2 ≤ maxLen), obj b1v 31 [.int .i64 x0_0, .int .i64 x0_1, .int .i64 x0_2, .int .i64 x0_3, .int .i64 x0_4, .int .i64 x0_5, .int .i64 x0_6, .int .i64 x0_7, .int .i64 x0_8, .bool x0_9, .slice a0_10 x0_10.length c0_10, .int .i64 x0_11, .int .i64 x0_12, .slice a0_13 x0_13.length c0_13], F], [pr (RdV (F) 4 (V61 (F)) γ.1 s57v.2.2.2.2.2.2.2.2.2.2.1 ∧ s57v.2.2.2.2.2.2.2.2.2.2.1.length ≤ γ.2.1 ∧ γ.2.1 ≤ maxLen), pr (Rd (F) γ.2.2.1 (encB s57v.2.2.2.2.2.2.2.2.2.2.2.2.2) ∧ s57v.2.2.2.2.2.2.2.2.2.2.2.2.2.length ≤ γ.2.2.2 ∧ γ.2.2.2 ≤ maxLen), obj b1v 31 [.int .i64 x0_0, .int .i64 x0_1, .int .i64 x0_2, .int .i64 x0_3, .int .i64 x0_4, .int .i64 x0_5, .int .i64 x0_6, .int .i64 x0_7, .int .i64 x0_8, .bool x0_9, .slice a0_10 x0_10.length c0_10, .int .i64 x0_11, .int .i64 x0_12, .slice a0_13 x0_13.length c0_13], F]].getD j []) (fun γ => [(1, .pointer (some ⟨b1v, 0, none⟩)), (5, .bool s62v)]) mixed (by decide) (by decide) (by decide) (by decide) (by decide) (by decide) (by decide) 119 rfl (by decide) (by decide) (by decide) (Ent.refl _) ?_ ?_ (fun _ => ⟨rfl, rfl, trivial⟩) ?_
 exact (All.cons (fun γ => (All.cons (QOb.plain [(1, .pointer (some ⟨b1v, 0, none⟩))] rfl rfl (.o rfl (by decide) .nil) (q_loado 0 rfl rfl Try.isAgg31 Try.sizeOf31 rfl rfl) rfl) (All.cons (QOb.plain [(1, .pointer (some ⟨b1v, 0, none⟩))] rfl rfl (.o rfl (by decide) .nil) (q_loado 2 rfl rfl Try.isAgg31 Try.sizeOf31 rfl rfl) rfl) All.nil))) (All.cons (fun γ => (All.cons (QOb.plain [(1, .pointer (some ⟨b1v, 0, none⟩))] rfl rfl (.o rfl (by decide) .nil) (q_loado 0 rfl rfl Try.isAgg31 Try.sizeOf31 rfl rfl) rfl) All.nil)) (All.cons (fun γ => (All.cons (QOb.plain [(58, .bool s62v)] rfl rfl (.w 3 rfl rfl rfl .nil) (q_asg rfl rfl) rfl) All.nil)) All.nil)))
 exact (All.cons (fun γ => EOb.mk (Z := Option Addr × Nat × Option Addr × Nat) [(56, .agg #[.int .i64 x0_0, .int .i64 x0_1, .int .i64 x0_2, .int .i64 x0_3, .int .i64 x0_4, .int .i64 x0_5, .int .i64 x0_6, .int .i64 x0_7, .int .i64 x0_8, .bool x0_9, .slice a0_10 x0_10.length c0_10, .int .i64 x0_11, .int .i64 x0_12, .slice a0_13 x0_13.length c0_13])] (fun z => z) rfl rfl (.w 1 rfl rfl rfl .nil) (re_call (vs := [.agg #[.int .i64 x0_0, .int .i64 x0_1, .int .i64 x0_2, .int .i64 x0_3, .int .i64 x0_4, .int .i64 x0_5, .int .i64 x0_6, .int .i64 x0_7, .int .i64 x0_8, .bool x0_9, .slice a0_10 x0_10.length c0_10, .int .i64 x0_11, .int .i64 x0_12, .slice a0_13 x0_13.length c0_13]]) (cap := []) (A := []) (rst := [obj b1v 31 [.int .i64 x0_0, .int .i64 x0_1, .int .i64 x0_2, .int .i64 x0_3, .int .i64 x0_4, .int .i64 x0_5, .int .i64 x0_6, .int .i64 x0_7, .int .i64 x0_8, .bool x0_9, .slice a0_10 x0_10.length c0_10, .int .i64 x0_11, .int .i64 x0_12, .slice a0_13 x0_13.length c0_13], F]) rfl rfl rfl rfl rfl rfl Try.call72 (.sel 0 rfl (.sel 0 rfl (.nil _))) (synodref3_used.calls _ _ _ (Up.lend 1 rfl) x0_0 x0_1 x0_2 x0_3 x0_4 x0_5 x0_6 x0_7 x0_8 x0_9 a0_10 c0_10 x0_10 x0_11 x0_12 a0_13 c0_13 x0_13 h0_10 hc0_10 hm0_10 h0_13 hc0_13 hm0_13) hs59v) (fun _ => ⟨rfl, rfl, trivial⟩) (fun _ => .inr rfl) (fun z => Ent.refl _)) (All.cons (fun γ => EOb.mk (Z := Unit) [(55, .agg #[.int .i64 x0_0, .int .i64 x0_1, .int .i64 x0_2, .int .i64 x0_3, .int .i64 x0_4, .int .i64 x0_5, .int .i64 x0_6, .int .i64 x0_7, .int .i64 x0_8, .bool x0_9, .slice a0_10 x0_10.length c0_10, .int .i64 x0_11, .int .i64 x0_12, .slice a0_13 x0_13.length c0_13]), (57, .agg #[.int .i64 s57v.1, .int .i64 s57v.2.1, .int .i64 s57v.2.2.1, .int .i64 s57v.2.2.2.1, .int .i64 s57v.2.2.2.2.1, .int .i64 s57v.2.2.2.2.2.1, .int .i64 s57v.2.2.2.2.2.2.1, .int .i64 s57v.2.2.2.2.2.2.2.1, .int .i64 s57v.2.2.2.2.2.2.2.2.1, .bool s57v.2.2.2.2.2.2.2.2.2.1, .slice γ.1 s57v.2.2.2.2.2.2.2.2.2.2.1.length γ.2.1, .int .i64 s57v.2.2.2.2.2.2.2.2.2.2.2.1, .int .i64 s57v.2.2.2.2.2.2.2.2.2.2.2.2.1, .slice γ.2.2.1 s57v.2.2.2.2.2.2.2.2.2.2.2.2.2.length γ.2.2.2])] (fun z => γ) rfl rfl (.w 0 rfl rfl rfl (.w 2 rfl rfl rfl .nil)) (RE.prk 1 rfl (fun hp61v => RE.prk 0 rfl (fun hp60v => re_call (vs := [.agg #[.int .i64 x0_0, .int .i64 x0_1, .int .i64 x0_2, .int .i64 x0_3, .int .i64 x0_4, .int .i64 x0_5, .int .i64 x0_6, .int .i64 x0_7, .int .i64 x0_8, .bool x0_9, .slice a0_10 x0_10.length c0_10, .int .i64 x0_11, .int .i64 x0_12, .slice a0_13 x0_13.length c0_13], .agg #[.int .i64 s57v.1, .int .i64 s57v.2.1, .int .i64 s57v.2.2.1, .int .i64 s57v.2.2.2.1, .int .i64 s57v.2.2.2.2.1, .int .i64 s57v.2.2.2.2.2.1, .int .i64 s57v.2.2.2.2.2.2.1, .int .i64 s57v.2.2.2.2.2.2.2.1, .int .i64 s57v.2.2.2.2.2.2.2.2.1, .bool s57v.2.2.2.2.2.2.2.2.2.1, .slice γ.1 s57v.2.2.2.2.2.2.2.2.2.2.1.length γ.2.1, .int .i64 s57v.2.2.2.2.2.2.2.2.2.2.2.1, .int .i64 s57v.2.2.2.2.2.2.2.2.2.2.2.2.1, .slice γ.2.2.1 s57v.2.2.2.2.2.2.2.2.2.2.2.2.2.length γ.2.2.2]]) (cap := []) (A := []) (rst := [pr (RdV (F) 4 (V61 (F)) γ.1 s57v.2.2.2.2.2.2.2.2.2.2.1 ∧ s57v.2.2.2.2.2.2.2.2.2.2.1.length ≤ γ.2.1 ∧ γ.2.1 ≤ maxLen), pr (Rd (F) γ.2.2.1 (encB s57v.2.2.2.2.2.2.2.2.2.2.2.2.2) ∧ s57v.2.2.2.2.2.2.2.2.2.2.2.2.2.length ≤ γ.2.2.2 ∧ γ.2.2.2 ≤ maxLen), obj b1v 31 [.int .i64 x0_0, .int .i64 x0_1, .int .i64 x0_2, .int .i64 x0_3, .int .i64 x0_4, .int .i64 x0_5, .int .i64 x0_6, .int .i64 x0_7, .int .i64 x0_8, .bool x0_9, .slice a0_10 x0_10.length c0_10, .int .i64 x0_11, .int .i64 x0_12, .slice a0_13 x0_13.length c0_13], F]) rfl rfl rfl rfl rfl rfl Try.call18 (.sel 0 rfl (.sel 0 rfl (.sel 0 rfl (.sel 0 rfl (.nil _))))) (synodref_SameMessage.calls _ _ k x0_0 x0_1 x0_2 x0_3 x0_4 x0_5 x0_6 x0_7 x0_8 x0_9 a0_10 c0_10 x0_10 x0_11 x0_12 a0_13 c0_13 x0_13 s57v.1 s57v.2.1 s57v.2.2.1 s57v.2.2.2.1 s57v.2.2.2.2.1 s57v.2.2.2.2.2.1 s57v.2.2.2.2.2.2.1 s57v.2.2.2.2.2.2.2.1 s57v.2.2.2.2.2.2.2.2.1 s57v.2.2.2.2.2.2.2.2.2.1 γ.1 γ.2.1 s57v.2.2.2.2.2.2.2.2.2.2.1 s57v.2.2.2.2.2.2.2.2.2.2.2.1 s57v.2.2.2.2.2.2.2.2.2.2.2.2.1 γ.2.2.1 γ.2.2.2 s57v.2.2.2.2.2.2.2.2.2.2.2.2.2 (h0_10.up (Up.lend 3 rfl) (V61.up (Up.lend 3 rfl))) hc0_10 hm0_10 (h0_13.lend 3 rfl) hc0_13 hm0_13 (hp60v.1.up (Up.lend 3 rfl) (V61.up (Up.lend 3 rfl))) hp60v.2.1 hp60v.2.2 (hp61v.1.lend 3 rfl) hp61v.2.1 hp61v.2.2) hs64v))) (fun _ => ⟨rfl, rfl, rfl, trivial⟩) (fun _ => .inr rfl) (fun z => Ent.refl _)) All.nil))
 intro g65v
 refine nrm_prk 0 rfl (fun hp60v => ?_)
 refine nrm_prk 1 rfl (fun hp61v => ?_)
 refine nrm_then (sim_seq (sim_seq (sim_region ?_)))
 refine simL_val (q_fa rfl rfl Try.underlying31 rfl rfl Try.sizeOf3 rfl) rfl rfl rfl ?_
 refine simL_val (q_load rfl rfl Try.isAgg3 (.obj 2 rfl rfl)) rfl rfl rfl ?_
 refine simL_val (q_fa rfl rfl Try.underlying31 rfl rfl Try.sizeOf3 rfl) rfl rfl rfl ?_
 refine simL_val (q_load rfl rfl Try.isAgg3 (.obj 2 rfl rfl)) rfl rfl rfl ?_
 refine simL_val (q_eql rfl rfl rfl) rfl rfl rfl ?_
 refine simL_val (q_move rfl rfl) rfl rfl rfl ?_
 refine simL_valc (b := decide (x0_1 = x0_2)) (fun hb112v => RQ.sub (E' := [(5, .bool s62v)]) ⟨rfl, trivial⟩ (q_move rfl rfl)) rfl rfl rfl rfl rfl ?_
 refine simL_valc (b := decide (x0_1 = x0_2)) (fun hb111v => RQ.sub (E' := [(65, .bool s62v)]) ⟨lk_cv rfl hb111v, trivial⟩ (q_not rfl rfl)) rfl rfl rfl rfl rfl ?_
 refine simL_val (q_or rfl rfl rfl) rfl rfl rfl (simL_nil (nrm_then ?_))
 refine sim_condb rfl (fun h66v => ?_) (fun h67v => ?_)
 refine sim_seq (sim_region ?_)
 refine simL_val (q_asg rfl rfl) rfl rfl rfl (simL_nil (nrm_then (sim_rtn ?_)))
 refine rtn_then ?_
 exact rtn_fn () rfl rfl rfl (.sel 3 rfl (.nil _))
 refine sim_skip ?_
 refine nrm_then ?_
 refine sim_cutR (S := Unit) (Unit) (fun s y => []) (fun s y => [F]) ?_ ?_
 refine sim_seq (sim_region ?_)
 refine simL_val (q_fa rfl rfl Try.underlying31 rfl rfl Try.sizeOf3 rfl) rfl rfl rfl ?_
 refine simL_val (q_load rfl rfl Try.isAgg3 (.obj 2 rfl rfl)) rfl rfl rfl (simL_nil (nrm_then ?_))
 refine sim_block ?_
 refine sim_seq (sim_region ?_)
 refine simL_val (q_eql rfl rfl rfl) rfl rfl rfl ?_
 refine simL_val (q_asg rfl rfl) rfl rfl rfl (simL_nil (nrm_then ?_))
 refine sim_cond rfl (fun h70v => ?_) (fun h71v => ?_)
 refine sim_seq (sim_region ?_)
 refine simL_val (q_loado 2 rfl rfl Try.isAgg31 Try.sizeOf31 rfl rfl) rfl rfl rfl ?_
 refine simL_bind (fun s72v hs74v => ?_)
 refine simL_eff (re_call (vs := [.agg #[.int .i64 x0_0, .int .i64 x0_1, .int .i64 x0_2, .int .i64 x0_3, .int .i64 x0_4, .int .i64 x0_5, .int .i64 x0_6, .int .i64 x0_7, .int .i64 x0_8, .bool x0_9, .slice a0_10 x0_10.length c0_10, .int .i64 x0_11, .int .i64 x0_12, .slice a0_13 x0_13.length c0_13]]) (cap := []) (A := []) (rst := [pr (RdV (F) 4 (V61 (F)) g65v.1 s57v.2.2.2.2.2.2.2.2.2.2.1 ∧ s57v.2.2.2.2.2.2.2.2.2.2.1.length ≤ g65v.2.1 ∧ g65v.2.1 ≤ maxLen), pr (Rd (F) g65v.2.2.1 (encB s57v.2.2.2.2.2.2.2.2.2.2.2.2.2) ∧ s57v.2.2.2.2.2.2.2.2.2.2.2.2.2.length ≤ g65v.2.2.2 ∧ g65v.2.2.2 ≤ maxLen), obj b1v 31 [.int .i64 x0_0, .int .i64 x0_1, .int .i64 x0_2, .int .i64 x0_3, .int .i64 x0_4, .int .i64 x0_5, .int .i64 x0_6, .int .i64 x0_7, .int .i64 x0_8, .bool x0_9, .slice a0_10 x0_10.length c0_10, .int .i64 x0_11, .int .i64 x0_12, .slice a0_13 x0_13.length c0_13], F]) rfl rfl rfl rfl rfl rfl Try.call73 (.sel 0 rfl (.sel 0 rfl (.sel 0 rfl (.sel 0 rfl (.nil _))))) (synodref3_app.calls _ _ k x0_0 x0_1 x0_2 x0_3 x0_4 x0_5 x0_6 x0_7 x0_8 x0_9 a0_10 c0_10 x0_10 x0_11 x0_12 a0_13 c0_13 x0_13 (h0_10.up (Up.lend 3 rfl) (V61.up (Up.lend 3 rfl))) hc0_10 hm0_10 (h0_13.lend 3 rfl) hc0_13 hm0_13) hs74v) rfl rfl rfl ?_
 intro y73v
 refine simL_val (q_asg rfl rfl) rfl rfl rfl (simL_nil (nrm_then (sim_rtn ?_)))
 refine rtn_block ?_
 refine rtn_cutR ?_
 exact rtn_fn () rfl rfl rfl (.sel 3 rfl (.nil _))
 refine sim_seq (sim_region ?_)
 refine simL_val (q_eql rfl rfl rfl) rfl rfl rfl ?_
 refine simL_val (q_asg rfl rfl) rfl rfl rfl (simL_nil (nrm_then ?_))
 refine sim_cond rfl (fun h75v => ?_) (fun h76v => ?_)
 refine sim_seq (sim_region ?_)
 refine simL_val (q_fa rfl rfl Try.underlying31 rfl rfl Try.sizeOf3 rfl) rfl rfl rfl ?_
 refine simL_val (q_load rfl rfl Try.isAgg3 (.obj 2 rfl rfl)) rfl rfl rfl ?_
 refine simL_val (q_fa rfl rfl Try.underlying31 rfl rfl Try.sizeOf3 rfl) rfl rfl rfl ?_
 refine simL_val (q_load rfl rfl Try.isAgg3 (.obj 2 rfl rfl)) rfl rfl rfl ?_
 refine simL_val (q_geq rfl rfl rfl) rfl rfl rfl ?_
 refine simL_val (q_move rfl rfl) rfl rfl rfl ?_
 refine simL_valc (b := decide (x0_3 ≤ x0_5)) (fun hb85v => RQ.sub (E' := [(1, .pointer (some ⟨b1v, 0, none⟩))]) ⟨rfl, trivial⟩ (q_fa rfl rfl Try.underlying31 rfl rfl Try.sizeOf3 rfl)) rfl rfl rfl rfl rfl ?_
 refine simL_valc (b := decide (x0_3 ≤ x0_5)) (fun hb84v => RQ.sub (E' := [(82, .pointer (some ⟨b1v, 5, none⟩))]) ⟨lk_cv rfl hb84v, trivial⟩ (q_load rfl rfl Try.isAgg3 (.obj 2 rfl rfl))) rfl rfl rfl rfl rfl ?_
 refine simL_valc (b := decide (x0_3 ≤ x0_5)) (fun hb83v => RQ.sub (E' := [(83, .int .i64 x0_5)]) ⟨lk_cv rfl hb83v, trivial⟩ (q_eql rfl rfl rfl)) rfl rfl rfl rfl rfl ?_
 refine simL_valc (b := decide (x0_3 ≤ x0_5)) (fun hb82v => RQ.sub (E' := [(1, .pointer (some ⟨b1v, 0, none⟩))]) ⟨rfl, trivial⟩ (q_fa rfl rfl Try.underlying31 rfl rfl Try.sizeOf3 rfl)) rfl rfl rfl rfl rfl ?_
 refine simL_valc (b := decide (x0_3 ≤ x0_5)) (fun hb81v => RQ.sub (E' := [(85, .pointer (some ⟨b1v, 4, none⟩))]) ⟨lk_cv rfl hb81v, trivial⟩ (q_load rfl rfl Try.isAgg3 (.obj 2 rfl rfl))) rfl rfl rfl rfl rfl ?_
 refine simL_valc (b := decide (x0_3 ≤ x0_5)) (fun hb80v => RQ.sub (E' := [(86, .int .i64 x0_4)]) ⟨lk_cv rfl hb80v, trivial⟩ (q_eql rfl rfl rfl)) rfl rfl rfl rfl rfl ?_
 refine simL_valc (b := decide (x0_3 ≤ x0_5)) (fun hb79v => RQ.sub (E' := [(84, .bool (decide (x0_5 = (0 : Int)))), (87, .bool (decide (x0_4 = (0 : Int))))]) ⟨lk_cv rfl hb79v, lk_cv rfl hb79v, trivial⟩ (q_neb rfl rfl rfl Try.underlying4)) rfl rfl rfl rfl rfl ?_
 refine simL_val (q_or rfl rfl rfl) rfl rfl rfl (simL_nil (nrm_then ?_))
 refine sim_condb rfl (fun h77v => ?_) (fun h78v => ?_)
 refine sim_seq (sim_region ?_)
 refine simL_val (q_asg rfl rfl) rfl rfl rfl (simL_nil (nrm_then (sim_rtn ?_)))
 refine rtn_block ?_
 refine rtn_cutR ?_
 exact rtn_fn () rfl rfl rfl (.sel 3 rfl (.nil _))
 refine sim_skip ?_
 refine nrm_block ?_
 exact nrm_cutR (s := ()) () trivial (.sel 3 rfl (.nil _))
 refine sim_seq (sim_region ?_)
 refine simL_val (q_eql rfl rfl rfl) rfl rfl rfl ?_
 refine simL_val (q_asg rfl rfl) rfl rfl rfl (simL_nil (nrm_then ?_))
 refine sim_cond rfl (fun h86v => ?_) (fun h87v => ?_)
 refine sim_seq (sim_region ?_)
 refine simL_val (q_fa rfl rfl Try.underlying31 rfl rfl Try.sizeOf3 rfl) rfl rfl rfl ?_
 refine simL_val (q_load rfl rfl Try.isAgg3 (.obj 2 rfl rfl)) rfl rfl rfl ?_
 refine simL_val (q_neq rfl rfl rfl) rfl rfl rfl ?_
 refine simL_val (q_move rfl rfl) rfl rfl rfl ?_
 refine simL_valc (b := !decide (x0_7 = (0 : Int))) (fun hb92v => RQ.sub (E' := [(1, .pointer (some ⟨b1v, 0, none⟩))]) ⟨rfl, trivial⟩ (q_fa rfl rfl Try.underlying31 rfl rfl Try.sizeOf4 rfl)) rfl rfl rfl rfl rfl ?_
 refine simL_valc (b := !decide (x0_7 = (0 : Int))) (fun hb91v => RQ.sub (E' := [(96, .pointer (some ⟨b1v, 9, none⟩))]) ⟨lk_cv rfl hb91v, trivial⟩ (q_load rfl rfl Try.isAgg4 (.obj 2 rfl rfl))) rfl rfl rfl rfl rfl ?_
 refine simL_valc (b := !decide (x0_7 = (0 : Int))) (fun hb90v => RQ.sub (E' := [(97, .bool x0_9)]) ⟨lk_cv rfl hb90v, trivial⟩ (q_not rfl rfl)) rfl rfl rfl rfl rfl ?_
 refine simL_val (q_and rfl rfl rfl) rfl rfl rfl (simL_nil (nrm_then ?_))
 refine sim_condb rfl (fun h88v => ?_) (fun h89v => ?_)
 refine sim_seq (sim_region ?_)
 refine simL_val (q_asg rfl rfl) rfl rfl rfl (simL_nil (nrm_then (sim_rtn ?_)))
 refine rtn_block ?_
 refine rtn_cutR ?_
 exact rtn_fn () rfl rfl rfl (.sel 3 rfl (.nil _))
 refine sim_skip ?_
 refine nrm_block ?_
 exact nrm_cutR (s := ()) () trivial (.sel 3 rfl (.nil _))
 refine sim_seq (sim_region ?_)
 refine simL_val (q_eql rfl rfl rfl) rfl rfl rfl ?_
 refine simL_val (q_asg rfl rfl) rfl rfl rfl (simL_nil (nrm_then ?_))
 refine sim_cond rfl (fun h93v => ?_) (fun h94v => ?_)
 refine sim_seq (sim_region ?_)
 refine simL_val (q_fa rfl rfl Try.underlying31 rfl rfl Try.sizeOf29 rfl) rfl rfl rfl ?_
 refine simL_val (q_loads (vs := [.int .i64 x0_11, .int .i64 x0_12, .slice a0_13 x0_13.length c0_13]) rfl rfl Try.isAgg29 Try.sizeOf29 rfl (cells_obj 2 rfl (cells_lit rfl))) rfl rfl rfl ?_
 refine simL_bind (fun s95v hs97v => ?_)
 refine simL_eff (re_call (vs := [.agg #[.int .i64 x0_11, .int .i64 x0_12, .slice a0_13 x0_13.length c0_13]]) (cap := []) (A := []) (rst := [pr (RdV (F) 4 (V61 (F)) g65v.1 s57v.2.2.2.2.2.2.2.2.2.2.1 ∧ s57v.2.2.2.2.2.2.2.2.2.2.1.length ≤ g65v.2.1 ∧ g65v.2.1 ≤ maxLen), pr (Rd (F) g65v.2.2.1 (encB s57v.2.2.2.2.2.2.2.2.2.2.2.2.2) ∧ s57v.2.2.2.2.2.2.2.2.2.2.2.2.2.length ≤ g65v.2.2.2 ∧ g65v.2.2.2 ≤ maxLen), obj b1v 31 [.int .i64 x0_0, .int .i64 x0_1, .int .i64 x0_2, .int .i64 x0_3, .int .i64 x0_4, .int .i64 x0_5, .int .i64 x0_6, .int .i64 x0_7, .int .i64 x0_8, .bool x0_9, .slice a0_10 x0_10.length c0_10, .int .i64 x0_11, .int .i64 x0_12, .slice a0_13 x0_13.length c0_13], F]) rfl rfl rfl rfl rfl rfl Try.call42 (.sel 0 rfl (.sel 0 rfl (.sel 0 rfl (.sel 0 rfl (.nil _))))) (synodref3_CheckSnap.calls _ _ x0_11 x0_12 a0_13 c0_13 x0_13 (h0_13.lend 3 rfl) hc0_13 hm0_13) hs97v) rfl rfl rfl ?_
 intro y96v
 refine simL_val (q_asg rfl rfl) rfl rfl rfl (simL_nil (nrm_then (sim_seq (sim_seq (sim_region ?_)))))
 refine simL_val (q_move rfl rfl) rfl rfl rfl ?_
 refine simL_val (q_neq rfl rfl rfl) rfl rfl rfl (simL_nil (nrm_then ?_))
 refine sim_condn rfl (fun h98v => ?_) (fun h99v => ?_)
 refine sim_skip ?_
 refine nrm_then (sim_seq (sim_region ?_))
 refine simL_val (q_fa rfl rfl Try.underlying31 rfl rfl Try.sizeOf29 rfl) rfl rfl rfl ?_
 refine simL_val (q_loads (vs := [.int .i64 x0_11, .int .i64 x0_12, .slice a0_13 x0_13.length c0_13]) rfl rfl Try.isAgg29 Try.sizeOf29 rfl (cells_obj 2 rfl (cells_lit rfl))) rfl rfl rfl ?_
 refine simL_bind (fun s100v hs102v => ?_)
 refine simL_eff (re_call (vs := [.agg #[.int .i64 x0_11, .int .i64 x0_12, .slice a0_13 x0_13.length c0_13]]) (cap := []) (A := []) (rst := [pr (RdV (F) 4 (V61 (F)) g65v.1 s57v.2.2.2.2.2.2.2.2.2.2.1 ∧ s57v.2.2.2.2.2.2.2.2.2.2.1.length ≤ g65v.2.1 ∧ g65v.2.1 ≤ maxLen), pr (Rd (F) g65v.2.2.1 (encB s57v.2.2.2.2.2.2.2.2.2.2.2.2.2) ∧ s57v.2.2.2.2.2.2.2.2.2.2.2.2.2.length ≤ g65v.2.2.2 ∧ g65v.2.2.2 ≤ maxLen), obj b1v 31 [.int .i64 x0_0, .int .i64 x0_1, .int .i64 x0_2, .int .i64 x0_3, .int .i64 x0_4, .int .i64 x0_5, .int .i64 x0_6, .int .i64 x0_7, .int .i64 x0_8, .bool x0_9, .slice a0_10 x0_10.length c0_10, .int .i64 x0_11, .int .i64 x0_12, .slice a0_13 x0_13.length c0_13], F]) rfl rfl rfl rfl rfl rfl Try.call74 (.sel 0 rfl (.sel 0 rfl (.sel 0 rfl (.sel 0 rfl (.nil _))))) (synodref3_None.calls _ _ x0_11 x0_12 a0_13 c0_13 x0_13 (h0_13.lend 3 rfl) hc0_13 hm0_13) hs102v) rfl rfl rfl ?_
 intro y101v
 refine simL_val (q_move rfl rfl) rfl rfl rfl ?_
 refine simL_valc (b := s100v) (fun hb110v => RQ.sub (E' := [(1, .pointer (some ⟨b1v, 0, none⟩))]) ⟨rfl, trivial⟩ (q_fa rfl rfl Try.underlying31 rfl rfl Try.sizeOf29 rfl)) rfl rfl rfl rfl rfl ?_
 refine simL_valc (b := s100v) (fun hb109v => RQ.sub (E' := [(112, .pointer (some ⟨b1v, 11, none⟩))]) ⟨lk_cv rfl hb109v, trivial⟩ (q_fa rfl rfl Try.underlying29 rfl rfl Try.sizeOf3 rfl)) rfl rfl rfl rfl rfl ?_
 refine simL_valc (b := s100v) (fun hb108v => RQ.sub (E' := [(113, .pointer (some ⟨b1v, 12, none⟩))]) ⟨lk_cv rfl hb108v, trivial⟩ (q_load rfl rfl Try.isAgg3 (.obj 2 rfl rfl))) rfl rfl rfl rfl rfl ?_
 refine simL_valc (b := s100v) (fun hb107v => RQ.sub (E' := [(1, .pointer (some ⟨b1v, 0, none⟩))]) ⟨rfl, trivial⟩ (q_fa rfl rfl Try.underlying31 rfl rfl Try.sizeOf3 rfl)) rfl rfl rfl rfl rfl ?_
 refine simL_valc (b := s100v) (fun hb106v => RQ.sub (E' := [(115, .pointer (some ⟨b1v, 3, none⟩))]) ⟨lk_cv rfl hb106v, trivial⟩ (q_load rfl rfl Try.isAgg3 (.obj 2 rfl rfl))) rfl rfl rfl rfl rfl ?_
 refine simL_valc (b := s100v) (fun hb105v => RQ.sub (E' := [(114, .int .i64 x0_12), (116, .int .i64 x0_3)]) ⟨lk_cv rfl hb105v, lk_cv rfl hb105v, trivial⟩ (q_gtr rfl rfl rfl)) rfl rfl rfl rfl rfl ?_
 refine simL_val (q_or rfl rfl rfl) rfl rfl rfl (simL_nil (nrm_then ?_))
 refine sim_condb rfl (fun h103v => ?_) (fun h104v => ?_)
 refine sim_seq (sim_region ?_)
 refine simL_val (q_asg rfl rfl) rfl rfl rfl (simL_nil (nrm_then (sim_rtn ?_)))
 refine rtn_block ?_
 refine rtn_cutR ?_
 exact rtn_fn () rfl rfl rfl (.sel 3 rfl (.nil _))
 refine sim_skip ?_
 refine nrm_block ?_
 exact nrm_cutR (s := ()) () trivial (.sel 3 rfl (.nil _))
 refine sim_seq (sim_region ?_)
 refine simL_val (q_move rfl rfl) rfl rfl rfl ?_
 refine simL_val (q_asg rfl rfl) rfl rfl rfl (simL_nil (nrm_then (sim_rtn ?_)))
 refine rtn_then ?_
 refine rtn_block ?_
 refine rtn_cutR ?_
 exact rtn_fn () rfl rfl rfl (.sel 3 rfl (.nil _))
 refine sim_skip ?_
 refine nrm_block ?_
 exact nrm_cutR (s := ()) () trivial (.sel 3 rfl (.nil _))
 intro s68v y69v
 refine sim_seq (sim_region ?_)
 refine simL_val (q_asg rfl rfl) rfl rfl rfl (simL_nil (nrm_then (sim_rtn ?_)))
 exact rtn_fn () rfl rfl rfl (.sel 0 rfl (.nil _))

def synodref3_PutMessage.l0 (x0_10 : List (Int × Int × Int × List UInt8)) : Nat → Int → List UInt8 → Int → Option (List UInt8 × Int)
  | 0, _, _, _ => none
  | k + 1, z51v, z52v, z53v => if z51v < (x0_10.length : Int) then (if 0 ≤ z51v ∧ z51v < (x0_10.length : Int) then ((synodref3_PutEntry.f k ((x0_10.getD z51v.toNat ((0 : Int), (0 : Int), (0 : Int), ([] : List UInt8))).1) ((x0_10.getD z51v.toNat ((0 : Int), (0 : Int), (0 : Int), ([] : List UInt8))).2.1) ((x0_10.getD z51v.toNat ((0 : Int), (0 : Int), (0 : Int), ([] : List UInt8))).2.2.1) ((x0_10.getD z51v.toNat ((0 : Int), (0 : Int), (0 : Int), ([] : List UInt8))).2.2.2)).bind fun s69v => ((synodref1_Writer_Bytes.f k z52v z53v s69v.1 (8192 : Int)).bind fun s76v => (synodref3_PutMessage.l0 x0_10 k (IntKind.i64.wrap (z51v + 1)) s76v.1 s76v.2))) else none) else (some (z52v, z53v))
def synodref3_PutMessage.f (k : Nat) (x0_0 : Int) (x0_1 : Int) (x0_2 : Int) (x0_3 : Int) (x0_4 : Int) (x0_5 : Int) (x0_6 : Int) (x0_7 : Int) (x0_8 : Int) (x0_9 : Bool) (x0_10 : List (Int × Int × Int × List UInt8)) (x0_11 : Int) (x0_12 : Int) (x0_13 : List UInt8) : Option (List UInt8 × Int) := (synodref3_CheckMessage.f k x0_0 x0_1 x0_2 x0_3 x0_4 x0_5 x0_6 x0_7 x0_8 x0_9 x0_10 x0_11 x0_12 x0_13).bind fun s2v => (if s2v = (0 : Int) then ((synodref1_Writer_Int.f k ([] : List UInt8) (0 : Int) x0_0).bind fun s8v => ((synodref1_Writer_Int.f k s8v.1 s8v.2 x0_1).bind fun s11v => ((synodref1_Writer_Int.f k s11v.1 s11v.2 x0_2).bind fun s14v => ((synodref1_Writer_Int.f k s14v.1 s14v.2 x0_3).bind fun s17v => ((if x0_0 = (1 : Int) then ((synodref1_Writer_Int.f k s17v.1 s17v.2 x0_4).bind fun s24v => ((synodref1_Writer_Int.f k s24v.1 s24v.2 x0_5).bind fun s27v => (some (s27v.1, s27v.2)))) else (if x0_0 = (2 : Int) then ((synodref1_Writer_Bool.f k s17v.1 s17v.2 x0_9).bind fun s32v => (some (s32v.1, s32v.2))) else (if x0_0 = (3 : Int) then ((synodref1_Writer_Int.f k s17v.1 s17v.2 x0_4).bind fun s37v => ((synodref1_Writer_Int.f k s37v.1 s37v.2 x0_5).bind fun s40v => ((synodref1_Writer_Int.f k s40v.1 s40v.2 x0_6).bind fun s43v => ((synodref1_Writer_Int.f k s43v.1 s43v.2 (x0_10.length : Int)).bind fun s46v => (synodref3_PutMessage.l0 x0_10 k 0 s46v.1 s46v.2))))) else (if x0_0 = (4 : Int) then ((synodref1_Writer_Int.f k s17v.1 s17v.2 x0_4).bind fun s81v => ((synodref1_Writer_Bool.f k s81v.1 s81v.2 x0_9).bind fun s84v => ((synodref1_Writer_Int.f k s84v.1 s84v.2 x0_7).bind fun s87v => (some (s87v.1, s87v.2))))) else (if x0_0 = (5 : Int) then ((synodref1_Writer_Int.f k s17v.1 s17v.2 x0_6).bind fun s92v => ((synodref1_Writer_Int.f k s92v.1 s92v.2 x0_8).bind fun s95v => (some (s95v.1, s95v.2)))) else (if x0_0 = (6 : Int) then ((synodref1_Writer_Int.f k s17v.1 s17v.2 x0_8).bind fun s100v => (some (s100v.1, s100v.2))) else (if x0_0 = (7 : Int) then ((synodref3_PutSnap.f k x0_11 x0_12 x0_13).bind fun s105v => ((synodref1_Writer_Bytes.f k s17v.1 s17v.2 s105v.1 (1048576 : Int)).bind fun s112v => (some (s112v.1, s112v.2)))) else (some (s17v.1, s17v.2))))))))).bind fun s20v => ((synodref1_Writer_Done_s_c0p0.f s20v.1 s20v.2).bind fun s115v => (some (s115v.1, s115v.2)))))))) else (some (([] : List UInt8), s2v)))
theorem synodref3_PutMessage.calls (W : World) (F : HA) (k : Nat) (x0_0 : Int) (x0_1 : Int) (x0_2 : Int) (x0_3 : Int) (x0_4 : Int) (x0_5 : Int) (x0_6 : Int) (x0_7 : Int) (x0_8 : Int) (x0_9 : Bool) (a0_10 : Option Addr) (c0_10 : Nat) (x0_10 : List (Int × Int × Int × List UInt8)) (x0_11 : Int) (x0_12 : Int) (a0_13 : Option Addr) (c0_13 : Nat) (x0_13 : List UInt8) (h0_10 : RdV F 4 (V61 F) a0_10 x0_10) (hc0_10 : x0_10.length ≤ c0_10) (hm0_10 : c0_10 ≤ maxLen) (h0_13 : Rd F a0_13 (encB x0_13)) (hc0_13 : x0_13.length ≤ c0_13) (hm0_13 : c0_13 ≤ maxLen) :
    Fn Try.prog W 58 [.agg #[.int .i64 x0_0, .int .i64 x0_1, .int .i64 x0_2, .int .i64 x0_3, .int .i64 x0_4, .int .i64 x0_5, .int .i64 x0_6, .int .i64 x0_7, .int .i64 x0_8, .bool x0_9, .slice a0_10 x0_10.length c0_10, .int .i64 x0_11, .int .i64 x0_12, .slice a0_13 x0_13.length c0_13]] [] F (synodref3_PutMessage.f k x0_0 x0_1 x0_2 x0_3 x0_4 x0_5 x0_6 x0_7 x0_8 x0_9 x0_10 x0_11 x0_12 x0_13) (fun (r : List UInt8 × Int) (y : Option Addr × Nat) => .tuple #[.slice y.1 r.1.length y.2, .int .i64 r.2]) (fun r y => [Row 5 1 y.1 r.1.length y.2 (encB r.1)]) := by
 unfold synodref3_PutMessage.f
 refine fn_intro 135 Try.func58 rfl Try.ntmps58 rfl ?_
 refine sim_seq (sim_region ?_)
 refine simL_eff (re_box rfl rfl rfl) rfl rfl rfl ?_
 intro b1v
 refine simL_val (q_asg rfl rfl) rfl rfl rfl ?_
 refine simL_val (q_asg rfl rfl) rfl rfl rfl (simL_nil (nrm_then (sim_seq (sim_region ?_))))
 refine simL_val (q_loado 0 rfl rfl Try.isAgg31 Try.sizeOf31 rfl rfl) rfl rfl rfl ?_
 refine simL_bind (fun s2v hs4v => ?_)
 refine simL_eff (re_call (vs := [.agg #[.int .i64 x0_0, .int .i64 x0_1, .int .i64 x0_2, .int .i64 x0_3, .int .i64 x0_4, .int .i64 x0_5, .int .i64 x0_6, .int .i64 x0_7, .int .i64 x0_8, .bool x0_9, .slice a0_10 x0_10.length c0_10, .int .i64 x0_11, .int .i64 x0_12, .slice a0_13 x0_13.length c0_13]]) (cap := []) (A := []) (rst := [obj b1v 31 [.int .i64 x0_0, .int .i64 x0_1, .int .i64 x0_2, .int .i64 x0_3, .int .i64 x0_4, .int .i64 x0_5, .int .i64 x0_6, .int .i64 x0_7, .int .i64 x0_8, .bool x0_9, .slice a0_10 x0_10.length c0_10, .int .i64 x0_11, .int .i64 x0_12, .slice a0_13 x0_13.length c0_13], F]) rfl rfl rfl rfl rfl rfl Try.call19 (.sel 0 rfl (.sel 0 rfl (.nil _))) (synodref3_CheckMessage.calls _ _ k x0_0 x0_1 x0_2 x0_3 x0_4 x0_5 x0_6 x0_7 x0_8 x0_9 a0_10 c0_10 x0_10 x0_11 x0_12 a0_13 c0_13 x0_13 (h0_10.up (Up.lend 1 rfl) (V61.up (Up.lend 1 rfl))) hc0_10 hm0_10 (h0_13.lend 1 rfl) hc0_13 hm0_13) hs4v) rfl rfl rfl ?_
 intro y3v
 refine simL_val (q_asg rfl rfl) rfl rfl rfl (simL_nil (nrm_then (sim_seq (sim_seq (sim_region ?_)))))
 refine simL_val (q_move rfl rfl) rfl rfl rfl ?_
 refine simL_val (q_neq rfl rfl rfl) rfl rfl rfl (simL_nil (nrm_then ?_))
 refine sim_condn rfl (fun h5v => ?_) (fun h6v => ?_)
 refine sim_skip ?_
 refine nrm_then (sim_seq (sim_region ?_))
 refine simL_val (q_build (v := .agg #[.slice none 0 0, .int .i64 0]) rfl rfl (fun _ => by kernel_rfl)) rfl rfl rfl ?_
 refine simL_eff (re_box rfl rfl rfl) rfl rfl rfl ?_
 intro b7v
 refine simL_val (q_asg rfl rfl) rfl rfl rfl (simL_nil (nrm_then (sim_seq (sim_region ?_))))
 refine simL_val (q_move rfl rfl) rfl rfl rfl ?_
 refine simL_val (q_fa rfl rfl Try.underlying31 rfl rfl Try.sizeOf3 rfl) rfl rfl rfl ?_
 refine simL_val (q_load rfl rfl Try.isAgg3 (.obj 1 rfl rfl)) rfl rfl rfl ?_
 refine simL_bind (fun s8v hs10v => ?_)
 refine simL_eff (re_call (vs := [.pointer (some ⟨b7v, 0, none⟩), .int .i64 x0_0]) (cap := []) (A := [obj b7v 143 [.slice none 0 0, .int .i64 0], Row 5 1 none ([] : List UInt8).length 0 (encB ([] : List UInt8))]) (rst := [obj b1v 31 [.int .i64 x0_0, .int .i64 x0_1, .int .i64 x0_2, .int .i64 x0_3, .int .i64 x0_4, .int .i64 x0_5, .int .i64 x0_6, .int .i64 x0_7, .int .i64 x0_8, .bool x0_9, .slice a0_10 x0_10.length c0_10, .int .i64 x0_11, .int .i64 x0_12, .slice a0_13 x0_13.length c0_13], F]) rfl rfl rfl rfl rfl rfl Try.call79 (.sel 0 rfl (.row_nil (.sel 0 rfl (.sel 0 rfl (.nil _))))) (synodref1_Writer_Int.calls _ _ k b7v none 0 ([] : List UInt8) (0 : Int) x0_0 ) hs10v) rfl rfl rfl ?_
 intro y9v
 refine simL_nil (nrm_then (sim_seq (sim_region ?_)))
 refine simL_val (q_move rfl rfl) rfl rfl rfl ?_
 refine simL_val (q_fa rfl rfl Try.underlying31 rfl rfl Try.sizeOf3 rfl) rfl rfl rfl ?_
 refine simL_val (q_load rfl rfl Try.isAgg3 (.obj 2 rfl rfl)) rfl rfl rfl ?_
 refine simL_bind (fun s11v hs13v => ?_)
 refine simL_eff (re_call (vs := [.pointer (some ⟨b7v, 0, none⟩), .int .i64 x0_1]) (cap := []) (A := [obj b7v 143 [.slice y9v.1 s8v.1.length y9v.2, .int .i64 s8v.2], Row 5 1 y9v.1 s8v.1.length y9v.2 (encB s8v.1)]) (rst := [obj b1v 31 [.int .i64 x0_0, .int .i64 x0_1, .int .i64 x0_2, .int .i64 x0_3, .int .i64 x0_4, .int .i64 x0_5, .int .i64 x0_6, .int .i64 x0_7, .int .i64 x0_8, .bool x0_9, .slice a0_10 x0_10.length c0_10, .int .i64 x0_11, .int .i64 x0_12, .slice a0_13 x0_13.length c0_13], F]) rfl rfl rfl rfl rfl rfl Try.call79 (.sel 0 rfl (.sel 0 rfl (.sel 0 rfl (.sel 0 rfl (.nil _))))) (synodref1_Writer_Int.calls _ _ k b7v y9v.1 y9v.2 s8v.1 s8v.2 x0_1 ) hs13v) rfl rfl rfl ?_
 intro y12v
 refine simL_nil (nrm_then (sim_seq (sim_region ?_)))
 refine simL_val (q_move rfl rfl) rfl rfl rfl ?_
 refine simL_val (q_fa rfl rfl Try.underlying31 rfl rfl Try.sizeOf3 rfl) rfl rfl rfl ?_
 refine simL_val (q_load rfl rfl Try.isAgg3 (.obj 2 rfl rfl)) rfl rfl rfl ?_
 refine simL_bind (fun s14v hs16v => ?_)
 refine simL_eff (re_call (vs := [.pointer (some ⟨b7v, 0, none⟩), .int .i64 x0_2]) (cap := []) (A := [obj b7v 143 [.slice y12v.1 s11v.1.length y12v.2, .int .i64 s11v.2], Row 5 1 y12v.1 s11v.1.length y12v.2 (encB s11v.1)]) (rst := [obj b1v 31 [.int .i64 x0_0, .int .i64 x0_1, .int .i64 x0_2, .int .i64 x0_3, .int .i64 x0_4, .int .i64 x0_5, .int .i64 x0_6, .int .i64 x0_7, .int .i64 x0_8, .bool x0_9, .slice a0_10 x0_10.length c0_10, .int .i64 x0_11, .int .i64 x0_12, .slice a0_13 x0_13.length c0_13], F]) rfl rfl rfl rfl rfl rfl Try.call79 (.sel 0 rfl (.sel 0 rfl (.sel 0 rfl (.sel 0 rfl (.nil _))))) (synodref1_Writer_Int.calls _ _ k b7v y12v.1 y12v.2 s11v.1 s11v.2 x0_2 ) hs16v) rfl rfl rfl ?_
 intro y15v
 refine simL_nil (nrm_then (sim_seq (sim_region ?_)))
 refine simL_val (q_move rfl rfl) rfl rfl rfl ?_
 refine simL_val (q_fa rfl rfl Try.underlying31 rfl rfl Try.sizeOf3 rfl) rfl rfl rfl ?_
 refine simL_val (q_load rfl rfl Try.isAgg3 (.obj 2 rfl rfl)) rfl rfl rfl ?_
 refine simL_bind (fun s17v hs19v => ?_)
 refine simL_eff (re_call (vs := [.pointer (some ⟨b7v, 0, none⟩), .int .i64 x0_3]) (cap := []) (A := [obj b7v 143 [.slice y15v.1 s14v.1.length y15v.2, .int .i64 s14v.2], Row 5 1 y15v.1 s14v.1.length y15v.2 (encB s14v.1)]) (rst := [obj b1v 31 [.int .i64 x0_0, .int .i64 x0_1, .int .i64 x0_2, .int .i64 x0_3, .int .i64 x0_4, .int .i64 x0_5, .int .i64 x0_6, .int .i64 x0_7, .int .i64 x0_8, .bool x0_9, .slice a0_10 x0_10.length c0_10, .int .i64 x0_11, .int .i64 x0_12, .slice a0_13 x0_13.length c0_13], F]) rfl rfl rfl rfl rfl rfl Try.call79 (.sel 0 rfl (.sel 0 rfl (.sel 0 rfl (.sel 0 rfl (.nil _))))) (synodref1_Writer_Int.calls _ _ k b7v y15v.1 y15v.2 s14v.1 s14v.2 x0_3 ) hs19v) rfl rfl rfl ?_
 intro y18v
 refine simL_nil (nrm_then ?_)
 refine sim_cut (S := List UInt8 × Int) (Option Addr × Nat) (fun s y => [(5, .pointer (some ⟨b7v, 0, none⟩))]) (fun s y => [obj b7v 143 [.slice y.1 s.1.length y.2, .int .i64 s.2], Row 5 1 y.1 s.1.length y.2 (encB s.1), F]) ?_ ?_
 refine sim_seq (sim_region ?_)
 refine simL_val (q_fa rfl rfl Try.underlying31 rfl rfl Try.sizeOf3 rfl) rfl rfl rfl ?_
 refine simL_val (q_load rfl rfl Try.isAgg3 (.obj 2 rfl rfl)) rfl rfl rfl (simL_nil (nrm_then ?_))
 refine sim_block ?_
 refine sim_seq (sim_region ?_)
 refine simL_val (q_eql rfl rfl rfl) rfl rfl rfl ?_
 refine simL_val (q_asg rfl rfl) rfl rfl rfl (simL_nil (nrm_then ?_))
 refine sim_cond rfl (fun h22v => ?_) (fun h23v => ?_)
 refine sim_seq (sim_region ?_)
 refine simL_val (q_move rfl rfl) rfl rfl rfl ?_
 refine simL_val (q_fa rfl rfl Try.underlying31 rfl rfl Try.sizeOf3 rfl) rfl rfl rfl ?_
 refine simL_val (q_load rfl rfl Try.isAgg3 (.obj 2 rfl rfl)) rfl rfl rfl ?_
 refine simL_bind (fun s24v hs26v => ?_)
 refine simL_eff (re_call (vs := [.pointer (some ⟨b7v, 0, none⟩), .int .i64 x0_4]) (cap := []) (A := [obj b7v 143 [.slice y18v.1 s17v.1.length y18v.2, .int .i64 s17v.2], Row 5 1 y18v.1 s17v.1.length y18v.2 (encB s17v.1)]) (rst := [obj b1v 31 [.int .i64 x0_0, .int .i64 x0_1, .int .i64 x0_2, .int .i64 x0_3, .int .i64 x0_4, .int .i64 x0_5, .int .i64 x0_6, .int .i64 x0_7, .int .i64 x0_8, .bool x0_9, .slice a0_10 x0_10.length c0_10, .int .i64 x0_11, .int .i64 x0_12, .slice a0_13 x0_13.length c0_13], F]) rfl rfl rfl rfl rfl rfl Try.call79 (.sel 0 rfl (.sel 0 rfl (.sel 0 rfl (.sel 0 rfl (.nil _))))) (synodref1_Writer_Int.calls _ _ k b7v y18v.1 y18v.2 s17v.1 s17v.2 x0_4 ) hs26v) rfl rfl rfl ?_
 intro y25v
 refine simL_nil (nrm_then (sim_region ?_))
 refine simL_val (q_move rfl rfl) rfl rfl rfl ?_
 refine simL_val (q_fa rfl rfl Try.underlying31 rfl rfl Try.sizeOf3 rfl) rfl rfl rfl ?_
 refine simL_val (q_load rfl rfl Try.isAgg3 (.obj 2 rfl rfl)) rfl rfl rfl ?_
 refine simL_bind (fun s27v hs29v => ?_)
 refine simL_eff (re_call (vs := [.pointer (some ⟨b7v, 0, none⟩), .int .i64 x0_5]) (cap := []) (A := [obj b7v 143 [.slice y25v.1 s24v.1.length y25v.2, .int .i64 s24v.2], Row 5 1 y25v.1 s24v.1.length y25v.2 (encB s24v.1)]) (rst := [obj b1v 31 [.int .i64 x0_0, .int .i64 x0_1, .int .i64 x0_2, .int .i64 x0_3, .int .i64 x0_4, .int .i64 x0_5, .int .i64 x0_6, .int .i64 x0_7, .int .i64 x0_8, .bool x0_9, .slice a0_10 x0_10.length c0_10, .int .i64 x0_11, .int .i64 x0_12, .slice a0_13 x0_13.length c0_13], F]) rfl rfl rfl rfl rfl rfl Try.call79 (.sel 0 rfl (.sel 0 rfl (.sel 0 rfl (.sel 0 rfl (.nil _))))) (synodref1_Writer_Int.calls _ _ k b7v y25v.1 y25v.2 s24v.1 s24v.2 x0_5 ) hs29v) rfl rfl rfl ?_
 intro y28v
 refine simL_nil (nrm_block ?_)
 exact nrm_cut (s := (s27v.1, s27v.2)) (y28v.1, y28v.2) ⟨rfl, trivial⟩ (.sel 0 rfl (.sel 0 rfl (.sel 1 rfl (.nil _))))
 refine sim_seq (sim_region ?_)
 refine simL_val (q_eql rfl rfl rfl) rfl rfl rfl ?_
 refine simL_val (q_asg rfl rfl) rfl rfl rfl (simL_nil (nrm_then ?_))
 refine sim_cond rfl (fun h30v => ?_) (fun h31v => ?_)
 refine sim_region ?_
 refine simL_val (q_move rfl rfl) rfl rfl rfl ?_
 refine simL_val (q_fa rfl rfl Try.underlying31 rfl rfl Try.sizeOf4 rfl) rfl rfl rfl ?_
 refine simL_val (q_load rfl rfl Try.isAgg4 (.obj 2 rfl rfl)) rfl rfl rfl ?_
 refine simL_bind (fun s32v hs34v => ?_)
 refine simL_eff (re_call (vs := [.pointer (some ⟨b7v, 0, none⟩), .bool x0_9]) (cap := []) (A := [obj b7v 143 [.slice y18v.1 s17v.1.length y18v.2, .int .i64 s17v.2], Row 5 1 y18v.1 s17v.1.length y18v.2 (encB s17v.1)]) (rst := [obj b1v 31 [.int .i64 x0_0, .int .i64 x0_1, .int .i64 x0_2, .int .i64 x0_3, .int .i64 x0_4, .int .i64 x0_5, .int .i64 x0_6, .int .i64 x0_7, .int .i64 x0_8, .bool x0_9, .slice a0_10 x0_10.length c0_10, .int .i64 x0_11, .int .i64 x0_12, .slice a0_13 x0_13.length c0_13], F]) rfl rfl rfl rfl rfl rfl Try.call106 (.sel 0 rfl (.sel 0 rfl (.sel 0 rfl (.sel 0 rfl (.nil _))))) (synodref1_Writer_Bool.calls _ _ k b7v y18v.1 y18v.2 s17v.1 s17v.2 x0_9 ) hs34v) rfl rfl rfl ?_
 intro y33v
 refine simL_nil (nrm_block ?_)
 exact nrm_cut (s := (s32v.1, s32v.2)) (y33v.1, y33v.2) ⟨rfl, trivial⟩ (.sel 0 rfl (.sel 0 rfl (.sel 1 rfl (.nil _))))
 refine sim_seq (sim_region ?_)
 refine simL_val (q_eql rfl rfl rfl) rfl rfl rfl ?_
 refine simL_val (q_asg rfl rfl) rfl rfl rfl (simL_nil (nrm_then ?_))
 refine sim_cond rfl (fun h35v => ?_) (fun h36v => ?_)
 refine sim_seq (sim_region ?_)
 refine simL_val (q_move rfl rfl) rfl rfl rfl ?_
 refine simL_val (q_fa rfl rfl Try.underlying31 rfl rfl Try.sizeOf3 rfl) rfl rfl rfl ?_
 refine simL_val (q_load rfl rfl Try.isAgg3 (.obj 2 rfl rfl)) rfl rfl rfl ?_
 refine simL_bind (fun s37v hs39v => ?_)
 refine simL_eff (re_call (vs := [.pointer (some ⟨b7v, 0, none⟩), .int .i64 x0_4]) (cap := []) (A := [obj b7v 143 [.slice y18v.1 s17v.1.length y18v.2, .int .i64 s17v.2], Row 5 1 y18v.1 s17v.1.length y18v.2 (encB s17v.1)]) (rst := [obj b1v 31 [.int .i64 x0_0, .int .i64 x0_1, .int .i64 x0_2, .int .i64 x0_3, .int .i64 x0_4, .int .i64 x0_5, .int .i64 x0_6, .int .i64 x0_7, .int .i64 x0_8, .bool x0_9, .slice a0_10 x0_10.length c0_10, .int .i64 x0_11, .int .i64 x0_12, .slice a0_13 x0_13.length c0_13], F]) rfl rfl rfl rfl rfl rfl Try.call79 (.sel 0 rfl (.sel 0 rfl (.sel 0 rfl (.sel 0 rfl (.nil _))))) (synodref1_Writer_Int.calls _ _ k b7v y18v.1 y18v.2 s17v.1 s17v.2 x0_4 ) hs39v) rfl rfl rfl ?_
 intro y38v
 refine simL_nil (nrm_then (sim_seq (sim_region ?_)))
 refine simL_val (q_move rfl rfl) rfl rfl rfl ?_
 refine simL_val (q_fa rfl rfl Try.underlying31 rfl rfl Try.sizeOf3 rfl) rfl rfl rfl ?_
 refine simL_val (q_load rfl rfl Try.isAgg3 (.obj 2 rfl rfl)) rfl rfl rfl ?_
 refine simL_bind (fun s40v hs42v => ?_)
 refine simL_eff (re_call (vs := [.pointer (some ⟨b7v, 0, none⟩), .int .i64 x0_5]) (cap := []) (A := [obj b7v 143 [.slice y38v.1 s37v.1.length y38v.2, .int .i64 s37v.2], Row 5 1 y38v.1 s37v.1.length y38v.2 (encB s37v.1)]) (rst := [obj b1v 31 [.int .i64 x0_0, .int .i64 x0_1, .int .i64 x0_2, .int .i64 x0_3, .int .i64 x0_4, .int .i64 x0_5, .int .i64 x0_6, .int .i64 x0_7, .int .i64 x0_8, .bool x0_9, .slice a0_10 x0_10.length c0_10, .int .i64 x0_11, .int .i64 x0_12, .slice a0_13 x0_13.length c0_13], F]) rfl rfl rfl rfl rfl rfl Try.call79 (.sel 0 rfl (.sel 0 rfl (.sel 0 rfl (.sel 0 rfl (.nil _))))) (synodref1_Writer_Int.calls _ _ k b7v y38v.1 y38v.2 s37v.1 s37v.2 x0_5 ) hs42v) rfl rfl rfl ?_
 intro y41v
 refine simL_nil (nrm_then (sim_seq (sim_region ?_)))
 refine simL_val (q_move rfl rfl) rfl rfl rfl ?_
 refine simL_val (q_fa rfl rfl Try.underlying31 rfl rfl Try.sizeOf3 rfl) rfl rfl rfl ?_
 refine simL_val (q_load rfl rfl Try.isAgg3 (.obj 2 rfl rfl)) rfl rfl rfl ?_
 refine simL_bind (fun s43v hs45v => ?_)
 refine simL_eff (re_call (vs := [.pointer (some ⟨b7v, 0, none⟩), .int .i64 x0_6]) (cap := []) (A := [obj b7v 143 [.slice y41v.1 s40v.1.length y41v.2, .int .i64 s40v.2], Row 5 1 y41v.1 s40v.1.length y41v.2 (encB s40v.1)]) (rst := [obj b1v 31 [.int .i64 x0_0, .int .i64 x0_1, .int .i64 x0_2, .int .i64 x0_3, .int .i64 x0_4, .int .i64 x0_5, .int .i64 x0_6, .int .i64 x0_7, .int .i64 x0_8, .bool x0_9, .slice a0_10 x0_10.length c0_10, .int .i64 x0_11, .int .i64 x0_12, .slice a0_13 x0_13.length c0_13], F]) rfl rfl rfl rfl rfl rfl Try.call79 (.sel 0 rfl (.sel 0 rfl (.sel 0 rfl (.sel 0 rfl (.nil _))))) (synodref1_Writer_Int.calls _ _ k b7v y41v.1 y41v.2 s40v.1 s40v.2 x0_6 ) hs45v) rfl rfl rfl ?_
 intro y44v
 refine simL_nil (nrm_then (sim_seq (sim_region ?_)))
 refine simL_val (q_move rfl rfl) rfl rfl rfl ?_
 refine simL_val (q_fa rfl rfl Try.underlying31 rfl rfl Try.sizeOf26 rfl) rfl rfl rfl ?_
 refine simL_val (q_load rfl rfl Try.isAgg26 (.obj 2 rfl rfl)) rfl rfl rfl ?_
 refine simL_val (q_len rfl rfl rfl Try.underlying26) rfl rfl rfl ?_
 refine simL_bind (fun s46v hs48v => ?_)
 refine simL_eff (re_call (vs := [.pointer (some ⟨b7v, 0, none⟩), .int .i64 (x0_10.length : Int)]) (cap := []) (A := [obj b7v 143 [.slice y44v.1 s43v.1.length y44v.2, .int .i64 s43v.2], Row 5 1 y44v.1 s43v.1.length y44v.2 (encB s43v.1)]) (rst := [obj b1v 31 [.int .i64 x0_0, .int .i64 x0_1, .int .i64 x0_2, .int .i64 x0_3, .int .i64 x0_4, .int .i64 x0_5, .int .i64 x0_6, .int .i64 x0_7, .int .i64 x0_8, .bool x0_9, .slice a0_10 x0_10.length c0_10, .int .i64 x0_11, .int .i64 x0_12, .slice a0_13 x0_13.length c0_13], F]) rfl rfl rfl rfl rfl rfl Try.call79 (.sel 0 rfl (.sel 0 rfl (.sel 0 rfl (.sel 0 rfl (.nil _))))) (synodref1_Writer_Int.calls _ _ k b7v y44v.1 y44v.2 s43v.1 s43v.2 (x0_10.length : Int) ) hs48v) rfl rfl rfl ?_
 intro y47v
 refine simL_nil (nrm_then (sim_seq (sim_region ?_)))
 refine simL_val (q_asg rfl rfl) rfl rfl rfl (simL_nil (nrm_then ?_))
 refine sim_block ?_
 refine sim_loop (S := Int × List UInt8 × Int) (Option Addr × Nat) (fun k s => synodref3_PutMessage.l0 x0_10 k s.1 s.2.1 s.2.2) (fun s y => [(1, .pointer (some ⟨b1v, 0, none⟩)), (5, .pointer (some ⟨b7v, 0, none⟩)), (6, .int .i64 s.1)]) (fun s y => [obj b7v 143 [.slice y.1 s.2.1.length y.2, .int .i64 s.2.2], obj b1v 31 [.int .i64 x0_0, .int .i64 x0_1, .int .i64 x0_2, .int .i64 x0_3, .int .i64 x0_4, .int .i64 x0_5, .int .i64 x0_6, .int .i64 x0_7, .int .i64 x0_8, .bool x0_9, .slice a0_10 x0_10.length c0_10, .int .i64 x0_11, .int .i64 x0_12, .slice a0_13 x0_13.length c0_13], Row 5 1 y.1 s.2.1.length y.2 (encB s.2.1), F]) (fun _ => by rw [synodref3_PutMessage.l0]) ?_ k (0, s46v.1, s46v.2) (y47v.1, y47v.2) ⟨rfl, rfl, rfl, trivial⟩ (.sel 0 rfl (.sel 1 rfl (.sel 0 rfl (.sel 0 rfl (.nil _)))))
 intro k s49v y50v
 refine sim_eq (by rw [synodref3_PutMessage.l0]) ?_
 refine sim_seq (sim_seq (sim_region ?_))
 refine simL_val (q_move rfl rfl) rfl rfl rfl ?_
 refine simL_val (q_fa rfl rfl Try.underlying31 rfl rfl Try.sizeOf26 rfl) rfl rfl rfl ?_
 refine simL_val (q_load rfl rfl Try.isAgg26 (.obj 1 rfl rfl)) rfl rfl rfl ?_
 refine simL_val (q_len rfl rfl rfl Try.underlying26) rfl rfl rfl ?_
 refine simL_val (q_lss rfl rfl rfl) rfl rfl rfl (simL_nil (nrm_then ?_))
 refine sim_cond rfl (fun h54v => ?_) (fun h55v => ?_)
 refine sim_skip ?_
 refine nrm_then (sim_seq ?_)
 refine sim_block ?_
 refine sim_seq (sim_region ?_)
 refine simL_val (q_fa rfl rfl Try.underlying31 rfl rfl Try.sizeOf26 rfl) rfl rfl rfl ?_
 refine simL_val (q_load rfl rfl Try.isAgg26 (.obj 1 rfl rfl)) rfl rfl rfl ?_
 refine simL_val (q_move rfl rfl) rfl rfl rfl ?_
 refine simL_ask (fun hi56v => ?_)
 obtain ⟨b57v, b57vo, r60v, ha58v, hV61v, hlr62v, hcell63v⟩ := RdV.pos h0_10 (Up.refl _) rfl (i := s49v.1.toNat) (by omega) ((0 : Int), (0 : Int), (0 : Int), ([] : List UInt8))
 obtain ⟨a64v, c65v, rfl, ⟨he66v, hc67v, hm68v⟩⟩ := hV61v
 refine simL_val (q_idx rfl rfl rfl ha58v Try.underlying26 Try.sizeOf61 hi56v.1 hi56v.2) rfl rfl rfl ?_
 refine simL_val (q_loads rfl rfl Try.isAgg61 Try.sizeOf61 rfl (fun j v hj => hcell63v 3 rfl j v hj)) rfl rfl rfl ?_
 refine simL_bind (fun s69v hs71v => ?_)
 refine simL_eff (re_call (vs := [.agg #[.int .i64 ((x0_10.getD s49v.1.toNat ((0 : Int), (0 : Int), (0 : Int), ([] : List UInt8))).1), .int .i64 ((x0_10.getD s49v.1.toNat ((0 : Int), (0 : Int), (0 : Int), ([] : List UInt8))).2.1), .int .i64 ((x0_10.getD s49v.1.toNat ((0 : Int), (0 : Int), (0 : Int), ([] : List UInt8))).2.2.1), .slice a64v (((x0_10.getD s49v.1.toNat ((0 : Int), (0 : Int), (0 : Int), ([] : List UInt8))).2.2.2).length) c65v]]) (cap := []) (A := []) (rst := [obj b7v 143 [.slice y50v.1 s49v.2.1.length y50v.2, .int .i64 s49v.2.2], obj b1v 31 [.int .i64 x0_0, .int .i64 x0_1, .int .i64 x0_2, .int .i64 x0_3, .int .i64 x0_4, .int .i64 x0_5, .int .i64 x0_6, .int .i64 x0_7, .int .i64 x0_8, .bool x0_9, .slice a0_10 x0_10.length c0_10, .int .i64 x0_11, .int .i64 x0_12, .slice a0_13 x0_13.length c0_13], Row 5 1 y50v.1 s49v.2.1.length y50v.2 (encB s49v.2.1), F]) rfl rfl rfl rfl rfl rfl Try.call33 (.sel 0 rfl (.sel 0 rfl (.sel 0 rfl (.sel 0 rfl (.nil _))))) (synodref3_PutEntry.calls _ _ k ((x0_10.getD s49v.1.toNat ((0 : Int), (0 : Int), (0 : Int), ([] : List UInt8))).1) ((x0_10.getD s49v.1.toNat ((0 : Int), (0 : Int), (0 : Int), ([] : List UInt8))).2.1) ((x0_10.getD s49v.1.toNat ((0 : Int), (0 : Int), (0 : Int), ([] : List UInt8))).2.2.1) a64v c65v ((x0_10.getD s49v.1.toNat ((0 : Int), (0 : Int), (0 : Int), ([] : List UInt8))).2.2.2) (he66v.lend 3 rfl) hc67v hm68v) hs71v) rfl rfl rfl ?_
 intro y70v
 refine simL_val (q_move rfl rfl) rfl rfl rfl ?_
 refine simL_val (q_ext rfl rfl rfl) rfl rfl rfl ?_
 refine simL_val (q_ext rfl rfl rfl) rfl rfl rfl ?_
 refine simL_val (q_asg rfl rfl) rfl rfl rfl ?_
 refine simL_val (q_asg rfl rfl) rfl rfl rfl (simL_nil (nrm_then (sim_region ?_)))
 refine simL_val (q_move rfl rfl) rfl rfl rfl ?_
 refine simL_val (q_move rfl rfl) rfl rfl rfl ?_
 refine simL_bind (fun s76v hs78v => ?_)
 refine simL_lend 0 rfl (fun hq72v hq73v hq74v hq75v => ?_)
 refine simL_eff (re_call (vs := [.pointer (some ⟨b7v, 0, none⟩), .slice y70v.1 s69v.1.length y70v.2, .int .i64 8192]) (cap := []) (A := [obj b7v 143 [.slice y50v.1 s49v.2.1.length y50v.2, .int .i64 s49v.2.2], Row 5 1 y50v.1 s49v.2.1.length y50v.2 (encB s49v.2.1)]) (rst := [Row 5 1 y70v.1 s69v.1.length y70v.2 (encB s69v.1), obj b1v 31 [.int .i64 x0_0, .int .i64 x0_1, .int .i64 x0_2, .int .i64 x0_3, .int .i64 x0_4, .int .i64 x0_5, .int .i64 x0_6, .int .i64 x0_7, .int .i64 x0_8, .bool x0_9, .slice a0_10 x0_10.length c0_10, .int .i64 x0_11, .int .i64 x0_12, .slice a0_13 x0_13.length c0_13], F]) rfl rfl rfl rfl rfl rfl Try.call89 (.sel 1 rfl (.sel 2 rfl (.sel 0 rfl (.sel 0 rfl (.sel 0 rfl (.nil _)))))) (synodref1_Writer_Bytes.calls _ _ k b7v y50v.1 y50v.2 s49v.2.1 s49v.2.2 y70v.1 y70v.2 s69v.1 (8192 : Int) (hq72v.lend 0 rfl) hq73v hq74v) hs78v) rfl rfl rfl ?_
 intro y77v
 refine simL_nil (nrm_block (nrm_then (sim_region ?_)))
 refine simL_val (q_move rfl rfl) rfl rfl rfl ?_
 refine simL_val (q_add rfl rfl rfl) rfl rfl rfl ?_
 refine simL_val (q_asg rfl rfl) rfl rfl rfl (simL_nil ?_)
 exact nrm_again (s := (IntKind.i64.wrap (s49v.1 + 1), s76v.1, s76v.2)) (y77v.1, y77v.2) ⟨rfl, rfl, rfl, trivial⟩ (.sel 0 rfl (.sel 2 rfl (.sel 0 rfl (.sel 1 rfl (.nil _)))))
 refine sim_exi ?_
 refine exi_then ?_
 refine exi_loop ?_
 refine exi_here ?_
 refine nrm_block ?_
 exact nrm_cut (s := (s49v.2.1, s49v.2.2)) (y50v.1, y50v.2) ⟨rfl, trivial⟩ (.sel 0 rfl (.sel 1 rfl (.sel 1 rfl (.nil _))))
 refine sim_seq (sim_region ?_)
 refine simL_val (q_eql rfl rfl rfl) rfl rfl rfl ?_
 refine simL_val (q_asg rfl rfl) rfl rfl rfl (simL_nil (nrm_then ?_))
 refine sim_cond rfl (fun h79v => ?_) (fun h80v => ?_)
 refine sim_seq (sim_region ?_)
 refine simL_val (q_move rfl rfl) rfl rfl rfl ?_
 refine simL_val (q_fa rfl rfl Try.underlying31 rfl rfl Try.sizeOf3 rfl) rfl rfl rfl ?_
 refine simL_val (q_load rfl rfl Try.isAgg3 (.obj 2 rfl rfl)) rfl rfl rfl ?_
 refine simL_bind (fun s81v hs83v => ?_)
 refine simL_eff (re_call (vs := [.pointer (some ⟨b7v, 0, none⟩), .int .i64 x0_4]) (cap := []) (A := [obj b7v 143 [.slice y18v.1 s17v.1.length y18v.2, .int .i64 s17v.2], Row 5 1 y18v.1 s17v.1.length y18v.2 (encB s17v.1)]) (rst := [obj b1v 31 [.int .i64 x0_0, .int .i64 x0_1, .int .i64 x0_2, .int .i64 x0_3, .int .i64 x0_4, .int .i64 x0_5, .int .i64 x0_6, .int .i64 x0_7, .int .i64 x0_8, .bool x0_9, .slice a0_10 x0_10.length c0_10, .int .i64 x0_11, .int .i64 x0_12, .slice a0_13 x0_13.length c0_13], F]) rfl rfl rfl rfl rfl rfl Try.call79 (.sel 0 rfl (.sel 0 rfl (.sel 0 rfl (.sel 0 rfl (.nil _))))) (synodref1_Writer_Int.calls _ _ k b7v y18v.1 y18v.2 s17v.1 s17v.2 x0_4 ) hs83v) rfl rfl rfl ?_
 intro y82v
 refine simL_nil (nrm_then (sim_seq (sim_region ?_)))
 refine simL_val (q_move rfl rfl) rfl rfl rfl ?_
 refine simL_val (q_fa rfl rfl Try.underlying31 rfl rfl Try.sizeOf4 rfl) rfl rfl rfl ?_
 refine simL_val (q_load rfl rfl Try.isAgg4 (.obj 2 rfl rfl)) rfl rfl rfl ?_
 refine simL_bind (fun s84v hs86v => ?_)
 refine simL_eff (re_call (vs := [.pointer (some ⟨b7v, 0, none⟩), .bool x0_9]) (cap := []) (A := [obj b7v 143 [.slice y82v.1 s81v.1.length y82v.2, .int .i64 s81v.2], Row 5 1 y82v.1 s81v.1.length y82v.2 (encB s81v.1)]) (rst := [obj b1v 31 [.int .i64 x0_0, .int .i64 x0_1, .int .i64 x0_2, .int .i64 x0_3, .int .i64 x0_4, .int .i64 x0_5, .int .i64 x0_6, .int .i64 x0_7, .int .i64 x0_8, .bool x0_9, .slice a0_10 x0_10.length c0_10, .int .i64 x0_11, .int .i64 x0_12, .slice a0_13 x0_13.length c0_13], F]) rfl rfl rfl rfl rfl rfl Try.call106 (.sel 0 rfl (.sel 0 rfl (.sel 0 rfl (.sel 0 rfl (.nil _))))) (synodref1_Writer_Bool.calls _ _ k b7v y82v.1 y82v.2 s81v.1 s81v.2 x0_9 ) hs86v) rfl rfl rfl ?_
 intro y85v
 refine simL_nil (nrm_then (sim_region ?_))
 refine simL_val (q_move rfl rfl) rfl rfl rfl ?_
 refine simL_val (q_fa rfl rfl Try.underlying31 rfl rfl Try.sizeOf3 rfl) rfl rfl rfl ?_
 refine simL_val (q_load rfl rfl Try.isAgg3 (.obj 2 rfl rfl)) rfl rfl rfl ?_
 refine simL_bind (fun s87v hs89v => ?_)
 refine simL_eff (re_call (vs := [.pointer (some ⟨b7v, 0, none⟩), .int .i64 x0_7]) (cap := []) (A := [obj b7v 143 [.slice y85v.1 s84v.1.length y85v.2, .int .i64 s84v.2], Row 5 1 y85v.1 s84v.1.length y85v.2 (encB s84v.1)]) (rst := [obj b1v 31 [.int .i64 x0_0, .int .i64 x0_1, .int .i64 x0_2, .int .i64 x0_3, .int .i64 x0_4, .int .i64 x0_5, .int .i64 x0_6, .int .i64 x0_7, .int .i64 x0_8, .bool x0_9, .slice a0_10 x0_10.length c0_10, .int .i64 x0_11, .int .i64 x0_12, .slice a0_13 x0_13.length c0_13], F]) rfl rfl rfl rfl rfl rfl Try.call79 (.sel 0 rfl (.sel 0 rfl (.sel 0 rfl (.sel 0 rfl (.nil _))))) (synodref1_Writer_Int.calls _ _ k b7v y85v.1 y85v.2 s84v.1 s84v.2 x0_7 ) hs89v) rfl rfl rfl ?_
 intro y88v
 refine simL_nil (nrm_block ?_)
 exact nrm_cut (s := (s87v.1, s87v.2)) (y88v.1, y88v.2) ⟨rfl, trivial⟩ (.sel 0 rfl (.sel 0 rfl (.sel 1 rfl (.nil _))))
 refine sim_seq (sim_region ?_)
 refine simL_val (q_eql rfl rfl rfl) rfl rfl rfl ?_
 refine simL_val (q_asg rfl rfl) rfl rfl rfl (simL_nil (nrm_then ?_))
 refine sim_cond rfl (fun h90v => ?_) (fun h91v => ?_)
 refine sim_seq (sim_region ?_)
 refine simL_val (q_move rfl rfl) rfl rfl rfl ?_
 refine simL_val (q_fa rfl rfl Try.underlying31 rfl rfl Try.sizeOf3 rfl) rfl rfl rfl ?_
 refine simL_val (q_load rfl rfl Try.isAgg3 (.obj 2 rfl rfl)) rfl rfl rfl ?_
 refine simL_bind (fun s92v hs94v => ?_)
 refine simL_eff (re_call (vs := [.pointer (some ⟨b7v, 0, none⟩), .int .i64 x0_6]) (cap := []) (A := [obj b7v 143 [.slice y18v.1 s17v.1.length y18v.2, .int .i64 s17v.2], Row 5 1 y18v.1 s17v.1.length y18v.2 (encB s17v.1)]) (rst := [obj b1v 31 [.int .i64 x0_0, .int .i64 x0_1, .int .i64 x0_2, .int .i64 x0_3, .int .i64 x0_4, .int .i64 x0_5, .int .i64 x0_6, .int .i64 x0_7, .int .i64 x0_8, .bool x0_9, .slice a0_10 x0_10.length c0_10, .int .i64 x0_11, .int .i64 x0_12, .slice a0_13 x0_13.length c0_13], F]) rfl rfl rfl rfl rfl rfl Try.call79 (.sel 0 rfl (.sel 0 rfl (.sel 0 rfl (.sel 0 rfl (.nil _))))) (synodref1_Writer_Int.calls _ _ k b7v y18v.1 y18v.2 s17v.1 s17v.2 x0_6 ) hs94v) rfl rfl rfl ?_
 intro y93v
 refine simL_nil (nrm_then (sim_region ?_))
 refine simL_val (q_move rfl rfl) rfl rfl rfl ?_
 refine simL_val (q_fa rfl rfl Try.underlying31 rfl rfl Try.sizeOf3 rfl) rfl rfl rfl ?_
 refine simL_val (q_load rfl rfl Try.isAgg3 (.obj 2 rfl rfl)) rfl rfl rfl ?_
 refine simL_bind (fun s95v hs97v => ?_)
 refine simL_eff (re_call (vs := [.pointer (some ⟨b7v, 0, none⟩), .int .i64 x0_8]) (cap := []) (A := [obj b7v 143 [.slice y93v.1 s92v.1.length y93v.2, .int .i64 s92v.2], Row 5 1 y93v.1 s92v.1.length y93v.2 (encB s92v.1)]) (rst := [obj b1v 31 [.int .i64 x0_0, .int .i64 x0_1, .int .i64 x0_2, .int .i64 x0_3, .int .i64 x0_4, .int .i64 x0_5, .int .i64 x0_6, .int .i64 x0_7, .int .i64 x0_8, .bool x0_9, .slice a0_10 x0_10.length c0_10, .int .i64 x0_11, .int .i64 x0_12, .slice a0_13 x0_13.length c0_13], F]) rfl rfl rfl rfl rfl rfl Try.call79 (.sel 0 rfl (.sel 0 rfl (.sel 0 rfl (.sel 0 rfl (.nil _))))) (synodref1_Writer_Int.calls _ _ k b7v y93v.1 y93v.2 s92v.1 s92v.2 x0_8 ) hs97v) rfl rfl rfl ?_
 intro y96v
 refine simL_nil (nrm_block ?_)
 exact nrm_cut (s := (s95v.1, s95v.2)) (y96v.1, y96v.2) ⟨rfl, trivial⟩ (.sel 0 rfl (.sel 0 rfl (.sel 1 rfl (.nil _))))
 refine sim_seq (sim_region ?_)
 refine simL_val (q_eql rfl rfl rfl) rfl rfl rfl ?_
 refine simL_val (q_asg rfl rfl) rfl rfl rfl (simL_nil (nrm_then ?_))
 refine sim_cond rfl (fun h98v => ?_) (fun h99v => ?_)
 refine sim_region ?_
 refine simL_val (q_move rfl rfl) rfl rfl rfl ?_
 refine simL_val (q_fa rfl rfl Try.underlying31 rfl rfl Try.sizeOf3 rfl) rfl rfl rfl ?_
 refine simL_val (q_load rfl rfl Try.isAgg3 (.obj 2 rfl rfl)) rfl rfl rfl ?_
 refine simL_bind (fun s100v hs102v => ?_)
 refine simL_eff (re_call (vs := [.pointer (some ⟨b7v, 0, none⟩), .int .i64 x0_8]) (cap := []) (A := [obj b7v 143 [.slice y18v.1 s17v.1.length y18v.2, .int .i64 s17v.2], Row 5 1 y18v.1 s17v.1.length y18v.2 (encB s17v.1)]) (rst := [obj b1v 31 [.int .i64 x0_0, .int .i64 x0_1, .int .i64 x0_2, .int .i64 x0_3, .int .i64 x0_4, .int .i64 x0_5, .int .i64 x0_6, .int .i64 x0_7, .int .i64 x0_8, .bool x0_9, .slice a0_10 x0_10.length c0_10, .int .i64 x0_11, .int .i64 x0_12, .slice a0_13 x0_13.length c0_13], F]) rfl rfl rfl rfl rfl rfl Try.call79 (.sel 0 rfl (.sel 0 rfl (.sel 0 rfl (.sel 0 rfl (.nil _))))) (synodref1_Writer_Int.calls _ _ k b7v y18v.1 y18v.2 s17v.1 s17v.2 x0_8 ) hs102v) rfl rfl rfl ?_
 intro y101v
 refine simL_nil (nrm_block ?_)
 exact nrm_cut (s := (s100v.1, s100v.2)) (y101v.1, y101v.2) ⟨rfl, trivial⟩ (.sel 0 rfl (.sel 0 rfl (.sel 1 rfl (.nil _))))
 refine sim_seq (sim_region ?_)
 refine simL_val (q_eql rfl rfl rfl) rfl rfl rfl ?_
 refine simL_val (q_asg rfl rfl) rfl rfl rfl (simL_nil (nrm_then ?_))
 refine sim_cond rfl (fun h103v => ?_) (fun h104v => ?_)
 refine sim_seq (sim_region ?_)
 refine simL_val (q_fa rfl rfl Try.underlying31 rfl rfl Try.sizeOf29 rfl) rfl rfl rfl ?_
 refine simL_val (q_loads (vs := [.int .i64 x0_11, .int .i64 x0_12, .slice a0_13 x0_13.length c0_13]) rfl rfl Try.isAgg29 Try.sizeOf29 rfl (cells_obj 2 rfl (cells_lit rfl))) rfl rfl rfl ?_
 refine simL_bind (fun s105v hs107v => ?_)
 refine simL_eff (re_call (vs := [.agg #[.int .i64 x0_11, .int .i64 x0_12, .slice a0_13 x0_13.length c0_13]]) (cap := []) (A := []) (rst := [obj b7v 143 [.slice y18v.1 s17v.1.length y18v.2, .int .i64 s17v.2], Row 5 1 y18v.1 s17v.1.length y18v.2 (encB s17v.1), obj b1v 31 [.int .i64 x0_0, .int .i64 x0_1, .int .i64 x0_2, .int .i64 x0_3, .int .i64 x0_4, .int .i64 x0_5, .int .i64 x0_6, .int .i64 x0_7, .int .i64 x0_8, .bool x0_9, .slice a0_10 x0_10.length c0_10, .int .i64 x0_11, .int .i64 x0_12, .slice a0_13 x0_13.length c0_13], F]) rfl rfl rfl rfl rfl rfl Try.call40 (.sel 0 rfl (.sel 0 rfl (.sel 0 rfl (.sel 0 rfl (.nil _))))) (synodref3_PutSnap.calls _ _ k x0_11 x0_12 a0_13 c0_13 x0_13 (h0_13.lend 3 rfl) hc0_13 hm0_13) hs107v) rfl rfl rfl ?_
 intro y106v
 refine simL_val (q_move rfl rfl) rfl rfl rfl ?_
 refine simL_val (q_ext rfl rfl rfl) rfl rfl rfl ?_
 refine simL_val (q_ext rfl rfl rfl) rfl rfl rfl ?_
 refine simL_val (q_asg rfl rfl) rfl rfl rfl ?_
 refine simL_val (q_asg rfl rfl) rfl rfl rfl (simL_nil (nrm_then (sim_region ?_)))
 refine simL_val (q_move rfl rfl) rfl rfl rfl ?_
 refine simL_val (q_move rfl rfl) rfl rfl rfl ?_
 refine simL_bind (fun s112v hs114v => ?_)
 refine simL_lend 0 rfl (fun hq108v hq109v hq110v hq111v => ?_)
 refine simL_eff (re_call (vs := [.pointer (some ⟨b7v, 0, none⟩), .slice y106v.1 s105v.1.length y106v.2, .int .i64 1048576]) (cap := []) (A := [obj b7v 143 [.slice y18v.1 s17v.1.length y18v.2, .int .i64 s17v.2], Row 5 1 y18v.1 s17v.1.length y18v.2 (encB s17v.1)]) (rst := [Row 5 1 y106v.1 s105v.1.length y106v.2 (encB s105v.1), obj b1v 31 [.int .i64 x0_0, .int .i64 x0_1, .int .i64 x0_2, .int .i64 x0_3, .int .i64 x0_4, .int .i64 x0_5, .int .i64 x0_6, .int .i64 x0_7, .int .i64 x0_8, .bool x0_9, .slice a0_10 x0_10.length c0_10, .int .i64 x0_11, .int .i64 x0_12, .slice a0_13 x0_13.length c0_13], F]) rfl rfl rfl rfl rfl rfl Try.call89 (.sel 1 rfl (.sel 1 rfl (.sel 0 rfl (.sel 0 rfl (.sel 0 rfl (.nil _)))))) (synodref1_Writer_Bytes.calls _ _ k b7v y18v.1 y18v.2 s17v.1 s17v.2 y106v.1 y106v.2 s105v.1 (1048576 : Int) (hq108v.lend 0 rfl) hq109v hq110v) hs114v) rfl rfl rfl ?_
 intro y113v
 refine simL_nil (nrm_block ?_)
 exact nrm_cut (s := (s112v.1, s112v.2)) (y113v.1, y113v.2) ⟨rfl, trivial⟩ (.sel 0 rfl (.sel 0 rfl (.sel 2 rfl (.nil _))))
 refine sim_skip ?_
 refine nrm_block ?_
 exact nrm_cut (s := (s17v.1, s17v.2)) (y18v.1, y18v.2) ⟨rfl, trivial⟩ (.sel 0 rfl (.sel 0 rfl (.sel 1 rfl (.nil _))))
 intro s20v y21v
 refine sim_seq (sim_region ?_)
 refine simL_val (q_move rfl rfl) rfl rfl rfl ?_
 refine simL_bind (fun s115v hs117v => ?_)
 refine simL_eff (re_call (vs := [.pointer (some ⟨b7v, 0, none⟩)]) (cap := []) (A := [obj b7v 143 [.slice y21v.1 s20v.1.length y21v.2, .int .i64 s20v.2], Row 5 1 y21v.1 s20v.1.length y21v.2 (encB s20v.1)]) (rst := [F]) rfl rfl rfl rfl rfl rfl Try.call80 (.sel 0 rfl (.sel 0 rfl (.sel 0 rfl (.nil _)))) (synodref1_Writer_Done_s_c0p0.calls _ _ b7v y21v.1 y21v.2 s20v.1 s20v.2 ) hs117v) rfl rfl rfl ?_
 intro y116v
 refine simL_val (q_ext rfl rfl rfl) rfl rfl rfl ?_
 refine simL_val (q_ext rfl rfl rfl) rfl rfl rfl ?_
 refine simL_val (q_asg rfl rfl) rfl rfl rfl ?_
 refine simL_val (q_asg rfl rfl) rfl rfl rfl (simL_nil (nrm_then (sim_rtn ?_)))
 exact rtn_fn (y116v.1, y116v.2) rfl rfl rfl (.sel 0 rfl (.sel 0 rfl (.nil _)))
 refine sim_seq (sim_region ?_)
 refine simL_val (q_move rfl rfl) rfl rfl rfl ?_
 refine simL_val (q_asg rfl rfl) rfl rfl rfl ?_
 refine simL_val (q_asg rfl rfl) rfl rfl rfl (simL_nil (nrm_then (sim_rtn ?_)))
 refine rtn_then ?_
 exact rtn_fn (none, 0) rfl rfl rfl (.row_nil (.sel 1 rfl (.nil _)))

def synodref3_fail.f (x0_0 : List UInt8) (x0_1 : Int) (x0_2 : Int) (x1 : Int) : Option (Int × Int) := if x0_2 = (0 : Int) then (some (x0_1, x1)) else (some (x0_1, x0_2))
theorem synodref3_fail.calls (W : World) (F : HA) (b0 : Nat) (a0_0 : Option Addr) (c0_0 : Nat) (x0_0 : List UInt8) (x0_1 : Int) (x0_2 : Int) (x1 : Int) (h0_0 : Rd F a0_0 (encB x0_0)) (hc0_0 : x0_0.length ≤ c0_0) (hm0_0 : c0_0 ≤ maxLen) :
    Fn Try.prog W 116 [.pointer (some ⟨b0, 0, none⟩), .int .i64 x1] [obj b0 152 [.slice a0_0 x0_0.length c0_0, .int .i64 x0_1, .int .i64 x0_2]] F (synodref3_fail.f x0_0 x0_1 x0_2 x1) (fun (r : Int × Int) (y : Unit) => .tuple #[]) (fun r y => [obj b0 152 [.slice a0_0 x0_0.length c0_0, .int .i64 r.1, .int .i64 r.2]]) := by
 unfold synodref3_fail.f
 refine fn_intro 13 Try.func116 rfl Try.ntmps116 rfl ?_
 refine sim_seq (sim_region ?_)
 refine simL_val (q_move rfl rfl) rfl rfl rfl ?_
 refine simL_val (q_nil rfl rfl) rfl rfl rfl ?_
 refine simL_val (q_fa rfl rfl Try.underlying152 rfl rfl Try.sizeOf3 rfl) rfl rfl rfl ?_
 refine simL_val (q_load rfl rfl Try.isAgg3 (.obj 0 rfl rfl)) rfl rfl rfl ?_
 refine simL_val (q_eql rfl rfl rfl) rfl rfl rfl (simL_nil (nrm_then ?_))
 refine sim_cond rfl (fun h1v => ?_) (fun h2v => ?_)
 refine sim_region ?_
 refine simL_val (q_move rfl rfl) rfl rfl rfl ?_
 refine simL_val (q_move rfl rfl) rfl rfl rfl ?_
 refine simL_val (q_nil rfl rfl) rfl rfl rfl ?_
 refine simL_val (q_fa rfl rfl Try.underlying152 rfl rfl Try.sizeOf3 rfl) rfl rfl rfl ?_
 refine simL_do (re_store 0 rfl rfl rfl Try.sizeOf3 rfl rfl (one_of (by rfl)) rfl rfl) rfl rfl ?_
 intro _
 refine simL_nil ?_
 exact nrm_fn () rfl rfl rfl (.sel 0 rfl (.sel 0 rfl (.nil _)))
 refine sim_skip ?_
 exact nrm_fn () rfl rfl rfl (.sel 0 rfl (.sel 0 rfl (.nil _)))
def synodref3_fail.v (x0_0 : List UInt8) (x0_1 : Int) (x0_2 : Int) (x1 : Int) : Int × Int := (synodref3_fail.f x0_0 x0_1 x0_2 x1).getD (0, 0)
theorem synodref3_fail.tot (x0_0 : List UInt8) (x0_1 : Int) (x0_2 : Int) (x1 : Int) : synodref3_fail.f x0_0 x0_1 x0_2 x1 = some (synodref3_fail.v x0_0 x0_1 x0_2 x1) := by
  have h : ∃ r, synodref3_fail.f x0_0 x0_1 x0_2 x1 = some r := by
    unfold synodref3_fail.f
    repeat' (first | exact ⟨_, rfl⟩ | split | simp only [Option.bind_some])
  obtain ⟨r, h⟩ := h
  unfold synodref3_fail.v
  rw [h]; rfl

def synodref3_entries.l0 (x0_0 : List UInt8) (s1v : Int × Int × Int) : Nat → List (Int × Int × Int × List UInt8) → Int → Int → Int → Option ((List (Int × Int × Int × List UInt8)) × Int × Int)
  | 0, _, _, _, _ => none
  | k + 1, z15v, z16v, z17v, z18v => if ((decide (z16v < s1v.1)) && (decide (z18v = (0 : Int)))) = true then ((synodref1_Reader_Bytes.f k x0_0 z17v z18v (8192 : Int)).bind fun s21v => (if s21v.2.2 = (0 : Int) then ((synodref3_GetEntry.f k s21v.1).bind fun s30v => ((synodref3_fail.f x0_0 s21v.2.1 s21v.2.2 s30v.2.2.2.2).bind fun s34v => (if (z15v.length + ([(s30v.1, s30v.2.1, s30v.2.2.1, s30v.2.2.2.1)] : List (Int × Int × Int × List UInt8)).length) * 48 ≤ 140737488355328 then (synodref3_entries.l0 x0_0 s1v k (z15v ++ ([(s30v.1, s30v.2.1, s30v.2.2.1, s30v.2.2.2.1)] : List (Int × Int × Int × List UInt8))) (IntKind.i64.wrap (z16v + 1)) s34v.1 s34v.2) else none))) else (synodref3_entries.l0 x0_0 s1v k z15v (IntKind.i64.wrap (z16v + 1)) s21v.2.1 s21v.2.2))) else (some (z15v, z17v, z18v))
def synodref3_entries.f (k : Nat) (x0_0 : List UInt8) (x0_1 : Int) (x0_2 : Int) : Option ((List (Int × Int × Int × List UInt8)) × Int × Int) := (synodref1_Reader_Int.f k x0_0 x0_1 x0_2).bind fun s1v => ((if (64 : Int) < s1v.1 then ((synodref3_fail.f x0_0 s1v.2.1 s1v.2.2 (3 : Int)).bind fun s8v => (some (s8v.1, s8v.2))) else (some (s1v.2.1, s1v.2.2))).bind fun s4v => ((synodref3_entries.l0 x0_0 s1v k ([] : List (Int × Int × Int × List UInt8)) 0 s4v.1 s4v.2).bind fun s11v => (some (s11v.1, s11v.2.1, s11v.2.2))))
theorem synodref3_entries.calls (W : World) (F : HA) (k : Nat) (b0 : Nat) (a0_0 : Option Addr) (c0_0 : Nat) (x0_0 : List UInt8) (x0_1 : Int) (x0_2 : Int) (h0_0 : Rd F a0_0 (encB x0_0)) (hc0_0 : x0_0.length ≤ c0_0) (hm0_0 : c0_0 ≤ maxLen) :
    Fn Try.prog W 118 [.pointer (some ⟨b0, 0, none⟩)] [obj b0 152 [.slice a0_0 x0_0.length c0_0, .int .i64 x0_1, .int .i64 x0_2]] F (synodref3_entries.f k x0_0 x0_1 x0_2) (fun (r : (List (Int × Int × Int × List UInt8)) × Int × Int) (y : Option Addr × Nat × HA) => .slice y.1 r.1.length y.2.1) (fun r y => [RowV 61 4 (V61 (y.2.2)) y.1 r.1 y.2.1, y.2.2, obj b0 152 [.slice a0_0 x0_0.length c0_0, .int .i64 r.2.1, .int .i64 r.2.2]]) := by
 unfold synodref3_entries.f
 refine fn_intro 47 Try.func118 rfl Try.ntmps118 rfl ?_
 refine sim_seq (sim_region ?_)
 refine simL_val (q_asg rfl rfl) rfl rfl rfl (simL_nil (nrm_then (sim_seq (sim_region ?_))))
 refine simL_val (q_move rfl rfl) rfl rfl rfl ?_
 refine simL_bind (fun s1v hs3v => ?_)
 refine simL_eff (re_call (vs := [.pointer (some ⟨b0, 0, none⟩)]) (cap := []) (A := [obj b0 152 [.slice a0_0 x0_0.length c0_0, .int .i64 x0_1, .int .i64 x0_2]]) (rst := [F]) rfl rfl rfl rfl rfl rfl Try.call85 (.sel 0 rfl (.sel 0 rfl (.nil _))) (synodref1_Reader_Int.calls _ _ k b0 a0_0 c0_0 x0_0 x0_1 x0_2 (h0_0.lend 0 rfl) hc0_0 hm0_0) hs3v) rfl rfl rfl ?_
 intro y2v
 refine simL_val (q_asg rfl rfl) rfl rfl rfl (simL_nil (nrm_then ?_))
 refine sim_cut (S := Int × Int) (Unit) (fun s y => [(0, .pointer (some ⟨b0, 0, none⟩)), (3, .int .i64 s1v.1)]) (fun s y => [obj b0 152 [.slice a0_0 x0_0.length c0_0, .int .i64 s.1, .int .i64 s.2], F]) ?_ ?_
 refine sim_seq (sim_region ?_)
 refine simL_val (q_move rfl rfl) rfl rfl rfl ?_
 refine simL_val (q_gtr rfl rfl rfl) rfl rfl rfl (simL_nil (nrm_then ?_))
 refine sim_cond rfl (fun h6v => ?_) (fun h7v => ?_)
 refine sim_region ?_
 refine simL_val (q_move rfl rfl) rfl rfl rfl ?_
 refine simL_bind (fun s8v hs10v => ?_)
 refine simL_eff (re_call (vs := [.pointer (some ⟨b0, 0, none⟩), .int .i64 3]) (cap := []) (A := [obj b0 152 [.slice a0_0 x0_0.length c0_0, .int .i64 s1v.2.1, .int .i64 s1v.2.2]]) (rst := [F]) rfl rfl rfl rfl rfl rfl Try.call116 (.sel 0 rfl (.sel 0 rfl (.nil _))) (synodref3_fail.calls _ _ b0 a0_0 c0_0 x0_0 s1v.2.1 s1v.2.2 (3 : Int) (h0_0.lend 0 rfl) hc0_0 hm0_0) hs10v) rfl rfl rfl ?_
 intro y9v
 refine simL_nil ?_
 exact nrm_cut (s := (s8v.1, s8v.2)) () ⟨rfl, rfl, trivial⟩ (.sel 0 rfl (.sel 0 rfl (.nil _)))
 refine sim_skip ?_
 exact nrm_cut (s := (s1v.2.1, s1v.2.2)) () ⟨rfl, rfl, trivial⟩ (.sel 0 rfl (.sel 0 rfl (.nil _)))
 intro s4v y5v
 refine sim_seq (sim_region ?_)
 refine simL_val (q_asg rfl rfl) rfl rfl rfl (simL_nil (nrm_then ?_))
 refine sim_cut (S := (List (Int × Int × Int × List UInt8)) × Int × Int) (HA × Option Addr × Nat) (fun s y => [(4, .slice y.2.1 s.1.length y.2.2)]) (fun s y => [obj b0 152 [.slice a0_0 x0_0.length c0_0, .int .i64 s.2.1, .int .i64 s.2.2], RowV 61 4 (V61 (y.1)) y.2.1 s.1 y.2.2, y.1, F]) ?_ ?_
 refine sim_seq (sim_region ?_)
 refine simL_val (q_asg rfl rfl) rfl rfl rfl (simL_nil (nrm_then ?_))
 refine sim_block ?_
 refine sim_loop (S := (List (Int × Int × Int × List UInt8)) × Int × Int × Int) (HA × Option Addr × Nat) (fun k s => synodref3_entries.l0 x0_0 s1v k s.1 s.2.1 s.2.2.1 s.2.2.2) (fun s y => [(0, .pointer (some ⟨b0, 0, none⟩)), (3, .int .i64 s1v.1), (4, .slice y.2.1 s.1.length y.2.2), (5, .int .i64 s.2.1)]) (fun s y => [obj b0 152 [.slice a0_0 x0_0.length c0_0, .int .i64 s.2.2.1, .int .i64 s.2.2.2], RowV 61 4 (V61 (y.1)) y.2.1 s.1 y.2.2, y.1, F]) (fun _ => by rw [synodref3_entries.l0]) ?_ k (([] : List (Int × Int × Int × List UInt8)), 0, s4v.1, s4v.2) (tt, none, 0) ⟨rfl, rfl, rfl, rfl, trivial⟩ (.sel 0 rfl (.rowV_nil (.tt_in (.sel 0 rfl (.nil _)))))
 intro k s13v y14v
 refine sim_eq (by rw [synodref3_entries.l0]) ?_
 refine sim_seq (sim_seq (sim_region ?_))
 refine simL_val (q_move rfl rfl) rfl rfl rfl ?_
 refine simL_val (q_move rfl rfl) rfl rfl rfl ?_
 refine simL_val (q_lss rfl rfl rfl) rfl rfl rfl ?_
 refine simL_val (q_move rfl rfl) rfl rfl rfl ?_
 refine simL_valc (b := decide (s13v.2.1 < s1v.1)) (fun hb55v => RQ.sub (E' := [(0, .pointer (some ⟨b0, 0, none⟩))]) ⟨rfl, trivial⟩ (q_move rfl rfl)) rfl rfl rfl rfl rfl ?_
 refine simL_valc (b := decide (s13v.2.1 < s1v.1)) (fun hb54v => RQ.sub (E' := [(19, .pointer (some ⟨b0, 0, none⟩))]) ⟨lk_cv rfl hb54v, trivial⟩ (q_nil rfl rfl)) rfl rfl rfl rfl rfl ?_
 refine simL_valc (b := decide (s13v.2.1 < s1v.1)) (fun hb53v => RQ.sub (E' := [(20, .pointer (some ⟨b0, 0, none⟩))]) ⟨lk_cv rfl hb53v, trivial⟩ (q_fa rfl rfl Try.underlying152 rfl rfl Try.sizeOf3 rfl)) rfl rfl rfl rfl rfl ?_
 refine simL_valc (b := decide (s13v.2.1 < s1v.1)) (fun hb52v => RQ.sub (E' := [(21, .pointer (some ⟨b0, 2, none⟩))]) ⟨lk_cv rfl hb52v, trivial⟩ (q_load rfl rfl Try.isAgg3 (.obj 0 rfl rfl))) rfl rfl rfl rfl rfl ?_
 refine simL_valc (b := decide (s13v.2.1 < s1v.1)) (fun hb51v => RQ.sub (E' := [(22, .int .i64 s13v.2.2.2)]) ⟨lk_cv rfl hb51v, trivial⟩ (q_eql rfl rfl rfl)) rfl rfl rfl rfl rfl ?_
 refine simL_val (q_and rfl rfl rfl) rfl rfl rfl (simL_nil (nrm_then ?_))
 refine sim_condb rfl (fun h19v => ?_) (fun h20v => ?_)
 refine sim_skip ?_
 refine nrm_then (sim_seq ?_)
 refine sim_block ?_
 refine sim_seq (sim_region ?_)
 refine simL_val (q_move rfl rfl) rfl rfl rfl ?_
 refine simL_bind (fun s21v hs23v => ?_)
 refine simL_eff (re_call (vs := [.pointer (some ⟨b0, 0, none⟩), .int .i64 8192]) (cap := []) (A := [obj b0 152 [.slice a0_0 x0_0.length c0_0, .int .i64 s13v.2.2.1, .int .i64 s13v.2.2.2]]) (rst := [RowV 61 4 (V61 (y14v.1)) y14v.2.1 s13v.1 y14v.2.2, y14v.1, F]) rfl rfl rfl rfl rfl rfl Try.call92 (.sel 0 rfl (.sel 0 rfl (.sel 0 rfl (.sel 0 rfl (.nil _))))) (synodref1_Reader_Bytes.calls _ _ k b0 a0_0 c0_0 x0_0 s13v.2.2.1 s13v.2.2.2 (8192 : Int) (h0_0.lend 2 rfl) hc0_0 hm0_0) hs23v) rfl rfl rfl ?_
 intro y22v
 refine simL_val (q_asg rfl rfl) rfl rfl rfl (simL_nil (nrm_then (sim_seq (sim_region ?_))))
 refine simL_val (q_move rfl rfl) rfl rfl rfl ?_
 refine simL_val (q_nil rfl rfl) rfl rfl rfl ?_
 refine simL_val (q_fa rfl rfl Try.underlying152 rfl rfl Try.sizeOf3 rfl) rfl rfl rfl ?_
 refine simL_val (q_load rfl rfl Try.isAgg3 (.obj 1 rfl rfl)) rfl rfl rfl ?_
 refine simL_val (q_eql rfl rfl rfl) rfl rfl rfl (simL_nil (nrm_then ?_))
 refine sim_cond rfl (fun h24v => ?_) (fun h25v => ?_)
 refine sim_seq (sim_region ?_)
 refine simL_val (q_move rfl rfl) rfl rfl rfl ?_
 refine simL_bind (fun s30v hs32v => ?_)
 refine simL_lend 0 rfl (fun hq26v hq27v hq28v hq29v => ?_)
 refine simL_eff (re_call (vs := [.slice y22v.1 s21v.1.length y22v.2]) (cap := []) (A := []) (rst := [Row 5 1 y22v.1 s21v.1.length y22v.2 (encB s21v.1), obj b0 152 [.slice a0_0 x0_0.length c0_0, .int .i64 s21v.2.1, .int .i64 s21v.2.2], RowV 61 4 (V61 (y14v.1)) y14v.2.1 s13v.1 y14v.2.2, y14v.1, F]) rfl rfl rfl rfl rfl rfl Try.call37 (.sel 0 rfl (.sel 0 rfl (.sel 0 rfl (.sel 0 rfl (.sel 0 rfl (.nil _)))))) (synodref3_GetEntry.calls _ _ k y22v.1 y22v.2 s21v.1 (hq26v.lend 0 rfl) hq27v hq28v) hs32v) rfl rfl rfl ?_
 intro y31v
 refine simL_val (q_move rfl rfl) rfl rfl rfl ?_
 refine simL_val (q_ext rfl rfl rfl) rfl rfl rfl ?_
 refine simL_val (q_ext rfl rfl rfl) rfl rfl rfl ?_
 refine simL_eff (re_alloc rfl Try.zeroValue61 rfl) rfl rfl rfl ?_
 intro b33v
 refine simL_do (re_store 0 rfl rfl rfl Try.sizeOf61 rfl rfl (one_of (by rfl)) rfl rfl) rfl rfl ?_
 intro _
 refine simL_val (q_asg rfl rfl) rfl rfl rfl (simL_nil (nrm_then (sim_seq (sim_region ?_))))
 refine simL_val (q_move rfl rfl) rfl rfl rfl ?_
 refine simL_val (q_move rfl rfl) rfl rfl rfl ?_
 refine simL_bind (fun s34v hs36v => ?_)
 refine simL_eff (re_call (vs := [.pointer (some ⟨b0, 0, none⟩), .int .i64 s30v.2.2.2.2]) (cap := []) (A := [obj b0 152 [.slice a0_0 x0_0.length c0_0, .int .i64 s21v.2.1, .int .i64 s21v.2.2]]) (rst := [obj b33v 61 [.int .i64 s30v.1, .int .i64 s30v.2.1, .int .i64 s30v.2.2.1, .slice y31v.1 s30v.2.2.2.1.length y31v.2], Row 5 1 y31v.1 s30v.2.2.2.1.length y31v.2 (encB s30v.2.2.2.1), Row 5 1 y22v.1 s21v.1.length y22v.2 (encB s21v.1), RowV 61 4 (V61 (y14v.1)) y14v.2.1 s13v.1 y14v.2.2, y14v.1, F]) rfl rfl rfl rfl rfl rfl Try.call116 (.sel 3 rfl (.sel 0 rfl (.sel 0 rfl (.sel 0 rfl (.sel 0 rfl (.sel 0 rfl (.sel 0 rfl (.nil _)))))))) (synodref3_fail.calls _ _ b0 a0_0 c0_0 x0_0 s21v.2.1 s21v.2.2 s30v.2.2.2.2 (h0_0.lend 5 rfl) hc0_0 hm0_0) hs36v) rfl rfl rfl ?_
 intro y35v
 refine simL_nil (nrm_then (sim_region ?_))
 refine simL_val (q_move rfl rfl) rfl rfl rfl ?_
 refine simL_val (q_loado 1 rfl rfl Try.isAgg61 Try.sizeOf61 rfl rfl) rfl rfl rfl ?_
 refine simL_lend 2 rfl (fun hq38v hq39v hq40v hq41v => ?_)
 have hlb42v : ListV 4 (V61 (Row 5 1 y31v.1 s30v.2.2.2.1.length y31v.2 (encB s30v.2.2.2.1))) ([(s30v.1, s30v.2.1, s30v.2.2.1, s30v.2.2.2.1)] : List (Int × Int × Int × List UInt8)) [[.int .i64 s30v.1, .int .i64 s30v.2.1, .int .i64 s30v.2.2.1, .slice y31v.1 s30v.2.2.2.1.length y31v.2]] := ⟨⟨rfl, one_of (by rfl), ⟨y31v.1, y31v.2, rfl, ⟨hq38v, hq39v, hq40v⟩⟩⟩, trivial⟩
 refine simL_eff (re_litV (V := (V61 (Row 5 1 y31v.1 s30v.2.2.2.1.length y31v.2 (encB s30v.2.2.2.1)))) (xs := ([(s30v.1, s30v.2.1, s30v.2.2.1, s30v.2.2.2.1)] : List (Int × Int × Int × List UInt8))) [[.int .i64 s30v.1, .int .i64 s30v.2.1, .int .i64 s30v.2.2.1, .slice y31v.1 s30v.2.2.2.1.length y31v.2]] rfl rfl Try.underlying26 elt61 rfl (by kernel_rfl) rfl hlb42v rfl rfl) rfl rfl rfl ?_
 intro b42v
 refine simL_openV 5 rfl (fun rs47v hl48v => ?_)
 refine simL_ent (H' := [stars [Row 5 1 y31v.1 s30v.2.2.2.1.length y31v.2 (encB s30v.2.2.2.1), y14v.1], Row 61 4 (some ⟨b42v, 0, none⟩) ([(s30v.1, s30v.2.1, s30v.2.2.1, s30v.2.2.2.1)] : List (Int × Int × Int × List UInt8)).length 1 [[.int .i64 s30v.1, .int .i64 s30v.2.1, .int .i64 s30v.2.2.1, .slice y31v.1 s30v.2.2.2.1.length y31v.2]].flatten, obj b0 152 [.slice a0_0 x0_0.length c0_0, .int .i64 s34v.1, .int .i64 s34v.2], obj b33v 61 [.int .i64 s30v.1, .int .i64 s30v.2.1, .int .i64 s30v.2.2.1, .slice y31v.1 s30v.2.2.2.1.length y31v.2], Row 5 1 y22v.1 s21v.1.length y22v.2 (encB s21v.1), Row 61 4 y14v.2.1 s13v.1.length y14v.2.2 rs47v.flatten, F]) (Ent.trans (m := [Row 5 1 y31v.1 s30v.2.2.2.1.length y31v.2 (encB s30v.2.2.2.1), y14v.1, Row 61 4 (some ⟨b42v, 0, none⟩) ([(s30v.1, s30v.2.1, s30v.2.2.1, s30v.2.2.2.1)] : List (Int × Int × Int × List UInt8)).length 1 [[.int .i64 s30v.1, .int .i64 s30v.2.1, .int .i64 s30v.2.2.1, .slice y31v.1 s30v.2.2.2.1.length y31v.2]].flatten, obj b0 152 [.slice a0_0 x0_0.length c0_0, .int .i64 s34v.1, .int .i64 s34v.2], obj b33v 61 [.int .i64 s30v.1, .int .i64 s30v.2.1, .int .i64 s30v.2.2.1, .slice y31v.1 s30v.2.2.2.1.length y31v.2], Row 5 1 y22v.1 s21v.1.length y22v.2 (encB s21v.1), Row 61 4 y14v.2.1 s13v.1.length y14v.2.2 rs47v.flatten, F]) (.sel 3 rfl (.sel 5 rfl (.sel 0 rfl (.sel 0 rfl (.sel 0 rfl (.sel 0 rfl (.sel 0 rfl (.sel 0 rfl (.nil _))))))))) (ent_pack [Row 5 1 y31v.1 s30v.2.2.2.1.length y31v.2 (encB s30v.2.2.2.1), y14v.1] _)) ?_
 refine simL_ask (fun hb50v => ?_)
 refine simL_eff (re_appendV 5 rfl rfl rfl Try.underlying26 elt61 rfl (hl48v.mono (V61.up (Up.lend (l := [Row 5 1 y31v.1 s30v.2.2.2.1.length y31v.2 (encB s30v.2.2.2.1), y14v.1]) 1 rfl))) (RdsV.row (hlb42v.mono (V61.up (Up.lend (l := [Row 5 1 y31v.1 s30v.2.2.2.1.length y31v.2 (encB s30v.2.2.2.1), y14v.1]) 0 rfl))) 1 rfl) hb50v) rfl rfl rfl ?_
 intro y49v
 refine simL_val (q_asg rfl rfl) rfl rfl rfl (simL_nil (nrm_block (nrm_then (sim_region ?_))))
 refine simL_val (q_move rfl rfl) rfl rfl rfl ?_
 refine simL_val (q_add rfl rfl rfl) rfl rfl rfl ?_
 refine simL_val (q_asg rfl rfl) rfl rfl rfl (simL_nil ?_)
 exact nrm_again (s := (s13v.1 ++ ([(s30v.1, s30v.2.1, s30v.2.2.1, s30v.2.2.2.1)] : List (Int × Int × Int × List UInt8)), IntKind.i64.wrap (s13v.2.1 + 1), s34v.1, s34v.2)) (stars [Row 5 1 y31v.1 s30v.2.2.2.1.length y31v.2 (encB s30v.2.2.2.1), y14v.1], y49v.1, y49v.2) ⟨rfl, rfl, rfl, rfl, trivial⟩ (.sel 2 rfl (.sel 4 rfl (.sel 0 rfl (.sel 3 rfl (.nil _)))))
 refine sim_skip ?_
 refine nrm_block (nrm_then (sim_region ?_))
 refine simL_val (q_move rfl rfl) rfl rfl rfl ?_
 refine simL_val (q_add rfl rfl rfl) rfl rfl rfl ?_
 refine simL_val (q_asg rfl rfl) rfl rfl rfl (simL_nil ?_)
 exact nrm_again (s := (s13v.1, IntKind.i64.wrap (s13v.2.1 + 1), s21v.2.1, s21v.2.2)) (y14v.1, y14v.2.1, y14v.2.2) ⟨rfl, rfl, rfl, rfl, trivial⟩ (.sel 1 rfl (.sel 1 rfl (.sel 1 rfl (.sel 1 rfl (.nil _)))))
 refine sim_exi ?_
 refine exi_then ?_
 refine exi_loop ?_
 refine exi_here ?_
 exact nrm_cut (s := (s13v.1, s13v.2.2.1, s13v.2.2.2)) (y14v.1, y14v.2.1, y14v.2.2) ⟨rfl, trivial⟩ (.sel 0 rfl (.sel 0 rfl (.sel 0 rfl (.sel 0 rfl (.nil _)))))
 intro s11v y12v
 refine sim_seq (sim_region ?_)
 refine simL_val (q_move rfl rfl) rfl rfl rfl ?_
 refine simL_val (q_asg rfl rfl) rfl rfl rfl (simL_nil (nrm_then (sim_rtn ?_)))
 exact rtn_fn (y12v.2.1, y12v.2.2, y12v.1) rfl rfl rfl (.sel 1 rfl (.sel 1 rfl (.sel 0 rfl (.sel 0 rfl (.nil _)))))
end Go.Proofs.Ytdoghfenhoigmaa

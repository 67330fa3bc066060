/- Printed by gen.py: pure functions and the proofs that the Go functions simulate them. Conditions: as each theorem says. -/
import Derived.Test.YtdoghfenhoigmaaG3
namespace Go.Proofs.Ytdoghfenhoigmaa
open Go.RowKit
set_option linter.unusedVariables false
set_option maxRecDepth 20000
set_option maxHeartbeats 2000000
def synodref_SameEntry.f (k : Nat) (x0_0 : Int) (x0_1 : Int) (x0_2 : Int) (x0_3 : List UInt8) (x1_0 : Int) (x1_1 : Int) (x1_2 : Int) (x1_3 : List UInt8) : Option (Bool) := (synodref_SameBytes.f k x0_3 x1_3).bind fun s3v => (some (((s3v && (decide (x0_0 = x1_0))) && (decide (x0_1 = x1_1))) && (decide (x0_2 = x1_2))))
theorem synodref_SameEntry.calls (W : World) (F : HA) (k : Nat) (x0_0 : Int) (x0_1 : Int) (x0_2 : Int) (a0_3 : Option Addr) (c0_3 : Nat) (x0_3 : List UInt8) (x1_0 : Int) (x1_1 : Int) (x1_2 : Int) (a1_3 : Option Addr) (c1_3 : Nat) (x1_3 : List UInt8) (h0_3 : Rd F a0_3 (encB x0_3)) (hc0_3 : x0_3.length ≤ c0_3) (hm0_3 : c0_3 ≤ maxLen) (h1_3 : Rd F a1_3 (encB x1_3)) (hc1_3 : x1_3.length ≤ c1_3) (hm1_3 : c1_3 ≤ maxLen) :
    Fn Try.prog W 38 [.agg #[.int .i64 x0_0, .int .i64 x0_1, .int .i64 x0_2, .slice a0_3 x0_3.length c0_3], .agg #[.int .i64 x1_0, .int .i64 x1_1, .int .i64 x1_2, .slice a1_3 x1_3.length c1_3]] [] F (synodref_SameEntry.f k x0_0 x0_1 x0_2 x0_3 x1_0 x1_1 x1_2 x1_3) (fun (r : Bool) (y : Unit) => .bool r) (fun r y => []) := by
 unfold synodref_SameEntry.f
 refine fn_intro 33 Try.func38 rfl Try.ntmps38 rfl ?_
 refine sim_seq ?_
 refine sim_region ?_
 refine simL_eff (re_box rfl rfl rfl) rfl rfl rfl ?_
 intro b1v
 refine simL_eff (re_box rfl rfl rfl) rfl rfl rfl ?_
 intro b2v
 refine simL_val (q_asg rfl rfl) rfl rfl rfl ?_
 refine simL_nil ?_
 refine nrm_then ?_
 refine sim_seq ?_
 refine sim_region ?_
 refine simL_val (q_fa rfl rfl Try.underlying61 rfl rfl Try.sizeOf27 rfl) rfl rfl rfl ?_
 refine simL_val (q_load rfl rfl Try.isAgg27 (.obj 1 rfl rfl)) rfl rfl rfl ?_
 refine simL_val (q_fa rfl rfl Try.underlying61 rfl rfl Try.sizeOf27 rfl) rfl rfl rfl ?_
 refine simL_val (q_load rfl rfl Try.isAgg27 (.obj 0 rfl rfl)) rfl rfl rfl ?_
 refine simL_bind (fun s3v hs5v => ?_)
 refine simL_eff (re_call (vs := [.slice a0_3 x0_3.length c0_3, .slice a1_3 x1_3.length c1_3]) (cap := []) (A := []) (rst := [obj b2v 61 [.int .i64 x1_0, .int .i64 x1_1, .int .i64 x1_2, .slice a1_3 x1_3.length c1_3], obj b1v 61 [.int .i64 x0_0, .int .i64 x0_1, .int .i64 x0_2, .slice a0_3 x0_3.length c0_3], F]) rfl rfl rfl rfl rfl rfl Try.call25 (.sel 0 rfl (.sel 0 rfl (.sel 0 rfl (.nil _)))) (synodref_SameBytes.calls _ _ k a0_3 c0_3 x0_3 a1_3 c1_3 x1_3 (h0_3.lend 2 rfl) hc0_3 hm0_3 (h1_3.lend 2 rfl) hc1_3 hm1_3) hs5v) rfl rfl rfl ?_
 intro y4v
 refine simL_val (q_asg rfl rfl) rfl rfl rfl ?_
 refine simL_nil ?_
 refine nrm_then ?_
 refine sim_seq ?_
 refine sim_region ?_
 refine simL_val (q_move rfl rfl) rfl rfl rfl ?_
 refine simL_val (q_move rfl rfl) rfl rfl rfl ?_
 refine simL_valc (b := s3v) (fun hb20v => RQ.sub (E' := [(2, .pointer (some ⟨b1v, 0, none⟩))]) ⟨rfl, trivial⟩ (q_fa rfl rfl Try.underlying61 rfl rfl Try.sizeOf3 rfl)) rfl rfl rfl rfl rfl ?_
 refine simL_valc (b := s3v) (fun hb19v => RQ.sub (E' := [(13, .pointer (some ⟨b1v, 0, none⟩))]) ⟨lk_cv rfl hb19v, trivial⟩ (q_load rfl rfl Try.isAgg3 (.obj 1 rfl rfl))) rfl rfl rfl rfl rfl ?_
 refine simL_valc (b := s3v) (fun hb18v => RQ.sub (E' := [(3, .pointer (some ⟨b2v, 0, none⟩))]) ⟨rfl, trivial⟩ (q_fa rfl rfl Try.underlying61 rfl rfl Try.sizeOf3 rfl)) rfl rfl rfl rfl rfl ?_
 refine simL_valc (b := s3v) (fun hb17v => RQ.sub (E' := [(15, .pointer (some ⟨b2v, 0, none⟩))]) ⟨lk_cv rfl hb17v, trivial⟩ (q_load rfl rfl Try.isAgg3 (.obj 0 rfl rfl))) rfl rfl rfl rfl rfl ?_
 refine simL_valc (b := s3v) (fun hb16v => RQ.sub (E' := [(14, .int .i64 x0_0), (16, .int .i64 x1_0)]) ⟨lk_cv rfl hb16v, lk_cv rfl hb16v, trivial⟩ (q_eql rfl rfl rfl)) rfl rfl rfl rfl rfl ?_
 refine simL_val (q_and rfl rfl rfl) rfl rfl rfl ?_
 refine simL_val (q_move rfl rfl) rfl rfl rfl ?_
 refine simL_valc (b := s3v && (decide (x0_0 = x1_0))) (fun hb15v => RQ.sub (E' := [(2, .pointer (some ⟨b1v, 0, none⟩))]) ⟨rfl, trivial⟩ (q_fa rfl rfl Try.underlying61 rfl rfl Try.sizeOf3 rfl)) rfl rfl rfl rfl rfl ?_
 refine simL_valc (b := s3v && (decide (x0_0 = x1_0))) (fun hb14v => RQ.sub (E' := [(20, .pointer (some ⟨b1v, 1, none⟩))]) ⟨lk_cv rfl hb14v, trivial⟩ (q_load rfl rfl Try.isAgg3 (.obj 1 rfl rfl))) rfl rfl rfl rfl rfl ?_
 refine simL_valc (b := s3v && (decide (x0_0 = x1_0))) (fun hb13v => RQ.sub (E' := [(3, .pointer (some ⟨b2v, 0, none⟩))]) ⟨rfl, trivial⟩ (q_fa rfl rfl Try.underlying61 rfl rfl Try.sizeOf3 rfl)) rfl rfl rfl rfl rfl ?_
 refine simL_valc (b := s3v && (decide (x0_0 = x1_0))) (fun hb12v => RQ.sub (E' := [(22, .pointer (some ⟨b2v, 1, none⟩))]) ⟨lk_cv rfl hb12v, trivial⟩ (q_load rfl rfl Try.isAgg3 (.obj 0 rfl rfl))) rfl rfl rfl rfl rfl ?_
 refine simL_valc (b := s3v && (decide (x0_0 = x1_0))) (fun hb11v => RQ.sub (E' := [(21, .int .i64 x0_1), (23, .int .i64 x1_1)]) ⟨lk_cv rfl hb11v, lk_cv rfl hb11v, trivial⟩ (q_eql rfl rfl rfl)) rfl rfl rfl rfl rfl ?_
 refine simL_val (q_and rfl rfl rfl) rfl rfl rfl ?_
 refine simL_val (q_move rfl rfl) rfl rfl rfl ?_
 refine simL_valc (b := (s3v && (decide (x0_0 = x1_0))) && (decide (x0_1 = x1_1))) (fun hb10v => RQ.sub (E' := [(2, .pointer (some ⟨b1v, 0, none⟩))]) ⟨rfl, trivial⟩ (q_fa rfl rfl Try.underlying61 rfl rfl Try.sizeOf3 rfl)) rfl rfl rfl rfl rfl ?_
 refine simL_valc (b := (s3v && (decide (x0_0 = x1_0))) && (decide (x0_1 = x1_1))) (fun hb9v => RQ.sub (E' := [(27, .pointer (some ⟨b1v, 2, none⟩))]) ⟨lk_cv rfl hb9v, trivial⟩ (q_load rfl rfl Try.isAgg3 (.obj 1 rfl rfl))) rfl rfl rfl rfl rfl ?_
 refine simL_valc (b := (s3v && (decide (x0_0 = x1_0))) && (decide (x0_1 = x1_1))) (fun hb8v => RQ.sub (E' := [(3, .pointer (some ⟨b2v, 0, none⟩))]) ⟨rfl, trivial⟩ (q_fa rfl rfl Try.underlying61 rfl rfl Try.sizeOf3 rfl)) rfl rfl rfl rfl rfl ?_
 refine simL_valc (b := (s3v && (decide (x0_0 = x1_0))) && (decide (x0_1 = x1_1))) (fun hb7v => RQ.sub (E' := [(29, .pointer (some ⟨b2v, 2, none⟩))]) ⟨lk_cv rfl hb7v, trivial⟩ (q_load rfl rfl Try.isAgg3 (.obj 0 rfl rfl))) rfl rfl rfl rfl rfl ?_
 refine simL_valc (b := (s3v && (decide (x0_0 = x1_0))) && (decide (x0_1 = x1_1))) (fun hb6v => RQ.sub (E' := [(28, .int .i64 x0_2), (30, .int .i64 x1_2)]) ⟨lk_cv rfl hb6v, lk_cv rfl hb6v, trivial⟩ (q_eql rfl rfl rfl)) rfl rfl rfl rfl rfl ?_
 refine simL_val (q_and rfl rfl rfl) rfl rfl rfl ?_
 refine simL_val (q_asg rfl rfl) rfl rfl rfl ?_
 refine simL_nil ?_
 refine nrm_then ?_
 refine sim_rtn ?_
 exact rtn_fn () rfl rfl rfl (.sel 2 rfl (.nil _))
end Go.Proofs.Ytdoghfenhoigmaa

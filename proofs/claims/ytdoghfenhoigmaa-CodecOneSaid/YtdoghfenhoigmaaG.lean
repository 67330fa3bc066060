/- Printed by gen.py: pure functions and the proofs that the Go functions simulate them. Conditions: as each theorem says. -/
import Derived.Test.YtdoghfenhoigmaaG4
namespace Go.Proofs.Ytdoghfenhoigmaa
open Go.RowKit
set_option linter.unusedVariables false
set_option maxRecDepth 20000
set_option maxHeartbeats 2000000
def synodref3_None.f (x0_0 : Int) (x0_1 : Int) (x0_2 : List UInt8) : Option (Bool) := some (((decide (x0_0 = (0 : Int))) && (decide (x0_1 = (0 : Int)))) && (decide ((x0_2.length : Int) = (0 : Int))))
theorem synodref3_None.calls (W : World) (F : HA) (x0_0 : Int) (x0_1 : Int) (a0_2 : Option Addr) (c0_2 : Nat) (x0_2 : List UInt8) (h0_2 : Rd F a0_2 (encB x0_2)) (hc0_2 : x0_2.length ≤ c0_2) (hm0_2 : c0_2 ≤ maxLen) :
    Fn Try.prog W 74 [.agg #[.int .i64 x0_0, .int .i64 x0_1, .slice a0_2 x0_2.length c0_2]] [] F (synodref3_None.f x0_0 x0_1 x0_2) (fun (r : Bool) (y : Unit) => .bool r) (fun r y => []) := by
 unfold synodref3_None.f
 refine fn_intro 17 Try.func74 rfl Try.ntmps74 rfl ?_
 refine sim_seq (sim_region ?_)
 refine simL_eff (re_box rfl rfl rfl) rfl rfl rfl ?_
 intro b1v
 refine simL_val (q_asg rfl rfl) rfl rfl rfl (simL_nil (nrm_then (sim_seq (sim_region ?_))))
 refine simL_val (q_fa rfl rfl Try.underlying29 rfl rfl Try.sizeOf3 rfl) rfl rfl rfl ?_
 refine simL_val (q_load rfl rfl Try.isAgg3 (.obj 0 rfl rfl)) rfl rfl rfl ?_
 refine simL_val (q_eql rfl rfl rfl) rfl rfl rfl ?_
 refine simL_val (q_move rfl rfl) rfl rfl rfl ?_
 refine simL_valc (b := decide (x0_0 = (0 : Int))) (fun hb8v => RQ.sub (E' := [(1, .pointer (some ⟨b1v, 0, none⟩))]) ⟨rfl, trivial⟩ (q_fa rfl rfl Try.underlying29 rfl rfl Try.sizeOf3 rfl)) rfl rfl rfl rfl rfl ?_
 refine simL_valc (b := decide (x0_0 = (0 : Int))) (fun hb7v => RQ.sub (E' := [(7, .pointer (some ⟨b1v, 1, none⟩))]) ⟨lk_cv rfl hb7v, trivial⟩ (q_load rfl rfl Try.isAgg3 (.obj 0 rfl rfl))) rfl rfl rfl rfl rfl ?_
 refine simL_valc (b := decide (x0_0 = (0 : Int))) (fun hb6v => RQ.sub (E' := [(8, .int .i64 x0_1)]) ⟨lk_cv rfl hb6v, trivial⟩ (q_eql rfl rfl rfl)) rfl rfl rfl rfl rfl ?_
 refine simL_val (q_and rfl rfl rfl) rfl rfl rfl ?_
 refine simL_val (q_move rfl rfl) rfl rfl rfl ?_
 refine simL_valc (b := (decide (x0_0 = (0 : Int))) && (decide (x0_1 = (0 : Int)))) (fun hb5v => RQ.sub (E' := [(1, .pointer (some ⟨b1v, 0, none⟩))]) ⟨rfl, trivial⟩ (q_fa rfl rfl Try.underlying29 rfl rfl Try.sizeOf27 rfl)) rfl rfl rfl rfl rfl ?_
 refine simL_valc (b := (decide (x0_0 = (0 : Int))) && (decide (x0_1 = (0 : Int)))) (fun hb4v => RQ.sub (E' := [(12, .pointer (some ⟨b1v, 2, none⟩))]) ⟨lk_cv rfl hb4v, trivial⟩ (q_load rfl rfl Try.isAgg27 (.obj 0 rfl rfl))) rfl rfl rfl rfl rfl ?_
 refine simL_valc (b := (decide (x0_0 = (0 : Int))) && (decide (x0_1 = (0 : Int)))) (fun hb3v => RQ.sub (E' := [(13, .slice a0_2 x0_2.length c0_2)]) ⟨lk_cv rfl hb3v, trivial⟩ (q_len rfl rfl rfl Try.underlying27)) rfl rfl rfl rfl rfl ?_
 refine simL_valc (b := (decide (x0_0 = (0 : Int))) && (decide (x0_1 = (0 : Int)))) (fun hb2v => RQ.sub (E' := [(14, .int .i64 (x0_2.length : Int))]) ⟨lk_cv rfl hb2v, trivial⟩ (q_eql rfl rfl rfl)) rfl rfl rfl rfl rfl ?_
 refine simL_val (q_and rfl rfl rfl) rfl rfl rfl ?_
 refine simL_val (q_asg rfl rfl) rfl rfl rfl (simL_nil (nrm_then (sim_rtn ?_)))
 exact rtn_fn () rfl rfl rfl (.sel 1 rfl (.nil _))
def synodref3_None.v (x0_0 : Int) (x0_1 : Int) (x0_2 : List UInt8) : Bool := (synodref3_None.f x0_0 x0_1 x0_2).getD false
theorem synodref3_None.tot (x0_0 : Int) (x0_1 : Int) (x0_2 : List UInt8) : synodref3_None.f x0_0 x0_1 x0_2 = some (synodref3_None.v x0_0 x0_1 x0_2) := by
  have h : ∃ r, synodref3_None.f x0_0 x0_1 x0_2 = some r := by
    unfold synodref3_None.f
    repeat' (first | exact ⟨_, rfl⟩ | split | simp only [Option.bind_some])
  obtain ⟨r, h⟩ := h
  unfold synodref3_None.v
  rw [h]; rfl

def synodref3_CheckSnap.f (x0_0 : Int) (x0_1 : Int) (x0_2 : List UInt8) : Option (Int) := (synodref3_None.f x0_0 x0_1 x0_2).bind fun s2v => (if s2v = true then (some 0) else ((synodref3_within.f x0_0 (1 : Int) (4611686018427387904 : Int)).bind fun s7v => ((if (!s7v) = true then (some true) else ((synodref3_within.f x0_1 (1 : Int) (4611686018427387904 : Int)).bind fun s12v => (some (!s12v)))).bind fun s10v => (if s10v = true then (some 1) else (if (524288 : Int) < (x0_2.length : Int) then (some 3) else (some 0))))))
theorem synodref3_CheckSnap.calls (W : World) (F : HA) (x0_0 : Int) (x0_1 : Int) (a0_2 : Option Addr) (c0_2 : Nat) (x0_2 : List UInt8) (h0_2 : Rd F a0_2 (encB x0_2)) (hc0_2 : x0_2.length ≤ c0_2) (hm0_2 : c0_2 ≤ maxLen) :
    Fn Try.prog W 42 [.agg #[.int .i64 x0_0, .int .i64 x0_1, .slice a0_2 x0_2.length c0_2]] [] F (synodref3_CheckSnap.f x0_0 x0_1 x0_2) (fun (r : Int) (y : Unit) => .int .i64 r) (fun r y => []) := by
 unfold synodref3_CheckSnap.f
 refine fn_intro 19 Try.func42 rfl Try.ntmps42 rfl ?_
 refine sim_seq (sim_region ?_)
 refine simL_eff (re_box rfl rfl rfl) rfl rfl rfl ?_
 intro b1v
 refine simL_val (q_asg rfl rfl) rfl rfl rfl (simL_nil (nrm_then (sim_seq (sim_seq (sim_region ?_)))))
 refine simL_val (q_loado 0 rfl rfl Try.isAgg29 Try.sizeOf29 rfl rfl) rfl rfl rfl ?_
 refine simL_bind (fun s2v hs4v => ?_)
 refine simL_eff (re_call (vs := [.agg #[.int .i64 x0_0, .int .i64 x0_1, .slice a0_2 x0_2.length c0_2]]) (cap := []) (A := []) (rst := [obj b1v 29 [.int .i64 x0_0, .int .i64 x0_1, .slice a0_2 x0_2.length c0_2], F]) rfl rfl rfl rfl rfl rfl Try.call74 (.sel 0 rfl (.sel 0 rfl (.nil _))) (synodref3_None.calls _ _ x0_0 x0_1 a0_2 c0_2 x0_2 (h0_2.lend 1 rfl) hc0_2 hm0_2) hs4v) rfl rfl rfl ?_
 intro y3v
 refine simL_nil (nrm_then ?_)
 refine sim_condb rfl (fun h5v => ?_) (fun h6v => ?_)
 refine sim_seq (sim_region ?_)
 refine simL_val (q_asg rfl rfl) rfl rfl rfl (simL_nil (nrm_then (sim_rtn ?_)))
 refine rtn_then ?_
 exact rtn_fn () rfl rfl rfl (.sel 1 rfl (.nil _))
 refine sim_skip ?_
 refine nrm_then (sim_seq (sim_seq (sim_region ?_)))
 refine simL_val (q_fa rfl rfl Try.underlying29 rfl rfl Try.sizeOf3 rfl) rfl rfl rfl ?_
 refine simL_val (q_load rfl rfl Try.isAgg3 (.obj 0 rfl rfl)) rfl rfl rfl ?_
 refine simL_bind (fun s7v hs9v => ?_)
 refine simL_eff (re_call (vs := [.int .i64 x0_0, .int .i64 1, .int .i64 4611686018427387904]) (cap := []) (A := []) (rst := [obj b1v 29 [.int .i64 x0_0, .int .i64 x0_1, .slice a0_2 x0_2.length c0_2], F]) rfl rfl rfl rfl rfl rfl Try.call69 (.sel 0 rfl (.sel 0 rfl (.nil _))) (synodref3_within.calls _ _ x0_0 (1 : Int) (4611686018427387904 : Int) ) hs9v) rfl rfl rfl ?_
 intro y8v
 refine simL_val (q_not rfl rfl) rfl rfl rfl ?_
 refine simL_val (q_move rfl rfl) rfl rfl rfl ?_
 refine simL_cut' 5 (S := Bool) (Unit) (fun s y => [(1, .pointer (some ⟨b1v, 0, none⟩)), (14, .bool s)]) (fun s y => [obj b1v 29 [.int .i64 x0_0, .int .i64 x0_1, .slice a0_2 x0_2.length c0_2], F]) ?_ ?_
 refine simL_caseb (fun hb15v => ?_) (fun hb16v => ?_)
 rw [hb15v]
 refine simL_skipd rfl rfl rfl rfl rfl rfl ?_
 refine simL_skipd rfl rfl rfl rfl rfl rfl ?_
 refine simL_skipd rfl rfl rfl rfl rfl rfl ?_
 refine simL_skipd rfl rfl rfl rfl rfl rfl ?_
 refine simL_val (q_pick rfl rfl rfl rfl rfl) rfl rfl rfl (simL_nil ?_)
 exact nrm_cut (s := true) () ⟨rfl, rfl, trivial⟩ (.sel 0 rfl (.sel 0 rfl (.nil _)))
 rw [hb16v]
 refine simL_valg (q_fa rfl rfl Try.underlying29 rfl rfl Try.sizeOf3 rfl) rfl rfl rfl rfl rfl rfl ?_
 refine simL_valg (q_load rfl rfl Try.isAgg3 (.obj 0 rfl rfl)) rfl rfl rfl rfl rfl rfl ?_
 refine simL_bind (fun s12v hs14v => ?_)
 refine simL_effg (re_call (vs := [.int .i64 x0_1, .int .i64 1, .int .i64 4611686018427387904]) (cap := []) (A := []) (rst := [obj b1v 29 [.int .i64 x0_0, .int .i64 x0_1, .slice a0_2 x0_2.length c0_2], F]) rfl rfl rfl rfl rfl rfl Try.call69 (.sel 0 rfl (.sel 0 rfl (.nil _))) (synodref3_within.calls _ _ x0_1 (1 : Int) (4611686018427387904 : Int) ) hs14v) rfl rfl rfl rfl rfl rfl ?_
 intro y13v
 refine simL_valg (q_not rfl rfl) rfl rfl rfl rfl rfl rfl ?_
 refine simL_val (q_pick rfl rfl rfl rfl rfl) rfl rfl rfl (simL_nil ?_)
 exact nrm_cut (s := !s12v) () ⟨rfl, rfl, trivial⟩ (.sel 0 rfl (.sel 0 rfl (.nil _)))
 intro s10v y11v
 refine simL_nil (nrm_then ?_)
 refine sim_condb rfl (fun h17v => ?_) (fun h18v => ?_)
 refine sim_seq (sim_region ?_)
 refine simL_val (q_asg rfl rfl) rfl rfl rfl (simL_nil (nrm_then (sim_rtn ?_)))
 refine rtn_then ?_
 exact rtn_fn () rfl rfl rfl (.sel 1 rfl (.nil _))
 refine sim_skip ?_
 refine nrm_then (sim_seq (sim_seq (sim_region ?_)))
 refine simL_val (q_fa rfl rfl Try.underlying29 rfl rfl Try.sizeOf27 rfl) rfl rfl rfl ?_
 refine simL_val (q_load rfl rfl Try.isAgg27 (.obj 0 rfl rfl)) rfl rfl rfl ?_
 refine simL_val (q_len rfl rfl rfl Try.underlying27) rfl rfl rfl ?_
 refine simL_val (q_gtr rfl rfl rfl) rfl rfl rfl (simL_nil (nrm_then ?_))
 refine sim_cond rfl (fun h19v => ?_) (fun h20v => ?_)
 refine sim_seq (sim_region ?_)
 refine simL_val (q_asg rfl rfl) rfl rfl rfl (simL_nil (nrm_then (sim_rtn ?_)))
 refine rtn_then ?_
 exact rtn_fn () rfl rfl rfl (.sel 1 rfl (.nil _))
 refine sim_skip ?_
 refine nrm_then (sim_seq (sim_region ?_))
 refine simL_val (q_asg rfl rfl) rfl rfl rfl (simL_nil (nrm_then (sim_rtn ?_)))
 exact rtn_fn () rfl rfl rfl (.sel 1 rfl (.nil _))
def synodref3_CheckSnap.v (x0_0 : Int) (x0_1 : Int) (x0_2 : List UInt8) : Int := (synodref3_CheckSnap.f x0_0 x0_1 x0_2).getD 0
theorem synodref3_CheckSnap.tot (x0_0 : Int) (x0_1 : Int) (x0_2 : List UInt8) : synodref3_CheckSnap.f x0_0 x0_1 x0_2 = some (synodref3_CheckSnap.v x0_0 x0_1 x0_2) := by
  have h : ∃ r, synodref3_CheckSnap.f x0_0 x0_1 x0_2 = some r := by
    unfold synodref3_CheckSnap.f
    repeat' (first | exact ⟨_, rfl⟩ | split | simp only [Option.bind_some, synodref3_None.tot, synodref3_within.tot])
  obtain ⟨r, h⟩ := h
  unfold synodref3_CheckSnap.v
  rw [h]; rfl

def synodref3_PutSnap.f (k : Nat) (x0_0 : Int) (x0_1 : Int) (x0_2 : List UInt8) : Option (List UInt8 × Int) := (synodref3_CheckSnap.f x0_0 x0_1 x0_2).bind fun s2v => (if s2v = (0 : Int) then ((synodref1_Writer_Int.f k ([] : List UInt8) (0 : Int) x0_0).bind fun s8v => ((synodref1_Writer_Int.f k s8v.1 s8v.2 x0_1).bind fun s11v => ((synodref1_Writer_Bytes.f k s11v.1 s11v.2 x0_2 (524288 : Int)).bind fun s14v => ((synodref1_Writer_Done_s_c0p0.f s14v.1 s14v.2).bind fun s17v => (some (s17v.1, s17v.2)))))) else (some (([] : List UInt8), s2v)))
theorem synodref3_PutSnap.calls (W : World) (F : HA) (k : Nat) (x0_0 : Int) (x0_1 : Int) (a0_2 : Option Addr) (c0_2 : Nat) (x0_2 : List UInt8) (h0_2 : Rd F a0_2 (encB x0_2)) (hc0_2 : x0_2.length ≤ c0_2) (hm0_2 : c0_2 ≤ maxLen) :
    Fn Try.prog W 40 [.agg #[.int .i64 x0_0, .int .i64 x0_1, .slice a0_2 x0_2.length c0_2]] [] F (synodref3_PutSnap.f k x0_0 x0_1 x0_2) (fun (r : List UInt8 × Int) (y : Option Addr × Nat) => .tuple #[.slice y.1 r.1.length y.2, .int .i64 r.2]) (fun r y => [Row 5 1 y.1 r.1.length y.2 (encB r.1)]) := by
 unfold synodref3_PutSnap.f
 refine fn_intro 29 Try.func40 rfl Try.ntmps40 rfl ?_
 refine sim_seq (sim_region ?_)
 refine simL_eff (re_box rfl rfl rfl) rfl rfl rfl ?_
 intro b1v
 refine simL_val (q_asg rfl rfl) rfl rfl rfl ?_
 refine simL_val (q_asg rfl rfl) rfl rfl rfl (simL_nil (nrm_then (sim_seq (sim_region ?_))))
 refine simL_val (q_loado 0 rfl rfl Try.isAgg29 Try.sizeOf29 rfl rfl) rfl rfl rfl ?_
 refine simL_bind (fun s2v hs4v => ?_)
 refine simL_eff (re_call (vs := [.agg #[.int .i64 x0_0, .int .i64 x0_1, .slice a0_2 x0_2.length c0_2]]) (cap := []) (A := []) (rst := [obj b1v 29 [.int .i64 x0_0, .int .i64 x0_1, .slice a0_2 x0_2.length c0_2], F]) rfl rfl rfl rfl rfl rfl Try.call42 (.sel 0 rfl (.sel 0 rfl (.nil _))) (synodref3_CheckSnap.calls _ _ x0_0 x0_1 a0_2 c0_2 x0_2 (h0_2.lend 1 rfl) hc0_2 hm0_2) hs4v) rfl rfl rfl ?_
 intro y3v
 refine simL_val (q_asg rfl rfl) rfl rfl rfl (simL_nil (nrm_then (sim_seq (sim_seq (sim_region ?_)))))
 refine simL_val (q_move rfl rfl) rfl rfl rfl ?_
 refine simL_val (q_neq rfl rfl rfl) rfl rfl rfl (simL_nil (nrm_then ?_))
 refine sim_condn rfl (fun h5v => ?_) (fun h6v => ?_)
 refine sim_skip ?_
 refine nrm_then (sim_seq (sim_region ?_))
 refine simL_val (q_build (v := .agg #[.slice none 0 0, .int .i64 0]) rfl rfl (fun _ => by kernel_rfl)) rfl rfl rfl ?_
 refine simL_eff (re_box rfl rfl rfl) rfl rfl rfl ?_
 intro b7v
 refine simL_val (q_asg rfl rfl) rfl rfl rfl (simL_nil (nrm_then (sim_seq (sim_region ?_))))
 refine simL_val (q_move rfl rfl) rfl rfl rfl ?_
 refine simL_val (q_fa rfl rfl Try.underlying29 rfl rfl Try.sizeOf3 rfl) rfl rfl rfl ?_
 refine simL_val (q_load rfl rfl Try.isAgg3 (.obj 1 rfl rfl)) rfl rfl rfl ?_
 refine simL_bind (fun s8v hs10v => ?_)
 refine simL_eff (re_call (vs := [.pointer (some ⟨b7v, 0, none⟩), .int .i64 x0_0]) (cap := []) (A := [obj b7v 143 [.slice none 0 0, .int .i64 0], Row 5 1 none ([] : List UInt8).length 0 (encB ([] : List UInt8))]) (rst := [obj b1v 29 [.int .i64 x0_0, .int .i64 x0_1, .slice a0_2 x0_2.length c0_2], F]) rfl rfl rfl rfl rfl rfl Try.call79 (.sel 0 rfl (.row_nil (.sel 0 rfl (.sel 0 rfl (.nil _))))) (synodref1_Writer_Int.calls _ _ k b7v none 0 ([] : List UInt8) (0 : Int) x0_0 ) hs10v) rfl rfl rfl ?_
 intro y9v
 refine simL_nil (nrm_then (sim_seq (sim_region ?_)))
 refine simL_val (q_move rfl rfl) rfl rfl rfl ?_
 refine simL_val (q_fa rfl rfl Try.underlying29 rfl rfl Try.sizeOf3 rfl) rfl rfl rfl ?_
 refine simL_val (q_load rfl rfl Try.isAgg3 (.obj 2 rfl rfl)) rfl rfl rfl ?_
 refine simL_bind (fun s11v hs13v => ?_)
 refine simL_eff (re_call (vs := [.pointer (some ⟨b7v, 0, none⟩), .int .i64 x0_1]) (cap := []) (A := [obj b7v 143 [.slice y9v.1 s8v.1.length y9v.2, .int .i64 s8v.2], Row 5 1 y9v.1 s8v.1.length y9v.2 (encB s8v.1)]) (rst := [obj b1v 29 [.int .i64 x0_0, .int .i64 x0_1, .slice a0_2 x0_2.length c0_2], F]) rfl rfl rfl rfl rfl rfl Try.call79 (.sel 0 rfl (.sel 0 rfl (.sel 0 rfl (.sel 0 rfl (.nil _))))) (synodref1_Writer_Int.calls _ _ k b7v y9v.1 y9v.2 s8v.1 s8v.2 x0_1 ) hs13v) rfl rfl rfl ?_
 intro y12v
 refine simL_nil (nrm_then (sim_seq (sim_region ?_)))
 refine simL_val (q_move rfl rfl) rfl rfl rfl ?_
 refine simL_val (q_fa rfl rfl Try.underlying29 rfl rfl Try.sizeOf27 rfl) rfl rfl rfl ?_
 refine simL_val (q_load rfl rfl Try.isAgg27 (.obj 2 rfl rfl)) rfl rfl rfl ?_
 refine simL_bind (fun s14v hs16v => ?_)
 refine simL_eff (re_call (vs := [.pointer (some ⟨b7v, 0, none⟩), .slice a0_2 x0_2.length c0_2, .int .i64 524288]) (cap := []) (A := [obj b7v 143 [.slice y12v.1 s11v.1.length y12v.2, .int .i64 s11v.2], Row 5 1 y12v.1 s11v.1.length y12v.2 (encB s11v.1)]) (rst := [obj b1v 29 [.int .i64 x0_0, .int .i64 x0_1, .slice a0_2 x0_2.length c0_2], F]) rfl rfl rfl rfl rfl rfl Try.call89 (.sel 0 rfl (.sel 0 rfl (.sel 0 rfl (.sel 0 rfl (.nil _))))) (synodref1_Writer_Bytes.calls _ _ k b7v y12v.1 y12v.2 s11v.1 s11v.2 a0_2 c0_2 x0_2 (524288 : Int) (h0_2.lend 1 rfl) hc0_2 hm0_2) hs16v) rfl rfl rfl ?_
 intro y15v
 refine simL_nil (nrm_then (sim_seq (sim_region ?_)))
 refine simL_val (q_move rfl rfl) rfl rfl rfl ?_
 refine simL_bind (fun s17v hs19v => ?_)
 refine simL_eff (re_call (vs := [.pointer (some ⟨b7v, 0, none⟩)]) (cap := []) (A := [obj b7v 143 [.slice y15v.1 s14v.1.length y15v.2, .int .i64 s14v.2], Row 5 1 y15v.1 s14v.1.length y15v.2 (encB s14v.1)]) (rst := [obj b1v 29 [.int .i64 x0_0, .int .i64 x0_1, .slice a0_2 x0_2.length c0_2], F]) rfl rfl rfl rfl rfl rfl Try.call80 (.sel 0 rfl (.sel 0 rfl (.sel 0 rfl (.sel 0 rfl (.nil _))))) (synodref1_Writer_Done_s_c0p0.calls _ _ b7v y15v.1 y15v.2 s14v.1 s14v.2 ) hs19v) rfl rfl rfl ?_
 intro y18v
 refine simL_val (q_ext rfl rfl rfl) rfl rfl rfl ?_
 refine simL_val (q_ext rfl rfl rfl) rfl rfl rfl ?_
 refine simL_val (q_asg rfl rfl) rfl rfl rfl ?_
 refine simL_val (q_asg rfl rfl) rfl rfl rfl (simL_nil (nrm_then (sim_rtn ?_)))
 exact rtn_fn (y18v.1, y18v.2) rfl rfl rfl (.sel 0 rfl (.sel 1 rfl (.nil _)))
 refine sim_seq (sim_region ?_)
 refine simL_val (q_move rfl rfl) rfl rfl rfl ?_
 refine simL_val (q_asg rfl rfl) rfl rfl rfl ?_
 refine simL_val (q_asg rfl rfl) rfl rfl rfl (simL_nil (nrm_then (sim_rtn ?_)))
 refine rtn_then ?_
 exact rtn_fn (none, 0) rfl rfl rfl (.row_nil (.sel 1 rfl (.nil _)))

def synodref3_GetSnap.f (k : Nat) (x0 : List UInt8) : Option (Int × Int × List UInt8 × Int) := (synodref1_Reader_Int.f k x0 (0 : Int) (0 : Int)).bind fun s3v => ((synodref1_Reader_Int.f k x0 s3v.2.1 s3v.2.2).bind fun s6v => ((synodref1_Reader_Bytes.f k x0 s6v.2.1 s6v.2.2 (524288 : Int)).bind fun s9v => ((synodref1_Reader_Done.f x0 s9v.2.1 s9v.2.2).bind fun s13v => ((if s13v = (0 : Int) then ((synodref3_CheckSnap.f s3v.1 s6v.1 s9v.1).bind fun s24v => (some s24v)) else (some s13v)).bind fun s16v => (if s16v = (0 : Int) then (some (s3v.1, s6v.1, s9v.1, s16v)) else (some (0, 0, ([] : List UInt8), s16v)))))))
theorem synodref3_GetSnap.calls (W : World) (F : HA) (k : Nat) (a0 : Option Addr) (c0 : Nat) (x0 : List UInt8) (h0 : Rd F a0 (encB x0)) (hc0 : x0.length ≤ c0) (hm0 : c0 ≤ maxLen) :
    Fn Try.prog W 44 [.slice a0 x0.length c0] [] F (synodref3_GetSnap.f k x0) (fun (r : Int × Int × List UInt8 × Int) (y : Option Addr × Nat) => .tuple #[.agg #[.int .i64 r.1, .int .i64 r.2.1, .slice y.1 r.2.2.1.length y.2], .int .i64 r.2.2.2]) (fun r y => [Row 5 1 y.1 r.2.2.1.length y.2 (encB r.2.2.1)]) := by
 unfold synodref3_GetSnap.f
 refine fn_intro 29 Try.func44 rfl Try.ntmps44 rfl ?_
 refine sim_seq (sim_region ?_)
 refine simL_eff (re_alloc rfl Try.zeroValue29 rfl) rfl rfl rfl ?_
 intro b1v
 refine simL_val (q_asg rfl rfl) rfl rfl rfl (simL_nil (nrm_then (sim_seq (sim_region ?_))))
 refine simL_val (q_move rfl rfl) rfl rfl rfl ?_
 refine simL_val (q_build (v := .agg #[.slice a0 x0.length c0, .int .i64 0, .int .i64 0]) rfl rfl (fun _ => by kernel_rfl)) rfl rfl rfl ?_
 refine simL_eff (re_box rfl rfl rfl) rfl rfl rfl ?_
 intro b2v
 refine simL_val (q_asg rfl rfl) rfl rfl rfl (simL_nil (nrm_then (sim_seq (sim_region ?_))))
 refine simL_val (q_move rfl rfl) rfl rfl rfl ?_
 refine simL_bind (fun s3v hs5v => ?_)
 refine simL_eff (re_call (vs := [.pointer (some ⟨b2v, 0, none⟩)]) (cap := []) (A := [obj b2v 152 [.slice a0 x0.length c0, .int .i64 0, .int .i64 0]]) (rst := [obj b1v 29 [.int .i64 0, .int .i64 0, .slice none 0 0], F]) rfl rfl rfl rfl rfl rfl Try.call85 (.sel 0 rfl (.sel 0 rfl (.sel 0 rfl (.nil _)))) (synodref1_Reader_Int.calls _ _ k b2v a0 c0 x0 (0 : Int) (0 : Int) (h0.lend 1 rfl) hc0 hm0) hs5v) rfl rfl rfl ?_
 intro y4v
 refine simL_val (q_move rfl rfl) rfl rfl rfl ?_
 refine simL_bind (fun s6v hs8v => ?_)
 refine simL_eff (re_call (vs := [.pointer (some ⟨b2v, 0, none⟩)]) (cap := []) (A := [obj b2v 152 [.slice a0 x0.length c0, .int .i64 s3v.2.1, .int .i64 s3v.2.2]]) (rst := [obj b1v 29 [.int .i64 0, .int .i64 0, .slice none 0 0], F]) rfl rfl rfl rfl rfl rfl Try.call85 (.sel 0 rfl (.sel 0 rfl (.sel 0 rfl (.nil _)))) (synodref1_Reader_Int.calls _ _ k b2v a0 c0 x0 s3v.2.1 s3v.2.2 (h0.lend 1 rfl) hc0 hm0) hs8v) rfl rfl rfl ?_
 intro y7v
 refine simL_val (q_move rfl rfl) rfl rfl rfl ?_
 refine simL_bind (fun s9v hs11v => ?_)
 refine simL_eff (re_call (vs := [.pointer (some ⟨b2v, 0, none⟩), .int .i64 524288]) (cap := []) (A := [obj b2v 152 [.slice a0 x0.length c0, .int .i64 s6v.2.1, .int .i64 s6v.2.2]]) (rst := [obj b1v 29 [.int .i64 0, .int .i64 0, .slice none 0 0], F]) rfl rfl rfl rfl rfl rfl Try.call92 (.sel 0 rfl (.sel 0 rfl (.sel 0 rfl (.nil _)))) (synodref1_Reader_Bytes.calls _ _ k b2v a0 c0 x0 s6v.2.1 s6v.2.2 (524288 : Int) (h0.lend 1 rfl) hc0 hm0) hs11v) rfl rfl rfl ?_
 intro y10v
 refine simL_val (q_build (v := .agg #[.int .i64 s3v.1, .int .i64 s6v.1, .slice y10v.1 s9v.1.length y10v.2]) rfl rfl (fun _ => by kernel_rfl)) rfl rfl rfl ?_
 refine simL_eff (re_alloc rfl Try.zeroValue29 rfl) rfl rfl rfl ?_
 intro b12v
 refine simL_do (re_store 0 rfl rfl rfl Try.sizeOf29 rfl rfl (one_of (by rfl)) rfl rfl) rfl rfl ?_
 intro _
 refine simL_nil (nrm_then (sim_seq (sim_region ?_)))
 refine simL_val (q_move rfl rfl) rfl rfl rfl ?_
 refine simL_bind (fun s13v hs15v => ?_)
 refine simL_eff (re_call (vs := [.pointer (some ⟨b2v, 0, none⟩)]) (cap := []) (A := [obj b2v 152 [.slice a0 x0.length c0, .int .i64 s9v.2.1, .int .i64 s9v.2.2]]) (rst := [obj b12v 29 [.int .i64 s3v.1, .int .i64 s6v.1, .slice y10v.1 s9v.1.length y10v.2], Row 5 1 y10v.1 s9v.1.length y10v.2 (encB s9v.1), obj b1v 29 [.int .i64 0, .int .i64 0, .slice none 0 0], F]) rfl rfl rfl rfl rfl rfl Try.call86 (.sel 2 rfl (.sel 0 rfl (.sel 0 rfl (.sel 0 rfl (.sel 0 rfl (.nil _)))))) (synodref1_Reader_Done.calls _ _ b2v a0 c0 x0 s9v.2.1 s9v.2.2 (h0.lend 3 rfl) hc0 hm0) hs15v) rfl rfl rfl ?_
 intro y14v
 refine simL_val (q_asg rfl rfl) rfl rfl rfl (simL_nil (nrm_then ?_))
 refine sim_cut (S := Int) (Unit) (fun s y => [(2, .pointer (some ⟨b1v, 0, none⟩)), (5, .pointer (some ⟨b12v, 0, none⟩)), (6, .int .i64 s)]) (fun s y => [obj b12v 29 [.int .i64 s3v.1, .int .i64 s6v.1, .slice y10v.1 s9v.1.length y10v.2], obj b1v 29 [.int .i64 0, .int .i64 0, .slice none 0 0], Row 5 1 y10v.1 s9v.1.length y10v.2 (encB s9v.1), F]) ?_ ?_
 refine sim_seq (sim_region ?_)
 refine simL_val (q_move rfl rfl) rfl rfl rfl ?_
 refine simL_val (q_eql rfl rfl rfl) rfl rfl rfl (simL_nil (nrm_then ?_))
 refine sim_cond rfl (fun h18v => ?_) (fun h19v => ?_)
 refine sim_region ?_
 refine simL_val (q_loado 1 rfl rfl Try.isAgg29 Try.sizeOf29 rfl rfl) rfl rfl rfl ?_
 refine simL_bind (fun s24v hs26v => ?_)
 refine simL_lend 2 rfl (fun hq20v hq21v hq22v hq23v => ?_)
 refine simL_eff (re_call (vs := [.agg #[.int .i64 s3v.1, .int .i64 s6v.1, .slice y10v.1 s9v.1.length y10v.2]]) (cap := []) (A := []) (rst := [obj b2v 152 [.slice a0 x0.length c0, .int .i64 s9v.2.1, .int .i64 s9v.2.2], obj b12v 29 [.int .i64 s3v.1, .int .i64 s6v.1, .slice y10v.1 s9v.1.length y10v.2], Row 5 1 y10v.1 s9v.1.length y10v.2 (encB s9v.1), obj b1v 29 [.int .i64 0, .int .i64 0, .slice none 0 0], F]) rfl rfl rfl rfl rfl rfl Try.call42 (.sel 0 rfl (.sel 0 rfl (.sel 0 rfl (.sel 0 rfl (.sel 0 rfl (.nil _)))))) (synodref3_CheckSnap.calls _ _ s3v.1 s6v.1 y10v.1 y10v.2 s9v.1 (hq20v.lend 2 rfl) hq21v hq22v) hs26v) rfl rfl rfl ?_
 intro y25v
 refine simL_val (q_asg rfl rfl) rfl rfl rfl (simL_nil ?_)
 exact nrm_cut (s := s24v) () ⟨rfl, rfl, rfl, trivial⟩ (.sel 1 rfl (.sel 2 rfl (.sel 1 rfl (.sel 1 rfl (.nil _)))))
 refine sim_skip ?_
 exact nrm_cut (s := s13v) () ⟨rfl, rfl, rfl, trivial⟩ (.sel 1 rfl (.sel 2 rfl (.sel 1 rfl (.sel 1 rfl (.nil _)))))
 intro s16v y17v
 refine sim_seq (sim_seq (sim_region ?_))
 refine simL_val (q_move rfl rfl) rfl rfl rfl ?_
 refine simL_val (q_neq rfl rfl rfl) rfl rfl rfl (simL_nil (nrm_then ?_))
 refine sim_condn rfl (fun h27v => ?_) (fun h28v => ?_)
 refine sim_skip ?_
 refine nrm_then (sim_seq (sim_region ?_))
 refine simL_val (q_loado 0 rfl rfl Try.isAgg29 Try.sizeOf29 rfl rfl) rfl rfl rfl ?_
 refine simL_val (q_move rfl rfl) rfl rfl rfl ?_
 refine simL_do (re_store 1 rfl rfl rfl Try.sizeOf29 rfl rfl (one_of (by rfl)) rfl rfl) rfl rfl ?_
 intro _
 refine simL_val (q_asg rfl rfl) rfl rfl rfl (simL_nil (nrm_then (sim_rtn ?_)))
 exact rtn_fnC (vs := [.agg #[.int .i64 s3v.1, .int .i64 s6v.1, .slice y10v.1 s9v.1.length y10v.2], .int .i64 s16v]) (y10v.1, y10v.2) rfl ⟨⟨b1v, rfl, load_agg 1 Try.isAgg29 Try.sizeOf29 rfl rfl⟩, rfl, trivial⟩ rfl (.sel 2 rfl (.sel 2 rfl (.nil _)))
 refine sim_seq (sim_region ?_)
 refine simL_val (q_build (v := .agg #[.int .i64 0, .int .i64 0, .slice none 0 0]) rfl rfl (fun _ => by kernel_rfl)) rfl rfl rfl ?_
 refine simL_val (q_move rfl rfl) rfl rfl rfl ?_
 refine simL_do (re_store 1 rfl rfl rfl Try.sizeOf29 rfl rfl (one_of (by rfl)) rfl rfl) rfl rfl ?_
 intro _
 refine simL_val (q_asg rfl rfl) rfl rfl rfl (simL_nil (nrm_then (sim_rtn ?_)))
 refine rtn_then ?_
 exact rtn_fnC (vs := [.agg #[.int .i64 0, .int .i64 0, .slice none 0 0], .int .i64 s16v]) (none, 0) rfl ⟨⟨b1v, rfl, load_agg 1 Try.isAgg29 Try.sizeOf29 rfl rfl⟩, rfl, trivial⟩ rfl (.row_nil (.sel 3 rfl (.nil _)))

def synodref3_CheckState.f (x0_0 : Int) (x0_1 : Int) (x0_2 : Int) : Option (Int) := (synodref3_within.f x0_0 (0 : Int) (4611686018427387904 : Int)).bind fun s2v => ((if (!s2v) = true then (some true) else ((synodref3_within.f x0_2 (0 : Int) (4611686018427387904 : Int)).bind fun s7v => (some (!s7v)))).bind fun s5v => ((if s5v = true then (some true) else ((synodref3_within.f x0_1 (0 : Int) (7 : Int)).bind fun s14v => (some (!s14v)))).bind fun s12v => (if s12v = true then (some 1) else (if ((!decide (x0_1 = (0 : Int))) && (decide (x0_0 = (0 : Int)))) = true then (some 4) else (some 0)))))
theorem synodref3_CheckState.calls (W : World) (F : HA) (x0_0 : Int) (x0_1 : Int) (x0_2 : Int)  :
    Fn Try.prog W 16 [.agg #[.int .i64 x0_0, .int .i64 x0_1, .int .i64 x0_2]] [] F (synodref3_CheckState.f x0_0 x0_1 x0_2) (fun (r : Int) (y : Unit) => .int .i64 r) (fun r y => []) := by
 unfold synodref3_CheckState.f
 refine fn_intro 27 Try.func16 rfl Try.ntmps16 rfl ?_
 refine sim_seq (sim_region ?_)
 refine simL_eff (re_box rfl rfl rfl) rfl rfl rfl ?_
 intro b1v
 refine simL_val (q_asg rfl rfl) rfl rfl rfl (simL_nil (nrm_then (sim_seq (sim_seq (sim_region ?_)))))
 refine simL_val (q_fa rfl rfl Try.underlying23 rfl rfl Try.sizeOf3 rfl) rfl rfl rfl ?_
 refine simL_val (q_load rfl rfl Try.isAgg3 (.obj 0 rfl rfl)) rfl rfl rfl ?_
 refine simL_bind (fun s2v hs4v => ?_)
 refine simL_eff (re_call (vs := [.int .i64 x0_0, .int .i64 0, .int .i64 4611686018427387904]) (cap := []) (A := []) (rst := [obj b1v 23 [.int .i64 x0_0, .int .i64 x0_1, .int .i64 x0_2], F]) rfl rfl rfl rfl rfl rfl Try.call69 (.sel 0 rfl (.sel 0 rfl (.nil _))) (synodref3_within.calls _ _ x0_0 (0 : Int) (4611686018427387904 : Int) ) hs4v) rfl rfl rfl ?_
 intro y3v
 refine simL_val (q_not rfl rfl) rfl rfl rfl ?_
 refine simL_val (q_move rfl rfl) rfl rfl rfl ?_
 refine simL_cut' 5 (S := Bool) (Unit) (fun s y => [(1, .pointer (some ⟨b1v, 0, none⟩)), (12, .bool s)]) (fun s y => [obj b1v 23 [.int .i64 x0_0, .int .i64 x0_1, .int .i64 x0_2], F]) ?_ ?_
 refine simL_caseb (fun hb10v => ?_) (fun hb11v => ?_)
 rw [hb10v]
 refine simL_skipd rfl rfl rfl rfl rfl rfl ?_
 refine simL_skipd rfl rfl rfl rfl rfl rfl ?_
 refine simL_skipd rfl rfl rfl rfl rfl rfl ?_
 refine simL_skipd rfl rfl rfl rfl rfl rfl ?_
 refine simL_val (q_pick rfl rfl rfl rfl rfl) rfl rfl rfl (simL_nil ?_)
 exact nrm_cut (s := true) () ⟨rfl, rfl, trivial⟩ (.sel 0 rfl (.sel 0 rfl (.nil _)))
 rw [hb11v]
 refine simL_valg (q_fa rfl rfl Try.underlying23 rfl rfl Try.sizeOf3 rfl) rfl rfl rfl rfl rfl rfl ?_
 refine simL_valg (q_load rfl rfl Try.isAgg3 (.obj 0 rfl rfl)) rfl rfl rfl rfl rfl rfl ?_
 refine simL_bind (fun s7v hs9v => ?_)
 refine simL_effg (re_call (vs := [.int .i64 x0_2, .int .i64 0, .int .i64 4611686018427387904]) (cap := []) (A := []) (rst := [obj b1v 23 [.int .i64 x0_0, .int .i64 x0_1, .int .i64 x0_2], F]) rfl rfl rfl rfl rfl rfl Try.call69 (.sel 0 rfl (.sel 0 rfl (.nil _))) (synodref3_within.calls _ _ x0_2 (0 : Int) (4611686018427387904 : Int) ) hs9v) rfl rfl rfl rfl rfl rfl ?_
 intro y8v
 refine simL_valg (q_not rfl rfl) rfl rfl rfl rfl rfl rfl ?_
 refine simL_val (q_pick rfl rfl rfl rfl rfl) rfl rfl rfl (simL_nil ?_)
 exact nrm_cut (s := !s7v) () ⟨rfl, rfl, trivial⟩ (.sel 0 rfl (.sel 0 rfl (.nil _)))
 intro s5v y6v
 refine simL_val (q_move rfl rfl) rfl rfl rfl ?_
 refine simL_cut' 5 (S := Bool) (Unit) (fun s y => [(1, .pointer (some ⟨b1v, 0, none⟩)), (18, .bool s)]) (fun s y => [obj b1v 23 [.int .i64 x0_0, .int .i64 x0_1, .int .i64 x0_2], F]) ?_ ?_
 refine simL_caseb (fun hb17v => ?_) (fun hb18v => ?_)
 rw [hb17v]
 refine simL_skipd rfl rfl rfl rfl rfl rfl ?_
 refine simL_skipd rfl rfl rfl rfl rfl rfl ?_
 refine simL_skipd rfl rfl rfl rfl rfl rfl ?_
 refine simL_skipd rfl rfl rfl rfl rfl rfl ?_
 refine simL_val (q_pick rfl rfl rfl rfl rfl) rfl rfl rfl (simL_nil ?_)
 exact nrm_cut (s := true) () ⟨rfl, rfl, trivial⟩ (.sel 0 rfl (.sel 0 rfl (.nil _)))
 rw [hb18v]
 refine simL_valg (q_fa rfl rfl Try.underlying23 rfl rfl Try.sizeOf3 rfl) rfl rfl rfl rfl rfl rfl ?_
 refine simL_valg (q_load rfl rfl Try.isAgg3 (.obj 0 rfl rfl)) rfl rfl rfl rfl rfl rfl ?_
 refine simL_bind (fun s14v hs16v => ?_)
 refine simL_effg (re_call (vs := [.int .i64 x0_1, .int .i64 0, .int .i64 7]) (cap := []) (A := []) (rst := [obj b1v 23 [.int .i64 x0_0, .int .i64 x0_1, .int .i64 x0_2], F]) rfl rfl rfl rfl rfl rfl Try.call69 (.sel 0 rfl (.sel 0 rfl (.nil _))) (synodref3_within.calls _ _ x0_1 (0 : Int) (7 : Int) ) hs16v) rfl rfl rfl rfl rfl rfl ?_
 intro y15v
 refine simL_valg (q_not rfl rfl) rfl rfl rfl rfl rfl rfl ?_
 refine simL_val (q_pick rfl rfl rfl rfl rfl) rfl rfl rfl (simL_nil ?_)
 exact nrm_cut (s := !s14v) () ⟨rfl, rfl, trivial⟩ (.sel 0 rfl (.sel 0 rfl (.nil _)))
 intro s12v y13v
 refine simL_nil (nrm_then ?_)
 refine sim_condb rfl (fun h19v => ?_) (fun h20v => ?_)
 refine sim_seq (sim_region ?_)
 refine simL_val (q_asg rfl rfl) rfl rfl rfl (simL_nil (nrm_then (sim_rtn ?_)))
 refine rtn_then ?_
 exact rtn_fn () rfl rfl rfl (.sel 1 rfl (.nil _))
 refine sim_skip ?_
 refine nrm_then (sim_seq (sim_seq (sim_region ?_)))
 refine simL_val (q_fa rfl rfl Try.underlying23 rfl rfl Try.sizeOf3 rfl) rfl rfl rfl ?_
 refine simL_val (q_load rfl rfl Try.isAgg3 (.obj 0 rfl rfl)) rfl rfl rfl ?_
 refine simL_val (q_neq rfl rfl rfl) rfl rfl rfl ?_
 refine simL_val (q_move rfl rfl) rfl rfl rfl ?_
 refine simL_valc (b := !decide (x0_1 = (0 : Int))) (fun hb25v => RQ.sub (E' := [(1, .pointer (some ⟨b1v, 0, none⟩))]) ⟨rfl, trivial⟩ (q_fa rfl rfl Try.underlying23 rfl rfl Try.sizeOf3 rfl)) rfl rfl rfl rfl rfl ?_
 refine simL_valc (b := !decide (x0_1 = (0 : Int))) (fun hb24v => RQ.sub (E' := [(23, .pointer (some ⟨b1v, 0, none⟩))]) ⟨lk_cv rfl hb24v, trivial⟩ (q_load rfl rfl Try.isAgg3 (.obj 0 rfl rfl))) rfl rfl rfl rfl rfl ?_
 refine simL_valc (b := !decide (x0_1 = (0 : Int))) (fun hb23v => RQ.sub (E' := [(24, .int .i64 x0_0)]) ⟨lk_cv rfl hb23v, trivial⟩ (q_eql rfl rfl rfl)) rfl rfl rfl rfl rfl ?_
 refine simL_val (q_and rfl rfl rfl) rfl rfl rfl (simL_nil (nrm_then ?_))
 refine sim_condb rfl (fun h21v => ?_) (fun h22v => ?_)
 refine sim_seq (sim_region ?_)
 refine simL_val (q_asg rfl rfl) rfl rfl rfl (simL_nil (nrm_then (sim_rtn ?_)))
 refine rtn_then ?_
 exact rtn_fn () rfl rfl rfl (.sel 1 rfl (.nil _))
 refine sim_skip ?_
 refine nrm_then (sim_seq (sim_region ?_))
 refine simL_val (q_asg rfl rfl) rfl rfl rfl (simL_nil (nrm_then (sim_rtn ?_)))
 exact rtn_fn () rfl rfl rfl (.sel 1 rfl (.nil _))
def synodref3_CheckState.v (x0_0 : Int) (x0_1 : Int) (x0_2 : Int) : Int := (synodref3_CheckState.f x0_0 x0_1 x0_2).getD 0
theorem synodref3_CheckState.tot (x0_0 : Int) (x0_1 : Int) (x0_2 : Int) : synodref3_CheckState.f x0_0 x0_1 x0_2 = some (synodref3_CheckState.v x0_0 x0_1 x0_2) := by
  have h : ∃ r, synodref3_CheckState.f x0_0 x0_1 x0_2 = some r := by
    unfold synodref3_CheckState.f
    repeat' (first | exact ⟨_, rfl⟩ | split | simp only [Option.bind_some, synodref3_within.tot])
  obtain ⟨r, h⟩ := h
  unfold synodref3_CheckState.v
  rw [h]; rfl

def synodref3_PutState.f (k : Nat) (x0_0 : Int) (x0_1 : Int) (x0_2 : Int) : Option (List UInt8 × Int) := (synodref3_CheckState.f x0_0 x0_1 x0_2).bind fun s2v => (if s2v = (0 : Int) then ((synodref1_Writer_Int.f k ([] : List UInt8) (0 : Int) x0_0).bind fun s8v => ((synodref1_Writer_Int.f k s8v.1 s8v.2 x0_1).bind fun s11v => ((synodref1_Writer_Int.f k s11v.1 s11v.2 x0_2).bind fun s14v => ((synodref1_Writer_Done_s_c0p0.f s14v.1 s14v.2).bind fun s17v => (some (s17v.1, s17v.2)))))) else (some (([] : List UInt8), s2v)))
theorem synodref3_PutState.calls (W : World) (F : HA) (k : Nat) (x0_0 : Int) (x0_1 : Int) (x0_2 : Int)  :
    Fn Try.prog W 24 [.agg #[.int .i64 x0_0, .int .i64 x0_1, .int .i64 x0_2]] [] F (synodref3_PutState.f k x0_0 x0_1 x0_2) (fun (r : List UInt8 × Int) (y : Option Addr × Nat) => .tuple #[.slice y.1 r.1.length y.2, .int .i64 r.2]) (fun r y => [Row 5 1 y.1 r.1.length y.2 (encB r.1)]) := by
 unfold synodref3_PutState.f
 refine fn_intro 29 Try.func24 rfl Try.ntmps24 rfl ?_
 refine sim_seq (sim_region ?_)
 refine simL_eff (re_box rfl rfl rfl) rfl rfl rfl ?_
 intro b1v
 refine simL_val (q_asg rfl rfl) rfl rfl rfl ?_
 refine simL_val (q_asg rfl rfl) rfl rfl rfl (simL_nil (nrm_then (sim_seq (sim_region ?_))))
 refine simL_val (q_loado 0 rfl rfl Try.isAgg23 Try.sizeOf23 rfl rfl) rfl rfl rfl ?_
 refine simL_bind (fun s2v hs4v => ?_)
 refine simL_eff (re_call (vs := [.agg #[.int .i64 x0_0, .int .i64 x0_1, .int .i64 x0_2]]) (cap := []) (A := []) (rst := [obj b1v 23 [.int .i64 x0_0, .int .i64 x0_1, .int .i64 x0_2], F]) rfl rfl rfl rfl rfl rfl Try.call16 (.sel 0 rfl (.sel 0 rfl (.nil _))) (synodref3_CheckState.calls _ _ x0_0 x0_1 x0_2 ) hs4v) rfl rfl rfl ?_
 intro y3v
 refine simL_val (q_asg rfl rfl) rfl rfl rfl (simL_nil (nrm_then (sim_seq (sim_seq (sim_region ?_)))))
 refine simL_val (q_move rfl rfl) rfl rfl rfl ?_
 refine simL_val (q_neq rfl rfl rfl) rfl rfl rfl (simL_nil (nrm_then ?_))
 refine sim_condn rfl (fun h5v => ?_) (fun h6v => ?_)
 refine sim_skip ?_
 refine nrm_then (sim_seq (sim_region ?_))
 refine simL_val (q_build (v := .agg #[.slice none 0 0, .int .i64 0]) rfl rfl (fun _ => by kernel_rfl)) rfl rfl rfl ?_
 refine simL_eff (re_box rfl rfl rfl) rfl rfl rfl ?_
 intro b7v
 refine simL_val (q_asg rfl rfl) rfl rfl rfl (simL_nil (nrm_then (sim_seq (sim_region ?_))))
 refine simL_val (q_move rfl rfl) rfl rfl rfl ?_
 refine simL_val (q_fa rfl rfl Try.underlying23 rfl rfl Try.sizeOf3 rfl) rfl rfl rfl ?_
 refine simL_val (q_load rfl rfl Try.isAgg3 (.obj 1 rfl rfl)) rfl rfl rfl ?_
 refine simL_bind (fun s8v hs10v => ?_)
 refine simL_eff (re_call (vs := [.pointer (some ⟨b7v, 0, none⟩), .int .i64 x0_0]) (cap := []) (A := [obj b7v 143 [.slice none 0 0, .int .i64 0], Row 5 1 none ([] : List UInt8).length 0 (encB ([] : List UInt8))]) (rst := [obj b1v 23 [.int .i64 x0_0, .int .i64 x0_1, .int .i64 x0_2], F]) rfl rfl rfl rfl rfl rfl Try.call79 (.sel 0 rfl (.row_nil (.sel 0 rfl (.sel 0 rfl (.nil _))))) (synodref1_Writer_Int.calls _ _ k b7v none 0 ([] : List UInt8) (0 : Int) x0_0 ) hs10v) rfl rfl rfl ?_
 intro y9v
 refine simL_nil (nrm_then (sim_seq (sim_region ?_)))
 refine simL_val (q_move rfl rfl) rfl rfl rfl ?_
 refine simL_val (q_fa rfl rfl Try.underlying23 rfl rfl Try.sizeOf3 rfl) rfl rfl rfl ?_
 refine simL_val (q_load rfl rfl Try.isAgg3 (.obj 2 rfl rfl)) rfl rfl rfl ?_
 refine simL_bind (fun s11v hs13v => ?_)
 refine simL_eff (re_call (vs := [.pointer (some ⟨b7v, 0, none⟩), .int .i64 x0_1]) (cap := []) (A := [obj b7v 143 [.slice y9v.1 s8v.1.length y9v.2, .int .i64 s8v.2], Row 5 1 y9v.1 s8v.1.length y9v.2 (encB s8v.1)]) (rst := [obj b1v 23 [.int .i64 x0_0, .int .i64 x0_1, .int .i64 x0_2], F]) rfl rfl rfl rfl rfl rfl Try.call79 (.sel 0 rfl (.sel 0 rfl (.sel 0 rfl (.sel 0 rfl (.nil _))))) (synodref1_Writer_Int.calls _ _ k b7v y9v.1 y9v.2 s8v.1 s8v.2 x0_1 ) hs13v) rfl rfl rfl ?_
 intro y12v
 refine simL_nil (nrm_then (sim_seq (sim_region ?_)))
 refine simL_val (q_move rfl rfl) rfl rfl rfl ?_
 refine simL_val (q_fa rfl rfl Try.underlying23 rfl rfl Try.sizeOf3 rfl) rfl rfl rfl ?_
 refine simL_val (q_load rfl rfl Try.isAgg3 (.obj 2 rfl rfl)) rfl rfl rfl ?_
 refine simL_bind (fun s14v hs16v => ?_)
 refine simL_eff (re_call (vs := [.pointer (some ⟨b7v, 0, none⟩), .int .i64 x0_2]) (cap := []) (A := [obj b7v 143 [.slice y12v.1 s11v.1.length y12v.2, .int .i64 s11v.2], Row 5 1 y12v.1 s11v.1.length y12v.2 (encB s11v.1)]) (rst := [obj b1v 23 [.int .i64 x0_0, .int .i64 x0_1, .int .i64 x0_2], F]) rfl rfl rfl rfl rfl rfl Try.call79 (.sel 0 rfl (.sel 0 rfl (.sel 0 rfl (.sel 0 rfl (.nil _))))) (synodref1_Writer_Int.calls _ _ k b7v y12v.1 y12v.2 s11v.1 s11v.2 x0_2 ) hs16v) rfl rfl rfl ?_
 intro y15v
 refine simL_nil (nrm_then (sim_seq (sim_region ?_)))
 refine simL_val (q_move rfl rfl) rfl rfl rfl ?_
 refine simL_bind (fun s17v hs19v => ?_)
 refine simL_eff (re_call (vs := [.pointer (some ⟨b7v, 0, none⟩)]) (cap := []) (A := [obj b7v 143 [.slice y15v.1 s14v.1.length y15v.2, .int .i64 s14v.2], Row 5 1 y15v.1 s14v.1.length y15v.2 (encB s14v.1)]) (rst := [obj b1v 23 [.int .i64 x0_0, .int .i64 x0_1, .int .i64 x0_2], F]) rfl rfl rfl rfl rfl rfl Try.call80 (.sel 0 rfl (.sel 0 rfl (.sel 0 rfl (.sel 0 rfl (.nil _))))) (synodref1_Writer_Done_s_c0p0.calls _ _ b7v y15v.1 y15v.2 s14v.1 s14v.2 ) hs19v) rfl rfl rfl ?_
 intro y18v
 refine simL_val (q_ext rfl rfl rfl) rfl rfl rfl ?_
 refine simL_val (q_ext rfl rfl rfl) rfl rfl rfl ?_
 refine simL_val (q_asg rfl rfl) rfl rfl rfl ?_
 refine simL_val (q_asg rfl rfl) rfl rfl rfl (simL_nil (nrm_then (sim_rtn ?_)))
 exact rtn_fn (y18v.1, y18v.2) rfl rfl rfl (.sel 0 rfl (.sel 1 rfl (.nil _)))
 refine sim_seq (sim_region ?_)
 refine simL_val (q_move rfl rfl) rfl rfl rfl ?_
 refine simL_val (q_asg rfl rfl) rfl rfl rfl ?_
 refine simL_val (q_asg rfl rfl) rfl rfl rfl (simL_nil (nrm_then (sim_rtn ?_)))
 refine rtn_then ?_
 exact rtn_fn (none, 0) rfl rfl rfl (.row_nil (.sel 1 rfl (.nil _)))

def synodref3_GetState.f (k : Nat) (x0 : List UInt8) : Option (Int × Int × Int × Int) := (synodref1_Reader_Int.f k x0 (0 : Int) (0 : Int)).bind fun s3v => ((synodref1_Reader_Int.f k x0 s3v.2.1 s3v.2.2).bind fun s6v => ((synodref1_Reader_Int.f k x0 s6v.2.1 s6v.2.2).bind fun s9v => ((synodref1_Reader_Done.f x0 s9v.2.1 s9v.2.2).bind fun s13v => ((if s13v = (0 : Int) then ((synodref3_CheckState.f s3v.1 s6v.1 s9v.1).bind fun s20v => (some s20v)) else (some s13v)).bind fun s16v => (if s16v = (0 : Int) then (some (s3v.1, s6v.1, s9v.1, s16v)) else (some (0, 0, 0, s16v)))))))
theorem synodref3_GetState.calls (W : World) (F : HA) (k : Nat) (a0 : Option Addr) (c0 : Nat) (x0 : List UInt8) (h0 : Rd F a0 (encB x0)) (hc0 : x0.length ≤ c0) (hm0 : c0 ≤ maxLen) :
    Fn Try.prog W 30 [.slice a0 x0.length c0] [] F (synodref3_GetState.f k x0) (fun (r : Int × Int × Int × Int) (y : Unit) => .tuple #[.agg #[.int .i64 r.1, .int .i64 r.2.1, .int .i64 r.2.2.1], .int .i64 r.2.2.2]) (fun r y => []) := by
 unfold synodref3_GetState.f
 refine fn_intro 29 Try.func30 rfl Try.ntmps30 rfl ?_
 refine sim_seq (sim_region ?_)
 refine simL_eff (re_alloc rfl Try.zeroValue23 rfl) rfl rfl rfl ?_
 intro b1v
 refine simL_val (q_asg rfl rfl) rfl rfl rfl (simL_nil (nrm_then (sim_seq (sim_region ?_))))
 refine simL_val (q_move rfl rfl) rfl rfl rfl ?_
 refine simL_val (q_build (v := .agg #[.slice a0 x0.length c0, .int .i64 0, .int .i64 0]) rfl rfl (fun _ => by kernel_rfl)) rfl rfl rfl ?_
 refine simL_eff (re_box rfl rfl rfl) rfl rfl rfl ?_
 intro b2v
 refine simL_val (q_asg rfl rfl) rfl rfl rfl (simL_nil (nrm_then (sim_seq (sim_region ?_))))
 refine simL_val (q_move rfl rfl) rfl rfl rfl ?_
 refine simL_bind (fun s3v hs5v => ?_)
 refine simL_eff (re_call (vs := [.pointer (some ⟨b2v, 0, none⟩)]) (cap := []) (A := [obj b2v 152 [.slice a0 x0.length c0, .int .i64 0, .int .i64 0]]) (rst := [obj b1v 23 [.int .i64 0, .int .i64 0, .int .i64 0], F]) rfl rfl rfl rfl rfl rfl Try.call85 (.sel 0 rfl (.sel 0 rfl (.sel 0 rfl (.nil _)))) (synodref1_Reader_Int.calls _ _ k b2v a0 c0 x0 (0 : Int) (0 : Int) (h0.lend 1 rfl) hc0 hm0) hs5v) rfl rfl rfl ?_
 intro y4v
 refine simL_val (q_move rfl rfl) rfl rfl rfl ?_
 refine simL_bind (fun s6v hs8v => ?_)
 refine simL_eff (re_call (vs := [.pointer (some ⟨b2v, 0, none⟩)]) (cap := []) (A := [obj b2v 152 [.slice a0 x0.length c0, .int .i64 s3v.2.1, .int .i64 s3v.2.2]]) (rst := [obj b1v 23 [.int .i64 0, .int .i64 0, .int .i64 0], F]) rfl rfl rfl rfl rfl rfl Try.call85 (.sel 0 rfl (.sel 0 rfl (.sel 0 rfl (.nil _)))) (synodref1_Reader_Int.calls _ _ k b2v a0 c0 x0 s3v.2.1 s3v.2.2 (h0.lend 1 rfl) hc0 hm0) hs8v) rfl rfl rfl ?_
 intro y7v
 refine simL_val (q_move rfl rfl) rfl rfl rfl ?_
 refine simL_bind (fun s9v hs11v => ?_)
 refine simL_eff (re_call (vs := [.pointer (some ⟨b2v, 0, none⟩)]) (cap := []) (A := [obj b2v 152 [.slice a0 x0.length c0, .int .i64 s6v.2.1, .int .i64 s6v.2.2]]) (rst := [obj b1v 23 [.int .i64 0, .int .i64 0, .int .i64 0], F]) rfl rfl rfl rfl rfl rfl Try.call85 (.sel 0 rfl (.sel 0 rfl (.sel 0 rfl (.nil _)))) (synodref1_Reader_Int.calls _ _ k b2v a0 c0 x0 s6v.2.1 s6v.2.2 (h0.lend 1 rfl) hc0 hm0) hs11v) rfl rfl rfl ?_
 intro y10v
 refine simL_val (q_build (v := .agg #[.int .i64 s3v.1, .int .i64 s6v.1, .int .i64 s9v.1]) rfl rfl (fun _ => by kernel_rfl)) rfl rfl rfl ?_
 refine simL_eff (re_alloc rfl Try.zeroValue23 rfl) rfl rfl rfl ?_
 intro b12v
 refine simL_do (re_store 0 rfl rfl rfl Try.sizeOf23 rfl rfl (one_of (by rfl)) rfl rfl) rfl rfl ?_
 intro _
 refine simL_nil (nrm_then (sim_seq (sim_region ?_)))
 refine simL_val (q_move rfl rfl) rfl rfl rfl ?_
 refine simL_bind (fun s13v hs15v => ?_)
 refine simL_eff (re_call (vs := [.pointer (some ⟨b2v, 0, none⟩)]) (cap := []) (A := [obj b2v 152 [.slice a0 x0.length c0, .int .i64 s9v.2.1, .int .i64 s9v.2.2]]) (rst := [obj b12v 23 [.int .i64 s3v.1, .int .i64 s6v.1, .int .i64 s9v.1], obj b1v 23 [.int .i64 0, .int .i64 0, .int .i64 0], F]) rfl rfl rfl rfl rfl rfl Try.call86 (.sel 1 rfl (.sel 0 rfl (.sel 0 rfl (.sel 0 rfl (.nil _))))) (synodref1_Reader_Done.calls _ _ b2v a0 c0 x0 s9v.2.1 s9v.2.2 (h0.lend 2 rfl) hc0 hm0) hs15v) rfl rfl rfl ?_
 intro y14v
 refine simL_val (q_asg rfl rfl) rfl rfl rfl (simL_nil (nrm_then ?_))
 refine sim_cut (S := Int) (Unit) (fun s y => [(2, .pointer (some ⟨b1v, 0, none⟩)), (5, .pointer (some ⟨b12v, 0, none⟩)), (6, .int .i64 s)]) (fun s y => [obj b12v 23 [.int .i64 s3v.1, .int .i64 s6v.1, .int .i64 s9v.1], obj b1v 23 [.int .i64 0, .int .i64 0, .int .i64 0], F]) ?_ ?_
 refine sim_seq (sim_region ?_)
 refine simL_val (q_move rfl rfl) rfl rfl rfl ?_
 refine simL_val (q_eql rfl rfl rfl) rfl rfl rfl (simL_nil (nrm_then ?_))
 refine sim_cond rfl (fun h18v => ?_) (fun h19v => ?_)
 refine sim_region ?_
 refine simL_val (q_loado 1 rfl rfl Try.isAgg23 Try.sizeOf23 rfl rfl) rfl rfl rfl ?_
 refine simL_bind (fun s20v hs22v => ?_)
 refine simL_eff (re_call (vs := [.agg #[.int .i64 s3v.1, .int .i64 s6v.1, .int .i64 s9v.1]]) (cap := []) (A := []) (rst := [obj b2v 152 [.slice a0 x0.length c0, .int .i64 s9v.2.1, .int .i64 s9v.2.2], obj b12v 23 [.int .i64 s3v.1, .int .i64 s6v.1, .int .i64 s9v.1], obj b1v 23 [.int .i64 0, .int .i64 0, .int .i64 0], F]) rfl rfl rfl rfl rfl rfl Try.call16 (.sel 0 rfl (.sel 0 rfl (.sel 0 rfl (.sel 0 rfl (.nil _))))) (synodref3_CheckState.calls _ _ s3v.1 s6v.1 s9v.1 ) hs22v) rfl rfl rfl ?_
 intro y21v
 refine simL_val (q_asg rfl rfl) rfl rfl rfl (simL_nil ?_)
 exact nrm_cut (s := s20v) () ⟨rfl, rfl, rfl, trivial⟩ (.sel 1 rfl (.sel 1 rfl (.sel 1 rfl (.nil _))))
 refine sim_skip ?_
 exact nrm_cut (s := s13v) () ⟨rfl, rfl, rfl, trivial⟩ (.sel 1 rfl (.sel 1 rfl (.sel 1 rfl (.nil _))))
 intro s16v y17v
 refine sim_seq (sim_seq (sim_region ?_))
 refine simL_val (q_move rfl rfl) rfl rfl rfl ?_
 refine simL_val (q_neq rfl rfl rfl) rfl rfl rfl (simL_nil (nrm_then ?_))
 refine sim_condn rfl (fun h23v => ?_) (fun h24v => ?_)
 refine sim_skip ?_
 refine nrm_then (sim_seq (sim_region ?_))
 refine simL_val (q_loado 0 rfl rfl Try.isAgg23 Try.sizeOf23 rfl rfl) rfl rfl rfl ?_
 refine simL_val (q_move rfl rfl) rfl rfl rfl ?_
 refine simL_do (re_store 1 rfl rfl rfl Try.sizeOf23 rfl rfl (one_of (by rfl)) rfl rfl) rfl rfl ?_
 intro _
 refine simL_val (q_asg rfl rfl) rfl rfl rfl (simL_nil (nrm_then (sim_rtn ?_)))
 exact rtn_fnC (vs := [.agg #[.int .i64 s3v.1, .int .i64 s6v.1, .int .i64 s9v.1], .int .i64 s16v]) () rfl ⟨⟨b1v, rfl, load_agg 1 Try.isAgg23 Try.sizeOf23 rfl rfl⟩, rfl, trivial⟩ rfl (.sel 2 rfl (.nil _))
 refine sim_seq (sim_region ?_)
 refine simL_val (q_build (v := .agg #[.int .i64 0, .int .i64 0, .int .i64 0]) rfl rfl (fun _ => by kernel_rfl)) rfl rfl rfl ?_
 refine simL_val (q_move rfl rfl) rfl rfl rfl ?_
 refine simL_do (re_store 1 rfl rfl rfl Try.sizeOf23 rfl rfl (one_of (by rfl)) rfl rfl) rfl rfl ?_
 intro _
 refine simL_val (q_asg rfl rfl) rfl rfl rfl (simL_nil (nrm_then (sim_rtn ?_)))
 refine rtn_then ?_
 exact rtn_fnC (vs := [.agg #[.int .i64 0, .int .i64 0, .int .i64 0], .int .i64 s16v]) () rfl ⟨⟨b1v, rfl, load_agg 1 Try.isAgg23 Try.sizeOf23 rfl rfl⟩, rfl, trivial⟩ rfl (.sel 2 rfl (.nil _))

def codec_last_State_States.f (xp0_0 : List UInt8) (xp0_1 : Int) (xp0_2 : Int) (x2_0 : Int) (x2_1 : Int) (x2_2 : Int) : Option (Int × Int × Int × Int) := (wire_Reader_Done.f xp0_0 xp0_1 xp0_2).bind fun s3v => ((if s3v = (0 : Int) then ((codec_States_Check.f x2_0 x2_1 x2_2).bind fun s10v => (some s10v)) else (some s3v)).bind fun s6v => (if s6v = (0 : Int) then (some (x2_0, x2_1, x2_2, 0)) else (some (0, 0, 0, s6v))))
theorem codec_last_State_States.calls (W : World) (F : HA) (bp0 : Nat) (ap0_0 : Option Addr) (cp0_0 : Nat) (xp0_0 : List UInt8) (xp0_1 : Int) (xp0_2 : Int) (x2_0 : Int) (x2_1 : Int) (x2_2 : Int) (hp0_0 : Rd F ap0_0 (encB xp0_0)) (hcp0_0 : xp0_0.length ≤ cp0_0) (hmp0_0 : cp0_0 ≤ maxLen) :
    Fn Try.prog W 84 [.pointer (some ⟨bp0, 0, none⟩), .iface 40 (.agg #[]), .agg #[.int .i64 x2_0, .int .i64 x2_1, .int .i64 x2_2]] [obj bp0 194 [.slice ap0_0 xp0_0.length cp0_0, .int .i64 xp0_1, .int .i64 xp0_2]] F (codec_last_State_States.f xp0_0 xp0_1 xp0_2 x2_0 x2_1 x2_2) (fun (r : Int × Int × Int × Int) (y : Unit) => .tuple #[.agg #[.int .i64 r.1, .int .i64 r.2.1, .int .i64 r.2.2.1], .int .i64 r.2.2.2]) (fun r y => [obj bp0 194 [.slice ap0_0 xp0_0.length cp0_0, .int .i64 xp0_1, .int .i64 xp0_2]]) := by
 unfold codec_last_State_States.f
 refine fn_intro 22 Try.func84 rfl Try.ntmps84 rfl ?_
 refine sim_seq (sim_region ?_)
 refine simL_eff (re_box rfl rfl rfl) rfl rfl rfl ?_
 intro b1v
 refine simL_eff (re_alloc rfl Try.zeroValue23 rfl) rfl rfl rfl ?_
 intro b2v
 refine simL_val (q_asg rfl rfl) rfl rfl rfl (simL_nil (nrm_then (sim_seq (sim_region ?_))))
 refine simL_val (q_move rfl rfl) rfl rfl rfl ?_
 refine simL_bind (fun s3v hs5v => ?_)
 refine simL_eff (re_call (vs := [.pointer (some ⟨bp0, 0, none⟩)]) (cap := []) (A := [obj bp0 194 [.slice ap0_0 xp0_0.length cp0_0, .int .i64 xp0_1, .int .i64 xp0_2]]) (rst := [obj b2v 23 [.int .i64 0, .int .i64 0, .int .i64 0], obj b1v 23 [.int .i64 x2_0, .int .i64 x2_1, .int .i64 x2_2], F]) rfl rfl rfl rfl rfl rfl Try.call124 (.sel 2 rfl (.sel 0 rfl (.sel 0 rfl (.sel 0 rfl (.nil _))))) (wire_Reader_Done.calls _ _ bp0 ap0_0 cp0_0 xp0_0 xp0_1 xp0_2 (hp0_0.lend 2 rfl) hcp0_0 hmp0_0) hs5v) rfl rfl rfl ?_
 intro y4v
 refine simL_val (q_asg rfl rfl) rfl rfl rfl (simL_nil (nrm_then ?_))
 refine sim_cut (S := Int) (Unit) (fun s y => [(5, .pointer (some ⟨b1v, 0, none⟩)), (6, .pointer (some ⟨b2v, 0, none⟩)), (8, .int .i64 s)]) (fun s y => [obj bp0 194 [.slice ap0_0 xp0_0.length cp0_0, .int .i64 xp0_1, .int .i64 xp0_2], obj b2v 23 [.int .i64 0, .int .i64 0, .int .i64 0], obj b1v 23 [.int .i64 x2_0, .int .i64 x2_1, .int .i64 x2_2], F]) ?_ ?_
 refine sim_seq (sim_region ?_)
 refine simL_val (q_move rfl rfl) rfl rfl rfl ?_
 refine simL_val (q_eql rfl rfl rfl) rfl rfl rfl (simL_nil (nrm_then ?_))
 refine sim_cond rfl (fun h8v => ?_) (fun h9v => ?_)
 refine sim_region ?_
 refine simL_val (q_move rfl rfl) rfl rfl rfl ?_
 refine simL_val (q_loado 2 rfl rfl Try.isAgg23 Try.sizeOf23 rfl rfl) rfl rfl rfl ?_
 refine simL_bind (fun s10v hs12v => ?_)
 refine simL_eff (re_invoke (vs := [.agg #[.int .i64 x2_0, .int .i64 x2_1, .int .i64 x2_2]]) (A := []) (rst := [obj bp0 194 [.slice ap0_0 xp0_0.length cp0_0, .int .i64 xp0_1, .int .i64 xp0_2], obj b2v 23 [.int .i64 0, .int .i64 0, .int .i64 0], obj b1v 23 [.int .i64 x2_0, .int .i64 x2_1, .int .i64 x2_2], F]) rfl rfl rfl rfl rfl (fun _ => by kernel_rfl) Try.call27 (.sel 0 rfl (.sel 0 rfl (.sel 0 rfl (.sel 0 rfl (.nil _))))) (codec_States_Check.calls _ _ x2_0 x2_1 x2_2 ) hs12v) rfl rfl rfl ?_
 intro y11v
 refine simL_val (q_asg rfl rfl) rfl rfl rfl (simL_nil ?_)
 exact nrm_cut (s := s10v) () ⟨rfl, rfl, rfl, trivial⟩ (.sel 0 rfl (.sel 0 rfl (.sel 0 rfl (.sel 0 rfl (.nil _)))))
 refine sim_skip ?_
 exact nrm_cut (s := s3v) () ⟨rfl, rfl, rfl, trivial⟩ (.sel 0 rfl (.sel 0 rfl (.sel 0 rfl (.sel 0 rfl (.nil _)))))
 intro s6v y7v
 refine sim_seq (sim_seq (sim_region ?_))
 refine simL_val (q_move rfl rfl) rfl rfl rfl ?_
 refine simL_val (q_neq rfl rfl rfl) rfl rfl rfl (simL_nil (nrm_then ?_))
 refine sim_condn rfl (fun h13v => ?_) (fun h14v => ?_)
 refine sim_skip ?_
 refine nrm_then (sim_seq (sim_region ?_))
 refine simL_val (q_loado 2 rfl rfl Try.isAgg23 Try.sizeOf23 rfl rfl) rfl rfl rfl ?_
 refine simL_do (re_store 1 rfl rfl rfl Try.sizeOf23 rfl rfl (one_of (by rfl)) rfl rfl) rfl rfl ?_
 intro _
 refine simL_val (q_asg rfl rfl) rfl rfl rfl (simL_nil (nrm_then (sim_rtn ?_)))
 exact rtn_fnC (vs := [.agg #[.int .i64 x2_0, .int .i64 x2_1, .int .i64 x2_2], .int .i64 0]) () rfl ⟨⟨b2v, rfl, load_agg 1 Try.isAgg23 Try.sizeOf23 rfl rfl⟩, rfl, trivial⟩ rfl (.sel 0 rfl (.sel 2 rfl (.nil _)))
 refine sim_seq (sim_region ?_)
 refine simL_eff (re_alloc rfl Try.zeroValue23 rfl) rfl rfl rfl ?_
 intro b15v
 refine simL_nil (nrm_then (sim_seq (sim_region ?_)))
 refine simL_val (q_loado 0 rfl rfl Try.isAgg23 Try.sizeOf23 rfl rfl) rfl rfl rfl ?_
 refine simL_val (q_move rfl rfl) rfl rfl rfl ?_
 refine simL_do (re_store 2 rfl rfl rfl Try.sizeOf23 rfl rfl (one_of (by rfl)) rfl rfl) rfl rfl ?_
 intro _
 refine simL_val (q_asg rfl rfl) rfl rfl rfl (simL_nil (nrm_then (sim_rtn ?_)))
 refine rtn_then ?_
 exact rtn_fnC (vs := [.agg #[.int .i64 0, .int .i64 0, .int .i64 0], .int .i64 s6v]) () rfl ⟨⟨b2v, rfl, load_agg 2 Try.isAgg23 Try.sizeOf23 rfl rfl⟩, rfl, trivial⟩ rfl (.sel 1 rfl (.sel 3 rfl (.nil _)))
def codec_last_State_States.v (xp0_0 : List UInt8) (xp0_1 : Int) (xp0_2 : Int) (x2_0 : Int) (x2_1 : Int) (x2_2 : Int) : Int × Int × Int × Int := (codec_last_State_States.f xp0_0 xp0_1 xp0_2 x2_0 x2_1 x2_2).getD (0, 0, 0, 0)
theorem codec_last_State_States.tot (xp0_0 : List UInt8) (xp0_1 : Int) (xp0_2 : Int) (x2_0 : Int) (x2_1 : Int) (x2_2 : Int) : codec_last_State_States.f xp0_0 xp0_1 xp0_2 x2_0 x2_1 x2_2 = some (codec_last_State_States.v xp0_0 xp0_1 xp0_2 x2_0 x2_1 x2_2) := by
  have h : ∃ r, codec_last_State_States.f xp0_0 xp0_1 xp0_2 x2_0 x2_1 x2_2 = some r := by
    unfold codec_last_State_States.f
    repeat' (first | exact ⟨_, rfl⟩ | split | simp only [Option.bind_some, wire_Reader_Done.tot, codec_States_Check.tot])
  obtain ⟨r, h⟩ := h
  unfold codec_last_State_States.v
  rw [h]; rfl

def codec_States_Get.f (k : Nat) (x1 : List UInt8) : Option (Int × Int × Int × Int) := (wire_NewReader.f x1).bind fun s3v => ((wire_Reader_Int.f k s3v.1 s3v.2.1 s3v.2.2).bind fun s10v => ((wire_Reader_Int.f k s3v.1 s10v.2.1 s10v.2.2).bind fun s17v => ((wire_Reader_Int.f k s3v.1 s17v.2.1 s17v.2.2).bind fun s24v => ((codec_last_State_States.f s3v.1 s24v.2.1 s24v.2.2 s10v.1 s17v.1 s24v.1).bind fun s32v => (some (s32v.1, s32v.2.1, s32v.2.2.1, s32v.2.2.2))))))
theorem codec_States_Get.calls (W : World) (F : HA) (k : Nat) (a1 : Option Addr) (c1 : Nat) (x1 : List UInt8) (h1 : Rd F a1 (encB x1)) (hc1 : x1.length ≤ c1) (hm1 : c1 ≤ maxLen) :
    Fn Try.prog W 29 [.agg #[], .slice a1 x1.length c1] [] F (codec_States_Get.f k x1) (fun (r : Int × Int × Int × Int) (y : Unit) => .tuple #[.agg #[.int .i64 r.1, .int .i64 r.2.1, .int .i64 r.2.2.1], .int .i64 r.2.2.2]) (fun r y => []) := by
 unfold codec_States_Get.f
 refine fn_intro 24 Try.func29 rfl Try.ntmps29 rfl ?_
 refine sim_seq (sim_region ?_)
 refine simL_eff (re_box rfl rfl rfl) rfl rfl rfl ?_
 intro b1v
 refine simL_eff (re_alloc rfl Try.zeroValue23 rfl) rfl rfl rfl ?_
 intro b2v
 refine simL_val (q_asg rfl rfl) rfl rfl rfl (simL_nil (nrm_then (sim_seq (sim_region ?_))))
 refine simL_val (q_move rfl rfl) rfl rfl rfl ?_
 refine simL_bind (fun s3v hs5v => ?_)
 refine simL_eff (re_call (vs := [.slice a1 x1.length c1]) (cap := []) (A := []) (rst := [obj b2v 23 [.int .i64 0, .int .i64 0, .int .i64 0], obj b1v 40 [], F]) rfl rfl rfl rfl rfl rfl Try.call82 (.sel 0 rfl (.sel 0 rfl (.sel 0 rfl (.nil _)))) (wire_NewReader.calls _ _ a1 c1 x1 (h1.lend 2 rfl) hc1 hm1) hs5v) rfl rfl rfl ?_
 intro y4v
 refine simL_val (q_asg rfl rfl) rfl rfl rfl (simL_nil (nrm_then (sim_seq (sim_region ?_))))
 refine simL_val (q_move rfl rfl) rfl rfl rfl ?_
 refine simL_bind (fun s10v hs12v => ?_)
 refine simL_lend 1 rfl (fun hq6v hq7v hq8v hq9v => ?_)
 refine simL_eff (re_call (vs := [.pointer (some ⟨y4v.1, 0, none⟩)]) (cap := []) (A := [obj y4v.1 194 [.slice y4v.2.1 s3v.1.length y4v.2.2, .int .i64 s3v.2.1, .int .i64 s3v.2.2]]) (rst := [Row 5 1 y4v.2.1 s3v.1.length y4v.2.2 (encB s3v.1), obj b2v 23 [.int .i64 0, .int .i64 0, .int .i64 0], obj b1v 40 [], F]) rfl rfl rfl rfl rfl rfl Try.call83 (.sel 0 rfl (.sel 0 rfl (.sel 0 rfl (.sel 0 rfl (.sel 0 rfl (.nil _)))))) (wire_Reader_Int.calls _ _ k y4v.1 y4v.2.1 y4v.2.2 s3v.1 s3v.2.1 s3v.2.2 (hq6v.lend 0 rfl) hq7v hq8v) hs12v) rfl rfl rfl ?_
 intro y11v
 refine simL_val (q_move rfl rfl) rfl rfl rfl ?_
 refine simL_bind (fun s17v hs19v => ?_)
 refine simL_lend 1 rfl (fun hq13v hq14v hq15v hq16v => ?_)
 refine simL_eff (re_call (vs := [.pointer (some ⟨y4v.1, 0, none⟩)]) (cap := []) (A := [obj y4v.1 194 [.slice y4v.2.1 s3v.1.length y4v.2.2, .int .i64 s10v.2.1, .int .i64 s10v.2.2]]) (rst := [Row 5 1 y4v.2.1 s3v.1.length y4v.2.2 (encB s3v.1), obj b2v 23 [.int .i64 0, .int .i64 0, .int .i64 0], obj b1v 40 [], F]) rfl rfl rfl rfl rfl rfl Try.call83 (.sel 0 rfl (.sel 0 rfl (.sel 0 rfl (.sel 0 rfl (.sel 0 rfl (.nil _)))))) (wire_Reader_Int.calls _ _ k y4v.1 y4v.2.1 y4v.2.2 s3v.1 s10v.2.1 s10v.2.2 (hq13v.lend 0 rfl) hq14v hq15v) hs19v) rfl rfl rfl ?_
 intro y18v
 refine simL_val (q_move rfl rfl) rfl rfl rfl ?_
 refine simL_bind (fun s24v hs26v => ?_)
 refine simL_lend 1 rfl (fun hq20v hq21v hq22v hq23v => ?_)
 refine simL_eff (re_call (vs := [.pointer (some ⟨y4v.1, 0, none⟩)]) (cap := []) (A := [obj y4v.1 194 [.slice y4v.2.1 s3v.1.length y4v.2.2, .int .i64 s17v.2.1, .int .i64 s17v.2.2]]) (rst := [Row 5 1 y4v.2.1 s3v.1.length y4v.2.2 (encB s3v.1), obj b2v 23 [.int .i64 0, .int .i64 0, .int .i64 0], obj b1v 40 [], F]) rfl rfl rfl rfl rfl rfl Try.call83 (.sel 0 rfl (.sel 0 rfl (.sel 0 rfl (.sel 0 rfl (.sel 0 rfl (.nil _)))))) (wire_Reader_Int.calls _ _ k y4v.1 y4v.2.1 y4v.2.2 s3v.1 s17v.2.1 s17v.2.2 (hq20v.lend 0 rfl) hq21v hq22v) hs26v) rfl rfl rfl ?_
 intro y25v
 refine simL_val (q_build (v := .agg #[.int .i64 s10v.1, .int .i64 s17v.1, .int .i64 s24v.1]) rfl rfl (fun _ => by kernel_rfl)) rfl rfl rfl ?_
 refine simL_eff (re_alloc rfl Try.zeroValue23 rfl) rfl rfl rfl ?_
 intro b27v
 refine simL_do (re_store 0 rfl rfl rfl Try.sizeOf23 rfl rfl (one_of (by rfl)) rfl rfl) rfl rfl ?_
 intro _
 refine simL_nil (nrm_then (sim_seq (sim_region ?_)))
 refine simL_val (q_move rfl rfl) rfl rfl rfl ?_
 refine simL_val (q_loado 4 rfl rfl Try.isAgg40 Try.sizeOf40 rfl rfl) rfl rfl rfl ?_
 refine simL_val (q_mkif rfl rfl Try.underlying40 rfl) rfl rfl rfl ?_
 refine simL_val (q_loado 0 rfl rfl Try.isAgg23 Try.sizeOf23 rfl rfl) rfl rfl rfl ?_
 refine simL_bind (fun s32v hs34v => ?_)
 refine simL_lend 2 rfl (fun hq28v hq29v hq30v hq31v => ?_)
 refine simL_eff (re_call (vs := [.pointer (some ⟨y4v.1, 0, none⟩), .iface 40 (.agg #[]), .agg #[.int .i64 s10v.1, .int .i64 s17v.1, .int .i64 s24v.1]]) (cap := []) (A := [obj y4v.1 194 [.slice y4v.2.1 s3v.1.length y4v.2.2, .int .i64 s24v.2.1, .int .i64 s24v.2.2]]) (rst := [obj b27v 23 [.int .i64 s10v.1, .int .i64 s17v.1, .int .i64 s24v.1], Row 5 1 y4v.2.1 s3v.1.length y4v.2.2 (encB s3v.1), obj b2v 23 [.int .i64 0, .int .i64 0, .int .i64 0], obj b1v 40 [], F]) rfl rfl rfl rfl rfl rfl Try.call84 (.sel 1 rfl (.sel 0 rfl (.sel 0 rfl (.sel 0 rfl (.sel 0 rfl (.sel 0 rfl (.nil _))))))) (codec_last_State_States.calls _ _ y4v.1 y4v.2.1 y4v.2.2 s3v.1 s24v.2.1 s24v.2.2 s10v.1 s17v.1 s24v.1 (hq28v.lend 1 rfl) hq29v hq30v) hs34v) rfl rfl rfl ?_
 intro y33v
 refine simL_val (q_ext rfl rfl rfl) rfl rfl rfl ?_
 refine simL_val (q_ext rfl rfl rfl) rfl rfl rfl ?_
 refine simL_do (re_store 3 rfl rfl rfl Try.sizeOf23 rfl rfl (one_of (by rfl)) rfl rfl) rfl rfl ?_
 intro _
 refine simL_val (q_asg rfl rfl) rfl rfl rfl (simL_nil (nrm_then (sim_rtn ?_)))
 exact rtn_fnC (vs := [.agg #[.int .i64 s32v.1, .int .i64 s32v.2.1, .int .i64 s32v.2.2.1], .int .i64 s32v.2.2.2]) () rfl ⟨⟨b2v, rfl, load_agg 3 Try.isAgg23 Try.sizeOf23 rfl rfl⟩, rfl, trivial⟩ rfl (.sel 5 rfl (.nil _))

def wire_Reader_Text.f (k : Nat) (x0_0 : List UInt8) (x0_1 : Int) (x0_2 : Int) (x1 : Int) : Option (List UInt8 × Int × Int) := (wire_Reader_Bytes.f k x0_0 x0_1 x0_2 x1).bind fun s1v => (some (s1v.1, s1v.2.1, s1v.2.2))
theorem wire_Reader_Text.calls (W : World) (F : HA) (k : Nat) (b0 : Nat) (a0_0 : Option Addr) (c0_0 : Nat) (x0_0 : List UInt8) (x0_1 : Int) (x0_2 : Int) (x1 : Int) (h0_0 : Rd F a0_0 (encB x0_0)) (hc0_0 : x0_0.length ≤ c0_0) (hm0_0 : c0_0 ≤ maxLen) :
    Fn Try.prog W 99 [.pointer (some ⟨b0, 0, none⟩), .int .i64 x1] [obj b0 194 [.slice a0_0 x0_0.length c0_0, .int .i64 x0_1, .int .i64 x0_2]] F (wire_Reader_Text.f k x0_0 x0_1 x0_2 x1) (fun (r : List UInt8 × Int × Int) (y : Unit) => str r.1) (fun r y => [obj b0 194 [.slice a0_0 x0_0.length c0_0, .int .i64 r.2.1, .int .i64 r.2.2]]) := by
 unfold wire_Reader_Text.f
 refine fn_intro 9 Try.func99 rfl Try.ntmps99 rfl ?_
 refine sim_seq (sim_region ?_)
 refine simL_val (q_asg rfl rfl) rfl rfl rfl (simL_nil (nrm_then (sim_seq (sim_region ?_))))
 refine simL_val (q_move rfl rfl) rfl rfl rfl ?_
 refine simL_val (q_move rfl rfl) rfl rfl rfl ?_
 refine simL_bind (fun s1v hs3v => ?_)
 refine simL_eff (re_call (vs := [.pointer (some ⟨b0, 0, none⟩), .int .i64 x1]) (cap := []) (A := [obj b0 194 [.slice a0_0 x0_0.length c0_0, .int .i64 x0_1, .int .i64 x0_2]]) (rst := [F]) rfl rfl rfl rfl rfl rfl Try.call90 (.sel 0 rfl (.sel 0 rfl (.nil _))) (wire_Reader_Bytes.calls _ _ k b0 a0_0 c0_0 x0_0 x0_1 x0_2 x1 (h0_0.lend 0 rfl) hc0_0 hm0_0) hs3v) rfl rfl rfl ?_
 intro y2v
 refine simL_val (q_tostr rfl rfl Try.underlying27 Try.underlying5 Try.underlying9 (Rds.row 0 rfl) rfl) rfl rfl rfl ?_
 refine simL_val (q_asg rfl rfl) rfl rfl rfl (simL_nil (nrm_then (sim_rtn ?_)))
 exact rtn_fn () rfl rfl rfl (.sel 1 rfl (.sel 1 rfl (.nil _)))

def synodref1_Reader_Text.f (k : Nat) (x0_0 : List UInt8) (x0_1 : Int) (x0_2 : Int) (x1 : Int) : Option (List UInt8 × Int × Int) := (synodref1_Reader_Bytes.f k x0_0 x0_1 x0_2 x1).bind fun s1v => (some (s1v.1, s1v.2.1, s1v.2.2))
theorem synodref1_Reader_Text.calls (W : World) (F : HA) (k : Nat) (b0 : Nat) (a0_0 : Option Addr) (c0_0 : Nat) (x0_0 : List UInt8) (x0_1 : Int) (x0_2 : Int) (x1 : Int) (h0_0 : Rd F a0_0 (encB x0_0)) (hc0_0 : x0_0.length ≤ c0_0) (hm0_0 : c0_0 ≤ maxLen) :
    Fn Try.prog W 101 [.pointer (some ⟨b0, 0, none⟩), .int .i64 x1] [obj b0 152 [.slice a0_0 x0_0.length c0_0, .int .i64 x0_1, .int .i64 x0_2]] F (synodref1_Reader_Text.f k x0_0 x0_1 x0_2 x1) (fun (r : List UInt8 × Int × Int) (y : Unit) => str r.1) (fun r y => [obj b0 152 [.slice a0_0 x0_0.length c0_0, .int .i64 r.2.1, .int .i64 r.2.2]]) := by
 unfold synodref1_Reader_Text.f
 refine fn_intro 9 Try.func101 rfl Try.ntmps101 rfl ?_
 refine sim_seq (sim_region ?_)
 refine simL_val (q_asg rfl rfl) rfl rfl rfl (simL_nil (nrm_then (sim_seq (sim_region ?_))))
 refine simL_val (q_move rfl rfl) rfl rfl rfl ?_
 refine simL_val (q_move rfl rfl) rfl rfl rfl ?_
 refine simL_bind (fun s1v hs3v => ?_)
 refine simL_eff (re_call (vs := [.pointer (some ⟨b0, 0, none⟩), .int .i64 x1]) (cap := []) (A := [obj b0 152 [.slice a0_0 x0_0.length c0_0, .int .i64 x0_1, .int .i64 x0_2]]) (rst := [F]) rfl rfl rfl rfl rfl rfl Try.call92 (.sel 0 rfl (.sel 0 rfl (.nil _))) (synodref1_Reader_Bytes.calls _ _ k b0 a0_0 c0_0 x0_0 x0_1 x0_2 x1 (h0_0.lend 0 rfl) hc0_0 hm0_0) hs3v) rfl rfl rfl ?_
 intro y2v
 refine simL_val (q_tostr rfl rfl Try.underlying27 Try.underlying5 Try.underlying9 (Rds.row 0 rfl) rfl) rfl rfl rfl ?_
 refine simL_val (q_asg rfl rfl) rfl rfl rfl (simL_nil (nrm_then (sim_rtn ?_)))
 exact rtn_fn () rfl rfl rfl (.sel 1 rfl (.sel 1 rfl (.nil _)))

def synodref1_Reader_Bool.f (k : Nat) (x0_0 : List UInt8) (x0_1 : Int) (x0_2 : Int) : Option (Bool × Int × Int) := (synodref1_Reader_Int.f k x0_0 x0_1 x0_2).bind fun s1v => ((if ((decide (s1v.2.2 = (0 : Int))) && (decide ((1 : Int) < s1v.1))) = true then (some (x0_1, 4)) else (some (s1v.2.1, s1v.2.2))).bind fun s4v => (some ((decide (s4v.2 = (0 : Int))) && (decide (s1v.1 = (1 : Int))), s4v.1, s4v.2)))
theorem synodref1_Reader_Bool.calls (W : World) (F : HA) (k : Nat) (b0 : Nat) (a0_0 : Option Addr) (c0_0 : Nat) (x0_0 : List UInt8) (x0_1 : Int) (x0_2 : Int) (h0_0 : Rd F a0_0 (encB x0_0)) (hc0_0 : x0_0.length ≤ c0_0) (hm0_0 : c0_0 ≤ maxLen) :
    Fn Try.prog W 117 [.pointer (some ⟨b0, 0, none⟩)] [obj b0 152 [.slice a0_0 x0_0.length c0_0, .int .i64 x0_1, .int .i64 x0_2]] F (synodref1_Reader_Bool.f k x0_0 x0_1 x0_2) (fun (r : Bool × Int × Int) (y : Unit) => .bool r.1) (fun r y => [obj b0 152 [.slice a0_0 x0_0.length c0_0, .int .i64 r.2.1, .int .i64 r.2.2]]) := by
 unfold synodref1_Reader_Bool.f
 refine fn_intro 36 Try.func117 rfl Try.ntmps117 rfl ?_
 refine sim_seq (sim_region ?_)
 refine simL_val (q_asg rfl rfl) rfl rfl rfl (simL_nil (nrm_then (sim_seq (sim_region ?_))))
 refine simL_val (q_move rfl rfl) rfl rfl rfl ?_
 refine simL_val (q_nil rfl rfl) rfl rfl rfl ?_
 refine simL_val (q_fa rfl rfl Try.underlying152 rfl rfl Try.sizeOf3 rfl) rfl rfl rfl ?_
 refine simL_val (q_load rfl rfl Try.isAgg3 (.obj 0 rfl rfl)) rfl rfl rfl ?_
 refine simL_val (q_asg rfl rfl) rfl rfl rfl (simL_nil (nrm_then (sim_seq (sim_region ?_))))
 refine simL_val (q_move rfl rfl) rfl rfl rfl ?_
 refine simL_bind (fun s1v hs3v => ?_)
 refine simL_eff (re_call (vs := [.pointer (some ⟨b0, 0, none⟩)]) (cap := []) (A := [obj b0 152 [.slice a0_0 x0_0.length c0_0, .int .i64 x0_1, .int .i64 x0_2]]) (rst := [F]) rfl rfl rfl rfl rfl rfl Try.call85 (.sel 0 rfl (.sel 0 rfl (.nil _))) (synodref1_Reader_Int.calls _ _ k b0 a0_0 c0_0 x0_0 x0_1 x0_2 (h0_0.lend 0 rfl) hc0_0 hm0_0) hs3v) rfl rfl rfl ?_
 intro y2v
 refine simL_val (q_asg rfl rfl) rfl rfl rfl (simL_nil (nrm_then ?_))
 refine sim_cut (S := Int × Int) (Unit) (fun s y => [(0, .pointer (some ⟨b0, 0, none⟩)), (4, .int .i64 s1v.1)]) (fun s y => [obj b0 152 [.slice a0_0 x0_0.length c0_0, .int .i64 s.1, .int .i64 s.2], F]) ?_ ?_
 refine sim_seq (sim_region ?_)
 refine simL_val (q_move rfl rfl) rfl rfl rfl ?_
 refine simL_val (q_nil rfl rfl) rfl rfl rfl ?_
 refine simL_val (q_fa rfl rfl Try.underlying152 rfl rfl Try.sizeOf3 rfl) rfl rfl rfl ?_
 refine simL_val (q_load rfl rfl Try.isAgg3 (.obj 0 rfl rfl)) rfl rfl rfl ?_
 refine simL_val (q_eql rfl rfl rfl) rfl rfl rfl ?_
 refine simL_val (q_move rfl rfl) rfl rfl rfl ?_
 refine simL_valc (b := decide (s1v.2.2 = (0 : Int))) (fun hb9v => RQ.sub (E' := [(4, .int .i64 s1v.1)]) ⟨rfl, trivial⟩ (q_move rfl rfl)) rfl rfl rfl rfl rfl ?_
 refine simL_valc (b := decide (s1v.2.2 = (0 : Int))) (fun hb8v => RQ.sub (E' := [(17, .int .i64 s1v.1)]) ⟨lk_cv rfl hb8v, trivial⟩ (q_gtr rfl rfl rfl)) rfl rfl rfl rfl rfl ?_
 refine simL_val (q_and rfl rfl rfl) rfl rfl rfl (simL_nil (nrm_then ?_))
 refine sim_condb rfl (fun h6v => ?_) (fun h7v => ?_)
 refine sim_seq (sim_region ?_)
 refine simL_val (q_move rfl rfl) rfl rfl rfl ?_
 refine simL_val (q_nil rfl rfl) rfl rfl rfl ?_
 refine simL_val (q_fa rfl rfl Try.underlying152 rfl rfl Try.sizeOf3 rfl) rfl rfl rfl ?_
 refine simL_do (re_store 0 rfl rfl rfl Try.sizeOf3 rfl rfl (one_of (by rfl)) rfl rfl) rfl rfl ?_
 intro _
 refine simL_nil (nrm_then (sim_region ?_))
 refine simL_val (q_move rfl rfl) rfl rfl rfl ?_
 refine simL_val (q_move rfl rfl) rfl rfl rfl ?_
 refine simL_val (q_nil rfl rfl) rfl rfl rfl ?_
 refine simL_val (q_fa rfl rfl Try.underlying152 rfl rfl Try.sizeOf3 rfl) rfl rfl rfl ?_
 refine simL_do (re_store 0 rfl rfl rfl Try.sizeOf3 rfl rfl (one_of (by rfl)) rfl rfl) rfl rfl ?_
 intro _
 refine simL_nil ?_
 exact nrm_cut (s := (x0_1, 4)) () ⟨rfl, rfl, trivial⟩ (.sel 0 rfl (.sel 0 rfl (.nil _)))
 refine sim_skip ?_
 exact nrm_cut (s := (s1v.2.1, s1v.2.2)) () ⟨rfl, rfl, trivial⟩ (.sel 0 rfl (.sel 0 rfl (.nil _)))
 intro s4v y5v
 refine sim_seq (sim_region ?_)
 refine simL_val (q_move rfl rfl) rfl rfl rfl ?_
 refine simL_val (q_nil rfl rfl) rfl rfl rfl ?_
 refine simL_val (q_fa rfl rfl Try.underlying152 rfl rfl Try.sizeOf3 rfl) rfl rfl rfl ?_
 refine simL_val (q_load rfl rfl Try.isAgg3 (.obj 0 rfl rfl)) rfl rfl rfl ?_
 refine simL_val (q_eql rfl rfl rfl) rfl rfl rfl ?_
 refine simL_val (q_move rfl rfl) rfl rfl rfl ?_
 refine simL_valc (b := decide (s4v.2 = (0 : Int))) (fun hb11v => RQ.sub (E' := [(4, .int .i64 s1v.1)]) ⟨rfl, trivial⟩ (q_move rfl rfl)) rfl rfl rfl rfl rfl ?_
 refine simL_valc (b := decide (s4v.2 = (0 : Int))) (fun hb10v => RQ.sub (E' := [(33, .int .i64 s1v.1)]) ⟨lk_cv rfl hb10v, trivial⟩ (q_eql rfl rfl rfl)) rfl rfl rfl rfl rfl ?_
 refine simL_val (q_and rfl rfl rfl) rfl rfl rfl ?_
 refine simL_val (q_asg rfl rfl) rfl rfl rfl (simL_nil (nrm_then (sim_rtn ?_)))
 exact rtn_fn () rfl rfl rfl (.sel 0 rfl (.sel 0 rfl (.nil _)))

def synodref1_Writer_Text.f (k : Nat) (x0_0 : List UInt8) (x0_1 : Int) (x1 : List UInt8) (x2 : Int) : Option (List UInt8 × Int) := if x1.length ≤ 140737488355328 then ((synodref1_Writer_Bytes.f k x0_0 x0_1 x1 x2).bind fun s7v => (some (s7v.1, s7v.2))) else none
theorem synodref1_Writer_Text.calls (W : World) (F : HA) (k : Nat) (b0 : Nat) (a0_0 : Option Addr) (c0_0 : Nat) (x0_0 : List UInt8) (x0_1 : Int) (x1 : List UInt8) (x2 : Int)  :
    Fn Try.prog W 98 [.pointer (some ⟨b0, 0, none⟩), str x1, .int .i64 x2] [obj b0 143 [.slice a0_0 x0_0.length c0_0, .int .i64 x0_1], Row 5 1 a0_0 x0_0.length c0_0 (encB x0_0)] F (synodref1_Writer_Text.f k x0_0 x0_1 x1 x2) (fun (r : List UInt8 × Int) (y : Option Addr × Nat) => .tuple #[]) (fun r y => [obj b0 143 [.slice y.1 r.1.length y.2, .int .i64 r.2], Row 5 1 y.1 r.1.length y.2 (encB r.1)]) := by
 unfold synodref1_Writer_Text.f
 refine fn_intro 11 Try.func98 rfl Try.ntmps98 rfl ?_
 refine sim_region ?_
 refine simL_val (q_move rfl rfl) rfl rfl rfl ?_
 refine simL_val (q_move rfl rfl) rfl rfl rfl ?_
 refine simL_ask (fun hb2v => ?_)
 refine simL_eff (re_tobytes rfl rfl Try.underlying9 Try.underlying27 Try.underlying5 hb2v) rfl rfl rfl ?_
 intro y1v
 refine simL_val (q_move rfl rfl) rfl rfl rfl ?_
 refine simL_bind (fun s7v hs9v => ?_)
 refine simL_lend 0 rfl (fun hq3v hq4v hq5v hq6v => ?_)
 refine simL_eff (re_call (vs := [.pointer (some ⟨b0, 0, none⟩), .slice (some ⟨y1v.1, 0, none⟩) x1.length y1v.2, .int .i64 x2]) (cap := []) (A := [obj b0 143 [.slice a0_0 x0_0.length c0_0, .int .i64 x0_1], Row 5 1 a0_0 x0_0.length c0_0 (encB x0_0)]) (rst := [Row 5 1 (some ⟨y1v.1, 0, none⟩) x1.length y1v.2 (encB x1), F]) rfl rfl rfl rfl rfl rfl Try.call89 (.sel 1 rfl (.sel 1 rfl (.sel 0 rfl (.sel 0 rfl (.nil _))))) (synodref1_Writer_Bytes.calls _ _ k b0 a0_0 c0_0 x0_0 x0_1 (some ⟨y1v.1, 0, none⟩) y1v.2 x1 x2 (hq3v.lend 0 rfl) hq4v hq5v) hs9v) rfl rfl rfl ?_
 intro y8v
 refine simL_nil ?_
 exact nrm_fn (y8v.1, y8v.2) rfl rfl rfl (.sel 0 rfl (.sel 0 rfl (.sel 1 rfl (.nil _))))

def synodref1_Writer_Bool.f (k : Nat) (x0_0 : List UInt8) (x0_1 : Int) (x1 : Bool) : Option (List UInt8 × Int) := if x1 = true then ((synodref1_Writer_Int.f k x0_0 x0_1 (1 : Int)).bind fun s3v => (some (s3v.1, s3v.2))) else ((synodref1_Writer_Int.f k x0_0 x0_1 (0 : Int)).bind fun s6v => (some (s6v.1, s6v.2)))
theorem synodref1_Writer_Bool.calls (W : World) (F : HA) (k : Nat) (b0 : Nat) (a0_0 : Option Addr) (c0_0 : Nat) (x0_0 : List UInt8) (x0_1 : Int) (x1 : Bool)  :
    Fn Try.prog W 106 [.pointer (some ⟨b0, 0, none⟩), .bool x1] [obj b0 143 [.slice a0_0 x0_0.length c0_0, .int .i64 x0_1], Row 5 1 a0_0 x0_0.length c0_0 (encB x0_0)] F (synodref1_Writer_Bool.f k x0_0 x0_1 x1) (fun (r : List UInt8 × Int) (y : Option Addr × Nat) => .tuple #[]) (fun r y => [obj b0 143 [.slice y.1 r.1.length y.2, .int .i64 r.2], Row 5 1 y.1 r.1.length y.2 (encB r.1)]) := by
 unfold synodref1_Writer_Bool.f
 refine fn_intro 9 Try.func106 rfl Try.ntmps106 rfl ?_
 refine sim_seq (sim_region ?_)
 refine simL_val (q_move rfl rfl) rfl rfl rfl (simL_nil (nrm_then ?_))
 refine sim_condb rfl (fun h1v => ?_) (fun h2v => ?_)
 refine sim_region ?_
 refine simL_val (q_move rfl rfl) rfl rfl rfl ?_
 refine simL_bind (fun s3v hs5v => ?_)
 refine simL_eff (re_call (vs := [.pointer (some ⟨b0, 0, none⟩), .int .i64 1]) (cap := []) (A := [obj b0 143 [.slice a0_0 x0_0.length c0_0, .int .i64 x0_1], Row 5 1 a0_0 x0_0.length c0_0 (encB x0_0)]) (rst := [F]) rfl rfl rfl rfl rfl rfl Try.call79 (.sel 0 rfl (.sel 0 rfl (.sel 0 rfl (.nil _)))) (synodref1_Writer_Int.calls _ _ k b0 a0_0 c0_0 x0_0 x0_1 (1 : Int) ) hs5v) rfl rfl rfl ?_
 intro y4v
 refine simL_nil ?_
 exact nrm_fn (y4v.1, y4v.2) rfl rfl rfl (.sel 0 rfl (.sel 0 rfl (.sel 0 rfl (.nil _))))
 refine sim_region ?_
 refine simL_val (q_move rfl rfl) rfl rfl rfl ?_
 refine simL_bind (fun s6v hs8v => ?_)
 refine simL_eff (re_call (vs := [.pointer (some ⟨b0, 0, none⟩), .int .i64 0]) (cap := []) (A := [obj b0 143 [.slice a0_0 x0_0.length c0_0, .int .i64 x0_1], Row 5 1 a0_0 x0_0.length c0_0 (encB x0_0)]) (rst := [F]) rfl rfl rfl rfl rfl rfl Try.call79 (.sel 0 rfl (.sel 0 rfl (.sel 0 rfl (.nil _)))) (synodref1_Writer_Int.calls _ _ k b0 a0_0 c0_0 x0_0 x0_1 (0 : Int) ) hs8v) rfl rfl rfl ?_
 intro y7v
 refine simL_nil ?_
 exact nrm_fn (y7v.1, y7v.2) rfl rfl rfl (.sel 0 rfl (.sel 0 rfl (.sel 0 rfl (.nil _))))

def wire_Writer_Text.f (k : Nat) (x0_0 : List UInt8) (x0_1 : Int) (x1 : List UInt8) (x2 : Int) : Option (List UInt8 × Int) := if x1.length ≤ 140737488355328 then ((wire_Writer_Bytes.f k x0_0 x0_1 x1 x2).bind fun s7v => (some (s7v.1, s7v.2))) else none
theorem wire_Writer_Text.calls (W : World) (F : HA) (k : Nat) (b0 : Nat) (a0_0 : Option Addr) (c0_0 : Nat) (x0_0 : List UInt8) (x0_1 : Int) (x1 : List UInt8) (x2 : Int)  :
    Fn Try.prog W 97 [.pointer (some ⟨b0, 0, none⟩), str x1, .int .i64 x2] [obj b0 187 [.slice a0_0 x0_0.length c0_0, .int .i64 x0_1], Row 5 1 a0_0 x0_0.length c0_0 (encB x0_0)] F (wire_Writer_Text.f k x0_0 x0_1 x1 x2) (fun (r : List UInt8 × Int) (y : Option Addr × Nat) => .tuple #[]) (fun r y => [obj b0 187 [.slice y.1 r.1.length y.2, .int .i64 r.2], Row 5 1 y.1 r.1.length y.2 (encB r.1)]) := by
 unfold wire_Writer_Text.f
 refine fn_intro 11 Try.func97 rfl Try.ntmps97 rfl ?_
 refine sim_region ?_
 refine simL_val (q_move rfl rfl) rfl rfl rfl ?_
 refine simL_val (q_move rfl rfl) rfl rfl rfl ?_
 refine simL_ask (fun hb2v => ?_)
 refine simL_eff (re_tobytes rfl rfl Try.underlying9 Try.underlying27 Try.underlying5 hb2v) rfl rfl rfl ?_
 intro y1v
 refine simL_val (q_move rfl rfl) rfl rfl rfl ?_
 refine simL_bind (fun s7v hs9v => ?_)
 refine simL_lend 0 rfl (fun hq3v hq4v hq5v hq6v => ?_)
 refine simL_eff (re_call (vs := [.pointer (some ⟨b0, 0, none⟩), .slice (some ⟨y1v.1, 0, none⟩) x1.length y1v.2, .int .i64 x2]) (cap := []) (A := [obj b0 187 [.slice a0_0 x0_0.length c0_0, .int .i64 x0_1], Row 5 1 a0_0 x0_0.length c0_0 (encB x0_0)]) (rst := [Row 5 1 (some ⟨y1v.1, 0, none⟩) x1.length y1v.2 (encB x1), F]) rfl rfl rfl rfl rfl rfl Try.call88 (.sel 1 rfl (.sel 1 rfl (.sel 0 rfl (.sel 0 rfl (.nil _))))) (wire_Writer_Bytes.calls _ _ k b0 a0_0 c0_0 x0_0 x0_1 (some ⟨y1v.1, 0, none⟩) y1v.2 x1 x2 (hq3v.lend 0 rfl) hq4v hq5v) hs9v) rfl rfl rfl ?_
 intro y8v
 refine simL_nil ?_
 exact nrm_fn (y8v.1, y8v.2) rfl rfl rfl (.sel 0 rfl (.sel 0 rfl (.sel 1 rfl (.nil _))))

def synodref_Lent.f (x0 : List UInt8) : Option (List UInt8 × List UInt8) := (synodref_Bytes.f x0).bind fun s1v => (if (s1v.length + ([201] : List UInt8).length) * 1 ≤ 140737488355328 then (if 0 ≤ (x0.length : Int) ∧ (x0.length : Int) ≤ ((s1v ++ ([201] : List UInt8)).length : Int) then (some (List.take (x0.length : Int).toNat (s1v ++ ([201] : List UInt8)), List.drop (x0.length : Int).toNat (s1v ++ ([201] : List UInt8)))) else none) else none)
theorem synodref_Lent.calls (W : World) (F : HA) (a0 : Option Addr) (c0 : Nat) (x0 : List UInt8) (h0 : Rd F a0 (encB x0)) (hc0 : x0.length ≤ c0) (hm0 : c0 ≤ maxLen) :
    Fn Try.prog W 28 [.slice a0 x0.length c0] [] F (synodref_Lent.f x0) (fun (r : List UInt8 × List UInt8) (y : Option Addr × Nat) => .slice y.1 r.1.length y.2) (fun r y => [Row 5 1 y.1 r.1.length y.2 (encB (r.1 ++ r.2))]) := by
 unfold synodref_Lent.f
 refine fn_intro 12 Try.func28 rfl Try.ntmps28 rfl ?_
 refine sim_seq (sim_region ?_)
 refine simL_val (q_asg rfl rfl) rfl rfl rfl (simL_nil (nrm_then (sim_seq (sim_region ?_))))
 refine simL_val (q_move rfl rfl) rfl rfl rfl ?_
 refine simL_bind (fun s1v hs3v => ?_)
 refine simL_eff (re_call (vs := [.slice a0 x0.length c0]) (cap := []) (A := []) (rst := [F]) rfl rfl rfl rfl rfl rfl Try.call62 (.sel 0 rfl (.nil _)) (synodref_Bytes.calls _ _ a0 c0 x0 (h0.lend 0 rfl) hc0 hm0) hs3v) rfl rfl rfl ?_
 intro y2v
 refine simL_eff (re_litb (cs := [.int .u8 201]) ([201] : List UInt8) rfl rfl Try.underlying27 elt5 rfl (by kernel_rfl) rfl rfl rfl) rfl rfl rfl ?_
 intro b4v
 refine simL_ask (fun hb7v => ?_)
 refine simL_eff (re_appendb 1 rfl rfl rfl Try.underlying27 elt5 rfl (Rds.row 0 rfl) hb7v) rfl rfl rfl ?_
 intro y6v
 refine simL_val (q_asg rfl rfl) rfl rfl rfl (simL_nil (nrm_then (sim_seq (sim_region ?_))))
 refine simL_val (q_move rfl rfl) rfl rfl rfl ?_
 refine simL_val (q_move rfl rfl) rfl rfl rfl ?_
 refine simL_val (q_len rfl rfl rfl Try.underlying27) rfl rfl rfl ?_
 refine simL_ask (fun hb8v => ?_)
 refine simL_eff (re_cut0 1 rfl rfl rfl Try.underlying27 Try.sizeOf5 rfl hb8v) rfl rfl rfl ?_
 intro _
 refine simL_val (q_asg rfl rfl) rfl rfl rfl (simL_nil (nrm_then (sim_rtn ?_)))
 exact rtn_fn (y6v.1, y6v.2) rfl rfl rfl (.sel 1 rfl (.sel 1 rfl (.nil _)))

def synodref_Kept.f (k : Nat) (x0 : List UInt8) (z0 : List UInt8) (x1 : List UInt8) : Option (Bool) := (synodref_SameBytes.f k x0 x1).bind fun s1v => ((if (s1v && (decide ((x0.length : Int) = (x1.length : Int)))) = true then (if 0 ≤ (0 : Int) ∧ (0 : Int) ≤ IntKind.i64.wrap ((x1.length : Int) + 1) ∧ IntKind.i64.wrap ((x1.length : Int) + 1) ≤ ((x0 ++ z0).length : Int) then (if 0 ≤ (x1.length : Int) ∧ (x1.length : Int) < ((cut (x0 ++ z0) (0 : Int) (IntKind.i64.wrap ((x1.length : Int) + 1))).length : Int) then (some (decide ((((cut (x0 ++ z0) (0 : Int) (IntKind.i64.wrap ((x1.length : Int) + 1))).getD (x1.length : Int).toNat 0).toNat : Int) = (201 : Int)))) else none) else none) else (some false)).bind fun s4v => (some s4v))
theorem synodref_Kept.calls (W : World) (F : HA) (k : Nat) (a0 : Option Addr) (c0 : Nat) (x0 z0 : List UInt8) (a1 : Option Addr) (c1 : Nat) (x1 : List UInt8) (h0 : Rd F a0 (encB (x0 ++ z0))) (hc0 : (x0 ++ z0).length ≤ c0) (hm0 : c0 ≤ maxLen) (h1 : Rd F a1 (encB x1)) (hc1 : x1.length ≤ c1) (hm1 : c1 ≤ maxLen) :
    Fn Try.prog W 31 [.slice a0 x0.length c0, .slice a1 x1.length c1] [] F (synodref_Kept.f k x0 z0 x1) (fun (r : Bool) (y : Unit) => .bool r) (fun r y => []) := by
 unfold synodref_Kept.f
 refine fn_intro 29 Try.func31 rfl Try.ntmps31 rfl ?_
 refine sim_seq (sim_region ?_)
 refine simL_val (q_asg rfl rfl) rfl rfl rfl (simL_nil (nrm_then (sim_seq (sim_region ?_))))
 refine simL_val (q_move rfl rfl) rfl rfl rfl ?_
 refine simL_val (q_move rfl rfl) rfl rfl rfl ?_
 refine simL_bind (fun s1v hs3v => ?_)
 refine simL_eff (re_call (vs := [.slice a0 x0.length c0, .slice a1 x1.length c1]) (cap := []) (A := []) (rst := [F]) rfl rfl rfl rfl rfl rfl Try.call25 (.sel 0 rfl (.nil _)) (synodref_SameBytes.calls _ _ k a0 c0 x0 a1 c1 x1 ((rd_front h0).lend 0 rfl) (front_len hc0) hm0 (h1.lend 0 rfl) hc1 hm1) hs3v) rfl rfl rfl ?_
 intro y2v
 refine simL_val (q_asg rfl rfl) rfl rfl rfl (simL_nil (nrm_then (sim_seq (sim_region ?_))))
 refine simL_val (q_move rfl rfl) rfl rfl rfl ?_
 refine simL_val (q_move rfl rfl) rfl rfl rfl ?_
 refine simL_valc (b := s1v) (fun hb23v => RQ.sub (E' := [(0, .slice a0 x0.length c0)]) ⟨rfl, trivial⟩ (q_move rfl rfl)) rfl rfl rfl rfl rfl ?_
 refine simL_valc (b := s1v) (fun hb22v => RQ.sub (E' := [(11, .slice a0 x0.length c0)]) ⟨lk_cv rfl hb22v, trivial⟩ (q_len rfl rfl rfl Try.underlying27)) rfl rfl rfl rfl rfl ?_
 refine simL_valc (b := s1v) (fun hb21v => RQ.sub (E' := [(1, .slice a1 x1.length c1)]) ⟨rfl, trivial⟩ (q_move rfl rfl)) rfl rfl rfl rfl rfl ?_
 refine simL_valc (b := s1v) (fun hb20v => RQ.sub (E' := [(13, .slice a1 x1.length c1)]) ⟨lk_cv rfl hb20v, trivial⟩ (q_len rfl rfl rfl Try.underlying27)) rfl rfl rfl rfl rfl ?_
 refine simL_valc (b := s1v) (fun hb19v => RQ.sub (E' := [(12, .int .i64 (x0.length : Int)), (14, .int .i64 (x1.length : Int))]) ⟨lk_cv rfl hb19v, lk_cv rfl hb19v, trivial⟩ (q_eql rfl rfl rfl)) rfl rfl rfl rfl rfl ?_
 refine simL_val (q_and rfl rfl rfl) rfl rfl rfl ?_
 refine simL_val (q_move rfl rfl) rfl rfl rfl ?_
 refine simL_cut' 11 (S := Bool) (Unit) (fun s y => [(28, .bool s)]) (fun s y => [F]) ?_ ?_
 refine simL_caseb (fun hb17v => ?_) (fun hb18v => ?_)
 rw [hb17v]
 refine simL_valg (q_move rfl rfl) rfl rfl rfl rfl rfl rfl ?_
 refine simL_valg (q_move rfl rfl) rfl rfl rfl rfl rfl rfl ?_
 refine simL_valg (q_len rfl rfl rfl Try.underlying27) rfl rfl rfl rfl rfl rfl ?_
 refine simL_valg (q_add rfl rfl rfl) rfl rfl rfl rfl rfl rfl ?_
 refine simL_ask (fun hb6v => ?_)
 obtain ⟨a7v, c8v, hS9v, hr10v, hc11v, hm12v⟩ := slice_pre (lo := (0 : Int)) (hi := IntKind.i64.wrap ((x1.length : Int) + 1)) h0 hc0 hb6v
 refine simL_valg (q_sub_ro (l := (x0 ++ z0)) (lo' := (0 : Int)) (hi' := IntKind.i64.wrap ((x1.length : Int) + 1)) rfl rfl rfl rfl Try.underlying27 Try.sizeOf5 (.inr ⟨_, rfl⟩) (.inl ⟨rfl, rfl⟩) hb6v hc0 hS9v) rfl rfl rfl rfl rfl rfl ?_
 refine simL_valg (q_move rfl rfl) rfl rfl rfl rfl rfl rfl ?_
 refine simL_valg (q_len rfl rfl rfl Try.underlying27) rfl rfl rfl rfl rfl rfl ?_
 refine simL_ask (fun hi13v => ?_)
 obtain ⟨b14v, b14vo, ha15v⟩ := hr10v.pos (encB_ne (j := (x1.length : Int).toNat) (by omega))
 refine simL_valg (q_idx1 rfl rfl rfl ha15v Try.underlying27 Try.sizeOf5 hi13v.1 hi13v.2) rfl rfl rfl rfl rfl rfl ?_
 refine simL_valg (q_load rfl rfl Try.isAgg5 (hr10v.cell 0 rfl ha15v (encB_get (by omega)))) rfl rfl rfl rfl rfl rfl ?_
 refine simL_valg (q_eql rfl rfl rfl) rfl rfl rfl rfl rfl rfl ?_
 refine simL_val (q_pick rfl rfl rfl rfl rfl) rfl rfl rfl (simL_nil ?_)
 exact nrm_cut (s := decide ((((cut (x0 ++ z0) (0 : Int) (IntKind.i64.wrap ((x1.length : Int) + 1))).getD (x1.length : Int).toNat 0).toNat : Int) = (201 : Int))) () ⟨rfl, trivial⟩ (.sel 0 rfl (.nil _))
 rw [hb18v]
 refine simL_skipd rfl rfl rfl rfl rfl rfl ?_
 refine simL_skipd rfl rfl rfl rfl rfl rfl ?_
 refine simL_skipd rfl rfl rfl rfl rfl rfl ?_
 refine simL_skipd rfl rfl rfl rfl rfl rfl ?_
 refine simL_skipd rfl rfl rfl rfl rfl rfl ?_
 refine simL_skipd rfl rfl rfl rfl rfl rfl ?_
 refine simL_skipd rfl rfl rfl rfl rfl rfl ?_
 refine simL_skipd rfl rfl rfl rfl rfl rfl ?_
 refine simL_skipd rfl rfl rfl rfl rfl rfl ?_
 refine simL_skipd rfl rfl rfl rfl rfl rfl ?_
 refine simL_val (q_pick rfl rfl rfl rfl rfl) rfl rfl rfl (simL_nil ?_)
 exact nrm_cut (s := false) () ⟨rfl, trivial⟩ (.sel 0 rfl (.nil _))
 intro s4v y5v
 refine simL_val (q_asg rfl rfl) rfl rfl rfl (simL_nil (nrm_then (sim_rtn ?_)))
 exact rtn_fn () rfl rfl rfl (.sel 0 rfl (.nil _))
end Go.Proofs.Ytdoghfenhoigmaa

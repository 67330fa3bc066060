/- The row of the law TextEvents, out of its pure law and the printed walk. Conditions: none. -/
import Derived.Test.YtbcnegennmpliaaDoorM5
import Derived.Laws.BitsLemmas
import Derived.Lib.ItoaMem
import Derived.Test.YtbcnegennmpliaaDoorRows
import Derived.ProofKit
import Derived.OpenShut
import Derived.ShutString
import Derived.ChangeOld
import Derived.SizedLaws
import Derived.Deep.CondSized
import Derived.JoinedCond
import Derived.Lib.LaidTab
import Derived.Deep.DeepHandedRow
import Derived.Lay
import Derived.MakeChecks
import Derived.Test.YtbcnegennmpliaaDoorCards
import Derived.Test.YtbcnegennmpliaaDoorTie
namespace Go.Proofs.YtbcnegennmpliaaDoor
open Go.RowKit
set_option linter.unusedVariables false
set_option linter.unusedSimpArgs false
set_option maxRecDepth 20000
set_option maxHeartbeats 20000000
def synodlaw17_TextEvents.l1 (x0_2 : List (Ty78)) : Nat → Int → List (Ty78) → Option (((List (Ty78))) ⊕ (Bool))
  | 0, _, _ => none
  | k + 1, z41v, z42v => if z41v < (x0_2.length : Int) then (if 0 ≤ z41v ∧ z41v < (x0_2.length : Int) then (if (z42v.length + ([((x0_2.getD z41v.toNat dz78).1, (x0_2.getD z41v.toNat dz78).2.1, (x0_2.getD z41v.toNat dz78).2.2.1, (x0_2.getD z41v.toNat dz78).2.2.2.1, (x0_2.getD z41v.toNat dz78).2.2.2.2.1, (x0_2.getD z41v.toNat dz78).2.2.2.2.2)] : List (Ty78)).length) * 56 ≤ 140737488355328 then ((text_FormatEvent.f k ((x0_2.getD z41v.toNat dz78).1) ((x0_2.getD z41v.toNat dz78).2.1) ((x0_2.getD z41v.toNat dz78).2.2.1) ((x0_2.getD z41v.toNat dz78).2.2.2.1) ((x0_2.getD z41v.toNat dz78).2.2.2.2.1) ((x0_2.getD z41v.toNat dz78).2.2.2.2.2)).bind fun s65v => ((synodref17_FormatEvent.f k ((x0_2.getD z41v.toNat dz78).1) ((x0_2.getD z41v.toNat dz78).2.1) ((x0_2.getD z41v.toNat dz78).2.2.1) ((x0_2.getD z41v.toNat dz78).2.2.2.1) ((x0_2.getD z41v.toNat dz78).2.2.2.2.1) ((x0_2.getD z41v.toNat dz78).2.2.2.2.2)).bind fun s68v => ((if ((!decide (s65v = s68v)) == false) = true then (text_Reply.f k ((x0_2.getD z41v.toNat dz78).2.2.2.2.1) ((x0_2.getD z41v.toNat dz78).2.2.2.2.2)) else some []).bind fun s71v => ((if ((!decide (s65v = s68v)) == false) = true then (synodref17_Reply.f k ((x0_2.getD z41v.toNat dz78).2.2.2.2.1) ((x0_2.getD z41v.toNat dz78).2.2.2.2.2)) else some []).bind fun s74v => (if ((!decide (s65v = s68v)) || (!decide (s71v = s74v))) = true then (some (.inr false)) else (synodlaw17_TextEvents.l1 x0_2 k (IntKind.i64.wrap (z41v + 1)) (z42v ++ ([((x0_2.getD z41v.toNat dz78).1, (x0_2.getD z41v.toNat dz78).2.1, (x0_2.getD z41v.toNat dz78).2.2.1, (x0_2.getD z41v.toNat dz78).2.2.2.1, (x0_2.getD z41v.toNat dz78).2.2.2.2.1, (x0_2.getD z41v.toNat dz78).2.2.2.2.2)] : List (Ty78))))))))) else none) else none) else (some (.inl z42v))
def synodlaw17_TextEvents.l0 (x0_2 : List (Ty78)) : Nat → Int → Int → Option (Int)
  | 0, _, _ => none
  | k + 1, z10v, z11v => if ((decide (z11v < (x0_2.length : Int))) && (decide (z11v < (200 : Int)))) = true then (if 0 ≤ z11v ∧ z11v < (x0_2.length : Int) then (synodlaw17_TextEvents.l0 x0_2 k (min (IntKind.i64.wrap (z10v + (min (((x0_2.getD z11v.toNat dz78).2.2.2.2.2).length : Int) (20000 : Int)))) (40000 : Int)) (IntKind.i64.wrap (z11v + 1))) else none) else (some z10v)
def synodlaw17_TextEvents.f (k : Nat) (x0_0 : Int) (x0_1 : Bool) (x0_2 : List (Ty78)) (x1_0 : Int) (x1_1 : Int) (x1_2 : Int) (x1_3 : List UInt8) (x1_4 : List UInt8) (x1_5 : List UInt8) (x1_6 : Int) (x1_7 : Int) (x1_8 : Int) (x1_9 : List UInt8) : Option (Bool) := (synodlaw17_first.f k).bind fun s3v => ((synodlaw17_TextEvents.l0 x0_2 k 0 0).bind fun s6v => (if (((((((!s3v) || (decide ((200 : Int) < (x0_2.length : Int)))) || (decide ((20000 : Int) < s6v))) || (decide ((20000 : Int) < (x1_3.length : Int)))) || (decide ((20000 : Int) < (x1_4.length : Int)))) || (decide ((20000 : Int) < (x1_5.length : Int)))) || (decide ((20000 : Int) < (x1_9.length : Int)))) = true then (some s3v) else (orR (synodlaw17_TextEvents.l1 x0_2 k 0 ([] : List (Ty78))) fun s37v => ((text_FormatTold.f k x0_0 x0_1 x0_2).bind fun s87v => ((synodref17_FormatTold.f k (synodref_Num.v x0_0) x0_1 s37v).bind fun s96v => ((synodref_SameTexts.f k s87v s96v).bind fun s111v => ((if (s111v == true) = true then (text_FormatOp.f k x1_0 x1_1 x1_2 x1_3 x1_4 x1_5 x1_6 x1_7 x1_8 x1_9) else some []).bind fun s114v => ((if (s111v == true) = true then (synodref17_FormatOp.f k x1_0 x1_1 x1_2 x1_3 x1_4 x1_5 x1_6 x1_7 x1_8 x1_9) else some []).bind fun s117v => ((if ((s111v && (decide (s114v = s117v))) == true) = true then (text_Reply.f k x1_8 x1_9) else some []).bind fun s120v => ((if ((s111v && (decide (s114v = s117v))) == true) = true then (synodref17_Reply.f k x1_8 x1_9) else some []).bind fun s123v => (some ((s111v && (decide (s114v = s117v))) && (decide (s120v = s123v))))))))))))))
theorem synodlaw17_TextEvents.calls (W : World) (F : HA) (k : Nat) (x0_0 : Int) (x0_1 : Bool) (a0_2 : Option Addr) (c0_2 : Nat) (x0_2 : List (Ty78)) (x1_0 : Int) (x1_1 : Int) (x1_2 : Int) (x1_3 : List UInt8) (x1_4 : List UInt8) (x1_5 : List UInt8) (x1_6 : Int) (x1_7 : Int) (x1_8 : Int) (x1_9 : List UInt8) (h0_2 : RdV F 6 (V78 tt) a0_2 x0_2) (hc0_2 : x0_2.length ≤ c0_2) (hm0_2 : c0_2 ≤ maxLen) (hgl : Glb Tryd.prog F) :
    Fn Tryd.prog W 10 [.agg #[.int .i64 x0_0, .bool x0_1, .slice a0_2 x0_2.length c0_2], .agg #[.int .i64 x1_0, .int .i64 x1_1, .int .i64 x1_2, str x1_3, str x1_4, str x1_5, .int .i64 x1_6, .int .i64 x1_7, .int .i64 x1_8, str x1_9]] [] F (synodlaw17_TextEvents.f k x0_0 x0_1 x0_2 x1_0 x1_1 x1_2 x1_3 x1_4 x1_5 x1_6 x1_7 x1_8 x1_9) (fun (r : Bool) (y : Unit) => .bool r) (fun r y => []) := by
 unfold synodlaw17_TextEvents.f
 refine fn_intro 150 Tryd.func10 rfl Tryd.ntmps10 rfl ?_
 refine sr ?_
 refine simL_eff (re_box rfl rfl rfl) rfl rfl rfl ?_
 intro b1v
 refine simL_eff (re_box rfl rfl rfl) rfl rfl rfl ?_
 intro b2v
 refine va rfl rfl (nx ?_)
 refine simL_bind (fun s3v hs4v => ?_)
 refine simL_eff (re_call (vs := []) (cap := []) (A := []) (rst := [obj b2v 76 [.int .i64 x1_0, .int .i64 x1_1, .int .i64 x1_2, str x1_3, str x1_4, str x1_5, .int .i64 x1_6, .int .i64 x1_7, .int .i64 x1_8, str x1_9], obj b1v 72 [.int .i64 x0_0, .bool x0_1, .slice a0_2 x0_2.length c0_2], F]) rfl rfl rfl rfl rfl rfl Tryd.call11 (.sel 0 rfl (.sel 0 rfl (.sel 0 rfl (.nil _)))) (synodlaw17_first.calls _ _ k  (hgl.lend 2 rfl)) hs4v) rfl rfl rfl ?_
 intro y5v
 refine va rfl rfl (nx ?_)
 refine va rfl rfl (simL_nil (nrm_then ?_))
 refine sim_cut (S := Int) (Unit) (fun s y => [(2, .pointer (some ⟨b1v, 0, none⟩)), (3, .pointer (some ⟨b2v, 0, none⟩)), (5, .bool s3v), (6, .int .i64 s)]) (fun s y => [obj b2v 76 [.int .i64 x1_0, .int .i64 x1_1, .int .i64 x1_2, str x1_3, str x1_4, str x1_5, .int .i64 x1_6, .int .i64 x1_7, .int .i64 x1_8, str x1_9], obj b1v 72 [.int .i64 x0_0, .bool x0_1, .slice a0_2 x0_2.length c0_2], F]) ?_ ?_
 refine sr ?_
 refine va rfl rfl (simL_nil (nrm_then ?_))
 refine sim_block ?_
 refine sim_loop (S := Int × Int) (Unit) (fun k s => synodlaw17_TextEvents.l0 x0_2 k s.1 s.2) (fun s y => [(2, .pointer (some ⟨b1v, 0, none⟩)), (3, .pointer (some ⟨b2v, 0, none⟩)), (5, .bool s3v), (6, .int .i64 s.1), (7, .int .i64 s.2)]) (fun s y => [obj b2v 76 [.int .i64 x1_0, .int .i64 x1_1, .int .i64 x1_2, str x1_3, str x1_4, str x1_5, .int .i64 x1_6, .int .i64 x1_7, .int .i64 x1_8, str x1_9], obj b1v 72 [.int .i64 x0_0, .bool x0_1, .slice a0_2 x0_2.length c0_2], F]) (fun _ => by rw [synodlaw17_TextEvents.l0]) ?_ k (0, 0) () ⟨rfl, rfl, rfl, rfl, rfl, trivial⟩ (.sel 0 rfl (.sel 0 rfl (.sel 0 rfl (.nil _))))
 intro k s8v y9v
 refine sim_eq (by rw [synodlaw17_TextEvents.l0]) ?_
 refine sim_seq (sr ?_)
 refine vm rfl rfl ?_
 refine vq (q_fa rfl rfl Tryd.underlying72 rfl rfl Tryd.sizeOf70 rfl) rfl ?_
 refine vq (q_load rfl rfl Tryd.isAgg70 (.obj 1 rfl rfl)) rfl ?_
 refine vq (q_len rfl rfl rfl Tryd.underlying70) rfl ?_
 refine vq (q_lss rfl rfl rfl) rfl ?_
 refine vm rfl rfl ?_
 refine simL_valc (b := decide (s8v.2 < (x0_2.length : Int))) (fun hb23v => RQ.sub (E' := [(7, .int .i64 s8v.2)]) ⟨rfl, trivial⟩ (q_move rfl rfl)) rfl rfl rfl rfl rfl ?_
 refine simL_valc (b := decide (s8v.2 < (x0_2.length : Int))) (fun hb22v => RQ.sub (E' := [(22, .int .i64 s8v.2)]) ⟨lk_cv rfl hb22v, trivial⟩ (q_lss rfl rfl rfl)) rfl rfl rfl rfl rfl ?_
 refine vq (q_and rfl rfl rfl) rfl (simL_nil (nrm_then ?_))
 refine sim_condb rfl (fun h12v => ?_) (fun h13v => ?_)
 refine sim_skip ?_
 refine nrm_then (sim_seq ?_)
 refine sim_block ?_
 refine sim_region ?_
 refine vm rfl rfl ?_
 refine vq (q_fa rfl rfl Tryd.underlying72 rfl rfl Tryd.sizeOf70 rfl) rfl ?_
 refine vq (q_load rfl rfl Tryd.isAgg70 (.obj 1 rfl rfl)) rfl ?_
 refine vm rfl rfl ?_
 refine simL_ask (fun hi14v => ?_)
 obtain ⟨b15v, b15vo, r18v, ha16v, hV19v, hlr20v, hcell21v⟩ := RdV.pos h0_2 (Up.refl _) rfl (i := s8v.2.toNat) (by omega) dz78
 obtain rfl := hV19v
 refine vq (q_idx rfl rfl rfl ha16v Tryd.underlying70 Tryd.sizeOf78 hi14v.1 hi14v.2) rfl ?_
 refine vq (q_fa rfl rfl Tryd.underlying78 rfl rfl Tryd.sizeOf74 rfl) rfl ?_
 refine vq (q_fa rfl rfl Tryd.underlying74 rfl rfl Tryd.sizeOf9 rfl) rfl ?_
 refine vq (q_load rfl rfl Tryd.isAgg9 (hcell21v 2 rfl 5 _ rfl)) rfl ?_
 refine vq (q_lens rfl rfl rfl Tryd.underlying9) rfl ?_
 refine vq (q_min rfl rfl rfl) rfl ?_
 refine vq (q_add rfl rfl rfl) rfl ?_
 refine vq (q_min rfl rfl rfl) rfl ?_
 refine va rfl rfl (simL_nil (nrm_block (nrm_then (sim_region ?_))))
 refine vm rfl rfl ?_
 refine vq (q_add rfl rfl rfl) rfl ?_
 refine va rfl rfl (simL_nil ?_)
 exact nrm_again (s := (min (IntKind.i64.wrap (s8v.1 + (min (((x0_2.getD s8v.2.toNat dz78).2.2.2.2.2).length : Int) (20000 : Int)))) (40000 : Int), IntKind.i64.wrap (s8v.2 + 1))) () ⟨rfl, rfl, rfl, rfl, rfl, trivial⟩ (.sel 0 rfl (.sel 0 rfl (.sel 0 rfl (.nil _))))
 refine sim_exi ?_
 refine exi_then ?_
 refine exi_loop ?_
 refine exi_here ?_
 exact nrm_cut (s := s8v.1) () ⟨rfl, rfl, rfl, rfl, trivial⟩ (.sel 0 rfl (.sel 0 rfl (.sel 0 rfl (.nil _))))
 intro s6v y7v
 refine sim_seq (sr ?_)
 refine vm rfl rfl ?_
 refine vq (q_not rfl rfl) rfl ?_
 refine vm rfl rfl ?_
 refine simL_valc (b := !s3v) (fun hb161v => RQ.sub (E' := [(2, .pointer (some ⟨b1v, 0, none⟩))]) ⟨rfl, trivial⟩ (q_fa rfl rfl Tryd.underlying72 rfl rfl Tryd.sizeOf70 rfl)) rfl rfl rfl rfl rfl ?_
 refine simL_valc (b := !s3v) (fun hb160v => RQ.sub (E' := [(42, .pointer (some ⟨b1v, 2, none⟩))]) ⟨lk_cv rfl hb160v, trivial⟩ (q_load rfl rfl Tryd.isAgg70 (.obj 1 rfl rfl))) rfl rfl rfl rfl rfl ?_
 refine simL_valc (b := !s3v) (fun hb159v => RQ.sub (E' := [(43, .slice a0_2 x0_2.length c0_2)]) ⟨lk_cv rfl hb159v, trivial⟩ (q_len rfl rfl rfl Tryd.underlying70)) rfl rfl rfl rfl rfl ?_
 refine simL_valc (b := !s3v) (fun hb158v => RQ.sub (E' := [(44, .int .i64 (x0_2.length : Int))]) ⟨lk_cv rfl hb158v, trivial⟩ (q_gtr rfl rfl rfl)) rfl rfl rfl rfl rfl ?_
 refine vq (q_or rfl rfl rfl) rfl ?_
 refine vm rfl rfl ?_
 refine simL_valc (b := (!s3v) || (decide ((200 : Int) < (x0_2.length : Int)))) (fun hb157v => RQ.sub (E' := [(6, .int .i64 s6v)]) ⟨rfl, trivial⟩ (q_move rfl rfl)) rfl rfl rfl rfl rfl ?_
 refine simL_valc (b := (!s3v) || (decide ((200 : Int) < (x0_2.length : Int)))) (fun hb156v => RQ.sub (E' := [(48, .int .i64 s6v)]) ⟨lk_cv rfl hb156v, trivial⟩ (q_gtr rfl rfl rfl)) rfl rfl rfl rfl rfl ?_
 refine vq (q_or rfl rfl rfl) rfl ?_
 refine vm rfl rfl ?_
 refine simL_valc (b := ((!s3v) || (decide ((200 : Int) < (x0_2.length : Int)))) || (decide ((20000 : Int) < s6v))) (fun hb155v => RQ.sub (E' := [(3, .pointer (some ⟨b2v, 0, none⟩))]) ⟨rfl, trivial⟩ (q_fa rfl rfl Tryd.underlying76 rfl rfl Tryd.sizeOf9 rfl)) rfl rfl rfl rfl rfl ?_
 refine simL_valc (b := ((!s3v) || (decide ((200 : Int) < (x0_2.length : Int)))) || (decide ((20000 : Int) < s6v))) (fun hb154v => RQ.sub (E' := [(52, .pointer (some ⟨b2v, 3, none⟩))]) ⟨lk_cv rfl hb154v, trivial⟩ (q_load rfl rfl Tryd.isAgg9 (.obj 0 rfl rfl))) rfl rfl rfl rfl rfl ?_
 refine simL_valc (b := ((!s3v) || (decide ((200 : Int) < (x0_2.length : Int)))) || (decide ((20000 : Int) < s6v))) (fun hb153v => RQ.sub (E' := [(53, str x1_3)]) ⟨lk_cv rfl hb153v, trivial⟩ (q_lens rfl rfl rfl Tryd.underlying9)) rfl rfl rfl rfl rfl ?_
 refine simL_valc (b := ((!s3v) || (decide ((200 : Int) < (x0_2.length : Int)))) || (decide ((20000 : Int) < s6v))) (fun hb152v => RQ.sub (E' := [(54, .int .i64 (x1_3.length : Int))]) ⟨lk_cv rfl hb152v, trivial⟩ (q_gtr rfl rfl rfl)) rfl rfl rfl rfl rfl ?_
 refine vq (q_or rfl rfl rfl) rfl ?_
 refine vm rfl rfl ?_
 refine simL_valc (b := (((!s3v) || (decide ((200 : Int) < (x0_2.length : Int)))) || (decide ((20000 : Int) < s6v))) || (decide ((20000 : Int) < (x1_3.length : Int)))) (fun hb151v => RQ.sub (E' := [(3, .pointer (some ⟨b2v, 0, none⟩))]) ⟨rfl, trivial⟩ (q_fa rfl rfl Tryd.underlying76 rfl rfl Tryd.sizeOf9 rfl)) rfl rfl rfl rfl rfl ?_
 refine simL_valc (b := (((!s3v) || (decide ((200 : Int) < (x0_2.length : Int)))) || (decide ((20000 : Int) < s6v))) || (decide ((20000 : Int) < (x1_3.length : Int)))) (fun hb150v => RQ.sub (E' := [(58, .pointer (some ⟨b2v, 4, none⟩))]) ⟨lk_cv rfl hb150v, trivial⟩ (q_load rfl rfl Tryd.isAgg9 (.obj 0 rfl rfl))) rfl rfl rfl rfl rfl ?_
 refine simL_valc (b := (((!s3v) || (decide ((200 : Int) < (x0_2.length : Int)))) || (decide ((20000 : Int) < s6v))) || (decide ((20000 : Int) < (x1_3.length : Int)))) (fun hb149v => RQ.sub (E' := [(59, str x1_4)]) ⟨lk_cv rfl hb149v, trivial⟩ (q_lens rfl rfl rfl Tryd.underlying9)) rfl rfl rfl rfl rfl ?_
 refine simL_valc (b := (((!s3v) || (decide ((200 : Int) < (x0_2.length : Int)))) || (decide ((20000 : Int) < s6v))) || (decide ((20000 : Int) < (x1_3.length : Int)))) (fun hb148v => RQ.sub (E' := [(60, .int .i64 (x1_4.length : Int))]) ⟨lk_cv rfl hb148v, trivial⟩ (q_gtr rfl rfl rfl)) rfl rfl rfl rfl rfl ?_
 refine vq (q_or rfl rfl rfl) rfl ?_
 refine vm rfl rfl ?_
 refine simL_valc (b := ((((!s3v) || (decide ((200 : Int) < (x0_2.length : Int)))) || (decide ((20000 : Int) < s6v))) || (decide ((20000 : Int) < (x1_3.length : Int)))) || (decide ((20000 : Int) < (x1_4.length : Int)))) (fun hb147v => RQ.sub (E' := [(3, .pointer (some ⟨b2v, 0, none⟩))]) ⟨rfl, trivial⟩ (q_fa rfl rfl Tryd.underlying76 rfl rfl Tryd.sizeOf9 rfl)) rfl rfl rfl rfl rfl ?_
 refine simL_valc (b := ((((!s3v) || (decide ((200 : Int) < (x0_2.length : Int)))) || (decide ((20000 : Int) < s6v))) || (decide ((20000 : Int) < (x1_3.length : Int)))) || (decide ((20000 : Int) < (x1_4.length : Int)))) (fun hb146v => RQ.sub (E' := [(64, .pointer (some ⟨b2v, 5, none⟩))]) ⟨lk_cv rfl hb146v, trivial⟩ (q_load rfl rfl Tryd.isAgg9 (.obj 0 rfl rfl))) rfl rfl rfl rfl rfl ?_
 refine simL_valc (b := ((((!s3v) || (decide ((200 : Int) < (x0_2.length : Int)))) || (decide ((20000 : Int) < s6v))) || (decide ((20000 : Int) < (x1_3.length : Int)))) || (decide ((20000 : Int) < (x1_4.length : Int)))) (fun hb145v => RQ.sub (E' := [(65, str x1_5)]) ⟨lk_cv rfl hb145v, trivial⟩ (q_lens rfl rfl rfl Tryd.underlying9)) rfl rfl rfl rfl rfl ?_
 refine simL_valc (b := ((((!s3v) || (decide ((200 : Int) < (x0_2.length : Int)))) || (decide ((20000 : Int) < s6v))) || (decide ((20000 : Int) < (x1_3.length : Int)))) || (decide ((20000 : Int) < (x1_4.length : Int)))) (fun hb144v => RQ.sub (E' := [(66, .int .i64 (x1_5.length : Int))]) ⟨lk_cv rfl hb144v, trivial⟩ (q_gtr rfl rfl rfl)) rfl rfl rfl rfl rfl ?_
 refine vq (q_or rfl rfl rfl) rfl ?_
 refine vm rfl rfl ?_
 refine simL_valc (b := (((((!s3v) || (decide ((200 : Int) < (x0_2.length : Int)))) || (decide ((20000 : Int) < s6v))) || (decide ((20000 : Int) < (x1_3.length : Int)))) || (decide ((20000 : Int) < (x1_4.length : Int)))) || (decide ((20000 : Int) < (x1_5.length : Int)))) (fun hb143v => RQ.sub (E' := [(3, .pointer (some ⟨b2v, 0, none⟩))]) ⟨rfl, trivial⟩ (q_fa rfl rfl Tryd.underlying76 rfl rfl Tryd.sizeOf74 rfl)) rfl rfl rfl rfl rfl ?_
 refine simL_valc (b := (((((!s3v) || (decide ((200 : Int) < (x0_2.length : Int)))) || (decide ((20000 : Int) < s6v))) || (decide ((20000 : Int) < (x1_3.length : Int)))) || (decide ((20000 : Int) < (x1_4.length : Int)))) || (decide ((20000 : Int) < (x1_5.length : Int)))) (fun hb142v => RQ.sub (E' := [(70, .pointer (some ⟨b2v, 8, none⟩))]) ⟨lk_cv rfl hb142v, trivial⟩ (q_fa rfl rfl Tryd.underlying74 rfl rfl Tryd.sizeOf9 rfl)) rfl rfl rfl rfl rfl ?_
 refine simL_valc (b := (((((!s3v) || (decide ((200 : Int) < (x0_2.length : Int)))) || (decide ((20000 : Int) < s6v))) || (decide ((20000 : Int) < (x1_3.length : Int)))) || (decide ((20000 : Int) < (x1_4.length : Int)))) || (decide ((20000 : Int) < (x1_5.length : Int)))) (fun hb141v => RQ.sub (E' := [(71, .pointer (some ⟨b2v, 9, none⟩))]) ⟨lk_cv rfl hb141v, trivial⟩ (q_load rfl rfl Tryd.isAgg9 (.obj 0 rfl rfl))) rfl rfl rfl rfl rfl ?_
 refine simL_valc (b := (((((!s3v) || (decide ((200 : Int) < (x0_2.length : Int)))) || (decide ((20000 : Int) < s6v))) || (decide ((20000 : Int) < (x1_3.length : Int)))) || (decide ((20000 : Int) < (x1_4.length : Int)))) || (decide ((20000 : Int) < (x1_5.length : Int)))) (fun hb140v => RQ.sub (E' := [(72, str x1_9)]) ⟨lk_cv rfl hb140v, trivial⟩ (q_lens rfl rfl rfl Tryd.underlying9)) rfl rfl rfl rfl rfl ?_
 refine simL_valc (b := (((((!s3v) || (decide ((200 : Int) < (x0_2.length : Int)))) || (decide ((20000 : Int) < s6v))) || (decide ((20000 : Int) < (x1_3.length : Int)))) || (decide ((20000 : Int) < (x1_4.length : Int)))) || (decide ((20000 : Int) < (x1_5.length : Int)))) (fun hb139v => RQ.sub (E' := [(73, .int .i64 (x1_9.length : Int))]) ⟨lk_cv rfl hb139v, trivial⟩ (q_gtr rfl rfl rfl)) rfl rfl rfl rfl rfl ?_
 refine vq (q_or rfl rfl rfl) rfl (simL_nil (nrm_then ?_))
 refine sim_condb rfl (fun h24v => ?_) (fun h25v => ?_)
 refine sr ?_
 refine vm rfl rfl ?_
 refine va rfl rfl (simL_nil (nrm_then (sim_rtn ?_)))
 refine rtn_then ?_
 exact rtn_fn () rfl rfl rfl (.sel 2 rfl (.nil _))
 refine sim_skip ?_
 refine nrm_then (sim_seq ?_)
 refine sim_draw (Γ := Nat) 0 [[], [0], [0, 1], [], [3], rL 5, [], rL 7] [6, 7] [0, 1, 2, 3, 4, 5] (fun i => [[0, 1], [0, 1], [0, 1], [0, 1], [0, 1], [0, 1], [], []].getD i []) (fun i => [[], [], [], [], [], [], rL 6, rL 7].getD i []) (fun γ i => [.pointer (some ⟨b1v, 0, none⟩), .int .i64 x0_0, .int .i64 (synodref_Num.v x0_0), .pointer (some ⟨b1v, 1, none⟩), .bool x0_1, .agg #[.int .i64 (synodref_Num.v x0_0), .bool x0_1, .slice none 0 0], .pointer (some ⟨γ, 0, none⟩), undef].getD i undef) (fun j γ => [[obj b2v 76 [.int .i64 x1_0, .int .i64 x1_1, .int .i64 x1_2, str x1_3, str x1_4, str x1_5, .int .i64 x1_6, .int .i64 x1_7, .int .i64 x1_8, str x1_9], obj b1v 72 [.int .i64 x0_0, .bool x0_1, .slice a0_2 x0_2.length c0_2], F], [obj γ 81 [.int .i64 0, .bool false, .slice none 0 0], obj b2v 76 [.int .i64 x1_0, .int .i64 x1_1, .int .i64 x1_2, str x1_3, str x1_4, str x1_5, .int .i64 x1_6, .int .i64 x1_7, .int .i64 x1_8, str x1_9], obj b1v 72 [.int .i64 x0_0, .bool x0_1, .slice a0_2 x0_2.length c0_2], F], [obj γ 81 [.int .i64 (synodref_Num.v x0_0), .bool x0_1, .slice none 0 0], obj b2v 76 [.int .i64 x1_0, .int .i64 x1_1, .int .i64 x1_2, str x1_3, str x1_4, str x1_5, .int .i64 x1_6, .int .i64 x1_7, .int .i64 x1_8, str x1_9], obj b1v 72 [.int .i64 x0_0, .bool x0_1, .slice a0_2 x0_2.length c0_2], F]].getD j []) (fun γ => [(2, .pointer (some ⟨b1v, 0, none⟩)), (3, .pointer (some ⟨b2v, 0, none⟩)), (8, .pointer (some ⟨γ, 0, none⟩))]) mixed (by decide) (by decide) (by decide) (by decide) (by decide) (by decide) (by decide) 150 rfl (by decide) (by decide) (by decide) (Ent.refl _) ?_ ?_ (fun _ => ⟨rfl, rfl, rfl, trivial⟩) ?_
 exact (ac (fun γ => (ac (qp rfl rfl (.o (s := 2) rfl (by decide) .nil) (q_fa rfl rfl Tryd.underlying72 rfl rfl Tryd.sizeOf24 rfl) rfl) (ac (qp rfl rfl (.o (s := 2) rfl (by decide) .nil) (q_fa rfl rfl Tryd.underlying72 rfl rfl Tryd.sizeOf24 rfl) rfl) zA))) (ac (fun γ => (ac (qp rfl rfl (.v 0 rfl rfl .nil) (q_load rfl rfl Tryd.isAgg24 (.obj 1 rfl rfl)) rfl) (ac (qp rfl rfl (.v 0 rfl rfl .nil) (q_load rfl rfl Tryd.isAgg24 (.obj 2 rfl rfl)) rfl) zA))) (ac (fun γ => (ac (qp rfl rfl (.v 1 rfl rfl .nil) (RE.rq (re_call (vs := [.int .i64 x0_0]) (cap := []) (A := []) (rst := [obj b2v 76 [.int .i64 x1_0, .int .i64 x1_1, .int .i64 x1_2, str x1_3, str x1_4, str x1_5, .int .i64 x1_6, .int .i64 x1_7, .int .i64 x1_8, str x1_9], obj b1v 72 [.int .i64 x0_0, .bool x0_1, .slice a0_2 x0_2.length c0_2], F]) rfl rfl rfl rfl rfl rfl Tryd.call15 (.sel 0 rfl (.sel 0 rfl (.sel 0 rfl (.nil _)))) (synodref_Num.calls _ _ x0_0 ) (synodref_Num.tot x0_0)) (fun _ => rfl) (fun _ => (.sel 0 rfl (.sel 0 rfl (.sel 0 rfl (.nil _)))))) rfl) (ac (qp rfl rfl (.v 1 rfl rfl .nil) (RE.rq (re_call (vs := [.int .i64 x0_0]) (cap := []) (A := []) (rst := [obj γ 81 [.int .i64 0, .bool false, .slice none 0 0], obj b2v 76 [.int .i64 x1_0, .int .i64 x1_1, .int .i64 x1_2, str x1_3, str x1_4, str x1_5, .int .i64 x1_6, .int .i64 x1_7, .int .i64 x1_8, str x1_9], obj b1v 72 [.int .i64 x0_0, .bool x0_1, .slice a0_2 x0_2.length c0_2], F]) rfl rfl rfl rfl rfl rfl Tryd.call15 (.sel 0 rfl (.sel 0 rfl (.sel 0 rfl (.sel 0 rfl (.nil _))))) (synodref_Num.calls _ _ x0_0 ) (synodref_Num.tot x0_0)) (fun _ => rfl) (fun _ => (.sel 0 rfl (.sel 0 rfl (.sel 0 rfl (.sel 0 rfl (.nil _))))))) rfl) zA))) (ac (fun γ => (ac (qp rfl rfl (.o (s := 2) rfl (by decide) .nil) (q_fa rfl rfl Tryd.underlying72 rfl rfl Tryd.sizeOf4 rfl) rfl) (ac (qp rfl rfl (.o (s := 2) rfl (by decide) .nil) (q_fa rfl rfl Tryd.underlying72 rfl rfl Tryd.sizeOf4 rfl) rfl) zA))) (ac (fun γ => (ac (qp rfl rfl (.v 3 rfl rfl .nil) (q_load rfl rfl Tryd.isAgg4 (.obj 1 rfl rfl)) rfl) (ac (qp rfl rfl (.v 3 rfl rfl .nil) (q_load rfl rfl Tryd.isAgg4 (.obj 2 rfl rfl)) rfl) zA))) (ac (fun γ => (ac (qp rfl rfl (.v 2 rfl rfl (.v 4 rfl rfl .nil)) (q_build (v := .agg #[.int .i64 (synodref_Num.v x0_0), .bool x0_1, .slice none 0 0]) rfl rfl (fun _ => by kernel_rfl)) rfl) (ac (qp rfl rfl (.v 2 rfl rfl (.v 4 rfl rfl .nil)) (q_build (v := .agg #[.int .i64 (synodref_Num.v x0_0), .bool x0_1, .slice none 0 0]) rfl rfl (fun _ => by kernel_rfl)) rfl) zA))) zA))))))
 exact (ac (fun γ => eo (Z := Nat) (fun z => z) rfl rfl .nil (re_alloc rfl Tryd.zeroValue81 rfl) (fun _ => ⟨rfl, rfl, rfl, rfl, rfl, rfl, trivial⟩) (fun _ => .inr rfl) (fun z => Ent.refl _)) (ac (fun γ => eo (Z := Unit) (fun z => γ) rfl rfl (.v 6 rfl rfl (.v 5 rfl rfl .nil)) (re_store 0 rfl rfl rfl Tryd.sizeOf81 rfl rfl (one_of (by rfl)) rfl rfl) (fun _ => ⟨rfl, rfl, rfl, rfl, rfl, rfl, rfl, trivial⟩) (fun _ => .inl rfl) (fun z => Ent.refl _)) zA))
 intro g36v
 refine nrm_then ?_
 refine sim_cutR (S := (List (Ty78))) (Option Addr × Nat) (fun s y => [(2, .pointer (some ⟨b1v, 0, none⟩)), (3, .pointer (some ⟨b2v, 0, none⟩)), (8, .pointer (some ⟨g36v, 0, none⟩))]) (fun s y => [obj g36v 81 [.int .i64 (synodref_Num.v x0_0), .bool x0_1, .slice y.1 s.length y.2], obj b2v 76 [.int .i64 x1_0, .int .i64 x1_1, .int .i64 x1_2, str x1_3, str x1_4, str x1_5, .int .i64 x1_6, .int .i64 x1_7, .int .i64 x1_8, str x1_9], obj b1v 72 [.int .i64 x0_0, .bool x0_1, .slice a0_2 x0_2.length c0_2], RowV 82 6 (V82 tt) y.1 s y.2, F]) ?_ ?_
 refine sr ?_
 refine va rfl rfl (simL_nil (nrm_then ?_))
 refine sim_block ?_
 refine sim_loop (S := Int × (List (Ty78))) (Option Addr × Nat) (fun k s => synodlaw17_TextEvents.l1 x0_2 k s.1 s.2) (fun s y => [(2, .pointer (some ⟨b1v, 0, none⟩)), (3, .pointer (some ⟨b2v, 0, none⟩)), (8, .pointer (some ⟨g36v, 0, none⟩)), (9, .int .i64 s.1)]) (fun s y => [obj g36v 81 [.int .i64 (synodref_Num.v x0_0), .bool x0_1, .slice y.1 s.2.length y.2], obj b2v 76 [.int .i64 x1_0, .int .i64 x1_1, .int .i64 x1_2, str x1_3, str x1_4, str x1_5, .int .i64 x1_6, .int .i64 x1_7, .int .i64 x1_8, str x1_9], obj b1v 72 [.int .i64 x0_0, .bool x0_1, .slice a0_2 x0_2.length c0_2], RowV 82 6 (V82 tt) y.1 s.2 y.2, F]) (fun _ => by rw [synodlaw17_TextEvents.l1]) ?_ k (0, ([] : List (Ty78))) (none, 0) ⟨rfl, rfl, rfl, rfl, trivial⟩ (.sel 0 rfl (.sel 0 rfl (.sel 0 rfl (.rowV_nil (.sel 0 rfl (.nil _))))))
 intro k s39v y40v
 refine sim_eq (by rw [synodlaw17_TextEvents.l1]) ?_
 refine sim_seq (sr ?_)
 refine vm rfl rfl ?_
 refine vq (q_fa rfl rfl Tryd.underlying72 rfl rfl Tryd.sizeOf70 rfl) rfl ?_
 refine vq (q_load rfl rfl Tryd.isAgg70 (.obj 2 rfl rfl)) rfl ?_
 refine vq (q_len rfl rfl rfl Tryd.underlying70) rfl ?_
 refine vq (q_lss rfl rfl rfl) rfl (simL_nil (nrm_then ?_))
 refine sim_cond rfl (fun h43v => ?_) (fun h44v => ?_)
 refine sim_skip ?_
 refine nrm_then (sim_seq ?_)
 refine sim_block ?_
 refine sr ?_
 refine vq (q_fa rfl rfl Tryd.underlying72 rfl rfl Tryd.sizeOf70 rfl) rfl ?_
 refine vq (q_load rfl rfl Tryd.isAgg70 (.obj 2 rfl rfl)) rfl ?_
 refine vm rfl rfl ?_
 refine simL_ask (fun hi45v => ?_)
 obtain ⟨b46v, b46vo, r49v, ha47v, hV50v, hlr51v, hcell52v⟩ := RdV.pos h0_2 (Up.refl _) rfl (i := s39v.1.toNat) (by omega) dz78
 obtain rfl := hV50v
 refine vq (q_idx rfl rfl rfl ha47v Tryd.underlying70 Tryd.sizeOf78 hi45v.1 hi45v.2) rfl ?_
 refine vq (q_loads rfl rfl Tryd.isAgg78 Tryd.sizeOf78 rfl (fun j v hj => hcell52v 4 rfl j v hj)) rfl ?_
 refine simL_eff (re_alloc rfl Tryd.zeroValue78 rfl) rfl rfl rfl ?_
 intro b53v
 refine simL_do (re_store 0 rfl rfl rfl Tryd.sizeOf78 rfl rfl (one_of (by rfl)) rfl rfl) rfl rfl ?_
 intro _
 refine simL_ent (H' := [obj b53v 78 [.int .i64 ((x0_2.getD s39v.1.toNat dz78).1), .int .i64 ((x0_2.getD s39v.1.toNat dz78).2.1), .int .i64 ((x0_2.getD s39v.1.toNat dz78).2.2.1), .int .i64 ((x0_2.getD s39v.1.toNat dz78).2.2.2.1), .int .i64 ((x0_2.getD s39v.1.toNat dz78).2.2.2.2.1), str ((x0_2.getD s39v.1.toNat dz78).2.2.2.2.2)], obj g36v 81 [.int .i64 (synodref_Num.v x0_0), .bool x0_1, .slice y40v.1 s39v.2.length y40v.2], obj b2v 76 [.int .i64 x1_0, .int .i64 x1_1, .int .i64 x1_2, str x1_3, str x1_4, str x1_5, .int .i64 x1_6, .int .i64 x1_7, .int .i64 x1_8, str x1_9], obj b1v 72 [.int .i64 x0_0, .bool x0_1, .slice a0_2 x0_2.length c0_2], RowV 82 6 (V82 tt) y40v.1 s39v.2 y40v.2, F]) (Ent.refl _) ?_
 refine nx ?_
 refine vq (q_fa rfl rfl Tryd.underlying78 rfl rfl Tryd.sizeOf3 rfl) rfl ?_
 refine vq (q_load rfl rfl Tryd.isAgg3 (.obj 0 rfl rfl)) rfl ?_
 refine vq (q_fa rfl rfl Tryd.underlying78 rfl rfl Tryd.sizeOf3 rfl) rfl ?_
 refine vq (q_load rfl rfl Tryd.isAgg3 (.obj 0 rfl rfl)) rfl ?_
 refine vq (q_fa rfl rfl Tryd.underlying78 rfl rfl Tryd.sizeOf3 rfl) rfl ?_
 refine vq (q_load rfl rfl Tryd.isAgg3 (.obj 0 rfl rfl)) rfl ?_
 refine vq (q_fa rfl rfl Tryd.underlying78 rfl rfl Tryd.sizeOf3 rfl) rfl ?_
 refine vq (q_load rfl rfl Tryd.isAgg3 (.obj 0 rfl rfl)) rfl ?_
 refine vq (q_fa rfl rfl Tryd.underlying78 rfl rfl Tryd.sizeOf74 rfl) rfl ?_
 refine vq (q_loads (vs := [.int .i64 ((x0_2.getD s39v.1.toNat dz78).2.2.2.2.1), str ((x0_2.getD s39v.1.toNat dz78).2.2.2.2.2)]) rfl rfl Tryd.isAgg74 Tryd.sizeOf74 rfl (cells_obj 0 rfl (cells_lit rfl))) rfl ?_
 refine vq (q_build (v := .agg #[.int .i64 ((x0_2.getD s39v.1.toNat dz78).1), .int .i64 ((x0_2.getD s39v.1.toNat dz78).2.1), .int .i64 ((x0_2.getD s39v.1.toNat dz78).2.2.1), .int .i64 ((x0_2.getD s39v.1.toNat dz78).2.2.2.1), .int .i64 ((x0_2.getD s39v.1.toNat dz78).2.2.2.2.1), str ((x0_2.getD s39v.1.toNat dz78).2.2.2.2.2)]) rfl rfl (fun _ => by kernel_rfl)) rfl ?_
 refine simL_eff (re_alloc rfl Tryd.zeroValue82 rfl) rfl rfl rfl ?_
 intro b54v
 refine simL_do (re_store 0 rfl rfl rfl Tryd.sizeOf82 rfl rfl (one_of (by rfl)) rfl rfl) rfl rfl ?_
 intro _
 refine simL_ent (H' := [obj b54v 82 [.int .i64 ((x0_2.getD s39v.1.toNat dz78).1), .int .i64 ((x0_2.getD s39v.1.toNat dz78).2.1), .int .i64 ((x0_2.getD s39v.1.toNat dz78).2.2.1), .int .i64 ((x0_2.getD s39v.1.toNat dz78).2.2.2.1), .int .i64 ((x0_2.getD s39v.1.toNat dz78).2.2.2.2.1), str ((x0_2.getD s39v.1.toNat dz78).2.2.2.2.2)], obj b53v 78 [.int .i64 ((x0_2.getD s39v.1.toNat dz78).1), .int .i64 ((x0_2.getD s39v.1.toNat dz78).2.1), .int .i64 ((x0_2.getD s39v.1.toNat dz78).2.2.1), .int .i64 ((x0_2.getD s39v.1.toNat dz78).2.2.2.1), .int .i64 ((x0_2.getD s39v.1.toNat dz78).2.2.2.2.1), str ((x0_2.getD s39v.1.toNat dz78).2.2.2.2.2)], obj g36v 81 [.int .i64 (synodref_Num.v x0_0), .bool x0_1, .slice y40v.1 s39v.2.length y40v.2], obj b2v 76 [.int .i64 x1_0, .int .i64 x1_1, .int .i64 x1_2, str x1_3, str x1_4, str x1_5, .int .i64 x1_6, .int .i64 x1_7, .int .i64 x1_8, str x1_9], obj b1v 72 [.int .i64 x0_0, .bool x0_1, .slice a0_2 x0_2.length c0_2], RowV 82 6 (V82 tt) y40v.1 s39v.2 y40v.2, F]) (Ent.refl _) ?_
 refine nx ?_
 refine vq (q_fa rfl rfl Tryd.underlying81 rfl rfl Tryd.sizeOf79 rfl) rfl ?_
 refine vq (q_load rfl rfl Tryd.isAgg79 (.obj 2 rfl rfl)) rfl ?_
 refine vq (q_loado 0 rfl rfl Tryd.isAgg82 Tryd.sizeOf82 rfl rfl) rfl ?_
 have hlb56v : ListV 6 (V82 tt) ([((x0_2.getD s39v.1.toNat dz78).1, (x0_2.getD s39v.1.toNat dz78).2.1, (x0_2.getD s39v.1.toNat dz78).2.2.1, (x0_2.getD s39v.1.toNat dz78).2.2.2.1, (x0_2.getD s39v.1.toNat dz78).2.2.2.2.1, (x0_2.getD s39v.1.toNat dz78).2.2.2.2.2)] : List (Ty78)) [[.int .i64 ((x0_2.getD s39v.1.toNat dz78).1), .int .i64 ((x0_2.getD s39v.1.toNat dz78).2.1), .int .i64 ((x0_2.getD s39v.1.toNat dz78).2.2.1), .int .i64 ((x0_2.getD s39v.1.toNat dz78).2.2.2.1), .int .i64 ((x0_2.getD s39v.1.toNat dz78).2.2.2.2.1), str ((x0_2.getD s39v.1.toNat dz78).2.2.2.2.2)]] := ⟨⟨rfl, one_of (by rfl), rfl⟩, trivial⟩
 refine simL_eff (re_litV (V := (V82 tt)) (xs := ([((x0_2.getD s39v.1.toNat dz78).1, (x0_2.getD s39v.1.toNat dz78).2.1, (x0_2.getD s39v.1.toNat dz78).2.2.1, (x0_2.getD s39v.1.toNat dz78).2.2.2.1, (x0_2.getD s39v.1.toNat dz78).2.2.2.2.1, (x0_2.getD s39v.1.toNat dz78).2.2.2.2.2)] : List (Ty78))) [[.int .i64 ((x0_2.getD s39v.1.toNat dz78).1), .int .i64 ((x0_2.getD s39v.1.toNat dz78).2.1), .int .i64 ((x0_2.getD s39v.1.toNat dz78).2.2.1), .int .i64 ((x0_2.getD s39v.1.toNat dz78).2.2.2.1), .int .i64 ((x0_2.getD s39v.1.toNat dz78).2.2.2.2.1), str ((x0_2.getD s39v.1.toNat dz78).2.2.2.2.2)]] rfl rfl Tryd.underlying79 elt82 rfl (by kernel_rfl) rfl hlb56v rfl rfl) rfl rfl rfl ?_
 intro b56v
 refine simL_openV 6 rfl (fun rs61v hl62v => ?_)
 refine simL_ask (fun hb60v => ?_)
 refine simL_eff (re_appendV 6 rfl rfl rfl Tryd.underlying79 elt82 rfl hl62v (RdsV.row hlb56v 0 rfl) hb60v) rfl rfl rfl ?_
 intro y59v
 refine vq (q_fa rfl rfl Tryd.underlying81 rfl rfl Tryd.sizeOf79 rfl) rfl ?_
 refine simL_do (re_store 3 rfl rfl rfl Tryd.sizeOf79 rfl rfl (one_of (by rfl)) rfl rfl) rfl rfl ?_
 intro _
 refine simL_nil (nrm_then (sim_seq ?_))
 refine sim_openV 6 rfl (fun rs63v hl64v => ?_)
 refine sim_bind (fun s65v hs66v => ?_)
 refine sim_bind (fun s68v hs69v => ?_)
 refine sim_bind (fun s71v hs72v => ?_)
 refine sim_bind (fun s74v hs75v => ?_)
 refine sim_draw (Γ := Unit) () [[], [0], [], [0, 1, 2], rL 4, rL 5, rL 6, rL 7, rL 8, rL 6, [0, 1, 2, 3, 4, 5, 9], rL 11, rL 12, rL 13] [1, 3] [0, 2, 4, 5, 6, 7, 8, 9, 10, 11, 12, 13] (fun i => [[0], [], [0, 1], [], [2], [2], [2], [2], [2], [2], [2], [2], [2], [2]].getD i []) (fun i => [[], [0, 2], [], [0, 1, 2], [], [], [], [], [], [], [], [], [], []].getD i []) (fun γ i => [.agg #[.int .i64 ((x0_2.getD s39v.1.toNat dz78).1), .int .i64 ((x0_2.getD s39v.1.toNat dz78).2.1), .int .i64 ((x0_2.getD s39v.1.toNat dz78).2.2.1), .int .i64 ((x0_2.getD s39v.1.toNat dz78).2.2.2.1), .int .i64 ((x0_2.getD s39v.1.toNat dz78).2.2.2.2.1), str ((x0_2.getD s39v.1.toNat dz78).2.2.2.2.2)], str s65v, .agg #[.int .i64 ((x0_2.getD s39v.1.toNat dz78).1), .int .i64 ((x0_2.getD s39v.1.toNat dz78).2.1), .int .i64 ((x0_2.getD s39v.1.toNat dz78).2.2.1), .int .i64 ((x0_2.getD s39v.1.toNat dz78).2.2.2.1), .int .i64 ((x0_2.getD s39v.1.toNat dz78).2.2.2.2.1), str ((x0_2.getD s39v.1.toNat dz78).2.2.2.2.2)], str s68v, .bool (!decide (s65v = s68v)), .bool (!decide (s65v = s68v)), cv ((!decide (s65v = s68v)) == false) (.pointer (some ⟨b53v, 4, none⟩)), cv ((!decide (s65v = s68v)) == false) (.agg #[.int .i64 ((x0_2.getD s39v.1.toNat dz78).2.2.2.2.1), str ((x0_2.getD s39v.1.toNat dz78).2.2.2.2.2)]), cv ((!decide (s65v = s68v)) == false) (str s71v), cv ((!decide (s65v = s68v)) == false) (.pointer (some ⟨b53v, 4, none⟩)), cv ((!decide (s65v = s68v)) == false) (.agg #[.int .i64 ((x0_2.getD s39v.1.toNat dz78).2.2.2.2.1), str ((x0_2.getD s39v.1.toNat dz78).2.2.2.2.2)]), cv ((!decide (s65v = s68v)) == false) (str s74v), cv ((!decide (s65v = s68v)) == false) (.bool (!decide (s71v = s74v))), .bool ((!decide (s65v = s68v)) || (!decide (s71v = s74v)))].getD i undef) (fun j γ => [[Row 82 6 (some ⟨b56v, 0, none⟩) ([((x0_2.getD s39v.1.toNat dz78).1, (x0_2.getD s39v.1.toNat dz78).2.1, (x0_2.getD s39v.1.toNat dz78).2.2.1, (x0_2.getD s39v.1.toNat dz78).2.2.2.1, (x0_2.getD s39v.1.toNat dz78).2.2.2.2.1, (x0_2.getD s39v.1.toNat dz78).2.2.2.2.2)] : List (Ty78)).length 1 [[.int .i64 ((x0_2.getD s39v.1.toNat dz78).1), .int .i64 ((x0_2.getD s39v.1.toNat dz78).2.1), .int .i64 ((x0_2.getD s39v.1.toNat dz78).2.2.1), .int .i64 ((x0_2.getD s39v.1.toNat dz78).2.2.2.1), .int .i64 ((x0_2.getD s39v.1.toNat dz78).2.2.2.2.1), str ((x0_2.getD s39v.1.toNat dz78).2.2.2.2.2)]].flatten, obj b54v 82 [.int .i64 ((x0_2.getD s39v.1.toNat dz78).1), .int .i64 ((x0_2.getD s39v.1.toNat dz78).2.1), .int .i64 ((x0_2.getD s39v.1.toNat dz78).2.2.1), .int .i64 ((x0_2.getD s39v.1.toNat dz78).2.2.2.1), .int .i64 ((x0_2.getD s39v.1.toNat dz78).2.2.2.2.1), str ((x0_2.getD s39v.1.toNat dz78).2.2.2.2.2)], obj b53v 78 [.int .i64 ((x0_2.getD s39v.1.toNat dz78).1), .int .i64 ((x0_2.getD s39v.1.toNat dz78).2.1), .int .i64 ((x0_2.getD s39v.1.toNat dz78).2.2.1), .int .i64 ((x0_2.getD s39v.1.toNat dz78).2.2.2.1), .int .i64 ((x0_2.getD s39v.1.toNat dz78).2.2.2.2.1), str ((x0_2.getD s39v.1.toNat dz78).2.2.2.2.2)], obj g36v 81 [.int .i64 (synodref_Num.v x0_0), .bool x0_1, .slice y59v.1 ((s39v.2 ++ ([((x0_2.getD s39v.1.toNat dz78).1, (x0_2.getD s39v.1.toNat dz78).2.1, (x0_2.getD s39v.1.toNat dz78).2.2.1, (x0_2.getD s39v.1.toNat dz78).2.2.2.1, (x0_2.getD s39v.1.toNat dz78).2.2.2.2.1, (x0_2.getD s39v.1.toNat dz78).2.2.2.2.2)] : List (Ty78))).length) y59v.2], obj b2v 76 [.int .i64 x1_0, .int .i64 x1_1, .int .i64 x1_2, str x1_3, str x1_4, str x1_5, .int .i64 x1_6, .int .i64 x1_7, .int .i64 x1_8, str x1_9], obj b1v 72 [.int .i64 x0_0, .bool x0_1, .slice a0_2 x0_2.length c0_2], Row 82 6 y59v.1 (s39v.2 ++ ([((x0_2.getD s39v.1.toNat dz78).1, (x0_2.getD s39v.1.toNat dz78).2.1, (x0_2.getD s39v.1.toNat dz78).2.2.1, (x0_2.getD s39v.1.toNat dz78).2.2.2.1, (x0_2.getD s39v.1.toNat dz78).2.2.2.2.1, (x0_2.getD s39v.1.toNat dz78).2.2.2.2.2)] : List (Ty78))).length y59v.2 rs63v.flatten, F], [Row 82 6 (some ⟨b56v, 0, none⟩) ([((x0_2.getD s39v.1.toNat dz78).1, (x0_2.getD s39v.1.toNat dz78).2.1, (x0_2.getD s39v.1.toNat dz78).2.2.1, (x0_2.getD s39v.1.toNat dz78).2.2.2.1, (x0_2.getD s39v.1.toNat dz78).2.2.2.2.1, (x0_2.getD s39v.1.toNat dz78).2.2.2.2.2)] : List (Ty78)).length 1 [[.int .i64 ((x0_2.getD s39v.1.toNat dz78).1), .int .i64 ((x0_2.getD s39v.1.toNat dz78).2.1), .int .i64 ((x0_2.getD s39v.1.toNat dz78).2.2.1), .int .i64 ((x0_2.getD s39v.1.toNat dz78).2.2.2.1), .int .i64 ((x0_2.getD s39v.1.toNat dz78).2.2.2.2.1), str ((x0_2.getD s39v.1.toNat dz78).2.2.2.2.2)]].flatten, obj b54v 82 [.int .i64 ((x0_2.getD s39v.1.toNat dz78).1), .int .i64 ((x0_2.getD s39v.1.toNat dz78).2.1), .int .i64 ((x0_2.getD s39v.1.toNat dz78).2.2.1), .int .i64 ((x0_2.getD s39v.1.toNat dz78).2.2.2.1), .int .i64 ((x0_2.getD s39v.1.toNat dz78).2.2.2.2.1), str ((x0_2.getD s39v.1.toNat dz78).2.2.2.2.2)], obj b53v 78 [.int .i64 ((x0_2.getD s39v.1.toNat dz78).1), .int .i64 ((x0_2.getD s39v.1.toNat dz78).2.1), .int .i64 ((x0_2.getD s39v.1.toNat dz78).2.2.1), .int .i64 ((x0_2.getD s39v.1.toNat dz78).2.2.2.1), .int .i64 ((x0_2.getD s39v.1.toNat dz78).2.2.2.2.1), str ((x0_2.getD s39v.1.toNat dz78).2.2.2.2.2)], obj g36v 81 [.int .i64 (synodref_Num.v x0_0), .bool x0_1, .slice y59v.1 ((s39v.2 ++ ([((x0_2.getD s39v.1.toNat dz78).1, (x0_2.getD s39v.1.toNat dz78).2.1, (x0_2.getD s39v.1.toNat dz78).2.2.1, (x0_2.getD s39v.1.toNat dz78).2.2.2.1, (x0_2.getD s39v.1.toNat dz78).2.2.2.2.1, (x0_2.getD s39v.1.toNat dz78).2.2.2.2.2)] : List (Ty78))).length) y59v.2], obj b2v 76 [.int .i64 x1_0, .int .i64 x1_1, .int .i64 x1_2, str x1_3, str x1_4, str x1_5, .int .i64 x1_6, .int .i64 x1_7, .int .i64 x1_8, str x1_9], obj b1v 72 [.int .i64 x0_0, .bool x0_1, .slice a0_2 x0_2.length c0_2], Row 82 6 y59v.1 (s39v.2 ++ ([((x0_2.getD s39v.1.toNat dz78).1, (x0_2.getD s39v.1.toNat dz78).2.1, (x0_2.getD s39v.1.toNat dz78).2.2.1, (x0_2.getD s39v.1.toNat dz78).2.2.2.1, (x0_2.getD s39v.1.toNat dz78).2.2.2.2.1, (x0_2.getD s39v.1.toNat dz78).2.2.2.2.2)] : List (Ty78))).length y59v.2 rs63v.flatten, F], [Row 82 6 (some ⟨b56v, 0, none⟩) ([((x0_2.getD s39v.1.toNat dz78).1, (x0_2.getD s39v.1.toNat dz78).2.1, (x0_2.getD s39v.1.toNat dz78).2.2.1, (x0_2.getD s39v.1.toNat dz78).2.2.2.1, (x0_2.getD s39v.1.toNat dz78).2.2.2.2.1, (x0_2.getD s39v.1.toNat dz78).2.2.2.2.2)] : List (Ty78)).length 1 [[.int .i64 ((x0_2.getD s39v.1.toNat dz78).1), .int .i64 ((x0_2.getD s39v.1.toNat dz78).2.1), .int .i64 ((x0_2.getD s39v.1.toNat dz78).2.2.1), .int .i64 ((x0_2.getD s39v.1.toNat dz78).2.2.2.1), .int .i64 ((x0_2.getD s39v.1.toNat dz78).2.2.2.2.1), str ((x0_2.getD s39v.1.toNat dz78).2.2.2.2.2)]].flatten, obj b54v 82 [.int .i64 ((x0_2.getD s39v.1.toNat dz78).1), .int .i64 ((x0_2.getD s39v.1.toNat dz78).2.1), .int .i64 ((x0_2.getD s39v.1.toNat dz78).2.2.1), .int .i64 ((x0_2.getD s39v.1.toNat dz78).2.2.2.1), .int .i64 ((x0_2.getD s39v.1.toNat dz78).2.2.2.2.1), str ((x0_2.getD s39v.1.toNat dz78).2.2.2.2.2)], obj b53v 78 [.int .i64 ((x0_2.getD s39v.1.toNat dz78).1), .int .i64 ((x0_2.getD s39v.1.toNat dz78).2.1), .int .i64 ((x0_2.getD s39v.1.toNat dz78).2.2.1), .int .i64 ((x0_2.getD s39v.1.toNat dz78).2.2.2.1), .int .i64 ((x0_2.getD s39v.1.toNat dz78).2.2.2.2.1), str ((x0_2.getD s39v.1.toNat dz78).2.2.2.2.2)], obj g36v 81 [.int .i64 (synodref_Num.v x0_0), .bool x0_1, .slice y59v.1 ((s39v.2 ++ ([((x0_2.getD s39v.1.toNat dz78).1, (x0_2.getD s39v.1.toNat dz78).2.1, (x0_2.getD s39v.1.toNat dz78).2.2.1, (x0_2.getD s39v.1.toNat dz78).2.2.2.1, (x0_2.getD s39v.1.toNat dz78).2.2.2.2.1, (x0_2.getD s39v.1.toNat dz78).2.2.2.2.2)] : List (Ty78))).length) y59v.2], obj b2v 76 [.int .i64 x1_0, .int .i64 x1_1, .int .i64 x1_2, str x1_3, str x1_4, str x1_5, .int .i64 x1_6, .int .i64 x1_7, .int .i64 x1_8, str x1_9], obj b1v 72 [.int .i64 x0_0, .bool x0_1, .slice a0_2 x0_2.length c0_2], Row 82 6 y59v.1 (s39v.2 ++ ([((x0_2.getD s39v.1.toNat dz78).1, (x0_2.getD s39v.1.toNat dz78).2.1, (x0_2.getD s39v.1.toNat dz78).2.2.1, (x0_2.getD s39v.1.toNat dz78).2.2.2.1, (x0_2.getD s39v.1.toNat dz78).2.2.2.2.1, (x0_2.getD s39v.1.toNat dz78).2.2.2.2.2)] : List (Ty78))).length y59v.2 rs63v.flatten, F]].getD j []) (fun γ => [(2, .pointer (some ⟨b1v, 0, none⟩)), (3, .pointer (some ⟨b2v, 0, none⟩)), (8, .pointer (some ⟨g36v, 0, none⟩)), (9, .int .i64 s39v.1), (118, cv ((!decide (s65v = s68v)) == false) (.pointer (some ⟨b53v, 4, none⟩))), (119, cv ((!decide (s65v = s68v)) == false) (.agg #[.int .i64 ((x0_2.getD s39v.1.toNat dz78).2.2.2.2.1), str ((x0_2.getD s39v.1.toNat dz78).2.2.2.2.2)])), (120, cv ((!decide (s65v = s68v)) == false) (str s71v)), (121, cv ((!decide (s65v = s68v)) == false) (.pointer (some ⟨b53v, 4, none⟩))), (122, cv ((!decide (s65v = s68v)) == false) (.agg #[.int .i64 ((x0_2.getD s39v.1.toNat dz78).2.2.2.2.1), str ((x0_2.getD s39v.1.toNat dz78).2.2.2.2.2)])), (123, cv ((!decide (s65v = s68v)) == false) (str s74v)), (124, cv ((!decide (s65v = s68v)) == false) (.bool (!decide (s71v = s74v)))), (125, .bool ((!decide (s65v = s68v)) || (!decide (s71v = s74v))))]) mixed (by decide) (by decide) (by decide) (by decide) (by decide) (by decide) (by decide) 150 rfl (by decide) (by decide) (by decide) (Ent.refl _) ?_ ?_ (fun _ => ⟨rfl, rfl, rfl, rfl, rfl, rfl, rfl, rfl, rfl, rfl, rfl, rfl, trivial⟩) ?_
 exact (aq rfl (fun γ => qp rfl rfl (.o (s := 10) rfl (by decide) .nil) (q_loado 2 rfl rfl Tryd.isAgg78 Tryd.sizeOf78 rfl rfl) rfl) (ac (fun γ => (ac (qp rfl rfl (.o (s := 11) rfl (by decide) .nil) (q_loado 1 rfl rfl Tryd.isAgg82 Tryd.sizeOf82 rfl rfl) rfl) (ac (qp rfl rfl (.o (s := 11) rfl (by decide) .nil) (q_loado 1 rfl rfl Tryd.isAgg82 Tryd.sizeOf82 rfl rfl) rfl) zA))) (aq rfl (fun γ => qp rfl rfl (.v 1 rfl rfl (.v 3 rfl rfl .nil)) (q_nes rfl rfl rfl) rfl) (aq rfl (fun γ => qm rfl (.v 4 rfl rfl .nil) rfl) (aq rfl (fun γ => QOb.grd (b := !decide (s65v = s68v)) [(10, .pointer (some ⟨b53v, 0, none⟩)), (117, .bool (!decide (s65v = s68v)))] rfl rfl rfl rfl (.o (s := 10) rfl (by decide) (.v 5 rfl rfl .nil)) (fun hb77v => RQ.sub (E' := [(10, .pointer (some ⟨b53v, 0, none⟩))]) ⟨rfl, trivial⟩ (q_fa rfl rfl Tryd.underlying78 rfl rfl Tryd.sizeOf74 rfl)) rfl) (aq rfl (fun γ => QOb.grd (b := !decide (s65v = s68v)) [(117, .bool (!decide (s65v = s68v))), (118, cv ((!decide (s65v = s68v)) == false) (.pointer (some ⟨b53v, 4, none⟩)))] rfl rfl rfl rfl (.v 5 rfl rfl (.v 6 rfl rfl .nil)) (fun hb78v => RQ.sub (E' := [(118, .pointer (some ⟨b53v, 4, none⟩))]) ⟨lk_cv rfl hb78v, trivial⟩ (q_loads (vs := [.int .i64 ((x0_2.getD s39v.1.toNat dz78).2.2.2.2.1), str ((x0_2.getD s39v.1.toNat dz78).2.2.2.2.2)]) rfl rfl Tryd.isAgg74 Tryd.sizeOf74 rfl (cells_obj 2 rfl (cells_lit rfl)))) rfl) (aq rfl (fun γ => QOb.grd (b := !decide (s65v = s68v)) [(117, .bool (!decide (s65v = s68v))), (119, cv ((!decide (s65v = s68v)) == false) (.agg #[.int .i64 ((x0_2.getD s39v.1.toNat dz78).2.2.2.2.1), str ((x0_2.getD s39v.1.toNat dz78).2.2.2.2.2)]))] rfl rfl rfl rfl (.v 5 rfl rfl (.v 7 rfl rfl .nil)) (fun hb79v => RQ.sub (E' := [(119, .agg #[.int .i64 ((x0_2.getD s39v.1.toNat dz78).2.2.2.2.1), str ((x0_2.getD s39v.1.toNat dz78).2.2.2.2.2)])]) ⟨lk_cv rfl hb79v, trivial⟩ (RE.rq (re_call (vs := [.agg #[.int .i64 ((x0_2.getD s39v.1.toNat dz78).2.2.2.2.1), str ((x0_2.getD s39v.1.toNat dz78).2.2.2.2.2)]]) (cap := []) (A := []) (rst := [Row 82 6 (some ⟨b56v, 0, none⟩) ([((x0_2.getD s39v.1.toNat dz78).1, (x0_2.getD s39v.1.toNat dz78).2.1, (x0_2.getD s39v.1.toNat dz78).2.2.1, (x0_2.getD s39v.1.toNat dz78).2.2.2.1, (x0_2.getD s39v.1.toNat dz78).2.2.2.2.1, (x0_2.getD s39v.1.toNat dz78).2.2.2.2.2)] : List (Ty78)).length 1 [[.int .i64 ((x0_2.getD s39v.1.toNat dz78).1), .int .i64 ((x0_2.getD s39v.1.toNat dz78).2.1), .int .i64 ((x0_2.getD s39v.1.toNat dz78).2.2.1), .int .i64 ((x0_2.getD s39v.1.toNat dz78).2.2.2.1), .int .i64 ((x0_2.getD s39v.1.toNat dz78).2.2.2.2.1), str ((x0_2.getD s39v.1.toNat dz78).2.2.2.2.2)]].flatten, obj b54v 82 [.int .i64 ((x0_2.getD s39v.1.toNat dz78).1), .int .i64 ((x0_2.getD s39v.1.toNat dz78).2.1), .int .i64 ((x0_2.getD s39v.1.toNat dz78).2.2.1), .int .i64 ((x0_2.getD s39v.1.toNat dz78).2.2.2.1), .int .i64 ((x0_2.getD s39v.1.toNat dz78).2.2.2.2.1), str ((x0_2.getD s39v.1.toNat dz78).2.2.2.2.2)], obj b53v 78 [.int .i64 ((x0_2.getD s39v.1.toNat dz78).1), .int .i64 ((x0_2.getD s39v.1.toNat dz78).2.1), .int .i64 ((x0_2.getD s39v.1.toNat dz78).2.2.1), .int .i64 ((x0_2.getD s39v.1.toNat dz78).2.2.2.1), .int .i64 ((x0_2.getD s39v.1.toNat dz78).2.2.2.2.1), str ((x0_2.getD s39v.1.toNat dz78).2.2.2.2.2)], obj g36v 81 [.int .i64 (synodref_Num.v x0_0), .bool x0_1, .slice y59v.1 ((s39v.2 ++ ([((x0_2.getD s39v.1.toNat dz78).1, (x0_2.getD s39v.1.toNat dz78).2.1, (x0_2.getD s39v.1.toNat dz78).2.2.1, (x0_2.getD s39v.1.toNat dz78).2.2.2.1, (x0_2.getD s39v.1.toNat dz78).2.2.2.2.1, (x0_2.getD s39v.1.toNat dz78).2.2.2.2.2)] : List (Ty78))).length) y59v.2], obj b2v 76 [.int .i64 x1_0, .int .i64 x1_1, .int .i64 x1_2, str x1_3, str x1_4, str x1_5, .int .i64 x1_6, .int .i64 x1_7, .int .i64 x1_8, str x1_9], obj b1v 72 [.int .i64 x0_0, .bool x0_1, .slice a0_2 x0_2.length c0_2], Row 82 6 y59v.1 (s39v.2 ++ ([((x0_2.getD s39v.1.toNat dz78).1, (x0_2.getD s39v.1.toNat dz78).2.1, (x0_2.getD s39v.1.toNat dz78).2.2.1, (x0_2.getD s39v.1.toNat dz78).2.2.2.1, (x0_2.getD s39v.1.toNat dz78).2.2.2.2.1, (x0_2.getD s39v.1.toNat dz78).2.2.2.2.2)] : List (Ty78))).length y59v.2 rs63v.flatten, F]) rfl rfl rfl rfl rfl rfl Tryd.call31 (.sel 0 rfl (.sel 0 rfl (.sel 0 rfl (.sel 0 rfl (.sel 0 rfl (.sel 0 rfl (.sel 0 rfl (.sel 0 rfl (.nil _))))))))) (text_Reply.calls _ _ k ((x0_2.getD s39v.1.toNat dz78).2.2.2.2.1) ((x0_2.getD s39v.1.toNat dz78).2.2.2.2.2) ) (by rw [if_pos hb79v] at hs72v; exact hs72v)) (fun _ => rfl) (fun _ => (.sel 0 rfl (.sel 0 rfl (.sel 0 rfl (.sel 0 rfl (.sel 0 rfl (.sel 0 rfl (.sel 0 rfl (.sel 0 rfl (.nil _)))))))))))) rfl) (aq rfl (fun γ => QOb.grd (b := !decide (s65v = s68v)) [(10, .pointer (some ⟨b53v, 0, none⟩)), (117, .bool (!decide (s65v = s68v)))] rfl rfl rfl rfl (.o (s := 10) rfl (by decide) (.v 5 rfl rfl .nil)) (fun hb80v => RQ.sub (E' := [(10, .pointer (some ⟨b53v, 0, none⟩))]) ⟨rfl, trivial⟩ (q_fa rfl rfl Tryd.underlying78 rfl rfl Tryd.sizeOf74 rfl)) rfl) (aq rfl (fun γ => QOb.grd (b := !decide (s65v = s68v)) [(117, .bool (!decide (s65v = s68v))), (121, cv ((!decide (s65v = s68v)) == false) (.pointer (some ⟨b53v, 4, none⟩)))] rfl rfl rfl rfl (.v 5 rfl rfl (.v 9 rfl rfl .nil)) (fun hb81v => RQ.sub (E' := [(121, .pointer (some ⟨b53v, 4, none⟩))]) ⟨lk_cv rfl hb81v, trivial⟩ (q_loads (vs := [.int .i64 ((x0_2.getD s39v.1.toNat dz78).2.2.2.2.1), str ((x0_2.getD s39v.1.toNat dz78).2.2.2.2.2)]) rfl rfl Tryd.isAgg74 Tryd.sizeOf74 rfl (cells_obj 2 rfl (cells_lit rfl)))) rfl) (aq rfl (fun γ => QOb.grd (b := !decide (s65v = s68v)) [(117, .bool (!decide (s65v = s68v))), (122, cv ((!decide (s65v = s68v)) == false) (.agg #[.int .i64 ((x0_2.getD s39v.1.toNat dz78).2.2.2.2.1), str ((x0_2.getD s39v.1.toNat dz78).2.2.2.2.2)]))] rfl rfl rfl rfl (.v 5 rfl rfl (.v 10 rfl rfl .nil)) (fun hb82v => RQ.sub (E' := [(122, .agg #[.int .i64 ((x0_2.getD s39v.1.toNat dz78).2.2.2.2.1), str ((x0_2.getD s39v.1.toNat dz78).2.2.2.2.2)])]) ⟨lk_cv rfl hb82v, trivial⟩ (RE.rq (re_call (vs := [.agg #[.int .i64 ((x0_2.getD s39v.1.toNat dz78).2.2.2.2.1), str ((x0_2.getD s39v.1.toNat dz78).2.2.2.2.2)]]) (cap := []) (A := []) (rst := [Row 82 6 (some ⟨b56v, 0, none⟩) ([((x0_2.getD s39v.1.toNat dz78).1, (x0_2.getD s39v.1.toNat dz78).2.1, (x0_2.getD s39v.1.toNat dz78).2.2.1, (x0_2.getD s39v.1.toNat dz78).2.2.2.1, (x0_2.getD s39v.1.toNat dz78).2.2.2.2.1, (x0_2.getD s39v.1.toNat dz78).2.2.2.2.2)] : List (Ty78)).length 1 [[.int .i64 ((x0_2.getD s39v.1.toNat dz78).1), .int .i64 ((x0_2.getD s39v.1.toNat dz78).2.1), .int .i64 ((x0_2.getD s39v.1.toNat dz78).2.2.1), .int .i64 ((x0_2.getD s39v.1.toNat dz78).2.2.2.1), .int .i64 ((x0_2.getD s39v.1.toNat dz78).2.2.2.2.1), str ((x0_2.getD s39v.1.toNat dz78).2.2.2.2.2)]].flatten, obj b54v 82 [.int .i64 ((x0_2.getD s39v.1.toNat dz78).1), .int .i64 ((x0_2.getD s39v.1.toNat dz78).2.1), .int .i64 ((x0_2.getD s39v.1.toNat dz78).2.2.1), .int .i64 ((x0_2.getD s39v.1.toNat dz78).2.2.2.1), .int .i64 ((x0_2.getD s39v.1.toNat dz78).2.2.2.2.1), str ((x0_2.getD s39v.1.toNat dz78).2.2.2.2.2)], obj b53v 78 [.int .i64 ((x0_2.getD s39v.1.toNat dz78).1), .int .i64 ((x0_2.getD s39v.1.toNat dz78).2.1), .int .i64 ((x0_2.getD s39v.1.toNat dz78).2.2.1), .int .i64 ((x0_2.getD s39v.1.toNat dz78).2.2.2.1), .int .i64 ((x0_2.getD s39v.1.toNat dz78).2.2.2.2.1), str ((x0_2.getD s39v.1.toNat dz78).2.2.2.2.2)], obj g36v 81 [.int .i64 (synodref_Num.v x0_0), .bool x0_1, .slice y59v.1 ((s39v.2 ++ ([((x0_2.getD s39v.1.toNat dz78).1, (x0_2.getD s39v.1.toNat dz78).2.1, (x0_2.getD s39v.1.toNat dz78).2.2.1, (x0_2.getD s39v.1.toNat dz78).2.2.2.1, (x0_2.getD s39v.1.toNat dz78).2.2.2.2.1, (x0_2.getD s39v.1.toNat dz78).2.2.2.2.2)] : List (Ty78))).length) y59v.2], obj b2v 76 [.int .i64 x1_0, .int .i64 x1_1, .int .i64 x1_2, str x1_3, str x1_4, str x1_5, .int .i64 x1_6, .int .i64 x1_7, .int .i64 x1_8, str x1_9], obj b1v 72 [.int .i64 x0_0, .bool x0_1, .slice a0_2 x0_2.length c0_2], Row 82 6 y59v.1 (s39v.2 ++ ([((x0_2.getD s39v.1.toNat dz78).1, (x0_2.getD s39v.1.toNat dz78).2.1, (x0_2.getD s39v.1.toNat dz78).2.2.1, (x0_2.getD s39v.1.toNat dz78).2.2.2.1, (x0_2.getD s39v.1.toNat dz78).2.2.2.2.1, (x0_2.getD s39v.1.toNat dz78).2.2.2.2.2)] : List (Ty78))).length y59v.2 rs63v.flatten, F]) rfl rfl rfl rfl rfl rfl Tryd.call32 (.sel 0 rfl (.sel 0 rfl (.sel 0 rfl (.sel 0 rfl (.sel 0 rfl (.sel 0 rfl (.sel 0 rfl (.sel 0 rfl (.nil _))))))))) (synodref17_Reply.calls _ _ k ((x0_2.getD s39v.1.toNat dz78).2.2.2.2.1) ((x0_2.getD s39v.1.toNat dz78).2.2.2.2.2) ) (by rw [if_pos hb82v] at hs75v; exact hs75v)) (fun _ => rfl) (fun _ => (.sel 0 rfl (.sel 0 rfl (.sel 0 rfl (.sel 0 rfl (.sel 0 rfl (.sel 0 rfl (.sel 0 rfl (.sel 0 rfl (.nil _)))))))))))) rfl) (aq rfl (fun γ => QOb.grd (b := !decide (s65v = s68v)) [(117, .bool (!decide (s65v = s68v))), (120, cv ((!decide (s65v = s68v)) == false) (str s71v)), (123, cv ((!decide (s65v = s68v)) == false) (str s74v))] rfl rfl rfl rfl (.v 5 rfl rfl (.v 8 rfl rfl (.v 11 rfl rfl .nil))) (fun hb83v => RQ.sub (E' := [(120, str s71v), (123, str s74v)]) ⟨lk_cv rfl hb83v, lk_cv rfl hb83v, trivial⟩ (q_nes rfl rfl rfl)) rfl) (aq rfl (fun γ => qp rfl rfl (.v 5 rfl rfl (.v 12 rfl rfl .nil)) (q_or rfl rfl rfl) rfl) zA))))))))))))
 exact (ac (fun γ => eo (Z := Unit) (fun z => ()) rfl rfl (.v 0 rfl rfl .nil) (re_call (val := fun (r : List UInt8) (y : Unit) => str r) (B := fun _ _ => []) (vs := [.agg #[.int .i64 ((x0_2.getD s39v.1.toNat dz78).1), .int .i64 ((x0_2.getD s39v.1.toNat dz78).2.1), .int .i64 ((x0_2.getD s39v.1.toNat dz78).2.2.1), .int .i64 ((x0_2.getD s39v.1.toNat dz78).2.2.2.1), .int .i64 ((x0_2.getD s39v.1.toNat dz78).2.2.2.2.1), str ((x0_2.getD s39v.1.toNat dz78).2.2.2.2.2)]]) (cap := []) (A := []) (rst := [Row 82 6 (some ⟨b56v, 0, none⟩) ([((x0_2.getD s39v.1.toNat dz78).1, (x0_2.getD s39v.1.toNat dz78).2.1, (x0_2.getD s39v.1.toNat dz78).2.2.1, (x0_2.getD s39v.1.toNat dz78).2.2.2.1, (x0_2.getD s39v.1.toNat dz78).2.2.2.2.1, (x0_2.getD s39v.1.toNat dz78).2.2.2.2.2)] : List (Ty78)).length 1 [[.int .i64 ((x0_2.getD s39v.1.toNat dz78).1), .int .i64 ((x0_2.getD s39v.1.toNat dz78).2.1), .int .i64 ((x0_2.getD s39v.1.toNat dz78).2.2.1), .int .i64 ((x0_2.getD s39v.1.toNat dz78).2.2.2.1), .int .i64 ((x0_2.getD s39v.1.toNat dz78).2.2.2.2.1), str ((x0_2.getD s39v.1.toNat dz78).2.2.2.2.2)]].flatten, obj b54v 82 [.int .i64 ((x0_2.getD s39v.1.toNat dz78).1), .int .i64 ((x0_2.getD s39v.1.toNat dz78).2.1), .int .i64 ((x0_2.getD s39v.1.toNat dz78).2.2.1), .int .i64 ((x0_2.getD s39v.1.toNat dz78).2.2.2.1), .int .i64 ((x0_2.getD s39v.1.toNat dz78).2.2.2.2.1), str ((x0_2.getD s39v.1.toNat dz78).2.2.2.2.2)], obj b53v 78 [.int .i64 ((x0_2.getD s39v.1.toNat dz78).1), .int .i64 ((x0_2.getD s39v.1.toNat dz78).2.1), .int .i64 ((x0_2.getD s39v.1.toNat dz78).2.2.1), .int .i64 ((x0_2.getD s39v.1.toNat dz78).2.2.2.1), .int .i64 ((x0_2.getD s39v.1.toNat dz78).2.2.2.2.1), str ((x0_2.getD s39v.1.toNat dz78).2.2.2.2.2)], obj g36v 81 [.int .i64 (synodref_Num.v x0_0), .bool x0_1, .slice y59v.1 ((s39v.2 ++ ([((x0_2.getD s39v.1.toNat dz78).1, (x0_2.getD s39v.1.toNat dz78).2.1, (x0_2.getD s39v.1.toNat dz78).2.2.1, (x0_2.getD s39v.1.toNat dz78).2.2.2.1, (x0_2.getD s39v.1.toNat dz78).2.2.2.2.1, (x0_2.getD s39v.1.toNat dz78).2.2.2.2.2)] : List (Ty78))).length) y59v.2], obj b2v 76 [.int .i64 x1_0, .int .i64 x1_1, .int .i64 x1_2, str x1_3, str x1_4, str x1_5, .int .i64 x1_6, .int .i64 x1_7, .int .i64 x1_8, str x1_9], obj b1v 72 [.int .i64 x0_0, .bool x0_1, .slice a0_2 x0_2.length c0_2], Row 82 6 y59v.1 (s39v.2 ++ ([((x0_2.getD s39v.1.toNat dz78).1, (x0_2.getD s39v.1.toNat dz78).2.1, (x0_2.getD s39v.1.toNat dz78).2.2.1, (x0_2.getD s39v.1.toNat dz78).2.2.2.1, (x0_2.getD s39v.1.toNat dz78).2.2.2.2.1, (x0_2.getD s39v.1.toNat dz78).2.2.2.2.2)] : List (Ty78))).length y59v.2 rs63v.flatten, F]) rfl rfl rfl rfl rfl rfl Tryd.call29 (.sel 0 rfl (.sel 0 rfl (.sel 0 rfl (.sel 0 rfl (.sel 0 rfl (.sel 0 rfl (.sel 0 rfl (.sel 0 rfl (.nil _))))))))) (text_FormatEvent.calls _ _ k ((x0_2.getD s39v.1.toNat dz78).1) ((x0_2.getD s39v.1.toNat dz78).2.1) ((x0_2.getD s39v.1.toNat dz78).2.2.1) ((x0_2.getD s39v.1.toNat dz78).2.2.2.1) ((x0_2.getD s39v.1.toNat dz78).2.2.2.2.1) ((x0_2.getD s39v.1.toNat dz78).2.2.2.2.2) (hgl.lend 7 rfl)) hs66v) (fun _ => ⟨rfl, rfl, trivial⟩) (fun _ => .inr rfl) (fun z => Ent.refl _)) (ac (fun γ => eo (Z := Unit) (fun z => ()) rfl rfl (.v 2 rfl rfl .nil) (re_call (val := fun (r : List UInt8) (y : Unit) => str r) (B := fun _ _ => []) (vs := [.agg #[.int .i64 ((x0_2.getD s39v.1.toNat dz78).1), .int .i64 ((x0_2.getD s39v.1.toNat dz78).2.1), .int .i64 ((x0_2.getD s39v.1.toNat dz78).2.2.1), .int .i64 ((x0_2.getD s39v.1.toNat dz78).2.2.2.1), .int .i64 ((x0_2.getD s39v.1.toNat dz78).2.2.2.2.1), str ((x0_2.getD s39v.1.toNat dz78).2.2.2.2.2)]]) (cap := []) (A := []) (rst := [Row 82 6 (some ⟨b56v, 0, none⟩) ([((x0_2.getD s39v.1.toNat dz78).1, (x0_2.getD s39v.1.toNat dz78).2.1, (x0_2.getD s39v.1.toNat dz78).2.2.1, (x0_2.getD s39v.1.toNat dz78).2.2.2.1, (x0_2.getD s39v.1.toNat dz78).2.2.2.2.1, (x0_2.getD s39v.1.toNat dz78).2.2.2.2.2)] : List (Ty78)).length 1 [[.int .i64 ((x0_2.getD s39v.1.toNat dz78).1), .int .i64 ((x0_2.getD s39v.1.toNat dz78).2.1), .int .i64 ((x0_2.getD s39v.1.toNat dz78).2.2.1), .int .i64 ((x0_2.getD s39v.1.toNat dz78).2.2.2.1), .int .i64 ((x0_2.getD s39v.1.toNat dz78).2.2.2.2.1), str ((x0_2.getD s39v.1.toNat dz78).2.2.2.2.2)]].flatten, obj b54v 82 [.int .i64 ((x0_2.getD s39v.1.toNat dz78).1), .int .i64 ((x0_2.getD s39v.1.toNat dz78).2.1), .int .i64 ((x0_2.getD s39v.1.toNat dz78).2.2.1), .int .i64 ((x0_2.getD s39v.1.toNat dz78).2.2.2.1), .int .i64 ((x0_2.getD s39v.1.toNat dz78).2.2.2.2.1), str ((x0_2.getD s39v.1.toNat dz78).2.2.2.2.2)], obj b53v 78 [.int .i64 ((x0_2.getD s39v.1.toNat dz78).1), .int .i64 ((x0_2.getD s39v.1.toNat dz78).2.1), .int .i64 ((x0_2.getD s39v.1.toNat dz78).2.2.1), .int .i64 ((x0_2.getD s39v.1.toNat dz78).2.2.2.1), .int .i64 ((x0_2.getD s39v.1.toNat dz78).2.2.2.2.1), str ((x0_2.getD s39v.1.toNat dz78).2.2.2.2.2)], obj g36v 81 [.int .i64 (synodref_Num.v x0_0), .bool x0_1, .slice y59v.1 ((s39v.2 ++ ([((x0_2.getD s39v.1.toNat dz78).1, (x0_2.getD s39v.1.toNat dz78).2.1, (x0_2.getD s39v.1.toNat dz78).2.2.1, (x0_2.getD s39v.1.toNat dz78).2.2.2.1, (x0_2.getD s39v.1.toNat dz78).2.2.2.2.1, (x0_2.getD s39v.1.toNat dz78).2.2.2.2.2)] : List (Ty78))).length) y59v.2], obj b2v 76 [.int .i64 x1_0, .int .i64 x1_1, .int .i64 x1_2, str x1_3, str x1_4, str x1_5, .int .i64 x1_6, .int .i64 x1_7, .int .i64 x1_8, str x1_9], obj b1v 72 [.int .i64 x0_0, .bool x0_1, .slice a0_2 x0_2.length c0_2], Row 82 6 y59v.1 (s39v.2 ++ ([((x0_2.getD s39v.1.toNat dz78).1, (x0_2.getD s39v.1.toNat dz78).2.1, (x0_2.getD s39v.1.toNat dz78).2.2.1, (x0_2.getD s39v.1.toNat dz78).2.2.2.1, (x0_2.getD s39v.1.toNat dz78).2.2.2.2.1, (x0_2.getD s39v.1.toNat dz78).2.2.2.2.2)] : List (Ty78))).length y59v.2 rs63v.flatten, F]) rfl rfl rfl rfl rfl rfl Tryd.call30 (.sel 0 rfl (.sel 0 rfl (.sel 0 rfl (.sel 0 rfl (.sel 0 rfl (.sel 0 rfl (.sel 0 rfl (.sel 0 rfl (.nil _))))))))) (synodref17_FormatEvent.calls _ _ k ((x0_2.getD s39v.1.toNat dz78).1) ((x0_2.getD s39v.1.toNat dz78).2.1) ((x0_2.getD s39v.1.toNat dz78).2.2.1) ((x0_2.getD s39v.1.toNat dz78).2.2.2.1) ((x0_2.getD s39v.1.toNat dz78).2.2.2.2.1) ((x0_2.getD s39v.1.toNat dz78).2.2.2.2.2) (hgl.lend 7 rfl)) hs69v) (fun _ => ⟨rfl, rfl, rfl, trivial⟩) (fun _ => .inr rfl) (fun z => Ent.refl _)) zA))
 intro g84v
 refine nrm_then ?_
 refine sim_condb rfl (fun h85v => ?_) (fun h86v => ?_)
 refine sr ?_
 refine va rfl rfl (simL_nil (nrm_then (sim_rtn ?_)))
 refine rtn_block ?_
 refine rtn_then ?_
 refine rtn_loop ?_
 refine rtn_block ?_
 refine rtn_cutR ?_
 exact rtn_fn () rfl rfl rfl (.sel 7 rfl (.nil _))
 refine sim_skip ?_
 refine nrm_block (nrm_then (sim_region ?_))
 refine vm rfl rfl ?_
 refine vq (q_add rfl rfl rfl) rfl ?_
 refine va rfl rfl (simL_nil ?_)
 exact nrm_again (s := (IntKind.i64.wrap (s39v.1 + 1), s39v.2 ++ ([((x0_2.getD s39v.1.toNat dz78).1, (x0_2.getD s39v.1.toNat dz78).2.1, (x0_2.getD s39v.1.toNat dz78).2.2.1, (x0_2.getD s39v.1.toNat dz78).2.2.2.1, (x0_2.getD s39v.1.toNat dz78).2.2.2.2.1, (x0_2.getD s39v.1.toNat dz78).2.2.2.2.2)] : List (Ty78)))) (y59v.1, y59v.2) ⟨rfl, rfl, rfl, rfl, trivial⟩ (.sel 3 rfl (.sel 3 rfl (.sel 3 rfl (.sel' 3 rfl (RowV.mk hl64v) (.sel 3 rfl (.nil _))))))
 refine sim_exi ?_
 refine exi_then ?_
 refine exi_loop ?_
 refine exi_here ?_
 exact nrm_cutR (s := s39v.2) (y40v.1, y40v.2) ⟨rfl, rfl, rfl, trivial⟩ (.sel 0 rfl (.sel 0 rfl (.sel 0 rfl (.sel 0 rfl (.sel 0 rfl (.nil _))))))
 intro s37v y38v
 refine sr ?_
 refine vq (q_loado 2 rfl rfl Tryd.isAgg72 Tryd.sizeOf72 rfl rfl) rfl ?_
 refine simL_bind (fun s87v hs88v => ?_)
 refine simL_eff (re_call (vs := [.agg #[.int .i64 x0_0, .bool x0_1, .slice a0_2 x0_2.length c0_2]]) (cap := []) (A := []) (rst := [obj g36v 81 [.int .i64 (synodref_Num.v x0_0), .bool x0_1, .slice y38v.1 s37v.length y38v.2], obj b2v 76 [.int .i64 x1_0, .int .i64 x1_1, .int .i64 x1_2, str x1_3, str x1_4, str x1_5, .int .i64 x1_6, .int .i64 x1_7, .int .i64 x1_8, str x1_9], obj b1v 72 [.int .i64 x0_0, .bool x0_1, .slice a0_2 x0_2.length c0_2], RowV 82 6 (V82 tt) y38v.1 s37v y38v.2, F]) rfl rfl rfl rfl rfl rfl Tryd.call33 (.sel 0 rfl (.sel 0 rfl (.sel 0 rfl (.sel 0 rfl (.sel 0 rfl (.nil _)))))) (text_FormatTold.calls _ _ k x0_0 x0_1 a0_2 c0_2 x0_2 (h0_2.up (Up.lend 4 rfl) (fun _ _ h => h)) hc0_2 hm0_2 (hgl.lend 4 rfl)) hs88v) rfl rfl rfl ?_
 intro y89v
 refine va rfl rfl (nx ?_)
 refine vq (q_loado 1 rfl rfl Tryd.isAgg81 Tryd.sizeOf81 rfl rfl) rfl ?_
 refine simL_openV 4 rfl (fun rs90v hl91v => ?_)
 refine simL_bind (fun s96v hs97v => ?_)
 refine simL_lend 4 rfl (fun hq92v hq93v hq94v hq95v => ?_)
 refine simL_eff (re_call (vs := [.agg #[.int .i64 (synodref_Num.v x0_0), .bool x0_1, .slice y38v.1 s37v.length y38v.2]]) (cap := []) (A := []) (rst := [RowV 9 1 (V9 tt) y89v.1 s87v y89v.2, obj g36v 81 [.int .i64 (synodref_Num.v x0_0), .bool x0_1, .slice y38v.1 s37v.length y38v.2], obj b2v 76 [.int .i64 x1_0, .int .i64 x1_1, .int .i64 x1_2, str x1_3, str x1_4, str x1_5, .int .i64 x1_6, .int .i64 x1_7, .int .i64 x1_8, str x1_9], obj b1v 72 [.int .i64 x0_0, .bool x0_1, .slice a0_2 x0_2.length c0_2], Row 82 6 y38v.1 s37v.length y38v.2 rs90v.flatten, F]) rfl rfl rfl rfl rfl rfl Tryd.call34 (.sel 0 rfl (.sel 0 rfl (.sel 0 rfl (.sel 0 rfl (.sel 0 rfl (.sel 0 rfl (.nil _))))))) (synodref17_FormatTold.calls _ _ k (synodref_Num.v x0_0) x0_1 y38v.1 y38v.2 s37v ((Rd.asV hl91v hq92v).up (Up.lend 4 rfl) (fun _ _ h => h)) hq93v hq94v (hgl.lend 5 rfl)) hs97v) rfl rfl rfl ?_
 intro y98v
 refine va rfl rfl (nx ?_)
 refine vm rfl rfl ?_
 refine vm rfl rfl ?_
 refine simL_openV 0 rfl (fun rs99v hl100v => ?_)
 refine simL_openV 1 rfl (fun rs101v hl102v => ?_)
 refine simL_bind (fun s111v hs112v => ?_)
 refine simL_lend 1 rfl (fun hq103v hq104v hq105v hq106v => ?_)
 refine simL_lend 0 rfl (fun hq107v hq108v hq109v hq110v => ?_)
 refine simL_eff (re_call (vs := [.slice y89v.1 s87v.length y89v.2, .slice y98v.1 s96v.length y98v.2]) (cap := []) (A := []) (rst := [Row 9 1 y98v.1 s96v.length y98v.2 rs99v.flatten, Row 9 1 y89v.1 s87v.length y89v.2 rs101v.flatten, obj g36v 81 [.int .i64 (synodref_Num.v x0_0), .bool x0_1, .slice y38v.1 s37v.length y38v.2], obj b2v 76 [.int .i64 x1_0, .int .i64 x1_1, .int .i64 x1_2, str x1_3, str x1_4, str x1_5, .int .i64 x1_6, .int .i64 x1_7, .int .i64 x1_8, str x1_9], obj b1v 72 [.int .i64 x0_0, .bool x0_1, .slice a0_2 x0_2.length c0_2], Row 82 6 y38v.1 s37v.length y38v.2 rs90v.flatten, F]) rfl rfl rfl rfl rfl rfl Tryd.call14 (.sel 0 rfl (.sel 0 rfl (.sel 0 rfl (.sel 0 rfl (.sel 0 rfl (.sel 0 rfl (.sel 0 rfl (.nil _)))))))) (synodref_SameTexts.calls _ _ k y89v.1 y89v.2 s87v y98v.1 y98v.2 s96v ((Rd.asV hl102v hq103v).up (Up.lend 1 rfl) (fun _ _ h => h)) hq104v hq105v ((Rd.asV hl100v hq107v).up (Up.lend 0 rfl) (fun _ _ h => h)) hq108v hq109v) hs112v) rfl rfl rfl ?_
 intro y113v
 refine va rfl rfl (simL_nil (nrm_then (sim_seq ?_)))
 refine sim_bind (fun s114v hs115v => ?_)
 refine sim_bind (fun s117v hs118v => ?_)
 refine sim_bind (fun s120v hs121v => ?_)
 refine sim_bind (fun s123v hs124v => ?_)
 refine sim_draw (Γ := Unit) () [[], [0], [0, 1], [0, 1, 2], [0, 1], rL 5, rL 6, rL 7, rL 8, rL 9, rL 10, rL 11, rL 9, [0, 1, 2, 3, 4, 5, 6, 7, 8, 12], rL 14, rL 15, rL 16, rL 17] [] [0, 1, 2, 3, 4, 5, 6, 7, 8, 9, 10, 11, 12, 13, 14, 15, 16, 17] (fun i => [[0], [0], [0], [0], [0], [0], [0], [0], [0], [0], [0], [0], [0], [0], [0], [0], [0], [0]].getD i []) (fun i => [[], [], [], [], [], [], [], [], [], [], [], [], [], [], [], [], [], []].getD i []) (fun γ i => [.bool s111v, .bool s111v, cv (s111v == true) (.agg #[.int .i64 x1_0, .int .i64 x1_1, .int .i64 x1_2, str x1_3, str x1_4, str x1_5, .int .i64 x1_6, .int .i64 x1_7, .int .i64 x1_8, str x1_9]), cv (s111v == true) (str s114v), cv (s111v == true) (.agg #[.int .i64 x1_0, .int .i64 x1_1, .int .i64 x1_2, str x1_3, str x1_4, str x1_5, .int .i64 x1_6, .int .i64 x1_7, .int .i64 x1_8, str x1_9]), cv (s111v == true) (str s117v), cv (s111v == true) (.bool (decide (s114v = s117v))), .bool (s111v && (decide (s114v = s117v))), .bool (s111v && (decide (s114v = s117v))), cv ((s111v && (decide (s114v = s117v))) == true) (.pointer (some ⟨b2v, 8, none⟩)), cv ((s111v && (decide (s114v = s117v))) == true) (.agg #[.int .i64 x1_8, str x1_9]), cv ((s111v && (decide (s114v = s117v))) == true) (str s120v), cv ((s111v && (decide (s114v = s117v))) == true) (.pointer (some ⟨b2v, 8, none⟩)), cv ((s111v && (decide (s114v = s117v))) == true) (.agg #[.int .i64 x1_8, str x1_9]), cv ((s111v && (decide (s114v = s117v))) == true) (str s123v), cv ((s111v && (decide (s114v = s117v))) == true) (.bool (decide (s120v = s123v))), .bool ((s111v && (decide (s114v = s117v))) && (decide (s120v = s123v))), .bool ((s111v && (decide (s114v = s117v))) && (decide (s120v = s123v)))].getD i undef) (fun j γ => [[Row 9 1 y98v.1 s96v.length y98v.2 rs99v.flatten, Row 9 1 y89v.1 s87v.length y89v.2 rs101v.flatten, obj g36v 81 [.int .i64 (synodref_Num.v x0_0), .bool x0_1, .slice y38v.1 s37v.length y38v.2], obj b2v 76 [.int .i64 x1_0, .int .i64 x1_1, .int .i64 x1_2, str x1_3, str x1_4, str x1_5, .int .i64 x1_6, .int .i64 x1_7, .int .i64 x1_8, str x1_9], obj b1v 72 [.int .i64 x0_0, .bool x0_1, .slice a0_2 x0_2.length c0_2], Row 82 6 y38v.1 s37v.length y38v.2 rs90v.flatten, F]].getD j []) (fun γ => [(4, .bool ((s111v && (decide (s114v = s117v))) && (decide (s120v = s123v))))]) mixed (by decide) (by decide) (by decide) (by decide) (by decide) (by decide) (by decide) 150 rfl (by decide) (by decide) (by decide) (Ent.refl _) ?_ ?_ (fun _ => ⟨rfl, trivial⟩) ?_
 exact (aq rfl (fun γ => qm rfl (.o (s := 14) rfl (by decide) .nil) rfl) (aq rfl (fun γ => qm rfl (.v 0 rfl rfl .nil) rfl) (aq rfl (fun γ => QOb.grd (b := s111v) [(3, .pointer (some ⟨b2v, 0, none⟩)), (134, .bool s111v)] rfl rfl rfl rfl (.o (s := 3) rfl (by decide) (.v 1 rfl rfl .nil)) (fun hb126v => RQ.sub (E' := [(3, .pointer (some ⟨b2v, 0, none⟩))]) ⟨rfl, trivial⟩ (q_loado 3 rfl rfl Tryd.isAgg76 Tryd.sizeOf76 rfl rfl)) rfl) (aq rfl (fun γ => QOb.grd (b := s111v) [(134, .bool s111v), (135, cv (s111v == true) (.agg #[.int .i64 x1_0, .int .i64 x1_1, .int .i64 x1_2, str x1_3, str x1_4, str x1_5, .int .i64 x1_6, .int .i64 x1_7, .int .i64 x1_8, str x1_9]))] rfl rfl rfl rfl (.v 1 rfl rfl (.v 2 rfl rfl .nil)) (fun hb127v => RQ.sub (E' := [(135, .agg #[.int .i64 x1_0, .int .i64 x1_1, .int .i64 x1_2, str x1_3, str x1_4, str x1_5, .int .i64 x1_6, .int .i64 x1_7, .int .i64 x1_8, str x1_9])]) ⟨lk_cv rfl hb127v, trivial⟩ (RE.rq (re_call (vs := [.agg #[.int .i64 x1_0, .int .i64 x1_1, .int .i64 x1_2, str x1_3, str x1_4, str x1_5, .int .i64 x1_6, .int .i64 x1_7, .int .i64 x1_8, str x1_9]]) (cap := []) (A := []) (rst := [Row 9 1 y98v.1 s96v.length y98v.2 rs99v.flatten, Row 9 1 y89v.1 s87v.length y89v.2 rs101v.flatten, obj g36v 81 [.int .i64 (synodref_Num.v x0_0), .bool x0_1, .slice y38v.1 s37v.length y38v.2], obj b2v 76 [.int .i64 x1_0, .int .i64 x1_1, .int .i64 x1_2, str x1_3, str x1_4, str x1_5, .int .i64 x1_6, .int .i64 x1_7, .int .i64 x1_8, str x1_9], obj b1v 72 [.int .i64 x0_0, .bool x0_1, .slice a0_2 x0_2.length c0_2], Row 82 6 y38v.1 s37v.length y38v.2 rs90v.flatten, F]) rfl rfl rfl rfl rfl rfl Tryd.call35 (.sel 0 rfl (.sel 0 rfl (.sel 0 rfl (.sel 0 rfl (.sel 0 rfl (.sel 0 rfl (.sel 0 rfl (.nil _)))))))) (text_FormatOp.calls _ _ k x1_0 x1_1 x1_2 x1_3 x1_4 x1_5 x1_6 x1_7 x1_8 x1_9 (hgl.lend 6 rfl)) (by rw [if_pos hb127v] at hs115v; exact hs115v)) (fun _ => rfl) (fun _ => (.sel 0 rfl (.sel 0 rfl (.sel 0 rfl (.sel 0 rfl (.sel 0 rfl (.sel 0 rfl (.sel 0 rfl (.nil _))))))))))) rfl) (aq rfl (fun γ => QOb.grd (b := s111v) [(3, .pointer (some ⟨b2v, 0, none⟩)), (134, .bool s111v)] rfl rfl rfl rfl (.o (s := 3) rfl (by decide) (.v 1 rfl rfl .nil)) (fun hb128v => RQ.sub (E' := [(3, .pointer (some ⟨b2v, 0, none⟩))]) ⟨rfl, trivial⟩ (q_loado 3 rfl rfl Tryd.isAgg76 Tryd.sizeOf76 rfl rfl)) rfl) (aq rfl (fun γ => QOb.grd (b := s111v) [(134, .bool s111v), (137, cv (s111v == true) (.agg #[.int .i64 x1_0, .int .i64 x1_1, .int .i64 x1_2, str x1_3, str x1_4, str x1_5, .int .i64 x1_6, .int .i64 x1_7, .int .i64 x1_8, str x1_9]))] rfl rfl rfl rfl (.v 1 rfl rfl (.v 4 rfl rfl .nil)) (fun hb129v => RQ.sub (E' := [(137, .agg #[.int .i64 x1_0, .int .i64 x1_1, .int .i64 x1_2, str x1_3, str x1_4, str x1_5, .int .i64 x1_6, .int .i64 x1_7, .int .i64 x1_8, str x1_9])]) ⟨lk_cv rfl hb129v, trivial⟩ (RE.rq (re_call (vs := [.agg #[.int .i64 x1_0, .int .i64 x1_1, .int .i64 x1_2, str x1_3, str x1_4, str x1_5, .int .i64 x1_6, .int .i64 x1_7, .int .i64 x1_8, str x1_9]]) (cap := []) (A := []) (rst := [Row 9 1 y98v.1 s96v.length y98v.2 rs99v.flatten, Row 9 1 y89v.1 s87v.length y89v.2 rs101v.flatten, obj g36v 81 [.int .i64 (synodref_Num.v x0_0), .bool x0_1, .slice y38v.1 s37v.length y38v.2], obj b2v 76 [.int .i64 x1_0, .int .i64 x1_1, .int .i64 x1_2, str x1_3, str x1_4, str x1_5, .int .i64 x1_6, .int .i64 x1_7, .int .i64 x1_8, str x1_9], obj b1v 72 [.int .i64 x0_0, .bool x0_1, .slice a0_2 x0_2.length c0_2], Row 82 6 y38v.1 s37v.length y38v.2 rs90v.flatten, F]) rfl rfl rfl rfl rfl rfl Tryd.call36 (.sel 0 rfl (.sel 0 rfl (.sel 0 rfl (.sel 0 rfl (.sel 0 rfl (.sel 0 rfl (.sel 0 rfl (.nil _)))))))) (synodref17_FormatOp.calls _ _ k x1_0 x1_1 x1_2 x1_3 x1_4 x1_5 x1_6 x1_7 x1_8 x1_9 (hgl.lend 6 rfl)) (by rw [if_pos hb129v] at hs118v; exact hs118v)) (fun _ => rfl) (fun _ => (.sel 0 rfl (.sel 0 rfl (.sel 0 rfl (.sel 0 rfl (.sel 0 rfl (.sel 0 rfl (.sel 0 rfl (.nil _))))))))))) rfl) (aq rfl (fun γ => QOb.grd (b := s111v) [(134, .bool s111v), (136, cv (s111v == true) (str s114v)), (138, cv (s111v == true) (str s117v))] rfl rfl rfl rfl (.v 1 rfl rfl (.v 3 rfl rfl (.v 5 rfl rfl .nil))) (fun hb130v => RQ.sub (E' := [(136, str s114v), (138, str s117v)]) ⟨lk_cv rfl hb130v, lk_cv rfl hb130v, trivial⟩ (q_eqs rfl rfl rfl)) rfl) (aq rfl (fun γ => qp rfl rfl (.v 1 rfl rfl (.v 6 rfl rfl .nil)) (q_and rfl rfl rfl) rfl) (aq rfl (fun γ => qm rfl (.v 7 rfl rfl .nil) rfl) (aq rfl (fun γ => QOb.grd (b := s111v && (decide (s114v = s117v))) [(3, .pointer (some ⟨b2v, 0, none⟩)), (141, .bool (s111v && (decide (s114v = s117v))))] rfl rfl rfl rfl (.o (s := 3) rfl (by decide) (.v 8 rfl rfl .nil)) (fun hb131v => RQ.sub (E' := [(3, .pointer (some ⟨b2v, 0, none⟩))]) ⟨rfl, trivial⟩ (q_fa rfl rfl Tryd.underlying76 rfl rfl Tryd.sizeOf74 rfl)) rfl) (aq rfl (fun γ => QOb.grd (b := s111v && (decide (s114v = s117v))) [(141, .bool (s111v && (decide (s114v = s117v)))), (142, cv ((s111v && (decide (s114v = s117v))) == true) (.pointer (some ⟨b2v, 8, none⟩)))] rfl rfl rfl rfl (.v 8 rfl rfl (.v 9 rfl rfl .nil)) (fun hb132v => RQ.sub (E' := [(142, .pointer (some ⟨b2v, 8, none⟩))]) ⟨lk_cv rfl hb132v, trivial⟩ (q_loads (vs := [.int .i64 x1_8, str x1_9]) rfl rfl Tryd.isAgg74 Tryd.sizeOf74 rfl (cells_obj 3 rfl (cells_lit rfl)))) rfl) (aq rfl (fun γ => QOb.grd (b := s111v && (decide (s114v = s117v))) [(141, .bool (s111v && (decide (s114v = s117v)))), (143, cv ((s111v && (decide (s114v = s117v))) == true) (.agg #[.int .i64 x1_8, str x1_9]))] rfl rfl rfl rfl (.v 8 rfl rfl (.v 10 rfl rfl .nil)) (fun hb133v => RQ.sub (E' := [(143, .agg #[.int .i64 x1_8, str x1_9])]) ⟨lk_cv rfl hb133v, trivial⟩ (RE.rq (re_call (vs := [.agg #[.int .i64 x1_8, str x1_9]]) (cap := []) (A := []) (rst := [Row 9 1 y98v.1 s96v.length y98v.2 rs99v.flatten, Row 9 1 y89v.1 s87v.length y89v.2 rs101v.flatten, obj g36v 81 [.int .i64 (synodref_Num.v x0_0), .bool x0_1, .slice y38v.1 s37v.length y38v.2], obj b2v 76 [.int .i64 x1_0, .int .i64 x1_1, .int .i64 x1_2, str x1_3, str x1_4, str x1_5, .int .i64 x1_6, .int .i64 x1_7, .int .i64 x1_8, str x1_9], obj b1v 72 [.int .i64 x0_0, .bool x0_1, .slice a0_2 x0_2.length c0_2], Row 82 6 y38v.1 s37v.length y38v.2 rs90v.flatten, F]) rfl rfl rfl rfl rfl rfl Tryd.call31 (.sel 0 rfl (.sel 0 rfl (.sel 0 rfl (.sel 0 rfl (.sel 0 rfl (.sel 0 rfl (.sel 0 rfl (.nil _)))))))) (text_Reply.calls _ _ k x1_8 x1_9 ) (by rw [if_pos hb133v] at hs121v; exact hs121v)) (fun _ => rfl) (fun _ => (.sel 0 rfl (.sel 0 rfl (.sel 0 rfl (.sel 0 rfl (.sel 0 rfl (.sel 0 rfl (.sel 0 rfl (.nil _))))))))))) rfl) (aq rfl (fun γ => QOb.grd (b := s111v && (decide (s114v = s117v))) [(3, .pointer (some ⟨b2v, 0, none⟩)), (141, .bool (s111v && (decide (s114v = s117v))))] rfl rfl rfl rfl (.o (s := 3) rfl (by decide) (.v 8 rfl rfl .nil)) (fun hb134v => RQ.sub (E' := [(3, .pointer (some ⟨b2v, 0, none⟩))]) ⟨rfl, trivial⟩ (q_fa rfl rfl Tryd.underlying76 rfl rfl Tryd.sizeOf74 rfl)) rfl) (aq rfl (fun γ => QOb.grd (b := s111v && (decide (s114v = s117v))) [(141, .bool (s111v && (decide (s114v = s117v)))), (145, cv ((s111v && (decide (s114v = s117v))) == true) (.pointer (some ⟨b2v, 8, none⟩)))] rfl rfl rfl rfl (.v 8 rfl rfl (.v 12 rfl rfl .nil)) (fun hb135v => RQ.sub (E' := [(145, .pointer (some ⟨b2v, 8, none⟩))]) ⟨lk_cv rfl hb135v, trivial⟩ (q_loads (vs := [.int .i64 x1_8, str x1_9]) rfl rfl Tryd.isAgg74 Tryd.sizeOf74 rfl (cells_obj 3 rfl (cells_lit rfl)))) rfl) (aq rfl (fun γ => QOb.grd (b := s111v && (decide (s114v = s117v))) [(141, .bool (s111v && (decide (s114v = s117v)))), (146, cv ((s111v && (decide (s114v = s117v))) == true) (.agg #[.int .i64 x1_8, str x1_9]))] rfl rfl rfl rfl (.v 8 rfl rfl (.v 13 rfl rfl .nil)) (fun hb136v => RQ.sub (E' := [(146, .agg #[.int .i64 x1_8, str x1_9])]) ⟨lk_cv rfl hb136v, trivial⟩ (RE.rq (re_call (vs := [.agg #[.int .i64 x1_8, str x1_9]]) (cap := []) (A := []) (rst := [Row 9 1 y98v.1 s96v.length y98v.2 rs99v.flatten, Row 9 1 y89v.1 s87v.length y89v.2 rs101v.flatten, obj g36v 81 [.int .i64 (synodref_Num.v x0_0), .bool x0_1, .slice y38v.1 s37v.length y38v.2], obj b2v 76 [.int .i64 x1_0, .int .i64 x1_1, .int .i64 x1_2, str x1_3, str x1_4, str x1_5, .int .i64 x1_6, .int .i64 x1_7, .int .i64 x1_8, str x1_9], obj b1v 72 [.int .i64 x0_0, .bool x0_1, .slice a0_2 x0_2.length c0_2], Row 82 6 y38v.1 s37v.length y38v.2 rs90v.flatten, F]) rfl rfl rfl rfl rfl rfl Tryd.call32 (.sel 0 rfl (.sel 0 rfl (.sel 0 rfl (.sel 0 rfl (.sel 0 rfl (.sel 0 rfl (.sel 0 rfl (.nil _)))))))) (synodref17_Reply.calls _ _ k x1_8 x1_9 ) (by rw [if_pos hb136v] at hs124v; exact hs124v)) (fun _ => rfl) (fun _ => (.sel 0 rfl (.sel 0 rfl (.sel 0 rfl (.sel 0 rfl (.sel 0 rfl (.sel 0 rfl (.sel 0 rfl (.nil _))))))))))) rfl) (aq rfl (fun γ => QOb.grd (b := s111v && (decide (s114v = s117v))) [(141, .bool (s111v && (decide (s114v = s117v)))), (144, cv ((s111v && (decide (s114v = s117v))) == true) (str s120v)), (147, cv ((s111v && (decide (s114v = s117v))) == true) (str s123v))] rfl rfl rfl rfl (.v 8 rfl rfl (.v 11 rfl rfl (.v 14 rfl rfl .nil))) (fun hb137v => RQ.sub (E' := [(144, str s120v), (147, str s123v)]) ⟨lk_cv rfl hb137v, lk_cv rfl hb137v, trivial⟩ (q_eqs rfl rfl rfl)) rfl) (aq rfl (fun γ => qp rfl rfl (.v 8 rfl rfl (.v 15 rfl rfl .nil)) (q_and rfl rfl rfl) rfl) (aq rfl (fun γ => qp rfl rfl (.v 16 rfl rfl .nil) (q_asg rfl rfl) rfl) zA))))))))))))))))))
 exact zA
 intro g138v
 refine nrm_then (sim_rtn ?_)
 exact rtn_fn () rfl rfl rfl (.sel 6 rfl (.nil _))

def synodref17_Rows.f  : Option ((List (Ty109))) := some ([(([116, 105, 99, 107] : List UInt8), (1 : Int), ([78, 110] : List UInt8), (0 : Int), (0 : Int)), (([112, 105, 99, 107] : List UInt8), (2 : Int), ([78, 112] : List UInt8), (0 : Int), (0 : Int)), (([100, 101, 108, 105, 118, 101, 114] : List UInt8), (3 : Int), ([110] : List UInt8), (0 : Int), (0 : Int)), (([100, 114, 111, 112] : List UInt8), (4 : Int), ([110] : List UInt8), (0 : Int), (0 : Int)), (([99, 111, 112, 121] : List UInt8), (5 : Int), ([110] : List UInt8), (0 : Int), (0 : Int)), (([115, 112, 111, 105, 108] : List UInt8), (6 : Int), ([110, 109] : List UInt8), (0 : Int), (0 : Int)), (([109, 111, 118, 101] : List UInt8), (7 : Int), ([110, 109] : List UInt8), (0 : Int), (0 : Int)), (([108, 105, 110, 107] : List UInt8), (8 : Int), ([78, 110] : List UInt8), (1 : Int), (0 : Int)), (([99, 117, 116] : List UInt8), (8 : Int), ([78, 110] : List UInt8), (0 : Int), (0 : Int)), (([99, 114, 97, 115, 104] : List UInt8), (9 : Int), ([78, 110] : List UInt8), (0 : Int), (0 : Int)), (([115, 116, 97, 114, 116] : List UInt8), (10 : Int), ([78, 110] : List UInt8), (0 : Int), (0 : Int)), (([97, 114, 109] : List UInt8), (12 : Int), ([78, 110] : List UInt8), (0 : Int), (0 : Int)), (([115, 116, 111, 112] : List UInt8), (11 : Int), ([78] : List UInt8), (0 : Int), (0 : Int)), (([103, 101, 116] : List UInt8), (13 : Int), ([67, 78, 107] : List UInt8), (0 : Int), (1 : Int)), (([100, 101, 108, 101, 116, 101] : List UInt8), (13 : Int), ([67, 78, 107] : List UInt8), (0 : Int), (3 : Int)), (([112, 117, 116] : List UInt8), (13 : Int), ([67, 78, 107, 118] : List UInt8), (0 : Int), (2 : Int)), (([115, 119, 97, 112] : List UInt8), (13 : Int), ([67, 78, 107, 111, 118] : List UInt8), (0 : Int), (4 : Int)), (([97, 103, 97, 105, 110] : List UInt8), (14 : Int), ([67, 78] : List UInt8), (0 : Int), (0 : Int)), (([103, 105, 118, 101] : List UInt8), (15 : Int), ([67] : List UInt8), (0 : Int), (0 : Int)), (([99, 97, 108, 109] : List UInt8), (16 : Int), ([78, 110] : List UInt8), (0 : Int), (0 : Int))] : List (Ty109))
theorem synodref17_Rows.calls (W : World) (F : HA)   :
    Fn Tryd.prog W 46 [] [] F (synodref17_Rows.f ) (fun (r : (List (Ty109))) (y : Option Addr × Nat) => .slice y.1 r.length y.2) (fun r y => [RowV 109 5 (V109 tt) y.1 r y.2]) := by
 unfold synodref17_Rows.f
 refine fn_intro 22 Tryd.func46 rfl Tryd.ntmps46 rfl ?_
 refine sr ?_
 refine va rfl rfl (nx ?_)
 refine vq (q_build (v := .agg #[str ([116, 105, 99, 107] : List UInt8), .int .i64 1, str ([78, 110] : List UInt8), .int .i64 0, .int .i64 0]) rfl rfl (fun _ => by kernel_rfl)) rfl ?_
 refine vq (q_build (v := .agg #[str ([112, 105, 99, 107] : List UInt8), .int .i64 2, str ([78, 112] : List UInt8), .int .i64 0, .int .i64 0]) rfl rfl (fun _ => by kernel_rfl)) rfl ?_
 refine vq (q_build (v := .agg #[str ([100, 101, 108, 105, 118, 101, 114] : List UInt8), .int .i64 3, str ([110] : List UInt8), .int .i64 0, .int .i64 0]) rfl rfl (fun _ => by kernel_rfl)) rfl ?_
 refine vq (q_build (v := .agg #[str ([100, 114, 111, 112] : List UInt8), .int .i64 4, str ([110] : List UInt8), .int .i64 0, .int .i64 0]) rfl rfl (fun _ => by kernel_rfl)) rfl ?_
 refine vq (q_build (v := .agg #[str ([99, 111, 112, 121] : List UInt8), .int .i64 5, str ([110] : List UInt8), .int .i64 0, .int .i64 0]) rfl rfl (fun _ => by kernel_rfl)) rfl ?_
 refine vq (q_build (v := .agg #[str ([115, 112, 111, 105, 108] : List UInt8), .int .i64 6, str ([110, 109] : List UInt8), .int .i64 0, .int .i64 0]) rfl rfl (fun _ => by kernel_rfl)) rfl ?_
 refine vq (q_build (v := .agg #[str ([109, 111, 118, 101] : List UInt8), .int .i64 7, str ([110, 109] : List UInt8), .int .i64 0, .int .i64 0]) rfl rfl (fun _ => by kernel_rfl)) rfl ?_
 refine vq (q_build (v := .agg #[str ([108, 105, 110, 107] : List UInt8), .int .i64 8, str ([78, 110] : List UInt8), .int .i64 1, .int .i64 0]) rfl rfl (fun _ => by kernel_rfl)) rfl ?_
 refine vq (q_build (v := .agg #[str ([99, 117, 116] : List UInt8), .int .i64 8, str ([78, 110] : List UInt8), .int .i64 0, .int .i64 0]) rfl rfl (fun _ => by kernel_rfl)) rfl ?_
 refine vq (q_build (v := .agg #[str ([99, 114, 97, 115, 104] : List UInt8), .int .i64 9, str ([78, 110] : List UInt8), .int .i64 0, .int .i64 0]) rfl rfl (fun _ => by kernel_rfl)) rfl ?_
 refine vq (q_build (v := .agg #[str ([115, 116, 97, 114, 116] : List UInt8), .int .i64 10, str ([78, 110] : List UInt8), .int .i64 0, .int .i64 0]) rfl rfl (fun _ => by kernel_rfl)) rfl ?_
 refine vq (q_build (v := .agg #[str ([97, 114, 109] : List UInt8), .int .i64 12, str ([78, 110] : List UInt8), .int .i64 0, .int .i64 0]) rfl rfl (fun _ => by kernel_rfl)) rfl ?_
 refine vq (q_build (v := .agg #[str ([115, 116, 111, 112] : List UInt8), .int .i64 11, str ([78] : List UInt8), .int .i64 0, .int .i64 0]) rfl rfl (fun _ => by kernel_rfl)) rfl ?_
 refine vq (q_build (v := .agg #[str ([103, 101, 116] : List UInt8), .int .i64 13, str ([67, 78, 107] : List UInt8), .int .i64 0, .int .i64 1]) rfl rfl (fun _ => by kernel_rfl)) rfl ?_
 refine vq (q_build (v := .agg #[str ([100, 101, 108, 101, 116, 101] : List UInt8), .int .i64 13, str ([67, 78, 107] : List UInt8), .int .i64 0, .int .i64 3]) rfl rfl (fun _ => by kernel_rfl)) rfl ?_
 refine vq (q_build (v := .agg #[str ([112, 117, 116] : List UInt8), .int .i64 13, str ([67, 78, 107, 118] : List UInt8), .int .i64 0, .int .i64 2]) rfl rfl (fun _ => by kernel_rfl)) rfl ?_
 refine vq (q_build (v := .agg #[str ([115, 119, 97, 112] : List UInt8), .int .i64 13, str ([67, 78, 107, 111, 118] : List UInt8), .int .i64 0, .int .i64 4]) rfl rfl (fun _ => by kernel_rfl)) rfl ?_
 refine vq (q_build (v := .agg #[str ([97, 103, 97, 105, 110] : List UInt8), .int .i64 14, str ([67, 78] : List UInt8), .int .i64 0, .int .i64 0]) rfl rfl (fun _ => by kernel_rfl)) rfl ?_
 refine vq (q_build (v := .agg #[str ([103, 105, 118, 101] : List UInt8), .int .i64 15, str ([67] : List UInt8), .int .i64 0, .int .i64 0]) rfl rfl (fun _ => by kernel_rfl)) rfl ?_
 refine vq (q_build (v := .agg #[str ([99, 97, 108, 109] : List UInt8), .int .i64 16, str ([78, 110] : List UInt8), .int .i64 0, .int .i64 0]) rfl rfl (fun _ => by kernel_rfl)) rfl ?_
 have hlb2v : ListV 5 (V109 tt) ([(([116, 105, 99, 107] : List UInt8), (1 : Int), ([78, 110] : List UInt8), (0 : Int), (0 : Int)), (([112, 105, 99, 107] : List UInt8), (2 : Int), ([78, 112] : List UInt8), (0 : Int), (0 : Int)), (([100, 101, 108, 105, 118, 101, 114] : List UInt8), (3 : Int), ([110] : List UInt8), (0 : Int), (0 : Int)), (([100, 114, 111, 112] : List UInt8), (4 : Int), ([110] : List UInt8), (0 : Int), (0 : Int)), (([99, 111, 112, 121] : List UInt8), (5 : Int), ([110] : List UInt8), (0 : Int), (0 : Int)), (([115, 112, 111, 105, 108] : List UInt8), (6 : Int), ([110, 109] : List UInt8), (0 : Int), (0 : Int)), (([109, 111, 118, 101] : List UInt8), (7 : Int), ([110, 109] : List UInt8), (0 : Int), (0 : Int)), (([108, 105, 110, 107] : List UInt8), (8 : Int), ([78, 110] : List UInt8), (1 : Int), (0 : Int)), (([99, 117, 116] : List UInt8), (8 : Int), ([78, 110] : List UInt8), (0 : Int), (0 : Int)), (([99, 114, 97, 115, 104] : List UInt8), (9 : Int), ([78, 110] : List UInt8), (0 : Int), (0 : Int)), (([115, 116, 97, 114, 116] : List UInt8), (10 : Int), ([78, 110] : List UInt8), (0 : Int), (0 : Int)), (([97, 114, 109] : List UInt8), (12 : Int), ([78, 110] : List UInt8), (0 : Int), (0 : Int)), (([115, 116, 111, 112] : List UInt8), (11 : Int), ([78] : List UInt8), (0 : Int), (0 : Int)), (([103, 101, 116] : List UInt8), (13 : Int), ([67, 78, 107] : List UInt8), (0 : Int), (1 : Int)), (([100, 101, 108, 101, 116, 101] : List UInt8), (13 : Int), ([67, 78, 107] : List UInt8), (0 : Int), (3 : Int)), (([112, 117, 116] : List UInt8), (13 : Int), ([67, 78, 107, 118] : List UInt8), (0 : Int), (2 : Int)), (([115, 119, 97, 112] : List UInt8), (13 : Int), ([67, 78, 107, 111, 118] : List UInt8), (0 : Int), (4 : Int)), (([97, 103, 97, 105, 110] : List UInt8), (14 : Int), ([67, 78] : List UInt8), (0 : Int), (0 : Int)), (([103, 105, 118, 101] : List UInt8), (15 : Int), ([67] : List UInt8), (0 : Int), (0 : Int)), (([99, 97, 108, 109] : List UInt8), (16 : Int), ([78, 110] : List UInt8), (0 : Int), (0 : Int))] : List (Ty109)) [[str ([116, 105, 99, 107] : List UInt8), .int .i64 1, str ([78, 110] : List UInt8), .int .i64 0, .int .i64 0], [str ([112, 105, 99, 107] : List UInt8), .int .i64 2, str ([78, 112] : List UInt8), .int .i64 0, .int .i64 0], [str ([100, 101, 108, 105, 118, 101, 114] : List UInt8), .int .i64 3, str ([110] : List UInt8), .int .i64 0, .int .i64 0], [str ([100, 114, 111, 112] : List UInt8), .int .i64 4, str ([110] : List UInt8), .int .i64 0, .int .i64 0], [str ([99, 111, 112, 121] : List UInt8), .int .i64 5, str ([110] : List UInt8), .int .i64 0, .int .i64 0], [str ([115, 112, 111, 105, 108] : List UInt8), .int .i64 6, str ([110, 109] : List UInt8), .int .i64 0, .int .i64 0], [str ([109, 111, 118, 101] : List UInt8), .int .i64 7, str ([110, 109] : List UInt8), .int .i64 0, .int .i64 0], [str ([108, 105, 110, 107] : List UInt8), .int .i64 8, str ([78, 110] : List UInt8), .int .i64 1, .int .i64 0], [str ([99, 117, 116] : List UInt8), .int .i64 8, str ([78, 110] : List UInt8), .int .i64 0, .int .i64 0], [str ([99, 114, 97, 115, 104] : List UInt8), .int .i64 9, str ([78, 110] : List UInt8), .int .i64 0, .int .i64 0], [str ([115, 116, 97, 114, 116] : List UInt8), .int .i64 10, str ([78, 110] : List UInt8), .int .i64 0, .int .i64 0], [str ([97, 114, 109] : List UInt8), .int .i64 12, str ([78, 110] : List UInt8), .int .i64 0, .int .i64 0], [str ([115, 116, 111, 112] : List UInt8), .int .i64 11, str ([78] : List UInt8), .int .i64 0, .int .i64 0], [str ([103, 101, 116] : List UInt8), .int .i64 13, str ([67, 78, 107] : List UInt8), .int .i64 0, .int .i64 1], [str ([100, 101, 108, 101, 116, 101] : List UInt8), .int .i64 13, str ([67, 78, 107] : List UInt8), .int .i64 0, .int .i64 3], [str ([112, 117, 116] : List UInt8), .int .i64 13, str ([67, 78, 107, 118] : List UInt8), .int .i64 0, .int .i64 2], [str ([115, 119, 97, 112] : List UInt8), .int .i64 13, str ([67, 78, 107, 111, 118] : List UInt8), .int .i64 0, .int .i64 4], [str ([97, 103, 97, 105, 110] : List UInt8), .int .i64 14, str ([67, 78] : List UInt8), .int .i64 0, .int .i64 0], [str ([103, 105, 118, 101] : List UInt8), .int .i64 15, str ([67] : List UInt8), .int .i64 0, .int .i64 0], [str ([99, 97, 108, 109] : List UInt8), .int .i64 16, str ([78, 110] : List UInt8), .int .i64 0, .int .i64 0]] := ⟨⟨rfl, one_of (by rfl), rfl⟩, ⟨rfl, one_of (by rfl), rfl⟩, ⟨rfl, one_of (by rfl), rfl⟩, ⟨rfl, one_of (by rfl), rfl⟩, ⟨rfl, one_of (by rfl), rfl⟩, ⟨rfl, one_of (by rfl), rfl⟩, ⟨rfl, one_of (by rfl), rfl⟩, ⟨rfl, one_of (by rfl), rfl⟩, ⟨rfl, one_of (by rfl), rfl⟩, ⟨rfl, one_of (by rfl), rfl⟩, ⟨rfl, one_of (by rfl), rfl⟩, ⟨rfl, one_of (by rfl), rfl⟩, ⟨rfl, one_of (by rfl), rfl⟩, ⟨rfl, one_of (by rfl), rfl⟩, ⟨rfl, one_of (by rfl), rfl⟩, ⟨rfl, one_of (by rfl), rfl⟩, ⟨rfl, one_of (by rfl), rfl⟩, ⟨rfl, one_of (by rfl), rfl⟩, ⟨rfl, one_of (by rfl), rfl⟩, ⟨rfl, one_of (by rfl), rfl⟩, trivial⟩
 refine simL_eff (re_litV (V := (V109 tt)) (xs := ([(([116, 105, 99, 107] : List UInt8), (1 : Int), ([78, 110] : List UInt8), (0 : Int), (0 : Int)), (([112, 105, 99, 107] : List UInt8), (2 : Int), ([78, 112] : List UInt8), (0 : Int), (0 : Int)), (([100, 101, 108, 105, 118, 101, 114] : List UInt8), (3 : Int), ([110] : List UInt8), (0 : Int), (0 : Int)), (([100, 114, 111, 112] : List UInt8), (4 : Int), ([110] : List UInt8), (0 : Int), (0 : Int)), (([99, 111, 112, 121] : List UInt8), (5 : Int), ([110] : List UInt8), (0 : Int), (0 : Int)), (([115, 112, 111, 105, 108] : List UInt8), (6 : Int), ([110, 109] : List UInt8), (0 : Int), (0 : Int)), (([109, 111, 118, 101] : List UInt8), (7 : Int), ([110, 109] : List UInt8), (0 : Int), (0 : Int)), (([108, 105, 110, 107] : List UInt8), (8 : Int), ([78, 110] : List UInt8), (1 : Int), (0 : Int)), (([99, 117, 116] : List UInt8), (8 : Int), ([78, 110] : List UInt8), (0 : Int), (0 : Int)), (([99, 114, 97, 115, 104] : List UInt8), (9 : Int), ([78, 110] : List UInt8), (0 : Int), (0 : Int)), (([115, 116, 97, 114, 116] : List UInt8), (10 : Int), ([78, 110] : List UInt8), (0 : Int), (0 : Int)), (([97, 114, 109] : List UInt8), (12 : Int), ([78, 110] : List UInt8), (0 : Int), (0 : Int)), (([115, 116, 111, 112] : List UInt8), (11 : Int), ([78] : List UInt8), (0 : Int), (0 : Int)), (([103, 101, 116] : List UInt8), (13 : Int), ([67, 78, 107] : List UInt8), (0 : Int), (1 : Int)), (([100, 101, 108, 101, 116, 101] : List UInt8), (13 : Int), ([67, 78, 107] : List UInt8), (0 : Int), (3 : Int)), (([112, 117, 116] : List UInt8), (13 : Int), ([67, 78, 107, 118] : List UInt8), (0 : Int), (2 : Int)), (([115, 119, 97, 112] : List UInt8), (13 : Int), ([67, 78, 107, 111, 118] : List UInt8), (0 : Int), (4 : Int)), (([97, 103, 97, 105, 110] : List UInt8), (14 : Int), ([67, 78] : List UInt8), (0 : Int), (0 : Int)), (([103, 105, 118, 101] : List UInt8), (15 : Int), ([67] : List UInt8), (0 : Int), (0 : Int)), (([99, 97, 108, 109] : List UInt8), (16 : Int), ([78, 110] : List UInt8), (0 : Int), (0 : Int))] : List (Ty109))) [[str ([116, 105, 99, 107] : List UInt8), .int .i64 1, str ([78, 110] : List UInt8), .int .i64 0, .int .i64 0], [str ([112, 105, 99, 107] : List UInt8), .int .i64 2, str ([78, 112] : List UInt8), .int .i64 0, .int .i64 0], [str ([100, 101, 108, 105, 118, 101, 114] : List UInt8), .int .i64 3, str ([110] : List UInt8), .int .i64 0, .int .i64 0], [str ([100, 114, 111, 112] : List UInt8), .int .i64 4, str ([110] : List UInt8), .int .i64 0, .int .i64 0], [str ([99, 111, 112, 121] : List UInt8), .int .i64 5, str ([110] : List UInt8), .int .i64 0, .int .i64 0], [str ([115, 112, 111, 105, 108] : List UInt8), .int .i64 6, str ([110, 109] : List UInt8), .int .i64 0, .int .i64 0], [str ([109, 111, 118, 101] : List UInt8), .int .i64 7, str ([110, 109] : List UInt8), .int .i64 0, .int .i64 0], [str ([108, 105, 110, 107] : List UInt8), .int .i64 8, str ([78, 110] : List UInt8), .int .i64 1, .int .i64 0], [str ([99, 117, 116] : List UInt8), .int .i64 8, str ([78, 110] : List UInt8), .int .i64 0, .int .i64 0], [str ([99, 114, 97, 115, 104] : List UInt8), .int .i64 9, str ([78, 110] : List UInt8), .int .i64 0, .int .i64 0], [str ([115, 116, 97, 114, 116] : List UInt8), .int .i64 10, str ([78, 110] : List UInt8), .int .i64 0, .int .i64 0], [str ([97, 114, 109] : List UInt8), .int .i64 12, str ([78, 110] : List UInt8), .int .i64 0, .int .i64 0], [str ([115, 116, 111, 112] : List UInt8), .int .i64 11, str ([78] : List UInt8), .int .i64 0, .int .i64 0], [str ([103, 101, 116] : List UInt8), .int .i64 13, str ([67, 78, 107] : List UInt8), .int .i64 0, .int .i64 1], [str ([100, 101, 108, 101, 116, 101] : List UInt8), .int .i64 13, str ([67, 78, 107] : List UInt8), .int .i64 0, .int .i64 3], [str ([112, 117, 116] : List UInt8), .int .i64 13, str ([67, 78, 107, 118] : List UInt8), .int .i64 0, .int .i64 2], [str ([115, 119, 97, 112] : List UInt8), .int .i64 13, str ([67, 78, 107, 111, 118] : List UInt8), .int .i64 0, .int .i64 4], [str ([97, 103, 97, 105, 110] : List UInt8), .int .i64 14, str ([67, 78] : List UInt8), .int .i64 0, .int .i64 0], [str ([103, 105, 118, 101] : List UInt8), .int .i64 15, str ([67] : List UInt8), .int .i64 0, .int .i64 0], [str ([99, 97, 108, 109] : List UInt8), .int .i64 16, str ([78, 110] : List UInt8), .int .i64 0, .int .i64 0]] rfl rfl Tryd.underlying106 elt109 rfl (by kernel_rfl) rfl hlb2v rfl rfl) rfl rfl rfl ?_
 intro b2v
 refine va rfl rfl (simL_nil (nrm_then (sim_rtn ?_)))
 exact rtn_fn ((some ⟨b2v, 0, none⟩), 20) rfl rfl rfl (.sel' 0 rfl (RowV.mk hlb2v) (.sel 0 rfl (.nil _)))
end Go.Proofs.YtbcnegennmpliaaDoor

namespace Go.Proofs.YtbcnegennmpliaaDoor
set_option linter.unusedVariables false
set_option linter.unusedSimpArgs false
open Go.RowKit

theorem w64 {n : Int} (h0 : -9223372036854775808 ≤ n) (h1 : n ≤ 9223372036854775807) : IntKind.i64.wrap n = n := by rw [IntKind.wrap_i64]; omega
theorem w8 {n : Int} (h0 : 0 ≤ n) (h1 : n < 256) : IntKind.u8.wrap n = n := by rw [IntKind.wrap_u8]; omega
theorem byte_cast (b : UInt8) : byte (b.toNat : Int) = b := by simp [byte]
end Go.Proofs.YtbcnegennmpliaaDoor

namespace Go.Proofs.YtbcnegennmpliaaDoor
set_option linter.unusedVariables false
set_option linter.unusedSimpArgs false
open Go.RowKit
abbrev hexs : List UInt8 := [48, 49, 50, 51, 52, 53, 54, 55, 56, 57, 97, 98, 99, 100, 101, 102]
def plainB (c : UInt8) : Bool := decide (32 ≤ c.toNat) && decide (c.toNat ≤ 126)
def bareB (c : UInt8) : Bool := plainB c && !decide (c.toNat = 32) && !decide (c.toNat = 34)
theorem getD_at {α : Type} {l : List α} {i : Nat} {d : α} (h : i < l.length) : l.getD i d = l[i] := by
  rw [List.getD_eq_getElem?_getD, List.getElem?_eq_getElem h]; rfl
theorem getD_cons_of {l : List UInt8} {i : Nat} (h : i < l.length) : l.drop i = l.getD i 0 :: l.drop (i + 1) := by
  rw [List.getD_eq_getElem?_getD, List.getElem?_eq_getElem h]
  exact List.drop_eq_getElem_cons h
theorem wi1 {n : Nat} (h : n < 2 ^ 61) : IntKind.i64.wrap ((n : Int) + 1) = ((n + 1 : Nat) : Int) := by rw [w64 (by omega) (by omega)]; simp
theorem plain_f (c : UInt8) : text_plain.f (c.toNat : Int) = some (plainB c) := by
  unfold text_plain.f plainB
  congr 1
  rw [show decide ((32 : Int) ≤ (c.toNat : Int)) = decide (32 ≤ c.toNat) by congr 1; exact propext (by omega), show decide ((c.toNat : Int) ≤ 126) = decide (c.toNat ≤ 126) by congr 1; exact propext (by omega)]
theorem bare_f (c : UInt8) : text_bare.f (c.toNat : Int) = some (bareB c) := by
  unfold text_bare.f bareB
  rw [plain_f, Option.bind_some]
  congr 3
  · congr 2; exact propext (by omega)
  · congr 1; exact propext (by omega)
end Go.Proofs.YtbcnegennmpliaaDoor

namespace Go.Proofs.YtbcnegennmpliaaDoor
set_option linter.unusedVariables false
set_option linter.unusedSimpArgs false
open Go.RowKit
/-! ### The document's -/
theorem plainD_f (c : UInt8) : synodref17_plain.f (c.toNat : Int) = some (plainB c && !decide (c.toNat = 34) && !decide (c.toNat = 92)) := by
  unfold synodref17_plain.f plainB
  congr 1
  rw [show decide ((32 : Int) ≤ (c.toNat : Int)) = decide (32 ≤ c.toNat) by congr 1; exact propext (by omega), show decide ((c.toNat : Int) ≤ 126) = decide (c.toNat ≤ 126) by congr 1; exact propext (by omega),
    show decide ((c.toNat : Int) = 34) = decide (c.toNat = 34) by congr 1; exact propext (by omega), show decide ((c.toNat : Int) = 92) = decide (c.toNat = 92) by congr 1; exact propext (by omega)]
end Go.Proofs.YtbcnegennmpliaaDoor

namespace Go.Proofs.YtbcnegennmpliaaDoor
set_option linter.unusedVariables false
set_option linter.unusedSimpArgs false
open Go.RowKit
theorem bareD_f (c : UInt8) : synodref17_bare.f (c.toNat : Int) = some (bareB c) := by
  unfold synodref17_bare.f bareB plainB
  congr 1
  rw [show decide ((32 : Int) < (c.toNat : Int)) = (decide (32 ≤ c.toNat) && !decide (c.toNat = 32)) by
      by_cases h : (32 : Int) < (c.toNat : Int)
      · rw [decide_eq_true h, decide_eq_true (show 32 ≤ c.toNat by omega), decide_eq_false (show ¬ c.toNat = 32 by omega)]; rfl
      · rw [decide_eq_false h]
        by_cases h2 : c.toNat = 32
        · simp [h2]
        · rw [decide_eq_false (show ¬ 32 ≤ c.toNat by omega)]; rfl,
    show decide ((c.toNat : Int) ≤ 126) = decide (c.toNat ≤ 126) by congr 1; exact propext (by omega),
    show decide ((c.toNat : Int) = 34) = decide (c.toNat = 34) by congr 1; exact propext (by omega)]
  cases decide (32 ≤ c.toNat) <;> cases decide (c.toNat ≤ 126) <;> cases decide (c.toNat = 32) <;> rfl
end Go.Proofs.YtbcnegennmpliaaDoor

namespace Go.Proofs.YtbcnegennmpliaaDoor
set_option linter.unusedVariables false
set_option linter.unusedSimpArgs false
open Go.RowKit
def encC (c : UInt8) : List UInt8 :=
  if c.toNat = 34 ∨ c.toNat = 92 then [92, c]
  else if plainB c then [c]
  else [92, 120, hexs.getD (c.toNat / 16) 0, hexs.getD (c.toNat % 16) 0]
def headB (s : List UInt8) : Bool := match s with
  | [] => false
  | c :: _ => !decide (c.toNat = 35)
def bareW (s : List UInt8) : Bool := headB s && s.all bareB
def quoteB (s : List UInt8) : List UInt8 := if bareW s then s else 34 :: (s.flatMap encC ++ [34])
theorem encC_len (c : UInt8) : 1 ≤ (encC c).length ∧ (encC c).length ≤ 4 := by
  unfold encC
  split
  · simp
  · split <;> simp
theorem enc_len : ∀ s : List UInt8, (s.flatMap encC).length ≤ 4 * s.length
  | [] => by simp
  | c :: s => by
    have := enc_len s
    have := encC_len c
    simp only [List.flatMap_cons, List.length_append, List.length_cons]; omega
theorem quote_len (s : List UInt8) : (quoteB s).length ≤ 4 * s.length + 2 := by
  unfold quoteB
  have := enc_len s
  split
  · omega
  · simp only [List.length_cons, List.length_append, List.length_nil]; omega
theorem q_l0 {x : List UInt8} (hx : x.length < 2 ^ 40) : ∀ (k : Nat) (z : Bool) (i : Nat), x.length - i < k → i ≤ x.length → text_Quote.l0 x k z (i : Int) = some (z && (x.drop i).all bareB)
  | 0, z, i, h, _ => by omega
  | k + 1, z, i, hk, hi => by
    rw [text_Quote.l0]
    by_cases hlt : i < x.length
    · rw [if_pos (by omega), wi1 (by omega), getD_cons_of hlt]
      simp only [Int.toNat_natCast]
      cases z with
      | true => rw [if_pos rfl, if_pos (by omega), bare_f, Option.bind_some, Option.bind_some, q_l0 hx k _ (i + 1) (by omega) (by omega)]; simp
      | false => rw [if_neg (by simp), Option.bind_some, q_l0 hx k _ (i + 1) (by omega) (by omega)]; simp
    · rw [if_neg (by omega), List.drop_of_length_le (by omega)]; simp
theorem qD_l0 {x : List UInt8} (hx : x.length < 2 ^ 40) : ∀ (k : Nat) (z : Bool) (i : Nat), x.length - i < k → i ≤ x.length → synodref17_Quote.l0 x k z (i : Int) = some (z && (x.drop i).all bareB)
  | 0, z, i, h, _ => by omega
  | k + 1, z, i, hk, hi => by
    rw [synodref17_Quote.l0]
    by_cases hlt : i < x.length
    · rw [if_pos (by omega), wi1 (by omega), getD_cons_of hlt]
      simp only [Int.toNat_natCast]
      cases z with
      | true => rw [if_pos rfl, if_pos (by omega), bareD_f, Option.bind_some, Option.bind_some, qD_l0 hx k _ (i + 1) (by omega) (by omega)]; simp
      | false => rw [if_neg (by simp), Option.bind_some, qD_l0 hx k _ (i + 1) (by omega) (by omega)]; simp
    · rw [if_neg (by omega), List.drop_of_length_le (by omega)]; simp
theorem q_l1 {x : List UInt8} (hx : x.length < 2 ^ 40) : ∀ (k : Nat) (z : List UInt8) (i : Nat), x.length - i < k → i ≤ x.length → z.length ≤ 4 * i + 1 → text_Quote.l1 x k z (i : Int) = some (z ++ (x.drop i).flatMap encC)
  | 0, z, i, h, _, _ => by omega
  | k + 1, z, i, hk, hi, hz => by
    rw [text_Quote.l1]
    by_cases hlt : i < x.length
    · rw [if_pos (by omega), if_pos (by omega), wi1 (by omega), getD_cons_of hlt, List.flatMap_cons]
      simp only [Int.toNat_natCast]
      obtain ⟨c, hc⟩ : ∃ c, x.getD i 0 = c := ⟨_, rfl⟩
      simp only [hc]
      rw [encC]
      by_cases h1 : c.toNat = 34 ∨ c.toNat = 92
      · rw [if_pos (by simp; omega), if_pos (by simp; omega), if_pos h1, q_l1 hx k _ (i + 1) (by omega) (by omega) (by simp; omega), List.append_assoc]
      · rw [if_neg (by simp; omega), if_neg h1, plain_f, Option.bind_some]
        cases hp : plainB c with
        | true => rw [if_pos rfl, if_pos rfl, if_pos (by simp; omega), q_l1 hx k _ (i + 1) (by omega) (by omega) (by simp; omega), List.append_assoc]
        | false =>
          have hc := UInt8.toNat_lt c
          have e1 : Int.tdiv (c.toNat : Int) 16 = ((c.toNat / 16 : Nat) : Int) := by rw [Int.tdiv_eq_ediv_of_nonneg (by omega)]; simp
          have e2 : Int.tmod (c.toNat : Int) 16 = ((c.toNat % 16 : Nat) : Int) := by rw [Int.tmod_eq_emod_of_nonneg (by omega)]; simp
          rw [if_neg Bool.false_ne_true, e1, e2, w8 (by omega) (by omega)]
          simp only [Int.toNat_natCast]
          rw [if_pos (by simp; omega), if_pos (by simp; omega), if_pos (by simp; omega), if_neg Bool.false_ne_true, q_l1 hx k _ (i + 1) (by omega) (by omega) (by simp; omega), List.append_assoc]
    · rw [if_neg (by omega), List.drop_of_length_le (by omega)]; simp
theorem quote_f {x : List UInt8} {k : Nat} (hx : x.length < 2 ^ 40) (hk : x.length < k) : text_Quote.f k x = some (quoteB x) := by
  unfold text_Quote.f
  have e0 : (if x = ([] : List UInt8) then (some false) else (if 0 ≤ (0 : Int) ∧ (0 : Int) < (x.length : Int) then (some (!decide (((x.getD (0 : Int).toNat 0).toNat : Int) = (35 : Int)))) else none)) = some (headB x) := by
    cases x with
    | nil => rfl
    | cons c t =>
      rw [if_neg (by simp), if_pos (by simp)]
      simp only [show (0 : Int).toNat = 0 from rfl, List.getD_cons_zero]
      show some (!decide ((c.toNat : Int) = 35)) = some (!decide (c.toNat = 35))
      congr 3; exact propext (by omega)
  have e1 := fun z => q_l0 hx k z 0 (by omega) (by omega)
  have e2 := q_l1 hx k [34] 0 (by omega) (by omega) (by simp)
  have := enc_len x
  simp only [List.drop_zero] at e1 e2
  rw [e0, Option.bind_some]
  rw [show (0 : Int) = ((0 : Nat) : Int) from rfl, e1, Option.bind_some, e2, Option.bind_some]
  unfold quoteB bareW
  by_cases hw : (headB x && x.all bareB) = true
  · rw [if_pos hw, if_pos hw]
  · rw [if_neg hw, if_neg hw, if_pos (by simp only [List.length_append, List.length_cons, List.length_nil]; omega)]; simp
theorem qD_l1 {x : List UInt8} (hx : x.length < 2 ^ 40) : ∀ (k : Nat) (z : List UInt8) (i : Nat), x.length - i < k → i ≤ x.length → z.length ≤ 4 * i + 1 → synodref17_Quote.l1 x k z (i : Int) = some (z ++ (x.drop i).flatMap encC)
  | 0, z, i, h, _, _ => by omega
  | k + 1, z, i, hk, hi, hz => by
    rw [synodref17_Quote.l1]
    by_cases hlt : i < x.length
    · rw [if_pos (by omega), if_pos (by omega), wi1 (by omega), getD_cons_of hlt, List.flatMap_cons]
      simp only [Int.toNat_natCast]
      obtain ⟨c, hc⟩ : ∃ c, x.getD i 0 = c := ⟨_, rfl⟩
      simp only [hc]
      rw [encC, plainD_f, Option.bind_some]
      by_cases h1 : c.toNat = 34 ∨ c.toNat = 92
      · rw [if_neg (by rcases h1 with h1 | h1 <;> simp [h1]), if_pos (by simp; omega), if_pos (by simp; omega), if_pos h1, qD_l1 hx k _ (i + 1) (by omega) (by omega) (by simp; omega), List.append_assoc]
      · have h2 : decide (c.toNat = 34) = false := decide_eq_false fun e => h1 (.inl e)
        have h3 : decide (c.toNat = 92) = false := decide_eq_false fun e => h1 (.inr e)
        rw [if_neg h1, h2, h3]
        cases hp : plainB c with
        | true => rw [if_pos (by rfl), if_pos rfl, if_pos (by simp; omega), qD_l1 hx k _ (i + 1) (by omega) (by omega) (by simp; omega), List.append_assoc]
        | false =>
          have hc := UInt8.toNat_lt c
          have e1 : Int.tdiv (c.toNat : Int) 16 = ((c.toNat / 16 : Nat) : Int) := by rw [Int.tdiv_eq_ediv_of_nonneg (by omega)]; simp
          have e2 : Int.tmod (c.toNat : Int) 16 = ((c.toNat % 16 : Nat) : Int) := by rw [Int.tmod_eq_emod_of_nonneg (by omega)]; simp
          have hd : ∀ n : Nat, n < 16 → synodref17_digit.f (n : Int) = some ((hexs.getD n 0).toNat : Int) := fun n hn => by
            unfold synodref17_digit.f
            rw [if_pos (by simp; omega)]
            rfl
          have hb : ∀ b : UInt8, 0 ≤ (b.toNat : Int) ∧ (b.toNat : Int) < 256 := fun b => by have := UInt8.toNat_lt b; omega
          rw [if_neg (by simp), if_neg (by simp; omega), w64 (n := (c.toNat : Int)) (by omega) (by omega), e1, e2, w64 (by omega) (by omega), hd _ (by omega), Option.bind_some, hd _ (by omega), Option.bind_some, if_pos (hb _), if_pos (hb _), byte_cast, byte_cast, if_pos (by simp; omega), if_neg Bool.false_ne_true, qD_l1 hx k _ (i + 1) (by omega) (by omega) (by simp; omega), List.append_assoc]
    · rw [if_neg (by omega), List.drop_of_length_le (by omega)]; simp
theorem quoteD_f {x : List UInt8} {k : Nat} (hx : x.length < 2 ^ 40) (hk : x.length < k) : synodref17_Quote.f k x = some (quoteB x) := by
  unfold synodref17_Quote.f
  have e0 : (if x = ([] : List UInt8) then (some false) else (if 0 ≤ (0 : Int) ∧ (0 : Int) < (x.length : Int) then (some (!decide (((x.getD (0 : Int).toNat 0).toNat : Int) = (35 : Int)))) else none)) = some (headB x) := by
    cases x with
    | nil => rfl
    | cons c t =>
      rw [if_neg (by simp), if_pos (by simp)]
      simp only [show (0 : Int).toNat = 0 from rfl, List.getD_cons_zero]
      show some (!decide ((c.toNat : Int) = 35)) = some (!decide (c.toNat = 35))
      congr 3; exact propext (by omega)
  have e1 := fun z => qD_l0 hx k z 0 (by omega) (by omega)
  have e2 := qD_l1 hx k [34] 0 (by omega) (by omega) (by simp)
  have := enc_len x
  simp only [List.drop_zero] at e1 e2
  rw [e0, Option.bind_some]
  rw [show (0 : Int) = ((0 : Nat) : Int) from rfl, e1, Option.bind_some, e2, Option.bind_some]
  unfold quoteB bareW
  by_cases hw : (headB x && x.all bareB) = true
  · rw [if_pos hw, if_pos hw]
  · rw [if_neg hw, if_neg hw, if_pos (by simp only [List.length_append, List.length_cons, List.length_nil]; omega)]; simp
end Go.Proofs.YtbcnegennmpliaaDoor

namespace Go.Proofs.YtbcnegennmpliaaDoor
set_option linter.unusedVariables false
set_option linter.unusedSimpArgs false
open Go.RowKit
theorem dec_len : ∀ (k u : Nat), u < 10 ^ (k + 1) → (Lib.decDigits u).length ≤ k + 1
  | 0, u, h => by rw [Lib.decDigits, dif_pos (by simpa using h)]; simp
  | k + 1, u, h => by
    rw [Lib.decDigits]
    split
    · simp
    · have := dec_len k (u / 10) (by rw [Nat.pow_succ] at h; omega)
      simp; omega
theorem itoa_pos {n : Int} (h : 0 ≤ n) : Lib.itoa n = Lib.decDigits n.toNat := by unfold Lib.itoa; rw [if_neg (by omega)]
theorem itoa_neg' {n : Int} (h : n < 0) : Lib.itoa n = 45 :: Lib.decDigits n.natAbs := by unfold Lib.itoa; rw [if_pos h]
/-! ### The document's -/
end Go.Proofs.YtbcnegennmpliaaDoor

namespace Go.Proofs.YtbcnegennmpliaaDoor
set_option linter.unusedVariables false
set_option linter.unusedSimpArgs false
open Go.RowKit
end Go.Proofs.YtbcnegennmpliaaDoor

namespace Go.Proofs.YtbcnegennmpliaaDoor
set_option linter.unusedVariables false
set_option linter.unusedSimpArgs false
open Go.RowKit
abbrev ActT : Type := Int × Int × Int × Int × Int × Int × List UInt8 × List UInt8 × List UInt8
end Go.Proofs.YtbcnegennmpliaaDoor

namespace Go.Proofs.YtbcnegennmpliaaDoor
set_option linter.unusedVariables false
set_option linter.unusedSimpArgs false
open Go.RowKit
abbrev RowT : Type := List UInt8 × Int × List UInt8 × Int × Int
def rowsL : List RowT := (synodref17_Rows.f).getD []
abbrev w1 (ws : List (List UInt8)) (i : Nat) : List UInt8 := ws.getD i []
end Go.Proofs.YtbcnegennmpliaaDoor

namespace Go.Proofs.YtbcnegennmpliaaDoor
set_option linter.unusedVariables false
set_option linter.unusedSimpArgs false
open Go.RowKit
def numOf (l : UInt8) (a : ActT) : Int := if l = 78 then a.2.1 else if l = 67 then a.2.2.1 else if l = 109 then a.2.2.2.2.1 else a.2.2.2.1
def txtOf (l : UInt8) (a : ActT) : List UInt8 := if l = 107 then a.2.2.2.2.2.2.1 else if l = 118 then a.2.2.2.2.2.2.2.1 else a.2.2.2.2.2.2.2.2
def zeroF (l : UInt8) (a : ActT) : ActT :=
  if l = 107 then (a.1, a.2.1, a.2.2.1, a.2.2.2.1, a.2.2.2.2.1, a.2.2.2.2.2.1, [], a.2.2.2.2.2.2.2.1, a.2.2.2.2.2.2.2.2)
  else if l = 118 then (a.1, a.2.1, a.2.2.1, a.2.2.2.1, a.2.2.2.2.1, a.2.2.2.2.2.1, a.2.2.2.2.2.2.1, [], a.2.2.2.2.2.2.2.2)
  else if l = 111 then (a.1, a.2.1, a.2.2.1, a.2.2.2.1, a.2.2.2.2.1, a.2.2.2.2.2.1, a.2.2.2.2.2.2.1, a.2.2.2.2.2.2.2.1, [])
  else if l = 78 then (a.1, 0, a.2.2.1, a.2.2.2.1, a.2.2.2.2.1, a.2.2.2.2.2.1, a.2.2.2.2.2.2.1, a.2.2.2.2.2.2.2.1, a.2.2.2.2.2.2.2.2)
  else if l = 67 then (a.1, a.2.1, 0, a.2.2.2.1, a.2.2.2.2.1, a.2.2.2.2.2.1, a.2.2.2.2.2.2.1, a.2.2.2.2.2.2.2.1, a.2.2.2.2.2.2.2.2)
  else if l = 109 then (a.1, a.2.1, a.2.2.1, a.2.2.2.1, 0, a.2.2.2.2.2.1, a.2.2.2.2.2.2.1, a.2.2.2.2.2.2.2.1, a.2.2.2.2.2.2.2.2)
  else (a.1, a.2.1, a.2.2.1, 0, a.2.2.2.2.1, a.2.2.2.2.2.1, a.2.2.2.2.2.2.1, a.2.2.2.2.2.2.2.1, a.2.2.2.2.2.2.2.2)
def zeroAll (ls : List UInt8) (a : ActT) : ActT := ls.foldl (fun b l => zeroF l b) a
structure ActOk (a : ActT) : Prop where
  num : ∀ l, -9223372036854775808 ≤ numOf l a ∧ numOf l a ≤ 9223372036854775807
  txt : ∀ l, (txtOf l a).length ≤ 20000
theorem itoa_len {n : Int} (h0 : -9223372036854775808 ≤ n) (h1 : n ≤ 9223372036854775807) : (Lib.itoa n).length ≤ 21 := by
  by_cases hn : n < 0
  · rw [itoa_neg' hn]; have := dec_len 19 n.natAbs (by omega); simp; omega
  · rw [itoa_pos (by omega)]; have := dec_len 19 n.toNat (by omega); omega
end Go.Proofs.YtbcnegennmpliaaDoor

namespace Go.Proofs.YtbcnegennmpliaaDoor
set_option linter.unusedVariables false
set_option linter.unusedSimpArgs false
open Go.RowKit
end Go.Proofs.YtbcnegennmpliaaDoor

namespace Go.Proofs.YtbcnegennmpliaaDoor
set_option linter.unusedVariables false
set_option linter.unusedSimpArgs false
open Go.RowKit
structure Sel (kind m op : Int) (r r' : RowT) : Prop where
  mem : r ∈ rowsL
  of : r'.2.2.1 = r.2.2.1
  mem' : r' ∈ rowsL
  k : r.2.1 = kind
  eq : r' = r ∨ (kind = 8 ∧ m < 0)
  op13 : kind = 13 → r.2.2.2.2 = op
  opn : kind ≠ 13 → r.2.2.2.2 = 0
  m8 : kind = 8 → r.2.2.2.1 = min (max m 0) 1 ∧ 109 ∉ r.2.2.1
  p : 112 ∈ r.2.2.1 → kind = 2
end Go.Proofs.YtbcnegennmpliaaDoor

namespace Go.Proofs.YtbcnegennmpliaaDoor
set_option linter.unusedVariables false
set_option linter.unusedSimpArgs false
open Go.RowKit
def zB (r : RowT) (a : ActT) : Prop :=
  (zeroAll r.2.2.1 a).2.1 = 0 ∧ (zeroAll r.2.2.1 a).2.2.1 = 0 ∧ (zeroAll r.2.2.1 a).2.2.2.1 = 0 ∧ (if a.1 = 8 then 0 else (zeroAll r.2.2.1 a).2.2.2.2.1) = 0 ∧ a.2.2.2.2.2.1 = r.2.2.2.2 ∧
    (zeroAll r.2.2.1 a).2.2.2.2.2.2.1 = [] ∧ (zeroAll r.2.2.1 a).2.2.2.2.2.2.2.1 = [] ∧ (zeroAll r.2.2.1 a).2.2.2.2.2.2.2.2 = []
instance (r : RowT) (a : ActT) : Decidable (zB r a) := by unfold zB; infer_instance
end Go.Proofs.YtbcnegennmpliaaDoor

namespace Go.Proofs.YtbcnegennmpliaaDoor
set_option linter.unusedVariables false
set_option linter.unusedSimpArgs false
open Go.RowKit
theorem texts_loop (x y : List (List UInt8)) (hl : x.length = y.length) (hm : x.length < 2 ^ 62) : ∀ (d i k : Nat), i + d = x.length → d + 1 ≤ k → x.take i = y.take i →
    (orR (synodref_SameTexts.l0 x y k (i : Int)) fun _ => some true) = some (decide (x = y))
  | d, i, 0, _, hk, _ => by omega
  | 0, i, k + 1, hd, hk, ht => by
    simp only [synodref_SameTexts.l0]
    rw [if_neg (by omega)]
    have : x = y := by rwa [List.take_of_length_le (by omega), List.take_of_length_le (by omega)] at ht
    simp [orR, this]
  | d + 1, i, k + 1, hd, hk, ht => by
    simp only [synodref_SameTexts.l0]
    rw [if_pos (by omega), if_pos (by omega), if_pos (by omega)]
    have hix : i < x.length := by omega
    have hiy : i < y.length := by omega
    simp only [Int.toNat_natCast]
    by_cases he : x[i] = y[i]
    · rw [if_pos (by rw [getD_at hix, getD_at hiy, he]), w64 (by omega) (by omega)]
      exact texts_loop x y hl hm d (i + 1) k (by omega) (by omega) (by rw [List.take_succ_eq_append_getElem hix, List.take_succ_eq_append_getElem hiy, ht, he])
    · rw [if_neg (by rw [getD_at hix, getD_at hiy]; exact he)]
      have : x ≠ y := by rintro rfl; exact he rfl
      simp [orR, this]
theorem SameTexts_eq {k : Nat} {x y : List (List UInt8)} (hm : x.length < 2 ^ 62) (hk : x.length + 1 ≤ k) : synodref_SameTexts.f k x y = some (decide (x = y)) := by
  unfold synodref_SameTexts.f
  by_cases h : x.length = y.length
  · rw [if_pos (by omega)]
    exact texts_loop x y h hm x.length 0 k (by omega) hk rfl
  · rw [if_neg (by omega)]
    have : x ≠ y := by rintro rfl; exact h rfl
    simp [this]
theorem first_eq (m : Nat) : synodlaw17_first.f (m + 60) = some true := by kernel_rfl
end Go.Proofs.YtbcnegennmpliaaDoor

namespace Go.Proofs.YtbcnegennmpliaaDoor
set_option linter.unusedVariables false
set_option linter.unusedSimpArgs false
open Go.RowKit
theorem i64_of {x : Int} (h : okI .i64 x) : -9223372036854775808 ≤ x ∧ x ≤ 9223372036854775807 := by
  have e1 : IntKind.i64.min = -9223372036854775808 := by decide
  have e2 : IntKind.i64.max = 9223372036854775807 := by decide
  unfold okI at h
  rw [e1, e2] at h
  exact h
end Go.Proofs.YtbcnegennmpliaaDoor

namespace Go.Proofs.YtbcnegennmpliaaDoor
set_option linter.unusedVariables false
set_option linter.unusedSimpArgs false
open Go.RowKit Go.ChangeShapes Go.WideShapes Go.ChangeAt

def heapF (W : World) : HA := fun h => ∀ i, i < W.heap.size → h i = W.heap[i]?
theorem sat_start (W : World) : Sat W ([] ++ [heapF W]) W := ⟨rfl, rfl, rfl, Nat.le_refl _, star_tt (fun _ _ => rfl)⟩
theorem below_of {W w : World} {l : List HA} (s : Sat W l w) (k : Nat) (hk : l[k]? = some (heapF W)) : Below W.heap.size W w := by
  obtain ⟨a, ha, hz⟩ := s.at hk
  refine ⟨s.os, s.tape, s.output, s.size, fun i hi => ?_⟩
  have h1 := ha i hi
  obtain ⟨o, ho⟩ : ∃ o, W.heap[i]? = some o := ⟨_, Array.getElem?_eq_getElem hi⟩
  rw [ho] at h1
  rw [hz i o h1, ho]
theorem row_of_fn {P : Program} {W : World} {f : FuncId} {args : List Value} {R Y : Type} {o : Option R} {val : R → Y → Value} {r : R}
    (h : Fn P W f args [] (heapF W) o val (fun _ _ => [])) (hs : o = some r) (hv : ∀ y, val r y = .bool true) :
    Calls P f args.toArray W fun e w' => e = .returned (.bool true) ∧ Below W.heap.size W w' := by
  refine (h r hs W (sat_start W)).mono ?_
  rintro e w' ⟨y, rfl, s⟩
  exact ⟨by rw [hv], below_of s 0 rfl⟩
theorem rd_cells {W : World} {x : Addr} {cs : List Value} (h : ∀ j v, cs[j]? = some v → W.cell? (x.add j) = some v) : Rd (heapF W) (some x) cs := by
  cases cs with
  | nil => exact .inl rfl
  | cons v vs =>
    right
    have h0 := h 0 v rfl
    have hsp : x.spot = none := by
      have e : (x.add 0).spot = x.spot ∨ x.spot ≠ none := by cases hx : x.spot <;> simp [Addr.add, hx]
      refine Classical.byContradiction fun hne => ?_
      obtain ⟨s, hs⟩ := Option.ne_none_iff_exists'.1 hne
      unfold World.cell? at h0
      simp only [Addr.add, hs] at h0
      split at h0 <;> simp_all
    obtain ⟨b, off, sp⟩ := x
    simp only at hsp
    subst hsp
    have hadd : ∀ j, (⟨b, off, none⟩ : Addr).add j = ⟨b, off + j, none⟩ := fun j => by unfold Addr.add; split <;> simp_all
    simp only [hadd] at h
    refine ⟨b, off, rfl, fun g hg => ?_⟩
    have h0 := h 0 v rfl
    unfold World.cell? at h0
    simp only at h0
    split at h0
    · rename_i c T fz hb
      have hlt : b < W.heap.size := (Array.getElem?_eq_some_iff.1 hb).1
      refine ⟨c, T, fz, by rw [hg b hlt, hb], fun j v hj => ?_⟩
      have := h j v hj
      simpa [World.cell?, hb] using this
    · simp at h0
theorem weights_of {H : Type} {P : Program} {ts : List TypeId} {ds : List (DataW H)} (h : (DataW.weightsEach P ts ds).all (· ≤ reachBytes) = true) {j : Nat} {t : TypeId} {d : DataW H} (ht : ts[j]? = some t) (hd : ds[j]? = some d) : ∀ n ∈ d.weights P t, n ≤ reachBytes := fun n hn => by
  have := List.all_eq_true.1 h n (DataW.weights_mem_each ht hd n hn)
  simpa using this
end Go.Proofs.YtbcnegennmpliaaDoor

namespace Go.Proofs.YtbcnegennmpliaaDoor
set_option linter.unusedVariables false
set_option linter.unusedSimpArgs false
open Go.RowKit Go.ChangeShapes Go.WideShapes Go.ChangeAt
section
variable {H : Type} {enc : TypeId × Value → H} {P : Program} {W : World} {held : Bool} {α β : Type}
def Opens (enc : TypeId × Value → H) (P : Program) (W : World) (held : Bool) (t : TypeId) (V : α → List Value → Prop) (Ok : α → Prop) : Prop :=
  ∀ fuel cs x, DataW.trod enc P W 0 (fun _ => true) held fuel t cs = some x → (∀ n ∈ x.1.weights P t, n ≤ reachBytes) → ∃ y, V y cs ∧ one cs ∧ cs.length = P.cellsOf t ∧ Ok y
theorem Opens.map {t : TypeId} {V : α → List Value → Prop} {V' : β → List Value → Prop} {Ok : α → Prop} {Ok' : β → Prop} (f : α → β) (h : Opens enc P W held t V Ok) (hV : ∀ x r, V x r → V' (f x) r) (hO : ∀ x, Ok x → Ok' (f x)) : Opens enc P W held t V' Ok' := fun fuel cs x h1 h2 =>
  let ⟨y, a, b, c, d⟩ := h fuel cs x h1 h2; ⟨f y, hV _ _ a, b, c, hO _ d⟩
theorem Opens.mono {t : TypeId} {V V' : α → List Value → Prop} {Ok Ok' : α → Prop} (h : Opens enc P W held t V Ok) (hV : ∀ x r, V x r → V' x r) (hO : ∀ x, Ok x → Ok' x) : Opens enc P W held t V' Ok' := fun fuel cs x h1 h2 =>
  let ⟨y, a, b, c, d⟩ := h fuel cs x h1 h2; ⟨y, hV _ _ a, b, c, hO _ d⟩
theorem weightsAll_mem {e : TypeId} : ∀ {ds : List (DataW H)} {d : DataW H}, d ∈ ds → ∀ n ∈ d.weights P e, n ∈ DataW.weightsAll P e ds
  | d' :: ds, d, h, n, hn => by
    simp only [DataW.weightsAll, List.mem_append]
    rcases List.mem_cons.1 h with rfl | h
    · exact .inl hn
    · exact .inr (weightsAll_mem h n hn)
theorem cells_mapM {W : World} {a : Addr} {n : Nat} {cs : List Value} (h : W.cells? 0 a n = some cs) : cs.length = n ∧ ∀ j v, cs[j]? = some v → W.cell? (a.add j) = some v := by
  unfold World.cells? at h
  rw [if_pos (Nat.zero_le _)] at h
  have hl := mapM_some_length h
  have hl : cs.length = n := by simpa using hl
  refine ⟨hl, fun j v hj => ?_⟩
  have hjn : j < n := by have := (List.getElem?_eq_some_iff.1 hj).1; omega
  have := mapM_some_get h j j (by simp [hjn])
  rw [this, hj]
/-! Structs: their fields, one behind the other. -/
def trodL (enc : TypeId × Value → H) (P : Program) (W : World) (held : Bool) (fuel : Nat) : List TypeId → List Value → List (DataW H × List MemPlace) → Prop
  | [], cs, xs => cs = [] ∧ xs = []
  | t :: ts, cs, xs => ∃ c1 c2 x r, cs = c1 ++ c2 ∧ xs = x :: r ∧ DataW.trod enc P W 0 (fun _ => true) held fuel t c1 = some x ∧ trodL enc P W held fuel ts c2 r
def laidF (P : Program) : Nat → List Field → Bool
  | _, [] => true
  | k, f :: fs => Nat.beq f.offset k && laidF P (k + P.cellsOf f.type) fs
def sumF (P : Program) : List Field → Nat
  | [] => 0
  | f :: fs => P.cellsOf f.type + sumF P fs
theorem trodL_of (fuel : Nat) : ∀ (fs : List Field) (k : Nat) (cs : List Value) (xs : List (DataW H × List MemPlace)), laidF P k fs = true → cs.length = k + sumF P fs → xs.length = fs.length →
    (∀ (i : Nat) (f : Field), fs[i]? = some f → DataW.trod enc P W 0 (fun _ => true) held fuel f.type ((cs.drop f.offset).take (P.cellsOf f.type)) = xs[i]?) → trodL enc P W held fuel (fs.map (·.type)) (cs.drop k) xs
  | [], k, cs, xs, _, hl, hx, _ => by
    have : xs = [] := List.eq_nil_of_length_eq_zero (by simpa using hx)
    exact ⟨by rw [List.drop_of_length_le (by simp [sumF] at hl; omega)], this⟩
  | f :: fs, k, cs, [], _, _, hx, _ => by simp at hx
  | f :: fs, k, cs, x :: xs, hlaid, hl, hx, h => by
    simp only [laidF, Bool.and_eq_true] at hlaid
    have hoff : f.offset = k := Nat.eq_of_beq_eq_true hlaid.1
    simp only [sumF] at hl
    have h0 := h 0 f rfl
    rw [hoff] at h0
    refine ⟨(cs.drop k).take (P.cellsOf f.type), (cs.drop k).drop (P.cellsOf f.type), x, xs, (List.take_append_drop _ _).symm, rfl, by simpa using h0, ?_⟩
    have := trodL_of fuel fs (k + P.cellsOf f.type) cs xs hlaid.2 (by omega) (by simpa using hx) (fun i g hg => by simpa using h (i + 1) g (by simpa using hg))
    rw [List.drop_drop]
    exact this
end
end Go.Proofs.YtbcnegennmpliaaDoor

namespace Go.Proofs.YtbcnegennmpliaaDoor
set_option linter.unusedVariables false
set_option linter.unusedSimpArgs false
open Go.RowKit Go.ChangeShapes Go.WideShapes Go.ChangeAt
class Mu (α : Type) where
  mu : α → Nat
instance : Mu Int := ⟨fun _ => 1⟩
instance : Mu Bool := ⟨fun _ => 1⟩
instance : Mu UInt8 := ⟨fun _ => 1⟩
instance {α β : Type} [Mu α] [Mu β] : Mu (α × β) := ⟨fun x => Mu.mu x.1 + Mu.mu x.2⟩
instance {α : Type} [Mu α] : Mu (List α) := ⟨fun l => (l.map Mu.mu).sum + 1⟩
theorem mu_pair {α β : Type} [Mu α] [Mu β] (x : α) (y : β) : Mu.mu (x, y) = Mu.mu x + Mu.mu y := rfl
theorem mu_list {α : Type} [Mu α] (l : List α) : Mu.mu l = (l.map Mu.mu).sum + 1 := rfl
theorem mu_bytes (l : List UInt8) : Mu.mu l = l.length + 1 := by
  have : ∀ l : List UInt8, (l.map Mu.mu).sum = l.length := by
    intro l
    induction l with
    | nil => rfl
    | cons x l ih =>
      simp only [List.map_cons, List.sum_cons, ih, List.length_cons]
      show 1 + _ = _
      omega
  rw [mu_list, this]
theorem bulk_one {H : Type} (d : DataW H) : 1 ≤ Rows.uptoBulk d := by
  cases d with
  | lit l => cases l <;> simp [Rows.uptoBulk]
  | nil => simp [Rows.uptoBulk]
  | ptr d => simp [Rows.uptoBulk]
  | slice elems spare => simp [Rows.uptoBulk]
  | agg parts => simp [Rows.uptoBulk]
  | iface t d => simp [Rows.uptoBulk]
  | map entries => simp [Rows.uptoBulk]
  | held h => simp [Rows.uptoBulk]
section
variable {H : Type} {enc : TypeId × Value → H} {P : Program} {W : World} {held : Bool} {α β : Type} [Mu α] [Mu β]
def OpensU (enc : TypeId × Value → H) (P : Program) (W : World) (held : Bool) (t : TypeId) (V : α → List Value → Prop) (Ok : α → Prop) : Prop :=
  ∀ fuel cs x, DataW.trod enc P W 0 (fun _ => true) held fuel t cs = some x → (∀ n ∈ x.1.weights P t, n ≤ reachBytes) → ∃ y, V y cs ∧ one cs ∧ cs.length = P.cellsOf t ∧ Ok y ∧ Mu.mu y ≤ Rows.uptoBulk x.1
theorem OpensU.mono {t : TypeId} {V V' : α → List Value → Prop} {Ok Ok' : α → Prop} (h : OpensU enc P W held t V Ok) (hV : ∀ x r, V x r → V' x r) (hO : ∀ x, Ok x → Ok' x) : OpensU enc P W held t V' Ok' := fun fuel cs x h1 h2 =>
  let ⟨y, a, b, c, d⟩ := h fuel cs x h1 h2; ⟨y, hV _ _ a, b, c, hO _ d.1, d.2⟩
theorem opensU_int {t : TypeId} {k : IntKind} (ht : P.underlying t = some (.int k)) (hc : P.cellsOf t = 1) : OpensU enc P W held t (fun x r => r = [.int k x]) (okI k) := by
  intro fuel cs x h _
  cases fuel with
  | zero => simp [DataW.trod] at h
  | succ n =>
    unfold DataW.trod at h
    rw [ht] at h
    split at h <;> simp_all
    rename_i k' m
    obtain ⟨rfl, h1⟩ := h.1
    refine ⟨one_of rfl, ?_, ?_⟩
    · simpa [Lit.wf, okI] using h1
    · first | exact bulk_one _ | (rw [← h.2]; exact bulk_one _)
theorem opensU_bool {t : TypeId} (ht : P.underlying t = some .bool) (hc : P.cellsOf t = 1) : OpensU enc P W held t (fun x r => r = [.bool x]) (fun _ => True) := by
  intro fuel cs x h _
  cases fuel with
  | zero => simp [DataW.trod] at h
  | succ n =>
    unfold DataW.trod at h
    rw [ht] at h
    split at h <;> simp_all
    exact ⟨one_of rfl, bulk_one _⟩
theorem opensU_str {t : TypeId} (ht : P.underlying t = some .string) (hc : P.cellsOf t = 1) : OpensU enc P W held t (fun x r => r = [str x]) (fun x => x.length ≤ reachBytes) := by
  intro fuel cs x h hw
  cases fuel with
  | zero => simp [DataW.trod] at h
  | succ n =>
    unfold DataW.trod at h
    rw [ht] at h
    split at h <;> simp_all
    rename_i s
    obtain ⟨h1, rfl⟩ := h
    refine ⟨s.data.toList, ?_, one_of rfl, ?_, ?_⟩
    · simp [str]
    · exact hw s.data.toList.length (by simp [DataW.weights])
    · rw [mu_bytes]; simp [Rows.uptoBulk]
theorem opensU_list {t e : TypeId} {n B : Nat} {V : α → List Value → Prop} {Ok : α → Prop} (ht : P.underlying t = some (.slice e)) (hn : P.cellsOf e = n) (hB : P.bytesOf e = B) (hct : P.cellsOf t = 1) (hel : OpensU enc P W held e V Ok) :
    OpensU enc P W held t (fun (xs : List α) r => ∃ a c, r = [.slice a xs.length c] ∧ RdV (heapF W) n V a xs ∧ xs.length ≤ c ∧ c ≤ maxLen) (fun xs => xs.length * B ≤ reachBytes ∧ ∀ y ∈ xs, Ok y) := by
  intro fuel cs x h hw
  rcases DataW.trod_slice ht h with ⟨hcs, _⟩ | ⟨a, len, cap, elems, rest, m, _, rfl, rfl, hb, hl, hm, hlen, he2, _, _⟩
  · exact ⟨[], ⟨none, 0, hcs, RdV.nil, Nat.le_refl _, Nat.zero_le _⟩, by rw [hcs]; exact one_of rfl, by rw [hcs, hct]; rfl, ⟨by simp, by simp⟩, by rw [mu_list]; exact bulk_one _⟩
  · subst hn
    have hsz : len * B ≤ reachBytes := by
      have := hw (((elems.map (·.1)).length + (rest.map (·.1)).length) * P.bytesOf e) (by simp [DataW.weights, ht])
      rw [hB] at this
      simp only [List.length_map, hlen] at this
      exact Nat.le_trans (Nat.mul_le_mul_right _ (Nat.le_add_right _ _)) this
    have each : ∀ i, i < len → ∃ y r, V y r ∧ one r ∧ r.length = P.cellsOf e ∧ (Ok y ∧ ∀ q, elems[i]? = some q → Mu.mu y ≤ Rows.uptoBulk q.1) ∧ ∀ j v, r[j]? = some v → W.cell? (a.add (i * P.cellsOf e + j)) = some v := by
      intro i hi
      have h1 := he2 i hi
      obtain ⟨q, hq⟩ : ∃ q, elems[i]? = some q := ⟨_, List.getElem?_eq_getElem (by omega)⟩
      rw [hq] at h1
      obtain ⟨r, hr, htr⟩ := Option.bind_eq_some_iff.1 h1
      obtain ⟨hrl, hrc⟩ := cells_mapM hr
      obtain ⟨y, v1, v2, v3, v4⟩ := hel _ r q htr (fun n hn => hw n (by
        simp only [DataW.weights, ht, List.mem_cons, List.mem_append]
        exact .inr (.inl (weightsAll_mem (List.mem_map_of_mem (List.mem_of_getElem? hq)) n hn))))
      refine ⟨y, r, v1, v2, hrl, ⟨v4.1, fun q' hq' => by rw [hq] at hq'; cases hq'; exact v4.2⟩, fun j v hj => ?_⟩
      have := hrc j v hj
      have hadd : (a.add (i * P.cellsOf e)).add j = a.add (i * P.cellsOf e + j) := by
        by_cases h1 : i * P.cellsOf e = 0 <;> by_cases h2 : j = 0 <;> simp [Addr.add, h1, h2, Nat.add_assoc]
      rwa [hadd] at this
    have build : ∀ d i, i + d = len → ∃ xs rs, ListV (P.cellsOf e) V xs rs ∧ xs.length = d ∧ ((∀ y ∈ xs, Ok y) ∧ (xs.map Mu.mu).sum ≤ Rows.uptoBulkAll ((elems.drop i).map (·.1))) ∧ ∀ j v, rs.flatten[j]? = some v → W.cell? (a.add (i * P.cellsOf e + j)) = some v := by
      intro d
      induction d with
      | zero => intro i hi; exact ⟨[], [], trivial, rfl, ⟨by simp, by simp⟩, by simp⟩
      | succ d ih =>
        intro i hi
        obtain ⟨y, r, v1, v2, v3, v4, v5⟩ := each i (by omega)
        obtain ⟨xs, rs, w1, w2, w3, w4⟩ := ih (i + 1) (by omega)
        refine ⟨y :: xs, r :: rs, ⟨⟨v3, v2, v1⟩, w1⟩, by simp [w2], ⟨?_, ?_⟩, fun j v hj => ?_⟩
        · intro z hz
          rcases List.mem_cons.1 hz with rfl | hz
          · exact v4.1
          · exact w3.1 z hz
        · obtain ⟨q, hq⟩ : ∃ q, elems[i]? = some q := ⟨_, List.getElem?_eq_getElem (by omega)⟩
          have h1 := v4.2 q hq
          have h2 := w3.2
          obtain ⟨hi', hq'⟩ := List.getElem?_eq_some_iff.1 hq
          rw [List.drop_eq_getElem_cons hi', hq']
          simp only [List.map_cons, List.sum_cons, Rows.uptoBulkAll]
          omega
        · simp only [List.flatten_cons] at hj
          by_cases hjl : j < r.length
          · rw [List.getElem?_append_left hjl] at hj; exact v5 j v hj
          · rw [List.getElem?_append_right (by omega)] at hj
            have := w4 _ v hj
            rw [v3, Nat.add_mul] at this
            have e1 : i * P.cellsOf e + 1 * P.cellsOf e + (j - P.cellsOf e) = i * P.cellsOf e + j := by omega
            rwa [e1] at this
    obtain ⟨xs, rs, w1, w2, w3, w4⟩ := build len 0 (by omega)
    refine ⟨xs, ⟨some a, cap, by rw [w2], ⟨rs, w1, rd_cells fun j v hj => ?_⟩, by rw [w2]; exact hl, hm⟩, one_of rfl, by rw [hct]; rfl, ⟨by rw [w2]; exact hsz, w3.1⟩, by have h2 := w3.2; simp only [List.drop_zero] at h2; rw [mu_list]; simp only [Rows.uptoBulk]; omega⟩
    have := w4 j v hj
    simpa using this
def OpensLU (enc : TypeId × Value → H) (P : Program) (W : World) (held : Bool) (ts : List TypeId) (V : α → List Value → Prop) (Ok : α → Prop) : Prop :=
  ∀ fuel cs xs, trodL enc P W held fuel ts cs xs → (∀ n ∈ DataW.weightsEach P ts (xs.map (·.1)), n ≤ reachBytes) → ∃ y, V y cs ∧ one cs ∧ Ok y ∧ Mu.mu y ≤ Rows.uptoBulkAll (xs.map (·.1))
theorem opensLU_one {t : TypeId} {V : α → List Value → Prop} {Ok : α → Prop} (h : OpensU enc P W held t V Ok) : OpensLU enc P W held [t] V Ok := by
  rintro fuel cs xs ⟨c1, c2, x, r, rfl, rfl, h1, rfl, rfl⟩ hw
  obtain ⟨y, a, b, c, d⟩ := h fuel c1 x h1 (fun n hn => hw n (by simp [DataW.weightsEach]; exact hn))
  exact ⟨y, by simpa using a, by simpa using b, d.1, by simp only [List.map_cons, List.map_nil, Rows.uptoBulkAll]; exact d.2⟩
theorem opensLU_cons {t : TypeId} {ts : List TypeId} {V : α → List Value → Prop} {Ok : α → Prop} {V2 : β → List Value → Prop} {Ok2 : β → Prop} (h : OpensU enc P W held t V Ok) (h2 : OpensLU enc P W held ts V2 Ok2) :
    OpensLU enc P W held (t :: ts) (fun (x : α × β) cs => ∃ c1 c2, cs = c1 ++ c2 ∧ V x.1 c1 ∧ V2 x.2 c2) (fun x => Ok x.1 ∧ Ok2 x.2) := by
  rintro fuel cs xs ⟨c1, c2, x, r, rfl, rfl, h1, h3⟩ hw
  obtain ⟨y, a, b, c, d⟩ := h fuel c1 x h1 (fun n hn => hw n (by simp only [List.map_cons, DataW.weightsEach, List.mem_append]; exact .inl hn))
  obtain ⟨z, a2, b2, d2⟩ := h2 fuel c2 r h3 (fun n hn => hw n (by simp only [List.map_cons, DataW.weightsEach, List.mem_append]; exact .inr hn))
  exact ⟨(y, z), ⟨c1, c2, rfl, a, a2⟩, one_append b b2, ⟨d.1, d2.1⟩, by have h4 := d.2; have h5 := d2.2; simp only [List.map_cons, Rows.uptoBulkAll, mu_pair]; omega⟩
theorem opensU_struct {t : TypeId} {fs : Array Field} {V : α → List Value → Prop} {Ok : α → Prop} (ht : P.underlying t = some (.struct fs)) (hlaid : laidF P 0 fs.toList = true) (hsum : sumF P fs.toList = P.cellsOf t) {ts : List TypeId} (hts : fs.toList.map (·.type) = ts) (h : OpensLU enc P W held ts V Ok) : OpensU enc P W held t V Ok := by
  intro fuel cs x hx hw
  obtain ⟨xs, n, rfl, rfl, hl, hxl, hf⟩ := DataW.trod_struct ht hx
  have := trodL_of n fs.toList 0 cs xs hlaid (by rw [hl]; omega) (by simpa using hxl) (fun i f hi => hf i f (by simpa using hi))
  rw [hts] at this
  obtain ⟨y, a, b, c⟩ := h n cs xs (by simpa using this) (fun n hn => hw n (by simp only [DataW.weights, ht, hts]; exact hn))
  exact ⟨y, a, b, hl, c.1, by have h4 := c.2; simp only [Rows.uptoBulk]; omega⟩
end
end Go.Proofs.YtbcnegennmpliaaDoor

namespace Go.Proofs.YtbcnegennmpliaaDoor
set_option linter.unusedVariables false
set_option linter.unusedSimpArgs false
open Go.RowKit
abbrev okN (n : Int) : Prop := -9223372036854775808 ≤ n ∧ n ≤ 9223372036854775807
def numsW (l : List Int) : List UInt8 := l.flatMap fun n => [32] ++ Lib.itoa n
theorem numbers_l0 (l : List Int) (hl : ∀ n, n ∈ l → okN n) (hn : l.length ≤ 5) : ∀ (k i : Nat) (w : List UInt8), l.length - i < k → i ≤ l.length → w.length ≤ 2 ^ 40 + i * 100 →
    text_numbers.l0 l k w (i : Int) = some (w ++ numsW (l.drop i))
  | 0, i, w, h, _, _ => by omega
  | k + 1, i, w, h, hi, hw => by
    rw [text_numbers.l0]
    by_cases hlt : i < l.length
    · have hm : l.getD i 0 ∈ l := by rw [getD_at hlt]; exact List.getElem_mem hlt
      have ho := hl _ hm
      have il := itoa_len ho.1 ho.2
      have ed : l.drop i = l.getD i 0 :: l.drop (i + 1) := by rw [getD_at hlt]; exact List.drop_eq_getElem_cons hlt
      rw [if_pos (by omega), if_pos (by omega), wi1 (by omega), ed]
      simp only [Int.toNat_natCast]
      rw [strconv_Itoa.f, if_pos ho, Option.bind_some, if_pos (by simp only [List.length_cons, List.length_nil]; omega), if_pos (by simp only [List.length_append, List.length_cons, List.length_nil]; omega),
        numbers_l0 l hl hn k (i + 1) _ (by omega) (by omega) (by simp only [List.length_append, List.length_cons, List.length_nil]; omega)]
      simp [numsW]
    · rw [if_neg (by omega), List.drop_of_length_le (by omega)]
      simp [numsW]
theorem numbers_f (w : List UInt8) (l : List Int) (hl : ∀ n, n ∈ l → okN n) (hn : l.length ≤ 5) (hw : w.length ≤ 2 ^ 40) {k : Nat} (hk : 10 < k) : text_numbers.f k w l = some (w ++ numsW l) := by
  unfold text_numbers.f
  have := numbers_l0 l hl hn k 0 w (by omega) (by omega) (by omega)
  rw [show ((0 : Nat) : Int) = (0 : Int) from rfl] at this
  rw [this]
  rfl
theorem numsW_len (l : List Int) (hl : ∀ n, n ∈ l → okN n) : (numsW l).length ≤ l.length * 22 := by
  induction l with
  | nil => simp [numsW]
  | cons n l ih =>
    have := ih fun m hm => hl m (by simp [hm])
    have ho := hl n (by simp)
    have := itoa_len ho.1 ho.2
    unfold numsW at *
    rw [List.flatMap_cons, List.length_append, List.length_append, List.length_cons, List.length_nil, List.length_cons]
    omega
abbrev codesL : List (List UInt8) := [[100, 111, 110, 101], [110, 111, 110, 101], [111, 116, 104, 101, 114], [111, 108, 100], [102, 117, 108, 108], [108, 101, 97, 100], [98, 117, 115, 121], [108, 111, 115, 116], [108, 105, 109, 105, 116], [100, 111, 119, 110]]
abbrev kindsL : List (List UInt8) := [[103, 101, 116], [112, 117, 116], [100, 101, 108, 101, 116, 101], [115, 119, 97, 112]]
def atW (l : List (List UInt8)) (n : Int) : List UInt8 := if 1 ≤ n ∧ n ≤ l.length then l.getD (n - 1).toNat [] else [63]
theorem at_f (l : List (List UInt8)) (n : Int) (hl : l.length < 100) : text_at.f l n = some (atW l n) := by
  unfold text_at.f atW
  by_cases h : 1 ≤ n ∧ n ≤ l.length
  · rw [if_neg (by simp; omega), w64 (by omega) (by omega), if_pos (by omega), if_pos h]
  · rw [if_pos (by simp; omega), if_neg h]
theorem atD_f (l : List (List UInt8)) (n : Int) (m : Int) (hm : m = l.length) (hl : l.length < 100) : (if ((decide ((1 : Int) ≤ n)) && (decide (n ≤ m))) = true then (if 0 ≤ IntKind.i64.wrap (n - 1) ∧ IntKind.i64.wrap (n - 1) < (l.length : Int) then (some (l.getD (IntKind.i64.wrap (n - 1)).toNat ([] : List UInt8))) else none) else (some ([63] : List UInt8))) = some (atW l n) := by
  subst hm
  unfold atW
  by_cases h : 1 ≤ n ∧ n ≤ l.length
  · rw [if_pos (by simp; omega), w64 (by omega) (by omega), if_pos (by omega), if_pos h]
  · rw [if_neg (by simp; omega), if_neg h]
theorem at_len {l : List (List UInt8)} (n : Int) (h : (l.all fun w => decide (w.length ≤ 10)) = true) : (atW l n).length ≤ 10 := by
  unfold atW
  split
  · rename_i hn
    have hi : (n - 1).toNat < l.length := by omega
    rw [getD_at hi]
    exact of_decide_eq_true (List.all_eq_true.1 h _ (List.getElem_mem hi))
  · simp
def replyW (c : Int) (v : List UInt8) : List UInt8 := atW codesL c ++ if v = [] then [] else [32] ++ quoteB v
theorem reply_len (c : Int) (v : List UInt8) : (replyW c v).length ≤ 4 * v.length + 20 := by
  have := at_len (l := codesL) c (by decide)
  have := quote_len v
  unfold replyW
  split
  · simp; omega
  · simp only [List.length_append, List.length_cons, List.length_nil]; omega
theorem reply_f (c : Int) {v : List UInt8} (hv : v.length ≤ 2 ^ 21) {k : Nat} (hk : 2 ^ 21 + 20 < k) : text_Reply.f k c v = some (replyW c v) := by
  have := at_len (l := codesL) c (by decide)
  have := quote_len v
  unfold text_Reply.f replyW
  rw [show text_codes.f = some codesL from rfl, Option.bind_some, at_f _ _ (by decide), Option.bind_some]
  by_cases h : v = []
  · rw [if_pos h, if_pos h]; simp
  · rw [if_neg h, if_neg h, quote_f (by omega) (by omega), Option.bind_some, if_pos (by simp only [List.length_cons, List.length_nil]; omega), if_pos (by simp only [List.length_append, List.length_cons, List.length_nil]; omega)]
    simp
theorem replyD_f (c : Int) {v : List UInt8} (hv : v.length ≤ 2 ^ 21) {k : Nat} (hk : 2 ^ 21 + 20 < k) : synodref17_Reply.f k c v = some (replyW c v) := by
  have := at_len (l := codesL) c (by decide)
  have := quote_len v
  unfold synodref17_Reply.f replyW
  have e := atD_f codesL c 10 (by decide) (by decide)
  rw [e, Option.bind_some]
  by_cases h : v = []
  · rw [if_pos h, if_pos h]; simp
  · rw [if_neg h, if_neg h, if_pos (by simp only [List.length_cons, List.length_nil]; omega), quoteD_f (by omega) (by omega), Option.bind_some, if_pos (by simp only [List.length_append, List.length_cons, List.length_nil]; omega)]
    simp
def eventW (e : Ty78) : List UInt8 :=
  if e.1 = 1 then [115, 101, 110, 100] ++ numsW [e.2.1, e.2.2.2.1]
  else if e.1 = 2 then [115, 121, 110, 99] ++ numsW [e.2.1, e.2.2.2.1]
  else if e.1 = 3 then [97, 112, 112, 108, 121] ++ numsW [e.2.1, e.2.2.2.1]
  else if e.1 = 5 then [115, 110, 97, 112] ++ numsW [e.2.1, e.2.2.2.1]
  else if e.1 = 6 then [100, 111, 119, 110] ++ numsW [e.2.1]
  else if e.1 = 7 then [101, 110, 100] ++ numsW [e.2.1, e.2.2.2.1]
  else if e.1 = 8 then ([98, 97, 99, 107] ++ numsW [e.2.2.1, e.2.1] ++ [32]) ++ replyW e.2.2.2.2.1 e.2.2.2.2.2
  else [63]
structure EvOk (e : Ty78) : Prop where
  node : okN e.2.1
  cl : okN e.2.2.1
  num : okN e.2.2.2.1
  val : e.2.2.2.2.2.length ≤ 2 ^ 21
theorem event_f {e : Ty78} (ok : EvOk e) {k : Nat} (hk : 2 ^ 21 + 20 < k) : text_FormatEvent.f k e.1 e.2.1 e.2.2.1 e.2.2.2.1 e.2.2.2.2.1 e.2.2.2.2.2 = some (eventW e) := by
  have n2 : ∀ n, n ∈ [e.2.1, e.2.2.2.1] → okN n := fun n h => by rcases List.mem_cons.1 h with rfl | h; exact ok.node; rw [List.mem_singleton.1 h]; exact ok.num
  have n1 : ∀ n, n ∈ [e.2.1] → okN n := fun n h => by rw [List.mem_singleton.1 h]; exact ok.node
  have nb : ∀ n, n ∈ [e.2.2.1, e.2.1] → okN n := fun n h => by rcases List.mem_cons.1 h with rfl | h; exact ok.cl; rw [List.mem_singleton.1 h]; exact ok.node
  unfold text_FormatEvent.f eventW
  rw [numbers_f _ _ n2 (by simp) (by simp) (by omega), numbers_f _ _ n2 (by simp) (by simp) (by omega), numbers_f _ _ n2 (by simp) (by simp) (by omega), numbers_f _ _ n2 (by simp) (by simp) (by omega), numbers_f _ _ n1 (by simp) (by simp) (by omega), numbers_f _ _ n2 (by simp) (by simp) (by omega), numbers_f _ _ nb (by simp) (by simp) (by omega)]
  have l1 := numsW_len _ nb
  have l2 := reply_len e.2.2.2.2.1 e.2.2.2.2.2
  have ov := ok.val
  simp only [Option.bind_some, reply_f _ ok.val hk]
  simp only [List.length_cons, List.length_nil] at l1
  split
  · rfl
  split
  · rfl
  split
  · rfl
  split
  · rfl
  split
  · rfl
  split
  · rfl
  split
  · rw [if_pos (by simp only [List.length_append, List.length_cons, List.length_nil]; omega), if_pos (by simp only [List.length_append, List.length_cons, List.length_nil]; omega)]
  · rfl
theorem eventD_f {e : Ty78} (ok : EvOk e) {k : Nat} (hk : 2 ^ 21 + 20 < k) : synodref17_FormatEvent.f k e.1 e.2.1 e.2.2.1 e.2.2.2.1 e.2.2.2.2.1 e.2.2.2.2.2 = some (eventW e) := by
  have i1 := itoa_len ok.node.1 ok.node.2
  have i2 := itoa_len ok.num.1 ok.num.2
  have i3 := itoa_len ok.cl.1 ok.cl.2
  have l2 := reply_len e.2.2.2.2.1 e.2.2.2.2.2
  have ov := ok.val
  unfold synodref17_FormatEvent.f eventW
  rw [strconv_Itoa.f, if_pos ok.node, Option.bind_some, strconv_Itoa.f, if_pos ok.num, Option.bind_some, strconv_Itoa.f, if_pos ok.cl, Option.bind_some, if_pos (by simp only [List.length_cons, List.length_nil]; omega), replyD_f _ ok.val hk]
  simp only [Option.bind_some]
  have hl : ∀ (w : List UInt8) (m : Nat), w.length ≤ 2 ^ 40 → m ≤ 2 ^ 40 → w.length + m ≤ 9223372036854775807 := fun w m h1 h2 => by omega
  by_cases h1 : e.1 = 1
  · rw [if_pos h1, if_pos h1, if_pos (by simp only [List.length_append, List.length_cons, List.length_nil]; omega), if_pos (by simp only [List.length_append, List.length_cons, List.length_nil]; omega)]
    simp only [numsW, List.flatMap_cons, List.flatMap_nil, List.append_assoc, List.cons_append, List.nil_append, List.append_nil]
  rw [if_neg h1, if_neg h1]
  by_cases h2 : e.1 = 2
  · rw [if_pos h2, if_pos h2, if_pos (by simp only [List.length_append, List.length_cons, List.length_nil]; omega), if_pos (by simp only [List.length_append, List.length_cons, List.length_nil]; omega)]
    simp only [numsW, List.flatMap_cons, List.flatMap_nil, List.append_assoc, List.cons_append, List.nil_append, List.append_nil]
  rw [if_neg h2, if_neg h2]
  by_cases h3 : e.1 = 3
  · rw [if_pos h3, if_pos h3, if_pos (by simp only [List.length_append, List.length_cons, List.length_nil]; omega), if_pos (by simp only [List.length_append, List.length_cons, List.length_nil]; omega)]
    simp only [numsW, List.flatMap_cons, List.flatMap_nil, List.append_assoc, List.cons_append, List.nil_append, List.append_nil]
  rw [if_neg h3, if_neg h3]
  by_cases h5 : e.1 = 5
  · rw [if_pos h5, if_pos h5, if_pos (by simp only [List.length_append, List.length_cons, List.length_nil]; omega), if_pos (by simp only [List.length_append, List.length_cons, List.length_nil]; omega)]
    simp only [numsW, List.flatMap_cons, List.flatMap_nil, List.append_assoc, List.cons_append, List.nil_append, List.append_nil]
  rw [if_neg h5, if_neg h5]
  by_cases h6 : e.1 = 6
  · rw [if_pos h6, if_pos h6, if_pos (by simp only [List.length_append, List.length_cons, List.length_nil]; omega)]
    simp only [numsW, List.flatMap_cons, List.flatMap_nil, List.append_assoc, List.cons_append, List.nil_append, List.append_nil]
  rw [if_neg h6, if_neg h6]
  by_cases h7 : e.1 = 7
  · rw [if_pos h7, if_pos h7, if_pos (by simp only [List.length_append, List.length_cons, List.length_nil]; omega), if_pos (by simp only [List.length_append, List.length_cons, List.length_nil]; omega)]
    simp only [numsW, List.flatMap_cons, List.flatMap_nil, List.append_assoc, List.cons_append, List.nil_append, List.append_nil]
  rw [if_neg h7, if_neg h7]
  by_cases h8 : e.1 = 8
  · rw [if_pos h8, if_pos h8, if_pos (by simp only [List.length_append, List.length_cons, List.length_nil]; omega), if_pos (by simp only [List.length_append, List.length_cons, List.length_nil]; omega), if_pos (by simp only [List.length_append, List.length_cons, List.length_nil]; omega), if_pos (by simp only [List.length_append, List.length_cons, List.length_nil]; omega), if_pos (by simp only [List.length_append, List.length_cons, List.length_nil]; omega)]
    simp only [numsW, List.flatMap_cons, List.flatMap_nil, List.append_assoc, List.cons_append, List.nil_append, List.append_nil]
  rw [if_neg h8, if_neg h8]
end Go.Proofs.YtbcnegennmpliaaDoor

namespace Go.Proofs.YtbcnegennmpliaaDoor
set_option linter.unusedVariables false
set_option linter.unusedSimpArgs false
open Go.RowKit
theorem told_l0 {x : List Ty78} (hx : ∀ e, e ∈ x → EvOk e) (hn : x.length ≤ 200) : ∀ (k i : Nat) (out : List (List UInt8)), x.length - i + 2 ^ 21 + 30 < k → i ≤ x.length → out.length ≤ i + 1 →
    text_FormatTold.l0 x k out (i : Int) = some (out ++ (x.drop i).map eventW)
  | 0, i, out, h, _, _ => by omega
  | k + 1, i, out, h, hi, ho => by
    rw [text_FormatTold.l0]
    by_cases hlt : i < x.length
    · have hm : x.getD i dz78 ∈ x := by rw [getD_at hlt]; exact List.getElem_mem hlt
      have ed : x.drop i = x.getD i dz78 :: x.drop (i + 1) := by rw [getD_at hlt]; exact List.drop_eq_getElem_cons hlt
      rw [if_pos (by omega), if_pos (by omega), wi1 (by omega), ed]
      simp only [Int.toNat_natCast]
      rw [event_f (hx _ hm) (by omega), Option.bind_some, if_pos (by simp only [List.length_cons, List.length_nil]; omega), told_l0 hx hn k (i + 1) _ (by omega) (by omega) (by simp only [List.length_append, List.length_cons, List.length_nil]; omega)]
      simp
    · rw [if_neg (by omega), List.drop_of_length_le (by omega)]; simp
theorem toldD_l0 {x : List Ty78} (hx : ∀ e, e ∈ x → EvOk e) (hn : x.length ≤ 200) : ∀ (k i : Nat) (out : List (List UInt8)), x.length - i + 2 ^ 21 + 30 < k → i ≤ x.length → out.length ≤ i + 1 →
    synodref17_FormatTold.l0 x k out (i : Int) = some (out ++ (x.drop i).map eventW)
  | 0, i, out, h, _, _ => by omega
  | k + 1, i, out, h, hi, ho => by
    rw [synodref17_FormatTold.l0]
    by_cases hlt : i < x.length
    · have hm : x.getD i dz78 ∈ x := by rw [getD_at hlt]; exact List.getElem_mem hlt
      have ed : x.drop i = x.getD i dz78 :: x.drop (i + 1) := by rw [getD_at hlt]; exact List.drop_eq_getElem_cons hlt
      rw [if_pos (by omega), if_pos (by omega), wi1 (by omega), ed]
      simp only [Int.toNat_natCast]
      rw [eventD_f (hx _ hm) (by omega), Option.bind_some, if_pos (by simp only [List.length_cons, List.length_nil]; omega), toldD_l0 hx hn k (i + 1) _ (by omega) (by omega) (by simp only [List.length_append, List.length_cons, List.length_nil]; omega)]
      simp
    · rw [if_neg (by omega), List.drop_of_length_le (by omega)]; simp
def toldW (err : Int) (did : Bool) (x : List Ty78) : List (List UInt8) := (if err = 0 then (if did = true then [111, 107] else [110, 111]) else [101, 114, 114, 32] ++ Lib.itoa err) :: x.map eventW
theorem told_f {err : Int} (he : okN err) (did : Bool) {x : List Ty78} (hx : ∀ e, e ∈ x → EvOk e) (hn : x.length ≤ 200) {k : Nat} (hk : 2 ^ 21 + 300 < k) : text_FormatTold.f k err did x = some (toldW err did x) := by
  unfold text_FormatTold.f toldW
  have e1 : (if did = true then (some ([111, 107] : List UInt8)) else (some [110, 111])) = some (if did = true then [111, 107] else [110, 111]) := by cases did <;> rfl
  have l0 := fun out (h : out.length ≤ 0 + 1) => told_l0 hx hn k 0 out (by omega) (by omega) h
  rw [show ((0 : Nat) : Int) = (0 : Int) from rfl] at l0
  rw [e1, Option.bind_some]
  by_cases h0 : err = 0
  · rw [if_pos h0, Option.bind_some, l0 _ (by simp), Option.bind_some, if_pos h0]; rfl
  · rw [if_neg h0, numbers_f _ [err] (fun n h => by rw [List.mem_singleton.1 h]; exact he) (by simp) (by simp) (by omega), Option.bind_some, Option.bind_some, l0 _ (by simp), Option.bind_some, if_neg h0]
    simp [numsW]
theorem toldD_f {err : Int} (he : okN err) (did : Bool) {x : List Ty78} (hx : ∀ e, e ∈ x → EvOk e) (hn : x.length ≤ 200) {k : Nat} (hk : 2 ^ 21 + 300 < k) : synodref17_FormatTold.f k err did x = some (toldW err did x) := by
  unfold synodref17_FormatTold.f toldW
  have il := itoa_len he.1 he.2
  have l0 := fun out (h : out.length ≤ 0 + 1) => toldD_l0 hx hn k 0 out (by omega) (by omega) h
  rw [show ((0 : Nat) : Int) = (0 : Int) from rfl] at l0
  by_cases h0 : err = 0
  · rw [if_pos h0, if_pos h0]
    cases did with
    | true => rw [if_pos rfl, if_pos (by simp), Option.bind_some, l0 _ (by simp)]; rfl
    | false => rw [if_neg (by simp), Option.bind_some, l0 _ (by simp)]; rfl
  · rw [if_neg h0, strconv_Itoa.f, if_pos he, Option.bind_some, if_pos (by simp only [List.length_cons, List.length_nil]; omega), if_pos (by simp), Option.bind_some, l0 _ (by simp), if_neg h0]
    rfl
def txW (l : List (List UInt8)) : List UInt8 := l.flatMap fun s => [32] ++ quoteB s
def opW (c s q : Int) (ky v o : List UInt8) (cl b cd : Int) (rv : List UInt8) : List UInt8 :=
  Lib.itoa c ++ ([32] ++ (Lib.itoa s ++ ([32] ++ (atW kindsL q ++ (txW [ky, v, o] ++ (if b = 0 then numsW [cl] ++ [32, 111, 112, 101, 110] else numsW [cl, b] ++ ([32] ++ replyW cd rv)))))))
theorem op_l0 (a b c : List UInt8) (ha : a.length ≤ 2 ^ 21) (hb : b.length ≤ 2 ^ 21) (hc : c.length ≤ 2 ^ 21) : ∀ (k i : Nat) (w : List UInt8), 2 ^ 21 + 10 - i < k → i ≤ 3 → w.length ≤ 2 ^ 20 + i * 2 ^ 30 →
    text_FormatOp.l0 a b c k w (i : Int) = some (w ++ txW ([a, b, c].drop i))
  | 0, i, w, h, _, _ => by omega
  | k + 1, i, w, h, hi, hw => by
    rw [text_FormatOp.l0]
    have hl : [a, b, c].length = 3 := rfl
    by_cases hlt : i < 3
    · have hm : ([a, b, c].getD i []).length ≤ 2 ^ 21 := by
        have : i = 0 ∨ i = 1 ∨ i = 2 := by omega
        rcases this with rfl | rfl | rfl <;> assumption
      have ql := quote_len ([a, b, c].getD i [])
      have ed : [a, b, c].drop i = [a, b, c].getD i [] :: [a, b, c].drop (i + 1) := by rw [getD_at (by omega)]; exact List.drop_eq_getElem_cons (by omega)
      rw [hl, if_pos (by omega), if_pos (by omega), wi1 (by omega), ed]
      simp only [Int.toNat_natCast]
      rw [quote_f (by omega) (by omega), Option.bind_some, if_pos (by simp only [List.length_cons, List.length_nil]; omega), if_pos (by simp only [List.length_append, List.length_cons, List.length_nil]; omega),
        op_l0 a b c ha hb hc k (i + 1) _ (by omega) (by omega) (by simp only [List.length_append, List.length_cons, List.length_nil]; omega)]
      simp [txW]
    · rw [hl, if_neg (by omega), List.drop_of_length_le (by omega)]; simp [txW]
theorem tx_len {a b c : List UInt8} (ha : a.length ≤ 2 ^ 21) (hb : b.length ≤ 2 ^ 21) (hc : c.length ≤ 2 ^ 21) : (txW [a, b, c]).length ≤ 2 ^ 25 := by
  have := quote_len a
  have := quote_len b
  have := quote_len c
  simp only [txW, List.flatMap_cons, List.flatMap_nil, List.length_append, List.length_cons, List.length_nil]; omega
theorem op_f {c s q : Int} {ky v o : List UInt8} {cl b cd : Int} {rv : List UInt8} (h1 : okN c) (h2 : okN s) (h3 : okN cl) (h4 : okN b) (t1 : ky.length ≤ 2 ^ 21) (t2 : v.length ≤ 2 ^ 21) (t3 : o.length ≤ 2 ^ 21) (t4 : rv.length ≤ 2 ^ 21) {k : Nat} (hk : 2 ^ 21 + 300 < k) :
    text_FormatOp.f k c s q ky v o cl b cd rv = some (opW c s q ky v o cl b cd rv) := by
  have i1 := itoa_len h1.1 h1.2
  have i2 := itoa_len h2.1 h2.2
  have al := at_len (l := kindsL) q (by decide)
  have tl := tx_len t1 t2 t3
  have rl := reply_len cd rv
  have l0 := fun w h => op_l0 ky v o t1 t2 t3 k 0 w (by omega) (by omega) h
  rw [show ((0 : Nat) : Int) = (0 : Int) from rfl, List.drop_zero] at l0
  have m1 : ∀ n, n ∈ [cl] → okN n := fun n h => by rw [List.mem_singleton.1 h]; exact h3
  have m2 : ∀ n, n ∈ [cl, b] → okN n := fun n h => by rcases List.mem_cons.1 h with rfl | h; exact h3; rw [List.mem_singleton.1 h]; exact h4
  have n1 := numsW_len _ m1
  have n2 := numsW_len _ m2
  simp only [List.length_cons, List.length_nil] at n1 n2
  unfold text_FormatOp.f
  rw [strconv_Itoa.f, if_pos h1, Option.bind_some, if_pos (by simp only [List.length_cons, List.length_nil]; omega), strconv_Itoa.f, if_pos h2, Option.bind_some, if_pos (by simp only [List.length_append, List.length_cons, List.length_nil]; omega), if_pos (by simp only [List.length_append, List.length_cons, List.length_nil]; omega),
    at_f kindsL q (by decide), Option.bind_some, if_pos (by simp only [List.length_append, List.length_cons, List.length_nil]; omega), l0 _ (by simp only [List.length_append, List.length_cons, List.length_nil]; omega), Option.bind_some]
  unfold opW
  by_cases hb : b = 0
  · rw [if_pos hb, if_pos hb, numbers_f _ _ m1 (by simp) (by simp only [List.length_append, List.length_cons, List.length_nil]; omega) (by omega), Option.bind_some, if_pos (by simp only [List.length_append, List.length_cons, List.length_nil]; omega)]
    simp only [List.append_assoc]
  · rw [if_neg hb, if_neg hb, numbers_f _ _ m2 (by simp) (by simp only [List.length_append, List.length_cons, List.length_nil]; omega) (by omega), Option.bind_some, if_pos (by simp only [List.length_append, List.length_cons, List.length_nil]; omega), reply_f _ t4 (by omega), Option.bind_some, if_pos (by simp only [List.length_append, List.length_cons, List.length_nil]; omega)]
    simp only [List.append_assoc]
theorem opD_f {c s q : Int} {ky v o : List UInt8} {cl b cd : Int} {rv : List UInt8} (h1 : okN c) (h2 : okN s) (h3 : okN cl) (h4 : okN b) (t1 : ky.length ≤ 2 ^ 21) (t2 : v.length ≤ 2 ^ 21) (t3 : o.length ≤ 2 ^ 21) (t4 : rv.length ≤ 2 ^ 21) {k : Nat} (hk : 2 ^ 21 + 300 < k) :
    synodref17_FormatOp.f k c s q ky v o cl b cd rv = some (opW c s q ky v o cl b cd rv) := by
  have i1 := itoa_len h1.1 h1.2
  have i2 := itoa_len h2.1 h2.2
  have i3 := itoa_len h3.1 h3.2
  have i4 := itoa_len h4.1 h4.2
  have al := at_len (l := kindsL) q (by decide)
  have q1 := quote_len ky
  have q2 := quote_len v
  have q3 := quote_len o
  have rl := reply_len cd rv
  unfold synodref17_FormatOp.f
  have e := atD_f kindsL q 4 (by decide) (by decide)
  rw [e, Option.bind_some, strconv_Itoa.f, if_pos h1, Option.bind_some, if_pos (by simp only [List.length_cons, List.length_nil]; omega), strconv_Itoa.f, if_pos h2, Option.bind_some]
  rw [if_pos (by simp only [List.length_append, List.length_cons, List.length_nil]; omega), if_pos (by simp only [List.length_append, List.length_cons, List.length_nil]; omega), if_pos (by simp only [List.length_append, List.length_cons, List.length_nil]; omega), if_pos (by simp only [List.length_append, List.length_cons, List.length_nil]; omega), quoteD_f (by omega) (by omega), Option.bind_some]
  rw [if_pos (by simp only [List.length_append, List.length_cons, List.length_nil]; omega), if_pos (by simp only [List.length_append, List.length_cons, List.length_nil]; omega), quoteD_f (by omega) (by omega), Option.bind_some]
  rw [if_pos (by simp only [List.length_append, List.length_cons, List.length_nil]; omega), if_pos (by simp only [List.length_append, List.length_cons, List.length_nil]; omega), quoteD_f (by omega) (by omega), Option.bind_some]
  rw [if_pos (by simp only [List.length_append, List.length_cons, List.length_nil]; omega), if_pos (by simp only [List.length_append, List.length_cons, List.length_nil]; omega), strconv_Itoa.f, if_pos h3, Option.bind_some, if_pos (by simp only [List.length_append, List.length_cons, List.length_nil]; omega)]
  unfold opW
  by_cases hb : b = 0
  · rw [if_pos hb, if_pos hb, if_pos (by simp only [List.length_append, List.length_cons, List.length_nil]; omega)]
    simp only [txW, numsW, List.flatMap_cons, List.flatMap_nil, List.append_assoc, List.append_nil]
  · rw [if_neg hb, if_neg hb, if_pos (by simp only [List.length_append, List.length_cons, List.length_nil]; omega), strconv_Itoa.f, if_pos h4, Option.bind_some, if_pos (by simp only [List.length_append, List.length_cons, List.length_nil]; omega), if_pos (by simp only [List.length_append, List.length_cons, List.length_nil]; omega), replyD_f _ t4 (by omega), Option.bind_some, if_pos (by simp only [List.length_append, List.length_cons, List.length_nil]; omega)]
    simp only [txW, numsW, List.flatMap_cons, List.flatMap_nil, List.append_assoc, List.append_nil]
theorem te_l0 {x : List Ty78} (hx : ∀ e, e ∈ x → EvOk e) (hn : x.length < 2 ^ 30) : ∀ (k i : Nat) (z : Int), x.length - i < k → i ≤ x.length → 0 ≤ z → z ≤ 40000 → ∃ v, synodlaw17_TextEvents.l0 x k z (i : Int) = some v
  | 0, i, z, h, _, _, _ => by omega
  | k + 1, i, z, h, hi, h0, h1 => by
    rw [synodlaw17_TextEvents.l0]
    by_cases hc : ((decide ((i : Int) < (x.length : Int))) && (decide ((i : Int) < (200 : Int)))) = true
    · rw [if_pos hc]
      simp only [Bool.and_eq_true, decide_eq_true_eq] at hc
      rw [if_pos (by omega), wi1 (by omega)]
      exact te_l0 hx hn k (i + 1) _ (by omega) (by omega) (by
        simp only [Int.toNat_natCast]
        rw [w64 (by omega) (by omega)]
        omega) (by omega)
    · rw [if_neg hc]; exact ⟨_, rfl⟩
theorem te_l1 {x : List Ty78} (hx : ∀ e, e ∈ x → EvOk e) (hn : x.length ≤ 200) : ∀ (k i : Nat) (z : List Ty78), x.length - i + 2 ^ 21 + 30 < k → i ≤ x.length → z.length ≤ i → synodlaw17_TextEvents.l1 x k (i : Int) z = some (.inl (z ++ x.drop i))
  | 0, i, z, h, _, _ => by omega
  | k + 1, i, z, h, hi, hz => by
    rw [synodlaw17_TextEvents.l1]
    by_cases hlt : i < x.length
    · have hm : x.getD i dz78 ∈ x := by rw [getD_at hlt]; exact List.getElem_mem hlt
      have ed : x.drop i = x.getD i dz78 :: x.drop (i + 1) := by rw [getD_at hlt]; exact List.drop_eq_getElem_cons hlt
      have ok := hx _ hm
      rw [if_pos (by omega), if_pos (by omega), if_pos (by simp only [List.length_cons, List.length_nil]; omega), wi1 (by omega), ed]
      simp only [Int.toNat_natCast]
      rw [event_f ok (by omega), Option.bind_some, eventD_f ok (by omega), Option.bind_some, reply_f _ ok.val (by omega), replyD_f _ ok.val (by omega)]
      simp only [decide_true, Bool.not_true, beq_self_eq_true, if_true, Option.bind_some, Bool.false_or, Bool.false_eq_true, if_false]
      rw [te_l1 hx hn k (i + 1) _ (by omega) (by omega) (by simp only [List.length_append, List.length_cons, List.length_nil]; omega)]
      simp
    · rw [if_neg (by omega), List.drop_of_length_le (by omega)]; simp
theorem mu_mem {α : Type} [Mu α] : ∀ (l : List α) (a : α), a ∈ l → Mu.mu a ≤ (l.map Mu.mu).sum
  | b :: l, a, h => by
    rw [List.map_cons, List.sum_cons]
    rcases List.mem_cons.1 h with rfl | h
    · omega
    · have := mu_mem l a h; omega
theorem mu_len {α : Type} [Mu α] (hp : ∀ a : α, 1 ≤ Mu.mu a) : ∀ l : List α, l.length ≤ (l.map Mu.mu).sum
  | [] => by simp
  | a :: l => by
    have := mu_len hp l
    have := hp a
    rw [List.map_cons, List.sum_cons, List.length_cons]; omega
theorem mu_ev (e : Ty78) : Mu.mu e = Mu.mu e.1 + (Mu.mu e.2.1 + (Mu.mu e.2.2.1 + (Mu.mu e.2.2.2.1 + (Mu.mu e.2.2.2.2.1 + (e.2.2.2.2.2.length + 1))))) := by rw [← mu_bytes]; rfl
theorem pure_TextEvents (e0 : Int) (d : Bool) (evs : List Ty78)
    (hA : okI .i64 e0 ∧ True ∧ (evs.length * 56 ≤ reachBytes ∧ ∀ e ∈ evs, okI .i64 e.1 ∧ okI .i64 e.2.1 ∧ okI .i64 e.2.2.1 ∧ okI .i64 e.2.2.2.1 ∧ okI .i64 e.2.2.2.2.1 ∧ e.2.2.2.2.2.length ≤ reachBytes))
    (c s q : Int) (ky v o : List UInt8) (cl b cd : Int) (rv : List UInt8)
    (hB : okI .i64 c ∧ okI .i64 s ∧ okI .i64 q ∧ ky.length ≤ reachBytes ∧ v.length ≤ reachBytes ∧ o.length ≤ reachBytes ∧ okI .i64 cl ∧ okI .i64 b ∧ okI .i64 cd ∧ rv.length ≤ reachBytes)
    (hu : Mu.mu (e0, d, evs) + Mu.mu (c, s, q, ky, v, o, cl, b, cd, rv) ≤ 1048576) : ∃ k, synodlaw17_TextEvents.f k e0 d evs c s q ky v o cl b cd rv = some true := by
  refine ⟨4000000 + 60, ?_⟩
  simp only [mu_pair, mu_list evs, mu_bytes] at hu
  have hev : ∀ e, e ∈ evs → EvOk e := fun e he => by
    have h := hA.2.2.2 e he
    have := mu_mem evs e he
    rw [mu_ev] at this
    exact ⟨i64_of h.2.1, i64_of h.2.2.1, i64_of h.2.2.2.1, by omega⟩
  have hel : evs.length ≤ (evs.map Mu.mu).sum := mu_len (fun a => by rw [mu_ev]; omega) evs
  unfold synodlaw17_TextEvents.f
  rw [first_eq, Option.bind_some]
  obtain ⟨w, hw⟩ := te_l0 hev (by omega) (4000000 + 60) 0 0 (by omega) (by omega) (by omega) (by omega)
  rw [show ((0 : Nat) : Int) = (0 : Int) from rfl] at hw
  rw [hw, Option.bind_some]
  by_cases hb : (((((((!true) || (decide ((200 : Int) < (evs.length : Int)))) || (decide ((20000 : Int) < w))) || (decide ((20000 : Int) < (ky.length : Int)))) || (decide ((20000 : Int) < (v.length : Int)))) || (decide ((20000 : Int) < (o.length : Int)))) || (decide ((20000 : Int) < (rv.length : Int)))) = true
  · rw [if_pos hb]
  · rw [if_neg hb]
    simp only [Bool.not_true, Bool.false_or, Bool.or_eq_true, decide_eq_true_eq, not_or] at hb
    have hn : evs.length ≤ 200 := by omega
    have l1 := te_l1 hev hn (4000000 + 60) 0 [] (by omega) (by omega) (by simp)
    rw [show ((0 : Nat) : Int) = (0 : Int) from rfl, List.nil_append, List.drop_zero] at l1
    rw [l1]
    simp only [orR]
    have o1 := i64_of hB.1
    have o2 := i64_of hB.2.1
    have o3 := i64_of hB.2.2.2.2.2.2.1
    have o4 := i64_of hB.2.2.2.2.2.2.2.1
    have tl : (toldW e0 d evs).length ≤ 300 := by simp [toldW]; omega
    rw [told_f (i64_of hA.1) d hev hn (by omega), Option.bind_some, show synodref_Num.v e0 = e0 from rfl, toldD_f (i64_of hA.1) d hev hn (by omega), Option.bind_some, SameTexts_eq (by omega) (by omega), Option.bind_some,
      op_f o1 o2 o3 o4 (by omega) (by omega) (by omega) (by omega) (by omega), opD_f o1 o2 o3 o4 (by omega) (by omega) (by omega) (by omega) (by omega), reply_f _ (by omega) (by omega), replyD_f _ (by omega) (by omega)]
    simp
end Go.Proofs.YtbcnegennmpliaaDoor

namespace Go.Proofs.YtbcnegennmpliaaDoor
set_option linter.unusedVariables false
set_option linter.unusedSimpArgs false
open Go.RowKit Go.ChangeShapes Go.WideShapes Go.ChangeAt
def VRead (P : Program) (w : World) (n : String) (d : DataW Unit) : Prop :=
  ∃ g t cs fuel p, P.globalNamed n = some g ∧ (P.globals[g]?).map (·.type) = some t ∧ w.var? P n = some cs ∧ DataW.trod (fun _ => ()) P w 0 (fun _ => true) false fuel t cs.toList = some (d, p)
theorem vread_of {P : Program} {w : World} : ∀ {l : List (String × DataW Unit)} {ps : List MemPlace}, DataW.LaidVars P w l ps → ∀ n d, (n, d) ∈ l → VRead P w n d
  | [], _, _, _, _, hm => by cases hm
  | (n', d') :: r, ps, h, n, d, hm => by
    obtain ⟨g, t, cs, fuel, p, q, h1, h2, h3, h4, h5, _⟩ := h
    rcases List.mem_cons.1 hm with e | e
    · cases e
      exact ⟨g, t, cs, fuel, p, h1, h2, h3, h4⟩
    · exact vread_of h5 n d e
theorem laid_vread {P : Program} {w : World} {l : List (String × DataW Unit)} (h : laidMet P l w) {n : String} {d : DataW Unit} (hm : (n, d) ∈ l) : VRead P w n d :=
  let ⟨_, hv, _⟩ := h
  vread_of hv n d hm
theorem tab_of {P : Program} {W : World} {name : String} {k : IntKind} {zs : List Int} {g : Nat} {t e : TypeId} {n : Nat} (hg : P.globalNamed name = some g) (hty : (P.globals[g]?).map (·.type) = some t)
    (ht : P.underlying t = some (.array n e)) (he : P.underlying e = some (.int k)) (hce : P.cellsOf e = 1) (hct : P.cellsOf t = n) (h : VRead P W name (Lib.tabData k zs)) : Lib.TabIs P W name k zs := by
  obtain ⟨g', t', cs, fuel, p, hg', ht', hvar, hd⟩ := h
  obtain rfl := Option.some.inj (hg.symm.trans hg')
  obtain rfl := Option.some.inj (hty.symm.trans ht')
  unfold Lib.TabIs
  rw [hvar, ← Lib.cells_of_tab ht he hce hct hd]
theorem iface_of {P : Program} {W : World} {name nm : String} {d : DataW Unit} {g : Nat} {t : TypeId} {ms : _} (hg : P.globalNamed name = some g) (hty : (P.globals[g]?).map (·.type) = some t)
    (ht : P.underlying t = some (.interface ms)) (h : VRead P W name (.iface nm d)) : ∃ u p, W.var? P name = some #[.iface u p] := by
  obtain ⟨g', t', cs, fuel, p, hg', ht', hvar, hd⟩ := h
  obtain rfl := Option.some.inj (hg.symm.trans hg')
  obtain rfl := Option.some.inj (hty.symm.trans ht')
  cases fuel with
  | zero => simp [DataW.trod] at hd
  | succ m =>
    unfold DataW.trod at hd
    rw [ht] at hd
    split at hd <;> simp_all
    rename_i e
    exact ⟨_, _, Array.toList_inj.1 (e.trans rfl)⟩
theorem var_mono {P : Program} {W w : World} {n : String} {cs : Array Value} (h : HoldsW (heapF W) w) (hv : W.var? P n = some cs) : w.var? P n = some cs := by
  obtain ⟨a, ha, e⟩ := h
  unfold World.var? at hv ⊢
  cases hg : P.globalNamed n with
  | none => rw [hg] at hv; cases hv
  | some g =>
    rw [hg] at hv
    simp only [Option.bind_some] at hv ⊢
    cases ho : W.heap[g]? with
    | none => rw [ho] at hv; cases hv
    | some o =>
      have hlt : g < W.heap.size := (Array.getElem?_eq_some_iff.1 ho).1
      have h1 : w.heap[g]? = some o := e g o ((ha g hlt).trans ho)
      rw [ho] at hv
      rw [h1]
      exact hv
theorem glb_of {P : Program} {W : World} (h1 : Lib.TabIs P W "internal/strconv.uint64pow10" .u64 Lib.pow10Tab) (h2 : ∃ u p, W.var? P "strconv.ErrSyntax" = some #[.iface u p]) (h3 : ∃ u p, W.var? P "strconv.ErrRange" = some #[.iface u p]) :
    Glb P (heapF W) :=
  ⟨fun w h => var_mono h h1, fun w h => let ⟨u, p, e⟩ := h2; ⟨u, p, var_mono h e⟩, fun w h => let ⟨u, p, e⟩ := h3; ⟨u, p, var_mono h e⟩⟩
theorem witness_laid {H : Type} {enc : TypeId × Value → H} {C : Checked} {os : Os} {f : FuncId} {fn : Func} {s : OpenSpec} {conds : List PathCond} {apart : Bool} {laid : List (String × DataW Unit)} (w0 : World) (args : Array Value) (hos : w0.os = os)
    (hsh : (w0.forCall (fun _ _ => 0) ⟨#[], args, []⟩).Shaped C.prog)
    (hok : Input.okWideB C.prog (w0.forCall (fun _ _ => 0) ⟨#[], args, []⟩) f ⟨#[], args, []⟩ = true)
    (hrow : s.preRow enc C.prog fn conds apart laid (w0.forCall (fun _ _ => 0) ⟨#[], args, []⟩).memory args) :
    ∃ (w : World) (tape : Tape) (i : Input), w.os = os ∧ (w.forCall tape i).Shaped C.prog ∧ i.vars = [] ∧ Input.okWide C.prog (w.forCall tape i) .any w.heap.size f i ∧
      s.preRow enc C.prog fn conds apart laid (w.forCall tape i).memory i.args ∧ ({} : Assume).holds C.prog (lone (Frame.enter C.prog f i.args .normal) [] (w.forCall tape i)) :=
  ⟨w0, fun _ _ => 0, ⟨#[], args, []⟩, hos, hsh, (Input.okWide_of_okWideB (base := 0) hok).1, (Input.okWide_of_okWideB hok).2, hrow, by
    simp only [Assume.holds]
    exact ⟨by simp, by simp, fun _ => Modest.zero, by simp, by simp⟩⟩
end Go.Proofs.YtbcnegennmpliaaDoor

namespace Go.Proofs.YtbcnegennmpliaaDoor.textEvents
open Go.RowKit Go.ChangeShapes Go.WideShapes Go.ChangeAt
open Go.ChangeMaps (open_string shut_string)
set_option linter.unusedVariables false
theorem own : ownKnob Tryd.prog.godebug = none := by kernel_rfl
theorem laidOut : laidOutB Tryd.prog = true := by kernel_rfl
theorem glb {W : World} (hL : laidMetH Tryd.prog Rows.textEventsUptoRow.laid W) : Glb Tryd.prog (heapF W) := by
  rw [MakeChecks.laidMetH_plain _ _ _ (by kernel_rfl)] at hL
  exact glb_of (tab_of (g := 0) (t := 169) (e := 152) (by kernel_rfl) (by kernel_rfl) Tryd.underlying169 Tryd.underlying152 (by kernel_rfl) (by kernel_rfl) (laid_vread hL (n := "internal/strconv.uint64pow10") (d := Rows.laid_internal_strconv_uint64pow10) (.tail _ (.tail _ (.head _))))) (iface_of (g := 1) (t := 137) (by kernel_rfl) (by kernel_rfl) Tryd.underlying137 (laid_vread hL (n := "strconv.ErrSyntax") (d := Rows.laid_strconv_ErrSyntax) (.tail _ (.tail _ (.tail _ (.tail _ (.tail _ (.head _)))))))) (iface_of (g := 2) (t := 137) (by kernel_rfl) (by kernel_rfl) Tryd.underlying137 (laid_vread hL (n := "strconv.ErrRange") (d := Rows.laid_strconv_ErrRange) (.tail _ (.tail _ (.tail _ (.tail _ (.head _)))))))
theorem laid_met (os : Os) (args : Array Value) : laidMetH Tryd.prog Rows.textEventsUptoRow.laid ((World.laidAll Tryd.prog os Rows.textEventsUptoRow.laid).forCall (fun _ _ => 0) ⟨#[], args, []⟩).memory := by
  rw [MakeChecks.laidMetH_plain _ _ _ (by kernel_rfl)]
  exact laidMet_laidAll args (by kernel_rfl) (by kernel_rfl)
theorem opensT78 {H : Type} (W : World) (held : Bool) (enc : TypeId × Value → H) : OpensU enc Tryd.prog W held 78 (V78 tt) Ok78 :=
  (opensU_struct Tryd.underlying78 (by kernel_rfl) (by kernel_rfl) (by kernel_rfl) (opensLU_cons (opensU_int Tryd.underlying3 (by kernel_rfl)) (opensLU_cons (opensU_int Tryd.underlying3 (by kernel_rfl)) (opensLU_cons (opensU_int Tryd.underlying3 (by kernel_rfl)) (opensLU_cons (opensU_int Tryd.underlying3 (by kernel_rfl)) (opensLU_one (opensU_struct Tryd.underlying74 (by kernel_rfl) (by kernel_rfl) (by kernel_rfl) (opensLU_cons (opensU_int Tryd.underlying3 (by kernel_rfl)) (opensLU_one (opensU_str Tryd.underlying9 (by kernel_rfl))))))))))).mono (fun x r h => by obtain ⟨_, _, rfl, rfl, ⟨_, _, rfl, rfl, ⟨_, _, rfl, rfl, ⟨_, _, rfl, rfl, ⟨_, _, rfl, rfl, rfl⟩⟩⟩⟩⟩ := h; exact rfl) (fun x h => h)
set_option maxRecDepth 100000 in
theorem lifted (os : Os) (started : os.Started) (H : Type) (enc : TypeId × Value → H) (F : Stop.Interp) :
    ReturnsInHanded {} Tryd.checked os 10 .any ((Rows.OpenSpec.upto Rows.textEventsSpec).preRow enc Tryd.prog Tryd.f10 Rows.textEventsUptoRow.domain false Rows.textEventsUptoRow.laid) (((Rows.OpenSpec.upto Rows.textEventsSpec).at F).post enc Tryd.prog Tryd.f10 false true false false) := by
  refine returnsInHanded_of_row (C := Tryd.checked) (s := (Rows.OpenSpec.upto Rows.textEventsSpec)) own started (by kernel_rfl) Tryd.func10
    (witness_laid (enc := enc) (C := Tryd.checked) (World.laidAll Tryd.prog os Rows.textEventsUptoRow.laid) #[.agg #[.int .i64 0, .bool false, .slice none 0 0], .agg #[.int .i64 0, .int .i64 0, .int .i64 0, str ([] : List UInt8), str ([] : List UInt8), str ([] : List UInt8), .int .i64 0, .int .i64 0, .int .i64 0, str ([] : List UInt8)]] (World.laidAll_os _ _ _) (World.shaped_of_ZipB (by kernel_rfl) (by kernel_rfl)) (by kernel_rfl)
      (OpenSpec.preRow_of_cond 8 (x := ([.agg [.lit (.int .i64 0), .lit (.bool false), .nil], .agg [.lit (.int .i64 0), .lit (.int .i64 0), .lit (.int .i64 0), .lit (.string []), .lit (.string []), .lit (.string []), .lit (.int .i64 0), .lit (.int .i64 0), .agg [.lit (.int .i64 0), .lit (.string [])]]], [], [])) (by kernel_rfl) (by kernel_rfl) (fun k hk => by cases hk; kernel_rfl) (by kernel_rfl) (laid_met os _))) ?_
  intro W base args ds gs before hval0 hW hcnd hk00 hsz0 hL _ _
  have hgl := glb hL
  have hk0 := hk00 _ rfl
  have hsz : (DataW.weightsEach Tryd.prog (Tryd.f10.params.toList ++ (Rows.OpenSpec.upto Rows.textEventsSpec).bare.plain.varTypes Tryd.prog) (ds ++ gs)).all (· ≤ reachBytes) = true := hsz0
  have hval : ∀ (j : Nat) t v, Tryd.f10.params[j]? = some t → args[j]? = some v → Value.okWide Tryd.prog W .any base t v := hval0
  have hW' := hW
  obtain ⟨p, q, hA0, hV, rfl, hfz, hnd⟩ := hW
  have hA : DataW.TrodAll enc Tryd.prog W 0 (fun _ => true) true Tryd.f10.params.toList args.toList ds p := hA0
  rw [Tryd.params10] at hA hval hsz
  obtain ⟨v0, vs0, d0, ds0, p0, q0, hargs, rfl, rfl, h0, r0⟩ := trodAll_cons hA
  obtain ⟨v1, vs1, d1, ds1, p1, q1, rfl, rfl, rfl, h1, r1⟩ := trodAll_cons r0
  obtain ⟨rfl, rfl, rfl⟩ := trodAll_nil r1
  obtain rfl : args = #[v0, v1] := by cases args; simp_all
  obtain ⟨rfl, rfl⟩ := trodVars_none hV
  obtain ⟨cs0, rfl, _⟩ := okWide_struct Tryd.underlying72 (hval 0 72 v0 rfl rfl)
  have k0 := h0
  have lt0 : ∀ x ∈ p0, x.block < W.heap.size := by obtain ⟨m, hm⟩ := k0; exact DataW.trod_lt m _ _ _ hm
  obtain ⟨fuel0, hf0⟩ := h0
  obtain ⟨⟨z0_0, z0_1, z0_2⟩, ⟨_, _, hcs0, rfl, ⟨_, _, rfl, rfl, ⟨a0_2, c0_2, rfl, h0_2, k0_2, m0_2⟩⟩⟩, _, _, ok0, mu0⟩ := (opensU_struct Tryd.underlying72 (by kernel_rfl) (by kernel_rfl) (by kernel_rfl) (opensLU_cons (opensU_int Tryd.underlying24 (by kernel_rfl)) (opensLU_cons (opensU_bool Tryd.underlying4 (by kernel_rfl)) (opensLU_one (opensU_list (n := 6) (B := 56) Tryd.underlying70 (by kernel_rfl) (by kernel_rfl) (by kernel_rfl) (opensT78 W true enc)))))) _ _ _ hf0 (weights_of hsz (j := 0) (t := 72) rfl rfl)
  replace mu0 : _ ≤ Rows.uptoBulk d0 := mu0
  have e0 : cs0.toList = [.int .i64 z0_0, .bool z0_1, .slice a0_2 z0_2.length c0_2] := by simpa [Value.cells] using hcs0
  obtain rfl : cs0 = [.int .i64 z0_0, .bool z0_1, .slice a0_2 z0_2.length c0_2].toArray := by rw [← e0, Array.toArray_toList]
  obtain ⟨cs1, rfl, _⟩ := okWide_struct Tryd.underlying76 (hval 1 76 v1 rfl rfl)
  have k1 := h1
  have lt1 : ∀ x ∈ p1, x.block < W.heap.size := by obtain ⟨m, hm⟩ := k1; exact DataW.trod_lt m _ _ _ hm
  obtain ⟨fuel1, hf1⟩ := h1
  obtain ⟨⟨z1_0, z1_1, z1_2, z1_3, z1_4, z1_5, z1_6, z1_7, ⟨z1_8, z1_9⟩⟩, ⟨_, _, hcs1, rfl, ⟨_, _, rfl, rfl, ⟨_, _, rfl, rfl, ⟨_, _, rfl, rfl, ⟨_, _, rfl, rfl, ⟨_, _, rfl, rfl, ⟨_, _, rfl, rfl, ⟨_, _, rfl, rfl, ⟨_, _, rfl, rfl, rfl⟩⟩⟩⟩⟩⟩⟩⟩⟩, _, _, ok1, mu1⟩ := (opensU_struct Tryd.underlying76 (by kernel_rfl) (by kernel_rfl) (by kernel_rfl) (opensLU_cons (opensU_int Tryd.underlying3 (by kernel_rfl)) (opensLU_cons (opensU_int Tryd.underlying3 (by kernel_rfl)) (opensLU_cons (opensU_int Tryd.underlying3 (by kernel_rfl)) (opensLU_cons (opensU_str Tryd.underlying9 (by kernel_rfl)) (opensLU_cons (opensU_str Tryd.underlying9 (by kernel_rfl)) (opensLU_cons (opensU_str Tryd.underlying9 (by kernel_rfl)) (opensLU_cons (opensU_int Tryd.underlying3 (by kernel_rfl)) (opensLU_cons (opensU_int Tryd.underlying3 (by kernel_rfl)) (opensLU_one (opensU_struct Tryd.underlying74 (by kernel_rfl) (by kernel_rfl) (by kernel_rfl) (opensLU_cons (opensU_int Tryd.underlying3 (by kernel_rfl)) (opensLU_one (opensU_str Tryd.underlying9 (by kernel_rfl))))))))))))))) _ _ _ hf1 (weights_of hsz (j := 1) (t := 76) rfl rfl)
  replace mu1 : _ ≤ Rows.uptoBulk d1 := mu1
  have e1 : cs1.toList = [.int .i64 z1_0, .int .i64 z1_1, .int .i64 z1_2, str z1_3, str z1_4, str z1_5, .int .i64 z1_6, .int .i64 z1_7, .int .i64 z1_8, str z1_9] := by simpa [Value.cells] using hcs1
  obtain rfl : cs1 = [.int .i64 z1_0, .int .i64 z1_1, .int .i64 z1_2, str z1_3, str z1_4, str z1_5, .int .i64 z1_6, .int .i64 z1_7, .int .i64 z1_8, str z1_9].toArray := by rw [← e1, Array.toArray_toList]
  have hu0 : Rows.uptoBulkAll [_, _] ≤ 1048576 := of_decide_eq_true hk0
  simp only [Rows.uptoBulkAll] at hu0
  have hu : Mu.mu (z0_0, z0_1, z0_2) + Mu.mu (z1_0, z1_1, z1_2, z1_3, z1_4, z1_5, z1_6, z1_7, (z1_8, z1_9)) ≤ 1048576 := by omega
  clear hA0 hval0 hsz0 hsz
  obtain ⟨k, hk⟩ := pure_TextEvents z0_0 z0_1 z0_2 ok0 z1_0 z1_1 z1_2 z1_3 z1_4 z1_5 z1_6 z1_7 z1_8 z1_9 ok1 hu
  refine (row_of_fn (synodlaw17_TextEvents.calls W (heapF W) k z0_0 z0_1 _ _ z0_2 z1_0 z1_1 z1_2 z1_3 z1_4 z1_5 z1_6 z1_7 z1_8 z1_9 h0_2 k0_2 m0_2 hgl) hk (fun _ => rfl)).mono fun e W' ⟨he, bel⟩ => ?_
  subst he
  exact ⟨_, rfl, _, _, _, [], _, [], hW', trodAll_mk1 (shut_bool Tryd.underlying4 _), (trodAll_cons_mk (Below.trod laidOut (by kernel_rfl) (of_decide_eq_true (by kernel_rfl)) k0 bel lt0) (trodAll_cons_mk (Below.trod laidOut (by kernel_rfl) (of_decide_eq_true (by kernel_rfl)) k1 bel lt1) trodAll_mk0)), rfl, bel.frame _, fun h => by cases h⟩
theorem said : Rows.TextEventsUptoSaid :=
  OpenClaim.holds_of_cond 10 Tryd.f10 rfl rfl rfl rfl rfl rfl rfl ⟨rfl, rfl, rfl, rfl, rfl⟩ rfl rfl rfl rfl rfl (by kernel_rfl) Tryd.func10 (by kernel_rfl)
    (of_decide_eq_true (by kernel_rfl)) (by unfold Func.isWrapper; first | (rw [if_pos (by decide +kernel)]; kernel_rfl) | (rw [if_neg (by decide +kernel)]; exact ⟨rfl, rfl⟩))
    (fun os started H enc _ F => by rw [OpenClaim.pre_eq_preRow]; exact lifted os started H enc F)
theorem plain (f : FuncId) (fn : Func) (hf : Tryd.pinned.checked.prog.funcNamed "synod/synodlaw17.TextEvents" = some f) (hfn : Tryd.pinned.checked.prog.funcs[f]? = some fn) :
    true = Tryd.pinned.checked.prog.looks [] ∧ ∀ (j : Nat) t, fn.params[j]? = some t → Tryd.pinned.checked.prog.wantsStandIn t = false := by
  obtain rfl : f = 10 := Option.some.inj ((show Tryd.prog.funcNamed "synod/synodlaw17.TextEvents" = some 10 by kernel_rfl).symm.trans hf) |>.symm
  obtain rfl : fn = Tryd.f10 := (Option.some.inj (Tryd.func10.symm.trans hfn)).symm
  refine ⟨by kernel_rfl, fun j t ht => ?_⟩
  rw [Tryd.params10] at ht
  have hm : t ∈ [72, 76] := by simpa using Array.mem_of_getElem? ht
  have hall : ([72, 76].all fun u => !Tryd.prog.wantsStandIn u) = true := by kernel_rfl
  exact (show Tryd.prog.wantsStandIn t = false by simpa using List.all_eq_true.1 hall t hm)
theorem card : Rows.TextEventsUptoCardSaid :=
  Claim7.holds_tied_plain_at .later [] _ _ _ _ said (fun _ h => by cases h) (by kernel_rfl) (fun _ h => by cases h) textEventsUpto_row_tie rfl ⟨rfl, rfl⟩ (by kernel_rfl) rfl plain (by kernel_rfl)
end Go.Proofs.YtbcnegennmpliaaDoor.textEvents
namespace Go.Proofs.YtbcnegennmpliaaDoor
/-- The card, under a short name, for the claim. -/
theorem textEvents_holds : Rows.TextEventsUptoCardSaid := textEvents.card
end Go.Proofs.YtbcnegennmpliaaDoor

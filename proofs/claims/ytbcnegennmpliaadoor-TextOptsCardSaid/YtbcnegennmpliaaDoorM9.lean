/- Texts that lead to the law TextOpts: G, Pl1, PlTx0, PlTx1, PlTx2, PlTx3, PlTx4, PlTx5, PlTxV, PlTxD. Conditions: as each says. -/
import Derived.Test.YtbcnegennmpliaaDoorM8
import Derived.Laws.BitsLemmas
import Derived.Lib.ItoaMem
namespace Go.Proofs.YtbcnegennmpliaaDoor
open Go.RowKit
set_option linter.unusedVariables false
set_option linter.unusedSimpArgs false
set_option maxRecDepth 20000
set_option maxHeartbeats 20000000
def synodlaw17_TextOpts.f (k : Nat) (x0 : List UInt8) (x1_0 : Int) (x1_1 : Int) (x1_2 : Int) (x1_3 : Int) (x1_4 : Int) (x1_5 : Int) (x1_6 : Int) (x1_7 : Int) (x1_8 : Int) (x1_9 : Int) (x1_10 : Int) (x1_11 : Int) (x1_12 : Int) (x1_13 : Int) (x1_14 : Int) (x1_15 : Int) (x1_16 : Int) (x1_17 : Int) (x1_18 : Int) : Option (Bool) := (synodlaw17_first.f k).bind fun s2v => (if ((!s2v) || (decide ((20000 : Int) < (x0.length : Int)))) = true then (some s2v) else ((text_ParseOpts.f k x0).bind fun s7v => ((synodref17_ParseOpts.f k x0).bind fun s11v => ((if (((decide ((synodlaw15_Opts.u s7v).1 = s11v.1) && (decide ((synodlaw15_Opts.u s7v).2.1 = s11v.2.1) && (((decide ((synodlaw15_Opts.u s7v).2.2.1 = s11v.2.2.1) && (decide ((synodlaw15_Opts.u s7v).2.2.2.1 = s11v.2.2.2.1) && (decide ((synodlaw15_Opts.u s7v).2.2.2.2.1 = s11v.2.2.2.2.1) && (decide ((synodlaw15_Opts.u s7v).2.2.2.2.2.1 = s11v.2.2.2.2.2.1) && (decide ((synodlaw15_Opts.u s7v).2.2.2.2.2.2.1 = s11v.2.2.2.2.2.2.1) && (decide ((synodlaw15_Opts.u s7v).2.2.2.2.2.2.2.1 = s11v.2.2.2.2.2.2.2.1) && (decide ((synodlaw15_Opts.u s7v).2.2.2.2.2.2.2.2.1 = s11v.2.2.2.2.2.2.2.2.1) && (decide ((synodlaw15_Opts.u s7v).2.2.2.2.2.2.2.2.2.1 = s11v.2.2.2.2.2.2.2.2.2.1))))))))) && (decide ((synodlaw15_Opts.u s7v).2.2.2.2.2.2.2.2.2.2.1 = s11v.2.2.2.2.2.2.2.2.2.2.1) && (decide ((synodlaw15_Opts.u s7v).2.2.2.2.2.2.2.2.2.2.2.1 = s11v.2.2.2.2.2.2.2.2.2.2.2.1) && (decide ((synodlaw15_Opts.u s7v).2.2.2.2.2.2.2.2.2.2.2.2.1 = s11v.2.2.2.2.2.2.2.2.2.2.2.2.1) && (decide ((synodlaw15_Opts.u s7v).2.2.2.2.2.2.2.2.2.2.2.2.2.1 = s11v.2.2.2.2.2.2.2.2.2.2.2.2.2.1) && (decide ((synodlaw15_Opts.u s7v).2.2.2.2.2.2.2.2.2.2.2.2.2.2.1 = s11v.2.2.2.2.2.2.2.2.2.2.2.2.2.2.1) && (decide ((synodlaw15_Opts.u s7v).2.2.2.2.2.2.2.2.2.2.2.2.2.2.2.1 = s11v.2.2.2.2.2.2.2.2.2.2.2.2.2.2.2.1) && (decide ((synodlaw15_Opts.u s7v).2.2.2.2.2.2.2.2.2.2.2.2.2.2.2.2.1 = s11v.2.2.2.2.2.2.2.2.2.2.2.2.2.2.2.2.1) && (decide ((synodlaw15_Opts.u s7v).2.2.2.2.2.2.2.2.2.2.2.2.2.2.2.2.2.1 = s11v.2.2.2.2.2.2.2.2.2.2.2.2.2.2.2.2.2.1) && (decide ((synodlaw15_Opts.u s7v).2.2.2.2.2.2.2.2.2.2.2.2.2.2.2.2.2.2 = s11v.2.2.2.2.2.2.2.2.2.2.2.2.2.2.2.2.2.2.1)))))))))))))) && (decide ((synodref_Num.v s7v.2.2.2.2.2.2.2.2.2.2.2.2.2.2.2.2.2.2.2) = s11v.2.2.2.2.2.2.2.2.2.2.2.2.2.2.2.2.2.2.2))) == true) = true then (text_FormatOpts.f x1_0 x1_1 x1_2 x1_3 x1_4 x1_5 x1_6 x1_7 x1_8 x1_9 x1_10 x1_11 x1_12 x1_13 x1_14 x1_15 x1_16 x1_17 x1_18) else some []).bind fun s21v => ((if (((decide ((synodlaw15_Opts.u s7v).1 = s11v.1) && (decide ((synodlaw15_Opts.u s7v).2.1 = s11v.2.1) && (((decide ((synodlaw15_Opts.u s7v).2.2.1 = s11v.2.2.1) && (decide ((synodlaw15_Opts.u s7v).2.2.2.1 = s11v.2.2.2.1) && (decide ((synodlaw15_Opts.u s7v).2.2.2.2.1 = s11v.2.2.2.2.1) && (decide ((synodlaw15_Opts.u s7v).2.2.2.2.2.1 = s11v.2.2.2.2.2.1) && (decide ((synodlaw15_Opts.u s7v).2.2.2.2.2.2.1 = s11v.2.2.2.2.2.2.1) && (decide ((synodlaw15_Opts.u s7v).2.2.2.2.2.2.2.1 = s11v.2.2.2.2.2.2.2.1) && (decide ((synodlaw15_Opts.u s7v).2.2.2.2.2.2.2.2.1 = s11v.2.2.2.2.2.2.2.2.1) && (decide ((synodlaw15_Opts.u s7v).2.2.2.2.2.2.2.2.2.1 = s11v.2.2.2.2.2.2.2.2.2.1))))))))) && (decide ((synodlaw15_Opts.u s7v).2.2.2.2.2.2.2.2.2.2.1 = s11v.2.2.2.2.2.2.2.2.2.2.1) && (decide ((synodlaw15_Opts.u s7v).2.2.2.2.2.2.2.2.2.2.2.1 = s11v.2.2.2.2.2.2.2.2.2.2.2.1) && (decide ((synodlaw15_Opts.u s7v).2.2.2.2.2.2.2.2.2.2.2.2.1 = s11v.2.2.2.2.2.2.2.2.2.2.2.2.1) && (decide ((synodlaw15_Opts.u s7v).2.2.2.2.2.2.2.2.2.2.2.2.2.1 = s11v.2.2.2.2.2.2.2.2.2.2.2.2.2.1) && (decide ((synodlaw15_Opts.u s7v).2.2.2.2.2.2.2.2.2.2.2.2.2.2.1 = s11v.2.2.2.2.2.2.2.2.2.2.2.2.2.2.1) && (decide ((synodlaw15_Opts.u s7v).2.2.2.2.2.2.2.2.2.2.2.2.2.2.2.1 = s11v.2.2.2.2.2.2.2.2.2.2.2.2.2.2.2.1) && (decide ((synodlaw15_Opts.u s7v).2.2.2.2.2.2.2.2.2.2.2.2.2.2.2.2.1 = s11v.2.2.2.2.2.2.2.2.2.2.2.2.2.2.2.2.1) && (decide ((synodlaw15_Opts.u s7v).2.2.2.2.2.2.2.2.2.2.2.2.2.2.2.2.2.1 = s11v.2.2.2.2.2.2.2.2.2.2.2.2.2.2.2.2.2.1) && (decide ((synodlaw15_Opts.u s7v).2.2.2.2.2.2.2.2.2.2.2.2.2.2.2.2.2.2 = s11v.2.2.2.2.2.2.2.2.2.2.2.2.2.2.2.2.2.2.1)))))))))))))) && (decide ((synodref_Num.v s7v.2.2.2.2.2.2.2.2.2.2.2.2.2.2.2.2.2.2.2) = s11v.2.2.2.2.2.2.2.2.2.2.2.2.2.2.2.2.2.2.2))) == true) = true then (synodref17_FormatOpts.f k ((synodlaw15_Opts.v x1_0 x1_1 x1_2 x1_3 x1_4 x1_5 x1_6 x1_7 x1_8 x1_9 x1_10 x1_11 x1_12 x1_13 x1_14 x1_15 x1_16 x1_17 x1_18).1) ((synodlaw15_Opts.v x1_0 x1_1 x1_2 x1_3 x1_4 x1_5 x1_6 x1_7 x1_8 x1_9 x1_10 x1_11 x1_12 x1_13 x1_14 x1_15 x1_16 x1_17 x1_18).2.1) ((synodlaw15_Opts.v x1_0 x1_1 x1_2 x1_3 x1_4 x1_5 x1_6 x1_7 x1_8 x1_9 x1_10 x1_11 x1_12 x1_13 x1_14 x1_15 x1_16 x1_17 x1_18).2.2.1) ((synodlaw15_Opts.v x1_0 x1_1 x1_2 x1_3 x1_4 x1_5 x1_6 x1_7 x1_8 x1_9 x1_10 x1_11 x1_12 x1_13 x1_14 x1_15 x1_16 x1_17 x1_18).2.2.2.1) ((synodlaw15_Opts.v x1_0 x1_1 x1_2 x1_3 x1_4 x1_5 x1_6 x1_7 x1_8 x1_9 x1_10 x1_11 x1_12 x1_13 x1_14 x1_15 x1_16 x1_17 x1_18).2.2.2.2.1) ((synodlaw15_Opts.v x1_0 x1_1 x1_2 x1_3 x1_4 x1_5 x1_6 x1_7 x1_8 x1_9 x1_10 x1_11 x1_12 x1_13 x1_14 x1_15 x1_16 x1_17 x1_18).2.2.2.2.2.1) ((synodlaw15_Opts.v x1_0 x1_1 x1_2 x1_3 x1_4 x1_5 x1_6 x1_7 x1_8 x1_9 x1_10 x1_11 x1_12 x1_13 x1_14 x1_15 x1_16 x1_17 x1_18).2.2.2.2.2.2.1) ((synodlaw15_Opts.v x1_0 x1_1 x1_2 x1_3 x1_4 x1_5 x1_6 x1_7 x1_8 x1_9 x1_10 x1_11 x1_12 x1_13 x1_14 x1_15 x1_16 x1_17 x1_18).2.2.2.2.2.2.2.1) ((synodlaw15_Opts.v x1_0 x1_1 x1_2 x1_3 x1_4 x1_5 x1_6 x1_7 x1_8 x1_9 x1_10 x1_11 x1_12 x1_13 x1_14 x1_15 x1_16 x1_17 x1_18).2.2.2.2.2.2.2.2.1) ((synodlaw15_Opts.v x1_0 x1_1 x1_2 x1_3 x1_4 x1_5 x1_6 x1_7 x1_8 x1_9 x1_10 x1_11 x1_12 x1_13 x1_14 x1_15 x1_16 x1_17 x1_18).2.2.2.2.2.2.2.2.2.1) ((synodlaw15_Opts.v x1_0 x1_1 x1_2 x1_3 x1_4 x1_5 x1_6 x1_7 x1_8 x1_9 x1_10 x1_11 x1_12 x1_13 x1_14 x1_15 x1_16 x1_17 x1_18).2.2.2.2.2.2.2.2.2.2.1) ((synodlaw15_Opts.v x1_0 x1_1 x1_2 x1_3 x1_4 x1_5 x1_6 x1_7 x1_8 x1_9 x1_10 x1_11 x1_12 x1_13 x1_14 x1_15 x1_16 x1_17 x1_18).2.2.2.2.2.2.2.2.2.2.2.1) ((synodlaw15_Opts.v x1_0 x1_1 x1_2 x1_3 x1_4 x1_5 x1_6 x1_7 x1_8 x1_9 x1_10 x1_11 x1_12 x1_13 x1_14 x1_15 x1_16 x1_17 x1_18).2.2.2.2.2.2.2.2.2.2.2.2.1) ((synodlaw15_Opts.v x1_0 x1_1 x1_2 x1_3 x1_4 x1_5 x1_6 x1_7 x1_8 x1_9 x1_10 x1_11 x1_12 x1_13 x1_14 x1_15 x1_16 x1_17 x1_18).2.2.2.2.2.2.2.2.2.2.2.2.2.1) ((synodlaw15_Opts.v x1_0 x1_1 x1_2 x1_3 x1_4 x1_5 x1_6 x1_7 x1_8 x1_9 x1_10 x1_11 x1_12 x1_13 x1_14 x1_15 x1_16 x1_17 x1_18).2.2.2.2.2.2.2.2.2.2.2.2.2.2.1) ((synodlaw15_Opts.v x1_0 x1_1 x1_2 x1_3 x1_4 x1_5 x1_6 x1_7 x1_8 x1_9 x1_10 x1_11 x1_12 x1_13 x1_14 x1_15 x1_16 x1_17 x1_18).2.2.2.2.2.2.2.2.2.2.2.2.2.2.2.1) ((synodlaw15_Opts.v x1_0 x1_1 x1_2 x1_3 x1_4 x1_5 x1_6 x1_7 x1_8 x1_9 x1_10 x1_11 x1_12 x1_13 x1_14 x1_15 x1_16 x1_17 x1_18).2.2.2.2.2.2.2.2.2.2.2.2.2.2.2.2.1) ((synodlaw15_Opts.v x1_0 x1_1 x1_2 x1_3 x1_4 x1_5 x1_6 x1_7 x1_8 x1_9 x1_10 x1_11 x1_12 x1_13 x1_14 x1_15 x1_16 x1_17 x1_18).2.2.2.2.2.2.2.2.2.2.2.2.2.2.2.2.2.1) ((synodlaw15_Opts.v x1_0 x1_1 x1_2 x1_3 x1_4 x1_5 x1_6 x1_7 x1_8 x1_9 x1_10 x1_11 x1_12 x1_13 x1_14 x1_15 x1_16 x1_17 x1_18).2.2.2.2.2.2.2.2.2.2.2.2.2.2.2.2.2.2)) else some []).bind fun s27v => (some (((decide ((synodlaw15_Opts.u s7v).1 = s11v.1) && (decide ((synodlaw15_Opts.u s7v).2.1 = s11v.2.1) && (((decide ((synodlaw15_Opts.u s7v).2.2.1 = s11v.2.2.1) && (decide ((synodlaw15_Opts.u s7v).2.2.2.1 = s11v.2.2.2.1) && (decide ((synodlaw15_Opts.u s7v).2.2.2.2.1 = s11v.2.2.2.2.1) && (decide ((synodlaw15_Opts.u s7v).2.2.2.2.2.1 = s11v.2.2.2.2.2.1) && (decide ((synodlaw15_Opts.u s7v).2.2.2.2.2.2.1 = s11v.2.2.2.2.2.2.1) && (decide ((synodlaw15_Opts.u s7v).2.2.2.2.2.2.2.1 = s11v.2.2.2.2.2.2.2.1) && (decide ((synodlaw15_Opts.u s7v).2.2.2.2.2.2.2.2.1 = s11v.2.2.2.2.2.2.2.2.1) && (decide ((synodlaw15_Opts.u s7v).2.2.2.2.2.2.2.2.2.1 = s11v.2.2.2.2.2.2.2.2.2.1))))))))) && (decide ((synodlaw15_Opts.u s7v).2.2.2.2.2.2.2.2.2.2.1 = s11v.2.2.2.2.2.2.2.2.2.2.1) && (decide ((synodlaw15_Opts.u s7v).2.2.2.2.2.2.2.2.2.2.2.1 = s11v.2.2.2.2.2.2.2.2.2.2.2.1) && (decide ((synodlaw15_Opts.u s7v).2.2.2.2.2.2.2.2.2.2.2.2.1 = s11v.2.2.2.2.2.2.2.2.2.2.2.2.1) && (decide ((synodlaw15_Opts.u s7v).2.2.2.2.2.2.2.2.2.2.2.2.2.1 = s11v.2.2.2.2.2.2.2.2.2.2.2.2.2.1) && (decide ((synodlaw15_Opts.u s7v).2.2.2.2.2.2.2.2.2.2.2.2.2.2.1 = s11v.2.2.2.2.2.2.2.2.2.2.2.2.2.2.1) && (decide ((synodlaw15_Opts.u s7v).2.2.2.2.2.2.2.2.2.2.2.2.2.2.2.1 = s11v.2.2.2.2.2.2.2.2.2.2.2.2.2.2.2.1) && (decide ((synodlaw15_Opts.u s7v).2.2.2.2.2.2.2.2.2.2.2.2.2.2.2.2.1 = s11v.2.2.2.2.2.2.2.2.2.2.2.2.2.2.2.2.1) && (decide ((synodlaw15_Opts.u s7v).2.2.2.2.2.2.2.2.2.2.2.2.2.2.2.2.2.1 = s11v.2.2.2.2.2.2.2.2.2.2.2.2.2.2.2.2.2.1) && (decide ((synodlaw15_Opts.u s7v).2.2.2.2.2.2.2.2.2.2.2.2.2.2.2.2.2.2 = s11v.2.2.2.2.2.2.2.2.2.2.2.2.2.2.2.2.2.2.1)))))))))))))) && (decide ((synodref_Num.v s7v.2.2.2.2.2.2.2.2.2.2.2.2.2.2.2.2.2.2.2) = s11v.2.2.2.2.2.2.2.2.2.2.2.2.2.2.2.2.2.2.2))) && (decide (s21v = s27v)))))))))
theorem synodlaw17_TextOpts.calls (W : World) (F : HA) (k : Nat) (x0 : List UInt8) (x1_0 : Int) (x1_1 : Int) (x1_2 : Int) (x1_3 : Int) (x1_4 : Int) (x1_5 : Int) (x1_6 : Int) (x1_7 : Int) (x1_8 : Int) (x1_9 : Int) (x1_10 : Int) (x1_11 : Int) (x1_12 : Int) (x1_13 : Int) (x1_14 : Int) (x1_15 : Int) (x1_16 : Int) (x1_17 : Int) (x1_18 : Int) (hgl : Glb Tryd.prog F) :
    Fn Tryd.prog W 8 [str x0, .agg #[.int .i64 x1_0, .int .i64 x1_1, .int .i64 x1_2, .int .i64 x1_3, .int .i64 x1_4, .int .i64 x1_5, .int .i64 x1_6, .int .i64 x1_7, .int .i64 x1_8, .int .i64 x1_9, .int .i64 x1_10, .int .i64 x1_11, .int .i64 x1_12, .int .i64 x1_13, .int .i64 x1_14, .int .i64 x1_15, .int .i64 x1_16, .int .i64 x1_17, .int .i64 x1_18]] [] F (synodlaw17_TextOpts.f k x0 x1_0 x1_1 x1_2 x1_3 x1_4 x1_5 x1_6 x1_7 x1_8 x1_9 x1_10 x1_11 x1_12 x1_13 x1_14 x1_15 x1_16 x1_17 x1_18) (fun (r : Bool) (y : Unit) => .bool r) (fun r y => []) := by
 unfold synodlaw17_TextOpts.f
 refine fn_intro 47 Tryd.func8 rfl Tryd.ntmps8 rfl ?_
 refine sr ?_
 refine simL_eff (re_box rfl rfl rfl) rfl rfl rfl ?_
 intro b1v
 refine va rfl rfl (nx ?_)
 refine simL_bind (fun s2v hs3v => ?_)
 refine simL_eff (re_call (vs := []) (cap := []) (A := []) (rst := [obj b1v 54 [.int .i64 x1_0, .int .i64 x1_1, .int .i64 x1_2, .int .i64 x1_3, .int .i64 x1_4, .int .i64 x1_5, .int .i64 x1_6, .int .i64 x1_7, .int .i64 x1_8, .int .i64 x1_9, .int .i64 x1_10, .int .i64 x1_11, .int .i64 x1_12, .int .i64 x1_13, .int .i64 x1_14, .int .i64 x1_15, .int .i64 x1_16, .int .i64 x1_17, .int .i64 x1_18], F]) rfl rfl rfl rfl rfl rfl Tryd.call11 (.sel 0 rfl (.sel 0 rfl (.nil _))) (synodlaw17_first.calls _ _ k  (hgl.lend 1 rfl)) hs3v) rfl rfl rfl ?_
 intro y4v
 refine va rfl rfl (simL_nil (nrm_then (sim_seq (sr ?_))))
 refine vm rfl rfl ?_
 refine vq (q_not rfl rfl) rfl ?_
 refine vm rfl rfl ?_
 refine simL_valc (b := !s2v) (fun hb52v => RQ.sub (E' := [(0, str x0)]) ⟨rfl, trivial⟩ (q_move rfl rfl)) rfl rfl rfl rfl rfl ?_
 refine simL_valc (b := !s2v) (fun hb51v => RQ.sub (E' := [(14, str x0)]) ⟨lk_cv rfl hb51v, trivial⟩ (q_lens rfl rfl rfl Tryd.underlying9)) rfl rfl rfl rfl rfl ?_
 refine simL_valc (b := !s2v) (fun hb50v => RQ.sub (E' := [(15, .int .i64 (x0.length : Int))]) ⟨lk_cv rfl hb50v, trivial⟩ (q_gtr rfl rfl rfl)) rfl rfl rfl rfl rfl ?_
 refine vq (q_or rfl rfl rfl) rfl (simL_nil (nrm_then ?_))
 refine sim_condb rfl (fun h5v => ?_) (fun h6v => ?_)
 refine sr ?_
 refine vm rfl rfl ?_
 refine va rfl rfl (simL_nil (nrm_then (sim_rtn ?_)))
 refine rtn_then ?_
 exact rtn_fn () rfl rfl rfl (.sel 1 rfl (.nil _))
 refine sim_skip ?_
 refine nrm_then (sr ?_)
 refine vm rfl rfl ?_
 refine simL_bind (fun s7v hs8v => ?_)
 refine simL_eff (re_call (vs := [str x0]) (cap := []) (A := []) (rst := [obj b1v 54 [.int .i64 x1_0, .int .i64 x1_1, .int .i64 x1_2, .int .i64 x1_3, .int .i64 x1_4, .int .i64 x1_5, .int .i64 x1_6, .int .i64 x1_7, .int .i64 x1_8, .int .i64 x1_9, .int .i64 x1_10, .int .i64 x1_11, .int .i64 x1_12, .int .i64 x1_13, .int .i64 x1_14, .int .i64 x1_15, .int .i64 x1_16, .int .i64 x1_17, .int .i64 x1_18], F]) rfl rfl rfl rfl rfl rfl Tryd.call24 (.sel 0 rfl (.sel 0 rfl (.nil _))) (text_ParseOpts.calls _ _ k x0 (hgl.lend 1 rfl)) hs8v) rfl rfl rfl ?_
 intro y9v
 refine vm rfl rfl ?_
 refine vq (q_ext rfl rfl rfl) rfl ?_
 refine vq (q_ext rfl rfl rfl) rfl ?_
 refine simL_eff (re_alloc rfl Tryd.zeroValue54 rfl) rfl rfl rfl ?_
 intro b10v
 refine simL_do (re_store 0 rfl rfl rfl Tryd.sizeOf54 rfl rfl (one_of (by rfl)) rfl rfl) rfl rfl ?_
 intro _
 refine simL_ent (H' := [obj b10v 54 [.int .i64 s7v.1, .int .i64 s7v.2.1, .int .i64 s7v.2.2.1, .int .i64 s7v.2.2.2.1, .int .i64 s7v.2.2.2.2.1, .int .i64 s7v.2.2.2.2.2.1, .int .i64 s7v.2.2.2.2.2.2.1, .int .i64 s7v.2.2.2.2.2.2.2.1, .int .i64 s7v.2.2.2.2.2.2.2.2.1, .int .i64 s7v.2.2.2.2.2.2.2.2.2.1, .int .i64 s7v.2.2.2.2.2.2.2.2.2.2.1, .int .i64 s7v.2.2.2.2.2.2.2.2.2.2.2.1, .int .i64 s7v.2.2.2.2.2.2.2.2.2.2.2.2.1, .int .i64 s7v.2.2.2.2.2.2.2.2.2.2.2.2.2.1, .int .i64 s7v.2.2.2.2.2.2.2.2.2.2.2.2.2.2.1, .int .i64 s7v.2.2.2.2.2.2.2.2.2.2.2.2.2.2.2.1, .int .i64 s7v.2.2.2.2.2.2.2.2.2.2.2.2.2.2.2.2.1, .int .i64 s7v.2.2.2.2.2.2.2.2.2.2.2.2.2.2.2.2.2.1, .int .i64 s7v.2.2.2.2.2.2.2.2.2.2.2.2.2.2.2.2.2.2.1], obj b1v 54 [.int .i64 x1_0, .int .i64 x1_1, .int .i64 x1_2, .int .i64 x1_3, .int .i64 x1_4, .int .i64 x1_5, .int .i64 x1_6, .int .i64 x1_7, .int .i64 x1_8, .int .i64 x1_9, .int .i64 x1_10, .int .i64 x1_11, .int .i64 x1_12, .int .i64 x1_13, .int .i64 x1_14, .int .i64 x1_15, .int .i64 x1_16, .int .i64 x1_17, .int .i64 x1_18], F]) (Ent.refl _) ?_
 refine va rfl rfl (nx ?_)
 refine vm rfl rfl ?_
 refine simL_bind (fun s11v hs12v => ?_)
 refine simL_eff (re_call (vs := [str x0]) (cap := []) (A := []) (rst := [obj b10v 54 [.int .i64 s7v.1, .int .i64 s7v.2.1, .int .i64 s7v.2.2.1, .int .i64 s7v.2.2.2.1, .int .i64 s7v.2.2.2.2.1, .int .i64 s7v.2.2.2.2.2.1, .int .i64 s7v.2.2.2.2.2.2.1, .int .i64 s7v.2.2.2.2.2.2.2.1, .int .i64 s7v.2.2.2.2.2.2.2.2.1, .int .i64 s7v.2.2.2.2.2.2.2.2.2.1, .int .i64 s7v.2.2.2.2.2.2.2.2.2.2.1, .int .i64 s7v.2.2.2.2.2.2.2.2.2.2.2.1, .int .i64 s7v.2.2.2.2.2.2.2.2.2.2.2.2.1, .int .i64 s7v.2.2.2.2.2.2.2.2.2.2.2.2.2.1, .int .i64 s7v.2.2.2.2.2.2.2.2.2.2.2.2.2.2.1, .int .i64 s7v.2.2.2.2.2.2.2.2.2.2.2.2.2.2.2.1, .int .i64 s7v.2.2.2.2.2.2.2.2.2.2.2.2.2.2.2.2.1, .int .i64 s7v.2.2.2.2.2.2.2.2.2.2.2.2.2.2.2.2.2.1, .int .i64 s7v.2.2.2.2.2.2.2.2.2.2.2.2.2.2.2.2.2.2.1], obj b1v 54 [.int .i64 x1_0, .int .i64 x1_1, .int .i64 x1_2, .int .i64 x1_3, .int .i64 x1_4, .int .i64 x1_5, .int .i64 x1_6, .int .i64 x1_7, .int .i64 x1_8, .int .i64 x1_9, .int .i64 x1_10, .int .i64 x1_11, .int .i64 x1_12, .int .i64 x1_13, .int .i64 x1_14, .int .i64 x1_15, .int .i64 x1_16, .int .i64 x1_17, .int .i64 x1_18], F]) rfl rfl rfl rfl rfl rfl Tryd.call25 (.sel 0 rfl (.sel 0 rfl (.sel 0 rfl (.nil _)))) (synodref17_ParseOpts.calls _ _ k x0 ) hs12v) rfl rfl rfl ?_
 intro y13v
 refine vm rfl rfl ?_
 refine vq (q_ext rfl rfl rfl) rfl ?_
 refine vq (q_ext rfl rfl rfl) rfl ?_
 refine simL_eff (re_alloc rfl Tryd.zeroValue61 rfl) rfl rfl rfl ?_
 intro b14v
 refine simL_do (re_store 0 rfl rfl rfl Tryd.sizeOf61 rfl rfl (one_of (by rfl)) rfl rfl) rfl rfl ?_
 intro _
 refine simL_ent (H' := [obj b14v 61 [.int .i64 s11v.1, .int .i64 s11v.2.1, .int .i64 s11v.2.2.1, .int .i64 s11v.2.2.2.1, .int .i64 s11v.2.2.2.2.1, .int .i64 s11v.2.2.2.2.2.1, .int .i64 s11v.2.2.2.2.2.2.1, .int .i64 s11v.2.2.2.2.2.2.2.1, .int .i64 s11v.2.2.2.2.2.2.2.2.1, .int .i64 s11v.2.2.2.2.2.2.2.2.2.1, .int .i64 s11v.2.2.2.2.2.2.2.2.2.2.1, .int .i64 s11v.2.2.2.2.2.2.2.2.2.2.2.1, .int .i64 s11v.2.2.2.2.2.2.2.2.2.2.2.2.1, .int .i64 s11v.2.2.2.2.2.2.2.2.2.2.2.2.2.1, .int .i64 s11v.2.2.2.2.2.2.2.2.2.2.2.2.2.2.1, .int .i64 s11v.2.2.2.2.2.2.2.2.2.2.2.2.2.2.2.1, .int .i64 s11v.2.2.2.2.2.2.2.2.2.2.2.2.2.2.2.2.1, .int .i64 s11v.2.2.2.2.2.2.2.2.2.2.2.2.2.2.2.2.2.1, .int .i64 s11v.2.2.2.2.2.2.2.2.2.2.2.2.2.2.2.2.2.2.1], obj b10v 54 [.int .i64 s7v.1, .int .i64 s7v.2.1, .int .i64 s7v.2.2.1, .int .i64 s7v.2.2.2.1, .int .i64 s7v.2.2.2.2.1, .int .i64 s7v.2.2.2.2.2.1, .int .i64 s7v.2.2.2.2.2.2.1, .int .i64 s7v.2.2.2.2.2.2.2.1, .int .i64 s7v.2.2.2.2.2.2.2.2.1, .int .i64 s7v.2.2.2.2.2.2.2.2.2.1, .int .i64 s7v.2.2.2.2.2.2.2.2.2.2.1, .int .i64 s7v.2.2.2.2.2.2.2.2.2.2.2.1, .int .i64 s7v.2.2.2.2.2.2.2.2.2.2.2.2.1, .int .i64 s7v.2.2.2.2.2.2.2.2.2.2.2.2.2.1, .int .i64 s7v.2.2.2.2.2.2.2.2.2.2.2.2.2.2.1, .int .i64 s7v.2.2.2.2.2.2.2.2.2.2.2.2.2.2.2.1, .int .i64 s7v.2.2.2.2.2.2.2.2.2.2.2.2.2.2.2.2.1, .int .i64 s7v.2.2.2.2.2.2.2.2.2.2.2.2.2.2.2.2.2.1, .int .i64 s7v.2.2.2.2.2.2.2.2.2.2.2.2.2.2.2.2.2.2.1], obj b1v 54 [.int .i64 x1_0, .int .i64 x1_1, .int .i64 x1_2, .int .i64 x1_3, .int .i64 x1_4, .int .i64 x1_5, .int .i64 x1_6, .int .i64 x1_7, .int .i64 x1_8, .int .i64 x1_9, .int .i64 x1_10, .int .i64 x1_11, .int .i64 x1_12, .int .i64 x1_13, .int .i64 x1_14, .int .i64 x1_15, .int .i64 x1_16, .int .i64 x1_17, .int .i64 x1_18], F]) (Ent.refl _) ?_
 refine va rfl rfl (simL_nil (nrm_then (sim_seq ?_)))
 refine sim_bind (fun s21v hs22v => ?_)
 refine sim_bind (fun s27v hs28v => ?_)
 refine sim_draw (Γ := Unit) () [[], [0], [], [0, 1, 2], rL 4, rL 5, rL 6, rL 5, rL 8, rL 9, rL 10, rL 11, rL 12, rL 11, rL 14, rL 15, rL 16, rL 17, rL 18] [] [0, 1, 2, 3, 4, 5, 6, 7, 8, 9, 10, 11, 12, 13, 14, 15, 16, 17, 18] (fun i => [[0], [0], [0], [0], [0], [0], [0], [0], [0], [0], [0], [0], [0], [0], [0], [0], [0], [0], [0]].getD i []) (fun i => [[], [], [], [], [], [], [], [], [], [], [], [], [], [], [], [], [], [], []].getD i []) (fun γ i => [.agg #[.int .i64 s7v.1, .int .i64 s7v.2.1, .int .i64 s7v.2.2.1, .int .i64 s7v.2.2.2.1, .int .i64 s7v.2.2.2.2.1, .int .i64 s7v.2.2.2.2.2.1, .int .i64 s7v.2.2.2.2.2.2.1, .int .i64 s7v.2.2.2.2.2.2.2.1, .int .i64 s7v.2.2.2.2.2.2.2.2.1, .int .i64 s7v.2.2.2.2.2.2.2.2.2.1, .int .i64 s7v.2.2.2.2.2.2.2.2.2.2.1, .int .i64 s7v.2.2.2.2.2.2.2.2.2.2.2.1, .int .i64 s7v.2.2.2.2.2.2.2.2.2.2.2.2.1, .int .i64 s7v.2.2.2.2.2.2.2.2.2.2.2.2.2.1, .int .i64 s7v.2.2.2.2.2.2.2.2.2.2.2.2.2.2.1, .int .i64 s7v.2.2.2.2.2.2.2.2.2.2.2.2.2.2.2.1, .int .i64 s7v.2.2.2.2.2.2.2.2.2.2.2.2.2.2.2.2.1, .int .i64 s7v.2.2.2.2.2.2.2.2.2.2.2.2.2.2.2.2.2.1, .int .i64 s7v.2.2.2.2.2.2.2.2.2.2.2.2.2.2.2.2.2.2.1], .agg #[.int .i64 ((synodlaw15_Opts.u s7v).1), .int .i64 ((synodlaw15_Opts.u s7v).2.1), .int .i64 ((synodlaw15_Opts.u s7v).2.2.1), .int .i64 ((synodlaw15_Opts.u s7v).2.2.2.1), .int .i64 ((synodlaw15_Opts.u s7v).2.2.2.2.1), .int .i64 ((synodlaw15_Opts.u s7v).2.2.2.2.2.1), .int .i64 ((synodlaw15_Opts.u s7v).2.2.2.2.2.2.1), .int .i64 ((synodlaw15_Opts.u s7v).2.2.2.2.2.2.2.1), .int .i64 ((synodlaw15_Opts.u s7v).2.2.2.2.2.2.2.2.1), .int .i64 ((synodlaw15_Opts.u s7v).2.2.2.2.2.2.2.2.2.1), .int .i64 ((synodlaw15_Opts.u s7v).2.2.2.2.2.2.2.2.2.2.1), .int .i64 ((synodlaw15_Opts.u s7v).2.2.2.2.2.2.2.2.2.2.2.1), .int .i64 ((synodlaw15_Opts.u s7v).2.2.2.2.2.2.2.2.2.2.2.2.1), .int .i64 ((synodlaw15_Opts.u s7v).2.2.2.2.2.2.2.2.2.2.2.2.2.1), .int .i64 ((synodlaw15_Opts.u s7v).2.2.2.2.2.2.2.2.2.2.2.2.2.2.1), .int .i64 ((synodlaw15_Opts.u s7v).2.2.2.2.2.2.2.2.2.2.2.2.2.2.2.1), .int .i64 ((synodlaw15_Opts.u s7v).2.2.2.2.2.2.2.2.2.2.2.2.2.2.2.2.1), .int .i64 ((synodlaw15_Opts.u s7v).2.2.2.2.2.2.2.2.2.2.2.2.2.2.2.2.2.1), .int .i64 ((synodlaw15_Opts.u s7v).2.2.2.2.2.2.2.2.2.2.2.2.2.2.2.2.2.2)], .agg #[.int .i64 s11v.1, .int .i64 s11v.2.1, .int .i64 s11v.2.2.1, .int .i64 s11v.2.2.2.1, .int .i64 s11v.2.2.2.2.1, .int .i64 s11v.2.2.2.2.2.1, .int .i64 s11v.2.2.2.2.2.2.1, .int .i64 s11v.2.2.2.2.2.2.2.1, .int .i64 s11v.2.2.2.2.2.2.2.2.1, .int .i64 s11v.2.2.2.2.2.2.2.2.2.1, .int .i64 s11v.2.2.2.2.2.2.2.2.2.2.1, .int .i64 s11v.2.2.2.2.2.2.2.2.2.2.2.1, .int .i64 s11v.2.2.2.2.2.2.2.2.2.2.2.2.1, .int .i64 s11v.2.2.2.2.2.2.2.2.2.2.2.2.2.1, .int .i64 s11v.2.2.2.2.2.2.2.2.2.2.2.2.2.2.1, .int .i64 s11v.2.2.2.2.2.2.2.2.2.2.2.2.2.2.2.1, .int .i64 s11v.2.2.2.2.2.2.2.2.2.2.2.2.2.2.2.2.1, .int .i64 s11v.2.2.2.2.2.2.2.2.2.2.2.2.2.2.2.2.2.1, .int .i64 s11v.2.2.2.2.2.2.2.2.2.2.2.2.2.2.2.2.2.2.1], .bool (decide ((synodlaw15_Opts.u s7v).1 = s11v.1) && (decide ((synodlaw15_Opts.u s7v).2.1 = s11v.2.1) && (((decide ((synodlaw15_Opts.u s7v).2.2.1 = s11v.2.2.1) && (decide ((synodlaw15_Opts.u s7v).2.2.2.1 = s11v.2.2.2.1) && (decide ((synodlaw15_Opts.u s7v).2.2.2.2.1 = s11v.2.2.2.2.1) && (decide ((synodlaw15_Opts.u s7v).2.2.2.2.2.1 = s11v.2.2.2.2.2.1) && (decide ((synodlaw15_Opts.u s7v).2.2.2.2.2.2.1 = s11v.2.2.2.2.2.2.1) && (decide ((synodlaw15_Opts.u s7v).2.2.2.2.2.2.2.1 = s11v.2.2.2.2.2.2.2.1) && (decide ((synodlaw15_Opts.u s7v).2.2.2.2.2.2.2.2.1 = s11v.2.2.2.2.2.2.2.2.1) && (decide ((synodlaw15_Opts.u s7v).2.2.2.2.2.2.2.2.2.1 = s11v.2.2.2.2.2.2.2.2.2.1))))))))) && (decide ((synodlaw15_Opts.u s7v).2.2.2.2.2.2.2.2.2.2.1 = s11v.2.2.2.2.2.2.2.2.2.2.1) && (decide ((synodlaw15_Opts.u s7v).2.2.2.2.2.2.2.2.2.2.2.1 = s11v.2.2.2.2.2.2.2.2.2.2.2.1) && (decide ((synodlaw15_Opts.u s7v).2.2.2.2.2.2.2.2.2.2.2.2.1 = s11v.2.2.2.2.2.2.2.2.2.2.2.2.1) && (decide ((synodlaw15_Opts.u s7v).2.2.2.2.2.2.2.2.2.2.2.2.2.1 = s11v.2.2.2.2.2.2.2.2.2.2.2.2.2.1) && (decide ((synodlaw15_Opts.u s7v).2.2.2.2.2.2.2.2.2.2.2.2.2.2.1 = s11v.2.2.2.2.2.2.2.2.2.2.2.2.2.2.1) && (decide ((synodlaw15_Opts.u s7v).2.2.2.2.2.2.2.2.2.2.2.2.2.2.2.1 = s11v.2.2.2.2.2.2.2.2.2.2.2.2.2.2.2.1) && (decide ((synodlaw15_Opts.u s7v).2.2.2.2.2.2.2.2.2.2.2.2.2.2.2.2.1 = s11v.2.2.2.2.2.2.2.2.2.2.2.2.2.2.2.2.1) && (decide ((synodlaw15_Opts.u s7v).2.2.2.2.2.2.2.2.2.2.2.2.2.2.2.2.2.1 = s11v.2.2.2.2.2.2.2.2.2.2.2.2.2.2.2.2.2.1) && (decide ((synodlaw15_Opts.u s7v).2.2.2.2.2.2.2.2.2.2.2.2.2.2.2.2.2.2 = s11v.2.2.2.2.2.2.2.2.2.2.2.2.2.2.2.2.2.2.1)))))))))))))), .bool (decide ((synodlaw15_Opts.u s7v).1 = s11v.1) && (decide ((synodlaw15_Opts.u s7v).2.1 = s11v.2.1) && (((decide ((synodlaw15_Opts.u s7v).2.2.1 = s11v.2.2.1) && (decide ((synodlaw15_Opts.u s7v).2.2.2.1 = s11v.2.2.2.1) && (decide ((synodlaw15_Opts.u s7v).2.2.2.2.1 = s11v.2.2.2.2.1) && (decide ((synodlaw15_Opts.u s7v).2.2.2.2.2.1 = s11v.2.2.2.2.2.1) && (decide ((synodlaw15_Opts.u s7v).2.2.2.2.2.2.1 = s11v.2.2.2.2.2.2.1) && (decide ((synodlaw15_Opts.u s7v).2.2.2.2.2.2.2.1 = s11v.2.2.2.2.2.2.2.1) && (decide ((synodlaw15_Opts.u s7v).2.2.2.2.2.2.2.2.1 = s11v.2.2.2.2.2.2.2.2.1) && (decide ((synodlaw15_Opts.u s7v).2.2.2.2.2.2.2.2.2.1 = s11v.2.2.2.2.2.2.2.2.2.1))))))))) && (decide ((synodlaw15_Opts.u s7v).2.2.2.2.2.2.2.2.2.2.1 = s11v.2.2.2.2.2.2.2.2.2.2.1) && (decide ((synodlaw15_Opts.u s7v).2.2.2.2.2.2.2.2.2.2.2.1 = s11v.2.2.2.2.2.2.2.2.2.2.2.1) && (decide ((synodlaw15_Opts.u s7v).2.2.2.2.2.2.2.2.2.2.2.2.1 = s11v.2.2.2.2.2.2.2.2.2.2.2.2.1) && (decide ((synodlaw15_Opts.u s7v).2.2.2.2.2.2.2.2.2.2.2.2.2.1 = s11v.2.2.2.2.2.2.2.2.2.2.2.2.2.1) && (decide ((synodlaw15_Opts.u s7v).2.2.2.2.2.2.2.2.2.2.2.2.2.2.1 = s11v.2.2.2.2.2.2.2.2.2.2.2.2.2.2.1) && (decide ((synodlaw15_Opts.u s7v).2.2.2.2.2.2.2.2.2.2.2.2.2.2.2.1 = s11v.2.2.2.2.2.2.2.2.2.2.2.2.2.2.2.1) && (decide ((synodlaw15_Opts.u s7v).2.2.2.2.2.2.2.2.2.2.2.2.2.2.2.2.1 = s11v.2.2.2.2.2.2.2.2.2.2.2.2.2.2.2.2.1) && (decide ((synodlaw15_Opts.u s7v).2.2.2.2.2.2.2.2.2.2.2.2.2.2.2.2.2.1 = s11v.2.2.2.2.2.2.2.2.2.2.2.2.2.2.2.2.2.1) && (decide ((synodlaw15_Opts.u s7v).2.2.2.2.2.2.2.2.2.2.2.2.2.2.2.2.2.2 = s11v.2.2.2.2.2.2.2.2.2.2.2.2.2.2.2.2.2.2.1)))))))))))))), cv ((decide ((synodlaw15_Opts.u s7v).1 = s11v.1) && (decide ((synodlaw15_Opts.u s7v).2.1 = s11v.2.1) && (((decide ((synodlaw15_Opts.u s7v).2.2.1 = s11v.2.2.1) && (decide ((synodlaw15_Opts.u s7v).2.2.2.1 = s11v.2.2.2.1) && (decide ((synodlaw15_Opts.u s7v).2.2.2.2.1 = s11v.2.2.2.2.1) && (decide ((synodlaw15_Opts.u s7v).2.2.2.2.2.1 = s11v.2.2.2.2.2.1) && (decide ((synodlaw15_Opts.u s7v).2.2.2.2.2.2.1 = s11v.2.2.2.2.2.2.1) && (decide ((synodlaw15_Opts.u s7v).2.2.2.2.2.2.2.1 = s11v.2.2.2.2.2.2.2.1) && (decide ((synodlaw15_Opts.u s7v).2.2.2.2.2.2.2.2.1 = s11v.2.2.2.2.2.2.2.2.1) && (decide ((synodlaw15_Opts.u s7v).2.2.2.2.2.2.2.2.2.1 = s11v.2.2.2.2.2.2.2.2.2.1))))))))) && (decide ((synodlaw15_Opts.u s7v).2.2.2.2.2.2.2.2.2.2.1 = s11v.2.2.2.2.2.2.2.2.2.2.1) && (decide ((synodlaw15_Opts.u s7v).2.2.2.2.2.2.2.2.2.2.2.1 = s11v.2.2.2.2.2.2.2.2.2.2.2.1) && (decide ((synodlaw15_Opts.u s7v).2.2.2.2.2.2.2.2.2.2.2.2.1 = s11v.2.2.2.2.2.2.2.2.2.2.2.2.1) && (decide ((synodlaw15_Opts.u s7v).2.2.2.2.2.2.2.2.2.2.2.2.2.1 = s11v.2.2.2.2.2.2.2.2.2.2.2.2.2.1) && (decide ((synodlaw15_Opts.u s7v).2.2.2.2.2.2.2.2.2.2.2.2.2.2.1 = s11v.2.2.2.2.2.2.2.2.2.2.2.2.2.2.1) && (decide ((synodlaw15_Opts.u s7v).2.2.2.2.2.2.2.2.2.2.2.2.2.2.2.1 = s11v.2.2.2.2.2.2.2.2.2.2.2.2.2.2.2.1) && (decide ((synodlaw15_Opts.u s7v).2.2.2.2.2.2.2.2.2.2.2.2.2.2.2.2.1 = s11v.2.2.2.2.2.2.2.2.2.2.2.2.2.2.2.2.1) && (decide ((synodlaw15_Opts.u s7v).2.2.2.2.2.2.2.2.2.2.2.2.2.2.2.2.2.1 = s11v.2.2.2.2.2.2.2.2.2.2.2.2.2.2.2.2.2.1) && (decide ((synodlaw15_Opts.u s7v).2.2.2.2.2.2.2.2.2.2.2.2.2.2.2.2.2.2 = s11v.2.2.2.2.2.2.2.2.2.2.2.2.2.2.2.2.2.2.1)))))))))))))) == true) (.int .i64 s7v.2.2.2.2.2.2.2.2.2.2.2.2.2.2.2.2.2.2.2), cv ((decide ((synodlaw15_Opts.u s7v).1 = s11v.1) && (decide ((synodlaw15_Opts.u s7v).2.1 = s11v.2.1) && (((decide ((synodlaw15_Opts.u s7v).2.2.1 = s11v.2.2.1) && (decide ((synodlaw15_Opts.u s7v).2.2.2.1 = s11v.2.2.2.1) && (decide ((synodlaw15_Opts.u s7v).2.2.2.2.1 = s11v.2.2.2.2.1) && (decide ((synodlaw15_Opts.u s7v).2.2.2.2.2.1 = s11v.2.2.2.2.2.1) && (decide ((synodlaw15_Opts.u s7v).2.2.2.2.2.2.1 = s11v.2.2.2.2.2.2.1) && (decide ((synodlaw15_Opts.u s7v).2.2.2.2.2.2.2.1 = s11v.2.2.2.2.2.2.2.1) && (decide ((synodlaw15_Opts.u s7v).2.2.2.2.2.2.2.2.1 = s11v.2.2.2.2.2.2.2.2.1) && (decide ((synodlaw15_Opts.u s7v).2.2.2.2.2.2.2.2.2.1 = s11v.2.2.2.2.2.2.2.2.2.1))))))))) && (decide ((synodlaw15_Opts.u s7v).2.2.2.2.2.2.2.2.2.2.1 = s11v.2.2.2.2.2.2.2.2.2.2.1) && (decide ((synodlaw15_Opts.u s7v).2.2.2.2.2.2.2.2.2.2.2.1 = s11v.2.2.2.2.2.2.2.2.2.2.2.1) && (decide ((synodlaw15_Opts.u s7v).2.2.2.2.2.2.2.2.2.2.2.2.1 = s11v.2.2.2.2.2.2.2.2.2.2.2.2.1) && (decide ((synodlaw15_Opts.u s7v).2.2.2.2.2.2.2.2.2.2.2.2.2.1 = s11v.2.2.2.2.2.2.2.2.2.2.2.2.2.1) && (decide ((synodlaw15_Opts.u s7v).2.2.2.2.2.2.2.2.2.2.2.2.2.2.1 = s11v.2.2.2.2.2.2.2.2.2.2.2.2.2.2.1) && (decide ((synodlaw15_Opts.u s7v).2.2.2.2.2.2.2.2.2.2.2.2.2.2.2.1 = s11v.2.2.2.2.2.2.2.2.2.2.2.2.2.2.2.1) && (decide ((synodlaw15_Opts.u s7v).2.2.2.2.2.2.2.2.2.2.2.2.2.2.2.2.1 = s11v.2.2.2.2.2.2.2.2.2.2.2.2.2.2.2.2.1) && (decide ((synodlaw15_Opts.u s7v).2.2.2.2.2.2.2.2.2.2.2.2.2.2.2.2.2.1 = s11v.2.2.2.2.2.2.2.2.2.2.2.2.2.2.2.2.2.1) && (decide ((synodlaw15_Opts.u s7v).2.2.2.2.2.2.2.2.2.2.2.2.2.2.2.2.2.2 = s11v.2.2.2.2.2.2.2.2.2.2.2.2.2.2.2.2.2.2.1)))))))))))))) == true) (.int .i64 (synodref_Num.v s7v.2.2.2.2.2.2.2.2.2.2.2.2.2.2.2.2.2.2.2)), cv ((decide ((synodlaw15_Opts.u s7v).1 = s11v.1) && (decide ((synodlaw15_Opts.u s7v).2.1 = s11v.2.1) && (((decide ((synodlaw15_Opts.u s7v).2.2.1 = s11v.2.2.1) && (decide ((synodlaw15_Opts.u s7v).2.2.2.1 = s11v.2.2.2.1) && (decide ((synodlaw15_Opts.u s7v).2.2.2.2.1 = s11v.2.2.2.2.1) && (decide ((synodlaw15_Opts.u s7v).2.2.2.2.2.1 = s11v.2.2.2.2.2.1) && (decide ((synodlaw15_Opts.u s7v).2.2.2.2.2.2.1 = s11v.2.2.2.2.2.2.1) && (decide ((synodlaw15_Opts.u s7v).2.2.2.2.2.2.2.1 = s11v.2.2.2.2.2.2.2.1) && (decide ((synodlaw15_Opts.u s7v).2.2.2.2.2.2.2.2.1 = s11v.2.2.2.2.2.2.2.2.1) && (decide ((synodlaw15_Opts.u s7v).2.2.2.2.2.2.2.2.2.1 = s11v.2.2.2.2.2.2.2.2.2.1))))))))) && (decide ((synodlaw15_Opts.u s7v).2.2.2.2.2.2.2.2.2.2.1 = s11v.2.2.2.2.2.2.2.2.2.2.1) && (decide ((synodlaw15_Opts.u s7v).2.2.2.2.2.2.2.2.2.2.2.1 = s11v.2.2.2.2.2.2.2.2.2.2.2.1) && (decide ((synodlaw15_Opts.u s7v).2.2.2.2.2.2.2.2.2.2.2.2.1 = s11v.2.2.2.2.2.2.2.2.2.2.2.2.1) && (decide ((synodlaw15_Opts.u s7v).2.2.2.2.2.2.2.2.2.2.2.2.2.1 = s11v.2.2.2.2.2.2.2.2.2.2.2.2.2.1) && (decide ((synodlaw15_Opts.u s7v).2.2.2.2.2.2.2.2.2.2.2.2.2.2.1 = s11v.2.2.2.2.2.2.2.2.2.2.2.2.2.2.1) && (decide ((synodlaw15_Opts.u s7v).2.2.2.2.2.2.2.2.2.2.2.2.2.2.2.1 = s11v.2.2.2.2.2.2.2.2.2.2.2.2.2.2.2.1) && (decide ((synodlaw15_Opts.u s7v).2.2.2.2.2.2.2.2.2.2.2.2.2.2.2.2.1 = s11v.2.2.2.2.2.2.2.2.2.2.2.2.2.2.2.2.1) && (decide ((synodlaw15_Opts.u s7v).2.2.2.2.2.2.2.2.2.2.2.2.2.2.2.2.2.1 = s11v.2.2.2.2.2.2.2.2.2.2.2.2.2.2.2.2.2.1) && (decide ((synodlaw15_Opts.u s7v).2.2.2.2.2.2.2.2.2.2.2.2.2.2.2.2.2.2 = s11v.2.2.2.2.2.2.2.2.2.2.2.2.2.2.2.2.2.2.1)))))))))))))) == true) (.int .i64 s11v.2.2.2.2.2.2.2.2.2.2.2.2.2.2.2.2.2.2.2), cv ((decide ((synodlaw15_Opts.u s7v).1 = s11v.1) && (decide ((synodlaw15_Opts.u s7v).2.1 = s11v.2.1) && (((decide ((synodlaw15_Opts.u s7v).2.2.1 = s11v.2.2.1) && (decide ((synodlaw15_Opts.u s7v).2.2.2.1 = s11v.2.2.2.1) && (decide ((synodlaw15_Opts.u s7v).2.2.2.2.1 = s11v.2.2.2.2.1) && (decide ((synodlaw15_Opts.u s7v).2.2.2.2.2.1 = s11v.2.2.2.2.2.1) && (decide ((synodlaw15_Opts.u s7v).2.2.2.2.2.2.1 = s11v.2.2.2.2.2.2.1) && (decide ((synodlaw15_Opts.u s7v).2.2.2.2.2.2.2.1 = s11v.2.2.2.2.2.2.2.1) && (decide ((synodlaw15_Opts.u s7v).2.2.2.2.2.2.2.2.1 = s11v.2.2.2.2.2.2.2.2.1) && (decide ((synodlaw15_Opts.u s7v).2.2.2.2.2.2.2.2.2.1 = s11v.2.2.2.2.2.2.2.2.2.1))))))))) && (decide ((synodlaw15_Opts.u s7v).2.2.2.2.2.2.2.2.2.2.1 = s11v.2.2.2.2.2.2.2.2.2.2.1) && (decide ((synodlaw15_Opts.u s7v).2.2.2.2.2.2.2.2.2.2.2.1 = s11v.2.2.2.2.2.2.2.2.2.2.2.1) && (decide ((synodlaw15_Opts.u s7v).2.2.2.2.2.2.2.2.2.2.2.2.1 = s11v.2.2.2.2.2.2.2.2.2.2.2.2.1) && (decide ((synodlaw15_Opts.u s7v).2.2.2.2.2.2.2.2.2.2.2.2.2.1 = s11v.2.2.2.2.2.2.2.2.2.2.2.2.2.1) && (decide ((synodlaw15_Opts.u s7v).2.2.2.2.2.2.2.2.2.2.2.2.2.2.1 = s11v.2.2.2.2.2.2.2.2.2.2.2.2.2.2.1) && (decide ((synodlaw15_Opts.u s7v).2.2.2.2.2.2.2.2.2.2.2.2.2.2.2.1 = s11v.2.2.2.2.2.2.2.2.2.2.2.2.2.2.2.1) && (decide ((synodlaw15_Opts.u s7v).2.2.2.2.2.2.2.2.2.2.2.2.2.2.2.2.1 = s11v.2.2.2.2.2.2.2.2.2.2.2.2.2.2.2.2.1) && (decide ((synodlaw15_Opts.u s7v).2.2.2.2.2.2.2.2.2.2.2.2.2.2.2.2.2.1 = s11v.2.2.2.2.2.2.2.2.2.2.2.2.2.2.2.2.2.1) && (decide ((synodlaw15_Opts.u s7v).2.2.2.2.2.2.2.2.2.2.2.2.2.2.2.2.2.2 = s11v.2.2.2.2.2.2.2.2.2.2.2.2.2.2.2.2.2.2.1)))))))))))))) == true) (.bool (decide ((synodref_Num.v s7v.2.2.2.2.2.2.2.2.2.2.2.2.2.2.2.2.2.2.2) = s11v.2.2.2.2.2.2.2.2.2.2.2.2.2.2.2.2.2.2.2))), .bool ((decide ((synodlaw15_Opts.u s7v).1 = s11v.1) && (decide ((synodlaw15_Opts.u s7v).2.1 = s11v.2.1) && (((decide ((synodlaw15_Opts.u s7v).2.2.1 = s11v.2.2.1) && (decide ((synodlaw15_Opts.u s7v).2.2.2.1 = s11v.2.2.2.1) && (decide ((synodlaw15_Opts.u s7v).2.2.2.2.1 = s11v.2.2.2.2.1) && (decide ((synodlaw15_Opts.u s7v).2.2.2.2.2.1 = s11v.2.2.2.2.2.1) && (decide ((synodlaw15_Opts.u s7v).2.2.2.2.2.2.1 = s11v.2.2.2.2.2.2.1) && (decide ((synodlaw15_Opts.u s7v).2.2.2.2.2.2.2.1 = s11v.2.2.2.2.2.2.2.1) && (decide ((synodlaw15_Opts.u s7v).2.2.2.2.2.2.2.2.1 = s11v.2.2.2.2.2.2.2.2.1) && (decide ((synodlaw15_Opts.u s7v).2.2.2.2.2.2.2.2.2.1 = s11v.2.2.2.2.2.2.2.2.2.1))))))))) && (decide ((synodlaw15_Opts.u s7v).2.2.2.2.2.2.2.2.2.2.1 = s11v.2.2.2.2.2.2.2.2.2.2.1) && (decide ((synodlaw15_Opts.u s7v).2.2.2.2.2.2.2.2.2.2.2.1 = s11v.2.2.2.2.2.2.2.2.2.2.2.1) && (decide ((synodlaw15_Opts.u s7v).2.2.2.2.2.2.2.2.2.2.2.2.1 = s11v.2.2.2.2.2.2.2.2.2.2.2.2.1) && (decide ((synodlaw15_Opts.u s7v).2.2.2.2.2.2.2.2.2.2.2.2.2.1 = s11v.2.2.2.2.2.2.2.2.2.2.2.2.2.1) && (decide ((synodlaw15_Opts.u s7v).2.2.2.2.2.2.2.2.2.2.2.2.2.2.1 = s11v.2.2.2.2.2.2.2.2.2.2.2.2.2.2.1) && (decide ((synodlaw15_Opts.u s7v).2.2.2.2.2.2.2.2.2.2.2.2.2.2.2.1 = s11v.2.2.2.2.2.2.2.2.2.2.2.2.2.2.2.1) && (decide ((synodlaw15_Opts.u s7v).2.2.2.2.2.2.2.2.2.2.2.2.2.2.2.2.1 = s11v.2.2.2.2.2.2.2.2.2.2.2.2.2.2.2.2.1) && (decide ((synodlaw15_Opts.u s7v).2.2.2.2.2.2.2.2.2.2.2.2.2.2.2.2.2.1 = s11v.2.2.2.2.2.2.2.2.2.2.2.2.2.2.2.2.2.1) && (decide ((synodlaw15_Opts.u s7v).2.2.2.2.2.2.2.2.2.2.2.2.2.2.2.2.2.2 = s11v.2.2.2.2.2.2.2.2.2.2.2.2.2.2.2.2.2.2.1)))))))))))))) && (decide ((synodref_Num.v s7v.2.2.2.2.2.2.2.2.2.2.2.2.2.2.2.2.2.2.2) = s11v.2.2.2.2.2.2.2.2.2.2.2.2.2.2.2.2.2.2.2))), .bool ((decide ((synodlaw15_Opts.u s7v).1 = s11v.1) && (decide ((synodlaw15_Opts.u s7v).2.1 = s11v.2.1) && (((decide ((synodlaw15_Opts.u s7v).2.2.1 = s11v.2.2.1) && (decide ((synodlaw15_Opts.u s7v).2.2.2.1 = s11v.2.2.2.1) && (decide ((synodlaw15_Opts.u s7v).2.2.2.2.1 = s11v.2.2.2.2.1) && (decide ((synodlaw15_Opts.u s7v).2.2.2.2.2.1 = s11v.2.2.2.2.2.1) && (decide ((synodlaw15_Opts.u s7v).2.2.2.2.2.2.1 = s11v.2.2.2.2.2.2.1) && (decide ((synodlaw15_Opts.u s7v).2.2.2.2.2.2.2.1 = s11v.2.2.2.2.2.2.2.1) && (decide ((synodlaw15_Opts.u s7v).2.2.2.2.2.2.2.2.1 = s11v.2.2.2.2.2.2.2.2.1) && (decide ((synodlaw15_Opts.u s7v).2.2.2.2.2.2.2.2.2.1 = s11v.2.2.2.2.2.2.2.2.2.1))))))))) && (decide ((synodlaw15_Opts.u s7v).2.2.2.2.2.2.2.2.2.2.1 = s11v.2.2.2.2.2.2.2.2.2.2.1) && (decide ((synodlaw15_Opts.u s7v).2.2.2.2.2.2.2.2.2.2.2.1 = s11v.2.2.2.2.2.2.2.2.2.2.2.1) && (decide ((synodlaw15_Opts.u s7v).2.2.2.2.2.2.2.2.2.2.2.2.1 = s11v.2.2.2.2.2.2.2.2.2.2.2.2.1) && (decide ((synodlaw15_Opts.u s7v).2.2.2.2.2.2.2.2.2.2.2.2.2.1 = s11v.2.2.2.2.2.2.2.2.2.2.2.2.2.1) && (decide ((synodlaw15_Opts.u s7v).2.2.2.2.2.2.2.2.2.2.2.2.2.2.1 = s11v.2.2.2.2.2.2.2.2.2.2.2.2.2.2.1) && (decide ((synodlaw15_Opts.u s7v).2.2.2.2.2.2.2.2.2.2.2.2.2.2.2.1 = s11v.2.2.2.2.2.2.2.2.2.2.2.2.2.2.2.1) && (decide ((synodlaw15_Opts.u s7v).2.2.2.2.2.2.2.2.2.2.2.2.2.2.2.2.1 = s11v.2.2.2.2.2.2.2.2.2.2.2.2.2.2.2.2.1) && (decide ((synodlaw15_Opts.u s7v).2.2.2.2.2.2.2.2.2.2.2.2.2.2.2.2.2.1 = s11v.2.2.2.2.2.2.2.2.2.2.2.2.2.2.2.2.2.1) && (decide ((synodlaw15_Opts.u s7v).2.2.2.2.2.2.2.2.2.2.2.2.2.2.2.2.2.2 = s11v.2.2.2.2.2.2.2.2.2.2.2.2.2.2.2.2.2.2.1)))))))))))))) && (decide ((synodref_Num.v s7v.2.2.2.2.2.2.2.2.2.2.2.2.2.2.2.2.2.2.2) = s11v.2.2.2.2.2.2.2.2.2.2.2.2.2.2.2.2.2.2.2))), cv (((decide ((synodlaw15_Opts.u s7v).1 = s11v.1) && (decide ((synodlaw15_Opts.u s7v).2.1 = s11v.2.1) && (((decide ((synodlaw15_Opts.u s7v).2.2.1 = s11v.2.2.1) && (decide ((synodlaw15_Opts.u s7v).2.2.2.1 = s11v.2.2.2.1) && (decide ((synodlaw15_Opts.u s7v).2.2.2.2.1 = s11v.2.2.2.2.1) && (decide ((synodlaw15_Opts.u s7v).2.2.2.2.2.1 = s11v.2.2.2.2.2.1) && (decide ((synodlaw15_Opts.u s7v).2.2.2.2.2.2.1 = s11v.2.2.2.2.2.2.1) && (decide ((synodlaw15_Opts.u s7v).2.2.2.2.2.2.2.1 = s11v.2.2.2.2.2.2.2.1) && (decide ((synodlaw15_Opts.u s7v).2.2.2.2.2.2.2.2.1 = s11v.2.2.2.2.2.2.2.2.1) && (decide ((synodlaw15_Opts.u s7v).2.2.2.2.2.2.2.2.2.1 = s11v.2.2.2.2.2.2.2.2.2.1))))))))) && (decide ((synodlaw15_Opts.u s7v).2.2.2.2.2.2.2.2.2.2.1 = s11v.2.2.2.2.2.2.2.2.2.2.1) && (decide ((synodlaw15_Opts.u s7v).2.2.2.2.2.2.2.2.2.2.2.1 = s11v.2.2.2.2.2.2.2.2.2.2.2.1) && (decide ((synodlaw15_Opts.u s7v).2.2.2.2.2.2.2.2.2.2.2.2.1 = s11v.2.2.2.2.2.2.2.2.2.2.2.2.1) && (decide ((synodlaw15_Opts.u s7v).2.2.2.2.2.2.2.2.2.2.2.2.2.1 = s11v.2.2.2.2.2.2.2.2.2.2.2.2.2.1) && (decide ((synodlaw15_Opts.u s7v).2.2.2.2.2.2.2.2.2.2.2.2.2.2.1 = s11v.2.2.2.2.2.2.2.2.2.2.2.2.2.2.1) && (decide ((synodlaw15_Opts.u s7v).2.2.2.2.2.2.2.2.2.2.2.2.2.2.2.1 = s11v.2.2.2.2.2.2.2.2.2.2.2.2.2.2.2.1) && (decide ((synodlaw15_Opts.u s7v).2.2.2.2.2.2.2.2.2.2.2.2.2.2.2.2.1 = s11v.2.2.2.2.2.2.2.2.2.2.2.2.2.2.2.2.1) && (decide ((synodlaw15_Opts.u s7v).2.2.2.2.2.2.2.2.2.2.2.2.2.2.2.2.2.1 = s11v.2.2.2.2.2.2.2.2.2.2.2.2.2.2.2.2.2.1) && (decide ((synodlaw15_Opts.u s7v).2.2.2.2.2.2.2.2.2.2.2.2.2.2.2.2.2.2 = s11v.2.2.2.2.2.2.2.2.2.2.2.2.2.2.2.2.2.2.1)))))))))))))) && (decide ((synodref_Num.v s7v.2.2.2.2.2.2.2.2.2.2.2.2.2.2.2.2.2.2.2) = s11v.2.2.2.2.2.2.2.2.2.2.2.2.2.2.2.2.2.2.2))) == true) (.agg #[.int .i64 x1_0, .int .i64 x1_1, .int .i64 x1_2, .int .i64 x1_3, .int .i64 x1_4, .int .i64 x1_5, .int .i64 x1_6, .int .i64 x1_7, .int .i64 x1_8, .int .i64 x1_9, .int .i64 x1_10, .int .i64 x1_11, .int .i64 x1_12, .int .i64 x1_13, .int .i64 x1_14, .int .i64 x1_15, .int .i64 x1_16, .int .i64 x1_17, .int .i64 x1_18]), cv (((decide ((synodlaw15_Opts.u s7v).1 = s11v.1) && (decide ((synodlaw15_Opts.u s7v).2.1 = s11v.2.1) && (((decide ((synodlaw15_Opts.u s7v).2.2.1 = s11v.2.2.1) && (decide ((synodlaw15_Opts.u s7v).2.2.2.1 = s11v.2.2.2.1) && (decide ((synodlaw15_Opts.u s7v).2.2.2.2.1 = s11v.2.2.2.2.1) && (decide ((synodlaw15_Opts.u s7v).2.2.2.2.2.1 = s11v.2.2.2.2.2.1) && (decide ((synodlaw15_Opts.u s7v).2.2.2.2.2.2.1 = s11v.2.2.2.2.2.2.1) && (decide ((synodlaw15_Opts.u s7v).2.2.2.2.2.2.2.1 = s11v.2.2.2.2.2.2.2.1) && (decide ((synodlaw15_Opts.u s7v).2.2.2.2.2.2.2.2.1 = s11v.2.2.2.2.2.2.2.2.1) && (decide ((synodlaw15_Opts.u s7v).2.2.2.2.2.2.2.2.2.1 = s11v.2.2.2.2.2.2.2.2.2.1))))))))) && (decide ((synodlaw15_Opts.u s7v).2.2.2.2.2.2.2.2.2.2.1 = s11v.2.2.2.2.2.2.2.2.2.2.1) && (decide ((synodlaw15_Opts.u s7v).2.2.2.2.2.2.2.2.2.2.2.1 = s11v.2.2.2.2.2.2.2.2.2.2.2.1) && (decide ((synodlaw15_Opts.u s7v).2.2.2.2.2.2.2.2.2.2.2.2.1 = s11v.2.2.2.2.2.2.2.2.2.2.2.2.1) && (decide ((synodlaw15_Opts.u s7v).2.2.2.2.2.2.2.2.2.2.2.2.2.1 = s11v.2.2.2.2.2.2.2.2.2.2.2.2.2.1) && (decide ((synodlaw15_Opts.u s7v).2.2.2.2.2.2.2.2.2.2.2.2.2.2.1 = s11v.2.2.2.2.2.2.2.2.2.2.2.2.2.2.1) && (decide ((synodlaw15_Opts.u s7v).2.2.2.2.2.2.2.2.2.2.2.2.2.2.2.1 = s11v.2.2.2.2.2.2.2.2.2.2.2.2.2.2.2.1) && (decide ((synodlaw15_Opts.u s7v).2.2.2.2.2.2.2.2.2.2.2.2.2.2.2.2.1 = s11v.2.2.2.2.2.2.2.2.2.2.2.2.2.2.2.2.1) && (decide ((synodlaw15_Opts.u s7v).2.2.2.2.2.2.2.2.2.2.2.2.2.2.2.2.2.1 = s11v.2.2.2.2.2.2.2.2.2.2.2.2.2.2.2.2.2.1) && (decide ((synodlaw15_Opts.u s7v).2.2.2.2.2.2.2.2.2.2.2.2.2.2.2.2.2.2 = s11v.2.2.2.2.2.2.2.2.2.2.2.2.2.2.2.2.2.2.1)))))))))))))) && (decide ((synodref_Num.v s7v.2.2.2.2.2.2.2.2.2.2.2.2.2.2.2.2.2.2.2) = s11v.2.2.2.2.2.2.2.2.2.2.2.2.2.2.2.2.2.2.2))) == true) (str s21v), cv (((decide ((synodlaw15_Opts.u s7v).1 = s11v.1) && (decide ((synodlaw15_Opts.u s7v).2.1 = s11v.2.1) && (((decide ((synodlaw15_Opts.u s7v).2.2.1 = s11v.2.2.1) && (decide ((synodlaw15_Opts.u s7v).2.2.2.1 = s11v.2.2.2.1) && (decide ((synodlaw15_Opts.u s7v).2.2.2.2.1 = s11v.2.2.2.2.1) && (decide ((synodlaw15_Opts.u s7v).2.2.2.2.2.1 = s11v.2.2.2.2.2.1) && (decide ((synodlaw15_Opts.u s7v).2.2.2.2.2.2.1 = s11v.2.2.2.2.2.2.1) && (decide ((synodlaw15_Opts.u s7v).2.2.2.2.2.2.2.1 = s11v.2.2.2.2.2.2.2.1) && (decide ((synodlaw15_Opts.u s7v).2.2.2.2.2.2.2.2.1 = s11v.2.2.2.2.2.2.2.2.1) && (decide ((synodlaw15_Opts.u s7v).2.2.2.2.2.2.2.2.2.1 = s11v.2.2.2.2.2.2.2.2.2.1))))))))) && (decide ((synodlaw15_Opts.u s7v).2.2.2.2.2.2.2.2.2.2.1 = s11v.2.2.2.2.2.2.2.2.2.2.1) && (decide ((synodlaw15_Opts.u s7v).2.2.2.2.2.2.2.2.2.2.2.1 = s11v.2.2.2.2.2.2.2.2.2.2.2.1) && (decide ((synodlaw15_Opts.u s7v).2.2.2.2.2.2.2.2.2.2.2.2.1 = s11v.2.2.2.2.2.2.2.2.2.2.2.2.1) && (decide ((synodlaw15_Opts.u s7v).2.2.2.2.2.2.2.2.2.2.2.2.2.1 = s11v.2.2.2.2.2.2.2.2.2.2.2.2.2.1) && (decide ((synodlaw15_Opts.u s7v).2.2.2.2.2.2.2.2.2.2.2.2.2.2.1 = s11v.2.2.2.2.2.2.2.2.2.2.2.2.2.2.1) && (decide ((synodlaw15_Opts.u s7v).2.2.2.2.2.2.2.2.2.2.2.2.2.2.2.1 = s11v.2.2.2.2.2.2.2.2.2.2.2.2.2.2.2.1) && (decide ((synodlaw15_Opts.u s7v).2.2.2.2.2.2.2.2.2.2.2.2.2.2.2.2.1 = s11v.2.2.2.2.2.2.2.2.2.2.2.2.2.2.2.2.1) && (decide ((synodlaw15_Opts.u s7v).2.2.2.2.2.2.2.2.2.2.2.2.2.2.2.2.2.1 = s11v.2.2.2.2.2.2.2.2.2.2.2.2.2.2.2.2.2.1) && (decide ((synodlaw15_Opts.u s7v).2.2.2.2.2.2.2.2.2.2.2.2.2.2.2.2.2.2 = s11v.2.2.2.2.2.2.2.2.2.2.2.2.2.2.2.2.2.2.1)))))))))))))) && (decide ((synodref_Num.v s7v.2.2.2.2.2.2.2.2.2.2.2.2.2.2.2.2.2.2.2) = s11v.2.2.2.2.2.2.2.2.2.2.2.2.2.2.2.2.2.2.2))) == true) (.agg #[.int .i64 x1_0, .int .i64 x1_1, .int .i64 x1_2, .int .i64 x1_3, .int .i64 x1_4, .int .i64 x1_5, .int .i64 x1_6, .int .i64 x1_7, .int .i64 x1_8, .int .i64 x1_9, .int .i64 x1_10, .int .i64 x1_11, .int .i64 x1_12, .int .i64 x1_13, .int .i64 x1_14, .int .i64 x1_15, .int .i64 x1_16, .int .i64 x1_17, .int .i64 x1_18]), cv (((decide ((synodlaw15_Opts.u s7v).1 = s11v.1) && (decide ((synodlaw15_Opts.u s7v).2.1 = s11v.2.1) && (((decide ((synodlaw15_Opts.u s7v).2.2.1 = s11v.2.2.1) && (decide ((synodlaw15_Opts.u s7v).2.2.2.1 = s11v.2.2.2.1) && (decide ((synodlaw15_Opts.u s7v).2.2.2.2.1 = s11v.2.2.2.2.1) && (decide ((synodlaw15_Opts.u s7v).2.2.2.2.2.1 = s11v.2.2.2.2.2.1) && (decide ((synodlaw15_Opts.u s7v).2.2.2.2.2.2.1 = s11v.2.2.2.2.2.2.1) && (decide ((synodlaw15_Opts.u s7v).2.2.2.2.2.2.2.1 = s11v.2.2.2.2.2.2.2.1) && (decide ((synodlaw15_Opts.u s7v).2.2.2.2.2.2.2.2.1 = s11v.2.2.2.2.2.2.2.2.1) && (decide ((synodlaw15_Opts.u s7v).2.2.2.2.2.2.2.2.2.1 = s11v.2.2.2.2.2.2.2.2.2.1))))))))) && (decide ((synodlaw15_Opts.u s7v).2.2.2.2.2.2.2.2.2.2.1 = s11v.2.2.2.2.2.2.2.2.2.2.1) && (decide ((synodlaw15_Opts.u s7v).2.2.2.2.2.2.2.2.2.2.2.1 = s11v.2.2.2.2.2.2.2.2.2.2.2.1) && (decide ((synodlaw15_Opts.u s7v).2.2.2.2.2.2.2.2.2.2.2.2.1 = s11v.2.2.2.2.2.2.2.2.2.2.2.2.1) && (decide ((synodlaw15_Opts.u s7v).2.2.2.2.2.2.2.2.2.2.2.2.2.1 = s11v.2.2.2.2.2.2.2.2.2.2.2.2.2.1) && (decide ((synodlaw15_Opts.u s7v).2.2.2.2.2.2.2.2.2.2.2.2.2.2.1 = s11v.2.2.2.2.2.2.2.2.2.2.2.2.2.2.1) && (decide ((synodlaw15_Opts.u s7v).2.2.2.2.2.2.2.2.2.2.2.2.2.2.2.1 = s11v.2.2.2.2.2.2.2.2.2.2.2.2.2.2.2.1) && (decide ((synodlaw15_Opts.u s7v).2.2.2.2.2.2.2.2.2.2.2.2.2.2.2.2.1 = s11v.2.2.2.2.2.2.2.2.2.2.2.2.2.2.2.2.1) && (decide ((synodlaw15_Opts.u s7v).2.2.2.2.2.2.2.2.2.2.2.2.2.2.2.2.2.1 = s11v.2.2.2.2.2.2.2.2.2.2.2.2.2.2.2.2.2.1) && (decide ((synodlaw15_Opts.u s7v).2.2.2.2.2.2.2.2.2.2.2.2.2.2.2.2.2.2 = s11v.2.2.2.2.2.2.2.2.2.2.2.2.2.2.2.2.2.2.1)))))))))))))) && (decide ((synodref_Num.v s7v.2.2.2.2.2.2.2.2.2.2.2.2.2.2.2.2.2.2.2) = s11v.2.2.2.2.2.2.2.2.2.2.2.2.2.2.2.2.2.2.2))) == true) (.agg #[.int .i64 ((synodlaw15_Opts.v x1_0 x1_1 x1_2 x1_3 x1_4 x1_5 x1_6 x1_7 x1_8 x1_9 x1_10 x1_11 x1_12 x1_13 x1_14 x1_15 x1_16 x1_17 x1_18).1), .int .i64 ((synodlaw15_Opts.v x1_0 x1_1 x1_2 x1_3 x1_4 x1_5 x1_6 x1_7 x1_8 x1_9 x1_10 x1_11 x1_12 x1_13 x1_14 x1_15 x1_16 x1_17 x1_18).2.1), .int .i64 ((synodlaw15_Opts.v x1_0 x1_1 x1_2 x1_3 x1_4 x1_5 x1_6 x1_7 x1_8 x1_9 x1_10 x1_11 x1_12 x1_13 x1_14 x1_15 x1_16 x1_17 x1_18).2.2.1), .int .i64 ((synodlaw15_Opts.v x1_0 x1_1 x1_2 x1_3 x1_4 x1_5 x1_6 x1_7 x1_8 x1_9 x1_10 x1_11 x1_12 x1_13 x1_14 x1_15 x1_16 x1_17 x1_18).2.2.2.1), .int .i64 ((synodlaw15_Opts.v x1_0 x1_1 x1_2 x1_3 x1_4 x1_5 x1_6 x1_7 x1_8 x1_9 x1_10 x1_11 x1_12 x1_13 x1_14 x1_15 x1_16 x1_17 x1_18).2.2.2.2.1), .int .i64 ((synodlaw15_Opts.v x1_0 x1_1 x1_2 x1_3 x1_4 x1_5 x1_6 x1_7 x1_8 x1_9 x1_10 x1_11 x1_12 x1_13 x1_14 x1_15 x1_16 x1_17 x1_18).2.2.2.2.2.1), .int .i64 ((synodlaw15_Opts.v x1_0 x1_1 x1_2 x1_3 x1_4 x1_5 x1_6 x1_7 x1_8 x1_9 x1_10 x1_11 x1_12 x1_13 x1_14 x1_15 x1_16 x1_17 x1_18).2.2.2.2.2.2.1), .int .i64 ((synodlaw15_Opts.v x1_0 x1_1 x1_2 x1_3 x1_4 x1_5 x1_6 x1_7 x1_8 x1_9 x1_10 x1_11 x1_12 x1_13 x1_14 x1_15 x1_16 x1_17 x1_18).2.2.2.2.2.2.2.1), .int .i64 ((synodlaw15_Opts.v x1_0 x1_1 x1_2 x1_3 x1_4 x1_5 x1_6 x1_7 x1_8 x1_9 x1_10 x1_11 x1_12 x1_13 x1_14 x1_15 x1_16 x1_17 x1_18).2.2.2.2.2.2.2.2.1), .int .i64 ((synodlaw15_Opts.v x1_0 x1_1 x1_2 x1_3 x1_4 x1_5 x1_6 x1_7 x1_8 x1_9 x1_10 x1_11 x1_12 x1_13 x1_14 x1_15 x1_16 x1_17 x1_18).2.2.2.2.2.2.2.2.2.1), .int .i64 ((synodlaw15_Opts.v x1_0 x1_1 x1_2 x1_3 x1_4 x1_5 x1_6 x1_7 x1_8 x1_9 x1_10 x1_11 x1_12 x1_13 x1_14 x1_15 x1_16 x1_17 x1_18).2.2.2.2.2.2.2.2.2.2.1), .int .i64 ((synodlaw15_Opts.v x1_0 x1_1 x1_2 x1_3 x1_4 x1_5 x1_6 x1_7 x1_8 x1_9 x1_10 x1_11 x1_12 x1_13 x1_14 x1_15 x1_16 x1_17 x1_18).2.2.2.2.2.2.2.2.2.2.2.1), .int .i64 ((synodlaw15_Opts.v x1_0 x1_1 x1_2 x1_3 x1_4 x1_5 x1_6 x1_7 x1_8 x1_9 x1_10 x1_11 x1_12 x1_13 x1_14 x1_15 x1_16 x1_17 x1_18).2.2.2.2.2.2.2.2.2.2.2.2.1), .int .i64 ((synodlaw15_Opts.v x1_0 x1_1 x1_2 x1_3 x1_4 x1_5 x1_6 x1_7 x1_8 x1_9 x1_10 x1_11 x1_12 x1_13 x1_14 x1_15 x1_16 x1_17 x1_18).2.2.2.2.2.2.2.2.2.2.2.2.2.1), .int .i64 ((synodlaw15_Opts.v x1_0 x1_1 x1_2 x1_3 x1_4 x1_5 x1_6 x1_7 x1_8 x1_9 x1_10 x1_11 x1_12 x1_13 x1_14 x1_15 x1_16 x1_17 x1_18).2.2.2.2.2.2.2.2.2.2.2.2.2.2.1), .int .i64 ((synodlaw15_Opts.v x1_0 x1_1 x1_2 x1_3 x1_4 x1_5 x1_6 x1_7 x1_8 x1_9 x1_10 x1_11 x1_12 x1_13 x1_14 x1_15 x1_16 x1_17 x1_18).2.2.2.2.2.2.2.2.2.2.2.2.2.2.2.1), .int .i64 ((synodlaw15_Opts.v x1_0 x1_1 x1_2 x1_3 x1_4 x1_5 x1_6 x1_7 x1_8 x1_9 x1_10 x1_11 x1_12 x1_13 x1_14 x1_15 x1_16 x1_17 x1_18).2.2.2.2.2.2.2.2.2.2.2.2.2.2.2.2.1), .int .i64 ((synodlaw15_Opts.v x1_0 x1_1 x1_2 x1_3 x1_4 x1_5 x1_6 x1_7 x1_8 x1_9 x1_10 x1_11 x1_12 x1_13 x1_14 x1_15 x1_16 x1_17 x1_18).2.2.2.2.2.2.2.2.2.2.2.2.2.2.2.2.2.1), .int .i64 ((synodlaw15_Opts.v x1_0 x1_1 x1_2 x1_3 x1_4 x1_5 x1_6 x1_7 x1_8 x1_9 x1_10 x1_11 x1_12 x1_13 x1_14 x1_15 x1_16 x1_17 x1_18).2.2.2.2.2.2.2.2.2.2.2.2.2.2.2.2.2.2)]), cv (((decide ((synodlaw15_Opts.u s7v).1 = s11v.1) && (decide ((synodlaw15_Opts.u s7v).2.1 = s11v.2.1) && (((decide ((synodlaw15_Opts.u s7v).2.2.1 = s11v.2.2.1) && (decide ((synodlaw15_Opts.u s7v).2.2.2.1 = s11v.2.2.2.1) && (decide ((synodlaw15_Opts.u s7v).2.2.2.2.1 = s11v.2.2.2.2.1) && (decide ((synodlaw15_Opts.u s7v).2.2.2.2.2.1 = s11v.2.2.2.2.2.1) && (decide ((synodlaw15_Opts.u s7v).2.2.2.2.2.2.1 = s11v.2.2.2.2.2.2.1) && (decide ((synodlaw15_Opts.u s7v).2.2.2.2.2.2.2.1 = s11v.2.2.2.2.2.2.2.1) && (decide ((synodlaw15_Opts.u s7v).2.2.2.2.2.2.2.2.1 = s11v.2.2.2.2.2.2.2.2.1) && (decide ((synodlaw15_Opts.u s7v).2.2.2.2.2.2.2.2.2.1 = s11v.2.2.2.2.2.2.2.2.2.1))))))))) && (decide ((synodlaw15_Opts.u s7v).2.2.2.2.2.2.2.2.2.2.1 = s11v.2.2.2.2.2.2.2.2.2.2.1) && (decide ((synodlaw15_Opts.u s7v).2.2.2.2.2.2.2.2.2.2.2.1 = s11v.2.2.2.2.2.2.2.2.2.2.2.1) && (decide ((synodlaw15_Opts.u s7v).2.2.2.2.2.2.2.2.2.2.2.2.1 = s11v.2.2.2.2.2.2.2.2.2.2.2.2.1) && (decide ((synodlaw15_Opts.u s7v).2.2.2.2.2.2.2.2.2.2.2.2.2.1 = s11v.2.2.2.2.2.2.2.2.2.2.2.2.2.1) && (decide ((synodlaw15_Opts.u s7v).2.2.2.2.2.2.2.2.2.2.2.2.2.2.1 = s11v.2.2.2.2.2.2.2.2.2.2.2.2.2.2.1) && (decide ((synodlaw15_Opts.u s7v).2.2.2.2.2.2.2.2.2.2.2.2.2.2.2.1 = s11v.2.2.2.2.2.2.2.2.2.2.2.2.2.2.2.1) && (decide ((synodlaw15_Opts.u s7v).2.2.2.2.2.2.2.2.2.2.2.2.2.2.2.2.1 = s11v.2.2.2.2.2.2.2.2.2.2.2.2.2.2.2.2.1) && (decide ((synodlaw15_Opts.u s7v).2.2.2.2.2.2.2.2.2.2.2.2.2.2.2.2.2.1 = s11v.2.2.2.2.2.2.2.2.2.2.2.2.2.2.2.2.2.1) && (decide ((synodlaw15_Opts.u s7v).2.2.2.2.2.2.2.2.2.2.2.2.2.2.2.2.2.2 = s11v.2.2.2.2.2.2.2.2.2.2.2.2.2.2.2.2.2.2.1)))))))))))))) && (decide ((synodref_Num.v s7v.2.2.2.2.2.2.2.2.2.2.2.2.2.2.2.2.2.2.2) = s11v.2.2.2.2.2.2.2.2.2.2.2.2.2.2.2.2.2.2.2))) == true) (str s27v), cv (((decide ((synodlaw15_Opts.u s7v).1 = s11v.1) && (decide ((synodlaw15_Opts.u s7v).2.1 = s11v.2.1) && (((decide ((synodlaw15_Opts.u s7v).2.2.1 = s11v.2.2.1) && (decide ((synodlaw15_Opts.u s7v).2.2.2.1 = s11v.2.2.2.1) && (decide ((synodlaw15_Opts.u s7v).2.2.2.2.1 = s11v.2.2.2.2.1) && (decide ((synodlaw15_Opts.u s7v).2.2.2.2.2.1 = s11v.2.2.2.2.2.1) && (decide ((synodlaw15_Opts.u s7v).2.2.2.2.2.2.1 = s11v.2.2.2.2.2.2.1) && (decide ((synodlaw15_Opts.u s7v).2.2.2.2.2.2.2.1 = s11v.2.2.2.2.2.2.2.1) && (decide ((synodlaw15_Opts.u s7v).2.2.2.2.2.2.2.2.1 = s11v.2.2.2.2.2.2.2.2.1) && (decide ((synodlaw15_Opts.u s7v).2.2.2.2.2.2.2.2.2.1 = s11v.2.2.2.2.2.2.2.2.2.1))))))))) && (decide ((synodlaw15_Opts.u s7v).2.2.2.2.2.2.2.2.2.2.1 = s11v.2.2.2.2.2.2.2.2.2.2.1) && (decide ((synodlaw15_Opts.u s7v).2.2.2.2.2.2.2.2.2.2.2.1 = s11v.2.2.2.2.2.2.2.2.2.2.2.1) && (decide ((synodlaw15_Opts.u s7v).2.2.2.2.2.2.2.2.2.2.2.2.1 = s11v.2.2.2.2.2.2.2.2.2.2.2.2.1) && (decide ((synodlaw15_Opts.u s7v).2.2.2.2.2.2.2.2.2.2.2.2.2.1 = s11v.2.2.2.2.2.2.2.2.2.2.2.2.2.1) && (decide ((synodlaw15_Opts.u s7v).2.2.2.2.2.2.2.2.2.2.2.2.2.2.1 = s11v.2.2.2.2.2.2.2.2.2.2.2.2.2.2.1) && (decide ((synodlaw15_Opts.u s7v).2.2.2.2.2.2.2.2.2.2.2.2.2.2.2.1 = s11v.2.2.2.2.2.2.2.2.2.2.2.2.2.2.2.1) && (decide ((synodlaw15_Opts.u s7v).2.2.2.2.2.2.2.2.2.2.2.2.2.2.2.2.1 = s11v.2.2.2.2.2.2.2.2.2.2.2.2.2.2.2.2.1) && (decide ((synodlaw15_Opts.u s7v).2.2.2.2.2.2.2.2.2.2.2.2.2.2.2.2.2.1 = s11v.2.2.2.2.2.2.2.2.2.2.2.2.2.2.2.2.2.1) && (decide ((synodlaw15_Opts.u s7v).2.2.2.2.2.2.2.2.2.2.2.2.2.2.2.2.2.2 = s11v.2.2.2.2.2.2.2.2.2.2.2.2.2.2.2.2.2.2.1)))))))))))))) && (decide ((synodref_Num.v s7v.2.2.2.2.2.2.2.2.2.2.2.2.2.2.2.2.2.2.2) = s11v.2.2.2.2.2.2.2.2.2.2.2.2.2.2.2.2.2.2.2))) == true) (.bool (decide (s21v = s27v))), .bool (((decide ((synodlaw15_Opts.u s7v).1 = s11v.1) && (decide ((synodlaw15_Opts.u s7v).2.1 = s11v.2.1) && (((decide ((synodlaw15_Opts.u s7v).2.2.1 = s11v.2.2.1) && (decide ((synodlaw15_Opts.u s7v).2.2.2.1 = s11v.2.2.2.1) && (decide ((synodlaw15_Opts.u s7v).2.2.2.2.1 = s11v.2.2.2.2.1) && (decide ((synodlaw15_Opts.u s7v).2.2.2.2.2.1 = s11v.2.2.2.2.2.1) && (decide ((synodlaw15_Opts.u s7v).2.2.2.2.2.2.1 = s11v.2.2.2.2.2.2.1) && (decide ((synodlaw15_Opts.u s7v).2.2.2.2.2.2.2.1 = s11v.2.2.2.2.2.2.2.1) && (decide ((synodlaw15_Opts.u s7v).2.2.2.2.2.2.2.2.1 = s11v.2.2.2.2.2.2.2.2.1) && (decide ((synodlaw15_Opts.u s7v).2.2.2.2.2.2.2.2.2.1 = s11v.2.2.2.2.2.2.2.2.2.1))))))))) && (decide ((synodlaw15_Opts.u s7v).2.2.2.2.2.2.2.2.2.2.1 = s11v.2.2.2.2.2.2.2.2.2.2.1) && (decide ((synodlaw15_Opts.u s7v).2.2.2.2.2.2.2.2.2.2.2.1 = s11v.2.2.2.2.2.2.2.2.2.2.2.1) && (decide ((synodlaw15_Opts.u s7v).2.2.2.2.2.2.2.2.2.2.2.2.1 = s11v.2.2.2.2.2.2.2.2.2.2.2.2.1) && (decide ((synodlaw15_Opts.u s7v).2.2.2.2.2.2.2.2.2.2.2.2.2.1 = s11v.2.2.2.2.2.2.2.2.2.2.2.2.2.1) && (decide ((synodlaw15_Opts.u s7v).2.2.2.2.2.2.2.2.2.2.2.2.2.2.1 = s11v.2.2.2.2.2.2.2.2.2.2.2.2.2.2.1) && (decide ((synodlaw15_Opts.u s7v).2.2.2.2.2.2.2.2.2.2.2.2.2.2.2.1 = s11v.2.2.2.2.2.2.2.2.2.2.2.2.2.2.2.1) && (decide ((synodlaw15_Opts.u s7v).2.2.2.2.2.2.2.2.2.2.2.2.2.2.2.2.1 = s11v.2.2.2.2.2.2.2.2.2.2.2.2.2.2.2.2.1) && (decide ((synodlaw15_Opts.u s7v).2.2.2.2.2.2.2.2.2.2.2.2.2.2.2.2.2.1 = s11v.2.2.2.2.2.2.2.2.2.2.2.2.2.2.2.2.2.1) && (decide ((synodlaw15_Opts.u s7v).2.2.2.2.2.2.2.2.2.2.2.2.2.2.2.2.2.2 = s11v.2.2.2.2.2.2.2.2.2.2.2.2.2.2.2.2.2.2.1)))))))))))))) && (decide ((synodref_Num.v s7v.2.2.2.2.2.2.2.2.2.2.2.2.2.2.2.2.2.2.2) = s11v.2.2.2.2.2.2.2.2.2.2.2.2.2.2.2.2.2.2.2))) && (decide (s21v = s27v))), .bool (((decide ((synodlaw15_Opts.u s7v).1 = s11v.1) && (decide ((synodlaw15_Opts.u s7v).2.1 = s11v.2.1) && (((decide ((synodlaw15_Opts.u s7v).2.2.1 = s11v.2.2.1) && (decide ((synodlaw15_Opts.u s7v).2.2.2.1 = s11v.2.2.2.1) && (decide ((synodlaw15_Opts.u s7v).2.2.2.2.1 = s11v.2.2.2.2.1) && (decide ((synodlaw15_Opts.u s7v).2.2.2.2.2.1 = s11v.2.2.2.2.2.1) && (decide ((synodlaw15_Opts.u s7v).2.2.2.2.2.2.1 = s11v.2.2.2.2.2.2.1) && (decide ((synodlaw15_Opts.u s7v).2.2.2.2.2.2.2.1 = s11v.2.2.2.2.2.2.2.1) && (decide ((synodlaw15_Opts.u s7v).2.2.2.2.2.2.2.2.1 = s11v.2.2.2.2.2.2.2.2.1) && (decide ((synodlaw15_Opts.u s7v).2.2.2.2.2.2.2.2.2.1 = s11v.2.2.2.2.2.2.2.2.2.1))))))))) && (decide ((synodlaw15_Opts.u s7v).2.2.2.2.2.2.2.2.2.2.1 = s11v.2.2.2.2.2.2.2.2.2.2.1) && (decide ((synodlaw15_Opts.u s7v).2.2.2.2.2.2.2.2.2.2.2.1 = s11v.2.2.2.2.2.2.2.2.2.2.2.1) && (decide ((synodlaw15_Opts.u s7v).2.2.2.2.2.2.2.2.2.2.2.2.1 = s11v.2.2.2.2.2.2.2.2.2.2.2.2.1) && (decide ((synodlaw15_Opts.u s7v).2.2.2.2.2.2.2.2.2.2.2.2.2.1 = s11v.2.2.2.2.2.2.2.2.2.2.2.2.2.1) && (decide ((synodlaw15_Opts.u s7v).2.2.2.2.2.2.2.2.2.2.2.2.2.2.1 = s11v.2.2.2.2.2.2.2.2.2.2.2.2.2.2.1) && (decide ((synodlaw15_Opts.u s7v).2.2.2.2.2.2.2.2.2.2.2.2.2.2.2.1 = s11v.2.2.2.2.2.2.2.2.2.2.2.2.2.2.2.1) && (decide ((synodlaw15_Opts.u s7v).2.2.2.2.2.2.2.2.2.2.2.2.2.2.2.2.1 = s11v.2.2.2.2.2.2.2.2.2.2.2.2.2.2.2.2.1) && (decide ((synodlaw15_Opts.u s7v).2.2.2.2.2.2.2.2.2.2.2.2.2.2.2.2.2.1 = s11v.2.2.2.2.2.2.2.2.2.2.2.2.2.2.2.2.2.1) && (decide ((synodlaw15_Opts.u s7v).2.2.2.2.2.2.2.2.2.2.2.2.2.2.2.2.2.2 = s11v.2.2.2.2.2.2.2.2.2.2.2.2.2.2.2.2.2.2.1)))))))))))))) && (decide ((synodref_Num.v s7v.2.2.2.2.2.2.2.2.2.2.2.2.2.2.2.2.2.2.2) = s11v.2.2.2.2.2.2.2.2.2.2.2.2.2.2.2.2.2.2.2))) && (decide (s21v = s27v)))].getD i undef) (fun j γ => [[obj b14v 61 [.int .i64 s11v.1, .int .i64 s11v.2.1, .int .i64 s11v.2.2.1, .int .i64 s11v.2.2.2.1, .int .i64 s11v.2.2.2.2.1, .int .i64 s11v.2.2.2.2.2.1, .int .i64 s11v.2.2.2.2.2.2.1, .int .i64 s11v.2.2.2.2.2.2.2.1, .int .i64 s11v.2.2.2.2.2.2.2.2.1, .int .i64 s11v.2.2.2.2.2.2.2.2.2.1, .int .i64 s11v.2.2.2.2.2.2.2.2.2.2.1, .int .i64 s11v.2.2.2.2.2.2.2.2.2.2.2.1, .int .i64 s11v.2.2.2.2.2.2.2.2.2.2.2.2.1, .int .i64 s11v.2.2.2.2.2.2.2.2.2.2.2.2.2.1, .int .i64 s11v.2.2.2.2.2.2.2.2.2.2.2.2.2.2.1, .int .i64 s11v.2.2.2.2.2.2.2.2.2.2.2.2.2.2.2.1, .int .i64 s11v.2.2.2.2.2.2.2.2.2.2.2.2.2.2.2.2.1, .int .i64 s11v.2.2.2.2.2.2.2.2.2.2.2.2.2.2.2.2.2.1, .int .i64 s11v.2.2.2.2.2.2.2.2.2.2.2.2.2.2.2.2.2.2.1], obj b10v 54 [.int .i64 s7v.1, .int .i64 s7v.2.1, .int .i64 s7v.2.2.1, .int .i64 s7v.2.2.2.1, .int .i64 s7v.2.2.2.2.1, .int .i64 s7v.2.2.2.2.2.1, .int .i64 s7v.2.2.2.2.2.2.1, .int .i64 s7v.2.2.2.2.2.2.2.1, .int .i64 s7v.2.2.2.2.2.2.2.2.1, .int .i64 s7v.2.2.2.2.2.2.2.2.2.1, .int .i64 s7v.2.2.2.2.2.2.2.2.2.2.1, .int .i64 s7v.2.2.2.2.2.2.2.2.2.2.2.1, .int .i64 s7v.2.2.2.2.2.2.2.2.2.2.2.2.1, .int .i64 s7v.2.2.2.2.2.2.2.2.2.2.2.2.2.1, .int .i64 s7v.2.2.2.2.2.2.2.2.2.2.2.2.2.2.1, .int .i64 s7v.2.2.2.2.2.2.2.2.2.2.2.2.2.2.2.1, .int .i64 s7v.2.2.2.2.2.2.2.2.2.2.2.2.2.2.2.2.1, .int .i64 s7v.2.2.2.2.2.2.2.2.2.2.2.2.2.2.2.2.2.1, .int .i64 s7v.2.2.2.2.2.2.2.2.2.2.2.2.2.2.2.2.2.2.1], obj b1v 54 [.int .i64 x1_0, .int .i64 x1_1, .int .i64 x1_2, .int .i64 x1_3, .int .i64 x1_4, .int .i64 x1_5, .int .i64 x1_6, .int .i64 x1_7, .int .i64 x1_8, .int .i64 x1_9, .int .i64 x1_10, .int .i64 x1_11, .int .i64 x1_12, .int .i64 x1_13, .int .i64 x1_14, .int .i64 x1_15, .int .i64 x1_16, .int .i64 x1_17, .int .i64 x1_18], F]].getD j []) (fun γ => [(4, .bool (((decide ((synodlaw15_Opts.u s7v).1 = s11v.1) && (decide ((synodlaw15_Opts.u s7v).2.1 = s11v.2.1) && (((decide ((synodlaw15_Opts.u s7v).2.2.1 = s11v.2.2.1) && (decide ((synodlaw15_Opts.u s7v).2.2.2.1 = s11v.2.2.2.1) && (decide ((synodlaw15_Opts.u s7v).2.2.2.2.1 = s11v.2.2.2.2.1) && (decide ((synodlaw15_Opts.u s7v).2.2.2.2.2.1 = s11v.2.2.2.2.2.1) && (decide ((synodlaw15_Opts.u s7v).2.2.2.2.2.2.1 = s11v.2.2.2.2.2.2.1) && (decide ((synodlaw15_Opts.u s7v).2.2.2.2.2.2.2.1 = s11v.2.2.2.2.2.2.2.1) && (decide ((synodlaw15_Opts.u s7v).2.2.2.2.2.2.2.2.1 = s11v.2.2.2.2.2.2.2.2.1) && (decide ((synodlaw15_Opts.u s7v).2.2.2.2.2.2.2.2.2.1 = s11v.2.2.2.2.2.2.2.2.2.1))))))))) && (decide ((synodlaw15_Opts.u s7v).2.2.2.2.2.2.2.2.2.2.1 = s11v.2.2.2.2.2.2.2.2.2.2.1) && (decide ((synodlaw15_Opts.u s7v).2.2.2.2.2.2.2.2.2.2.2.1 = s11v.2.2.2.2.2.2.2.2.2.2.2.1) && (decide ((synodlaw15_Opts.u s7v).2.2.2.2.2.2.2.2.2.2.2.2.1 = s11v.2.2.2.2.2.2.2.2.2.2.2.2.1) && (decide ((synodlaw15_Opts.u s7v).2.2.2.2.2.2.2.2.2.2.2.2.2.1 = s11v.2.2.2.2.2.2.2.2.2.2.2.2.2.1) && (decide ((synodlaw15_Opts.u s7v).2.2.2.2.2.2.2.2.2.2.2.2.2.2.1 = s11v.2.2.2.2.2.2.2.2.2.2.2.2.2.2.1) && (decide ((synodlaw15_Opts.u s7v).2.2.2.2.2.2.2.2.2.2.2.2.2.2.2.1 = s11v.2.2.2.2.2.2.2.2.2.2.2.2.2.2.2.1) && (decide ((synodlaw15_Opts.u s7v).2.2.2.2.2.2.2.2.2.2.2.2.2.2.2.2.1 = s11v.2.2.2.2.2.2.2.2.2.2.2.2.2.2.2.2.1) && (decide ((synodlaw15_Opts.u s7v).2.2.2.2.2.2.2.2.2.2.2.2.2.2.2.2.2.1 = s11v.2.2.2.2.2.2.2.2.2.2.2.2.2.2.2.2.2.1) && (decide ((synodlaw15_Opts.u s7v).2.2.2.2.2.2.2.2.2.2.2.2.2.2.2.2.2.2 = s11v.2.2.2.2.2.2.2.2.2.2.2.2.2.2.2.2.2.2.1)))))))))))))) && (decide ((synodref_Num.v s7v.2.2.2.2.2.2.2.2.2.2.2.2.2.2.2.2.2.2.2) = s11v.2.2.2.2.2.2.2.2.2.2.2.2.2.2.2.2.2.2.2))) && (decide (s21v = s27v))))]) mixed (by decide) (by decide) (by decide) (by decide) (by decide) (by decide) (by decide) 47 rfl (by decide) (by decide) (by decide) (Ent.refl _) ?_ ?_ (fun _ => ⟨rfl, trivial⟩) ?_
 exact (aq rfl (fun γ => qp rfl rfl (.o (s := 6) rfl (by decide) .nil) (q_loado 1 rfl rfl Tryd.isAgg54 Tryd.sizeOf54 rfl rfl) rfl) (aq rfl (fun γ => qp rfl rfl (.v 0 rfl rfl .nil) (RE.rq (re_call (vs := [.agg #[.int .i64 s7v.1, .int .i64 s7v.2.1, .int .i64 s7v.2.2.1, .int .i64 s7v.2.2.2.1, .int .i64 s7v.2.2.2.2.1, .int .i64 s7v.2.2.2.2.2.1, .int .i64 s7v.2.2.2.2.2.2.1, .int .i64 s7v.2.2.2.2.2.2.2.1, .int .i64 s7v.2.2.2.2.2.2.2.2.1, .int .i64 s7v.2.2.2.2.2.2.2.2.2.1, .int .i64 s7v.2.2.2.2.2.2.2.2.2.2.1, .int .i64 s7v.2.2.2.2.2.2.2.2.2.2.2.1, .int .i64 s7v.2.2.2.2.2.2.2.2.2.2.2.2.1, .int .i64 s7v.2.2.2.2.2.2.2.2.2.2.2.2.2.1, .int .i64 s7v.2.2.2.2.2.2.2.2.2.2.2.2.2.2.1, .int .i64 s7v.2.2.2.2.2.2.2.2.2.2.2.2.2.2.2.1, .int .i64 s7v.2.2.2.2.2.2.2.2.2.2.2.2.2.2.2.2.1, .int .i64 s7v.2.2.2.2.2.2.2.2.2.2.2.2.2.2.2.2.2.1, .int .i64 s7v.2.2.2.2.2.2.2.2.2.2.2.2.2.2.2.2.2.2.1]]) (cap := []) (A := []) (rst := [obj b14v 61 [.int .i64 s11v.1, .int .i64 s11v.2.1, .int .i64 s11v.2.2.1, .int .i64 s11v.2.2.2.1, .int .i64 s11v.2.2.2.2.1, .int .i64 s11v.2.2.2.2.2.1, .int .i64 s11v.2.2.2.2.2.2.1, .int .i64 s11v.2.2.2.2.2.2.2.1, .int .i64 s11v.2.2.2.2.2.2.2.2.1, .int .i64 s11v.2.2.2.2.2.2.2.2.2.1, .int .i64 s11v.2.2.2.2.2.2.2.2.2.2.1, .int .i64 s11v.2.2.2.2.2.2.2.2.2.2.2.1, .int .i64 s11v.2.2.2.2.2.2.2.2.2.2.2.2.1, .int .i64 s11v.2.2.2.2.2.2.2.2.2.2.2.2.2.1, .int .i64 s11v.2.2.2.2.2.2.2.2.2.2.2.2.2.2.1, .int .i64 s11v.2.2.2.2.2.2.2.2.2.2.2.2.2.2.2.1, .int .i64 s11v.2.2.2.2.2.2.2.2.2.2.2.2.2.2.2.2.1, .int .i64 s11v.2.2.2.2.2.2.2.2.2.2.2.2.2.2.2.2.2.1, .int .i64 s11v.2.2.2.2.2.2.2.2.2.2.2.2.2.2.2.2.2.2.1], obj b10v 54 [.int .i64 s7v.1, .int .i64 s7v.2.1, .int .i64 s7v.2.2.1, .int .i64 s7v.2.2.2.1, .int .i64 s7v.2.2.2.2.1, .int .i64 s7v.2.2.2.2.2.1, .int .i64 s7v.2.2.2.2.2.2.1, .int .i64 s7v.2.2.2.2.2.2.2.1, .int .i64 s7v.2.2.2.2.2.2.2.2.1, .int .i64 s7v.2.2.2.2.2.2.2.2.2.1, .int .i64 s7v.2.2.2.2.2.2.2.2.2.2.1, .int .i64 s7v.2.2.2.2.2.2.2.2.2.2.2.1, .int .i64 s7v.2.2.2.2.2.2.2.2.2.2.2.2.1, .int .i64 s7v.2.2.2.2.2.2.2.2.2.2.2.2.2.1, .int .i64 s7v.2.2.2.2.2.2.2.2.2.2.2.2.2.2.1, .int .i64 s7v.2.2.2.2.2.2.2.2.2.2.2.2.2.2.2.1, .int .i64 s7v.2.2.2.2.2.2.2.2.2.2.2.2.2.2.2.2.1, .int .i64 s7v.2.2.2.2.2.2.2.2.2.2.2.2.2.2.2.2.2.1, .int .i64 s7v.2.2.2.2.2.2.2.2.2.2.2.2.2.2.2.2.2.2.1], obj b1v 54 [.int .i64 x1_0, .int .i64 x1_1, .int .i64 x1_2, .int .i64 x1_3, .int .i64 x1_4, .int .i64 x1_5, .int .i64 x1_6, .int .i64 x1_7, .int .i64 x1_8, .int .i64 x1_9, .int .i64 x1_10, .int .i64 x1_11, .int .i64 x1_12, .int .i64 x1_13, .int .i64 x1_14, .int .i64 x1_15, .int .i64 x1_16, .int .i64 x1_17, .int .i64 x1_18], F]) rfl rfl rfl rfl rfl rfl Tryd.call26 (.sel 0 rfl (.sel 0 rfl (.sel 0 rfl (.sel 0 rfl (.nil _))))) (synodlaw15_Opts.calls _ _ s7v.1 s7v.2.1 s7v.2.2.1 s7v.2.2.2.1 s7v.2.2.2.2.1 s7v.2.2.2.2.2.1 s7v.2.2.2.2.2.2.1 s7v.2.2.2.2.2.2.2.1 s7v.2.2.2.2.2.2.2.2.1 s7v.2.2.2.2.2.2.2.2.2.1 s7v.2.2.2.2.2.2.2.2.2.2.1 s7v.2.2.2.2.2.2.2.2.2.2.2.1 s7v.2.2.2.2.2.2.2.2.2.2.2.2.1 s7v.2.2.2.2.2.2.2.2.2.2.2.2.2.1 s7v.2.2.2.2.2.2.2.2.2.2.2.2.2.2.1 s7v.2.2.2.2.2.2.2.2.2.2.2.2.2.2.2.1 s7v.2.2.2.2.2.2.2.2.2.2.2.2.2.2.2.2.1 s7v.2.2.2.2.2.2.2.2.2.2.2.2.2.2.2.2.2.1 s7v.2.2.2.2.2.2.2.2.2.2.2.2.2.2.2.2.2.2.1 ) (synodlaw15_Opts.tot s7v.1 s7v.2.1 s7v.2.2.1 s7v.2.2.2.1 s7v.2.2.2.2.1 s7v.2.2.2.2.2.1 s7v.2.2.2.2.2.2.1 s7v.2.2.2.2.2.2.2.1 s7v.2.2.2.2.2.2.2.2.1 s7v.2.2.2.2.2.2.2.2.2.1 s7v.2.2.2.2.2.2.2.2.2.2.1 s7v.2.2.2.2.2.2.2.2.2.2.2.1 s7v.2.2.2.2.2.2.2.2.2.2.2.2.1 s7v.2.2.2.2.2.2.2.2.2.2.2.2.2.1 s7v.2.2.2.2.2.2.2.2.2.2.2.2.2.2.1 s7v.2.2.2.2.2.2.2.2.2.2.2.2.2.2.2.1 s7v.2.2.2.2.2.2.2.2.2.2.2.2.2.2.2.2.1 s7v.2.2.2.2.2.2.2.2.2.2.2.2.2.2.2.2.2.1 s7v.2.2.2.2.2.2.2.2.2.2.2.2.2.2.2.2.2.2.1)) (fun _ => rfl) (fun _ => (.sel 0 rfl (.sel 0 rfl (.sel 0 rfl (.sel 0 rfl (.nil _))))))) rfl) (aq rfl (fun γ => qp rfl rfl (.o (s := 8) rfl (by decide) .nil) (q_loado 0 rfl rfl Tryd.isAgg61 Tryd.sizeOf61 rfl rfl) rfl) (aq rfl (fun γ => qp rfl rfl (.v 1 rfl rfl (.v 2 rfl rfl .nil)) (q_eqagg5 rfl rfl rfl (by kernel_rfl) (fun d w => eqi_struct Tryd.underlying61 (by kernel_rfl) (eqf_cons (by rfl) (part_of Tryd.isAgg3 rfl) (part_of Tryd.isAgg3 rfl) (eqi_int Tryd.underlying3) (eqf_cons (by rfl) (part_of Tryd.isAgg3 rfl) (part_of Tryd.isAgg3 rfl) (eqi_int Tryd.underlying3) (eqf_last (by rfl) (part_agg (vs := [.int .i64 ((synodlaw15_Opts.u s7v).2.2.1), .int .i64 ((synodlaw15_Opts.u s7v).2.2.2.1), .int .i64 ((synodlaw15_Opts.u s7v).2.2.2.2.1), .int .i64 ((synodlaw15_Opts.u s7v).2.2.2.2.2.1), .int .i64 ((synodlaw15_Opts.u s7v).2.2.2.2.2.2.1), .int .i64 ((synodlaw15_Opts.u s7v).2.2.2.2.2.2.2.1), .int .i64 ((synodlaw15_Opts.u s7v).2.2.2.2.2.2.2.2.1), .int .i64 ((synodlaw15_Opts.u s7v).2.2.2.2.2.2.2.2.2.1), .int .i64 ((synodlaw15_Opts.u s7v).2.2.2.2.2.2.2.2.2.2.1), .int .i64 ((synodlaw15_Opts.u s7v).2.2.2.2.2.2.2.2.2.2.2.1), .int .i64 ((synodlaw15_Opts.u s7v).2.2.2.2.2.2.2.2.2.2.2.2.1), .int .i64 ((synodlaw15_Opts.u s7v).2.2.2.2.2.2.2.2.2.2.2.2.2.1), .int .i64 ((synodlaw15_Opts.u s7v).2.2.2.2.2.2.2.2.2.2.2.2.2.2.1), .int .i64 ((synodlaw15_Opts.u s7v).2.2.2.2.2.2.2.2.2.2.2.2.2.2.2.1), .int .i64 ((synodlaw15_Opts.u s7v).2.2.2.2.2.2.2.2.2.2.2.2.2.2.2.2.1), .int .i64 ((synodlaw15_Opts.u s7v).2.2.2.2.2.2.2.2.2.2.2.2.2.2.2.2.2.1), .int .i64 ((synodlaw15_Opts.u s7v).2.2.2.2.2.2.2.2.2.2.2.2.2.2.2.2.2.2)]) Tryd.isAgg59 Tryd.sizeOf59 rfl) (part_agg (vs := [.int .i64 s11v.2.2.1, .int .i64 s11v.2.2.2.1, .int .i64 s11v.2.2.2.2.1, .int .i64 s11v.2.2.2.2.2.1, .int .i64 s11v.2.2.2.2.2.2.1, .int .i64 s11v.2.2.2.2.2.2.2.1, .int .i64 s11v.2.2.2.2.2.2.2.2.1, .int .i64 s11v.2.2.2.2.2.2.2.2.2.1, .int .i64 s11v.2.2.2.2.2.2.2.2.2.2.1, .int .i64 s11v.2.2.2.2.2.2.2.2.2.2.2.1, .int .i64 s11v.2.2.2.2.2.2.2.2.2.2.2.2.1, .int .i64 s11v.2.2.2.2.2.2.2.2.2.2.2.2.2.1, .int .i64 s11v.2.2.2.2.2.2.2.2.2.2.2.2.2.2.1, .int .i64 s11v.2.2.2.2.2.2.2.2.2.2.2.2.2.2.2.1, .int .i64 s11v.2.2.2.2.2.2.2.2.2.2.2.2.2.2.2.2.1, .int .i64 s11v.2.2.2.2.2.2.2.2.2.2.2.2.2.2.2.2.2.1, .int .i64 s11v.2.2.2.2.2.2.2.2.2.2.2.2.2.2.2.2.2.2.1]) Tryd.isAgg59 Tryd.sizeOf59 rfl) (eqi_struct Tryd.underlying59 (by kernel_rfl) (eqf_cons (by rfl) (part_agg (vs := [.int .i64 ((synodlaw15_Opts.u s7v).2.2.1), .int .i64 ((synodlaw15_Opts.u s7v).2.2.2.1), .int .i64 ((synodlaw15_Opts.u s7v).2.2.2.2.1), .int .i64 ((synodlaw15_Opts.u s7v).2.2.2.2.2.1), .int .i64 ((synodlaw15_Opts.u s7v).2.2.2.2.2.2.1), .int .i64 ((synodlaw15_Opts.u s7v).2.2.2.2.2.2.2.1), .int .i64 ((synodlaw15_Opts.u s7v).2.2.2.2.2.2.2.2.1), .int .i64 ((synodlaw15_Opts.u s7v).2.2.2.2.2.2.2.2.2.1)]) Tryd.isAgg57 Tryd.sizeOf57 rfl) (part_agg (vs := [.int .i64 s11v.2.2.1, .int .i64 s11v.2.2.2.1, .int .i64 s11v.2.2.2.2.1, .int .i64 s11v.2.2.2.2.2.1, .int .i64 s11v.2.2.2.2.2.2.1, .int .i64 s11v.2.2.2.2.2.2.2.1, .int .i64 s11v.2.2.2.2.2.2.2.2.1, .int .i64 s11v.2.2.2.2.2.2.2.2.2.1]) Tryd.isAgg57 Tryd.sizeOf57 rfl) (eqi_struct Tryd.underlying57 (by kernel_rfl) (eqf_cons (by rfl) (part_of Tryd.isAgg3 rfl) (part_of Tryd.isAgg3 rfl) (eqi_int Tryd.underlying3) (eqf_cons (by rfl) (part_of Tryd.isAgg3 rfl) (part_of Tryd.isAgg3 rfl) (eqi_int Tryd.underlying3) (eqf_cons (by rfl) (part_of Tryd.isAgg3 rfl) (part_of Tryd.isAgg3 rfl) (eqi_int Tryd.underlying3) (eqf_cons (by rfl) (part_of Tryd.isAgg3 rfl) (part_of Tryd.isAgg3 rfl) (eqi_int Tryd.underlying3) (eqf_cons (by rfl) (part_of Tryd.isAgg3 rfl) (part_of Tryd.isAgg3 rfl) (eqi_int Tryd.underlying3) (eqf_cons (by rfl) (part_of Tryd.isAgg3 rfl) (part_of Tryd.isAgg3 rfl) (eqi_int Tryd.underlying3) (eqf_cons (by rfl) (part_of Tryd.isAgg3 rfl) (part_of Tryd.isAgg3 rfl) (eqi_int Tryd.underlying3) (eqf_last (by rfl) (part_of Tryd.isAgg3 rfl) (part_of Tryd.isAgg3 rfl) (eqi_int Tryd.underlying3)))))))))) (eqf_cons (by rfl) (part_of Tryd.isAgg3 rfl) (part_of Tryd.isAgg3 rfl) (eqi_int Tryd.underlying3) (eqf_cons (by rfl) (part_of Tryd.isAgg3 rfl) (part_of Tryd.isAgg3 rfl) (eqi_int Tryd.underlying3) (eqf_cons (by rfl) (part_of Tryd.isAgg3 rfl) (part_of Tryd.isAgg3 rfl) (eqi_int Tryd.underlying3) (eqf_cons (by rfl) (part_of Tryd.isAgg3 rfl) (part_of Tryd.isAgg3 rfl) (eqi_int Tryd.underlying3) (eqf_cons (by rfl) (part_of Tryd.isAgg3 rfl) (part_of Tryd.isAgg3 rfl) (eqi_int Tryd.underlying3) (eqf_cons (by rfl) (part_of Tryd.isAgg3 rfl) (part_of Tryd.isAgg3 rfl) (eqi_int Tryd.underlying3) (eqf_cons (by rfl) (part_of Tryd.isAgg3 rfl) (part_of Tryd.isAgg3 rfl) (eqi_int Tryd.underlying3) (eqf_cons (by rfl) (part_of Tryd.isAgg3 rfl) (part_of Tryd.isAgg3 rfl) (eqi_int Tryd.underlying3) (eqf_last (by rfl) (part_of Tryd.isAgg3 rfl) (part_of Tryd.isAgg3 rfl) (eqi_int Tryd.underlying3))))))))))))))))) rfl) (aq rfl (fun γ => qm rfl (.v 3 rfl rfl .nil) rfl) (aq rfl (fun γ => QOb.grd (b := decide ((synodlaw15_Opts.u s7v).1 = s11v.1) && (decide ((synodlaw15_Opts.u s7v).2.1 = s11v.2.1) && (((decide ((synodlaw15_Opts.u s7v).2.2.1 = s11v.2.2.1) && (decide ((synodlaw15_Opts.u s7v).2.2.2.1 = s11v.2.2.2.1) && (decide ((synodlaw15_Opts.u s7v).2.2.2.2.1 = s11v.2.2.2.2.1) && (decide ((synodlaw15_Opts.u s7v).2.2.2.2.2.1 = s11v.2.2.2.2.2.1) && (decide ((synodlaw15_Opts.u s7v).2.2.2.2.2.2.1 = s11v.2.2.2.2.2.2.1) && (decide ((synodlaw15_Opts.u s7v).2.2.2.2.2.2.2.1 = s11v.2.2.2.2.2.2.2.1) && (decide ((synodlaw15_Opts.u s7v).2.2.2.2.2.2.2.2.1 = s11v.2.2.2.2.2.2.2.2.1) && (decide ((synodlaw15_Opts.u s7v).2.2.2.2.2.2.2.2.2.1 = s11v.2.2.2.2.2.2.2.2.2.1))))))))) && (decide ((synodlaw15_Opts.u s7v).2.2.2.2.2.2.2.2.2.2.1 = s11v.2.2.2.2.2.2.2.2.2.2.1) && (decide ((synodlaw15_Opts.u s7v).2.2.2.2.2.2.2.2.2.2.2.1 = s11v.2.2.2.2.2.2.2.2.2.2.2.1) && (decide ((synodlaw15_Opts.u s7v).2.2.2.2.2.2.2.2.2.2.2.2.1 = s11v.2.2.2.2.2.2.2.2.2.2.2.2.1) && (decide ((synodlaw15_Opts.u s7v).2.2.2.2.2.2.2.2.2.2.2.2.2.1 = s11v.2.2.2.2.2.2.2.2.2.2.2.2.2.1) && (decide ((synodlaw15_Opts.u s7v).2.2.2.2.2.2.2.2.2.2.2.2.2.2.1 = s11v.2.2.2.2.2.2.2.2.2.2.2.2.2.2.1) && (decide ((synodlaw15_Opts.u s7v).2.2.2.2.2.2.2.2.2.2.2.2.2.2.2.1 = s11v.2.2.2.2.2.2.2.2.2.2.2.2.2.2.2.1) && (decide ((synodlaw15_Opts.u s7v).2.2.2.2.2.2.2.2.2.2.2.2.2.2.2.2.1 = s11v.2.2.2.2.2.2.2.2.2.2.2.2.2.2.2.2.1) && (decide ((synodlaw15_Opts.u s7v).2.2.2.2.2.2.2.2.2.2.2.2.2.2.2.2.2.1 = s11v.2.2.2.2.2.2.2.2.2.2.2.2.2.2.2.2.2.1) && (decide ((synodlaw15_Opts.u s7v).2.2.2.2.2.2.2.2.2.2.2.2.2.2.2.2.2.2 = s11v.2.2.2.2.2.2.2.2.2.2.2.2.2.2.2.2.2.2.1)))))))))))))) [(7, .int .i64 s7v.2.2.2.2.2.2.2.2.2.2.2.2.2.2.2.2.2.2.2), (33, .bool (decide ((synodlaw15_Opts.u s7v).1 = s11v.1) && (decide ((synodlaw15_Opts.u s7v).2.1 = s11v.2.1) && (((decide ((synodlaw15_Opts.u s7v).2.2.1 = s11v.2.2.1) && (decide ((synodlaw15_Opts.u s7v).2.2.2.1 = s11v.2.2.2.1) && (decide ((synodlaw15_Opts.u s7v).2.2.2.2.1 = s11v.2.2.2.2.1) && (decide ((synodlaw15_Opts.u s7v).2.2.2.2.2.1 = s11v.2.2.2.2.2.1) && (decide ((synodlaw15_Opts.u s7v).2.2.2.2.2.2.1 = s11v.2.2.2.2.2.2.1) && (decide ((synodlaw15_Opts.u s7v).2.2.2.2.2.2.2.1 = s11v.2.2.2.2.2.2.2.1) && (decide ((synodlaw15_Opts.u s7v).2.2.2.2.2.2.2.2.1 = s11v.2.2.2.2.2.2.2.2.1) && (decide ((synodlaw15_Opts.u s7v).2.2.2.2.2.2.2.2.2.1 = s11v.2.2.2.2.2.2.2.2.2.1))))))))) && (decide ((synodlaw15_Opts.u s7v).2.2.2.2.2.2.2.2.2.2.1 = s11v.2.2.2.2.2.2.2.2.2.2.1) && (decide ((synodlaw15_Opts.u s7v).2.2.2.2.2.2.2.2.2.2.2.1 = s11v.2.2.2.2.2.2.2.2.2.2.2.1) && (decide ((synodlaw15_Opts.u s7v).2.2.2.2.2.2.2.2.2.2.2.2.1 = s11v.2.2.2.2.2.2.2.2.2.2.2.2.1) && (decide ((synodlaw15_Opts.u s7v).2.2.2.2.2.2.2.2.2.2.2.2.2.1 = s11v.2.2.2.2.2.2.2.2.2.2.2.2.2.1) && (decide ((synodlaw15_Opts.u s7v).2.2.2.2.2.2.2.2.2.2.2.2.2.2.1 = s11v.2.2.2.2.2.2.2.2.2.2.2.2.2.2.1) && (decide ((synodlaw15_Opts.u s7v).2.2.2.2.2.2.2.2.2.2.2.2.2.2.2.1 = s11v.2.2.2.2.2.2.2.2.2.2.2.2.2.2.2.1) && (decide ((synodlaw15_Opts.u s7v).2.2.2.2.2.2.2.2.2.2.2.2.2.2.2.2.1 = s11v.2.2.2.2.2.2.2.2.2.2.2.2.2.2.2.2.1) && (decide ((synodlaw15_Opts.u s7v).2.2.2.2.2.2.2.2.2.2.2.2.2.2.2.2.2.1 = s11v.2.2.2.2.2.2.2.2.2.2.2.2.2.2.2.2.2.1) && (decide ((synodlaw15_Opts.u s7v).2.2.2.2.2.2.2.2.2.2.2.2.2.2.2.2.2.2 = s11v.2.2.2.2.2.2.2.2.2.2.2.2.2.2.2.2.2.2.1)))))))))))))))] rfl rfl rfl rfl (.o (s := 7) rfl (by decide) (.v 4 rfl rfl .nil)) (fun hb33v => RQ.sub (E' := [(7, .int .i64 s7v.2.2.2.2.2.2.2.2.2.2.2.2.2.2.2.2.2.2.2)]) ⟨rfl, trivial⟩ (q_move rfl rfl)) rfl) (aq rfl (fun γ => QOb.grd (b := decide ((synodlaw15_Opts.u s7v).1 = s11v.1) && (decide ((synodlaw15_Opts.u s7v).2.1 = s11v.2.1) && (((decide ((synodlaw15_Opts.u s7v).2.2.1 = s11v.2.2.1) && (decide ((synodlaw15_Opts.u s7v).2.2.2.1 = s11v.2.2.2.1) && (decide ((synodlaw15_Opts.u s7v).2.2.2.2.1 = s11v.2.2.2.2.1) && (decide ((synodlaw15_Opts.u s7v).2.2.2.2.2.1 = s11v.2.2.2.2.2.1) && (decide ((synodlaw15_Opts.u s7v).2.2.2.2.2.2.1 = s11v.2.2.2.2.2.2.1) && (decide ((synodlaw15_Opts.u s7v).2.2.2.2.2.2.2.1 = s11v.2.2.2.2.2.2.2.1) && (decide ((synodlaw15_Opts.u s7v).2.2.2.2.2.2.2.2.1 = s11v.2.2.2.2.2.2.2.2.1) && (decide ((synodlaw15_Opts.u s7v).2.2.2.2.2.2.2.2.2.1 = s11v.2.2.2.2.2.2.2.2.2.1))))))))) && (decide ((synodlaw15_Opts.u s7v).2.2.2.2.2.2.2.2.2.2.1 = s11v.2.2.2.2.2.2.2.2.2.2.1) && (decide ((synodlaw15_Opts.u s7v).2.2.2.2.2.2.2.2.2.2.2.1 = s11v.2.2.2.2.2.2.2.2.2.2.2.1) && (decide ((synodlaw15_Opts.u s7v).2.2.2.2.2.2.2.2.2.2.2.2.1 = s11v.2.2.2.2.2.2.2.2.2.2.2.2.1) && (decide ((synodlaw15_Opts.u s7v).2.2.2.2.2.2.2.2.2.2.2.2.2.1 = s11v.2.2.2.2.2.2.2.2.2.2.2.2.2.1) && (decide ((synodlaw15_Opts.u s7v).2.2.2.2.2.2.2.2.2.2.2.2.2.2.1 = s11v.2.2.2.2.2.2.2.2.2.2.2.2.2.2.1) && (decide ((synodlaw15_Opts.u s7v).2.2.2.2.2.2.2.2.2.2.2.2.2.2.2.1 = s11v.2.2.2.2.2.2.2.2.2.2.2.2.2.2.2.1) && (decide ((synodlaw15_Opts.u s7v).2.2.2.2.2.2.2.2.2.2.2.2.2.2.2.2.1 = s11v.2.2.2.2.2.2.2.2.2.2.2.2.2.2.2.2.1) && (decide ((synodlaw15_Opts.u s7v).2.2.2.2.2.2.2.2.2.2.2.2.2.2.2.2.2.1 = s11v.2.2.2.2.2.2.2.2.2.2.2.2.2.2.2.2.2.1) && (decide ((synodlaw15_Opts.u s7v).2.2.2.2.2.2.2.2.2.2.2.2.2.2.2.2.2.2 = s11v.2.2.2.2.2.2.2.2.2.2.2.2.2.2.2.2.2.2.1)))))))))))))) [(33, .bool (decide ((synodlaw15_Opts.u s7v).1 = s11v.1) && (decide ((synodlaw15_Opts.u s7v).2.1 = s11v.2.1) && (((decide ((synodlaw15_Opts.u s7v).2.2.1 = s11v.2.2.1) && (decide ((synodlaw15_Opts.u s7v).2.2.2.1 = s11v.2.2.2.1) && (decide ((synodlaw15_Opts.u s7v).2.2.2.2.1 = s11v.2.2.2.2.1) && (decide ((synodlaw15_Opts.u s7v).2.2.2.2.2.1 = s11v.2.2.2.2.2.1) && (decide ((synodlaw15_Opts.u s7v).2.2.2.2.2.2.1 = s11v.2.2.2.2.2.2.1) && (decide ((synodlaw15_Opts.u s7v).2.2.2.2.2.2.2.1 = s11v.2.2.2.2.2.2.2.1) && (decide ((synodlaw15_Opts.u s7v).2.2.2.2.2.2.2.2.1 = s11v.2.2.2.2.2.2.2.2.1) && (decide ((synodlaw15_Opts.u s7v).2.2.2.2.2.2.2.2.2.1 = s11v.2.2.2.2.2.2.2.2.2.1))))))))) && (decide ((synodlaw15_Opts.u s7v).2.2.2.2.2.2.2.2.2.2.1 = s11v.2.2.2.2.2.2.2.2.2.2.1) && (decide ((synodlaw15_Opts.u s7v).2.2.2.2.2.2.2.2.2.2.2.1 = s11v.2.2.2.2.2.2.2.2.2.2.2.1) && (decide ((synodlaw15_Opts.u s7v).2.2.2.2.2.2.2.2.2.2.2.2.1 = s11v.2.2.2.2.2.2.2.2.2.2.2.2.1) && (decide ((synodlaw15_Opts.u s7v).2.2.2.2.2.2.2.2.2.2.2.2.2.1 = s11v.2.2.2.2.2.2.2.2.2.2.2.2.2.1) && (decide ((synodlaw15_Opts.u s7v).2.2.2.2.2.2.2.2.2.2.2.2.2.2.1 = s11v.2.2.2.2.2.2.2.2.2.2.2.2.2.2.1) && (decide ((synodlaw15_Opts.u s7v).2.2.2.2.2.2.2.2.2.2.2.2.2.2.2.1 = s11v.2.2.2.2.2.2.2.2.2.2.2.2.2.2.2.1) && (decide ((synodlaw15_Opts.u s7v).2.2.2.2.2.2.2.2.2.2.2.2.2.2.2.2.1 = s11v.2.2.2.2.2.2.2.2.2.2.2.2.2.2.2.2.1) && (decide ((synodlaw15_Opts.u s7v).2.2.2.2.2.2.2.2.2.2.2.2.2.2.2.2.2.1 = s11v.2.2.2.2.2.2.2.2.2.2.2.2.2.2.2.2.2.1) && (decide ((synodlaw15_Opts.u s7v).2.2.2.2.2.2.2.2.2.2.2.2.2.2.2.2.2.2 = s11v.2.2.2.2.2.2.2.2.2.2.2.2.2.2.2.2.2.2.1))))))))))))))), (34, cv ((decide ((synodlaw15_Opts.u s7v).1 = s11v.1) && (decide ((synodlaw15_Opts.u s7v).2.1 = s11v.2.1) && (((decide ((synodlaw15_Opts.u s7v).2.2.1 = s11v.2.2.1) && (decide ((synodlaw15_Opts.u s7v).2.2.2.1 = s11v.2.2.2.1) && (decide ((synodlaw15_Opts.u s7v).2.2.2.2.1 = s11v.2.2.2.2.1) && (decide ((synodlaw15_Opts.u s7v).2.2.2.2.2.1 = s11v.2.2.2.2.2.1) && (decide ((synodlaw15_Opts.u s7v).2.2.2.2.2.2.1 = s11v.2.2.2.2.2.2.1) && (decide ((synodlaw15_Opts.u s7v).2.2.2.2.2.2.2.1 = s11v.2.2.2.2.2.2.2.1) && (decide ((synodlaw15_Opts.u s7v).2.2.2.2.2.2.2.2.1 = s11v.2.2.2.2.2.2.2.2.1) && (decide ((synodlaw15_Opts.u s7v).2.2.2.2.2.2.2.2.2.1 = s11v.2.2.2.2.2.2.2.2.2.1))))))))) && (decide ((synodlaw15_Opts.u s7v).2.2.2.2.2.2.2.2.2.2.1 = s11v.2.2.2.2.2.2.2.2.2.2.1) && (decide ((synodlaw15_Opts.u s7v).2.2.2.2.2.2.2.2.2.2.2.1 = s11v.2.2.2.2.2.2.2.2.2.2.2.1) && (decide ((synodlaw15_Opts.u s7v).2.2.2.2.2.2.2.2.2.2.2.2.1 = s11v.2.2.2.2.2.2.2.2.2.2.2.2.1) && (decide ((synodlaw15_Opts.u s7v).2.2.2.2.2.2.2.2.2.2.2.2.2.1 = s11v.2.2.2.2.2.2.2.2.2.2.2.2.2.1) && (decide ((synodlaw15_Opts.u s7v).2.2.2.2.2.2.2.2.2.2.2.2.2.2.1 = s11v.2.2.2.2.2.2.2.2.2.2.2.2.2.2.1) && (decide ((synodlaw15_Opts.u s7v).2.2.2.2.2.2.2.2.2.2.2.2.2.2.2.1 = s11v.2.2.2.2.2.2.2.2.2.2.2.2.2.2.2.1) && (decide ((synodlaw15_Opts.u s7v).2.2.2.2.2.2.2.2.2.2.2.2.2.2.2.2.1 = s11v.2.2.2.2.2.2.2.2.2.2.2.2.2.2.2.2.1) && (decide ((synodlaw15_Opts.u s7v).2.2.2.2.2.2.2.2.2.2.2.2.2.2.2.2.2.1 = s11v.2.2.2.2.2.2.2.2.2.2.2.2.2.2.2.2.2.1) && (decide ((synodlaw15_Opts.u s7v).2.2.2.2.2.2.2.2.2.2.2.2.2.2.2.2.2.2 = s11v.2.2.2.2.2.2.2.2.2.2.2.2.2.2.2.2.2.2.1)))))))))))))) == true) (.int .i64 s7v.2.2.2.2.2.2.2.2.2.2.2.2.2.2.2.2.2.2.2))] rfl rfl rfl rfl (.v 4 rfl rfl (.v 5 rfl rfl .nil)) (fun hb37v => RQ.sub (E' := [(34, .int .i64 s7v.2.2.2.2.2.2.2.2.2.2.2.2.2.2.2.2.2.2.2)]) ⟨lk_cv rfl hb37v, trivial⟩ (RE.rq (re_call (vs := [.int .i64 s7v.2.2.2.2.2.2.2.2.2.2.2.2.2.2.2.2.2.2.2]) (cap := []) (A := []) (rst := [obj b14v 61 [.int .i64 s11v.1, .int .i64 s11v.2.1, .int .i64 s11v.2.2.1, .int .i64 s11v.2.2.2.1, .int .i64 s11v.2.2.2.2.1, .int .i64 s11v.2.2.2.2.2.1, .int .i64 s11v.2.2.2.2.2.2.1, .int .i64 s11v.2.2.2.2.2.2.2.1, .int .i64 s11v.2.2.2.2.2.2.2.2.1, .int .i64 s11v.2.2.2.2.2.2.2.2.2.1, .int .i64 s11v.2.2.2.2.2.2.2.2.2.2.1, .int .i64 s11v.2.2.2.2.2.2.2.2.2.2.2.1, .int .i64 s11v.2.2.2.2.2.2.2.2.2.2.2.2.1, .int .i64 s11v.2.2.2.2.2.2.2.2.2.2.2.2.2.1, .int .i64 s11v.2.2.2.2.2.2.2.2.2.2.2.2.2.2.1, .int .i64 s11v.2.2.2.2.2.2.2.2.2.2.2.2.2.2.2.1, .int .i64 s11v.2.2.2.2.2.2.2.2.2.2.2.2.2.2.2.2.1, .int .i64 s11v.2.2.2.2.2.2.2.2.2.2.2.2.2.2.2.2.2.1, .int .i64 s11v.2.2.2.2.2.2.2.2.2.2.2.2.2.2.2.2.2.2.1], obj b10v 54 [.int .i64 s7v.1, .int .i64 s7v.2.1, .int .i64 s7v.2.2.1, .int .i64 s7v.2.2.2.1, .int .i64 s7v.2.2.2.2.1, .int .i64 s7v.2.2.2.2.2.1, .int .i64 s7v.2.2.2.2.2.2.1, .int .i64 s7v.2.2.2.2.2.2.2.1, .int .i64 s7v.2.2.2.2.2.2.2.2.1, .int .i64 s7v.2.2.2.2.2.2.2.2.2.1, .int .i64 s7v.2.2.2.2.2.2.2.2.2.2.1, .int .i64 s7v.2.2.2.2.2.2.2.2.2.2.2.1, .int .i64 s7v.2.2.2.2.2.2.2.2.2.2.2.2.1, .int .i64 s7v.2.2.2.2.2.2.2.2.2.2.2.2.2.1, .int .i64 s7v.2.2.2.2.2.2.2.2.2.2.2.2.2.2.1, .int .i64 s7v.2.2.2.2.2.2.2.2.2.2.2.2.2.2.2.1, .int .i64 s7v.2.2.2.2.2.2.2.2.2.2.2.2.2.2.2.2.1, .int .i64 s7v.2.2.2.2.2.2.2.2.2.2.2.2.2.2.2.2.2.1, .int .i64 s7v.2.2.2.2.2.2.2.2.2.2.2.2.2.2.2.2.2.2.1], obj b1v 54 [.int .i64 x1_0, .int .i64 x1_1, .int .i64 x1_2, .int .i64 x1_3, .int .i64 x1_4, .int .i64 x1_5, .int .i64 x1_6, .int .i64 x1_7, .int .i64 x1_8, .int .i64 x1_9, .int .i64 x1_10, .int .i64 x1_11, .int .i64 x1_12, .int .i64 x1_13, .int .i64 x1_14, .int .i64 x1_15, .int .i64 x1_16, .int .i64 x1_17, .int .i64 x1_18], F]) rfl rfl rfl rfl rfl rfl Tryd.call15 (.sel 0 rfl (.sel 0 rfl (.sel 0 rfl (.sel 0 rfl (.nil _))))) (synodref_Num.calls _ _ s7v.2.2.2.2.2.2.2.2.2.2.2.2.2.2.2.2.2.2.2 ) (synodref_Num.tot s7v.2.2.2.2.2.2.2.2.2.2.2.2.2.2.2.2.2.2.2)) (fun _ => rfl) (fun _ => (.sel 0 rfl (.sel 0 rfl (.sel 0 rfl (.sel 0 rfl (.nil _)))))))) rfl) (aq rfl (fun γ => QOb.grd (b := decide ((synodlaw15_Opts.u s7v).1 = s11v.1) && (decide ((synodlaw15_Opts.u s7v).2.1 = s11v.2.1) && (((decide ((synodlaw15_Opts.u s7v).2.2.1 = s11v.2.2.1) && (decide ((synodlaw15_Opts.u s7v).2.2.2.1 = s11v.2.2.2.1) && (decide ((synodlaw15_Opts.u s7v).2.2.2.2.1 = s11v.2.2.2.2.1) && (decide ((synodlaw15_Opts.u s7v).2.2.2.2.2.1 = s11v.2.2.2.2.2.1) && (decide ((synodlaw15_Opts.u s7v).2.2.2.2.2.2.1 = s11v.2.2.2.2.2.2.1) && (decide ((synodlaw15_Opts.u s7v).2.2.2.2.2.2.2.1 = s11v.2.2.2.2.2.2.2.1) && (decide ((synodlaw15_Opts.u s7v).2.2.2.2.2.2.2.2.1 = s11v.2.2.2.2.2.2.2.2.1) && (decide ((synodlaw15_Opts.u s7v).2.2.2.2.2.2.2.2.2.1 = s11v.2.2.2.2.2.2.2.2.2.1))))))))) && (decide ((synodlaw15_Opts.u s7v).2.2.2.2.2.2.2.2.2.2.1 = s11v.2.2.2.2.2.2.2.2.2.2.1) && (decide ((synodlaw15_Opts.u s7v).2.2.2.2.2.2.2.2.2.2.2.1 = s11v.2.2.2.2.2.2.2.2.2.2.2.1) && (decide ((synodlaw15_Opts.u s7v).2.2.2.2.2.2.2.2.2.2.2.2.1 = s11v.2.2.2.2.2.2.2.2.2.2.2.2.1) && (decide ((synodlaw15_Opts.u s7v).2.2.2.2.2.2.2.2.2.2.2.2.2.1 = s11v.2.2.2.2.2.2.2.2.2.2.2.2.2.1) && (decide ((synodlaw15_Opts.u s7v).2.2.2.2.2.2.2.2.2.2.2.2.2.2.1 = s11v.2.2.2.2.2.2.2.2.2.2.2.2.2.2.1) && (decide ((synodlaw15_Opts.u s7v).2.2.2.2.2.2.2.2.2.2.2.2.2.2.2.1 = s11v.2.2.2.2.2.2.2.2.2.2.2.2.2.2.2.1) && (decide ((synodlaw15_Opts.u s7v).2.2.2.2.2.2.2.2.2.2.2.2.2.2.2.2.1 = s11v.2.2.2.2.2.2.2.2.2.2.2.2.2.2.2.2.1) && (decide ((synodlaw15_Opts.u s7v).2.2.2.2.2.2.2.2.2.2.2.2.2.2.2.2.2.1 = s11v.2.2.2.2.2.2.2.2.2.2.2.2.2.2.2.2.2.1) && (decide ((synodlaw15_Opts.u s7v).2.2.2.2.2.2.2.2.2.2.2.2.2.2.2.2.2.2 = s11v.2.2.2.2.2.2.2.2.2.2.2.2.2.2.2.2.2.2.1)))))))))))))) [(9, .int .i64 s11v.2.2.2.2.2.2.2.2.2.2.2.2.2.2.2.2.2.2.2), (33, .bool (decide ((synodlaw15_Opts.u s7v).1 = s11v.1) && (decide ((synodlaw15_Opts.u s7v).2.1 = s11v.2.1) && (((decide ((synodlaw15_Opts.u s7v).2.2.1 = s11v.2.2.1) && (decide ((synodlaw15_Opts.u s7v).2.2.2.1 = s11v.2.2.2.1) && (decide ((synodlaw15_Opts.u s7v).2.2.2.2.1 = s11v.2.2.2.2.1) && (decide ((synodlaw15_Opts.u s7v).2.2.2.2.2.1 = s11v.2.2.2.2.2.1) && (decide ((synodlaw15_Opts.u s7v).2.2.2.2.2.2.1 = s11v.2.2.2.2.2.2.1) && (decide ((synodlaw15_Opts.u s7v).2.2.2.2.2.2.2.1 = s11v.2.2.2.2.2.2.2.1) && (decide ((synodlaw15_Opts.u s7v).2.2.2.2.2.2.2.2.1 = s11v.2.2.2.2.2.2.2.2.1) && (decide ((synodlaw15_Opts.u s7v).2.2.2.2.2.2.2.2.2.1 = s11v.2.2.2.2.2.2.2.2.2.1))))))))) && (decide ((synodlaw15_Opts.u s7v).2.2.2.2.2.2.2.2.2.2.1 = s11v.2.2.2.2.2.2.2.2.2.2.1) && (decide ((synodlaw15_Opts.u s7v).2.2.2.2.2.2.2.2.2.2.2.1 = s11v.2.2.2.2.2.2.2.2.2.2.2.1) && (decide ((synodlaw15_Opts.u s7v).2.2.2.2.2.2.2.2.2.2.2.2.1 = s11v.2.2.2.2.2.2.2.2.2.2.2.2.1) && (decide ((synodlaw15_Opts.u s7v).2.2.2.2.2.2.2.2.2.2.2.2.2.1 = s11v.2.2.2.2.2.2.2.2.2.2.2.2.2.1) && (decide ((synodlaw15_Opts.u s7v).2.2.2.2.2.2.2.2.2.2.2.2.2.2.1 = s11v.2.2.2.2.2.2.2.2.2.2.2.2.2.2.1) && (decide ((synodlaw15_Opts.u s7v).2.2.2.2.2.2.2.2.2.2.2.2.2.2.2.1 = s11v.2.2.2.2.2.2.2.2.2.2.2.2.2.2.2.1) && (decide ((synodlaw15_Opts.u s7v).2.2.2.2.2.2.2.2.2.2.2.2.2.2.2.2.1 = s11v.2.2.2.2.2.2.2.2.2.2.2.2.2.2.2.2.1) && (decide ((synodlaw15_Opts.u s7v).2.2.2.2.2.2.2.2.2.2.2.2.2.2.2.2.2.1 = s11v.2.2.2.2.2.2.2.2.2.2.2.2.2.2.2.2.2.1) && (decide ((synodlaw15_Opts.u s7v).2.2.2.2.2.2.2.2.2.2.2.2.2.2.2.2.2.2 = s11v.2.2.2.2.2.2.2.2.2.2.2.2.2.2.2.2.2.2.1)))))))))))))))] rfl rfl rfl rfl (.o (s := 9) rfl (by decide) (.v 4 rfl rfl .nil)) (fun hb38v => RQ.sub (E' := [(9, .int .i64 s11v.2.2.2.2.2.2.2.2.2.2.2.2.2.2.2.2.2.2.2)]) ⟨rfl, trivial⟩ (q_move rfl rfl)) rfl) (aq rfl (fun γ => QOb.grd (b := decide ((synodlaw15_Opts.u s7v).1 = s11v.1) && (decide ((synodlaw15_Opts.u s7v).2.1 = s11v.2.1) && (((decide ((synodlaw15_Opts.u s7v).2.2.1 = s11v.2.2.1) && (decide ((synodlaw15_Opts.u s7v).2.2.2.1 = s11v.2.2.2.1) && (decide ((synodlaw15_Opts.u s7v).2.2.2.2.1 = s11v.2.2.2.2.1) && (decide ((synodlaw15_Opts.u s7v).2.2.2.2.2.1 = s11v.2.2.2.2.2.1) && (decide ((synodlaw15_Opts.u s7v).2.2.2.2.2.2.1 = s11v.2.2.2.2.2.2.1) && (decide ((synodlaw15_Opts.u s7v).2.2.2.2.2.2.2.1 = s11v.2.2.2.2.2.2.2.1) && (decide ((synodlaw15_Opts.u s7v).2.2.2.2.2.2.2.2.1 = s11v.2.2.2.2.2.2.2.2.1) && (decide ((synodlaw15_Opts.u s7v).2.2.2.2.2.2.2.2.2.1 = s11v.2.2.2.2.2.2.2.2.2.1))))))))) && (decide ((synodlaw15_Opts.u s7v).2.2.2.2.2.2.2.2.2.2.1 = s11v.2.2.2.2.2.2.2.2.2.2.1) && (decide ((synodlaw15_Opts.u s7v).2.2.2.2.2.2.2.2.2.2.2.1 = s11v.2.2.2.2.2.2.2.2.2.2.2.1) && (decide ((synodlaw15_Opts.u s7v).2.2.2.2.2.2.2.2.2.2.2.2.1 = s11v.2.2.2.2.2.2.2.2.2.2.2.2.1) && (decide ((synodlaw15_Opts.u s7v).2.2.2.2.2.2.2.2.2.2.2.2.2.1 = s11v.2.2.2.2.2.2.2.2.2.2.2.2.2.1) && (decide ((synodlaw15_Opts.u s7v).2.2.2.2.2.2.2.2.2.2.2.2.2.2.1 = s11v.2.2.2.2.2.2.2.2.2.2.2.2.2.2.1) && (decide ((synodlaw15_Opts.u s7v).2.2.2.2.2.2.2.2.2.2.2.2.2.2.2.1 = s11v.2.2.2.2.2.2.2.2.2.2.2.2.2.2.2.1) && (decide ((synodlaw15_Opts.u s7v).2.2.2.2.2.2.2.2.2.2.2.2.2.2.2.2.1 = s11v.2.2.2.2.2.2.2.2.2.2.2.2.2.2.2.2.1) && (decide ((synodlaw15_Opts.u s7v).2.2.2.2.2.2.2.2.2.2.2.2.2.2.2.2.2.1 = s11v.2.2.2.2.2.2.2.2.2.2.2.2.2.2.2.2.2.1) && (decide ((synodlaw15_Opts.u s7v).2.2.2.2.2.2.2.2.2.2.2.2.2.2.2.2.2.2 = s11v.2.2.2.2.2.2.2.2.2.2.2.2.2.2.2.2.2.2.1)))))))))))))) [(33, .bool (decide ((synodlaw15_Opts.u s7v).1 = s11v.1) && (decide ((synodlaw15_Opts.u s7v).2.1 = s11v.2.1) && (((decide ((synodlaw15_Opts.u s7v).2.2.1 = s11v.2.2.1) && (decide ((synodlaw15_Opts.u s7v).2.2.2.1 = s11v.2.2.2.1) && (decide ((synodlaw15_Opts.u s7v).2.2.2.2.1 = s11v.2.2.2.2.1) && (decide ((synodlaw15_Opts.u s7v).2.2.2.2.2.1 = s11v.2.2.2.2.2.1) && (decide ((synodlaw15_Opts.u s7v).2.2.2.2.2.2.1 = s11v.2.2.2.2.2.2.1) && (decide ((synodlaw15_Opts.u s7v).2.2.2.2.2.2.2.1 = s11v.2.2.2.2.2.2.2.1) && (decide ((synodlaw15_Opts.u s7v).2.2.2.2.2.2.2.2.1 = s11v.2.2.2.2.2.2.2.2.1) && (decide ((synodlaw15_Opts.u s7v).2.2.2.2.2.2.2.2.2.1 = s11v.2.2.2.2.2.2.2.2.2.1))))))))) && (decide ((synodlaw15_Opts.u s7v).2.2.2.2.2.2.2.2.2.2.1 = s11v.2.2.2.2.2.2.2.2.2.2.1) && (decide ((synodlaw15_Opts.u s7v).2.2.2.2.2.2.2.2.2.2.2.1 = s11v.2.2.2.2.2.2.2.2.2.2.2.1) && (decide ((synodlaw15_Opts.u s7v).2.2.2.2.2.2.2.2.2.2.2.2.1 = s11v.2.2.2.2.2.2.2.2.2.2.2.2.1) && (decide ((synodlaw15_Opts.u s7v).2.2.2.2.2.2.2.2.2.2.2.2.2.1 = s11v.2.2.2.2.2.2.2.2.2.2.2.2.2.1) && (decide ((synodlaw15_Opts.u s7v).2.2.2.2.2.2.2.2.2.2.2.2.2.2.1 = s11v.2.2.2.2.2.2.2.2.2.2.2.2.2.2.1) && (decide ((synodlaw15_Opts.u s7v).2.2.2.2.2.2.2.2.2.2.2.2.2.2.2.1 = s11v.2.2.2.2.2.2.2.2.2.2.2.2.2.2.2.1) && (decide ((synodlaw15_Opts.u s7v).2.2.2.2.2.2.2.2.2.2.2.2.2.2.2.2.1 = s11v.2.2.2.2.2.2.2.2.2.2.2.2.2.2.2.2.1) && (decide ((synodlaw15_Opts.u s7v).2.2.2.2.2.2.2.2.2.2.2.2.2.2.2.2.2.1 = s11v.2.2.2.2.2.2.2.2.2.2.2.2.2.2.2.2.2.1) && (decide ((synodlaw15_Opts.u s7v).2.2.2.2.2.2.2.2.2.2.2.2.2.2.2.2.2.2 = s11v.2.2.2.2.2.2.2.2.2.2.2.2.2.2.2.2.2.2.1))))))))))))))), (35, cv ((decide ((synodlaw15_Opts.u s7v).1 = s11v.1) && (decide ((synodlaw15_Opts.u s7v).2.1 = s11v.2.1) && (((decide ((synodlaw15_Opts.u s7v).2.2.1 = s11v.2.2.1) && (decide ((synodlaw15_Opts.u s7v).2.2.2.1 = s11v.2.2.2.1) && (decide ((synodlaw15_Opts.u s7v).2.2.2.2.1 = s11v.2.2.2.2.1) && (decide ((synodlaw15_Opts.u s7v).2.2.2.2.2.1 = s11v.2.2.2.2.2.1) && (decide ((synodlaw15_Opts.u s7v).2.2.2.2.2.2.1 = s11v.2.2.2.2.2.2.1) && (decide ((synodlaw15_Opts.u s7v).2.2.2.2.2.2.2.1 = s11v.2.2.2.2.2.2.2.1) && (decide ((synodlaw15_Opts.u s7v).2.2.2.2.2.2.2.2.1 = s11v.2.2.2.2.2.2.2.2.1) && (decide ((synodlaw15_Opts.u s7v).2.2.2.2.2.2.2.2.2.1 = s11v.2.2.2.2.2.2.2.2.2.1))))))))) && (decide ((synodlaw15_Opts.u s7v).2.2.2.2.2.2.2.2.2.2.1 = s11v.2.2.2.2.2.2.2.2.2.2.1) && (decide ((synodlaw15_Opts.u s7v).2.2.2.2.2.2.2.2.2.2.2.1 = s11v.2.2.2.2.2.2.2.2.2.2.2.1) && (decide ((synodlaw15_Opts.u s7v).2.2.2.2.2.2.2.2.2.2.2.2.1 = s11v.2.2.2.2.2.2.2.2.2.2.2.2.1) && (decide ((synodlaw15_Opts.u s7v).2.2.2.2.2.2.2.2.2.2.2.2.2.1 = s11v.2.2.2.2.2.2.2.2.2.2.2.2.2.1) && (decide ((synodlaw15_Opts.u s7v).2.2.2.2.2.2.2.2.2.2.2.2.2.2.1 = s11v.2.2.2.2.2.2.2.2.2.2.2.2.2.2.1) && (decide ((synodlaw15_Opts.u s7v).2.2.2.2.2.2.2.2.2.2.2.2.2.2.2.1 = s11v.2.2.2.2.2.2.2.2.2.2.2.2.2.2.2.1) && (decide ((synodlaw15_Opts.u s7v).2.2.2.2.2.2.2.2.2.2.2.2.2.2.2.2.1 = s11v.2.2.2.2.2.2.2.2.2.2.2.2.2.2.2.2.1) && (decide ((synodlaw15_Opts.u s7v).2.2.2.2.2.2.2.2.2.2.2.2.2.2.2.2.2.1 = s11v.2.2.2.2.2.2.2.2.2.2.2.2.2.2.2.2.2.1) && (decide ((synodlaw15_Opts.u s7v).2.2.2.2.2.2.2.2.2.2.2.2.2.2.2.2.2.2 = s11v.2.2.2.2.2.2.2.2.2.2.2.2.2.2.2.2.2.2.1)))))))))))))) == true) (.int .i64 (synodref_Num.v s7v.2.2.2.2.2.2.2.2.2.2.2.2.2.2.2.2.2.2.2))), (36, cv ((decide ((synodlaw15_Opts.u s7v).1 = s11v.1) && (decide ((synodlaw15_Opts.u s7v).2.1 = s11v.2.1) && (((decide ((synodlaw15_Opts.u s7v).2.2.1 = s11v.2.2.1) && (decide ((synodlaw15_Opts.u s7v).2.2.2.1 = s11v.2.2.2.1) && (decide ((synodlaw15_Opts.u s7v).2.2.2.2.1 = s11v.2.2.2.2.1) && (decide ((synodlaw15_Opts.u s7v).2.2.2.2.2.1 = s11v.2.2.2.2.2.1) && (decide ((synodlaw15_Opts.u s7v).2.2.2.2.2.2.1 = s11v.2.2.2.2.2.2.1) && (decide ((synodlaw15_Opts.u s7v).2.2.2.2.2.2.2.1 = s11v.2.2.2.2.2.2.2.1) && (decide ((synodlaw15_Opts.u s7v).2.2.2.2.2.2.2.2.1 = s11v.2.2.2.2.2.2.2.2.1) && (decide ((synodlaw15_Opts.u s7v).2.2.2.2.2.2.2.2.2.1 = s11v.2.2.2.2.2.2.2.2.2.1))))))))) && (decide ((synodlaw15_Opts.u s7v).2.2.2.2.2.2.2.2.2.2.1 = s11v.2.2.2.2.2.2.2.2.2.2.1) && (decide ((synodlaw15_Opts.u s7v).2.2.2.2.2.2.2.2.2.2.2.1 = s11v.2.2.2.2.2.2.2.2.2.2.2.1) && (decide ((synodlaw15_Opts.u s7v).2.2.2.2.2.2.2.2.2.2.2.2.1 = s11v.2.2.2.2.2.2.2.2.2.2.2.2.1) && (decide ((synodlaw15_Opts.u s7v).2.2.2.2.2.2.2.2.2.2.2.2.2.1 = s11v.2.2.2.2.2.2.2.2.2.2.2.2.2.1) && (decide ((synodlaw15_Opts.u s7v).2.2.2.2.2.2.2.2.2.2.2.2.2.2.1 = s11v.2.2.2.2.2.2.2.2.2.2.2.2.2.2.1) && (decide ((synodlaw15_Opts.u s7v).2.2.2.2.2.2.2.2.2.2.2.2.2.2.2.1 = s11v.2.2.2.2.2.2.2.2.2.2.2.2.2.2.2.1) && (decide ((synodlaw15_Opts.u s7v).2.2.2.2.2.2.2.2.2.2.2.2.2.2.2.2.1 = s11v.2.2.2.2.2.2.2.2.2.2.2.2.2.2.2.2.1) && (decide ((synodlaw15_Opts.u s7v).2.2.2.2.2.2.2.2.2.2.2.2.2.2.2.2.2.1 = s11v.2.2.2.2.2.2.2.2.2.2.2.2.2.2.2.2.2.1) && (decide ((synodlaw15_Opts.u s7v).2.2.2.2.2.2.2.2.2.2.2.2.2.2.2.2.2.2 = s11v.2.2.2.2.2.2.2.2.2.2.2.2.2.2.2.2.2.2.1)))))))))))))) == true) (.int .i64 s11v.2.2.2.2.2.2.2.2.2.2.2.2.2.2.2.2.2.2.2))] rfl rfl rfl rfl (.v 4 rfl rfl (.v 6 rfl rfl (.v 7 rfl rfl .nil))) (fun hb39v => RQ.sub (E' := [(35, .int .i64 (synodref_Num.v s7v.2.2.2.2.2.2.2.2.2.2.2.2.2.2.2.2.2.2.2)), (36, .int .i64 s11v.2.2.2.2.2.2.2.2.2.2.2.2.2.2.2.2.2.2.2)]) ⟨lk_cv rfl hb39v, lk_cv rfl hb39v, trivial⟩ (q_eql rfl rfl rfl)) rfl) (aq rfl (fun γ => qp rfl rfl (.v 4 rfl rfl (.v 8 rfl rfl .nil)) (q_and rfl rfl rfl) rfl) (aq rfl (fun γ => qm rfl (.v 9 rfl rfl .nil) rfl) (aq rfl (fun γ => QOb.grd (b := (decide ((synodlaw15_Opts.u s7v).1 = s11v.1) && (decide ((synodlaw15_Opts.u s7v).2.1 = s11v.2.1) && (((decide ((synodlaw15_Opts.u s7v).2.2.1 = s11v.2.2.1) && (decide ((synodlaw15_Opts.u s7v).2.2.2.1 = s11v.2.2.2.1) && (decide ((synodlaw15_Opts.u s7v).2.2.2.2.1 = s11v.2.2.2.2.1) && (decide ((synodlaw15_Opts.u s7v).2.2.2.2.2.1 = s11v.2.2.2.2.2.1) && (decide ((synodlaw15_Opts.u s7v).2.2.2.2.2.2.1 = s11v.2.2.2.2.2.2.1) && (decide ((synodlaw15_Opts.u s7v).2.2.2.2.2.2.2.1 = s11v.2.2.2.2.2.2.2.1) && (decide ((synodlaw15_Opts.u s7v).2.2.2.2.2.2.2.2.1 = s11v.2.2.2.2.2.2.2.2.1) && (decide ((synodlaw15_Opts.u s7v).2.2.2.2.2.2.2.2.2.1 = s11v.2.2.2.2.2.2.2.2.2.1))))))))) && (decide ((synodlaw15_Opts.u s7v).2.2.2.2.2.2.2.2.2.2.1 = s11v.2.2.2.2.2.2.2.2.2.2.1) && (decide ((synodlaw15_Opts.u s7v).2.2.2.2.2.2.2.2.2.2.2.1 = s11v.2.2.2.2.2.2.2.2.2.2.2.1) && (decide ((synodlaw15_Opts.u s7v).2.2.2.2.2.2.2.2.2.2.2.2.1 = s11v.2.2.2.2.2.2.2.2.2.2.2.2.1) && (decide ((synodlaw15_Opts.u s7v).2.2.2.2.2.2.2.2.2.2.2.2.2.1 = s11v.2.2.2.2.2.2.2.2.2.2.2.2.2.1) && (decide ((synodlaw15_Opts.u s7v).2.2.2.2.2.2.2.2.2.2.2.2.2.2.1 = s11v.2.2.2.2.2.2.2.2.2.2.2.2.2.2.1) && (decide ((synodlaw15_Opts.u s7v).2.2.2.2.2.2.2.2.2.2.2.2.2.2.2.1 = s11v.2.2.2.2.2.2.2.2.2.2.2.2.2.2.2.1) && (decide ((synodlaw15_Opts.u s7v).2.2.2.2.2.2.2.2.2.2.2.2.2.2.2.2.1 = s11v.2.2.2.2.2.2.2.2.2.2.2.2.2.2.2.2.1) && (decide ((synodlaw15_Opts.u s7v).2.2.2.2.2.2.2.2.2.2.2.2.2.2.2.2.2.1 = s11v.2.2.2.2.2.2.2.2.2.2.2.2.2.2.2.2.2.1) && (decide ((synodlaw15_Opts.u s7v).2.2.2.2.2.2.2.2.2.2.2.2.2.2.2.2.2.2 = s11v.2.2.2.2.2.2.2.2.2.2.2.2.2.2.2.2.2.2.1)))))))))))))) && (decide ((synodref_Num.v s7v.2.2.2.2.2.2.2.2.2.2.2.2.2.2.2.2.2.2.2) = s11v.2.2.2.2.2.2.2.2.2.2.2.2.2.2.2.2.2.2.2))) [(3, .pointer (some ⟨b1v, 0, none⟩)), (39, .bool ((decide ((synodlaw15_Opts.u s7v).1 = s11v.1) && (decide ((synodlaw15_Opts.u s7v).2.1 = s11v.2.1) && (((decide ((synodlaw15_Opts.u s7v).2.2.1 = s11v.2.2.1) && (decide ((synodlaw15_Opts.u s7v).2.2.2.1 = s11v.2.2.2.1) && (decide ((synodlaw15_Opts.u s7v).2.2.2.2.1 = s11v.2.2.2.2.1) && (decide ((synodlaw15_Opts.u s7v).2.2.2.2.2.1 = s11v.2.2.2.2.2.1) && (decide ((synodlaw15_Opts.u s7v).2.2.2.2.2.2.1 = s11v.2.2.2.2.2.2.1) && (decide ((synodlaw15_Opts.u s7v).2.2.2.2.2.2.2.1 = s11v.2.2.2.2.2.2.2.1) && (decide ((synodlaw15_Opts.u s7v).2.2.2.2.2.2.2.2.1 = s11v.2.2.2.2.2.2.2.2.1) && (decide ((synodlaw15_Opts.u s7v).2.2.2.2.2.2.2.2.2.1 = s11v.2.2.2.2.2.2.2.2.2.1))))))))) && (decide ((synodlaw15_Opts.u s7v).2.2.2.2.2.2.2.2.2.2.1 = s11v.2.2.2.2.2.2.2.2.2.2.1) && (decide ((synodlaw15_Opts.u s7v).2.2.2.2.2.2.2.2.2.2.2.1 = s11v.2.2.2.2.2.2.2.2.2.2.2.1) && (decide ((synodlaw15_Opts.u s7v).2.2.2.2.2.2.2.2.2.2.2.2.1 = s11v.2.2.2.2.2.2.2.2.2.2.2.2.1) && (decide ((synodlaw15_Opts.u s7v).2.2.2.2.2.2.2.2.2.2.2.2.2.1 = s11v.2.2.2.2.2.2.2.2.2.2.2.2.2.1) && (decide ((synodlaw15_Opts.u s7v).2.2.2.2.2.2.2.2.2.2.2.2.2.2.1 = s11v.2.2.2.2.2.2.2.2.2.2.2.2.2.2.1) && (decide ((synodlaw15_Opts.u s7v).2.2.2.2.2.2.2.2.2.2.2.2.2.2.2.1 = s11v.2.2.2.2.2.2.2.2.2.2.2.2.2.2.2.1) && (decide ((synodlaw15_Opts.u s7v).2.2.2.2.2.2.2.2.2.2.2.2.2.2.2.2.1 = s11v.2.2.2.2.2.2.2.2.2.2.2.2.2.2.2.2.1) && (decide ((synodlaw15_Opts.u s7v).2.2.2.2.2.2.2.2.2.2.2.2.2.2.2.2.2.1 = s11v.2.2.2.2.2.2.2.2.2.2.2.2.2.2.2.2.2.1) && (decide ((synodlaw15_Opts.u s7v).2.2.2.2.2.2.2.2.2.2.2.2.2.2.2.2.2.2 = s11v.2.2.2.2.2.2.2.2.2.2.2.2.2.2.2.2.2.2.1)))))))))))))) && (decide ((synodref_Num.v s7v.2.2.2.2.2.2.2.2.2.2.2.2.2.2.2.2.2.2.2) = s11v.2.2.2.2.2.2.2.2.2.2.2.2.2.2.2.2.2.2.2))))] rfl rfl rfl rfl (.o (s := 3) rfl (by decide) (.v 10 rfl rfl .nil)) (fun hb40v => RQ.sub (E' := [(3, .pointer (some ⟨b1v, 0, none⟩))]) ⟨rfl, trivial⟩ (q_loado 2 rfl rfl Tryd.isAgg54 Tryd.sizeOf54 rfl rfl)) rfl) (aq rfl (fun γ => QOb.grd (b := (decide ((synodlaw15_Opts.u s7v).1 = s11v.1) && (decide ((synodlaw15_Opts.u s7v).2.1 = s11v.2.1) && (((decide ((synodlaw15_Opts.u s7v).2.2.1 = s11v.2.2.1) && (decide ((synodlaw15_Opts.u s7v).2.2.2.1 = s11v.2.2.2.1) && (decide ((synodlaw15_Opts.u s7v).2.2.2.2.1 = s11v.2.2.2.2.1) && (decide ((synodlaw15_Opts.u s7v).2.2.2.2.2.1 = s11v.2.2.2.2.2.1) && (decide ((synodlaw15_Opts.u s7v).2.2.2.2.2.2.1 = s11v.2.2.2.2.2.2.1) && (decide ((synodlaw15_Opts.u s7v).2.2.2.2.2.2.2.1 = s11v.2.2.2.2.2.2.2.1) && (decide ((synodlaw15_Opts.u s7v).2.2.2.2.2.2.2.2.1 = s11v.2.2.2.2.2.2.2.2.1) && (decide ((synodlaw15_Opts.u s7v).2.2.2.2.2.2.2.2.2.1 = s11v.2.2.2.2.2.2.2.2.2.1))))))))) && (decide ((synodlaw15_Opts.u s7v).2.2.2.2.2.2.2.2.2.2.1 = s11v.2.2.2.2.2.2.2.2.2.2.1) && (decide ((synodlaw15_Opts.u s7v).2.2.2.2.2.2.2.2.2.2.2.1 = s11v.2.2.2.2.2.2.2.2.2.2.2.1) && (decide ((synodlaw15_Opts.u s7v).2.2.2.2.2.2.2.2.2.2.2.2.1 = s11v.2.2.2.2.2.2.2.2.2.2.2.2.1) && (decide ((synodlaw15_Opts.u s7v).2.2.2.2.2.2.2.2.2.2.2.2.2.1 = s11v.2.2.2.2.2.2.2.2.2.2.2.2.2.1) && (decide ((synodlaw15_Opts.u s7v).2.2.2.2.2.2.2.2.2.2.2.2.2.2.1 = s11v.2.2.2.2.2.2.2.2.2.2.2.2.2.2.1) && (decide ((synodlaw15_Opts.u s7v).2.2.2.2.2.2.2.2.2.2.2.2.2.2.2.1 = s11v.2.2.2.2.2.2.2.2.2.2.2.2.2.2.2.1) && (decide ((synodlaw15_Opts.u s7v).2.2.2.2.2.2.2.2.2.2.2.2.2.2.2.2.1 = s11v.2.2.2.2.2.2.2.2.2.2.2.2.2.2.2.2.1) && (decide ((synodlaw15_Opts.u s7v).2.2.2.2.2.2.2.2.2.2.2.2.2.2.2.2.2.1 = s11v.2.2.2.2.2.2.2.2.2.2.2.2.2.2.2.2.2.1) && (decide ((synodlaw15_Opts.u s7v).2.2.2.2.2.2.2.2.2.2.2.2.2.2.2.2.2.2 = s11v.2.2.2.2.2.2.2.2.2.2.2.2.2.2.2.2.2.2.1)))))))))))))) && (decide ((synodref_Num.v s7v.2.2.2.2.2.2.2.2.2.2.2.2.2.2.2.2.2.2.2) = s11v.2.2.2.2.2.2.2.2.2.2.2.2.2.2.2.2.2.2.2))) [(39, .bool ((decide ((synodlaw15_Opts.u s7v).1 = s11v.1) && (decide ((synodlaw15_Opts.u s7v).2.1 = s11v.2.1) && (((decide ((synodlaw15_Opts.u s7v).2.2.1 = s11v.2.2.1) && (decide ((synodlaw15_Opts.u s7v).2.2.2.1 = s11v.2.2.2.1) && (decide ((synodlaw15_Opts.u s7v).2.2.2.2.1 = s11v.2.2.2.2.1) && (decide ((synodlaw15_Opts.u s7v).2.2.2.2.2.1 = s11v.2.2.2.2.2.1) && (decide ((synodlaw15_Opts.u s7v).2.2.2.2.2.2.1 = s11v.2.2.2.2.2.2.1) && (decide ((synodlaw15_Opts.u s7v).2.2.2.2.2.2.2.1 = s11v.2.2.2.2.2.2.2.1) && (decide ((synodlaw15_Opts.u s7v).2.2.2.2.2.2.2.2.1 = s11v.2.2.2.2.2.2.2.2.1) && (decide ((synodlaw15_Opts.u s7v).2.2.2.2.2.2.2.2.2.1 = s11v.2.2.2.2.2.2.2.2.2.1))))))))) && (decide ((synodlaw15_Opts.u s7v).2.2.2.2.2.2.2.2.2.2.1 = s11v.2.2.2.2.2.2.2.2.2.2.1) && (decide ((synodlaw15_Opts.u s7v).2.2.2.2.2.2.2.2.2.2.2.1 = s11v.2.2.2.2.2.2.2.2.2.2.2.1) && (decide ((synodlaw15_Opts.u s7v).2.2.2.2.2.2.2.2.2.2.2.2.1 = s11v.2.2.2.2.2.2.2.2.2.2.2.2.1) && (decide ((synodlaw15_Opts.u s7v).2.2.2.2.2.2.2.2.2.2.2.2.2.1 = s11v.2.2.2.2.2.2.2.2.2.2.2.2.2.1) && (decide ((synodlaw15_Opts.u s7v).2.2.2.2.2.2.2.2.2.2.2.2.2.2.1 = s11v.2.2.2.2.2.2.2.2.2.2.2.2.2.2.1) && (decide ((synodlaw15_Opts.u s7v).2.2.2.2.2.2.2.2.2.2.2.2.2.2.2.1 = s11v.2.2.2.2.2.2.2.2.2.2.2.2.2.2.2.1) && (decide ((synodlaw15_Opts.u s7v).2.2.2.2.2.2.2.2.2.2.2.2.2.2.2.2.1 = s11v.2.2.2.2.2.2.2.2.2.2.2.2.2.2.2.2.1) && (decide ((synodlaw15_Opts.u s7v).2.2.2.2.2.2.2.2.2.2.2.2.2.2.2.2.2.1 = s11v.2.2.2.2.2.2.2.2.2.2.2.2.2.2.2.2.2.1) && (decide ((synodlaw15_Opts.u s7v).2.2.2.2.2.2.2.2.2.2.2.2.2.2.2.2.2.2 = s11v.2.2.2.2.2.2.2.2.2.2.2.2.2.2.2.2.2.2.1)))))))))))))) && (decide ((synodref_Num.v s7v.2.2.2.2.2.2.2.2.2.2.2.2.2.2.2.2.2.2.2) = s11v.2.2.2.2.2.2.2.2.2.2.2.2.2.2.2.2.2.2.2)))), (40, cv (((decide ((synodlaw15_Opts.u s7v).1 = s11v.1) && (decide ((synodlaw15_Opts.u s7v).2.1 = s11v.2.1) && (((decide ((synodlaw15_Opts.u s7v).2.2.1 = s11v.2.2.1) && (decide ((synodlaw15_Opts.u s7v).2.2.2.1 = s11v.2.2.2.1) && (decide ((synodlaw15_Opts.u s7v).2.2.2.2.1 = s11v.2.2.2.2.1) && (decide ((synodlaw15_Opts.u s7v).2.2.2.2.2.1 = s11v.2.2.2.2.2.1) && (decide ((synodlaw15_Opts.u s7v).2.2.2.2.2.2.1 = s11v.2.2.2.2.2.2.1) && (decide ((synodlaw15_Opts.u s7v).2.2.2.2.2.2.2.1 = s11v.2.2.2.2.2.2.2.1) && (decide ((synodlaw15_Opts.u s7v).2.2.2.2.2.2.2.2.1 = s11v.2.2.2.2.2.2.2.2.1) && (decide ((synodlaw15_Opts.u s7v).2.2.2.2.2.2.2.2.2.1 = s11v.2.2.2.2.2.2.2.2.2.1))))))))) && (decide ((synodlaw15_Opts.u s7v).2.2.2.2.2.2.2.2.2.2.1 = s11v.2.2.2.2.2.2.2.2.2.2.1) && (decide ((synodlaw15_Opts.u s7v).2.2.2.2.2.2.2.2.2.2.2.1 = s11v.2.2.2.2.2.2.2.2.2.2.2.1) && (decide ((synodlaw15_Opts.u s7v).2.2.2.2.2.2.2.2.2.2.2.2.1 = s11v.2.2.2.2.2.2.2.2.2.2.2.2.1) && (decide ((synodlaw15_Opts.u s7v).2.2.2.2.2.2.2.2.2.2.2.2.2.1 = s11v.2.2.2.2.2.2.2.2.2.2.2.2.2.1) && (decide ((synodlaw15_Opts.u s7v).2.2.2.2.2.2.2.2.2.2.2.2.2.2.1 = s11v.2.2.2.2.2.2.2.2.2.2.2.2.2.2.1) && (decide ((synodlaw15_Opts.u s7v).2.2.2.2.2.2.2.2.2.2.2.2.2.2.2.1 = s11v.2.2.2.2.2.2.2.2.2.2.2.2.2.2.2.1) && (decide ((synodlaw15_Opts.u s7v).2.2.2.2.2.2.2.2.2.2.2.2.2.2.2.2.1 = s11v.2.2.2.2.2.2.2.2.2.2.2.2.2.2.2.2.1) && (decide ((synodlaw15_Opts.u s7v).2.2.2.2.2.2.2.2.2.2.2.2.2.2.2.2.2.1 = s11v.2.2.2.2.2.2.2.2.2.2.2.2.2.2.2.2.2.1) && (decide ((synodlaw15_Opts.u s7v).2.2.2.2.2.2.2.2.2.2.2.2.2.2.2.2.2.2 = s11v.2.2.2.2.2.2.2.2.2.2.2.2.2.2.2.2.2.2.1)))))))))))))) && (decide ((synodref_Num.v s7v.2.2.2.2.2.2.2.2.2.2.2.2.2.2.2.2.2.2.2) = s11v.2.2.2.2.2.2.2.2.2.2.2.2.2.2.2.2.2.2.2))) == true) (.agg #[.int .i64 x1_0, .int .i64 x1_1, .int .i64 x1_2, .int .i64 x1_3, .int .i64 x1_4, .int .i64 x1_5, .int .i64 x1_6, .int .i64 x1_7, .int .i64 x1_8, .int .i64 x1_9, .int .i64 x1_10, .int .i64 x1_11, .int .i64 x1_12, .int .i64 x1_13, .int .i64 x1_14, .int .i64 x1_15, .int .i64 x1_16, .int .i64 x1_17, .int .i64 x1_18]))] rfl rfl rfl rfl (.v 10 rfl rfl (.v 11 rfl rfl .nil)) (fun hb41v => RQ.sub (E' := [(40, .agg #[.int .i64 x1_0, .int .i64 x1_1, .int .i64 x1_2, .int .i64 x1_3, .int .i64 x1_4, .int .i64 x1_5, .int .i64 x1_6, .int .i64 x1_7, .int .i64 x1_8, .int .i64 x1_9, .int .i64 x1_10, .int .i64 x1_11, .int .i64 x1_12, .int .i64 x1_13, .int .i64 x1_14, .int .i64 x1_15, .int .i64 x1_16, .int .i64 x1_17, .int .i64 x1_18])]) ⟨lk_cv rfl hb41v, trivial⟩ (RE.rq (re_call (vs := [.agg #[.int .i64 x1_0, .int .i64 x1_1, .int .i64 x1_2, .int .i64 x1_3, .int .i64 x1_4, .int .i64 x1_5, .int .i64 x1_6, .int .i64 x1_7, .int .i64 x1_8, .int .i64 x1_9, .int .i64 x1_10, .int .i64 x1_11, .int .i64 x1_12, .int .i64 x1_13, .int .i64 x1_14, .int .i64 x1_15, .int .i64 x1_16, .int .i64 x1_17, .int .i64 x1_18]]) (cap := []) (A := []) (rst := [obj b14v 61 [.int .i64 s11v.1, .int .i64 s11v.2.1, .int .i64 s11v.2.2.1, .int .i64 s11v.2.2.2.1, .int .i64 s11v.2.2.2.2.1, .int .i64 s11v.2.2.2.2.2.1, .int .i64 s11v.2.2.2.2.2.2.1, .int .i64 s11v.2.2.2.2.2.2.2.1, .int .i64 s11v.2.2.2.2.2.2.2.2.1, .int .i64 s11v.2.2.2.2.2.2.2.2.2.1, .int .i64 s11v.2.2.2.2.2.2.2.2.2.2.1, .int .i64 s11v.2.2.2.2.2.2.2.2.2.2.2.1, .int .i64 s11v.2.2.2.2.2.2.2.2.2.2.2.2.1, .int .i64 s11v.2.2.2.2.2.2.2.2.2.2.2.2.2.1, .int .i64 s11v.2.2.2.2.2.2.2.2.2.2.2.2.2.2.1, .int .i64 s11v.2.2.2.2.2.2.2.2.2.2.2.2.2.2.2.1, .int .i64 s11v.2.2.2.2.2.2.2.2.2.2.2.2.2.2.2.2.1, .int .i64 s11v.2.2.2.2.2.2.2.2.2.2.2.2.2.2.2.2.2.1, .int .i64 s11v.2.2.2.2.2.2.2.2.2.2.2.2.2.2.2.2.2.2.1], obj b10v 54 [.int .i64 s7v.1, .int .i64 s7v.2.1, .int .i64 s7v.2.2.1, .int .i64 s7v.2.2.2.1, .int .i64 s7v.2.2.2.2.1, .int .i64 s7v.2.2.2.2.2.1, .int .i64 s7v.2.2.2.2.2.2.1, .int .i64 s7v.2.2.2.2.2.2.2.1, .int .i64 s7v.2.2.2.2.2.2.2.2.1, .int .i64 s7v.2.2.2.2.2.2.2.2.2.1, .int .i64 s7v.2.2.2.2.2.2.2.2.2.2.1, .int .i64 s7v.2.2.2.2.2.2.2.2.2.2.2.1, .int .i64 s7v.2.2.2.2.2.2.2.2.2.2.2.2.1, .int .i64 s7v.2.2.2.2.2.2.2.2.2.2.2.2.2.1, .int .i64 s7v.2.2.2.2.2.2.2.2.2.2.2.2.2.2.1, .int .i64 s7v.2.2.2.2.2.2.2.2.2.2.2.2.2.2.2.1, .int .i64 s7v.2.2.2.2.2.2.2.2.2.2.2.2.2.2.2.2.1, .int .i64 s7v.2.2.2.2.2.2.2.2.2.2.2.2.2.2.2.2.2.1, .int .i64 s7v.2.2.2.2.2.2.2.2.2.2.2.2.2.2.2.2.2.2.1], obj b1v 54 [.int .i64 x1_0, .int .i64 x1_1, .int .i64 x1_2, .int .i64 x1_3, .int .i64 x1_4, .int .i64 x1_5, .int .i64 x1_6, .int .i64 x1_7, .int .i64 x1_8, .int .i64 x1_9, .int .i64 x1_10, .int .i64 x1_11, .int .i64 x1_12, .int .i64 x1_13, .int .i64 x1_14, .int .i64 x1_15, .int .i64 x1_16, .int .i64 x1_17, .int .i64 x1_18], F]) rfl rfl rfl rfl rfl rfl Tryd.call27 (.sel 0 rfl (.sel 0 rfl (.sel 0 rfl (.sel 0 rfl (.nil _))))) (text_FormatOpts.calls _ _ x1_0 x1_1 x1_2 x1_3 x1_4 x1_5 x1_6 x1_7 x1_8 x1_9 x1_10 x1_11 x1_12 x1_13 x1_14 x1_15 x1_16 x1_17 x1_18 (hgl.lend 3 rfl)) (by rw [if_pos hb41v] at hs22v; exact hs22v)) (fun _ => rfl) (fun _ => (.sel 0 rfl (.sel 0 rfl (.sel 0 rfl (.sel 0 rfl (.nil _)))))))) rfl) (aq rfl (fun γ => QOb.grd (b := (decide ((synodlaw15_Opts.u s7v).1 = s11v.1) && (decide ((synodlaw15_Opts.u s7v).2.1 = s11v.2.1) && (((decide ((synodlaw15_Opts.u s7v).2.2.1 = s11v.2.2.1) && (decide ((synodlaw15_Opts.u s7v).2.2.2.1 = s11v.2.2.2.1) && (decide ((synodlaw15_Opts.u s7v).2.2.2.2.1 = s11v.2.2.2.2.1) && (decide ((synodlaw15_Opts.u s7v).2.2.2.2.2.1 = s11v.2.2.2.2.2.1) && (decide ((synodlaw15_Opts.u s7v).2.2.2.2.2.2.1 = s11v.2.2.2.2.2.2.1) && (decide ((synodlaw15_Opts.u s7v).2.2.2.2.2.2.2.1 = s11v.2.2.2.2.2.2.2.1) && (decide ((synodlaw15_Opts.u s7v).2.2.2.2.2.2.2.2.1 = s11v.2.2.2.2.2.2.2.2.1) && (decide ((synodlaw15_Opts.u s7v).2.2.2.2.2.2.2.2.2.1 = s11v.2.2.2.2.2.2.2.2.2.1))))))))) && (decide ((synodlaw15_Opts.u s7v).2.2.2.2.2.2.2.2.2.2.1 = s11v.2.2.2.2.2.2.2.2.2.2.1) && (decide ((synodlaw15_Opts.u s7v).2.2.2.2.2.2.2.2.2.2.2.1 = s11v.2.2.2.2.2.2.2.2.2.2.2.1) && (decide ((synodlaw15_Opts.u s7v).2.2.2.2.2.2.2.2.2.2.2.2.1 = s11v.2.2.2.2.2.2.2.2.2.2.2.2.1) && (decide ((synodlaw15_Opts.u s7v).2.2.2.2.2.2.2.2.2.2.2.2.2.1 = s11v.2.2.2.2.2.2.2.2.2.2.2.2.2.1) && (decide ((synodlaw15_Opts.u s7v).2.2.2.2.2.2.2.2.2.2.2.2.2.2.1 = s11v.2.2.2.2.2.2.2.2.2.2.2.2.2.2.1) && (decide ((synodlaw15_Opts.u s7v).2.2.2.2.2.2.2.2.2.2.2.2.2.2.2.1 = s11v.2.2.2.2.2.2.2.2.2.2.2.2.2.2.2.1) && (decide ((synodlaw15_Opts.u s7v).2.2.2.2.2.2.2.2.2.2.2.2.2.2.2.2.1 = s11v.2.2.2.2.2.2.2.2.2.2.2.2.2.2.2.2.1) && (decide ((synodlaw15_Opts.u s7v).2.2.2.2.2.2.2.2.2.2.2.2.2.2.2.2.2.1 = s11v.2.2.2.2.2.2.2.2.2.2.2.2.2.2.2.2.2.1) && (decide ((synodlaw15_Opts.u s7v).2.2.2.2.2.2.2.2.2.2.2.2.2.2.2.2.2.2 = s11v.2.2.2.2.2.2.2.2.2.2.2.2.2.2.2.2.2.2.1)))))))))))))) && (decide ((synodref_Num.v s7v.2.2.2.2.2.2.2.2.2.2.2.2.2.2.2.2.2.2.2) = s11v.2.2.2.2.2.2.2.2.2.2.2.2.2.2.2.2.2.2.2))) [(3, .pointer (some ⟨b1v, 0, none⟩)), (39, .bool ((decide ((synodlaw15_Opts.u s7v).1 = s11v.1) && (decide ((synodlaw15_Opts.u s7v).2.1 = s11v.2.1) && (((decide ((synodlaw15_Opts.u s7v).2.2.1 = s11v.2.2.1) && (decide ((synodlaw15_Opts.u s7v).2.2.2.1 = s11v.2.2.2.1) && (decide ((synodlaw15_Opts.u s7v).2.2.2.2.1 = s11v.2.2.2.2.1) && (decide ((synodlaw15_Opts.u s7v).2.2.2.2.2.1 = s11v.2.2.2.2.2.1) && (decide ((synodlaw15_Opts.u s7v).2.2.2.2.2.2.1 = s11v.2.2.2.2.2.2.1) && (decide ((synodlaw15_Opts.u s7v).2.2.2.2.2.2.2.1 = s11v.2.2.2.2.2.2.2.1) && (decide ((synodlaw15_Opts.u s7v).2.2.2.2.2.2.2.2.1 = s11v.2.2.2.2.2.2.2.2.1) && (decide ((synodlaw15_Opts.u s7v).2.2.2.2.2.2.2.2.2.1 = s11v.2.2.2.2.2.2.2.2.2.1))))))))) && (decide ((synodlaw15_Opts.u s7v).2.2.2.2.2.2.2.2.2.2.1 = s11v.2.2.2.2.2.2.2.2.2.2.1) && (decide ((synodlaw15_Opts.u s7v).2.2.2.2.2.2.2.2.2.2.2.1 = s11v.2.2.2.2.2.2.2.2.2.2.2.1) && (decide ((synodlaw15_Opts.u s7v).2.2.2.2.2.2.2.2.2.2.2.2.1 = s11v.2.2.2.2.2.2.2.2.2.2.2.2.1) && (decide ((synodlaw15_Opts.u s7v).2.2.2.2.2.2.2.2.2.2.2.2.2.1 = s11v.2.2.2.2.2.2.2.2.2.2.2.2.2.1) && (decide ((synodlaw15_Opts.u s7v).2.2.2.2.2.2.2.2.2.2.2.2.2.2.1 = s11v.2.2.2.2.2.2.2.2.2.2.2.2.2.2.1) && (decide ((synodlaw15_Opts.u s7v).2.2.2.2.2.2.2.2.2.2.2.2.2.2.2.1 = s11v.2.2.2.2.2.2.2.2.2.2.2.2.2.2.2.1) && (decide ((synodlaw15_Opts.u s7v).2.2.2.2.2.2.2.2.2.2.2.2.2.2.2.2.1 = s11v.2.2.2.2.2.2.2.2.2.2.2.2.2.2.2.2.1) && (decide ((synodlaw15_Opts.u s7v).2.2.2.2.2.2.2.2.2.2.2.2.2.2.2.2.2.1 = s11v.2.2.2.2.2.2.2.2.2.2.2.2.2.2.2.2.2.1) && (decide ((synodlaw15_Opts.u s7v).2.2.2.2.2.2.2.2.2.2.2.2.2.2.2.2.2.2 = s11v.2.2.2.2.2.2.2.2.2.2.2.2.2.2.2.2.2.2.1)))))))))))))) && (decide ((synodref_Num.v s7v.2.2.2.2.2.2.2.2.2.2.2.2.2.2.2.2.2.2.2) = s11v.2.2.2.2.2.2.2.2.2.2.2.2.2.2.2.2.2.2.2))))] rfl rfl rfl rfl (.o (s := 3) rfl (by decide) (.v 10 rfl rfl .nil)) (fun hb42v => RQ.sub (E' := [(3, .pointer (some ⟨b1v, 0, none⟩))]) ⟨rfl, trivial⟩ (q_loado 2 rfl rfl Tryd.isAgg54 Tryd.sizeOf54 rfl rfl)) rfl) (aq rfl (fun γ => QOb.grd (b := (decide ((synodlaw15_Opts.u s7v).1 = s11v.1) && (decide ((synodlaw15_Opts.u s7v).2.1 = s11v.2.1) && (((decide ((synodlaw15_Opts.u s7v).2.2.1 = s11v.2.2.1) && (decide ((synodlaw15_Opts.u s7v).2.2.2.1 = s11v.2.2.2.1) && (decide ((synodlaw15_Opts.u s7v).2.2.2.2.1 = s11v.2.2.2.2.1) && (decide ((synodlaw15_Opts.u s7v).2.2.2.2.2.1 = s11v.2.2.2.2.2.1) && (decide ((synodlaw15_Opts.u s7v).2.2.2.2.2.2.1 = s11v.2.2.2.2.2.2.1) && (decide ((synodlaw15_Opts.u s7v).2.2.2.2.2.2.2.1 = s11v.2.2.2.2.2.2.2.1) && (decide ((synodlaw15_Opts.u s7v).2.2.2.2.2.2.2.2.1 = s11v.2.2.2.2.2.2.2.2.1) && (decide ((synodlaw15_Opts.u s7v).2.2.2.2.2.2.2.2.2.1 = s11v.2.2.2.2.2.2.2.2.2.1))))))))) && (decide ((synodlaw15_Opts.u s7v).2.2.2.2.2.2.2.2.2.2.1 = s11v.2.2.2.2.2.2.2.2.2.2.1) && (decide ((synodlaw15_Opts.u s7v).2.2.2.2.2.2.2.2.2.2.2.1 = s11v.2.2.2.2.2.2.2.2.2.2.2.1) && (decide ((synodlaw15_Opts.u s7v).2.2.2.2.2.2.2.2.2.2.2.2.1 = s11v.2.2.2.2.2.2.2.2.2.2.2.2.1) && (decide ((synodlaw15_Opts.u s7v).2.2.2.2.2.2.2.2.2.2.2.2.2.1 = s11v.2.2.2.2.2.2.2.2.2.2.2.2.2.1) && (decide ((synodlaw15_Opts.u s7v).2.2.2.2.2.2.2.2.2.2.2.2.2.2.1 = s11v.2.2.2.2.2.2.2.2.2.2.2.2.2.2.1) && (decide ((synodlaw15_Opts.u s7v).2.2.2.2.2.2.2.2.2.2.2.2.2.2.2.1 = s11v.2.2.2.2.2.2.2.2.2.2.2.2.2.2.2.1) && (decide ((synodlaw15_Opts.u s7v).2.2.2.2.2.2.2.2.2.2.2.2.2.2.2.2.1 = s11v.2.2.2.2.2.2.2.2.2.2.2.2.2.2.2.2.1) && (decide ((synodlaw15_Opts.u s7v).2.2.2.2.2.2.2.2.2.2.2.2.2.2.2.2.2.1 = s11v.2.2.2.2.2.2.2.2.2.2.2.2.2.2.2.2.2.1) && (decide ((synodlaw15_Opts.u s7v).2.2.2.2.2.2.2.2.2.2.2.2.2.2.2.2.2.2 = s11v.2.2.2.2.2.2.2.2.2.2.2.2.2.2.2.2.2.2.1)))))))))))))) && (decide ((synodref_Num.v s7v.2.2.2.2.2.2.2.2.2.2.2.2.2.2.2.2.2.2.2) = s11v.2.2.2.2.2.2.2.2.2.2.2.2.2.2.2.2.2.2.2))) [(39, .bool ((decide ((synodlaw15_Opts.u s7v).1 = s11v.1) && (decide ((synodlaw15_Opts.u s7v).2.1 = s11v.2.1) && (((decide ((synodlaw15_Opts.u s7v).2.2.1 = s11v.2.2.1) && (decide ((synodlaw15_Opts.u s7v).2.2.2.1 = s11v.2.2.2.1) && (decide ((synodlaw15_Opts.u s7v).2.2.2.2.1 = s11v.2.2.2.2.1) && (decide ((synodlaw15_Opts.u s7v).2.2.2.2.2.1 = s11v.2.2.2.2.2.1) && (decide ((synodlaw15_Opts.u s7v).2.2.2.2.2.2.1 = s11v.2.2.2.2.2.2.1) && (decide ((synodlaw15_Opts.u s7v).2.2.2.2.2.2.2.1 = s11v.2.2.2.2.2.2.2.1) && (decide ((synodlaw15_Opts.u s7v).2.2.2.2.2.2.2.2.1 = s11v.2.2.2.2.2.2.2.2.1) && (decide ((synodlaw15_Opts.u s7v).2.2.2.2.2.2.2.2.2.1 = s11v.2.2.2.2.2.2.2.2.2.1))))))))) && (decide ((synodlaw15_Opts.u s7v).2.2.2.2.2.2.2.2.2.2.1 = s11v.2.2.2.2.2.2.2.2.2.2.1) && (decide ((synodlaw15_Opts.u s7v).2.2.2.2.2.2.2.2.2.2.2.1 = s11v.2.2.2.2.2.2.2.2.2.2.2.1) && (decide ((synodlaw15_Opts.u s7v).2.2.2.2.2.2.2.2.2.2.2.2.1 = s11v.2.2.2.2.2.2.2.2.2.2.2.2.1) && (decide ((synodlaw15_Opts.u s7v).2.2.2.2.2.2.2.2.2.2.2.2.2.1 = s11v.2.2.2.2.2.2.2.2.2.2.2.2.2.1) && (decide ((synodlaw15_Opts.u s7v).2.2.2.2.2.2.2.2.2.2.2.2.2.2.1 = s11v.2.2.2.2.2.2.2.2.2.2.2.2.2.2.1) && (decide ((synodlaw15_Opts.u s7v).2.2.2.2.2.2.2.2.2.2.2.2.2.2.2.1 = s11v.2.2.2.2.2.2.2.2.2.2.2.2.2.2.2.1) && (decide ((synodlaw15_Opts.u s7v).2.2.2.2.2.2.2.2.2.2.2.2.2.2.2.2.1 = s11v.2.2.2.2.2.2.2.2.2.2.2.2.2.2.2.2.1) && (decide ((synodlaw15_Opts.u s7v).2.2.2.2.2.2.2.2.2.2.2.2.2.2.2.2.2.1 = s11v.2.2.2.2.2.2.2.2.2.2.2.2.2.2.2.2.2.1) && (decide ((synodlaw15_Opts.u s7v).2.2.2.2.2.2.2.2.2.2.2.2.2.2.2.2.2.2 = s11v.2.2.2.2.2.2.2.2.2.2.2.2.2.2.2.2.2.2.1)))))))))))))) && (decide ((synodref_Num.v s7v.2.2.2.2.2.2.2.2.2.2.2.2.2.2.2.2.2.2.2) = s11v.2.2.2.2.2.2.2.2.2.2.2.2.2.2.2.2.2.2.2)))), (42, cv (((decide ((synodlaw15_Opts.u s7v).1 = s11v.1) && (decide ((synodlaw15_Opts.u s7v).2.1 = s11v.2.1) && (((decide ((synodlaw15_Opts.u s7v).2.2.1 = s11v.2.2.1) && (decide ((synodlaw15_Opts.u s7v).2.2.2.1 = s11v.2.2.2.1) && (decide ((synodlaw15_Opts.u s7v).2.2.2.2.1 = s11v.2.2.2.2.1) && (decide ((synodlaw15_Opts.u s7v).2.2.2.2.2.1 = s11v.2.2.2.2.2.1) && (decide ((synodlaw15_Opts.u s7v).2.2.2.2.2.2.1 = s11v.2.2.2.2.2.2.1) && (decide ((synodlaw15_Opts.u s7v).2.2.2.2.2.2.2.1 = s11v.2.2.2.2.2.2.2.1) && (decide ((synodlaw15_Opts.u s7v).2.2.2.2.2.2.2.2.1 = s11v.2.2.2.2.2.2.2.2.1) && (decide ((synodlaw15_Opts.u s7v).2.2.2.2.2.2.2.2.2.1 = s11v.2.2.2.2.2.2.2.2.2.1))))))))) && (decide ((synodlaw15_Opts.u s7v).2.2.2.2.2.2.2.2.2.2.1 = s11v.2.2.2.2.2.2.2.2.2.2.1) && (decide ((synodlaw15_Opts.u s7v).2.2.2.2.2.2.2.2.2.2.2.1 = s11v.2.2.2.2.2.2.2.2.2.2.2.1) && (decide ((synodlaw15_Opts.u s7v).2.2.2.2.2.2.2.2.2.2.2.2.1 = s11v.2.2.2.2.2.2.2.2.2.2.2.2.1) && (decide ((synodlaw15_Opts.u s7v).2.2.2.2.2.2.2.2.2.2.2.2.2.1 = s11v.2.2.2.2.2.2.2.2.2.2.2.2.2.1) && (decide ((synodlaw15_Opts.u s7v).2.2.2.2.2.2.2.2.2.2.2.2.2.2.1 = s11v.2.2.2.2.2.2.2.2.2.2.2.2.2.2.1) && (decide ((synodlaw15_Opts.u s7v).2.2.2.2.2.2.2.2.2.2.2.2.2.2.2.1 = s11v.2.2.2.2.2.2.2.2.2.2.2.2.2.2.2.1) && (decide ((synodlaw15_Opts.u s7v).2.2.2.2.2.2.2.2.2.2.2.2.2.2.2.2.1 = s11v.2.2.2.2.2.2.2.2.2.2.2.2.2.2.2.2.1) && (decide ((synodlaw15_Opts.u s7v).2.2.2.2.2.2.2.2.2.2.2.2.2.2.2.2.2.1 = s11v.2.2.2.2.2.2.2.2.2.2.2.2.2.2.2.2.2.1) && (decide ((synodlaw15_Opts.u s7v).2.2.2.2.2.2.2.2.2.2.2.2.2.2.2.2.2.2 = s11v.2.2.2.2.2.2.2.2.2.2.2.2.2.2.2.2.2.2.1)))))))))))))) && (decide ((synodref_Num.v s7v.2.2.2.2.2.2.2.2.2.2.2.2.2.2.2.2.2.2.2) = s11v.2.2.2.2.2.2.2.2.2.2.2.2.2.2.2.2.2.2.2))) == true) (.agg #[.int .i64 x1_0, .int .i64 x1_1, .int .i64 x1_2, .int .i64 x1_3, .int .i64 x1_4, .int .i64 x1_5, .int .i64 x1_6, .int .i64 x1_7, .int .i64 x1_8, .int .i64 x1_9, .int .i64 x1_10, .int .i64 x1_11, .int .i64 x1_12, .int .i64 x1_13, .int .i64 x1_14, .int .i64 x1_15, .int .i64 x1_16, .int .i64 x1_17, .int .i64 x1_18]))] rfl rfl rfl rfl (.v 10 rfl rfl (.v 13 rfl rfl .nil)) (fun hb46v => RQ.sub (E' := [(42, .agg #[.int .i64 x1_0, .int .i64 x1_1, .int .i64 x1_2, .int .i64 x1_3, .int .i64 x1_4, .int .i64 x1_5, .int .i64 x1_6, .int .i64 x1_7, .int .i64 x1_8, .int .i64 x1_9, .int .i64 x1_10, .int .i64 x1_11, .int .i64 x1_12, .int .i64 x1_13, .int .i64 x1_14, .int .i64 x1_15, .int .i64 x1_16, .int .i64 x1_17, .int .i64 x1_18])]) ⟨lk_cv rfl hb46v, trivial⟩ (RE.rq (re_call (vs := [.agg #[.int .i64 x1_0, .int .i64 x1_1, .int .i64 x1_2, .int .i64 x1_3, .int .i64 x1_4, .int .i64 x1_5, .int .i64 x1_6, .int .i64 x1_7, .int .i64 x1_8, .int .i64 x1_9, .int .i64 x1_10, .int .i64 x1_11, .int .i64 x1_12, .int .i64 x1_13, .int .i64 x1_14, .int .i64 x1_15, .int .i64 x1_16, .int .i64 x1_17, .int .i64 x1_18]]) (cap := []) (A := []) (rst := [obj b14v 61 [.int .i64 s11v.1, .int .i64 s11v.2.1, .int .i64 s11v.2.2.1, .int .i64 s11v.2.2.2.1, .int .i64 s11v.2.2.2.2.1, .int .i64 s11v.2.2.2.2.2.1, .int .i64 s11v.2.2.2.2.2.2.1, .int .i64 s11v.2.2.2.2.2.2.2.1, .int .i64 s11v.2.2.2.2.2.2.2.2.1, .int .i64 s11v.2.2.2.2.2.2.2.2.2.1, .int .i64 s11v.2.2.2.2.2.2.2.2.2.2.1, .int .i64 s11v.2.2.2.2.2.2.2.2.2.2.2.1, .int .i64 s11v.2.2.2.2.2.2.2.2.2.2.2.2.1, .int .i64 s11v.2.2.2.2.2.2.2.2.2.2.2.2.2.1, .int .i64 s11v.2.2.2.2.2.2.2.2.2.2.2.2.2.2.1, .int .i64 s11v.2.2.2.2.2.2.2.2.2.2.2.2.2.2.2.1, .int .i64 s11v.2.2.2.2.2.2.2.2.2.2.2.2.2.2.2.2.1, .int .i64 s11v.2.2.2.2.2.2.2.2.2.2.2.2.2.2.2.2.2.1, .int .i64 s11v.2.2.2.2.2.2.2.2.2.2.2.2.2.2.2.2.2.2.1], obj b10v 54 [.int .i64 s7v.1, .int .i64 s7v.2.1, .int .i64 s7v.2.2.1, .int .i64 s7v.2.2.2.1, .int .i64 s7v.2.2.2.2.1, .int .i64 s7v.2.2.2.2.2.1, .int .i64 s7v.2.2.2.2.2.2.1, .int .i64 s7v.2.2.2.2.2.2.2.1, .int .i64 s7v.2.2.2.2.2.2.2.2.1, .int .i64 s7v.2.2.2.2.2.2.2.2.2.1, .int .i64 s7v.2.2.2.2.2.2.2.2.2.2.1, .int .i64 s7v.2.2.2.2.2.2.2.2.2.2.2.1, .int .i64 s7v.2.2.2.2.2.2.2.2.2.2.2.2.1, .int .i64 s7v.2.2.2.2.2.2.2.2.2.2.2.2.2.1, .int .i64 s7v.2.2.2.2.2.2.2.2.2.2.2.2.2.2.1, .int .i64 s7v.2.2.2.2.2.2.2.2.2.2.2.2.2.2.2.1, .int .i64 s7v.2.2.2.2.2.2.2.2.2.2.2.2.2.2.2.2.1, .int .i64 s7v.2.2.2.2.2.2.2.2.2.2.2.2.2.2.2.2.2.1, .int .i64 s7v.2.2.2.2.2.2.2.2.2.2.2.2.2.2.2.2.2.2.1], obj b1v 54 [.int .i64 x1_0, .int .i64 x1_1, .int .i64 x1_2, .int .i64 x1_3, .int .i64 x1_4, .int .i64 x1_5, .int .i64 x1_6, .int .i64 x1_7, .int .i64 x1_8, .int .i64 x1_9, .int .i64 x1_10, .int .i64 x1_11, .int .i64 x1_12, .int .i64 x1_13, .int .i64 x1_14, .int .i64 x1_15, .int .i64 x1_16, .int .i64 x1_17, .int .i64 x1_18], F]) rfl rfl rfl rfl rfl rfl Tryd.call26 (.sel 0 rfl (.sel 0 rfl (.sel 0 rfl (.sel 0 rfl (.nil _))))) (synodlaw15_Opts.calls _ _ x1_0 x1_1 x1_2 x1_3 x1_4 x1_5 x1_6 x1_7 x1_8 x1_9 x1_10 x1_11 x1_12 x1_13 x1_14 x1_15 x1_16 x1_17 x1_18 ) (synodlaw15_Opts.tot x1_0 x1_1 x1_2 x1_3 x1_4 x1_5 x1_6 x1_7 x1_8 x1_9 x1_10 x1_11 x1_12 x1_13 x1_14 x1_15 x1_16 x1_17 x1_18)) (fun _ => rfl) (fun _ => (.sel 0 rfl (.sel 0 rfl (.sel 0 rfl (.sel 0 rfl (.nil _)))))))) rfl) (aq rfl (fun γ => QOb.grd (b := (decide ((synodlaw15_Opts.u s7v).1 = s11v.1) && (decide ((synodlaw15_Opts.u s7v).2.1 = s11v.2.1) && (((decide ((synodlaw15_Opts.u s7v).2.2.1 = s11v.2.2.1) && (decide ((synodlaw15_Opts.u s7v).2.2.2.1 = s11v.2.2.2.1) && (decide ((synodlaw15_Opts.u s7v).2.2.2.2.1 = s11v.2.2.2.2.1) && (decide ((synodlaw15_Opts.u s7v).2.2.2.2.2.1 = s11v.2.2.2.2.2.1) && (decide ((synodlaw15_Opts.u s7v).2.2.2.2.2.2.1 = s11v.2.2.2.2.2.2.1) && (decide ((synodlaw15_Opts.u s7v).2.2.2.2.2.2.2.1 = s11v.2.2.2.2.2.2.2.1) && (decide ((synodlaw15_Opts.u s7v).2.2.2.2.2.2.2.2.1 = s11v.2.2.2.2.2.2.2.2.1) && (decide ((synodlaw15_Opts.u s7v).2.2.2.2.2.2.2.2.2.1 = s11v.2.2.2.2.2.2.2.2.2.1))))))))) && (decide ((synodlaw15_Opts.u s7v).2.2.2.2.2.2.2.2.2.2.1 = s11v.2.2.2.2.2.2.2.2.2.2.1) && (decide ((synodlaw15_Opts.u s7v).2.2.2.2.2.2.2.2.2.2.2.1 = s11v.2.2.2.2.2.2.2.2.2.2.2.1) && (decide ((synodlaw15_Opts.u s7v).2.2.2.2.2.2.2.2.2.2.2.2.1 = s11v.2.2.2.2.2.2.2.2.2.2.2.2.1) && (decide ((synodlaw15_Opts.u s7v).2.2.2.2.2.2.2.2.2.2.2.2.2.1 = s11v.2.2.2.2.2.2.2.2.2.2.2.2.2.1) && (decide ((synodlaw15_Opts.u s7v).2.2.2.2.2.2.2.2.2.2.2.2.2.2.1 = s11v.2.2.2.2.2.2.2.2.2.2.2.2.2.2.1) && (decide ((synodlaw15_Opts.u s7v).2.2.2.2.2.2.2.2.2.2.2.2.2.2.2.1 = s11v.2.2.2.2.2.2.2.2.2.2.2.2.2.2.2.1) && (decide ((synodlaw15_Opts.u s7v).2.2.2.2.2.2.2.2.2.2.2.2.2.2.2.2.1 = s11v.2.2.2.2.2.2.2.2.2.2.2.2.2.2.2.2.1) && (decide ((synodlaw15_Opts.u s7v).2.2.2.2.2.2.2.2.2.2.2.2.2.2.2.2.2.1 = s11v.2.2.2.2.2.2.2.2.2.2.2.2.2.2.2.2.2.1) && (decide ((synodlaw15_Opts.u s7v).2.2.2.2.2.2.2.2.2.2.2.2.2.2.2.2.2.2 = s11v.2.2.2.2.2.2.2.2.2.2.2.2.2.2.2.2.2.2.1)))))))))))))) && (decide ((synodref_Num.v s7v.2.2.2.2.2.2.2.2.2.2.2.2.2.2.2.2.2.2.2) = s11v.2.2.2.2.2.2.2.2.2.2.2.2.2.2.2.2.2.2.2))) [(39, .bool ((decide ((synodlaw15_Opts.u s7v).1 = s11v.1) && (decide ((synodlaw15_Opts.u s7v).2.1 = s11v.2.1) && (((decide ((synodlaw15_Opts.u s7v).2.2.1 = s11v.2.2.1) && (decide ((synodlaw15_Opts.u s7v).2.2.2.1 = s11v.2.2.2.1) && (decide ((synodlaw15_Opts.u s7v).2.2.2.2.1 = s11v.2.2.2.2.1) && (decide ((synodlaw15_Opts.u s7v).2.2.2.2.2.1 = s11v.2.2.2.2.2.1) && (decide ((synodlaw15_Opts.u s7v).2.2.2.2.2.2.1 = s11v.2.2.2.2.2.2.1) && (decide ((synodlaw15_Opts.u s7v).2.2.2.2.2.2.2.1 = s11v.2.2.2.2.2.2.2.1) && (decide ((synodlaw15_Opts.u s7v).2.2.2.2.2.2.2.2.1 = s11v.2.2.2.2.2.2.2.2.1) && (decide ((synodlaw15_Opts.u s7v).2.2.2.2.2.2.2.2.2.1 = s11v.2.2.2.2.2.2.2.2.2.1))))))))) && (decide ((synodlaw15_Opts.u s7v).2.2.2.2.2.2.2.2.2.2.1 = s11v.2.2.2.2.2.2.2.2.2.2.1) && (decide ((synodlaw15_Opts.u s7v).2.2.2.2.2.2.2.2.2.2.2.1 = s11v.2.2.2.2.2.2.2.2.2.2.2.1) && (decide ((synodlaw15_Opts.u s7v).2.2.2.2.2.2.2.2.2.2.2.2.1 = s11v.2.2.2.2.2.2.2.2.2.2.2.2.1) && (decide ((synodlaw15_Opts.u s7v).2.2.2.2.2.2.2.2.2.2.2.2.2.1 = s11v.2.2.2.2.2.2.2.2.2.2.2.2.2.1) && (decide ((synodlaw15_Opts.u s7v).2.2.2.2.2.2.2.2.2.2.2.2.2.2.1 = s11v.2.2.2.2.2.2.2.2.2.2.2.2.2.2.1) && (decide ((synodlaw15_Opts.u s7v).2.2.2.2.2.2.2.2.2.2.2.2.2.2.2.1 = s11v.2.2.2.2.2.2.2.2.2.2.2.2.2.2.2.1) && (decide ((synodlaw15_Opts.u s7v).2.2.2.2.2.2.2.2.2.2.2.2.2.2.2.2.1 = s11v.2.2.2.2.2.2.2.2.2.2.2.2.2.2.2.2.1) && (decide ((synodlaw15_Opts.u s7v).2.2.2.2.2.2.2.2.2.2.2.2.2.2.2.2.2.1 = s11v.2.2.2.2.2.2.2.2.2.2.2.2.2.2.2.2.2.1) && (decide ((synodlaw15_Opts.u s7v).2.2.2.2.2.2.2.2.2.2.2.2.2.2.2.2.2.2 = s11v.2.2.2.2.2.2.2.2.2.2.2.2.2.2.2.2.2.2.1)))))))))))))) && (decide ((synodref_Num.v s7v.2.2.2.2.2.2.2.2.2.2.2.2.2.2.2.2.2.2.2) = s11v.2.2.2.2.2.2.2.2.2.2.2.2.2.2.2.2.2.2.2)))), (43, cv (((decide ((synodlaw15_Opts.u s7v).1 = s11v.1) && (decide ((synodlaw15_Opts.u s7v).2.1 = s11v.2.1) && (((decide ((synodlaw15_Opts.u s7v).2.2.1 = s11v.2.2.1) && (decide ((synodlaw15_Opts.u s7v).2.2.2.1 = s11v.2.2.2.1) && (decide ((synodlaw15_Opts.u s7v).2.2.2.2.1 = s11v.2.2.2.2.1) && (decide ((synodlaw15_Opts.u s7v).2.2.2.2.2.1 = s11v.2.2.2.2.2.1) && (decide ((synodlaw15_Opts.u s7v).2.2.2.2.2.2.1 = s11v.2.2.2.2.2.2.1) && (decide ((synodlaw15_Opts.u s7v).2.2.2.2.2.2.2.1 = s11v.2.2.2.2.2.2.2.1) && (decide ((synodlaw15_Opts.u s7v).2.2.2.2.2.2.2.2.1 = s11v.2.2.2.2.2.2.2.2.1) && (decide ((synodlaw15_Opts.u s7v).2.2.2.2.2.2.2.2.2.1 = s11v.2.2.2.2.2.2.2.2.2.1))))))))) && (decide ((synodlaw15_Opts.u s7v).2.2.2.2.2.2.2.2.2.2.1 = s11v.2.2.2.2.2.2.2.2.2.2.1) && (decide ((synodlaw15_Opts.u s7v).2.2.2.2.2.2.2.2.2.2.2.1 = s11v.2.2.2.2.2.2.2.2.2.2.2.1) && (decide ((synodlaw15_Opts.u s7v).2.2.2.2.2.2.2.2.2.2.2.2.1 = s11v.2.2.2.2.2.2.2.2.2.2.2.2.1) && (decide ((synodlaw15_Opts.u s7v).2.2.2.2.2.2.2.2.2.2.2.2.2.1 = s11v.2.2.2.2.2.2.2.2.2.2.2.2.2.1) && (decide ((synodlaw15_Opts.u s7v).2.2.2.2.2.2.2.2.2.2.2.2.2.2.1 = s11v.2.2.2.2.2.2.2.2.2.2.2.2.2.2.1) && (decide ((synodlaw15_Opts.u s7v).2.2.2.2.2.2.2.2.2.2.2.2.2.2.2.1 = s11v.2.2.2.2.2.2.2.2.2.2.2.2.2.2.2.1) && (decide ((synodlaw15_Opts.u s7v).2.2.2.2.2.2.2.2.2.2.2.2.2.2.2.2.1 = s11v.2.2.2.2.2.2.2.2.2.2.2.2.2.2.2.2.1) && (decide ((synodlaw15_Opts.u s7v).2.2.2.2.2.2.2.2.2.2.2.2.2.2.2.2.2.1 = s11v.2.2.2.2.2.2.2.2.2.2.2.2.2.2.2.2.2.1) && (decide ((synodlaw15_Opts.u s7v).2.2.2.2.2.2.2.2.2.2.2.2.2.2.2.2.2.2 = s11v.2.2.2.2.2.2.2.2.2.2.2.2.2.2.2.2.2.2.1)))))))))))))) && (decide ((synodref_Num.v s7v.2.2.2.2.2.2.2.2.2.2.2.2.2.2.2.2.2.2.2) = s11v.2.2.2.2.2.2.2.2.2.2.2.2.2.2.2.2.2.2.2))) == true) (.agg #[.int .i64 ((synodlaw15_Opts.v x1_0 x1_1 x1_2 x1_3 x1_4 x1_5 x1_6 x1_7 x1_8 x1_9 x1_10 x1_11 x1_12 x1_13 x1_14 x1_15 x1_16 x1_17 x1_18).1), .int .i64 ((synodlaw15_Opts.v x1_0 x1_1 x1_2 x1_3 x1_4 x1_5 x1_6 x1_7 x1_8 x1_9 x1_10 x1_11 x1_12 x1_13 x1_14 x1_15 x1_16 x1_17 x1_18).2.1), .int .i64 ((synodlaw15_Opts.v x1_0 x1_1 x1_2 x1_3 x1_4 x1_5 x1_6 x1_7 x1_8 x1_9 x1_10 x1_11 x1_12 x1_13 x1_14 x1_15 x1_16 x1_17 x1_18).2.2.1), .int .i64 ((synodlaw15_Opts.v x1_0 x1_1 x1_2 x1_3 x1_4 x1_5 x1_6 x1_7 x1_8 x1_9 x1_10 x1_11 x1_12 x1_13 x1_14 x1_15 x1_16 x1_17 x1_18).2.2.2.1), .int .i64 ((synodlaw15_Opts.v x1_0 x1_1 x1_2 x1_3 x1_4 x1_5 x1_6 x1_7 x1_8 x1_9 x1_10 x1_11 x1_12 x1_13 x1_14 x1_15 x1_16 x1_17 x1_18).2.2.2.2.1), .int .i64 ((synodlaw15_Opts.v x1_0 x1_1 x1_2 x1_3 x1_4 x1_5 x1_6 x1_7 x1_8 x1_9 x1_10 x1_11 x1_12 x1_13 x1_14 x1_15 x1_16 x1_17 x1_18).2.2.2.2.2.1), .int .i64 ((synodlaw15_Opts.v x1_0 x1_1 x1_2 x1_3 x1_4 x1_5 x1_6 x1_7 x1_8 x1_9 x1_10 x1_11 x1_12 x1_13 x1_14 x1_15 x1_16 x1_17 x1_18).2.2.2.2.2.2.1), .int .i64 ((synodlaw15_Opts.v x1_0 x1_1 x1_2 x1_3 x1_4 x1_5 x1_6 x1_7 x1_8 x1_9 x1_10 x1_11 x1_12 x1_13 x1_14 x1_15 x1_16 x1_17 x1_18).2.2.2.2.2.2.2.1), .int .i64 ((synodlaw15_Opts.v x1_0 x1_1 x1_2 x1_3 x1_4 x1_5 x1_6 x1_7 x1_8 x1_9 x1_10 x1_11 x1_12 x1_13 x1_14 x1_15 x1_16 x1_17 x1_18).2.2.2.2.2.2.2.2.1), .int .i64 ((synodlaw15_Opts.v x1_0 x1_1 x1_2 x1_3 x1_4 x1_5 x1_6 x1_7 x1_8 x1_9 x1_10 x1_11 x1_12 x1_13 x1_14 x1_15 x1_16 x1_17 x1_18).2.2.2.2.2.2.2.2.2.1), .int .i64 ((synodlaw15_Opts.v x1_0 x1_1 x1_2 x1_3 x1_4 x1_5 x1_6 x1_7 x1_8 x1_9 x1_10 x1_11 x1_12 x1_13 x1_14 x1_15 x1_16 x1_17 x1_18).2.2.2.2.2.2.2.2.2.2.1), .int .i64 ((synodlaw15_Opts.v x1_0 x1_1 x1_2 x1_3 x1_4 x1_5 x1_6 x1_7 x1_8 x1_9 x1_10 x1_11 x1_12 x1_13 x1_14 x1_15 x1_16 x1_17 x1_18).2.2.2.2.2.2.2.2.2.2.2.1), .int .i64 ((synodlaw15_Opts.v x1_0 x1_1 x1_2 x1_3 x1_4 x1_5 x1_6 x1_7 x1_8 x1_9 x1_10 x1_11 x1_12 x1_13 x1_14 x1_15 x1_16 x1_17 x1_18).2.2.2.2.2.2.2.2.2.2.2.2.1), .int .i64 ((synodlaw15_Opts.v x1_0 x1_1 x1_2 x1_3 x1_4 x1_5 x1_6 x1_7 x1_8 x1_9 x1_10 x1_11 x1_12 x1_13 x1_14 x1_15 x1_16 x1_17 x1_18).2.2.2.2.2.2.2.2.2.2.2.2.2.1), .int .i64 ((synodlaw15_Opts.v x1_0 x1_1 x1_2 x1_3 x1_4 x1_5 x1_6 x1_7 x1_8 x1_9 x1_10 x1_11 x1_12 x1_13 x1_14 x1_15 x1_16 x1_17 x1_18).2.2.2.2.2.2.2.2.2.2.2.2.2.2.1), .int .i64 ((synodlaw15_Opts.v x1_0 x1_1 x1_2 x1_3 x1_4 x1_5 x1_6 x1_7 x1_8 x1_9 x1_10 x1_11 x1_12 x1_13 x1_14 x1_15 x1_16 x1_17 x1_18).2.2.2.2.2.2.2.2.2.2.2.2.2.2.2.1), .int .i64 ((synodlaw15_Opts.v x1_0 x1_1 x1_2 x1_3 x1_4 x1_5 x1_6 x1_7 x1_8 x1_9 x1_10 x1_11 x1_12 x1_13 x1_14 x1_15 x1_16 x1_17 x1_18).2.2.2.2.2.2.2.2.2.2.2.2.2.2.2.2.1), .int .i64 ((synodlaw15_Opts.v x1_0 x1_1 x1_2 x1_3 x1_4 x1_5 x1_6 x1_7 x1_8 x1_9 x1_10 x1_11 x1_12 x1_13 x1_14 x1_15 x1_16 x1_17 x1_18).2.2.2.2.2.2.2.2.2.2.2.2.2.2.2.2.2.1), .int .i64 ((synodlaw15_Opts.v x1_0 x1_1 x1_2 x1_3 x1_4 x1_5 x1_6 x1_7 x1_8 x1_9 x1_10 x1_11 x1_12 x1_13 x1_14 x1_15 x1_16 x1_17 x1_18).2.2.2.2.2.2.2.2.2.2.2.2.2.2.2.2.2.2)]))] rfl rfl rfl rfl (.v 10 rfl rfl (.v 14 rfl rfl .nil)) (fun hb47v => RQ.sub (E' := [(43, .agg #[.int .i64 ((synodlaw15_Opts.v x1_0 x1_1 x1_2 x1_3 x1_4 x1_5 x1_6 x1_7 x1_8 x1_9 x1_10 x1_11 x1_12 x1_13 x1_14 x1_15 x1_16 x1_17 x1_18).1), .int .i64 ((synodlaw15_Opts.v x1_0 x1_1 x1_2 x1_3 x1_4 x1_5 x1_6 x1_7 x1_8 x1_9 x1_10 x1_11 x1_12 x1_13 x1_14 x1_15 x1_16 x1_17 x1_18).2.1), .int .i64 ((synodlaw15_Opts.v x1_0 x1_1 x1_2 x1_3 x1_4 x1_5 x1_6 x1_7 x1_8 x1_9 x1_10 x1_11 x1_12 x1_13 x1_14 x1_15 x1_16 x1_17 x1_18).2.2.1), .int .i64 ((synodlaw15_Opts.v x1_0 x1_1 x1_2 x1_3 x1_4 x1_5 x1_6 x1_7 x1_8 x1_9 x1_10 x1_11 x1_12 x1_13 x1_14 x1_15 x1_16 x1_17 x1_18).2.2.2.1), .int .i64 ((synodlaw15_Opts.v x1_0 x1_1 x1_2 x1_3 x1_4 x1_5 x1_6 x1_7 x1_8 x1_9 x1_10 x1_11 x1_12 x1_13 x1_14 x1_15 x1_16 x1_17 x1_18).2.2.2.2.1), .int .i64 ((synodlaw15_Opts.v x1_0 x1_1 x1_2 x1_3 x1_4 x1_5 x1_6 x1_7 x1_8 x1_9 x1_10 x1_11 x1_12 x1_13 x1_14 x1_15 x1_16 x1_17 x1_18).2.2.2.2.2.1), .int .i64 ((synodlaw15_Opts.v x1_0 x1_1 x1_2 x1_3 x1_4 x1_5 x1_6 x1_7 x1_8 x1_9 x1_10 x1_11 x1_12 x1_13 x1_14 x1_15 x1_16 x1_17 x1_18).2.2.2.2.2.2.1), .int .i64 ((synodlaw15_Opts.v x1_0 x1_1 x1_2 x1_3 x1_4 x1_5 x1_6 x1_7 x1_8 x1_9 x1_10 x1_11 x1_12 x1_13 x1_14 x1_15 x1_16 x1_17 x1_18).2.2.2.2.2.2.2.1), .int .i64 ((synodlaw15_Opts.v x1_0 x1_1 x1_2 x1_3 x1_4 x1_5 x1_6 x1_7 x1_8 x1_9 x1_10 x1_11 x1_12 x1_13 x1_14 x1_15 x1_16 x1_17 x1_18).2.2.2.2.2.2.2.2.1), .int .i64 ((synodlaw15_Opts.v x1_0 x1_1 x1_2 x1_3 x1_4 x1_5 x1_6 x1_7 x1_8 x1_9 x1_10 x1_11 x1_12 x1_13 x1_14 x1_15 x1_16 x1_17 x1_18).2.2.2.2.2.2.2.2.2.1), .int .i64 ((synodlaw15_Opts.v x1_0 x1_1 x1_2 x1_3 x1_4 x1_5 x1_6 x1_7 x1_8 x1_9 x1_10 x1_11 x1_12 x1_13 x1_14 x1_15 x1_16 x1_17 x1_18).2.2.2.2.2.2.2.2.2.2.1), .int .i64 ((synodlaw15_Opts.v x1_0 x1_1 x1_2 x1_3 x1_4 x1_5 x1_6 x1_7 x1_8 x1_9 x1_10 x1_11 x1_12 x1_13 x1_14 x1_15 x1_16 x1_17 x1_18).2.2.2.2.2.2.2.2.2.2.2.1), .int .i64 ((synodlaw15_Opts.v x1_0 x1_1 x1_2 x1_3 x1_4 x1_5 x1_6 x1_7 x1_8 x1_9 x1_10 x1_11 x1_12 x1_13 x1_14 x1_15 x1_16 x1_17 x1_18).2.2.2.2.2.2.2.2.2.2.2.2.1), .int .i64 ((synodlaw15_Opts.v x1_0 x1_1 x1_2 x1_3 x1_4 x1_5 x1_6 x1_7 x1_8 x1_9 x1_10 x1_11 x1_12 x1_13 x1_14 x1_15 x1_16 x1_17 x1_18).2.2.2.2.2.2.2.2.2.2.2.2.2.1), .int .i64 ((synodlaw15_Opts.v x1_0 x1_1 x1_2 x1_3 x1_4 x1_5 x1_6 x1_7 x1_8 x1_9 x1_10 x1_11 x1_12 x1_13 x1_14 x1_15 x1_16 x1_17 x1_18).2.2.2.2.2.2.2.2.2.2.2.2.2.2.1), .int .i64 ((synodlaw15_Opts.v x1_0 x1_1 x1_2 x1_3 x1_4 x1_5 x1_6 x1_7 x1_8 x1_9 x1_10 x1_11 x1_12 x1_13 x1_14 x1_15 x1_16 x1_17 x1_18).2.2.2.2.2.2.2.2.2.2.2.2.2.2.2.1), .int .i64 ((synodlaw15_Opts.v x1_0 x1_1 x1_2 x1_3 x1_4 x1_5 x1_6 x1_7 x1_8 x1_9 x1_10 x1_11 x1_12 x1_13 x1_14 x1_15 x1_16 x1_17 x1_18).2.2.2.2.2.2.2.2.2.2.2.2.2.2.2.2.1), .int .i64 ((synodlaw15_Opts.v x1_0 x1_1 x1_2 x1_3 x1_4 x1_5 x1_6 x1_7 x1_8 x1_9 x1_10 x1_11 x1_12 x1_13 x1_14 x1_15 x1_16 x1_17 x1_18).2.2.2.2.2.2.2.2.2.2.2.2.2.2.2.2.2.1), .int .i64 ((synodlaw15_Opts.v x1_0 x1_1 x1_2 x1_3 x1_4 x1_5 x1_6 x1_7 x1_8 x1_9 x1_10 x1_11 x1_12 x1_13 x1_14 x1_15 x1_16 x1_17 x1_18).2.2.2.2.2.2.2.2.2.2.2.2.2.2.2.2.2.2)])]) ⟨lk_cv rfl hb47v, trivial⟩ (RE.rq (re_call (vs := [.agg #[.int .i64 ((synodlaw15_Opts.v x1_0 x1_1 x1_2 x1_3 x1_4 x1_5 x1_6 x1_7 x1_8 x1_9 x1_10 x1_11 x1_12 x1_13 x1_14 x1_15 x1_16 x1_17 x1_18).1), .int .i64 ((synodlaw15_Opts.v x1_0 x1_1 x1_2 x1_3 x1_4 x1_5 x1_6 x1_7 x1_8 x1_9 x1_10 x1_11 x1_12 x1_13 x1_14 x1_15 x1_16 x1_17 x1_18).2.1), .int .i64 ((synodlaw15_Opts.v x1_0 x1_1 x1_2 x1_3 x1_4 x1_5 x1_6 x1_7 x1_8 x1_9 x1_10 x1_11 x1_12 x1_13 x1_14 x1_15 x1_16 x1_17 x1_18).2.2.1), .int .i64 ((synodlaw15_Opts.v x1_0 x1_1 x1_2 x1_3 x1_4 x1_5 x1_6 x1_7 x1_8 x1_9 x1_10 x1_11 x1_12 x1_13 x1_14 x1_15 x1_16 x1_17 x1_18).2.2.2.1), .int .i64 ((synodlaw15_Opts.v x1_0 x1_1 x1_2 x1_3 x1_4 x1_5 x1_6 x1_7 x1_8 x1_9 x1_10 x1_11 x1_12 x1_13 x1_14 x1_15 x1_16 x1_17 x1_18).2.2.2.2.1), .int .i64 ((synodlaw15_Opts.v x1_0 x1_1 x1_2 x1_3 x1_4 x1_5 x1_6 x1_7 x1_8 x1_9 x1_10 x1_11 x1_12 x1_13 x1_14 x1_15 x1_16 x1_17 x1_18).2.2.2.2.2.1), .int .i64 ((synodlaw15_Opts.v x1_0 x1_1 x1_2 x1_3 x1_4 x1_5 x1_6 x1_7 x1_8 x1_9 x1_10 x1_11 x1_12 x1_13 x1_14 x1_15 x1_16 x1_17 x1_18).2.2.2.2.2.2.1), .int .i64 ((synodlaw15_Opts.v x1_0 x1_1 x1_2 x1_3 x1_4 x1_5 x1_6 x1_7 x1_8 x1_9 x1_10 x1_11 x1_12 x1_13 x1_14 x1_15 x1_16 x1_17 x1_18).2.2.2.2.2.2.2.1), .int .i64 ((synodlaw15_Opts.v x1_0 x1_1 x1_2 x1_3 x1_4 x1_5 x1_6 x1_7 x1_8 x1_9 x1_10 x1_11 x1_12 x1_13 x1_14 x1_15 x1_16 x1_17 x1_18).2.2.2.2.2.2.2.2.1), .int .i64 ((synodlaw15_Opts.v x1_0 x1_1 x1_2 x1_3 x1_4 x1_5 x1_6 x1_7 x1_8 x1_9 x1_10 x1_11 x1_12 x1_13 x1_14 x1_15 x1_16 x1_17 x1_18).2.2.2.2.2.2.2.2.2.1), .int .i64 ((synodlaw15_Opts.v x1_0 x1_1 x1_2 x1_3 x1_4 x1_5 x1_6 x1_7 x1_8 x1_9 x1_10 x1_11 x1_12 x1_13 x1_14 x1_15 x1_16 x1_17 x1_18).2.2.2.2.2.2.2.2.2.2.1), .int .i64 ((synodlaw15_Opts.v x1_0 x1_1 x1_2 x1_3 x1_4 x1_5 x1_6 x1_7 x1_8 x1_9 x1_10 x1_11 x1_12 x1_13 x1_14 x1_15 x1_16 x1_17 x1_18).2.2.2.2.2.2.2.2.2.2.2.1), .int .i64 ((synodlaw15_Opts.v x1_0 x1_1 x1_2 x1_3 x1_4 x1_5 x1_6 x1_7 x1_8 x1_9 x1_10 x1_11 x1_12 x1_13 x1_14 x1_15 x1_16 x1_17 x1_18).2.2.2.2.2.2.2.2.2.2.2.2.1), .int .i64 ((synodlaw15_Opts.v x1_0 x1_1 x1_2 x1_3 x1_4 x1_5 x1_6 x1_7 x1_8 x1_9 x1_10 x1_11 x1_12 x1_13 x1_14 x1_15 x1_16 x1_17 x1_18).2.2.2.2.2.2.2.2.2.2.2.2.2.1), .int .i64 ((synodlaw15_Opts.v x1_0 x1_1 x1_2 x1_3 x1_4 x1_5 x1_6 x1_7 x1_8 x1_9 x1_10 x1_11 x1_12 x1_13 x1_14 x1_15 x1_16 x1_17 x1_18).2.2.2.2.2.2.2.2.2.2.2.2.2.2.1), .int .i64 ((synodlaw15_Opts.v x1_0 x1_1 x1_2 x1_3 x1_4 x1_5 x1_6 x1_7 x1_8 x1_9 x1_10 x1_11 x1_12 x1_13 x1_14 x1_15 x1_16 x1_17 x1_18).2.2.2.2.2.2.2.2.2.2.2.2.2.2.2.1), .int .i64 ((synodlaw15_Opts.v x1_0 x1_1 x1_2 x1_3 x1_4 x1_5 x1_6 x1_7 x1_8 x1_9 x1_10 x1_11 x1_12 x1_13 x1_14 x1_15 x1_16 x1_17 x1_18).2.2.2.2.2.2.2.2.2.2.2.2.2.2.2.2.1), .int .i64 ((synodlaw15_Opts.v x1_0 x1_1 x1_2 x1_3 x1_4 x1_5 x1_6 x1_7 x1_8 x1_9 x1_10 x1_11 x1_12 x1_13 x1_14 x1_15 x1_16 x1_17 x1_18).2.2.2.2.2.2.2.2.2.2.2.2.2.2.2.2.2.1), .int .i64 ((synodlaw15_Opts.v x1_0 x1_1 x1_2 x1_3 x1_4 x1_5 x1_6 x1_7 x1_8 x1_9 x1_10 x1_11 x1_12 x1_13 x1_14 x1_15 x1_16 x1_17 x1_18).2.2.2.2.2.2.2.2.2.2.2.2.2.2.2.2.2.2)]]) (cap := []) (A := []) (rst := [obj b14v 61 [.int .i64 s11v.1, .int .i64 s11v.2.1, .int .i64 s11v.2.2.1, .int .i64 s11v.2.2.2.1, .int .i64 s11v.2.2.2.2.1, .int .i64 s11v.2.2.2.2.2.1, .int .i64 s11v.2.2.2.2.2.2.1, .int .i64 s11v.2.2.2.2.2.2.2.1, .int .i64 s11v.2.2.2.2.2.2.2.2.1, .int .i64 s11v.2.2.2.2.2.2.2.2.2.1, .int .i64 s11v.2.2.2.2.2.2.2.2.2.2.1, .int .i64 s11v.2.2.2.2.2.2.2.2.2.2.2.1, .int .i64 s11v.2.2.2.2.2.2.2.2.2.2.2.2.1, .int .i64 s11v.2.2.2.2.2.2.2.2.2.2.2.2.2.1, .int .i64 s11v.2.2.2.2.2.2.2.2.2.2.2.2.2.2.1, .int .i64 s11v.2.2.2.2.2.2.2.2.2.2.2.2.2.2.2.1, .int .i64 s11v.2.2.2.2.2.2.2.2.2.2.2.2.2.2.2.2.1, .int .i64 s11v.2.2.2.2.2.2.2.2.2.2.2.2.2.2.2.2.2.1, .int .i64 s11v.2.2.2.2.2.2.2.2.2.2.2.2.2.2.2.2.2.2.1], obj b10v 54 [.int .i64 s7v.1, .int .i64 s7v.2.1, .int .i64 s7v.2.2.1, .int .i64 s7v.2.2.2.1, .int .i64 s7v.2.2.2.2.1, .int .i64 s7v.2.2.2.2.2.1, .int .i64 s7v.2.2.2.2.2.2.1, .int .i64 s7v.2.2.2.2.2.2.2.1, .int .i64 s7v.2.2.2.2.2.2.2.2.1, .int .i64 s7v.2.2.2.2.2.2.2.2.2.1, .int .i64 s7v.2.2.2.2.2.2.2.2.2.2.1, .int .i64 s7v.2.2.2.2.2.2.2.2.2.2.2.1, .int .i64 s7v.2.2.2.2.2.2.2.2.2.2.2.2.1, .int .i64 s7v.2.2.2.2.2.2.2.2.2.2.2.2.2.1, .int .i64 s7v.2.2.2.2.2.2.2.2.2.2.2.2.2.2.1, .int .i64 s7v.2.2.2.2.2.2.2.2.2.2.2.2.2.2.2.1, .int .i64 s7v.2.2.2.2.2.2.2.2.2.2.2.2.2.2.2.2.1, .int .i64 s7v.2.2.2.2.2.2.2.2.2.2.2.2.2.2.2.2.2.1, .int .i64 s7v.2.2.2.2.2.2.2.2.2.2.2.2.2.2.2.2.2.2.1], obj b1v 54 [.int .i64 x1_0, .int .i64 x1_1, .int .i64 x1_2, .int .i64 x1_3, .int .i64 x1_4, .int .i64 x1_5, .int .i64 x1_6, .int .i64 x1_7, .int .i64 x1_8, .int .i64 x1_9, .int .i64 x1_10, .int .i64 x1_11, .int .i64 x1_12, .int .i64 x1_13, .int .i64 x1_14, .int .i64 x1_15, .int .i64 x1_16, .int .i64 x1_17, .int .i64 x1_18], F]) rfl rfl rfl rfl rfl rfl Tryd.call28 (.sel 0 rfl (.sel 0 rfl (.sel 0 rfl (.sel 0 rfl (.nil _))))) (synodref17_FormatOpts.calls _ _ k ((synodlaw15_Opts.v x1_0 x1_1 x1_2 x1_3 x1_4 x1_5 x1_6 x1_7 x1_8 x1_9 x1_10 x1_11 x1_12 x1_13 x1_14 x1_15 x1_16 x1_17 x1_18).1) ((synodlaw15_Opts.v x1_0 x1_1 x1_2 x1_3 x1_4 x1_5 x1_6 x1_7 x1_8 x1_9 x1_10 x1_11 x1_12 x1_13 x1_14 x1_15 x1_16 x1_17 x1_18).2.1) ((synodlaw15_Opts.v x1_0 x1_1 x1_2 x1_3 x1_4 x1_5 x1_6 x1_7 x1_8 x1_9 x1_10 x1_11 x1_12 x1_13 x1_14 x1_15 x1_16 x1_17 x1_18).2.2.1) ((synodlaw15_Opts.v x1_0 x1_1 x1_2 x1_3 x1_4 x1_5 x1_6 x1_7 x1_8 x1_9 x1_10 x1_11 x1_12 x1_13 x1_14 x1_15 x1_16 x1_17 x1_18).2.2.2.1) ((synodlaw15_Opts.v x1_0 x1_1 x1_2 x1_3 x1_4 x1_5 x1_6 x1_7 x1_8 x1_9 x1_10 x1_11 x1_12 x1_13 x1_14 x1_15 x1_16 x1_17 x1_18).2.2.2.2.1) ((synodlaw15_Opts.v x1_0 x1_1 x1_2 x1_3 x1_4 x1_5 x1_6 x1_7 x1_8 x1_9 x1_10 x1_11 x1_12 x1_13 x1_14 x1_15 x1_16 x1_17 x1_18).2.2.2.2.2.1) ((synodlaw15_Opts.v x1_0 x1_1 x1_2 x1_3 x1_4 x1_5 x1_6 x1_7 x1_8 x1_9 x1_10 x1_11 x1_12 x1_13 x1_14 x1_15 x1_16 x1_17 x1_18).2.2.2.2.2.2.1) ((synodlaw15_Opts.v x1_0 x1_1 x1_2 x1_3 x1_4 x1_5 x1_6 x1_7 x1_8 x1_9 x1_10 x1_11 x1_12 x1_13 x1_14 x1_15 x1_16 x1_17 x1_18).2.2.2.2.2.2.2.1) ((synodlaw15_Opts.v x1_0 x1_1 x1_2 x1_3 x1_4 x1_5 x1_6 x1_7 x1_8 x1_9 x1_10 x1_11 x1_12 x1_13 x1_14 x1_15 x1_16 x1_17 x1_18).2.2.2.2.2.2.2.2.1) ((synodlaw15_Opts.v x1_0 x1_1 x1_2 x1_3 x1_4 x1_5 x1_6 x1_7 x1_8 x1_9 x1_10 x1_11 x1_12 x1_13 x1_14 x1_15 x1_16 x1_17 x1_18).2.2.2.2.2.2.2.2.2.1) ((synodlaw15_Opts.v x1_0 x1_1 x1_2 x1_3 x1_4 x1_5 x1_6 x1_7 x1_8 x1_9 x1_10 x1_11 x1_12 x1_13 x1_14 x1_15 x1_16 x1_17 x1_18).2.2.2.2.2.2.2.2.2.2.1) ((synodlaw15_Opts.v x1_0 x1_1 x1_2 x1_3 x1_4 x1_5 x1_6 x1_7 x1_8 x1_9 x1_10 x1_11 x1_12 x1_13 x1_14 x1_15 x1_16 x1_17 x1_18).2.2.2.2.2.2.2.2.2.2.2.1) ((synodlaw15_Opts.v x1_0 x1_1 x1_2 x1_3 x1_4 x1_5 x1_6 x1_7 x1_8 x1_9 x1_10 x1_11 x1_12 x1_13 x1_14 x1_15 x1_16 x1_17 x1_18).2.2.2.2.2.2.2.2.2.2.2.2.1) ((synodlaw15_Opts.v x1_0 x1_1 x1_2 x1_3 x1_4 x1_5 x1_6 x1_7 x1_8 x1_9 x1_10 x1_11 x1_12 x1_13 x1_14 x1_15 x1_16 x1_17 x1_18).2.2.2.2.2.2.2.2.2.2.2.2.2.1) ((synodlaw15_Opts.v x1_0 x1_1 x1_2 x1_3 x1_4 x1_5 x1_6 x1_7 x1_8 x1_9 x1_10 x1_11 x1_12 x1_13 x1_14 x1_15 x1_16 x1_17 x1_18).2.2.2.2.2.2.2.2.2.2.2.2.2.2.1) ((synodlaw15_Opts.v x1_0 x1_1 x1_2 x1_3 x1_4 x1_5 x1_6 x1_7 x1_8 x1_9 x1_10 x1_11 x1_12 x1_13 x1_14 x1_15 x1_16 x1_17 x1_18).2.2.2.2.2.2.2.2.2.2.2.2.2.2.2.1) ((synodlaw15_Opts.v x1_0 x1_1 x1_2 x1_3 x1_4 x1_5 x1_6 x1_7 x1_8 x1_9 x1_10 x1_11 x1_12 x1_13 x1_14 x1_15 x1_16 x1_17 x1_18).2.2.2.2.2.2.2.2.2.2.2.2.2.2.2.2.1) ((synodlaw15_Opts.v x1_0 x1_1 x1_2 x1_3 x1_4 x1_5 x1_6 x1_7 x1_8 x1_9 x1_10 x1_11 x1_12 x1_13 x1_14 x1_15 x1_16 x1_17 x1_18).2.2.2.2.2.2.2.2.2.2.2.2.2.2.2.2.2.1) ((synodlaw15_Opts.v x1_0 x1_1 x1_2 x1_3 x1_4 x1_5 x1_6 x1_7 x1_8 x1_9 x1_10 x1_11 x1_12 x1_13 x1_14 x1_15 x1_16 x1_17 x1_18).2.2.2.2.2.2.2.2.2.2.2.2.2.2.2.2.2.2) (hgl.lend 3 rfl)) (by rw [if_pos hb47v] at hs28v; exact hs28v)) (fun _ => rfl) (fun _ => (.sel 0 rfl (.sel 0 rfl (.sel 0 rfl (.sel 0 rfl (.nil _)))))))) rfl) (aq rfl (fun γ => QOb.grd (b := (decide ((synodlaw15_Opts.u s7v).1 = s11v.1) && (decide ((synodlaw15_Opts.u s7v).2.1 = s11v.2.1) && (((decide ((synodlaw15_Opts.u s7v).2.2.1 = s11v.2.2.1) && (decide ((synodlaw15_Opts.u s7v).2.2.2.1 = s11v.2.2.2.1) && (decide ((synodlaw15_Opts.u s7v).2.2.2.2.1 = s11v.2.2.2.2.1) && (decide ((synodlaw15_Opts.u s7v).2.2.2.2.2.1 = s11v.2.2.2.2.2.1) && (decide ((synodlaw15_Opts.u s7v).2.2.2.2.2.2.1 = s11v.2.2.2.2.2.2.1) && (decide ((synodlaw15_Opts.u s7v).2.2.2.2.2.2.2.1 = s11v.2.2.2.2.2.2.2.1) && (decide ((synodlaw15_Opts.u s7v).2.2.2.2.2.2.2.2.1 = s11v.2.2.2.2.2.2.2.2.1) && (decide ((synodlaw15_Opts.u s7v).2.2.2.2.2.2.2.2.2.1 = s11v.2.2.2.2.2.2.2.2.2.1))))))))) && (decide ((synodlaw15_Opts.u s7v).2.2.2.2.2.2.2.2.2.2.1 = s11v.2.2.2.2.2.2.2.2.2.2.1) && (decide ((synodlaw15_Opts.u s7v).2.2.2.2.2.2.2.2.2.2.2.1 = s11v.2.2.2.2.2.2.2.2.2.2.2.1) && (decide ((synodlaw15_Opts.u s7v).2.2.2.2.2.2.2.2.2.2.2.2.1 = s11v.2.2.2.2.2.2.2.2.2.2.2.2.1) && (decide ((synodlaw15_Opts.u s7v).2.2.2.2.2.2.2.2.2.2.2.2.2.1 = s11v.2.2.2.2.2.2.2.2.2.2.2.2.2.1) && (decide ((synodlaw15_Opts.u s7v).2.2.2.2.2.2.2.2.2.2.2.2.2.2.1 = s11v.2.2.2.2.2.2.2.2.2.2.2.2.2.2.1) && (decide ((synodlaw15_Opts.u s7v).2.2.2.2.2.2.2.2.2.2.2.2.2.2.2.1 = s11v.2.2.2.2.2.2.2.2.2.2.2.2.2.2.2.1) && (decide ((synodlaw15_Opts.u s7v).2.2.2.2.2.2.2.2.2.2.2.2.2.2.2.2.1 = s11v.2.2.2.2.2.2.2.2.2.2.2.2.2.2.2.2.1) && (decide ((synodlaw15_Opts.u s7v).2.2.2.2.2.2.2.2.2.2.2.2.2.2.2.2.2.1 = s11v.2.2.2.2.2.2.2.2.2.2.2.2.2.2.2.2.2.1) && (decide ((synodlaw15_Opts.u s7v).2.2.2.2.2.2.2.2.2.2.2.2.2.2.2.2.2.2 = s11v.2.2.2.2.2.2.2.2.2.2.2.2.2.2.2.2.2.2.1)))))))))))))) && (decide ((synodref_Num.v s7v.2.2.2.2.2.2.2.2.2.2.2.2.2.2.2.2.2.2.2) = s11v.2.2.2.2.2.2.2.2.2.2.2.2.2.2.2.2.2.2.2))) [(39, .bool ((decide ((synodlaw15_Opts.u s7v).1 = s11v.1) && (decide ((synodlaw15_Opts.u s7v).2.1 = s11v.2.1) && (((decide ((synodlaw15_Opts.u s7v).2.2.1 = s11v.2.2.1) && (decide ((synodlaw15_Opts.u s7v).2.2.2.1 = s11v.2.2.2.1) && (decide ((synodlaw15_Opts.u s7v).2.2.2.2.1 = s11v.2.2.2.2.1) && (decide ((synodlaw15_Opts.u s7v).2.2.2.2.2.1 = s11v.2.2.2.2.2.1) && (decide ((synodlaw15_Opts.u s7v).2.2.2.2.2.2.1 = s11v.2.2.2.2.2.2.1) && (decide ((synodlaw15_Opts.u s7v).2.2.2.2.2.2.2.1 = s11v.2.2.2.2.2.2.2.1) && (decide ((synodlaw15_Opts.u s7v).2.2.2.2.2.2.2.2.1 = s11v.2.2.2.2.2.2.2.2.1) && (decide ((synodlaw15_Opts.u s7v).2.2.2.2.2.2.2.2.2.1 = s11v.2.2.2.2.2.2.2.2.2.1))))))))) && (decide ((synodlaw15_Opts.u s7v).2.2.2.2.2.2.2.2.2.2.1 = s11v.2.2.2.2.2.2.2.2.2.2.1) && (decide ((synodlaw15_Opts.u s7v).2.2.2.2.2.2.2.2.2.2.2.1 = s11v.2.2.2.2.2.2.2.2.2.2.2.1) && (decide ((synodlaw15_Opts.u s7v).2.2.2.2.2.2.2.2.2.2.2.2.1 = s11v.2.2.2.2.2.2.2.2.2.2.2.2.1) && (decide ((synodlaw15_Opts.u s7v).2.2.2.2.2.2.2.2.2.2.2.2.2.1 = s11v.2.2.2.2.2.2.2.2.2.2.2.2.2.1) && (decide ((synodlaw15_Opts.u s7v).2.2.2.2.2.2.2.2.2.2.2.2.2.2.1 = s11v.2.2.2.2.2.2.2.2.2.2.2.2.2.2.1) && (decide ((synodlaw15_Opts.u s7v).2.2.2.2.2.2.2.2.2.2.2.2.2.2.2.1 = s11v.2.2.2.2.2.2.2.2.2.2.2.2.2.2.2.1) && (decide ((synodlaw15_Opts.u s7v).2.2.2.2.2.2.2.2.2.2.2.2.2.2.2.2.1 = s11v.2.2.2.2.2.2.2.2.2.2.2.2.2.2.2.2.1) && (decide ((synodlaw15_Opts.u s7v).2.2.2.2.2.2.2.2.2.2.2.2.2.2.2.2.2.1 = s11v.2.2.2.2.2.2.2.2.2.2.2.2.2.2.2.2.2.1) && (decide ((synodlaw15_Opts.u s7v).2.2.2.2.2.2.2.2.2.2.2.2.2.2.2.2.2.2 = s11v.2.2.2.2.2.2.2.2.2.2.2.2.2.2.2.2.2.2.1)))))))))))))) && (decide ((synodref_Num.v s7v.2.2.2.2.2.2.2.2.2.2.2.2.2.2.2.2.2.2.2) = s11v.2.2.2.2.2.2.2.2.2.2.2.2.2.2.2.2.2.2.2)))), (41, cv (((decide ((synodlaw15_Opts.u s7v).1 = s11v.1) && (decide ((synodlaw15_Opts.u s7v).2.1 = s11v.2.1) && (((decide ((synodlaw15_Opts.u s7v).2.2.1 = s11v.2.2.1) && (decide ((synodlaw15_Opts.u s7v).2.2.2.1 = s11v.2.2.2.1) && (decide ((synodlaw15_Opts.u s7v).2.2.2.2.1 = s11v.2.2.2.2.1) && (decide ((synodlaw15_Opts.u s7v).2.2.2.2.2.1 = s11v.2.2.2.2.2.1) && (decide ((synodlaw15_Opts.u s7v).2.2.2.2.2.2.1 = s11v.2.2.2.2.2.2.1) && (decide ((synodlaw15_Opts.u s7v).2.2.2.2.2.2.2.1 = s11v.2.2.2.2.2.2.2.1) && (decide ((synodlaw15_Opts.u s7v).2.2.2.2.2.2.2.2.1 = s11v.2.2.2.2.2.2.2.2.1) && (decide ((synodlaw15_Opts.u s7v).2.2.2.2.2.2.2.2.2.1 = s11v.2.2.2.2.2.2.2.2.2.1))))))))) && (decide ((synodlaw15_Opts.u s7v).2.2.2.2.2.2.2.2.2.2.1 = s11v.2.2.2.2.2.2.2.2.2.2.1) && (decide ((synodlaw15_Opts.u s7v).2.2.2.2.2.2.2.2.2.2.2.1 = s11v.2.2.2.2.2.2.2.2.2.2.2.1) && (decide ((synodlaw15_Opts.u s7v).2.2.2.2.2.2.2.2.2.2.2.2.1 = s11v.2.2.2.2.2.2.2.2.2.2.2.2.1) && (decide ((synodlaw15_Opts.u s7v).2.2.2.2.2.2.2.2.2.2.2.2.2.1 = s11v.2.2.2.2.2.2.2.2.2.2.2.2.2.1) && (decide ((synodlaw15_Opts.u s7v).2.2.2.2.2.2.2.2.2.2.2.2.2.2.1 = s11v.2.2.2.2.2.2.2.2.2.2.2.2.2.2.1) && (decide ((synodlaw15_Opts.u s7v).2.2.2.2.2.2.2.2.2.2.2.2.2.2.2.1 = s11v.2.2.2.2.2.2.2.2.2.2.2.2.2.2.2.1) && (decide ((synodlaw15_Opts.u s7v).2.2.2.2.2.2.2.2.2.2.2.2.2.2.2.2.1 = s11v.2.2.2.2.2.2.2.2.2.2.2.2.2.2.2.2.1) && (decide ((synodlaw15_Opts.u s7v).2.2.2.2.2.2.2.2.2.2.2.2.2.2.2.2.2.1 = s11v.2.2.2.2.2.2.2.2.2.2.2.2.2.2.2.2.2.1) && (decide ((synodlaw15_Opts.u s7v).2.2.2.2.2.2.2.2.2.2.2.2.2.2.2.2.2.2 = s11v.2.2.2.2.2.2.2.2.2.2.2.2.2.2.2.2.2.2.1)))))))))))))) && (decide ((synodref_Num.v s7v.2.2.2.2.2.2.2.2.2.2.2.2.2.2.2.2.2.2.2) = s11v.2.2.2.2.2.2.2.2.2.2.2.2.2.2.2.2.2.2.2))) == true) (str s21v)), (44, cv (((decide ((synodlaw15_Opts.u s7v).1 = s11v.1) && (decide ((synodlaw15_Opts.u s7v).2.1 = s11v.2.1) && (((decide ((synodlaw15_Opts.u s7v).2.2.1 = s11v.2.2.1) && (decide ((synodlaw15_Opts.u s7v).2.2.2.1 = s11v.2.2.2.1) && (decide ((synodlaw15_Opts.u s7v).2.2.2.2.1 = s11v.2.2.2.2.1) && (decide ((synodlaw15_Opts.u s7v).2.2.2.2.2.1 = s11v.2.2.2.2.2.1) && (decide ((synodlaw15_Opts.u s7v).2.2.2.2.2.2.1 = s11v.2.2.2.2.2.2.1) && (decide ((synodlaw15_Opts.u s7v).2.2.2.2.2.2.2.1 = s11v.2.2.2.2.2.2.2.1) && (decide ((synodlaw15_Opts.u s7v).2.2.2.2.2.2.2.2.1 = s11v.2.2.2.2.2.2.2.2.1) && (decide ((synodlaw15_Opts.u s7v).2.2.2.2.2.2.2.2.2.1 = s11v.2.2.2.2.2.2.2.2.2.1))))))))) && (decide ((synodlaw15_Opts.u s7v).2.2.2.2.2.2.2.2.2.2.1 = s11v.2.2.2.2.2.2.2.2.2.2.1) && (decide ((synodlaw15_Opts.u s7v).2.2.2.2.2.2.2.2.2.2.2.1 = s11v.2.2.2.2.2.2.2.2.2.2.2.1) && (decide ((synodlaw15_Opts.u s7v).2.2.2.2.2.2.2.2.2.2.2.2.1 = s11v.2.2.2.2.2.2.2.2.2.2.2.2.1) && (decide ((synodlaw15_Opts.u s7v).2.2.2.2.2.2.2.2.2.2.2.2.2.1 = s11v.2.2.2.2.2.2.2.2.2.2.2.2.2.1) && (decide ((synodlaw15_Opts.u s7v).2.2.2.2.2.2.2.2.2.2.2.2.2.2.1 = s11v.2.2.2.2.2.2.2.2.2.2.2.2.2.2.1) && (decide ((synodlaw15_Opts.u s7v).2.2.2.2.2.2.2.2.2.2.2.2.2.2.2.1 = s11v.2.2.2.2.2.2.2.2.2.2.2.2.2.2.2.1) && (decide ((synodlaw15_Opts.u s7v).2.2.2.2.2.2.2.2.2.2.2.2.2.2.2.2.1 = s11v.2.2.2.2.2.2.2.2.2.2.2.2.2.2.2.2.1) && (decide ((synodlaw15_Opts.u s7v).2.2.2.2.2.2.2.2.2.2.2.2.2.2.2.2.2.1 = s11v.2.2.2.2.2.2.2.2.2.2.2.2.2.2.2.2.2.1) && (decide ((synodlaw15_Opts.u s7v).2.2.2.2.2.2.2.2.2.2.2.2.2.2.2.2.2.2 = s11v.2.2.2.2.2.2.2.2.2.2.2.2.2.2.2.2.2.2.1)))))))))))))) && (decide ((synodref_Num.v s7v.2.2.2.2.2.2.2.2.2.2.2.2.2.2.2.2.2.2.2) = s11v.2.2.2.2.2.2.2.2.2.2.2.2.2.2.2.2.2.2.2))) == true) (str s27v))] rfl rfl rfl rfl (.v 10 rfl rfl (.v 12 rfl rfl (.v 15 rfl rfl .nil))) (fun hb48v => RQ.sub (E' := [(41, str s21v), (44, str s27v)]) ⟨lk_cv rfl hb48v, lk_cv rfl hb48v, trivial⟩ (q_eqs rfl rfl rfl)) rfl) (aq rfl (fun γ => qp rfl rfl (.v 10 rfl rfl (.v 16 rfl rfl .nil)) (q_and rfl rfl rfl) rfl) (aq rfl (fun γ => qp rfl rfl (.v 17 rfl rfl .nil) (q_asg rfl rfl) rfl) zA)))))))))))))))))))
 exact zA
 intro g49v
 refine nrm_then (sim_rtn ?_)
 exact rtn_fn () rfl rfl rfl (.sel 3 rfl (.nil _))
end Go.Proofs.YtbcnegennmpliaaDoor

namespace Go.Proofs.YtbcnegennmpliaaDoor
set_option linter.unusedVariables false
set_option linter.unusedSimpArgs false
open Go.RowKit

theorem w64 {n : Int} (h0 : -9223372036854775808 ≤ n) (h1 : n ≤ 9223372036854775807) : IntKind.i64.wrap n = n := by rw [IntKind.wrap_i64]; omega
theorem w8 {n : Int} (h0 : 0 ≤ n) (h1 : n < 256) : IntKind.u8.wrap n = n := by rw [IntKind.wrap_u8]; omega
end Go.Proofs.YtbcnegennmpliaaDoor

namespace Go.Proofs.YtbcnegennmpliaaDoor
set_option linter.unusedVariables false
set_option linter.unusedSimpArgs false
open Go.RowKit
abbrev hexs : List UInt8 := [48, 49, 50, 51, 52, 53, 54, 55, 56, 57, 97, 98, 99, 100, 101, 102]
def plainB (c : UInt8) : Bool := decide (32 ≤ c.toNat) && decide (c.toNat ≤ 126)
def bareB (c : UInt8) : Bool := plainB c && !decide (c.toNat = 32) && !decide (c.toNat = 34)
def hexI (c : UInt8) : Int := Lib.indexByte hexs c
def escB (a b : UInt8) : Option UInt8 := if 0 ≤ hexI a ∧ 0 ≤ hexI b ∧ plainB (byte (16 * hexI a + hexI b)) = false then some (byte (16 * hexI a + hexI b)) else none
def qd : List UInt8 → Option (List UInt8 × List UInt8)
  | [] => none
  | c :: t =>
    if c.toNat = 34 then some ([], t)
    else if plainB c = false then none
    else if c.toNat ≠ 92 then (qd t).map fun p => (c :: p.1, p.2)
    else match t with
      | [] => none
      | d :: t1 =>
        if d.toNat = 34 ∨ d.toNat = 92 then (qd t1).map fun p => (d :: p.1, p.2)
        else match t1 with
          | h :: l :: t2 => if d.toNat = 120 then (escB h l).bind fun x => (qd t2).map fun p => (x :: p.1, p.2) else none
          | _ => none
theorem qd_nil : qd [] = none := by rw [qd.eq_def]
theorem qd_cons (c : UInt8) (t : List UInt8) : qd (c :: t) =
    if c.toNat = 34 then some ([], t)
    else if plainB c = false then none
    else if c.toNat ≠ 92 then (qd t).map fun p => (c :: p.1, p.2)
    else match t with
      | [] => none
      | d :: t1 =>
        if d.toNat = 34 ∨ d.toNat = 92 then (qd t1).map fun p => (d :: p.1, p.2)
        else match t1 with
          | h :: l :: t2 => if d.toNat = 120 then (escB h l).bind fun x => (qd t2).map fun p => (x :: p.1, p.2) else none
          | _ => none := by rw [qd.eq_def]
theorem getD_at {α : Type} {l : List α} {i : Nat} {d : α} (h : i < l.length) : l.getD i d = l[i] := by
  rw [List.getD_eq_getElem?_getD, List.getElem?_eq_getElem h]; rfl
theorem u8_all {p : UInt8 → Bool} (h : ((List.range 256).all fun n => p (UInt8.ofNat n)) = true) (c : UInt8) : p c = true := by
  have := List.all_eq_true.1 h c.toNat (List.mem_range.2 (UInt8.toNat_lt c))
  simpa using this
theorem hexI_lt (c : UInt8) : -1 ≤ hexI c ∧ hexI c ≤ 15 := by
  have := u8_all (p := fun c => decide (-1 ≤ hexI c) && decide (hexI c ≤ 15)) (by decide +kernel) c
  simpa using this
theorem getD_cons_of {l : List UInt8} {i : Nat} (h : i < l.length) : l.drop i = l.getD i 0 :: l.drop (i + 1) := by
  rw [List.getD_eq_getElem?_getD, List.getElem?_eq_getElem h]
  exact List.drop_eq_getElem_cons h
theorem wi1 {n : Nat} (h : n < 2 ^ 61) : IntKind.i64.wrap ((n : Int) + 1) = ((n + 1 : Nat) : Int) := by rw [w64 (by omega) (by omega)]; simp
theorem wi2 {n : Nat} (h : n < 2 ^ 61) : IntKind.i64.wrap ((n : Int) + 2) = ((n + 2 : Nat) : Int) := by rw [w64 (by omega) (by omega)]; simp
theorem wi3 {n : Nat} (h : n < 2 ^ 61) : IntKind.i64.wrap ((n : Int) + 3) = ((n + 3 : Nat) : Int) := by rw [w64 (by omega) (by omega)]; simp
theorem wi4 {n : Nat} (h : n < 2 ^ 61) : IntKind.i64.wrap ((n : Int) + 4) = ((n + 4 : Nat) : Int) := by rw [w64 (by omega) (by omega)]; simp
theorem plain_f (c : UInt8) : text_plain.f (c.toNat : Int) = some (plainB c) := by
  unfold text_plain.f plainB
  congr 1
  rw [show decide ((32 : Int) ≤ (c.toNat : Int)) = decide (32 ≤ c.toNat) by congr 1; exact propext (by omega), show decide ((c.toNat : Int) ≤ 126) = decide (c.toNat ≤ 126) by congr 1; exact propext (by omega)]
theorem bare_f (c : UInt8) : text_bare.f (c.toNat : Int) = some (bareB c) := by
  unfold text_bare.f bareB
  rw [plain_f, Option.bind_some]
  congr 3
  · congr 2; exact propext (by omega)
  · congr 1; exact propext (by omega)
theorem hexw {a b : Int} (ha : 0 ≤ a ∧ a ≤ 15) (hb : 0 ≤ b ∧ b ≤ 15) : IntKind.u8.wrap (IntKind.i64.wrap ((IntKind.i64.wrap (16 * a)) + b)) = 16 * a + b := by
  rw [w64 (n := 16 * a) (by omega) (by omega), w64 (by omega) (by omega), w8 (by omega) (by omega)]
theorem byte_eq {n : Int} (h0 : 0 ≤ n) (h1 : n < 256) : ((byte n).toNat : Int) = n := byte_toNat h0 h1
theorem escaped_f (s : List UInt8) : text_escaped.f s = some (match s with
    | d :: h :: l :: _ => if d.toNat = 120 then (IntKind.u8.wrap (IntKind.i64.wrap ((IntKind.i64.wrap (16 * hexI h)) + hexI l)), (escB h l).isSome) else (0, false)
    | _ => (0, false)) := by
  unfold text_escaped.f
  rcases s with _ | ⟨d, _ | ⟨h, _ | ⟨l, t⟩⟩⟩
  · simp
  · simp
  · simp
  · have e1 : ¬ (((d :: h :: l :: t).length : Int) < 3) := by simp; omega
    rw [if_neg e1, if_pos (by simp; omega)]
    simp only [Option.bind_some, List.getD_cons_zero, show (0 : Int).toNat = 0 from rfl, show (1 : Int).toNat = 1 from rfl, show (2 : Int).toNat = 2 from rfl]
    by_cases hd : d.toNat = 120
    · rw [if_neg (by simp [hd]), if_pos (by simp; omega), if_pos hd]
      simp only [List.getD_cons_succ, List.getD_cons_zero]
      rw [strings_IndexByte.f, Option.bind_some, if_pos (by simp; omega), strings_IndexByte.f, Option.bind_some]
      have eh : ∀ c : UInt8, ((c.toNat : Int).toNat).toUInt8 = c := fun c => by simp
      rw [eh, eh]
      have ei : ∀ c : UInt8, Lib.indexByte [48, 49, 50, 51, 52, 53, 54, 55, 56, 57, 97, 98, 99, 100, 101, 102] c = hexI c := fun _ => rfl
      simp only [ei]
      unfold escB
      by_cases h1 : 0 ≤ hexI h ∧ 0 ≤ hexI l
      · have b1 := hexI_lt h
        have b2 := hexI_lt l
        rw [if_pos (by simp [h1])]
        rw [hexw ⟨h1.1, b1.2⟩ ⟨h1.2, b2.2⟩, ← byte_eq (n := 16 * hexI h + hexI l) (by omega) (by omega), plain_f, Option.bind_some, Option.bind_some]
        rw [byte_eq (by omega) (by omega)]
        cases plainB (byte (16 * hexI h + hexI l)) <;> simp [h1] <;> exact hexw ⟨h1.1, b1.2⟩ ⟨h1.2, b2.2⟩
      · rw [if_neg (by simpa using h1), Option.bind_some, if_neg (fun x => h1 ⟨x.1, x.2.1⟩)]
        rfl
    · rw [if_pos (by simp; omega), if_neg hd]
end Go.Proofs.YtbcnegennmpliaaDoor

namespace Go.Proofs.YtbcnegennmpliaaDoor
set_option linter.unusedVariables false
set_option linter.unusedSimpArgs false
open Go.RowKit
abbrev QR := Option (List UInt8 × List UInt8)
def qres (n : Nat) (b : List UInt8) (q : QR) : List UInt8 × Int := match q with
  | some p => (b ++ p.1, ((n - p.2.length : Nat) : Int))
  | none => ([], 0)
theorem qres_cons {n : Nat} {b : List UInt8} {c : UInt8} {q : QR} : qres n (b ++ [c]) q = qres n b (q.map fun p => (c :: p.1, p.2)) := by
  cases q <;> simp [qres]
theorem pre1 {l : List UInt8} {z : UInt8} : Lib.hasPrefix l [z] = (match l with | d :: _ => decide (d.toNat = z.toNat) | [] => false) := by
  cases l with
  | nil => rfl
  | cons d t =>
    show (z == d && _) = _
    rw [List.isPrefixOf, Bool.and_true]
    by_cases h : d = z
    · subst h; simp
    · rw [show (z == d) = false from by simpa using fun e => h e.symm]
      simp only [decide_eq_false (fun e => h (UInt8.toNat_inj.1 e)), Bool.false_and]
theorem drop_cons {x : List UInt8} {i : Nat} {d : UInt8} {t : List UInt8} (h : x.drop i = d :: t) : i < x.length ∧ x.drop (i + 1) = t := by
  have hl : i < x.length := by
    rcases Nat.lt_or_ge i x.length with hh | hh
    · exact hh
    · rw [List.drop_of_length_le hh] at h; cases h
  refine ⟨hl, ?_⟩
  rw [List.drop_eq_getElem_cons hl] at h
  exact (List.cons.inj h).2
theorem quoted_l0 {x : List UInt8} (hx : x.length < 2 ^ 40) : ∀ (k : Nat) (b : List UInt8) (i : Nat), x.length - i < k → i ≤ x.length → b.length ≤ i →
    orR (text_quoted.l0 x k b (i : Int)) (fun _ => some (([] : List UInt8), (0 : Int))) = some (qres x.length b (qd (x.drop i)))
  | 0, b, i, h, _, _ => by omega
  | k + 1, b, i, hk, hi, hb => by
    rw [text_quoted.l0]
    by_cases hlt : i < x.length
    · have ed := getD_cons_of hlt
      have e1 := wi1 (n := i) (by omega)
      simp only [Int.toNat_natCast]
      rw [if_pos (by omega), if_pos (by omega), e1, if_pos (by omega), ed]
      generalize hc : x.getD i 0 = c
      rw [hc] at ed
      have ecut : cut x ((i + 1 : Nat) : Int) (x.length : Int) = x.drop (i + 1) := by rw [cut_to]; simp
      simp only [ecut]
      by_cases h34 : c.toNat = 34
      · rw [if_pos (by omega), qd_cons, if_pos h34]
        simp only [orR, qres, List.append_nil]
        have : (x.drop (i + 1)).length = x.length - (i + 1) := by simp
        rw [this]
        congr 3
        omega
      · rw [if_neg (by omega), plain_f, Option.bind_some, qd_cons, if_neg h34]
        by_cases hp : plainB c = false
        · rw [if_pos (by simp [hp]), if_pos hp]; rfl
        · rw [if_neg (by simp [hp]), if_neg hp]
          by_cases h92 : c.toNat = 92
          · have n92 : ¬ (c.toNat ≠ 92) := by simp [h92]
            rw [if_pos (show (c.toNat : Int) = 92 by omega), if_neg n92]
            simp only [strings_HasPrefix.f, Option.bind_some, pre1]
            rcases hd : x.drop (i + 1) with _ | ⟨d, t1⟩
            · simp only [Bool.false_eq_true, if_false, Option.bind_some, escaped_f]
              rfl
            · obtain ⟨hl1, ht1⟩ := drop_cons hd
              simp only []
              by_cases hq : d.toNat = 34 ∨ d.toNat = 92
              · rw [if_pos hq]
                have e3 : (if decide (d.toNat = (34 : UInt8).toNat) = true then some true else some (decide (d.toNat = (92 : UInt8).toNat))) = some true := by
                  rcases hq with hq | hq
                  · rw [if_pos (by simp [hq])]
                  · rw [if_neg (by simp [hq])]; simp [hq]
                rw [e3, Option.bind_some, if_pos rfl, if_pos (by simp <;> omega)]
                simp only [show (0 : Int).toNat = 0 from rfl, List.getD_cons_zero]
                rw [if_pos (by simp <;> omega)]
                have e2 := wi1 (n := i + 1) (by omega)
                rw [e2, quoted_l0 hx k (b ++ [d]) (i + 1 + 1) (by omega) (by omega) (by simp <;> omega), ht1, qres_cons]
              · rw [if_neg hq]
                have e3 : (if decide (d.toNat = (34 : UInt8).toNat) = true then some true else some (decide (d.toNat = (92 : UInt8).toNat))) = some false := by
                  rw [if_neg (by simp; exact fun h => hq (.inl h))]
                  congr 1
                  simp
                  exact fun h => hq (.inr h)
                rw [e3, Option.bind_some, if_neg (by simp), escaped_f, Option.bind_some]
                rcases t1 with _ | ⟨h, _ | ⟨l, t2⟩⟩
                · simp [orR, qres]
                · simp [orR, qres]
                · obtain ⟨hl2, ht2⟩ := drop_cons ht1
                  obtain ⟨hl3, ht3⟩ := drop_cons ht2
                  simp only []
                  by_cases hxd : d.toNat = 120
                  · rw [if_pos hxd, if_pos hxd]
                    unfold escB
                    by_cases h1 : 0 ≤ hexI h ∧ 0 ≤ hexI l ∧ plainB (byte (16 * hexI h + hexI l)) = false
                    · have b1 := hexI_lt h
                      have b2 := hexI_lt l
                      rw [if_pos h1]
                      simp only [Option.isSome_some, Bool.not_true, Bool.false_eq_true, if_false, Option.bind_some]
                      rw [hexw ⟨h1.1, b1.2⟩ ⟨h1.2.1, b2.2⟩, if_pos (by omega), if_pos (by simp <;> omega)]
                      have e2 := wi3 (n := i) (by omega)
                      have e4 := wi1 (n := i + 3) (by omega)
                      rw [e2, e4, quoted_l0 hx k _ (i + 3 + 1) (by omega) (by omega) (by simp <;> omega), ht3, qres_cons]
                    · rw [if_neg h1]
                      simp [orR, qres]
                  · rw [if_neg hxd, if_neg hxd]
                    simp [orR, qres]
          · rw [if_neg (show ¬ (c.toNat : Int) = 92 by omega), if_pos h92, if_pos (by simp <;> omega), quoted_l0 hx k _ (i + 1) (by omega) (by omega) (by simp <;> omega), qres_cons]
    · rw [if_neg (by omega)]
      have : x.drop i = [] := List.drop_of_length_le (by omega)
      rw [this, qd_nil]
      rfl
theorem quoted_f {x : List UInt8} {k : Nat} (hx : x.length < 2 ^ 40) (hk : x.length < k) : text_quoted.f k x = some (qres x.length [] (qd x)) := by
  have := quoted_l0 hx k [] 0 (by omega) (by omega) (by simp)
  simpa [text_quoted.f] using this
/-! ### The document's -/
theorem value_l0 (c : UInt8) : ∀ (k j : Nat), j ≤ 16 → 16 - j < k → orR (synodref17_value.l0 (c.toNat : Int) k (j : Int)) (fun _ => some (-1)) = some (if Lib.indexByte (hexs.drop j) c = -1 then -1 else Lib.indexByte (hexs.drop j) c + (j : Int))
  | 0, j, h, hk => by omega
  | k + 1, j, h, hk => by
    rw [synodref17_value.l0]
    by_cases hj : j < 16
    · have ed := getD_cons_of (l := hexs) (i := j) (by simpa using hj)
      rw [if_pos (by omega), synodref17_digit.f, if_pos (by simp; omega), Option.bind_some, wi1 (by omega), ed]
      simp only [Int.toNat_natCast]
      show orR (if ((hexs.getD j 0).toNat : Int) = (c.toNat : Int) then _ else _) _ = _
      generalize hexs.getD j 0 = b
      rw [Lib.indexByte]
      by_cases hb : b = c
      · subst hb
        rw [if_pos rfl]
        simp [orR]
      · have hb' : b.toNat ≠ c.toNat := fun e => hb (UInt8.toNat_inj.1 e)
        rw [if_neg (by omega), value_l0 c k (j + 1) (by omega) (by omega)]
        have hbc : (b == c) = false := by simpa using hb
        simp only [hbc, Bool.false_eq_true, if_false, beq_iff_eq]
        have hnn : ∀ l : List UInt8, Lib.indexByte l c = -1 ∨ 0 ≤ Lib.indexByte l c := by
          intro l
          induction l with
          | nil => exact .inl rfl
          | cons a l ih =>
            rw [Lib.indexByte]
            split
            · right; omega
            · rcases ih with e | e
              · left; simp [e]
              · right
                split
                · rename_i h1 h2
                  simp at h2; omega
                · omega
        rcases hnn (hexs.drop (j + 1)) with e | e
        · rw [e]; simp
        · rw [if_neg (by omega), if_neg (by omega), if_neg (by omega)]
          congr 1
          omega
    · have : j = 16 := by omega
      subst this
      rw [if_neg (by omega)]
      rfl
theorem value_f (c : UInt8) {k : Nat} (hk : 16 < k) : synodref17_value.f k (c.toNat : Int) = some (hexI c) := by
  have := value_l0 c k 0 (by omega) (by omega)
  unfold synodref17_value.f
  rw [show (0 : Int) = ((0 : Nat) : Int) from rfl, this]
  unfold hexI
  simp only [List.drop_zero]
  split
  · rename_i h; rw [h]
  · simp
def qresD (n : Nat) (b : List UInt8) (q : QR) : List UInt8 × Int := match q with
  | some p => (b ++ p.1, ((n - p.2.length : Nat) : Int))
  | none => ([], -1)
theorem qresD_cons {n : Nat} {b : List UInt8} {c : UInt8} {q : QR} : qresD n (b ++ [c]) q = qresD n b (q.map fun p => (c :: p.1, p.2)) := by
  cases q <;> simp [qresD]
theorem plainD_f (c : UInt8) : synodref17_plain.f (c.toNat : Int) = some (plainB c && !decide (c.toNat = 34) && !decide (c.toNat = 92)) := by
  unfold synodref17_plain.f plainB
  congr 1
  rw [show decide ((32 : Int) ≤ (c.toNat : Int)) = decide (32 ≤ c.toNat) by congr 1; exact propext (by omega), show decide ((c.toNat : Int) ≤ 126) = decide (c.toNat ≤ 126) by congr 1; exact propext (by omega),
    show decide ((c.toNat : Int) = 34) = decide (c.toNat = 34) by congr 1; exact propext (by omega), show decide ((c.toNat : Int) = 92) = decide (c.toNat = 92) by congr 1; exact propext (by omega)]
theorem plain_iff {n : Int} (h0 : 0 ≤ n) (h1 : n < 256) : ((decide ((32 : Int) ≤ n)) && (decide (n ≤ (126 : Int)))) = plainB (byte n) := by
  have := byte_eq h0 h1
  unfold plainB
  congr 1
  · congr 1; exact propext (by omega)
  · congr 1; exact propext (by omega)
theorem quotedD_l0 {x : List UInt8} (hx : x.length < 2 ^ 40) : ∀ (k : Nat) (b : List UInt8) (i : Nat), x.length - i + 20 < k → i ≤ x.length → b.length ≤ i →
    orR (synodref17_quoted.l0 x k b (i : Int)) (fun _ => some (([] : List UInt8), (-1 : Int))) = some (qresD x.length b (qd (x.drop i)))
  | 0, b, i, h, _, _ => by omega
  | k + 1, b, i, hk, hi, hb => by
    rw [synodref17_quoted.l0]
    by_cases hlt : i < x.length
    · have ed := getD_cons_of hlt
      have e1 := wi1 (n := i) (by omega)
      have e2 := wi2 (n := i) (by omega)
      have e3 := wi3 (n := i) (by omega)
      have e4 := wi4 (n := i) (by omega)
      simp only [Int.toNat_natCast]
      rw [if_pos (by omega), if_pos (by omega), e1, e2, e3, e4, ed]
      simp only [Int.toNat_natCast]
      obtain ⟨c, hc⟩ : ∃ c, x.getD i 0 = c := ⟨_, rfl⟩
      simp only [hc] at ed ⊢
      rw [qd_cons]
      by_cases h34 : c.toNat = 34
      · rw [if_pos (show (c.toNat : Int) = 34 by omega), if_pos h34]
        simp only [orR, qresD, List.append_nil]
        have : (x.drop (i + 1)).length = x.length - (i + 1) := by simp
        rw [this]
        congr 3
        omega
      · rw [if_neg (show ¬ (c.toNat : Int) = 34 by omega), plainD_f, Option.bind_some, if_neg h34]
        by_cases hp : plainB c = false
        · rw [if_neg (by simp [hp]), if_pos (by
            have : c.toNat ≠ 92 := fun e => by simp [plainB, e] at hp
            simp; left; omega), if_pos hp]
          rfl
        · have hp' : plainB c = true := by simpa using hp
          rw [if_neg hp]
          by_cases h92 : c.toNat = 92
          · have n92 : ¬ (c.toNat ≠ 92) := by simp [h92]
            rw [if_neg (by simp [h92]), if_neg n92]
            by_cases hl1 : i + 1 < x.length
            · have hd := getD_cons_of hl1
              obtain ⟨d, hdd⟩ : ∃ c, x.getD (i + 1) 0 = c := ⟨_, rfl⟩
              simp only [hdd] at hd ⊢
              rw [if_neg (by simp [h92]; omega), if_pos (by omega), hd]
              simp only []
              by_cases hq : d.toNat = 34 ∨ d.toNat = 92
              · rw [if_pos hq, if_pos (by simp; omega), if_pos (by simp <;> omega), quotedD_l0 hx k (b ++ [d]) (i + 2) (by omega) (by omega) (by simp; omega), qresD_cons]
              · rw [if_neg hq, if_neg (by simp; omega)]
                by_cases hx3 : i + 3 < x.length
                · have h2 := getD_cons_of (l := x) (i := i + 2) (by omega)
                  have h3 := getD_cons_of (l := x) (i := i + 3) (by omega)
                  obtain ⟨h, hhd⟩ : ∃ c, x.getD (i + 2) 0 = c := ⟨_, rfl⟩
                  obtain ⟨l, hld⟩ : ∃ c, x.getD (i + 3) 0 = c := ⟨_, rfl⟩
                  simp only [hhd, hld] at h2 h3 ⊢
                  rw [show i + 1 + 1 = i + 2 from rfl, h2, show i + 2 + 1 = i + 3 from rfl, h3]
                  simp only []
                  by_cases hxd : d.toNat = 120
                  · rw [if_pos hxd, if_neg (by simp [hxd]; omega), if_pos (by omega), value_f _ (by omega), Option.bind_some, Option.bind_some]
                    unfold escB
                    have b1 := hexI_lt h
                    have b2 := hexI_lt l
                    by_cases g1 : 0 ≤ hexI h
                    · rw [if_neg (by simp; omega), if_pos (by omega), value_f _ (by omega), Option.bind_some, Option.bind_some]
                      by_cases g2 : 0 ≤ hexI l
                      · rw [if_neg (by simp; omega), if_pos (by omega), Option.bind_some, if_pos (by omega), Option.bind_some, hexw ⟨g1, b1.2⟩ ⟨g2, b2.2⟩, plain_iff (by omega) (by omega)]
                        by_cases g3 : plainB (byte (16 * hexI h + hexI l)) = false
                        · rw [if_neg (by simp [g3]), if_pos (by omega), if_pos (by simp <;> omega), if_pos ⟨g1, g2, g3⟩, quotedD_l0 hx k _ (i + 4) (by omega) (by omega) (by simp; omega), Option.bind_some, qresD_cons]
                        · rw [if_pos (by simpa using g3), if_neg (fun q => g3 q.2.2)]
                          rfl
                      · rw [if_pos (by simp; omega), if_neg (fun q => g2 q.2.1)]
                        rfl
                    · rw [if_pos (by simp; omega), Option.bind_some, if_pos rfl, if_neg (fun q => g1 q.1)]
                      rfl
                  · rw [if_neg hxd, if_pos (by simp; left; omega)]
                    rfl
                · rw [if_pos (by simp; right; omega)]
                  rcases hdt : x.drop (i + 1 + 1) with _ | ⟨h, _ | ⟨l, t⟩⟩
                  · rfl
                  · rfl
                  · have := congrArg List.length hdt
                    simp at this
                    omega
            · have : x.drop (i + 1) = [] := List.drop_of_length_le (by omega)
              rw [if_pos (by simp; right; omega), this]
              rfl
          · rw [if_pos (by simp [hp', h34, h92]), if_pos (by simp <;> omega), if_pos h92, quotedD_l0 hx k _ (i + 1) (by omega) (by omega) (by simp; omega), qresD_cons]
    · rw [if_neg (by omega)]
      have : x.drop i = [] := List.drop_of_length_le (by omega)
      rw [this, qd_nil]
      rfl
theorem quotedD_f {x : List UInt8} {k i : Nat} (hx : x.length < 2 ^ 40) (hi : i < x.length) (hk : x.length + 20 < k) : synodref17_quoted.f k x (i : Int) = some (qresD x.length [] (qd (x.drop (i + 1)))) := by
  have := quotedD_l0 hx k [] (i + 1) (by omega) (by omega) (by simp)
  unfold synodref17_quoted.f
  rw [wi1 (by omega)]
  exact this
end Go.Proofs.YtbcnegennmpliaaDoor

namespace Go.Proofs.YtbcnegennmpliaaDoor
set_option linter.unusedVariables false
set_option linter.unusedSimpArgs false
open Go.RowKit
def endB (r : List UInt8) : Bool := match r with
  | [] => true
  | c :: _ => decide (c.toNat = 32)
def wd : Nat → List UInt8 → Option (List (List UInt8))
  | _, [] => some []
  | 0, _ => none
  | n + 1, c :: t =>
    if c.toNat = 32 then wd n t
    else if c.toNat = 34 then (qd t).bind fun p => if endB p.2 then (wd n p.2).map fun l => p.1 :: l else none
    else if endB ((c :: t).dropWhile bareB) then (wd n ((c :: t).dropWhile bareB)).map fun l => (c :: t).takeWhile bareB :: l else none
def wres (out : List (List UInt8)) (q : Option (List (List UInt8))) : List (List UInt8) × Int := match q with
  | some l => (out ++ l, 0)
  | none => ([], 4)
theorem wres_cons {out : List (List UInt8)} {c : List UInt8} {q : Option (List (List UInt8))} : wres (out ++ [c]) q = wres out (q.map fun l => c :: l) := by
  cases q <;> simp [wres]
def wordsB (x : List UInt8) : List (List UInt8) × Int := if 4096 < x.length then ([], 3) else wres [] (wd (x.length + 1) x)
theorem qd_suf : ∀ (n : Nat) (t a r : List UInt8), t.length ≤ n → qd t = some (a, r) → ∃ p, t = p ++ r ∧ a.length < p.length
  | _, [], a, r, _, h => by rw [qd_nil] at h; cases h
  | 0, c :: t, a, r, hn, _ => by simp at hn
  | n + 1, c :: t, a, r, hn, h => by
    have hn' : t.length ≤ n := by simpa using hn
    rw [qd_cons] at h
    split at h
    · cases h; exact ⟨[c], rfl, by simp⟩
    split at h
    · cases h
    split at h
    · cases hq : qd t with
      | none => rw [hq] at h; cases h
      | some p =>
        rw [hq] at h
        obtain ⟨q, e1, e2⟩ := qd_suf n t p.1 p.2 hn' hq
        simp only [Option.map_some, Option.some.injEq, Prod.mk.injEq] at h
        obtain ⟨rfl, rfl⟩ := h
        exact ⟨c :: q, by rw [List.cons_append, ← e1], by simp; omega⟩
    · rcases t with _ | ⟨d, t1⟩
      · cases h
      · simp only [] at h
        have hn1 : t1.length ≤ n := by simp at hn'; omega
        split at h
        · cases hq : qd t1 with
          | none => rw [hq] at h; cases h
          | some p =>
            rw [hq] at h
            obtain ⟨q, e1, e2⟩ := qd_suf n t1 p.1 p.2 hn1 hq
            simp only [Option.map_some, Option.some.injEq, Prod.mk.injEq] at h
            obtain ⟨rfl, rfl⟩ := h
            exact ⟨c :: d :: q, by rw [List.cons_append, List.cons_append, ← e1], by simp; omega⟩
        · rcases t1 with _ | ⟨h1, _ | ⟨l1, t2⟩⟩
          · cases h
          · cases h
          · simp only [] at h
            split at h
            · cases he : escB h1 l1 with
              | none => rw [he] at h; cases h
              | some x =>
                rw [he, Option.bind_some] at h
                cases hq : qd t2 with
                | none => rw [hq] at h; cases h
                | some p =>
                  rw [hq] at h
                  obtain ⟨q, e1, e2⟩ := qd_suf n t2 p.1 p.2 (by simp at hn1; omega) hq
                  simp only [Option.map_some, Option.some.injEq, Prod.mk.injEq] at h
                  obtain ⟨rfl, rfl⟩ := h
                  exact ⟨c :: d :: h1 :: l1 :: q, by simp only [List.cons_append]; rw [← e1], by simp; omega⟩
            · cases h
theorem bareD_f (c : UInt8) : synodref17_bare.f (c.toNat : Int) = some (bareB c) := by
  unfold synodref17_bare.f bareB plainB
  congr 1
  rw [show decide ((32 : Int) < (c.toNat : Int)) = (decide (32 ≤ c.toNat) && !decide (c.toNat = 32)) by
      by_cases h : (32 : Int) < (c.toNat : Int)
      · rw [decide_eq_true h, decide_eq_true (show 32 ≤ c.toNat by omega), decide_eq_false (show ¬ c.toNat = 32 by omega)]; rfl
      · rw [decide_eq_false h]
        by_cases h2 : c.toNat = 32
        · simp [h2]
        · rw [decide_eq_false (show ¬ 32 ≤ c.toNat by omega)]; rfl,
    show decide ((c.toNat : Int) ≤ 126) = decide (c.toNat ≤ 126) by congr 1; exact propext (by omega),
    show decide ((c.toNat : Int) = 34) = decide (c.toNat = 34) by congr 1; exact propext (by omega)]
  cases decide (32 ≤ c.toNat) <;> cases decide (c.toNat ≤ 126) <;> cases decide (c.toNat = 32) <;> rfl
theorem run_l1 {x : List UInt8} (hx : x.length < 2 ^ 40) : ∀ (k i : Nat), x.length - i < k → i ≤ x.length → text_Words.l1 x k (i : Int) = some ((i + ((x.drop i).takeWhile bareB).length : Nat) : Int)
  | 0, i, h, _ => by omega
  | k + 1, i, hk, hi => by
    rw [text_Words.l1]
    by_cases hlt : i < x.length
    · have ed := getD_cons_of hlt
      simp only [Int.toNat_natCast]
      rw [if_pos (by omega), if_pos (by omega), bare_f, Option.bind_some, Option.bind_some, wi1 (by omega), ed, List.takeWhile_cons]
      cases hb : bareB (x.getD i 0) with
      | true =>
        rw [if_pos rfl, if_pos rfl, run_l1 hx k (i + 1) (by omega) (by omega)]
        simp; omega
      | false => simp
    · rw [if_neg (by omega), Option.bind_some, if_neg (by simp), List.drop_of_length_le (by omega)]
      simp
theorem runD_l1 {x : List UInt8} (hx : x.length < 2 ^ 40) : ∀ (k i : Nat), x.length - i < k → i ≤ x.length → synodref17_Words.l1 x k (i : Int) = some ((i + ((x.drop i).takeWhile bareB).length : Nat) : Int)
  | 0, i, h, _ => by omega
  | k + 1, i, hk, hi => by
    rw [synodref17_Words.l1]
    by_cases hlt : i < x.length
    · have ed := getD_cons_of hlt
      simp only [Int.toNat_natCast]
      rw [if_pos (by omega), if_pos (by omega), bareD_f, Option.bind_some, Option.bind_some, wi1 (by omega), ed, List.takeWhile_cons]
      cases hb : bareB (x.getD i 0) with
      | true =>
        rw [if_pos rfl, if_pos rfl, runD_l1 hx k (i + 1) (by omega) (by omega)]
        simp; omega
      | false => simp
    · rw [if_neg (by omega), Option.bind_some, if_neg (by simp), List.drop_of_length_le (by omega)]
      simp
theorem tw_len (p : UInt8 → Bool) : ∀ l : List UInt8, (l.takeWhile p).length + (l.dropWhile p).length = l.length
  | [] => rfl
  | c :: l => by
    have := tw_len p l
    rw [List.takeWhile_cons, List.dropWhile_cons]
    cases p c <;> simp <;> omega
theorem drop_tw (p : UInt8 → Bool) : ∀ l : List UInt8, l.drop (l.takeWhile p).length = l.dropWhile p
  | [] => rfl
  | c :: l => by
    have := drop_tw p l
    rw [List.takeWhile_cons, List.dropWhile_cons]
    cases p c <;> simp [this]
theorem take_tw (p : UInt8 → Bool) : ∀ l : List UInt8, l.take (l.takeWhile p).length = l.takeWhile p
  | [] => rfl
  | c :: l => by
    have := take_tw p l
    rw [List.takeWhile_cons]
    cases p c <;> simp [this]
theorem endB_at {x : List UInt8} {i : Nat} (hi : i ≤ x.length) : (if (i : Int) < (x.length : Int) then (if 0 ≤ (i : Int) ∧ (i : Int) < (x.length : Int) then (some (!decide (((x.getD i 0).toNat : Int) = (32 : Int)))) else none) else (some false)) = some (!endB (x.drop i)) := by
  by_cases hlt : i < x.length
  · rw [if_pos (by omega), if_pos (by omega), getD_cons_of hlt, endB]
    congr 3; exact propext (by omega)
  · rw [if_neg (by omega), List.drop_of_length_le (by omega)]; rfl
theorem endB_at3 {x : List UInt8} {i : Nat} (hi : i ≤ x.length) : ((if (i : Int) < (x.length : Int) then (if 0 ≤ (i : Int) ∧ (i : Int) < (x.length : Int) then (some (true, true, !decide (((x.getD i 0).toNat : Int) = (32 : Int)))) else none) else (some (false, false, false))).bind fun s => some s.2.2) = some (!endB (x.drop i)) := by
  by_cases hlt : i < x.length
  · rw [if_pos (by omega), if_pos (by omega), getD_cons_of hlt, endB]
    simp only [Option.bind_some]
    congr 3; exact propext (by omega)
  · rw [if_neg (by omega), List.drop_of_length_le (by omega)]; rfl
theorem wadd {n m : Nat} (h : n + m < 2 ^ 61) : IntKind.i64.wrap ((n : Int) + (m : Int)) = ((n + m : Nat) : Int) := by rw [w64 (by omega) (by omega)]; simp
theorem w1i {m : Nat} (h : m < 2 ^ 61) : IntKind.i64.wrap (1 + (m : Int)) = ((m + 1 : Nat) : Int) := by rw [w64 (by omega) (by omega)]; simp; omega
theorem wd_nil (n : Nat) : wd n [] = some [] := by cases n <;> rfl
theorem words_l0 {x : List UInt8} (hx : x.length ≤ 4096) : ∀ (k n : Nat) (out : List (List UInt8)) (i : Nat), x.length - i < n → x.length - i + x.length + 1 < k → i ≤ x.length → out.length ≤ i →
    orR (text_Words.l0 x k out (i : Int)) (fun s => some (s, (0 : Int))) = some (wres out (wd n (x.drop i)))
  | 0, n, out, i, _, h, _, _ => by omega
  | k + 1, 0, out, i, h, _, _, _ => by omega
  | k + 1, n + 1, out, i, hn, hk, hi, ho => by
    rw [text_Words.l0]
    by_cases hlt : i < x.length
    · have ed := getD_cons_of hlt
      have e1 := wi1 (n := i) (by omega)
      simp only [Int.toNat_natCast]
      rw [if_pos (by omega), if_pos (by omega), e1, ed]
      obtain ⟨c, hc⟩ : ∃ c, x.getD i 0 = c := ⟨_, rfl⟩
      simp only [hc] at ed ⊢
      have ecut : cut x ((i + 1 : Nat) : Int) (x.length : Int) = x.drop (i + 1) := by rw [cut_to]; simp
      simp only [ecut]
      rw [wd]
      by_cases h32 : c.toNat = 32
      · rw [if_pos (show (c.toNat : Int) = 32 by omega), if_pos h32, words_l0 hx k n out (i + 1) (by omega) (by omega) (by omega) (by omega)]
      · rw [if_neg (show ¬ (c.toNat : Int) = 32 by omega), if_neg h32, if_pos (by omega)]
        by_cases h34 : c.toNat = 34
        · rw [if_pos (show (c.toNat : Int) = 34 by omega), if_pos h34, if_pos (by omega), quoted_f (by simp; omega) (by simp; omega), Option.bind_some]
          cases hq : qd (x.drop (i + 1)) with
          | none =>
            simp only [qres, Option.bind_none]
            rfl
          | some p =>
            obtain ⟨a, r⟩ := p
            obtain ⟨q, eq, ha⟩ := qd_suf _ _ a r (Nat.le_refl _) hq
            have hlen := congrArg List.length eq
            simp only [List.length_drop, List.length_append] at hlen
            have er : (x.drop (i + 1)).length - r.length = q.length := by simp; omega
            have edr : x.drop (i + (q.length + 1)) = r := by
              rw [show i + (q.length + 1) = (i + 1) + q.length by omega, ← List.drop_drop, eq, List.drop_left]
            simp only [qres, List.nil_append, Option.bind_some, er]
            rw [if_neg (by omega), w1i (by omega), wadd (by omega)]
            simp only [Int.toNat_natCast]
            rw [endB_at3 (by omega), Option.bind_some, edr]
            cases he : endB r with
            | false => rfl
            | true =>
              rw [if_neg (by simp), if_pos (by simp; omega), if_pos rfl, words_l0 hx k n _ (i + (q.length + 1)) (by omega) (by omega) (by omega) (by simp; omega), edr, wres_cons]
        · rw [if_neg (show ¬ (c.toNat : Int) = 34 by omega), if_neg h34, run_l1 (by omega) k i (by omega) hi, Option.bind_some, ed]
          have tl := tw_len bareB (c :: x.drop (i + 1))
          have hl2 : (c :: x.drop (i + 1)).length = x.length - i := by rw [← ed]; simp
          rw [hl2] at tl
          have edr : x.drop (i + ((c :: x.drop (i + 1)).takeWhile bareB).length) = (c :: x.drop (i + 1)).dropWhile bareB := by
            rw [← List.drop_drop, ed, drop_tw]
          simp only [Int.toNat_natCast]
          rw [endB_at (by omega), Option.bind_some, edr]
          cases he : endB ((c :: x.drop (i + 1)).dropWhile bareB) with
          | false => rfl
          | true =>
            have hpos : 0 < ((c :: x.drop (i + 1)).takeWhile bareB).length := by
              rw [List.takeWhile_cons]
              cases hb : bareB c with
              | true => simp
              | false =>
                rw [List.dropWhile_cons, hb] at he
                simp [endB, h32] at he
            have ecw : cut x (i : Int) ((i + ((c :: x.drop (i + 1)).takeWhile bareB).length : Nat) : Int) = (c :: x.drop (i + 1)).takeWhile bareB := by
              unfold cut
              simp only [Int.toNat_natCast]
              rw [List.drop_take, ed, Nat.add_sub_cancel_left]
              exact take_tw bareB (c :: x.drop (i + 1))
            rw [if_neg (by simp), if_pos (by omega), if_pos (by simp; omega), if_pos rfl, words_l0 hx k n _ _ (by omega) (by omega) (by omega) (by simp; omega), edr, ecw, wres_cons]
    · rw [if_neg (by omega), List.drop_of_length_le (by omega), wd_nil]
      simp [orR, wres]
theorem words_f {x : List UInt8} {k : Nat} (hk : 2 * x.length + 1 < k) : text_Words.f k x = some (wordsB x) := by
  unfold text_Words.f wordsB
  by_cases h : 4096 < x.length
  · rw [if_pos (by omega), if_pos h]
  · rw [if_neg (by omega), if_neg h]
    have := words_l0 (x := x) (by omega) k (x.length + 1) [] 0 (by omega) (by omega) (by omega) (by simp)
    simpa using this
theorem wordsD_l0 {x : List UInt8} (hx : x.length ≤ 4096) : ∀ (k n : Nat) (out : List (List UInt8)) (i : Nat), x.length - i < n → x.length - i + x.length + 21 < k → i ≤ x.length → out.length ≤ i →
    orR (synodref17_Words.l0 x k out (i : Int)) (fun s => some (s, (0 : Int))) = some (wres out (wd n (x.drop i)))
  | 0, n, out, i, _, h, _, _ => by omega
  | k + 1, 0, out, i, h, _, _, _ => by omega
  | k + 1, n + 1, out, i, hn, hk, hi, ho => by
    rw [synodref17_Words.l0]
    by_cases hlt : i < x.length
    · have ed := getD_cons_of hlt
      have e1 := wi1 (n := i) (by omega)
      simp only [Int.toNat_natCast]
      rw [if_pos (by omega), if_pos (by omega), e1, ed]
      obtain ⟨c, hc⟩ : ∃ c, x.getD i 0 = c := ⟨_, rfl⟩
      simp only [hc] at ed ⊢
      rw [wd]
      by_cases h32 : c.toNat = 32
      · rw [if_pos (show (c.toNat : Int) = 32 by omega), if_pos h32, wordsD_l0 hx k n out (i + 1) (by omega) (by omega) (by omega) (by omega)]
      · rw [if_neg (show ¬ (c.toNat : Int) = 32 by omega), if_neg h32, if_pos (by omega)]
        by_cases h34 : c.toNat = 34
        · rw [if_pos (show (c.toNat : Int) = 34 by omega), if_pos h34, quotedD_f (by omega) hlt (by omega), Option.bind_some, Option.bind_some]
          cases hq : qd (x.drop (i + 1)) with
          | none =>
            simp only [qresD, Option.bind_none]
            rfl
          | some p =>
            obtain ⟨a, r⟩ := p
            obtain ⟨q, eq, ha⟩ := qd_suf _ _ a r (Nat.le_refl _) hq
            have hlen := congrArg List.length eq
            simp only [List.length_drop, List.length_append] at hlen
            have er : x.length - r.length = i + (q.length + 1) := by omega
            have edr : x.drop (i + (q.length + 1)) = r := by
              rw [show i + (q.length + 1) = (i + 1) + q.length by omega, ← List.drop_drop, eq, List.drop_left]
            simp only [qresD, List.nil_append, Option.bind_some, er, Int.toNat_natCast]
            rw [if_neg (by omega), endB_at3 (by omega), Option.bind_some, edr]
            cases he : endB r with
            | false => rfl
            | true =>
              rw [if_neg (by simp), if_pos (by simp; omega), if_pos rfl, wordsD_l0 hx k n _ (i + (q.length + 1)) (by omega) (by omega) (by omega) (by simp; omega), edr, wres_cons]
        · rw [if_neg (show ¬ (c.toNat : Int) = 34 by omega), if_neg h34, runD_l1 (by omega) k i (by omega) hi, Option.bind_some, ed]
          have tl := tw_len bareB (c :: x.drop (i + 1))
          have hl2 : (c :: x.drop (i + 1)).length = x.length - i := by rw [← ed]; simp
          rw [hl2] at tl
          have edr : x.drop (i + ((c :: x.drop (i + 1)).takeWhile bareB).length) = (c :: x.drop (i + 1)).dropWhile bareB := by
            rw [← List.drop_drop, ed, drop_tw]
          rw [if_pos (by omega), Option.bind_some]
          simp only [Int.toNat_natCast]
          rw [if_neg (by omega), endB_at3 (by omega), Option.bind_some, edr]
          cases he : endB ((c :: x.drop (i + 1)).dropWhile bareB) with
          | false => rfl
          | true =>
            have hpos : 0 < ((c :: x.drop (i + 1)).takeWhile bareB).length := by
              rw [List.takeWhile_cons]
              cases hb : bareB c with
              | true => simp
              | false =>
                rw [List.dropWhile_cons, hb] at he
                simp [endB, h32] at he
            have ecw : cut x (i : Int) ((i + ((c :: x.drop (i + 1)).takeWhile bareB).length : Nat) : Int) = (c :: x.drop (i + 1)).takeWhile bareB := by
              unfold cut
              simp only [Int.toNat_natCast]
              rw [List.drop_take, ed, Nat.add_sub_cancel_left]
              exact take_tw bareB (c :: x.drop (i + 1))
            rw [if_neg (by simp), if_pos (by simp; omega), if_pos rfl, wordsD_l0 hx k n _ _ (by omega) (by omega) (by omega) (by simp; omega), edr, ecw, wres_cons]
    · rw [if_neg (by omega), List.drop_of_length_le (by omega), wd_nil]
      simp [orR, wres]
theorem wordsD_f {x : List UInt8} {k : Nat} (hk : 2 * x.length + 21 < k) : synodref17_Words.f k x = some (wordsB x) := by
  unfold synodref17_Words.f wordsB
  by_cases h : 4096 < x.length
  · rw [if_pos (by omega), if_pos h]
  · rw [if_neg (by omega), if_neg h]
    have := wordsD_l0 (x := x) (by omega) k (x.length + 1) [] 0 (by omega) (by omega) (by omega) (by simp)
    simpa using this
end Go.Proofs.YtbcnegennmpliaaDoor

namespace Go.Proofs.YtbcnegennmpliaaDoor
set_option linter.unusedVariables false
set_option linter.unusedSimpArgs false
open Go.RowKit
end Go.Proofs.YtbcnegennmpliaaDoor

namespace Go.Proofs.YtbcnegennmpliaaDoor
set_option linter.unusedVariables false
set_option linter.unusedSimpArgs false
open Go.RowKit
def dg (c : UInt8) : Prop := 48 ≤ c.toNat ∧ c.toNat ≤ 57
def fold10 (a : Nat) (l : List UInt8) : Nat := l.foldl (fun a c => a * 10 + (c.toNat - 48)) a
theorem fold10_cons (a : Nat) (c : UInt8) (l : List UInt8) : fold10 a (c :: l) = fold10 (a * 10 + (c.toNat - 48)) l := by simp only [fold10, List.foldl_cons]
theorem fold10_snoc (a : Nat) (c : UInt8) (l : List UInt8) : fold10 a (l ++ [c]) = fold10 a l * 10 + (c.toNat - 48) := by simp [fold10, List.foldl_append]
theorem fold10_ge : ∀ (l : List UInt8) (a : Nat), a ≤ fold10 a l
  | [], a => Nat.le_refl _
  | c :: l, a => by
    have := fold10_ge l (a * 10 + (c.toNat - 48))
    rw [fold10_cons]; omega
theorem u8_of {n : Nat} (h : n < 256) : (UInt8.ofNat n).toNat = n := by simp; omega
theorem dec_spec (u : Nat) : (∀ c, c ∈ Lib.decDigits u → dg c) ∧ fold10 0 (Lib.decDigits u) = u ∧ Lib.decDigits u ≠ [] ∧ (1 ≤ u → ∀ c t, Lib.decDigits u = c :: t → c.toNat ≠ 48) := by
  induction u using Nat.strongRecOn with
  | _ u ih =>
    by_cases h : u < 10
    · rw [Lib.decDigits, dif_pos h]
      have e : (UInt8.ofNat (48 + u)).toNat = 48 + u := u8_of (by omega)
      refine ⟨fun c hc => ?_, ?_, by simp, fun h1 c t e1 => ?_⟩
      · rw [List.mem_singleton.1 hc, dg, e]; omega
      · simp only [fold10, List.foldl_cons, List.foldl_nil]; rw [e]; omega
      · rw [← (List.cons.inj e1).1, e]; omega
    · rw [Lib.decDigits, dif_neg h]
      obtain ⟨h1, h2, h3, h4⟩ := ih (u / 10) (by omega)
      have e : (UInt8.ofNat (48 + u % 10)).toNat = 48 + u % 10 := u8_of (by omega)
      refine ⟨fun c hc => ?_, ?_, by simp, fun _ c t e1 => ?_⟩
      · rcases List.mem_append.1 hc with hc | hc
        · exact h1 c hc
        · rw [List.mem_singleton.1 hc, dg, e]; omega
      · rw [fold10_snoc, h2, e]; omega
      · cases hd : Lib.decDigits (u / 10) with
        | nil => exact absurd hd h3
        | cons d r =>
          rw [hd, List.cons_append] at e1
          rw [← (List.cons.inj e1).1]
          exact h4 (by omega) d r hd
theorem fold10_pos {c : UInt8} {t : List UInt8} (hc : dg c) (h : c.toNat ≠ 48) : 1 ≤ fold10 0 (c :: t) := by
  have := fold10_ge t (0 * 10 + (c.toNat - 48))
  have := hc.1
  rw [fold10_cons]; omega
theorem dec_of (l : List UInt8) : ∀ (n : Nat), l.length = n → l ≠ [] → (∀ c, c ∈ l → dg c) → (∀ c t, l = c :: t → c.toNat = 48 → t = []) → Lib.decDigits (fold10 0 l) = l := by
  intro n
  induction n generalizing l with
  | zero => intro hl hne; exact absurd (List.length_eq_zero_iff.1 hl) hne
  | succ n ih =>
    intro hl hne hd h0
    obtain ⟨p, c, rfl⟩ : ∃ p c, l = p ++ [c] := ⟨l.dropLast, l.getLast hne, (List.dropLast_concat_getLast hne).symm⟩
    have hc := hd c (by simp)
    have hc' := UInt8.toNat_lt c
    rw [fold10_snoc]
    cases p with
    | nil =>
      simp only [fold10, List.foldl_nil, List.nil_append]
      have e1 : 0 * 10 + (c.toNat - 48) = c.toNat - 48 := by omega
      rw [e1, Lib.decDigits, dif_pos (by have := hc.2; omega)]
      congr 1
      have := hc.1
      rw [show 48 + (c.toNat - 48) = c.toNat by omega]; simp
    | cons d t =>
      have hdd := hd d (by simp)
      have hn48 : d.toNat ≠ 48 := fun e => by
        have := h0 d (t ++ [c]) (by simp) e
        simp at this
      have hpos := fold10_pos (t := t) hdd hn48
      have hr := ih (d :: t) (by simp at hl ⊢; omega) (by simp) (fun x hx => hd x (List.mem_append_left _ hx)) (fun x s e hx => by cases e; exact absurd hx hn48)
      have := hc.1
      have := hc.2
      rw [Lib.decDigits, dif_neg (by omega), show (fold10 0 (d :: t) * 10 + (c.toNat - 48)) / 10 = fold10 0 (d :: t) by omega, hr, show (fold10 0 (d :: t) * 10 + (c.toNat - 48)) % 10 = c.toNat - 48 by omega, show 48 + (c.toNat - 48) = c.toNat by omega]
      simp
theorem dec_len : ∀ (k u : Nat), u < 10 ^ (k + 1) → (Lib.decDigits u).length ≤ k + 1
  | 0, u, h => by rw [Lib.decDigits, dif_pos (by simpa using h)]; simp
  | k + 1, u, h => by
    rw [Lib.decDigits]
    split
    · simp
    · have := dec_len k (u / 10) (by rw [Nat.pow_succ] at h; omega)
      simp; omega
def canon (x : List UInt8) (n : Int) : Prop := x = Lib.itoa n ∧ -4611686018427387904 ≤ n ∧ n ≤ 4611686018427387904
theorem itoa_pos {n : Int} (h : 0 ≤ n) : Lib.itoa n = Lib.decDigits n.toNat := by unfold Lib.itoa; rw [if_neg (by omega)]
theorem itoa_neg' {n : Int} (h : n < 0) : Lib.itoa n = 45 :: Lib.decDigits n.natAbs := by unfold Lib.itoa; rw [if_pos h]
theorem dec_head {u : Nat} {c : UInt8} {t : List UInt8} (h : Lib.decDigits u = c :: t) : dg c := (dec_spec u).1 c (by rw [h]; simp)
theorem itoa_inj {m n : Int} (h : Lib.itoa m = Lib.itoa n) : m = n := by
  by_cases hm : m < 0 <;> by_cases hn : n < 0
  · rw [itoa_neg' hm, itoa_neg' hn] at h
    have e := (List.cons.inj h).2
    have := (dec_spec m.natAbs).2.1
    rw [e, (dec_spec n.natAbs).2.1] at this
    omega
  · rw [itoa_neg' hm, itoa_pos (by omega)] at h
    have := dec_head h.symm
    simp [dg] at this
  · rw [itoa_neg' hn, itoa_pos (by omega)] at h
    have := dec_head h
    simp [dg] at this
  · rw [itoa_pos (by omega), itoa_pos (by omega)] at h
    have := (dec_spec m.toNat).2.1
    rw [h, (dec_spec n.toNat).2.1] at this
    omega
theorem canon_inj {x : List UInt8} {m n : Int} (h : canon x m) (k : canon x n) : m = n := itoa_inj (h.1.symm.trans k.1)
theorem parseM_ok : ∀ (l : List UInt8) (a : Nat), (∀ c, c ∈ l → dg c) → fold10 a l ≤ 4611686018427387904 → Lib.parseUintM (2 ^ 64 - 1) a l = .ok (fold10 a l)
  | [], a, _, _ => rfl
  | c :: l, a, hd, hf => by
    have hc := hd c (by simp)
    rw [fold10_cons] at hf ⊢
    have := fold10_ge l (a * 10 + (c.toNat - 48))
    rw [Lib.parseUintM, if_pos (show 48 ≤ c.toNat ∧ c.toNat ≤ 57 from hc), if_neg (by omega), if_neg (by omega)]
    exact parseM_ok l _ (fun x hx => hd x (List.mem_cons_of_mem _ hx)) hf
theorem parse_itoa {n : Int} (h0 : -4611686018427387904 ≤ n) (h1 : n ≤ 4611686018427387904) : parseV (Lib.itoa n) = (n, true) := by
  have key : Lib.parseIntB 64 (Lib.itoa n) = .ok n := by
    by_cases hn : n < 0
    · rw [itoa_neg' hn]
      obtain ⟨s1, s2, s3, s4⟩ := dec_spec n.natAbs
      unfold Lib.parseIntB
      simp only []
      rw [if_pos (by right; decide), Lib.parseUintB, if_neg s3, parseM_ok _ _ s1 (by rw [s2]; omega), s2]
      simp only []
      rw [if_neg (by simp), if_neg (by simp; omega), if_pos (by decide)]
      congr 1; omega
    · rw [itoa_pos (by omega)]
      obtain ⟨s1, s2, s3, s4⟩ := dec_spec n.toNat
      cases hd : Lib.decDigits n.toNat with
      | nil => exact absurd hd s3
      | cons c t =>
        have hc := dec_head hd
        unfold Lib.parseIntB
        simp only []
        have e1 : ¬ (c.toNat = 43 ∨ c.toNat = 45) := by have := hc.1; omega
        have e2 : ¬ (c.toNat = 45) := by have := hc.1; omega
        rw [if_neg e1, Lib.parseUintB, if_neg (by simp), ← hd, parseM_ok _ _ s1 (by rw [s2]; omega), s2]
        simp only []
        rw [if_neg (by simp; omega), if_neg (fun h => e2 h.1), if_neg e2]
        congr 1; omega
  unfold parseV
  rw [key]
theorem dg_mem {c : UInt8} (h : dg c) : ([48, 49, 50, 51, 52, 53, 54, 55, 56, 57] : List UInt8).contains c = true := by
  have := u8_all (p := fun c => !(decide (48 ≤ c.toNat) && decide (c.toNat ≤ 57)) || ([48, 49, 50, 51, 52, 53, 54, 55, 56, 57] : List UInt8).contains c) (by decide +kernel) c
  simp only [decide_eq_true h.1, decide_eq_true h.2, Bool.and_self, Bool.not_true, Bool.false_or] at this
  exact this
theorem trim_digits {l : List UInt8} (h : ∀ c, c ∈ l → dg c) : Lib.trimS l [48, 49, 50, 51, 52, 53, 54, 55, 56, 57] = [] := by
  have e : Lib.trimRightS l [48, 49, 50, 51, 52, 53, 54, 55, 56, 57] = l.take 0 := Lib.trimRightS_take l _ 0 (by omega) (fun j b _ hb => dg_mem (h b (List.mem_of_getElem? hb))) (fun b hb => absurd hb (by omega))
  unfold Lib.trimS
  rw [e, List.take_zero]
  rfl
theorem trimP_itoa (n : Int) : ∀ c, c ∈ Lib.trimPrefix (Lib.itoa n) [45] → dg c := by
  intro c hc
  by_cases hn : n < 0
  · rw [itoa_neg' hn] at hc
    unfold Lib.trimPrefix at hc
    rw [pre1] at hc
    simp at hc
    exact (dec_spec _).1 c hc
  · rw [itoa_pos (by omega)] at hc
    obtain ⟨s1, s2, s3, s4⟩ := dec_spec n.toNat
    unfold Lib.trimPrefix at hc
    split at hc
    · exact s1 c (List.mem_of_mem_drop hc)
    · exact s1 c hc
theorem number_f {x : List UInt8} (hx : x.length ≤ 2 ^ 40) : ∃ n ok, text_number.f x = some (n, ok) ∧ (ok = true ↔ ∃ m, canon x m) ∧ (ok = true → canon x n) := by
  have ht : (Lib.trimPrefix x [45]).length ≤ x.length := by unfold Lib.trimPrefix; split <;> simp
  have hdig : ∀ b ∈ ([48, 49, 50, 51, 52, 53, 54, 55, 56, 57] : List UInt8), b.toNat < 128 := by decide
  unfold text_number.f
  rw [strings_TrimPrefix.f, Option.bind_some, strconv_ParseInt.f, if_pos ⟨rfl, rfl, by omega⟩, Option.bind_some]
  obtain ⟨v, hv⟩ : ∃ v, parseV x = v := ⟨_, rfl⟩
  rw [hv]
  by_cases hb : ((v.2 && (decide ((-4611686018427387904) ≤ v.1))) && (decide (v.1 ≤ (4611686018427387904 : Int)))) = true
  · have hb' := hb
    simp only [Bool.and_eq_true, decide_eq_true_eq] at hb'
    rw [if_pos hb, strings_Trim.f, if_pos ⟨by omega, by simp, hdig⟩, Option.bind_some, Option.bind_some]
    by_cases htr : Lib.trimS (Lib.trimPrefix x [45]) [48, 49, 50, 51, 52, 53, 54, 55, 56, 57] = []
    · rw [if_pos (by simpa using htr), strconv_FormatInt.f, if_pos ⟨rfl, by omega, by omega⟩, Option.bind_some, Option.bind_some]
      refine ⟨_, _, rfl, ⟨fun h => ⟨v.1, ?_⟩, fun ⟨m, hm⟩ => ?_⟩, fun h => ?_⟩
      · exact ⟨(of_decide_eq_true h).symm, hb'.1.2, hb'.2⟩
      · have := parse_itoa hm.2.1 hm.2.2
        rw [← hm.1, hv] at this
        rw [decide_eq_true_eq, this]
        exact hm.1.symm
      · exact ⟨(of_decide_eq_true h).symm, hb'.1.2, hb'.2⟩
    · rw [if_neg (by simpa using htr), Option.bind_some]
      refine ⟨_, _, rfl, ⟨fun h => (by cases h), fun ⟨m, hm⟩ => ?_⟩, fun h => (by cases h)⟩
      exact absurd (by rw [hm.1]; exact trim_digits (trimP_itoa m)) htr
  · rw [if_neg hb, Option.bind_some, if_neg Bool.false_ne_true, Option.bind_some]
    refine ⟨_, _, rfl, ⟨fun h => (by cases h), fun ⟨m, hm⟩ => ?_⟩, fun h => (by cases h)⟩
    refine absurd ?_ hb
    have := parse_itoa hm.2.1 hm.2.2
    rw [← hm.1, hv] at this
    rw [this]
    simp [hm.2.1, hm.2.2]
/-! ### The document's -/
def numLoop : Nat → List UInt8 → Option Nat
  | z, [] => some z
  | z, c :: s => if c.toNat < 48 ∨ 57 < c.toNat ∨ 461168601842738790 < z then none else numLoop (z * 10 + (c.toNat - 48)) s
theorem numLoop_ok : ∀ (s : List UInt8) (z : Nat), (∀ c, c ∈ s → dg c) → fold10 z s ≤ 4611686018427387904 → numLoop z s = some (fold10 z s)
  | [], z, _, _ => rfl
  | c :: s, z, hd, hf => by
    have hc := hd c (by simp)
    rw [fold10_cons] at hf ⊢
    have := fold10_ge s (z * 10 + (c.toNat - 48))
    have := hc.1
    have := hc.2
    rw [numLoop, if_neg (by omega)]
    exact numLoop_ok s _ (fun x hx => hd x (List.mem_cons_of_mem _ hx)) hf
theorem numLoop_back : ∀ (s : List UInt8) (z n : Nat), numLoop z s = some n → (∀ c, c ∈ s → dg c) ∧ n = fold10 z s
  | [], z, n, h => by cases h; exact ⟨fun c hc => (by cases hc), rfl⟩
  | c :: s, z, n, h => by
    rw [numLoop] at h
    split at h
    · cases h
    · rename_i hn
      obtain ⟨h1, h2⟩ := numLoop_back s _ n h
      refine ⟨fun x hx => ?_, h2⟩
      rcases List.mem_cons.1 hx with rfl | hx
      · constructor <;> omega
      · exact h1 x hx
theorem number_l0 {t : List UInt8} (ht : t.length ≤ 2 ^ 40) : ∀ (k z i : Nat), t.length - i < k → i ≤ t.length → z ≤ 4611686018427387909 → synodref17_number.l0 t k (z : Int) (i : Int) = some (match numLoop z (t.drop i) with | some n => .inl (n : Int) | none => .inr (0, false))
  | 0, z, i, h, _, _ => by omega
  | k + 1, z, i, hk, hi, hz => by
    rw [synodref17_number.l0]
    by_cases hlt : i < t.length
    · rw [if_pos (by omega), if_pos (by omega), wi1 (by omega), getD_cons_of hlt]
      simp only [Int.toNat_natCast]
      obtain ⟨c, hc⟩ : ∃ c, t.getD i 0 = c := ⟨_, rfl⟩
      simp only [hc]
      have hcl := UInt8.toNat_lt c
      rw [numLoop]
      by_cases h1 : c.toNat < 48
      · rw [if_pos (show (c.toNat : Int) < 48 by omega), Option.bind_some, if_pos (by simp), if_pos (by omega)]
      · rw [if_neg (show ¬ (c.toNat : Int) < 48 by omega), if_pos (by omega), Option.bind_some]
        by_cases h2 : 57 < c.toNat ∨ 461168601842738790 < z
        · rw [if_pos (by simp; omega), if_pos (by omega)]
        · rw [if_neg (by simp; omega), if_pos (by omega), if_neg (show ¬ (c.toNat < 48 ∨ 57 < c.toNat ∨ 461168601842738790 < z) by omega), w8 (by omega) (by omega), w64 (n := (c.toNat : Int) - 48) (by omega) (by omega), w64 (n := 10 * (z : Int)) (by omega) (by omega), w64 (by omega) (by omega)]
          rw [show 10 * (z : Int) + ((c.toNat : Int) - 48) = ((z * 10 + (c.toNat - 48) : Nat) : Int) by omega]
          exact number_l0 ht k _ (i + 1) (by omega) (by omega) (by omega)
    · rw [if_neg (by omega), List.drop_of_length_le (by omega)]
      rfl
end Go.Proofs.YtbcnegennmpliaaDoor

namespace Go.Proofs.YtbcnegennmpliaaDoor
set_option linter.unusedVariables false
set_option linter.unusedSimpArgs false
open Go.RowKit
theorem ff {p : Prop} (h : false = true) : p := by cases h
def tl45 (x : List UInt8) : List UInt8 := match x with
  | [] => []
  | c :: r => if c.toNat = 45 then r else c :: r
theorem tl45_cases (x : List UInt8) : tl45 x = x ∨ x = 45 :: tl45 x := by
  cases x with
  | nil => exact .inl rfl
  | cons c r =>
    unfold tl45
    simp only []
    split
    · rename_i h
      right
      rw [show c = 45 from UInt8.toNat_inj.1 h]
    · exact .inl rfl
theorem tl45_canon {x : List UInt8} {m : Int} (h : canon x m) : tl45 x = Lib.decDigits m.natAbs ∧ (m < 0 → x = 45 :: Lib.decDigits m.natAbs) ∧ (0 ≤ m → x = Lib.decDigits m.natAbs) := by
  by_cases hm : m < 0
  · have e := h.1
    rw [itoa_neg' hm] at e
    refine ⟨?_, fun _ => e, fun h => by omega⟩
    rw [e]; rfl
  · have e := h.1
    rw [itoa_pos (by omega), show m.toNat = m.natAbs by omega] at e
    refine ⟨?_, fun h => by omega, fun _ => e⟩
    rw [e]
    cases hd : Lib.decDigits m.natAbs with
    | nil => rfl
    | cons c t =>
      have := (dec_head hd).1
      unfold tl45
      simp only []
      rw [if_neg (by omega)]
theorem tl45_len (x : List UInt8) : (tl45 x).length ≤ x.length := by
  rcases tl45_cases x with h | h
  · rw [h]; exact Nat.le_refl _
  · have := congrArg List.length h; simp at this; omega
theorem numberD_f {x : List UInt8} {k : Nat} (hx : x.length ≤ 2 ^ 40) (hk : x.length + 2 < k) : ∃ n ok, synodref17_number.f k x = some (n, ok) ∧ (ok = true ↔ ∃ m, canon x m) ∧ (ok = true → canon x n) := by
  unfold synodref17_number.f
  have e1 : ((if (0 : Int) < (x.length : Int) then (if 0 ≤ (0 : Int) ∧ (0 : Int) < (x.length : Int) then (some (decide (((x.getD (0 : Int).toNat 0).toNat : Int) = (45 : Int)))) else none) else (some false)).bind fun s3v => (if s3v = true then (if 0 ≤ (1 : Int) ∧ (1 : Int) ≤ (x.length : Int) ∧ (x.length : Int) ≤ (x.length : Int) then (some (cut x (1 : Int) (x.length : Int))) else none) else (some x))) = some (tl45 x) := by
    cases x with
    | nil => rfl
    | cons c r =>
      rw [if_pos (by simp), if_pos (by simp), Option.bind_some]
      simp only [show (0 : Int).toNat = 0 from rfl, List.getD_cons_zero]
      unfold tl45
      simp only []
      by_cases h : c.toNat = 45
      · rw [if_pos (by simp; omega), if_pos (by simp; omega), if_pos h, cut_to]; rfl
      · rw [if_neg (by simp; omega), if_neg h]
  rw [e1, Option.bind_some]
  have hlen := tl45_len x
  by_cases hA : tl45 x = [] ∨ 19 < (tl45 x).length
  · rw [if_pos (by rcases hA with h | h; · simp [h]
                   · simp only [Bool.or_eq_true, decide_eq_true_eq]; right; omega), Option.bind_some, if_pos rfl]
    refine ⟨_, _, rfl, ⟨fun h => ff h, fun ⟨m, hm⟩ => ?_⟩, fun h => ff h⟩
    have := (tl45_canon hm).1
    obtain ⟨s1, s2, s3, s4⟩ := dec_spec m.natAbs
    have := dec_len 18 m.natAbs (by have := hm.2; omega)
    rcases hA with h | h
    · exact absurd ((tl45_canon hm).1.symm.trans h) s3
    · rw [(tl45_canon hm).1] at h; omega
  · obtain ⟨d, s, hd⟩ : ∃ d s, tl45 x = d :: s := by
      cases h : tl45 x with
      | nil => exact absurd (.inl h) hA
      | cons d s => exact ⟨d, s, rfl⟩
    rw [if_neg (by
      intro h
      simp only [Bool.or_eq_true, decide_eq_true_eq] at h
      rcases h with h | h
      · exact hA (.inl h)
      · exact hA (.inr (by omega))), if_pos (by rw [hd]; simp), Option.bind_some]
    have e2 : (((tl45 x).getD (0 : Int).toNat 0).toNat : Int) = (d.toNat : Int) := by rw [hd]; rfl
    rw [e2]
    by_cases hB : d.toNat = 48 ∧ x ≠ [48]
    · rw [if_pos (by simp [hB.1, hB.2])]
      refine ⟨_, _, rfl, ⟨fun h => ff h, fun ⟨m, hm⟩ => ?_⟩, fun h => ff h⟩
      obtain ⟨t1, t2, t3⟩ := tl45_canon hm
      obtain ⟨s1, s2, s3, s4⟩ := dec_spec m.natAbs
      rw [hd] at t1
      have : m.natAbs = 0 := by
        rcases Nat.eq_zero_or_pos m.natAbs with h | h
        · exact h
        · exact absurd hB.1 (s4 h d s t1.symm)
      refine absurd ?_ hB.2
      rw [t3 (by omega), this, Lib.decDigits, dif_pos (by omega)]; rfl
    · rw [if_neg (by
        intro h
        simp only [Bool.and_eq_true, decide_eq_true_eq, Bool.not_eq_true', decide_eq_false_iff_not] at h
        exact hB ⟨by omega, h.2⟩)]
      have el := number_l0 (t := tl45 x) (by omega) k 0 0 (by omega) (by omega) (by omega)
      simp only [List.drop_zero] at el
      rw [show (0 : Int) = ((0 : Nat) : Int) from rfl, el]
      cases hn : numLoop 0 (tl45 x) with
      | none =>
        refine ⟨_, _, rfl, ⟨fun h => ff h, fun ⟨m, hm⟩ => ?_⟩, fun h => ff h⟩
        obtain ⟨t1, t2, t3⟩ := tl45_canon hm
        obtain ⟨s1, s2, s3, s4⟩ := dec_spec m.natAbs
        rw [t1, numLoop_ok _ 0 s1 (by rw [s2]; have := hm.2; omega)] at hn
        cases hn
      | some n =>
        obtain ⟨g1, g2⟩ := numLoop_back _ _ _ hn
        simp only [orR]
        have hcan : n ≤ 4611686018427387904 → canon x (if tl45 x = x then (n : Int) else -(n : Int)) := fun hle => by
          have hdec : Lib.decDigits n = tl45 x := by
            rw [g2]
            refine dec_of _ _ rfl (by rw [hd]; simp) g1 fun c t e hc => ?_
            rw [hd] at e
            cases e
            have hx48 : x = [48] := Decidable.byContradiction fun h => hB ⟨hc, h⟩
            rw [hx48] at hd
            unfold tl45 at hd
            simp at hd
            exact hd.2
          by_cases he : tl45 x = x
          · rw [if_pos he]
            refine ⟨?_, by omega, by omega⟩
            rw [itoa_pos (by omega), Int.toNat_natCast, hdec, he]
          · rw [if_neg he]
            have hx45 : x = 45 :: tl45 x := (tl45_cases x).resolve_left he
            have hd48 : d.toNat ≠ 48 := fun e => hB ⟨e, fun e2 => by rw [e2] at hx45; simp at hx45⟩
            have hpos : 1 ≤ n := by
              rw [g2, hd]
              exact fold10_pos (g1 d (by rw [hd]; simp)) hd48
            refine ⟨?_, by omega, by omega⟩
            rw [itoa_neg' (by omega), show (-(n : Int)).natAbs = n by omega, hdec]
            exact hx45
        by_cases hle : 4611686018427387904 < n
        · rw [if_pos (by omega)]
          refine ⟨_, _, rfl, ⟨fun h => ff h, fun ⟨m, hm⟩ => ?_⟩, fun h => ff h⟩
          obtain ⟨t1, t2, t3⟩ := tl45_canon hm
          obtain ⟨s1, s2, s3, s4⟩ := dec_spec m.natAbs
          rw [t1, s2] at g2
          have := hm.2
          omega
        · have hc := hcan (by omega)
          rw [if_neg (by omega)]
          by_cases he : tl45 x = x
          · rw [if_pos he] at hc ⊢
            exact ⟨_, _, rfl, ⟨fun _ => ⟨_, hc⟩, fun _ => rfl⟩, fun _ => hc⟩
          · rw [if_neg he] at hc ⊢
            rw [w64 (by omega) (by omega)]
            exact ⟨_, _, rfl, ⟨fun _ => ⟨_, hc⟩, fun _ => rfl⟩, fun _ => hc⟩
theorem number_same {x : List UInt8} {k : Nat} (hx : x.length ≤ 2 ^ 40) (hk : x.length + 2 < k) : ∃ n m ok, text_number.f x = some (n, ok) ∧ synodref17_number.f k x = some (m, ok) ∧ (ok = true → n = m ∧ canon x n) ∧ (ok = true ↔ ∃ m, canon x m) := by
  obtain ⟨n, ok, h1, h2, h3⟩ := number_f hx
  obtain ⟨m, ok', k1, k2, k3⟩ := numberD_f hx hk
  have e : ok = ok' := by
    have : ok = true ↔ ok' = true := h2.trans k2.symm
    cases ok <;> cases ok' <;> simp_all
  subst e
  exact ⟨n, m, ok, h1, k1, fun h => ⟨canon_inj (h3 h) (k3 h), h3 h⟩, h2⟩
end Go.Proofs.YtbcnegennmpliaaDoor

namespace Go.Proofs.YtbcnegennmpliaaDoor
set_option linter.unusedVariables false
set_option linter.unusedSimpArgs false
open Go.RowKit
theorem first_eq (m : Nat) : synodlaw17_first.f (m + 60) = some true := by kernel_rfl
end Go.Proofs.YtbcnegennmpliaaDoor

namespace Go.Proofs.YtbcnegennmpliaaDoor
set_option linter.unusedVariables false
set_option linter.unusedSimpArgs false
open Go.RowKit
end Go.Proofs.YtbcnegennmpliaaDoor

/- Texts that lead to the law TextOpts: G7. Conditions: as each says. -/
import Derived.Test.YtbcnegennmpliaaDoorM7
namespace Go.Proofs.YtbcnegennmpliaaDoor
open Go.RowKit
set_option linter.unusedVariables false
set_option linter.unusedSimpArgs false
set_option maxRecDepth 20000
set_option maxHeartbeats 20000000
def text_FormatOpts.f (x0_0 : Int) (x0_1 : Int) (x0_2 : Int) (x0_3 : Int) (x0_4 : Int) (x0_5 : Int) (x0_6 : Int) (x0_7 : Int) (x0_8 : Int) (x0_9 : Int) (x0_10 : Int) (x0_11 : Int) (x0_12 : Int) (x0_13 : Int) (x0_14 : Int) (x0_15 : Int) (x0_16 : Int) (x0_17 : Int) (x0_18 : Int) : Option (List UInt8) := (text_options.f x0_0 x0_1 x0_2 x0_3 x0_4 x0_5 x0_6 x0_7 x0_8 x0_9 x0_10 x0_11 x0_12 x0_13 x0_14 x0_15 x0_16 x0_17 x0_18).bind fun s2v => ((strconv_Itoa.f x0_0).bind fun s15v => (if ([32] : List UInt8).length + s15v.length ≤ 9223372036854775807 then (if ([119, 111, 114, 108, 100] : List UInt8).length + (([32] : List UInt8) ++ s15v).length ≤ 9223372036854775807 then ((strconv_Itoa.f x0_1).bind fun s28v => (if ([32] : List UInt8).length + s28v.length ≤ 9223372036854775807 then (if (([119, 111, 114, 108, 100] : List UInt8) ++ (([32] : List UInt8) ++ s15v)).length + (([32] : List UInt8) ++ s28v).length ≤ 9223372036854775807 then ((strconv_Itoa.f x0_4).bind fun s41v => (if ([32] : List UInt8).length + s41v.length ≤ 9223372036854775807 then (if ((([119, 111, 114, 108, 100] : List UInt8) ++ (([32] : List UInt8) ++ s15v)) ++ (([32] : List UInt8) ++ s28v)).length + (([32] : List UInt8) ++ s41v).length ≤ 9223372036854775807 then ((strconv_Itoa.f x0_5).bind fun s54v => (if ([32] : List UInt8).length + s54v.length ≤ 9223372036854775807 then (if (((([119, 111, 114, 108, 100] : List UInt8) ++ (([32] : List UInt8) ++ s15v)) ++ (([32] : List UInt8) ++ s28v)) ++ (([32] : List UInt8) ++ s41v)).length + (([32] : List UInt8) ++ s54v).length ≤ 9223372036854775807 then ((strconv_Itoa.f x0_6).bind fun s67v => (if ([32] : List UInt8).length + s67v.length ≤ 9223372036854775807 then (if ((((([119, 111, 114, 108, 100] : List UInt8) ++ (([32] : List UInt8) ++ s15v)) ++ (([32] : List UInt8) ++ s28v)) ++ (([32] : List UInt8) ++ s41v)) ++ (([32] : List UInt8) ++ s54v)).length + (([32] : List UInt8) ++ s67v).length ≤ 9223372036854775807 then ((strconv_Itoa.f x0_7).bind fun s80v => (if ([32] : List UInt8).length + s80v.length ≤ 9223372036854775807 then (if (((((([119, 111, 114, 108, 100] : List UInt8) ++ (([32] : List UInt8) ++ s15v)) ++ (([32] : List UInt8) ++ s28v)) ++ (([32] : List UInt8) ++ s41v)) ++ (([32] : List UInt8) ++ s54v)) ++ (([32] : List UInt8) ++ s67v)).length + (([32] : List UInt8) ++ s80v).length ≤ 9223372036854775807 then ((strconv_Itoa.f x0_8).bind fun s93v => (if ([32] : List UInt8).length + s93v.length ≤ 9223372036854775807 then (if ((((((([119, 111, 114, 108, 100] : List UInt8) ++ (([32] : List UInt8) ++ s15v)) ++ (([32] : List UInt8) ++ s28v)) ++ (([32] : List UInt8) ++ s41v)) ++ (([32] : List UInt8) ++ s54v)) ++ (([32] : List UInt8) ++ s67v)) ++ (([32] : List UInt8) ++ s80v)).length + (([32] : List UInt8) ++ s93v).length ≤ 9223372036854775807 then ((strconv_Itoa.f x0_9).bind fun s106v => (if ([32] : List UInt8).length + s106v.length ≤ 9223372036854775807 then (if (((((((([119, 111, 114, 108, 100] : List UInt8) ++ (([32] : List UInt8) ++ s15v)) ++ (([32] : List UInt8) ++ s28v)) ++ (([32] : List UInt8) ++ s41v)) ++ (([32] : List UInt8) ++ s54v)) ++ (([32] : List UInt8) ++ s67v)) ++ (([32] : List UInt8) ++ s80v)) ++ (([32] : List UInt8) ++ s93v)).length + (([32] : List UInt8) ++ s106v).length ≤ 9223372036854775807 then ((strconv_Itoa.f x0_10).bind fun s119v => (if ([32] : List UInt8).length + s119v.length ≤ 9223372036854775807 then (if ((((((((([119, 111, 114, 108, 100] : List UInt8) ++ (([32] : List UInt8) ++ s15v)) ++ (([32] : List UInt8) ++ s28v)) ++ (([32] : List UInt8) ++ s41v)) ++ (([32] : List UInt8) ++ s54v)) ++ (([32] : List UInt8) ++ s67v)) ++ (([32] : List UInt8) ++ s80v)) ++ (([32] : List UInt8) ++ s93v)) ++ (([32] : List UInt8) ++ s106v)).length + (([32] : List UInt8) ++ s119v).length ≤ 9223372036854775807 then ((strconv_Itoa.f x0_11).bind fun s132v => (if ([32] : List UInt8).length + s132v.length ≤ 9223372036854775807 then (if (((((((((([119, 111, 114, 108, 100] : List UInt8) ++ (([32] : List UInt8) ++ s15v)) ++ (([32] : List UInt8) ++ s28v)) ++ (([32] : List UInt8) ++ s41v)) ++ (([32] : List UInt8) ++ s54v)) ++ (([32] : List UInt8) ++ s67v)) ++ (([32] : List UInt8) ++ s80v)) ++ (([32] : List UInt8) ++ s93v)) ++ (([32] : List UInt8) ++ s106v)) ++ (([32] : List UInt8) ++ s119v)).length + (([32] : List UInt8) ++ s132v).length ≤ 9223372036854775807 then ((strconv_Itoa.f x0_12).bind fun s145v => (if ([32] : List UInt8).length + s145v.length ≤ 9223372036854775807 then (if ((((((((((([119, 111, 114, 108, 100] : List UInt8) ++ (([32] : List UInt8) ++ s15v)) ++ (([32] : List UInt8) ++ s28v)) ++ (([32] : List UInt8) ++ s41v)) ++ (([32] : List UInt8) ++ s54v)) ++ (([32] : List UInt8) ++ s67v)) ++ (([32] : List UInt8) ++ s80v)) ++ (([32] : List UInt8) ++ s93v)) ++ (([32] : List UInt8) ++ s106v)) ++ (([32] : List UInt8) ++ s119v)) ++ (([32] : List UInt8) ++ s132v)).length + (([32] : List UInt8) ++ s145v).length ≤ 9223372036854775807 then ((strconv_Itoa.f x0_13).bind fun s158v => (if ([32] : List UInt8).length + s158v.length ≤ 9223372036854775807 then (if (((((((((((([119, 111, 114, 108, 100] : List UInt8) ++ (([32] : List UInt8) ++ s15v)) ++ (([32] : List UInt8) ++ s28v)) ++ (([32] : List UInt8) ++ s41v)) ++ (([32] : List UInt8) ++ s54v)) ++ (([32] : List UInt8) ++ s67v)) ++ (([32] : List UInt8) ++ s80v)) ++ (([32] : List UInt8) ++ s93v)) ++ (([32] : List UInt8) ++ s106v)) ++ (([32] : List UInt8) ++ s119v)) ++ (([32] : List UInt8) ++ s132v)) ++ (([32] : List UInt8) ++ s145v)).length + (([32] : List UInt8) ++ s158v).length ≤ 9223372036854775807 then ((strconv_Itoa.f x0_14).bind fun s171v => (if ([32] : List UInt8).length + s171v.length ≤ 9223372036854775807 then (if ((((((((((((([119, 111, 114, 108, 100] : List UInt8) ++ (([32] : List UInt8) ++ s15v)) ++ (([32] : List UInt8) ++ s28v)) ++ (([32] : List UInt8) ++ s41v)) ++ (([32] : List UInt8) ++ s54v)) ++ (([32] : List UInt8) ++ s67v)) ++ (([32] : List UInt8) ++ s80v)) ++ (([32] : List UInt8) ++ s93v)) ++ (([32] : List UInt8) ++ s106v)) ++ (([32] : List UInt8) ++ s119v)) ++ (([32] : List UInt8) ++ s132v)) ++ (([32] : List UInt8) ++ s145v)) ++ (([32] : List UInt8) ++ s158v)).length + (([32] : List UInt8) ++ s171v).length ≤ 9223372036854775807 then ((strconv_Itoa.f x0_15).bind fun s184v => (if ([32] : List UInt8).length + s184v.length ≤ 9223372036854775807 then (if (((((((((((((([119, 111, 114, 108, 100] : List UInt8) ++ (([32] : List UInt8) ++ s15v)) ++ (([32] : List UInt8) ++ s28v)) ++ (([32] : List UInt8) ++ s41v)) ++ (([32] : List UInt8) ++ s54v)) ++ (([32] : List UInt8) ++ s67v)) ++ (([32] : List UInt8) ++ s80v)) ++ (([32] : List UInt8) ++ s93v)) ++ (([32] : List UInt8) ++ s106v)) ++ (([32] : List UInt8) ++ s119v)) ++ (([32] : List UInt8) ++ s132v)) ++ (([32] : List UInt8) ++ s145v)) ++ (([32] : List UInt8) ++ s158v)) ++ (([32] : List UInt8) ++ s171v)).length + (([32] : List UInt8) ++ s184v).length ≤ 9223372036854775807 then ((strconv_Itoa.f x0_16).bind fun s197v => (if ([32] : List UInt8).length + s197v.length ≤ 9223372036854775807 then (if ((((((((((((((([119, 111, 114, 108, 100] : List UInt8) ++ (([32] : List UInt8) ++ s15v)) ++ (([32] : List UInt8) ++ s28v)) ++ (([32] : List UInt8) ++ s41v)) ++ (([32] : List UInt8) ++ s54v)) ++ (([32] : List UInt8) ++ s67v)) ++ (([32] : List UInt8) ++ s80v)) ++ (([32] : List UInt8) ++ s93v)) ++ (([32] : List UInt8) ++ s106v)) ++ (([32] : List UInt8) ++ s119v)) ++ (([32] : List UInt8) ++ s132v)) ++ (([32] : List UInt8) ++ s145v)) ++ (([32] : List UInt8) ++ s158v)) ++ (([32] : List UInt8) ++ s171v)) ++ (([32] : List UInt8) ++ s184v)).length + (([32] : List UInt8) ++ s197v).length ≤ 9223372036854775807 then ((strconv_Itoa.f x0_17).bind fun s210v => (if ([32] : List UInt8).length + s210v.length ≤ 9223372036854775807 then (if (((((((((((((((([119, 111, 114, 108, 100] : List UInt8) ++ (([32] : List UInt8) ++ s15v)) ++ (([32] : List UInt8) ++ s28v)) ++ (([32] : List UInt8) ++ s41v)) ++ (([32] : List UInt8) ++ s54v)) ++ (([32] : List UInt8) ++ s67v)) ++ (([32] : List UInt8) ++ s80v)) ++ (([32] : List UInt8) ++ s93v)) ++ (([32] : List UInt8) ++ s106v)) ++ (([32] : List UInt8) ++ s119v)) ++ (([32] : List UInt8) ++ s132v)) ++ (([32] : List UInt8) ++ s145v)) ++ (([32] : List UInt8) ++ s158v)) ++ (([32] : List UInt8) ++ s171v)) ++ (([32] : List UInt8) ++ s184v)) ++ (([32] : List UInt8) ++ s197v)).length + (([32] : List UInt8) ++ s210v).length ≤ 9223372036854775807 then ((strconv_Itoa.f x0_18).bind fun s223v => (if ([32] : List UInt8).length + s223v.length ≤ 9223372036854775807 then (if ((((((((((((((((([119, 111, 114, 108, 100] : List UInt8) ++ (([32] : List UInt8) ++ s15v)) ++ (([32] : List UInt8) ++ s28v)) ++ (([32] : List UInt8) ++ s41v)) ++ (([32] : List UInt8) ++ s54v)) ++ (([32] : List UInt8) ++ s67v)) ++ (([32] : List UInt8) ++ s80v)) ++ (([32] : List UInt8) ++ s93v)) ++ (([32] : List UInt8) ++ s106v)) ++ (([32] : List UInt8) ++ s119v)) ++ (([32] : List UInt8) ++ s132v)) ++ (([32] : List UInt8) ++ s145v)) ++ (([32] : List UInt8) ++ s158v)) ++ (([32] : List UInt8) ++ s171v)) ++ (([32] : List UInt8) ++ s184v)) ++ (([32] : List UInt8) ++ s197v)) ++ (([32] : List UInt8) ++ s210v)).length + (([32] : List UInt8) ++ s223v).length ≤ 9223372036854775807 then (if (((((((((((((((((([119, 111, 114, 108, 100] : List UInt8) ++ (([32] : List UInt8) ++ s15v)) ++ (([32] : List UInt8) ++ s28v)) ++ (([32] : List UInt8) ++ s41v)) ++ (([32] : List UInt8) ++ s54v)) ++ (([32] : List UInt8) ++ s67v)) ++ (([32] : List UInt8) ++ s80v)) ++ (([32] : List UInt8) ++ s93v)) ++ (([32] : List UInt8) ++ s106v)) ++ (([32] : List UInt8) ++ s119v)) ++ (([32] : List UInt8) ++ s132v)) ++ (([32] : List UInt8) ++ s145v)) ++ (([32] : List UInt8) ++ s158v)) ++ (([32] : List UInt8) ++ s171v)) ++ (([32] : List UInt8) ++ s184v)) ++ (([32] : List UInt8) ++ s197v)) ++ (([32] : List UInt8) ++ s210v)) ++ (([32] : List UInt8) ++ s223v)).length + ([32, 48] : List UInt8).length ≤ 9223372036854775807 then (some ((((((((((((((((((([119, 111, 114, 108, 100] : List UInt8) ++ (([32] : List UInt8) ++ s15v)) ++ (([32] : List UInt8) ++ s28v)) ++ (([32] : List UInt8) ++ s41v)) ++ (([32] : List UInt8) ++ s54v)) ++ (([32] : List UInt8) ++ s67v)) ++ (([32] : List UInt8) ++ s80v)) ++ (([32] : List UInt8) ++ s93v)) ++ (([32] : List UInt8) ++ s106v)) ++ (([32] : List UInt8) ++ s119v)) ++ (([32] : List UInt8) ++ s132v)) ++ (([32] : List UInt8) ++ s145v)) ++ (([32] : List UInt8) ++ s158v)) ++ (([32] : List UInt8) ++ s171v)) ++ (([32] : List UInt8) ++ s184v)) ++ (([32] : List UInt8) ++ s197v)) ++ (([32] : List UInt8) ++ s210v)) ++ (([32] : List UInt8) ++ s223v)) ++ ([32, 48] : List UInt8))) else none) else none) else none)) else none) else none)) else none) else none)) else none) else none)) else none) else none)) else none) else none)) else none) else none)) else none) else none)) else none) else none)) else none) else none)) else none) else none)) else none) else none)) else none) else none)) else none) else none)) else none) else none)) else none) else none)) else none) else none))
theorem text_FormatOpts.calls (W : World) (F : HA) (x0_0 : Int) (x0_1 : Int) (x0_2 : Int) (x0_3 : Int) (x0_4 : Int) (x0_5 : Int) (x0_6 : Int) (x0_7 : Int) (x0_8 : Int) (x0_9 : Int) (x0_10 : Int) (x0_11 : Int) (x0_12 : Int) (x0_13 : Int) (x0_14 : Int) (x0_15 : Int) (x0_16 : Int) (x0_17 : Int) (x0_18 : Int) (hgl : Glb Tryd.prog F) :
    Fn Tryd.prog W 27 [.agg #[.int .i64 x0_0, .int .i64 x0_1, .int .i64 x0_2, .int .i64 x0_3, .int .i64 x0_4, .int .i64 x0_5, .int .i64 x0_6, .int .i64 x0_7, .int .i64 x0_8, .int .i64 x0_9, .int .i64 x0_10, .int .i64 x0_11, .int .i64 x0_12, .int .i64 x0_13, .int .i64 x0_14, .int .i64 x0_15, .int .i64 x0_16, .int .i64 x0_17, .int .i64 x0_18]] [] F (text_FormatOpts.f x0_0 x0_1 x0_2 x0_3 x0_4 x0_5 x0_6 x0_7 x0_8 x0_9 x0_10 x0_11 x0_12 x0_13 x0_14 x0_15 x0_16 x0_17 x0_18) (fun (r : List UInt8) (y : Unit) => str r) (fun r y => []) := by
 unfold text_FormatOpts.f
 refine fn_intro 22 Tryd.func27 rfl Tryd.ntmps27 rfl ?_
 refine sr ?_
 refine simL_eff (re_box rfl rfl rfl) rfl rfl rfl ?_
 intro b1v
 refine va rfl rfl (nx ?_)
 refine va rfl rfl (simL_nil (nrm_then (sim_seq (sr ?_))))
 refine simL_bind (fun s2v hs3v => ?_)
 refine simL_eff (re_call (vs := [.pointer (some ⟨b1v, 0, none⟩)]) (cap := []) (A := [obj b1v 54 [.int .i64 x0_0, .int .i64 x0_1, .int .i64 x0_2, .int .i64 x0_3, .int .i64 x0_4, .int .i64 x0_5, .int .i64 x0_6, .int .i64 x0_7, .int .i64 x0_8, .int .i64 x0_9, .int .i64 x0_10, .int .i64 x0_11, .int .i64 x0_12, .int .i64 x0_13, .int .i64 x0_14, .int .i64 x0_15, .int .i64 x0_16, .int .i64 x0_17, .int .i64 x0_18]]) (rst := [F]) rfl rfl rfl rfl rfl rfl Tryd.call54 (.sel 0 rfl (.sel 0 rfl (.nil _))) (text_options.calls _ _ b1v x0_0 x0_1 x0_2 x0_3 x0_4 x0_5 x0_6 x0_7 x0_8 x0_9 x0_10 x0_11 x0_12 x0_13 x0_14 x0_15 x0_16 x0_17 x0_18 ) hs3v) rfl rfl rfl ?_
 intro y4v
 refine vq (rq_cast (v' := .int .i64 17) rfl (q_len rfl rfl rfl Tryd.underlying120)) rfl ?_
 refine vm rfl rfl (simL_nil (nrm_then ?_))
 refine sim_block ?_
 refine sim_rounds 19 (rnd_succ ?_)
 refine sr ?_
 refine vq (q_lss rfl rfl rfl) rfl (simL_nil (nrm_then (sim_seq ?_)))
 refine sim_true rfl ?_
 refine sim_skip ?_
 refine nrm_then (sim_seq ?_)
 refine sim_block ?_
 refine sr ?_
 refine simL_openV 0 rfl (fun rs13v hl14v => ?_)
 have hi5v : (0 : Int) ≤ (0 : Int) ∧ (0 : Int) < (([(b1v, 0), (b1v, 1), (b1v, 4), (b1v, 5), (b1v, 6), (b1v, 7), (b1v, 8), (b1v, 9), (b1v, 10), (b1v, 11), (b1v, 12), (b1v, 13), (b1v, 14), (b1v, 15), (b1v, 16), (b1v, 17), (b1v, 18)] : List ((Nat × Nat))).length : Int) := ⟨by decide, (show (0 : Int) < ((17 : Nat) : Int) by decide)⟩
 refine simL_posV 0 rfl hl14v rfl (i := (0 : Int).toNat) (by omega) ((0, 0) : Nat × Nat) (fun b6v b6vo r9v ha7v hV10v hlr11v hcell12v => ?_)
 obtain rfl := hV10v
 refine vq (q_idx rfl rfl rfl ha7v Tryd.underlying120 Tryd.sizeOf115 hi5v.1 hi5v.2) rfl ?_
 refine vq (rq_cast (v' := .pointer (some ⟨b1v, 0, none⟩)) rfl (q_load rfl rfl Tryd.isAgg115 (hcell12v 0 rfl 0 _ rfl))) rfl ?_
 refine va rfl rfl (ny ?_)
 refine vm rfl rfl ?_
 refine vm rfl rfl ?_
 refine vn rfl rfl ?_
 refine vq (q_load rfl rfl Tryd.isAgg3 (.obj 1 rfl rfl)) rfl ?_
 refine simL_bind (fun s15v hs16v => ?_)
 refine simL_eff (re_call (vs := [.int .i64 x0_0]) (cap := []) (A := []) (rst := [Row 115 1 y4v.1 ([(b1v, 0), (b1v, 1), (b1v, 4), (b1v, 5), (b1v, 6), (b1v, 7), (b1v, 8), (b1v, 9), (b1v, 10), (b1v, 11), (b1v, 12), (b1v, 13), (b1v, 14), (b1v, 15), (b1v, 16), (b1v, 17), (b1v, 18)] : List ((Nat × Nat))).length y4v.2 rs13v.flatten, obj b1v 54 [.int .i64 x0_0, .int .i64 x0_1, .int .i64 x0_2, .int .i64 x0_3, .int .i64 x0_4, .int .i64 x0_5, .int .i64 x0_6, .int .i64 x0_7, .int .i64 x0_8, .int .i64 x0_9, .int .i64 x0_10, .int .i64 x0_11, .int .i64 x0_12, .int .i64 x0_13, .int .i64 x0_14, .int .i64 x0_15, .int .i64 x0_16, .int .i64 x0_17, .int .i64 x0_18], F]) rfl rfl rfl rfl rfl rfl Tryd.call51 (.sel 0 rfl (.sel 0 rfl (.sel 0 rfl (.nil _)))) (strconv_Itoa.calls _ _ x0_0 (hgl.lend 2 rfl)) hs16v) rfl rfl rfl ?_
 intro y17v
 refine simL_ask (fun hb18v => ?_)
 refine vq (q_cat rfl rfl rfl hb18v) rfl ?_
 refine simL_ask (fun hb19v => ?_)
 refine vq (q_cat rfl rfl rfl hb19v) rfl ?_
 refine va rfl rfl (simL_nil (nrm_block (nrm_then (sim_region ?_))))
 refine vq (q_add rfl rfl rfl) rfl ?_
 refine vm rfl rfl (simL_nil ?_)
 refine nrm_rnd (rnd_succ ?_)
 refine sr ?_
 refine vq (q_lss rfl rfl rfl) rfl (simL_nil (nrm_then (sim_seq ?_)))
 refine sim_true rfl ?_
 refine sim_skip ?_
 refine nrm_then (sim_seq ?_)
 refine sim_block ?_
 refine sr ?_
 have hi20v : (0 : Int) ≤ (1 : Int) ∧ (1 : Int) < (([(b1v, 0), (b1v, 1), (b1v, 4), (b1v, 5), (b1v, 6), (b1v, 7), (b1v, 8), (b1v, 9), (b1v, 10), (b1v, 11), (b1v, 12), (b1v, 13), (b1v, 14), (b1v, 15), (b1v, 16), (b1v, 17), (b1v, 18)] : List ((Nat × Nat))).length : Int) := ⟨by decide, (show (1 : Int) < ((17 : Nat) : Int) by decide)⟩
 refine simL_posV 0 rfl hl14v rfl (i := (1 : Int).toNat) (by omega) ((0, 0) : Nat × Nat) (fun b21v b21vo r24v ha22v hV25v hlr26v hcell27v => ?_)
 obtain rfl := hV25v
 refine vq (q_idx rfl rfl rfl ha22v Tryd.underlying120 Tryd.sizeOf115 hi20v.1 hi20v.2) rfl ?_
 refine vq (rq_cast (v' := .pointer (some ⟨b1v, 1, none⟩)) rfl (q_load rfl rfl Tryd.isAgg115 (hcell27v 0 rfl 0 _ rfl))) rfl ?_
 refine va rfl rfl (ny ?_)
 refine vm rfl rfl ?_
 refine vm rfl rfl ?_
 refine vn rfl rfl ?_
 refine vq (q_load rfl rfl Tryd.isAgg3 (.obj 1 rfl rfl)) rfl ?_
 refine simL_bind (fun s28v hs29v => ?_)
 refine simL_eff (re_call (vs := [.int .i64 x0_1]) (cap := []) (A := []) (rst := [Row 115 1 y4v.1 ([(b1v, 0), (b1v, 1), (b1v, 4), (b1v, 5), (b1v, 6), (b1v, 7), (b1v, 8), (b1v, 9), (b1v, 10), (b1v, 11), (b1v, 12), (b1v, 13), (b1v, 14), (b1v, 15), (b1v, 16), (b1v, 17), (b1v, 18)] : List ((Nat × Nat))).length y4v.2 rs13v.flatten, obj b1v 54 [.int .i64 x0_0, .int .i64 x0_1, .int .i64 x0_2, .int .i64 x0_3, .int .i64 x0_4, .int .i64 x0_5, .int .i64 x0_6, .int .i64 x0_7, .int .i64 x0_8, .int .i64 x0_9, .int .i64 x0_10, .int .i64 x0_11, .int .i64 x0_12, .int .i64 x0_13, .int .i64 x0_14, .int .i64 x0_15, .int .i64 x0_16, .int .i64 x0_17, .int .i64 x0_18], F]) rfl rfl rfl rfl rfl rfl Tryd.call51 (.sel 0 rfl (.sel 0 rfl (.sel 0 rfl (.nil _)))) (strconv_Itoa.calls _ _ x0_1 (hgl.lend 2 rfl)) hs29v) rfl rfl rfl ?_
 intro y30v
 refine simL_ask (fun hb31v => ?_)
 refine vq (q_cat rfl rfl rfl hb31v) rfl ?_
 refine simL_ask (fun hb32v => ?_)
 refine vq (q_cat rfl rfl rfl hb32v) rfl ?_
 refine va rfl rfl (simL_nil (nrm_block (nrm_then (sim_region ?_))))
 refine vq (q_add rfl rfl rfl) rfl ?_
 refine vm rfl rfl (simL_nil ?_)
 refine nrm_rnd (rnd_succ ?_)
 refine sr ?_
 refine vq (q_lss rfl rfl rfl) rfl (simL_nil (nrm_then (sim_seq ?_)))
 refine sim_true rfl ?_
 refine sim_skip ?_
 refine nrm_then (sim_seq ?_)
 refine sim_block ?_
 refine sr ?_
 have hi33v : (0 : Int) ≤ (2 : Int) ∧ (2 : Int) < (([(b1v, 0), (b1v, 1), (b1v, 4), (b1v, 5), (b1v, 6), (b1v, 7), (b1v, 8), (b1v, 9), (b1v, 10), (b1v, 11), (b1v, 12), (b1v, 13), (b1v, 14), (b1v, 15), (b1v, 16), (b1v, 17), (b1v, 18)] : List ((Nat × Nat))).length : Int) := ⟨by decide, (show (2 : Int) < ((17 : Nat) : Int) by decide)⟩
 refine simL_posV 0 rfl hl14v rfl (i := (2 : Int).toNat) (by omega) ((0, 0) : Nat × Nat) (fun b34v b34vo r37v ha35v hV38v hlr39v hcell40v => ?_)
 obtain rfl := hV38v
 refine vq (q_idx rfl rfl rfl ha35v Tryd.underlying120 Tryd.sizeOf115 hi33v.1 hi33v.2) rfl ?_
 refine vq (rq_cast (v' := .pointer (some ⟨b1v, 4, none⟩)) rfl (q_load rfl rfl Tryd.isAgg115 (hcell40v 0 rfl 0 _ rfl))) rfl ?_
 refine va rfl rfl (ny ?_)
 refine vm rfl rfl ?_
 refine vm rfl rfl ?_
 refine vn rfl rfl ?_
 refine vq (q_load rfl rfl Tryd.isAgg3 (.obj 1 rfl rfl)) rfl ?_
 refine simL_bind (fun s41v hs42v => ?_)
 refine simL_eff (re_call (vs := [.int .i64 x0_4]) (cap := []) (A := []) (rst := [Row 115 1 y4v.1 ([(b1v, 0), (b1v, 1), (b1v, 4), (b1v, 5), (b1v, 6), (b1v, 7), (b1v, 8), (b1v, 9), (b1v, 10), (b1v, 11), (b1v, 12), (b1v, 13), (b1v, 14), (b1v, 15), (b1v, 16), (b1v, 17), (b1v, 18)] : List ((Nat × Nat))).length y4v.2 rs13v.flatten, obj b1v 54 [.int .i64 x0_0, .int .i64 x0_1, .int .i64 x0_2, .int .i64 x0_3, .int .i64 x0_4, .int .i64 x0_5, .int .i64 x0_6, .int .i64 x0_7, .int .i64 x0_8, .int .i64 x0_9, .int .i64 x0_10, .int .i64 x0_11, .int .i64 x0_12, .int .i64 x0_13, .int .i64 x0_14, .int .i64 x0_15, .int .i64 x0_16, .int .i64 x0_17, .int .i64 x0_18], F]) rfl rfl rfl rfl rfl rfl Tryd.call51 (.sel 0 rfl (.sel 0 rfl (.sel 0 rfl (.nil _)))) (strconv_Itoa.calls _ _ x0_4 (hgl.lend 2 rfl)) hs42v) rfl rfl rfl ?_
 intro y43v
 refine simL_ask (fun hb44v => ?_)
 refine vq (q_cat rfl rfl rfl hb44v) rfl ?_
 refine simL_ask (fun hb45v => ?_)
 refine vq (q_cat rfl rfl rfl hb45v) rfl ?_
 refine va rfl rfl (simL_nil (nrm_block (nrm_then (sim_region ?_))))
 refine vq (q_add rfl rfl rfl) rfl ?_
 refine vm rfl rfl (simL_nil ?_)
 refine nrm_rnd (rnd_succ ?_)
 refine sr ?_
 refine vq (q_lss rfl rfl rfl) rfl (simL_nil (nrm_then (sim_seq ?_)))
 refine sim_true rfl ?_
 refine sim_skip ?_
 refine nrm_then (sim_seq ?_)
 refine sim_block ?_
 refine sr ?_
 have hi46v : (0 : Int) ≤ (3 : Int) ∧ (3 : Int) < (([(b1v, 0), (b1v, 1), (b1v, 4), (b1v, 5), (b1v, 6), (b1v, 7), (b1v, 8), (b1v, 9), (b1v, 10), (b1v, 11), (b1v, 12), (b1v, 13), (b1v, 14), (b1v, 15), (b1v, 16), (b1v, 17), (b1v, 18)] : List ((Nat × Nat))).length : Int) := ⟨by decide, (show (3 : Int) < ((17 : Nat) : Int) by decide)⟩
 refine simL_posV 0 rfl hl14v rfl (i := (3 : Int).toNat) (by omega) ((0, 0) : Nat × Nat) (fun b47v b47vo r50v ha48v hV51v hlr52v hcell53v => ?_)
 obtain rfl := hV51v
 refine vq (q_idx rfl rfl rfl ha48v Tryd.underlying120 Tryd.sizeOf115 hi46v.1 hi46v.2) rfl ?_
 refine vq (rq_cast (v' := .pointer (some ⟨b1v, 5, none⟩)) rfl (q_load rfl rfl Tryd.isAgg115 (hcell53v 0 rfl 0 _ rfl))) rfl ?_
 refine va rfl rfl (ny ?_)
 refine vm rfl rfl ?_
 refine vm rfl rfl ?_
 refine vn rfl rfl ?_
 refine vq (q_load rfl rfl Tryd.isAgg3 (.obj 1 rfl rfl)) rfl ?_
 refine simL_bind (fun s54v hs55v => ?_)
 refine simL_eff (re_call (vs := [.int .i64 x0_5]) (cap := []) (A := []) (rst := [Row 115 1 y4v.1 ([(b1v, 0), (b1v, 1), (b1v, 4), (b1v, 5), (b1v, 6), (b1v, 7), (b1v, 8), (b1v, 9), (b1v, 10), (b1v, 11), (b1v, 12), (b1v, 13), (b1v, 14), (b1v, 15), (b1v, 16), (b1v, 17), (b1v, 18)] : List ((Nat × Nat))).length y4v.2 rs13v.flatten, obj b1v 54 [.int .i64 x0_0, .int .i64 x0_1, .int .i64 x0_2, .int .i64 x0_3, .int .i64 x0_4, .int .i64 x0_5, .int .i64 x0_6, .int .i64 x0_7, .int .i64 x0_8, .int .i64 x0_9, .int .i64 x0_10, .int .i64 x0_11, .int .i64 x0_12, .int .i64 x0_13, .int .i64 x0_14, .int .i64 x0_15, .int .i64 x0_16, .int .i64 x0_17, .int .i64 x0_18], F]) rfl rfl rfl rfl rfl rfl Tryd.call51 (.sel 0 rfl (.sel 0 rfl (.sel 0 rfl (.nil _)))) (strconv_Itoa.calls _ _ x0_5 (hgl.lend 2 rfl)) hs55v) rfl rfl rfl ?_
 intro y56v
 refine simL_ask (fun hb57v => ?_)
 refine vq (q_cat rfl rfl rfl hb57v) rfl ?_
 refine simL_ask (fun hb58v => ?_)
 refine vq (q_cat rfl rfl rfl hb58v) rfl ?_
 refine va rfl rfl (simL_nil (nrm_block (nrm_then (sim_region ?_))))
 refine vq (q_add rfl rfl rfl) rfl ?_
 refine vm rfl rfl (simL_nil ?_)
 refine nrm_rnd (rnd_succ ?_)
 refine sr ?_
 refine vq (q_lss rfl rfl rfl) rfl (simL_nil (nrm_then (sim_seq ?_)))
 refine sim_true rfl ?_
 refine sim_skip ?_
 refine nrm_then (sim_seq ?_)
 refine sim_block ?_
 refine sr ?_
 have hi59v : (0 : Int) ≤ (4 : Int) ∧ (4 : Int) < (([(b1v, 0), (b1v, 1), (b1v, 4), (b1v, 5), (b1v, 6), (b1v, 7), (b1v, 8), (b1v, 9), (b1v, 10), (b1v, 11), (b1v, 12), (b1v, 13), (b1v, 14), (b1v, 15), (b1v, 16), (b1v, 17), (b1v, 18)] : List ((Nat × Nat))).length : Int) := ⟨by decide, (show (4 : Int) < ((17 : Nat) : Int) by decide)⟩
 refine simL_posV 0 rfl hl14v rfl (i := (4 : Int).toNat) (by omega) ((0, 0) : Nat × Nat) (fun b60v b60vo r63v ha61v hV64v hlr65v hcell66v => ?_)
 obtain rfl := hV64v
 refine vq (q_idx rfl rfl rfl ha61v Tryd.underlying120 Tryd.sizeOf115 hi59v.1 hi59v.2) rfl ?_
 refine vq (rq_cast (v' := .pointer (some ⟨b1v, 6, none⟩)) rfl (q_load rfl rfl Tryd.isAgg115 (hcell66v 0 rfl 0 _ rfl))) rfl ?_
 refine va rfl rfl (ny ?_)
 refine vm rfl rfl ?_
 refine vm rfl rfl ?_
 refine vn rfl rfl ?_
 refine vq (q_load rfl rfl Tryd.isAgg3 (.obj 1 rfl rfl)) rfl ?_
 refine simL_bind (fun s67v hs68v => ?_)
 refine simL_eff (re_call (vs := [.int .i64 x0_6]) (cap := []) (A := []) (rst := [Row 115 1 y4v.1 ([(b1v, 0), (b1v, 1), (b1v, 4), (b1v, 5), (b1v, 6), (b1v, 7), (b1v, 8), (b1v, 9), (b1v, 10), (b1v, 11), (b1v, 12), (b1v, 13), (b1v, 14), (b1v, 15), (b1v, 16), (b1v, 17), (b1v, 18)] : List ((Nat × Nat))).length y4v.2 rs13v.flatten, obj b1v 54 [.int .i64 x0_0, .int .i64 x0_1, .int .i64 x0_2, .int .i64 x0_3, .int .i64 x0_4, .int .i64 x0_5, .int .i64 x0_6, .int .i64 x0_7, .int .i64 x0_8, .int .i64 x0_9, .int .i64 x0_10, .int .i64 x0_11, .int .i64 x0_12, .int .i64 x0_13, .int .i64 x0_14, .int .i64 x0_15, .int .i64 x0_16, .int .i64 x0_17, .int .i64 x0_18], F]) rfl rfl rfl rfl rfl rfl Tryd.call51 (.sel 0 rfl (.sel 0 rfl (.sel 0 rfl (.nil _)))) (strconv_Itoa.calls _ _ x0_6 (hgl.lend 2 rfl)) hs68v) rfl rfl rfl ?_
 intro y69v
 refine simL_ask (fun hb70v => ?_)
 refine vq (q_cat rfl rfl rfl hb70v) rfl ?_
 refine simL_ask (fun hb71v => ?_)
 refine vq (q_cat rfl rfl rfl hb71v) rfl ?_
 refine va rfl rfl (simL_nil (nrm_block (nrm_then (sim_region ?_))))
 refine vq (q_add rfl rfl rfl) rfl ?_
 refine vm rfl rfl (simL_nil ?_)
 refine nrm_rnd (rnd_succ ?_)
 refine sr ?_
 refine vq (q_lss rfl rfl rfl) rfl (simL_nil (nrm_then (sim_seq ?_)))
 refine sim_true rfl ?_
 refine sim_skip ?_
 refine nrm_then (sim_seq ?_)
 refine sim_block ?_
 refine sr ?_
 have hi72v : (0 : Int) ≤ (5 : Int) ∧ (5 : Int) < (([(b1v, 0), (b1v, 1), (b1v, 4), (b1v, 5), (b1v, 6), (b1v, 7), (b1v, 8), (b1v, 9), (b1v, 10), (b1v, 11), (b1v, 12), (b1v, 13), (b1v, 14), (b1v, 15), (b1v, 16), (b1v, 17), (b1v, 18)] : List ((Nat × Nat))).length : Int) := ⟨by decide, (show (5 : Int) < ((17 : Nat) : Int) by decide)⟩
 refine simL_posV 0 rfl hl14v rfl (i := (5 : Int).toNat) (by omega) ((0, 0) : Nat × Nat) (fun b73v b73vo r76v ha74v hV77v hlr78v hcell79v => ?_)
 obtain rfl := hV77v
 refine vq (q_idx rfl rfl rfl ha74v Tryd.underlying120 Tryd.sizeOf115 hi72v.1 hi72v.2) rfl ?_
 refine vq (rq_cast (v' := .pointer (some ⟨b1v, 7, none⟩)) rfl (q_load rfl rfl Tryd.isAgg115 (hcell79v 0 rfl 0 _ rfl))) rfl ?_
 refine va rfl rfl (ny ?_)
 refine vm rfl rfl ?_
 refine vm rfl rfl ?_
 refine vn rfl rfl ?_
 refine vq (q_load rfl rfl Tryd.isAgg3 (.obj 1 rfl rfl)) rfl ?_
 refine simL_bind (fun s80v hs81v => ?_)
 refine simL_eff (re_call (vs := [.int .i64 x0_7]) (cap := []) (A := []) (rst := [Row 115 1 y4v.1 ([(b1v, 0), (b1v, 1), (b1v, 4), (b1v, 5), (b1v, 6), (b1v, 7), (b1v, 8), (b1v, 9), (b1v, 10), (b1v, 11), (b1v, 12), (b1v, 13), (b1v, 14), (b1v, 15), (b1v, 16), (b1v, 17), (b1v, 18)] : List ((Nat × Nat))).length y4v.2 rs13v.flatten, obj b1v 54 [.int .i64 x0_0, .int .i64 x0_1, .int .i64 x0_2, .int .i64 x0_3, .int .i64 x0_4, .int .i64 x0_5, .int .i64 x0_6, .int .i64 x0_7, .int .i64 x0_8, .int .i64 x0_9, .int .i64 x0_10, .int .i64 x0_11, .int .i64 x0_12, .int .i64 x0_13, .int .i64 x0_14, .int .i64 x0_15, .int .i64 x0_16, .int .i64 x0_17, .int .i64 x0_18], F]) rfl rfl rfl rfl rfl rfl Tryd.call51 (.sel 0 rfl (.sel 0 rfl (.sel 0 rfl (.nil _)))) (strconv_Itoa.calls _ _ x0_7 (hgl.lend 2 rfl)) hs81v) rfl rfl rfl ?_
 intro y82v
 refine simL_ask (fun hb83v => ?_)
 refine vq (q_cat rfl rfl rfl hb83v) rfl ?_
 refine simL_ask (fun hb84v => ?_)
 refine vq (q_cat rfl rfl rfl hb84v) rfl ?_
 refine va rfl rfl (simL_nil (nrm_block (nrm_then (sim_region ?_))))
 refine vq (q_add rfl rfl rfl) rfl ?_
 refine vm rfl rfl (simL_nil ?_)
 refine nrm_rnd (rnd_succ ?_)
 refine sr ?_
 refine vq (q_lss rfl rfl rfl) rfl (simL_nil (nrm_then (sim_seq ?_)))
 refine sim_true rfl ?_
 refine sim_skip ?_
 refine nrm_then (sim_seq ?_)
 refine sim_block ?_
 refine sr ?_
 have hi85v : (0 : Int) ≤ (6 : Int) ∧ (6 : Int) < (([(b1v, 0), (b1v, 1), (b1v, 4), (b1v, 5), (b1v, 6), (b1v, 7), (b1v, 8), (b1v, 9), (b1v, 10), (b1v, 11), (b1v, 12), (b1v, 13), (b1v, 14), (b1v, 15), (b1v, 16), (b1v, 17), (b1v, 18)] : List ((Nat × Nat))).length : Int) := ⟨by decide, (show (6 : Int) < ((17 : Nat) : Int) by decide)⟩
 refine simL_posV 0 rfl hl14v rfl (i := (6 : Int).toNat) (by omega) ((0, 0) : Nat × Nat) (fun b86v b86vo r89v ha87v hV90v hlr91v hcell92v => ?_)
 obtain rfl := hV90v
 refine vq (q_idx rfl rfl rfl ha87v Tryd.underlying120 Tryd.sizeOf115 hi85v.1 hi85v.2) rfl ?_
 refine vq (rq_cast (v' := .pointer (some ⟨b1v, 8, none⟩)) rfl (q_load rfl rfl Tryd.isAgg115 (hcell92v 0 rfl 0 _ rfl))) rfl ?_
 refine va rfl rfl (ny ?_)
 refine vm rfl rfl ?_
 refine vm rfl rfl ?_
 refine vn rfl rfl ?_
 refine vq (q_load rfl rfl Tryd.isAgg3 (.obj 1 rfl rfl)) rfl ?_
 refine simL_bind (fun s93v hs94v => ?_)
 refine simL_eff (re_call (vs := [.int .i64 x0_8]) (cap := []) (A := []) (rst := [Row 115 1 y4v.1 ([(b1v, 0), (b1v, 1), (b1v, 4), (b1v, 5), (b1v, 6), (b1v, 7), (b1v, 8), (b1v, 9), (b1v, 10), (b1v, 11), (b1v, 12), (b1v, 13), (b1v, 14), (b1v, 15), (b1v, 16), (b1v, 17), (b1v, 18)] : List ((Nat × Nat))).length y4v.2 rs13v.flatten, obj b1v 54 [.int .i64 x0_0, .int .i64 x0_1, .int .i64 x0_2, .int .i64 x0_3, .int .i64 x0_4, .int .i64 x0_5, .int .i64 x0_6, .int .i64 x0_7, .int .i64 x0_8, .int .i64 x0_9, .int .i64 x0_10, .int .i64 x0_11, .int .i64 x0_12, .int .i64 x0_13, .int .i64 x0_14, .int .i64 x0_15, .int .i64 x0_16, .int .i64 x0_17, .int .i64 x0_18], F]) rfl rfl rfl rfl rfl rfl Tryd.call51 (.sel 0 rfl (.sel 0 rfl (.sel 0 rfl (.nil _)))) (strconv_Itoa.calls _ _ x0_8 (hgl.lend 2 rfl)) hs94v) rfl rfl rfl ?_
 intro y95v
 refine simL_ask (fun hb96v => ?_)
 refine vq (q_cat rfl rfl rfl hb96v) rfl ?_
 refine simL_ask (fun hb97v => ?_)
 refine vq (q_cat rfl rfl rfl hb97v) rfl ?_
 refine va rfl rfl (simL_nil (nrm_block (nrm_then (sim_region ?_))))
 refine vq (q_add rfl rfl rfl) rfl ?_
 refine vm rfl rfl (simL_nil ?_)
 refine nrm_rnd (rnd_succ ?_)
 refine sr ?_
 refine vq (q_lss rfl rfl rfl) rfl (simL_nil (nrm_then (sim_seq ?_)))
 refine sim_true rfl ?_
 refine sim_skip ?_
 refine nrm_then (sim_seq ?_)
 refine sim_block ?_
 refine sr ?_
 have hi98v : (0 : Int) ≤ (7 : Int) ∧ (7 : Int) < (([(b1v, 0), (b1v, 1), (b1v, 4), (b1v, 5), (b1v, 6), (b1v, 7), (b1v, 8), (b1v, 9), (b1v, 10), (b1v, 11), (b1v, 12), (b1v, 13), (b1v, 14), (b1v, 15), (b1v, 16), (b1v, 17), (b1v, 18)] : List ((Nat × Nat))).length : Int) := ⟨by decide, (show (7 : Int) < ((17 : Nat) : Int) by decide)⟩
 refine simL_posV 0 rfl hl14v rfl (i := (7 : Int).toNat) (by omega) ((0, 0) : Nat × Nat) (fun b99v b99vo r102v ha100v hV103v hlr104v hcell105v => ?_)
 obtain rfl := hV103v
 refine vq (q_idx rfl rfl rfl ha100v Tryd.underlying120 Tryd.sizeOf115 hi98v.1 hi98v.2) rfl ?_
 refine vq (rq_cast (v' := .pointer (some ⟨b1v, 9, none⟩)) rfl (q_load rfl rfl Tryd.isAgg115 (hcell105v 0 rfl 0 _ rfl))) rfl ?_
 refine va rfl rfl (ny ?_)
 refine vm rfl rfl ?_
 refine vm rfl rfl ?_
 refine vn rfl rfl ?_
 refine vq (q_load rfl rfl Tryd.isAgg3 (.obj 1 rfl rfl)) rfl ?_
 refine simL_bind (fun s106v hs107v => ?_)
 refine simL_eff (re_call (vs := [.int .i64 x0_9]) (cap := []) (A := []) (rst := [Row 115 1 y4v.1 ([(b1v, 0), (b1v, 1), (b1v, 4), (b1v, 5), (b1v, 6), (b1v, 7), (b1v, 8), (b1v, 9), (b1v, 10), (b1v, 11), (b1v, 12), (b1v, 13), (b1v, 14), (b1v, 15), (b1v, 16), (b1v, 17), (b1v, 18)] : List ((Nat × Nat))).length y4v.2 rs13v.flatten, obj b1v 54 [.int .i64 x0_0, .int .i64 x0_1, .int .i64 x0_2, .int .i64 x0_3, .int .i64 x0_4, .int .i64 x0_5, .int .i64 x0_6, .int .i64 x0_7, .int .i64 x0_8, .int .i64 x0_9, .int .i64 x0_10, .int .i64 x0_11, .int .i64 x0_12, .int .i64 x0_13, .int .i64 x0_14, .int .i64 x0_15, .int .i64 x0_16, .int .i64 x0_17, .int .i64 x0_18], F]) rfl rfl rfl rfl rfl rfl Tryd.call51 (.sel 0 rfl (.sel 0 rfl (.sel 0 rfl (.nil _)))) (strconv_Itoa.calls _ _ x0_9 (hgl.lend 2 rfl)) hs107v) rfl rfl rfl ?_
 intro y108v
 refine simL_ask (fun hb109v => ?_)
 refine vq (q_cat rfl rfl rfl hb109v) rfl ?_
 refine simL_ask (fun hb110v => ?_)
 refine vq (q_cat rfl rfl rfl hb110v) rfl ?_
 refine va rfl rfl (simL_nil (nrm_block (nrm_then (sim_region ?_))))
 refine vq (q_add rfl rfl rfl) rfl ?_
 refine vm rfl rfl (simL_nil ?_)
 refine nrm_rnd (rnd_succ ?_)
 refine sr ?_
 refine vq (q_lss rfl rfl rfl) rfl (simL_nil (nrm_then (sim_seq ?_)))
 refine sim_true rfl ?_
 refine sim_skip ?_
 refine nrm_then (sim_seq ?_)
 refine sim_block ?_
 refine sr ?_
 have hi111v : (0 : Int) ≤ (8 : Int) ∧ (8 : Int) < (([(b1v, 0), (b1v, 1), (b1v, 4), (b1v, 5), (b1v, 6), (b1v, 7), (b1v, 8), (b1v, 9), (b1v, 10), (b1v, 11), (b1v, 12), (b1v, 13), (b1v, 14), (b1v, 15), (b1v, 16), (b1v, 17), (b1v, 18)] : List ((Nat × Nat))).length : Int) := ⟨by decide, (show (8 : Int) < ((17 : Nat) : Int) by decide)⟩
 refine simL_posV 0 rfl hl14v rfl (i := (8 : Int).toNat) (by omega) ((0, 0) : Nat × Nat) (fun b112v b112vo r115v ha113v hV116v hlr117v hcell118v => ?_)
 obtain rfl := hV116v
 refine vq (q_idx rfl rfl rfl ha113v Tryd.underlying120 Tryd.sizeOf115 hi111v.1 hi111v.2) rfl ?_
 refine vq (rq_cast (v' := .pointer (some ⟨b1v, 10, none⟩)) rfl (q_load rfl rfl Tryd.isAgg115 (hcell118v 0 rfl 0 _ rfl))) rfl ?_
 refine va rfl rfl (ny ?_)
 refine vm rfl rfl ?_
 refine vm rfl rfl ?_
 refine vn rfl rfl ?_
 refine vq (q_load rfl rfl Tryd.isAgg3 (.obj 1 rfl rfl)) rfl ?_
 refine simL_bind (fun s119v hs120v => ?_)
 refine simL_eff (re_call (vs := [.int .i64 x0_10]) (cap := []) (A := []) (rst := [Row 115 1 y4v.1 ([(b1v, 0), (b1v, 1), (b1v, 4), (b1v, 5), (b1v, 6), (b1v, 7), (b1v, 8), (b1v, 9), (b1v, 10), (b1v, 11), (b1v, 12), (b1v, 13), (b1v, 14), (b1v, 15), (b1v, 16), (b1v, 17), (b1v, 18)] : List ((Nat × Nat))).length y4v.2 rs13v.flatten, obj b1v 54 [.int .i64 x0_0, .int .i64 x0_1, .int .i64 x0_2, .int .i64 x0_3, .int .i64 x0_4, .int .i64 x0_5, .int .i64 x0_6, .int .i64 x0_7, .int .i64 x0_8, .int .i64 x0_9, .int .i64 x0_10, .int .i64 x0_11, .int .i64 x0_12, .int .i64 x0_13, .int .i64 x0_14, .int .i64 x0_15, .int .i64 x0_16, .int .i64 x0_17, .int .i64 x0_18], F]) rfl rfl rfl rfl rfl rfl Tryd.call51 (.sel 0 rfl (.sel 0 rfl (.sel 0 rfl (.nil _)))) (strconv_Itoa.calls _ _ x0_10 (hgl.lend 2 rfl)) hs120v) rfl rfl rfl ?_
 intro y121v
 refine simL_ask (fun hb122v => ?_)
 refine vq (q_cat rfl rfl rfl hb122v) rfl ?_
 refine simL_ask (fun hb123v => ?_)
 refine vq (q_cat rfl rfl rfl hb123v) rfl ?_
 refine va rfl rfl (simL_nil (nrm_block (nrm_then (sim_region ?_))))
 refine vq (q_add rfl rfl rfl) rfl ?_
 refine vm rfl rfl (simL_nil ?_)
 refine nrm_rnd (rnd_succ ?_)
 refine sr ?_
 refine vq (q_lss rfl rfl rfl) rfl (simL_nil (nrm_then (sim_seq ?_)))
 refine sim_true rfl ?_
 refine sim_skip ?_
 refine nrm_then (sim_seq ?_)
 refine sim_block ?_
 refine sr ?_
 have hi124v : (0 : Int) ≤ (9 : Int) ∧ (9 : Int) < (([(b1v, 0), (b1v, 1), (b1v, 4), (b1v, 5), (b1v, 6), (b1v, 7), (b1v, 8), (b1v, 9), (b1v, 10), (b1v, 11), (b1v, 12), (b1v, 13), (b1v, 14), (b1v, 15), (b1v, 16), (b1v, 17), (b1v, 18)] : List ((Nat × Nat))).length : Int) := ⟨by decide, (show (9 : Int) < ((17 : Nat) : Int) by decide)⟩
 refine simL_posV 0 rfl hl14v rfl (i := (9 : Int).toNat) (by omega) ((0, 0) : Nat × Nat) (fun b125v b125vo r128v ha126v hV129v hlr130v hcell131v => ?_)
 obtain rfl := hV129v
 refine vq (q_idx rfl rfl rfl ha126v Tryd.underlying120 Tryd.sizeOf115 hi124v.1 hi124v.2) rfl ?_
 refine vq (rq_cast (v' := .pointer (some ⟨b1v, 11, none⟩)) rfl (q_load rfl rfl Tryd.isAgg115 (hcell131v 0 rfl 0 _ rfl))) rfl ?_
 refine va rfl rfl (ny ?_)
 refine vm rfl rfl ?_
 refine vm rfl rfl ?_
 refine vn rfl rfl ?_
 refine vq (q_load rfl rfl Tryd.isAgg3 (.obj 1 rfl rfl)) rfl ?_
 refine simL_bind (fun s132v hs133v => ?_)
 refine simL_eff (re_call (vs := [.int .i64 x0_11]) (cap := []) (A := []) (rst := [Row 115 1 y4v.1 ([(b1v, 0), (b1v, 1), (b1v, 4), (b1v, 5), (b1v, 6), (b1v, 7), (b1v, 8), (b1v, 9), (b1v, 10), (b1v, 11), (b1v, 12), (b1v, 13), (b1v, 14), (b1v, 15), (b1v, 16), (b1v, 17), (b1v, 18)] : List ((Nat × Nat))).length y4v.2 rs13v.flatten, obj b1v 54 [.int .i64 x0_0, .int .i64 x0_1, .int .i64 x0_2, .int .i64 x0_3, .int .i64 x0_4, .int .i64 x0_5, .int .i64 x0_6, .int .i64 x0_7, .int .i64 x0_8, .int .i64 x0_9, .int .i64 x0_10, .int .i64 x0_11, .int .i64 x0_12, .int .i64 x0_13, .int .i64 x0_14, .int .i64 x0_15, .int .i64 x0_16, .int .i64 x0_17, .int .i64 x0_18], F]) rfl rfl rfl rfl rfl rfl Tryd.call51 (.sel 0 rfl (.sel 0 rfl (.sel 0 rfl (.nil _)))) (strconv_Itoa.calls _ _ x0_11 (hgl.lend 2 rfl)) hs133v) rfl rfl rfl ?_
 intro y134v
 refine simL_ask (fun hb135v => ?_)
 refine vq (q_cat rfl rfl rfl hb135v) rfl ?_
 refine simL_ask (fun hb136v => ?_)
 refine vq (q_cat rfl rfl rfl hb136v) rfl ?_
 refine va rfl rfl (simL_nil (nrm_block (nrm_then (sim_region ?_))))
 refine vq (q_add rfl rfl rfl) rfl ?_
 refine vm rfl rfl (simL_nil ?_)
 refine nrm_rnd (rnd_succ ?_)
 refine sr ?_
 refine vq (q_lss rfl rfl rfl) rfl (simL_nil (nrm_then (sim_seq ?_)))
 refine sim_true rfl ?_
 refine sim_skip ?_
 refine nrm_then (sim_seq ?_)
 refine sim_block ?_
 refine sr ?_
 have hi137v : (0 : Int) ≤ (10 : Int) ∧ (10 : Int) < (([(b1v, 0), (b1v, 1), (b1v, 4), (b1v, 5), (b1v, 6), (b1v, 7), (b1v, 8), (b1v, 9), (b1v, 10), (b1v, 11), (b1v, 12), (b1v, 13), (b1v, 14), (b1v, 15), (b1v, 16), (b1v, 17), (b1v, 18)] : List ((Nat × Nat))).length : Int) := ⟨by decide, (show (10 : Int) < ((17 : Nat) : Int) by decide)⟩
 refine simL_posV 0 rfl hl14v rfl (i := (10 : Int).toNat) (by omega) ((0, 0) : Nat × Nat) (fun b138v b138vo r141v ha139v hV142v hlr143v hcell144v => ?_)
 obtain rfl := hV142v
 refine vq (q_idx rfl rfl rfl ha139v Tryd.underlying120 Tryd.sizeOf115 hi137v.1 hi137v.2) rfl ?_
 refine vq (rq_cast (v' := .pointer (some ⟨b1v, 12, none⟩)) rfl (q_load rfl rfl Tryd.isAgg115 (hcell144v 0 rfl 0 _ rfl))) rfl ?_
 refine va rfl rfl (ny ?_)
 refine vm rfl rfl ?_
 refine vm rfl rfl ?_
 refine vn rfl rfl ?_
 refine vq (q_load rfl rfl Tryd.isAgg3 (.obj 1 rfl rfl)) rfl ?_
 refine simL_bind (fun s145v hs146v => ?_)
 refine simL_eff (re_call (vs := [.int .i64 x0_12]) (cap := []) (A := []) (rst := [Row 115 1 y4v.1 ([(b1v, 0), (b1v, 1), (b1v, 4), (b1v, 5), (b1v, 6), (b1v, 7), (b1v, 8), (b1v, 9), (b1v, 10), (b1v, 11), (b1v, 12), (b1v, 13), (b1v, 14), (b1v, 15), (b1v, 16), (b1v, 17), (b1v, 18)] : List ((Nat × Nat))).length y4v.2 rs13v.flatten, obj b1v 54 [.int .i64 x0_0, .int .i64 x0_1, .int .i64 x0_2, .int .i64 x0_3, .int .i64 x0_4, .int .i64 x0_5, .int .i64 x0_6, .int .i64 x0_7, .int .i64 x0_8, .int .i64 x0_9, .int .i64 x0_10, .int .i64 x0_11, .int .i64 x0_12, .int .i64 x0_13, .int .i64 x0_14, .int .i64 x0_15, .int .i64 x0_16, .int .i64 x0_17, .int .i64 x0_18], F]) rfl rfl rfl rfl rfl rfl Tryd.call51 (.sel 0 rfl (.sel 0 rfl (.sel 0 rfl (.nil _)))) (strconv_Itoa.calls _ _ x0_12 (hgl.lend 2 rfl)) hs146v) rfl rfl rfl ?_
 intro y147v
 refine simL_ask (fun hb148v => ?_)
 refine vq (q_cat rfl rfl rfl hb148v) rfl ?_
 refine simL_ask (fun hb149v => ?_)
 refine vq (q_cat rfl rfl rfl hb149v) rfl ?_
 refine va rfl rfl (simL_nil (nrm_block (nrm_then (sim_region ?_))))
 refine vq (q_add rfl rfl rfl) rfl ?_
 refine vm rfl rfl (simL_nil ?_)
 refine nrm_rnd (rnd_succ ?_)
 refine sr ?_
 refine vq (q_lss rfl rfl rfl) rfl (simL_nil (nrm_then (sim_seq ?_)))
 refine sim_true rfl ?_
 refine sim_skip ?_
 refine nrm_then (sim_seq ?_)
 refine sim_block ?_
 refine sr ?_
 have hi150v : (0 : Int) ≤ (11 : Int) ∧ (11 : Int) < (([(b1v, 0), (b1v, 1), (b1v, 4), (b1v, 5), (b1v, 6), (b1v, 7), (b1v, 8), (b1v, 9), (b1v, 10), (b1v, 11), (b1v, 12), (b1v, 13), (b1v, 14), (b1v, 15), (b1v, 16), (b1v, 17), (b1v, 18)] : List ((Nat × Nat))).length : Int) := ⟨by decide, (show (11 : Int) < ((17 : Nat) : Int) by decide)⟩
 refine simL_posV 0 rfl hl14v rfl (i := (11 : Int).toNat) (by omega) ((0, 0) : Nat × Nat) (fun b151v b151vo r154v ha152v hV155v hlr156v hcell157v => ?_)
 obtain rfl := hV155v
 refine vq (q_idx rfl rfl rfl ha152v Tryd.underlying120 Tryd.sizeOf115 hi150v.1 hi150v.2) rfl ?_
 refine vq (rq_cast (v' := .pointer (some ⟨b1v, 13, none⟩)) rfl (q_load rfl rfl Tryd.isAgg115 (hcell157v 0 rfl 0 _ rfl))) rfl ?_
 refine va rfl rfl (ny ?_)
 refine vm rfl rfl ?_
 refine vm rfl rfl ?_
 refine vn rfl rfl ?_
 refine vq (q_load rfl rfl Tryd.isAgg3 (.obj 1 rfl rfl)) rfl ?_
 refine simL_bind (fun s158v hs159v => ?_)
 refine simL_eff (re_call (vs := [.int .i64 x0_13]) (cap := []) (A := []) (rst := [Row 115 1 y4v.1 ([(b1v, 0), (b1v, 1), (b1v, 4), (b1v, 5), (b1v, 6), (b1v, 7), (b1v, 8), (b1v, 9), (b1v, 10), (b1v, 11), (b1v, 12), (b1v, 13), (b1v, 14), (b1v, 15), (b1v, 16), (b1v, 17), (b1v, 18)] : List ((Nat × Nat))).length y4v.2 rs13v.flatten, obj b1v 54 [.int .i64 x0_0, .int .i64 x0_1, .int .i64 x0_2, .int .i64 x0_3, .int .i64 x0_4, .int .i64 x0_5, .int .i64 x0_6, .int .i64 x0_7, .int .i64 x0_8, .int .i64 x0_9, .int .i64 x0_10, .int .i64 x0_11, .int .i64 x0_12, .int .i64 x0_13, .int .i64 x0_14, .int .i64 x0_15, .int .i64 x0_16, .int .i64 x0_17, .int .i64 x0_18], F]) rfl rfl rfl rfl rfl rfl Tryd.call51 (.sel 0 rfl (.sel 0 rfl (.sel 0 rfl (.nil _)))) (strconv_Itoa.calls _ _ x0_13 (hgl.lend 2 rfl)) hs159v) rfl rfl rfl ?_
 intro y160v
 refine simL_ask (fun hb161v => ?_)
 refine vq (q_cat rfl rfl rfl hb161v) rfl ?_
 refine simL_ask (fun hb162v => ?_)
 refine vq (q_cat rfl rfl rfl hb162v) rfl ?_
 refine va rfl rfl (simL_nil (nrm_block (nrm_then (sim_region ?_))))
 refine vq (q_add rfl rfl rfl) rfl ?_
 refine vm rfl rfl (simL_nil ?_)
 refine nrm_rnd (rnd_succ ?_)
 refine sr ?_
 refine vq (q_lss rfl rfl rfl) rfl (simL_nil (nrm_then (sim_seq ?_)))
 refine sim_true rfl ?_
 refine sim_skip ?_
 refine nrm_then (sim_seq ?_)
 refine sim_block ?_
 refine sr ?_
 have hi163v : (0 : Int) ≤ (12 : Int) ∧ (12 : Int) < (([(b1v, 0), (b1v, 1), (b1v, 4), (b1v, 5), (b1v, 6), (b1v, 7), (b1v, 8), (b1v, 9), (b1v, 10), (b1v, 11), (b1v, 12), (b1v, 13), (b1v, 14), (b1v, 15), (b1v, 16), (b1v, 17), (b1v, 18)] : List ((Nat × Nat))).length : Int) := ⟨by decide, (show (12 : Int) < ((17 : Nat) : Int) by decide)⟩
 refine simL_posV 0 rfl hl14v rfl (i := (12 : Int).toNat) (by omega) ((0, 0) : Nat × Nat) (fun b164v b164vo r167v ha165v hV168v hlr169v hcell170v => ?_)
 obtain rfl := hV168v
 refine vq (q_idx rfl rfl rfl ha165v Tryd.underlying120 Tryd.sizeOf115 hi163v.1 hi163v.2) rfl ?_
 refine vq (rq_cast (v' := .pointer (some ⟨b1v, 14, none⟩)) rfl (q_load rfl rfl Tryd.isAgg115 (hcell170v 0 rfl 0 _ rfl))) rfl ?_
 refine va rfl rfl (ny ?_)
 refine vm rfl rfl ?_
 refine vm rfl rfl ?_
 refine vn rfl rfl ?_
 refine vq (q_load rfl rfl Tryd.isAgg3 (.obj 1 rfl rfl)) rfl ?_
 refine simL_bind (fun s171v hs172v => ?_)
 refine simL_eff (re_call (vs := [.int .i64 x0_14]) (cap := []) (A := []) (rst := [Row 115 1 y4v.1 ([(b1v, 0), (b1v, 1), (b1v, 4), (b1v, 5), (b1v, 6), (b1v, 7), (b1v, 8), (b1v, 9), (b1v, 10), (b1v, 11), (b1v, 12), (b1v, 13), (b1v, 14), (b1v, 15), (b1v, 16), (b1v, 17), (b1v, 18)] : List ((Nat × Nat))).length y4v.2 rs13v.flatten, obj b1v 54 [.int .i64 x0_0, .int .i64 x0_1, .int .i64 x0_2, .int .i64 x0_3, .int .i64 x0_4, .int .i64 x0_5, .int .i64 x0_6, .int .i64 x0_7, .int .i64 x0_8, .int .i64 x0_9, .int .i64 x0_10, .int .i64 x0_11, .int .i64 x0_12, .int .i64 x0_13, .int .i64 x0_14, .int .i64 x0_15, .int .i64 x0_16, .int .i64 x0_17, .int .i64 x0_18], F]) rfl rfl rfl rfl rfl rfl Tryd.call51 (.sel 0 rfl (.sel 0 rfl (.sel 0 rfl (.nil _)))) (strconv_Itoa.calls _ _ x0_14 (hgl.lend 2 rfl)) hs172v) rfl rfl rfl ?_
 intro y173v
 refine simL_ask (fun hb174v => ?_)
 refine vq (q_cat rfl rfl rfl hb174v) rfl ?_
 refine simL_ask (fun hb175v => ?_)
 refine vq (q_cat rfl rfl rfl hb175v) rfl ?_
 refine va rfl rfl (simL_nil (nrm_block (nrm_then (sim_region ?_))))
 refine vq (q_add rfl rfl rfl) rfl ?_
 refine vm rfl rfl (simL_nil ?_)
 refine nrm_rnd (rnd_succ ?_)
 refine sr ?_
 refine vq (q_lss rfl rfl rfl) rfl (simL_nil (nrm_then (sim_seq ?_)))
 refine sim_true rfl ?_
 refine sim_skip ?_
 refine nrm_then (sim_seq ?_)
 refine sim_block ?_
 refine sr ?_
 have hi176v : (0 : Int) ≤ (13 : Int) ∧ (13 : Int) < (([(b1v, 0), (b1v, 1), (b1v, 4), (b1v, 5), (b1v, 6), (b1v, 7), (b1v, 8), (b1v, 9), (b1v, 10), (b1v, 11), (b1v, 12), (b1v, 13), (b1v, 14), (b1v, 15), (b1v, 16), (b1v, 17), (b1v, 18)] : List ((Nat × Nat))).length : Int) := ⟨by decide, (show (13 : Int) < ((17 : Nat) : Int) by decide)⟩
 refine simL_posV 0 rfl hl14v rfl (i := (13 : Int).toNat) (by omega) ((0, 0) : Nat × Nat) (fun b177v b177vo r180v ha178v hV181v hlr182v hcell183v => ?_)
 obtain rfl := hV181v
 refine vq (q_idx rfl rfl rfl ha178v Tryd.underlying120 Tryd.sizeOf115 hi176v.1 hi176v.2) rfl ?_
 refine vq (rq_cast (v' := .pointer (some ⟨b1v, 15, none⟩)) rfl (q_load rfl rfl Tryd.isAgg115 (hcell183v 0 rfl 0 _ rfl))) rfl ?_
 refine va rfl rfl (ny ?_)
 refine vm rfl rfl ?_
 refine vm rfl rfl ?_
 refine vn rfl rfl ?_
 refine vq (q_load rfl rfl Tryd.isAgg3 (.obj 1 rfl rfl)) rfl ?_
 refine simL_bind (fun s184v hs185v => ?_)
 refine simL_eff (re_call (vs := [.int .i64 x0_15]) (cap := []) (A := []) (rst := [Row 115 1 y4v.1 ([(b1v, 0), (b1v, 1), (b1v, 4), (b1v, 5), (b1v, 6), (b1v, 7), (b1v, 8), (b1v, 9), (b1v, 10), (b1v, 11), (b1v, 12), (b1v, 13), (b1v, 14), (b1v, 15), (b1v, 16), (b1v, 17), (b1v, 18)] : List ((Nat × Nat))).length y4v.2 rs13v.flatten, obj b1v 54 [.int .i64 x0_0, .int .i64 x0_1, .int .i64 x0_2, .int .i64 x0_3, .int .i64 x0_4, .int .i64 x0_5, .int .i64 x0_6, .int .i64 x0_7, .int .i64 x0_8, .int .i64 x0_9, .int .i64 x0_10, .int .i64 x0_11, .int .i64 x0_12, .int .i64 x0_13, .int .i64 x0_14, .int .i64 x0_15, .int .i64 x0_16, .int .i64 x0_17, .int .i64 x0_18], F]) rfl rfl rfl rfl rfl rfl Tryd.call51 (.sel 0 rfl (.sel 0 rfl (.sel 0 rfl (.nil _)))) (strconv_Itoa.calls _ _ x0_15 (hgl.lend 2 rfl)) hs185v) rfl rfl rfl ?_
 intro y186v
 refine simL_ask (fun hb187v => ?_)
 refine vq (q_cat rfl rfl rfl hb187v) rfl ?_
 refine simL_ask (fun hb188v => ?_)
 refine vq (q_cat rfl rfl rfl hb188v) rfl ?_
 refine va rfl rfl (simL_nil (nrm_block (nrm_then (sim_region ?_))))
 refine vq (q_add rfl rfl rfl) rfl ?_
 refine vm rfl rfl (simL_nil ?_)
 refine nrm_rnd (rnd_succ ?_)
 refine sr ?_
 refine vq (q_lss rfl rfl rfl) rfl (simL_nil (nrm_then (sim_seq ?_)))
 refine sim_true rfl ?_
 refine sim_skip ?_
 refine nrm_then (sim_seq ?_)
 refine sim_block ?_
 refine sr ?_
 have hi189v : (0 : Int) ≤ (14 : Int) ∧ (14 : Int) < (([(b1v, 0), (b1v, 1), (b1v, 4), (b1v, 5), (b1v, 6), (b1v, 7), (b1v, 8), (b1v, 9), (b1v, 10), (b1v, 11), (b1v, 12), (b1v, 13), (b1v, 14), (b1v, 15), (b1v, 16), (b1v, 17), (b1v, 18)] : List ((Nat × Nat))).length : Int) := ⟨by decide, (show (14 : Int) < ((17 : Nat) : Int) by decide)⟩
 refine simL_posV 0 rfl hl14v rfl (i := (14 : Int).toNat) (by omega) ((0, 0) : Nat × Nat) (fun b190v b190vo r193v ha191v hV194v hlr195v hcell196v => ?_)
 obtain rfl := hV194v
 refine vq (q_idx rfl rfl rfl ha191v Tryd.underlying120 Tryd.sizeOf115 hi189v.1 hi189v.2) rfl ?_
 refine vq (rq_cast (v' := .pointer (some ⟨b1v, 16, none⟩)) rfl (q_load rfl rfl Tryd.isAgg115 (hcell196v 0 rfl 0 _ rfl))) rfl ?_
 refine va rfl rfl (ny ?_)
 refine vm rfl rfl ?_
 refine vm rfl rfl ?_
 refine vn rfl rfl ?_
 refine vq (q_load rfl rfl Tryd.isAgg3 (.obj 1 rfl rfl)) rfl ?_
 refine simL_bind (fun s197v hs198v => ?_)
 refine simL_eff (re_call (vs := [.int .i64 x0_16]) (cap := []) (A := []) (rst := [Row 115 1 y4v.1 ([(b1v, 0), (b1v, 1), (b1v, 4), (b1v, 5), (b1v, 6), (b1v, 7), (b1v, 8), (b1v, 9), (b1v, 10), (b1v, 11), (b1v, 12), (b1v, 13), (b1v, 14), (b1v, 15), (b1v, 16), (b1v, 17), (b1v, 18)] : List ((Nat × Nat))).length y4v.2 rs13v.flatten, obj b1v 54 [.int .i64 x0_0, .int .i64 x0_1, .int .i64 x0_2, .int .i64 x0_3, .int .i64 x0_4, .int .i64 x0_5, .int .i64 x0_6, .int .i64 x0_7, .int .i64 x0_8, .int .i64 x0_9, .int .i64 x0_10, .int .i64 x0_11, .int .i64 x0_12, .int .i64 x0_13, .int .i64 x0_14, .int .i64 x0_15, .int .i64 x0_16, .int .i64 x0_17, .int .i64 x0_18], F]) rfl rfl rfl rfl rfl rfl Tryd.call51 (.sel 0 rfl (.sel 0 rfl (.sel 0 rfl (.nil _)))) (strconv_Itoa.calls _ _ x0_16 (hgl.lend 2 rfl)) hs198v) rfl rfl rfl ?_
 intro y199v
 refine simL_ask (fun hb200v => ?_)
 refine vq (q_cat rfl rfl rfl hb200v) rfl ?_
 refine simL_ask (fun hb201v => ?_)
 refine vq (q_cat rfl rfl rfl hb201v) rfl ?_
 refine va rfl rfl (simL_nil (nrm_block (nrm_then (sim_region ?_))))
 refine vq (q_add rfl rfl rfl) rfl ?_
 refine vm rfl rfl (simL_nil ?_)
 refine nrm_rnd (rnd_succ ?_)
 refine sr ?_
 refine vq (q_lss rfl rfl rfl) rfl (simL_nil (nrm_then (sim_seq ?_)))
 refine sim_true rfl ?_
 refine sim_skip ?_
 refine nrm_then (sim_seq ?_)
 refine sim_block ?_
 refine sr ?_
 have hi202v : (0 : Int) ≤ (15 : Int) ∧ (15 : Int) < (([(b1v, 0), (b1v, 1), (b1v, 4), (b1v, 5), (b1v, 6), (b1v, 7), (b1v, 8), (b1v, 9), (b1v, 10), (b1v, 11), (b1v, 12), (b1v, 13), (b1v, 14), (b1v, 15), (b1v, 16), (b1v, 17), (b1v, 18)] : List ((Nat × Nat))).length : Int) := ⟨by decide, (show (15 : Int) < ((17 : Nat) : Int) by decide)⟩
 refine simL_posV 0 rfl hl14v rfl (i := (15 : Int).toNat) (by omega) ((0, 0) : Nat × Nat) (fun b203v b203vo r206v ha204v hV207v hlr208v hcell209v => ?_)
 obtain rfl := hV207v
 refine vq (q_idx rfl rfl rfl ha204v Tryd.underlying120 Tryd.sizeOf115 hi202v.1 hi202v.2) rfl ?_
 refine vq (rq_cast (v' := .pointer (some ⟨b1v, 17, none⟩)) rfl (q_load rfl rfl Tryd.isAgg115 (hcell209v 0 rfl 0 _ rfl))) rfl ?_
 refine va rfl rfl (ny ?_)
 refine vm rfl rfl ?_
 refine vm rfl rfl ?_
 refine vn rfl rfl ?_
 refine vq (q_load rfl rfl Tryd.isAgg3 (.obj 1 rfl rfl)) rfl ?_
 refine simL_bind (fun s210v hs211v => ?_)
 refine simL_eff (re_call (vs := [.int .i64 x0_17]) (cap := []) (A := []) (rst := [Row 115 1 y4v.1 ([(b1v, 0), (b1v, 1), (b1v, 4), (b1v, 5), (b1v, 6), (b1v, 7), (b1v, 8), (b1v, 9), (b1v, 10), (b1v, 11), (b1v, 12), (b1v, 13), (b1v, 14), (b1v, 15), (b1v, 16), (b1v, 17), (b1v, 18)] : List ((Nat × Nat))).length y4v.2 rs13v.flatten, obj b1v 54 [.int .i64 x0_0, .int .i64 x0_1, .int .i64 x0_2, .int .i64 x0_3, .int .i64 x0_4, .int .i64 x0_5, .int .i64 x0_6, .int .i64 x0_7, .int .i64 x0_8, .int .i64 x0_9, .int .i64 x0_10, .int .i64 x0_11, .int .i64 x0_12, .int .i64 x0_13, .int .i64 x0_14, .int .i64 x0_15, .int .i64 x0_16, .int .i64 x0_17, .int .i64 x0_18], F]) rfl rfl rfl rfl rfl rfl Tryd.call51 (.sel 0 rfl (.sel 0 rfl (.sel 0 rfl (.nil _)))) (strconv_Itoa.calls _ _ x0_17 (hgl.lend 2 rfl)) hs211v) rfl rfl rfl ?_
 intro y212v
 refine simL_ask (fun hb213v => ?_)
 refine vq (q_cat rfl rfl rfl hb213v) rfl ?_
 refine simL_ask (fun hb214v => ?_)
 refine vq (q_cat rfl rfl rfl hb214v) rfl ?_
 refine va rfl rfl (simL_nil (nrm_block (nrm_then (sim_region ?_))))
 refine vq (q_add rfl rfl rfl) rfl ?_
 refine vm rfl rfl (simL_nil ?_)
 refine nrm_rnd (rnd_succ ?_)
 refine sr ?_
 refine vq (q_lss rfl rfl rfl) rfl (simL_nil (nrm_then (sim_seq ?_)))
 refine sim_true rfl ?_
 refine sim_skip ?_
 refine nrm_then (sim_seq ?_)
 refine sim_block ?_
 refine sr ?_
 have hi215v : (0 : Int) ≤ (16 : Int) ∧ (16 : Int) < (([(b1v, 0), (b1v, 1), (b1v, 4), (b1v, 5), (b1v, 6), (b1v, 7), (b1v, 8), (b1v, 9), (b1v, 10), (b1v, 11), (b1v, 12), (b1v, 13), (b1v, 14), (b1v, 15), (b1v, 16), (b1v, 17), (b1v, 18)] : List ((Nat × Nat))).length : Int) := ⟨by decide, (show (16 : Int) < ((17 : Nat) : Int) by decide)⟩
 refine simL_posV 0 rfl hl14v rfl (i := (16 : Int).toNat) (by omega) ((0, 0) : Nat × Nat) (fun b216v b216vo r219v ha217v hV220v hlr221v hcell222v => ?_)
 obtain rfl := hV220v
 refine vq (q_idx rfl rfl rfl ha217v Tryd.underlying120 Tryd.sizeOf115 hi215v.1 hi215v.2) rfl ?_
 refine vq (rq_cast (v' := .pointer (some ⟨b1v, 18, none⟩)) rfl (q_load rfl rfl Tryd.isAgg115 (hcell222v 0 rfl 0 _ rfl))) rfl ?_
 refine va rfl rfl (ny ?_)
 refine vm rfl rfl ?_
 refine vm rfl rfl ?_
 refine vn rfl rfl ?_
 refine vq (q_load rfl rfl Tryd.isAgg3 (.obj 1 rfl rfl)) rfl ?_
 refine simL_bind (fun s223v hs224v => ?_)
 refine simL_eff (re_call (vs := [.int .i64 x0_18]) (cap := []) (A := []) (rst := [Row 115 1 y4v.1 ([(b1v, 0), (b1v, 1), (b1v, 4), (b1v, 5), (b1v, 6), (b1v, 7), (b1v, 8), (b1v, 9), (b1v, 10), (b1v, 11), (b1v, 12), (b1v, 13), (b1v, 14), (b1v, 15), (b1v, 16), (b1v, 17), (b1v, 18)] : List ((Nat × Nat))).length y4v.2 rs13v.flatten, obj b1v 54 [.int .i64 x0_0, .int .i64 x0_1, .int .i64 x0_2, .int .i64 x0_3, .int .i64 x0_4, .int .i64 x0_5, .int .i64 x0_6, .int .i64 x0_7, .int .i64 x0_8, .int .i64 x0_9, .int .i64 x0_10, .int .i64 x0_11, .int .i64 x0_12, .int .i64 x0_13, .int .i64 x0_14, .int .i64 x0_15, .int .i64 x0_16, .int .i64 x0_17, .int .i64 x0_18], F]) rfl rfl rfl rfl rfl rfl Tryd.call51 (.sel 0 rfl (.sel 0 rfl (.sel 0 rfl (.nil _)))) (strconv_Itoa.calls _ _ x0_18 (hgl.lend 2 rfl)) hs224v) rfl rfl rfl ?_
 intro y225v
 refine simL_ask (fun hb226v => ?_)
 refine vq (q_cat rfl rfl rfl hb226v) rfl ?_
 refine simL_ask (fun hb227v => ?_)
 refine vq (q_cat rfl rfl rfl hb227v) rfl ?_
 refine va rfl rfl (simL_nil (nrm_block (nrm_then (sim_region ?_))))
 refine vq (q_add rfl rfl rfl) rfl ?_
 refine vm rfl rfl (simL_nil ?_)
 refine nrm_rnd (rnd_succ ?_)
 refine sr ?_
 refine vq (q_lss rfl rfl rfl) rfl (simL_nil (nrm_then (sim_seq ?_)))
 refine sim_false rfl ?_
 refine sim_exi ?_
 refine exi_then ?_
 refine exi_rnd ?_
 refine exi_here ?_
 refine nrm_then (sr ?_)
 refine vm rfl rfl ?_
 refine simL_ask (fun hb228v => ?_)
 refine vq (q_cat rfl rfl rfl hb228v) rfl ?_
 refine va rfl rfl (simL_nil (nrm_then (sim_rtn ?_)))
 exact rtn_fn () rfl rfl rfl (.sel 2 rfl (.nil _))

def synodref17_numbers.f (x0_0 : Int) (x0_1 : Int) (x0_2 : Int) (x0_3 : Int) (x0_4 : Int) (x0_5 : Int) (x0_6 : Int) (x0_7 : Int) (x0_8 : Int) (x0_9 : Int) (x0_10 : Int) (x0_11 : Int) (x0_12 : Int) (x0_13 : Int) (x0_14 : Int) (x0_15 : Int) (x0_16 : Int) (x0_17 : Int) (x0_18 : Int) : Option (List Int) := some ([x0_0, x0_1, x0_4, x0_5, x0_6, x0_7, x0_8, x0_9, x0_10, x0_11, x0_12, x0_13, x0_14, x0_15, x0_16, x0_17, x0_18, (0 : Int)] : List Int)
theorem synodref17_numbers.calls (W : World) (F : HA) (x0_0 : Int) (x0_1 : Int) (x0_2 : Int) (x0_3 : Int) (x0_4 : Int) (x0_5 : Int) (x0_6 : Int) (x0_7 : Int) (x0_8 : Int) (x0_9 : Int) (x0_10 : Int) (x0_11 : Int) (x0_12 : Int) (x0_13 : Int) (x0_14 : Int) (x0_15 : Int) (x0_16 : Int) (x0_17 : Int) (x0_18 : Int)  :
    Fn Tryd.prog W 58 [.agg #[.int .i64 x0_0, .int .i64 x0_1, .int .i64 x0_2, .int .i64 x0_3, .int .i64 x0_4, .int .i64 x0_5, .int .i64 x0_6, .int .i64 x0_7, .int .i64 x0_8, .int .i64 x0_9, .int .i64 x0_10, .int .i64 x0_11, .int .i64 x0_12, .int .i64 x0_13, .int .i64 x0_14, .int .i64 x0_15, .int .i64 x0_16, .int .i64 x0_17, .int .i64 x0_18]] [] F (synodref17_numbers.f x0_0 x0_1 x0_2 x0_3 x0_4 x0_5 x0_6 x0_7 x0_8 x0_9 x0_10 x0_11 x0_12 x0_13 x0_14 x0_15 x0_16 x0_17 x0_18) (fun (r : List Int) (y : Option Addr × Nat) => .slice y.1 r.length y.2) (fun r y => [RowV 3 1 (V3 tt) y.1 r y.2]) := by
 unfold synodref17_numbers.f
 refine fn_intro 45 Tryd.func58 rfl Tryd.ntmps58 rfl ?_
 refine sr ?_
 refine simL_eff (re_box rfl rfl rfl) rfl rfl rfl ?_
 intro b1v
 refine va rfl rfl (nx ?_)
 refine vq (q_fa rfl rfl Tryd.underlying61 rfl rfl Tryd.sizeOf59 rfl) rfl ?_
 refine vq (q_fa rfl rfl Tryd.underlying59 rfl rfl Tryd.sizeOf57 rfl) rfl ?_
 refine vq (q_loads (vs := [.int .i64 x0_2, .int .i64 x0_3, .int .i64 x0_4, .int .i64 x0_5, .int .i64 x0_6, .int .i64 x0_7, .int .i64 x0_8, .int .i64 x0_9]) rfl rfl Tryd.isAgg57 Tryd.sizeOf57 rfl (cells_obj 0 rfl (cells_lit rfl))) rfl ?_
 refine simL_eff (re_alloc rfl Tryd.zeroValue57 rfl) rfl rfl rfl ?_
 intro b2v
 refine simL_do (re_store 0 rfl rfl rfl Tryd.sizeOf57 rfl rfl (one_of (by rfl)) rfl rfl) rfl rfl ?_
 intro _
 refine simL_ent (H' := [obj b2v 57 [.int .i64 x0_2, .int .i64 x0_3, .int .i64 x0_4, .int .i64 x0_5, .int .i64 x0_6, .int .i64 x0_7, .int .i64 x0_8, .int .i64 x0_9], obj b1v 61 [.int .i64 x0_0, .int .i64 x0_1, .int .i64 x0_2, .int .i64 x0_3, .int .i64 x0_4, .int .i64 x0_5, .int .i64 x0_6, .int .i64 x0_7, .int .i64 x0_8, .int .i64 x0_9, .int .i64 x0_10, .int .i64 x0_11, .int .i64 x0_12, .int .i64 x0_13, .int .i64 x0_14, .int .i64 x0_15, .int .i64 x0_16, .int .i64 x0_17, .int .i64 x0_18], F]) (Ent.refl _) ?_
 refine nx ?_
 refine vq (q_fa rfl rfl Tryd.underlying61 rfl rfl Tryd.sizeOf59 rfl) rfl ?_
 refine vq (q_loads (vs := [.int .i64 x0_2, .int .i64 x0_3, .int .i64 x0_4, .int .i64 x0_5, .int .i64 x0_6, .int .i64 x0_7, .int .i64 x0_8, .int .i64 x0_9, .int .i64 x0_10, .int .i64 x0_11, .int .i64 x0_12, .int .i64 x0_13, .int .i64 x0_14, .int .i64 x0_15, .int .i64 x0_16, .int .i64 x0_17, .int .i64 x0_18]) rfl rfl Tryd.isAgg59 Tryd.sizeOf59 rfl (cells_obj 1 rfl (cells_lit rfl))) rfl ?_
 refine simL_eff (re_alloc rfl Tryd.zeroValue59 rfl) rfl rfl rfl ?_
 intro b3v
 refine simL_do (re_store 0 rfl rfl rfl Tryd.sizeOf59 rfl rfl (one_of (by rfl)) rfl rfl) rfl rfl ?_
 intro _
 refine simL_ent (H' := [obj b3v 59 [.int .i64 x0_2, .int .i64 x0_3, .int .i64 x0_4, .int .i64 x0_5, .int .i64 x0_6, .int .i64 x0_7, .int .i64 x0_8, .int .i64 x0_9, .int .i64 x0_10, .int .i64 x0_11, .int .i64 x0_12, .int .i64 x0_13, .int .i64 x0_14, .int .i64 x0_15, .int .i64 x0_16, .int .i64 x0_17, .int .i64 x0_18], obj b2v 57 [.int .i64 x0_2, .int .i64 x0_3, .int .i64 x0_4, .int .i64 x0_5, .int .i64 x0_6, .int .i64 x0_7, .int .i64 x0_8, .int .i64 x0_9], obj b1v 61 [.int .i64 x0_0, .int .i64 x0_1, .int .i64 x0_2, .int .i64 x0_3, .int .i64 x0_4, .int .i64 x0_5, .int .i64 x0_6, .int .i64 x0_7, .int .i64 x0_8, .int .i64 x0_9, .int .i64 x0_10, .int .i64 x0_11, .int .i64 x0_12, .int .i64 x0_13, .int .i64 x0_14, .int .i64 x0_15, .int .i64 x0_16, .int .i64 x0_17, .int .i64 x0_18], F]) (Ent.refl _) ?_
 refine nx ?_
 refine vq (q_fa rfl rfl Tryd.underlying61 rfl rfl Tryd.sizeOf3 rfl) rfl ?_
 refine vq (q_load rfl rfl Tryd.isAgg3 (.obj 2 rfl rfl)) rfl ?_
 refine vq (q_fa rfl rfl Tryd.underlying61 rfl rfl Tryd.sizeOf3 rfl) rfl ?_
 refine vq (q_load rfl rfl Tryd.isAgg3 (.obj 2 rfl rfl)) rfl ?_
 refine vq (q_fa rfl rfl Tryd.underlying57 rfl rfl Tryd.sizeOf3 rfl) rfl ?_
 refine vq (q_load rfl rfl Tryd.isAgg3 (.obj 1 rfl rfl)) rfl ?_
 refine vq (q_fa rfl rfl Tryd.underlying57 rfl rfl Tryd.sizeOf3 rfl) rfl ?_
 refine vq (q_load rfl rfl Tryd.isAgg3 (.obj 1 rfl rfl)) rfl ?_
 refine vq (q_fa rfl rfl Tryd.underlying57 rfl rfl Tryd.sizeOf3 rfl) rfl ?_
 refine vq (q_load rfl rfl Tryd.isAgg3 (.obj 1 rfl rfl)) rfl ?_
 refine vq (q_fa rfl rfl Tryd.underlying57 rfl rfl Tryd.sizeOf3 rfl) rfl ?_
 refine vq (q_load rfl rfl Tryd.isAgg3 (.obj 1 rfl rfl)) rfl ?_
 refine vq (q_fa rfl rfl Tryd.underlying57 rfl rfl Tryd.sizeOf3 rfl) rfl ?_
 refine vq (q_load rfl rfl Tryd.isAgg3 (.obj 1 rfl rfl)) rfl ?_
 refine vq (q_fa rfl rfl Tryd.underlying57 rfl rfl Tryd.sizeOf3 rfl) rfl ?_
 refine vq (q_load rfl rfl Tryd.isAgg3 (.obj 1 rfl rfl)) rfl ?_
 refine vq (q_fa rfl rfl Tryd.underlying59 rfl rfl Tryd.sizeOf3 rfl) rfl ?_
 refine vq (q_load rfl rfl Tryd.isAgg3 (.obj 0 rfl rfl)) rfl ?_
 refine vq (q_fa rfl rfl Tryd.underlying59 rfl rfl Tryd.sizeOf3 rfl) rfl ?_
 refine vq (q_load rfl rfl Tryd.isAgg3 (.obj 0 rfl rfl)) rfl ?_
 refine vq (q_fa rfl rfl Tryd.underlying59 rfl rfl Tryd.sizeOf3 rfl) rfl ?_
 refine vq (q_load rfl rfl Tryd.isAgg3 (.obj 0 rfl rfl)) rfl ?_
 refine vq (q_fa rfl rfl Tryd.underlying59 rfl rfl Tryd.sizeOf3 rfl) rfl ?_
 refine vq (q_load rfl rfl Tryd.isAgg3 (.obj 0 rfl rfl)) rfl ?_
 refine vq (q_fa rfl rfl Tryd.underlying59 rfl rfl Tryd.sizeOf3 rfl) rfl ?_
 refine vq (q_load rfl rfl Tryd.isAgg3 (.obj 0 rfl rfl)) rfl ?_
 refine vq (q_fa rfl rfl Tryd.underlying59 rfl rfl Tryd.sizeOf3 rfl) rfl ?_
 refine vq (q_load rfl rfl Tryd.isAgg3 (.obj 0 rfl rfl)) rfl ?_
 refine vq (q_fa rfl rfl Tryd.underlying59 rfl rfl Tryd.sizeOf3 rfl) rfl ?_
 refine vq (q_load rfl rfl Tryd.isAgg3 (.obj 0 rfl rfl)) rfl ?_
 refine vq (q_fa rfl rfl Tryd.underlying59 rfl rfl Tryd.sizeOf3 rfl) rfl ?_
 refine vq (q_load rfl rfl Tryd.isAgg3 (.obj 0 rfl rfl)) rfl ?_
 refine vq (q_fa rfl rfl Tryd.underlying59 rfl rfl Tryd.sizeOf3 rfl) rfl ?_
 refine vq (q_load rfl rfl Tryd.isAgg3 (.obj 0 rfl rfl)) rfl ?_
 have hlb5v : ListV 1 (V3 tt) ([x0_0, x0_1, x0_4, x0_5, x0_6, x0_7, x0_8, x0_9, x0_10, x0_11, x0_12, x0_13, x0_14, x0_15, x0_16, x0_17, x0_18, (0 : Int)] : List Int) [[.int .i64 x0_0], [.int .i64 x0_1], [.int .i64 x0_4], [.int .i64 x0_5], [.int .i64 x0_6], [.int .i64 x0_7], [.int .i64 x0_8], [.int .i64 x0_9], [.int .i64 x0_10], [.int .i64 x0_11], [.int .i64 x0_12], [.int .i64 x0_13], [.int .i64 x0_14], [.int .i64 x0_15], [.int .i64 x0_16], [.int .i64 x0_17], [.int .i64 x0_18], [.int .i64 0]] := ⟨⟨rfl, one_of (by rfl), rfl⟩, ⟨rfl, one_of (by rfl), rfl⟩, ⟨rfl, one_of (by rfl), rfl⟩, ⟨rfl, one_of (by rfl), rfl⟩, ⟨rfl, one_of (by rfl), rfl⟩, ⟨rfl, one_of (by rfl), rfl⟩, ⟨rfl, one_of (by rfl), rfl⟩, ⟨rfl, one_of (by rfl), rfl⟩, ⟨rfl, one_of (by rfl), rfl⟩, ⟨rfl, one_of (by rfl), rfl⟩, ⟨rfl, one_of (by rfl), rfl⟩, ⟨rfl, one_of (by rfl), rfl⟩, ⟨rfl, one_of (by rfl), rfl⟩, ⟨rfl, one_of (by rfl), rfl⟩, ⟨rfl, one_of (by rfl), rfl⟩, ⟨rfl, one_of (by rfl), rfl⟩, ⟨rfl, one_of (by rfl), rfl⟩, ⟨rfl, one_of (by rfl), rfl⟩, trivial⟩
 refine simL_eff (re_litV (V := (V3 tt)) (xs := ([x0_0, x0_1, x0_4, x0_5, x0_6, x0_7, x0_8, x0_9, x0_10, x0_11, x0_12, x0_13, x0_14, x0_15, x0_16, x0_17, x0_18, (0 : Int)] : List Int)) [[.int .i64 x0_0], [.int .i64 x0_1], [.int .i64 x0_4], [.int .i64 x0_5], [.int .i64 x0_6], [.int .i64 x0_7], [.int .i64 x0_8], [.int .i64 x0_9], [.int .i64 x0_10], [.int .i64 x0_11], [.int .i64 x0_12], [.int .i64 x0_13], [.int .i64 x0_14], [.int .i64 x0_15], [.int .i64 x0_16], [.int .i64 x0_17], [.int .i64 x0_18], [.int .i64 0]] rfl rfl Tryd.underlying68 elt3 rfl (by kernel_rfl) rfl hlb5v rfl rfl) rfl rfl rfl ?_
 intro b5v
 refine va rfl rfl (simL_nil (nrm_then (sim_rtn ?_)))
 exact rtn_fn ((some ⟨b5v, 0, none⟩), 18) rfl rfl rfl (.sel' 0 rfl (RowV.mk hlb5v) (.sel 3 rfl (.nil _)))

def synodref17_FormatOpts.l0 (s2v : List Int) : Nat → List UInt8 → Int → Option (List UInt8)
  | 0, _, _ => none
  | k + 1, z9v, z10v => if z10v < (s2v.length : Int) then (if z9v.length + ([32] : List UInt8).length ≤ 9223372036854775807 then (if 0 ≤ z10v ∧ z10v < (s2v.length : Int) then ((strconv_Itoa.f (s2v.getD z10v.toNat (0 : Int))).bind fun s24v => (if (z9v ++ ([32] : List UInt8)).length + s24v.length ≤ 9223372036854775807 then (synodref17_FormatOpts.l0 s2v k ((z9v ++ ([32] : List UInt8)) ++ s24v) (IntKind.i64.wrap (z10v + 1))) else none)) else none) else none) else (some z9v)
def synodref17_FormatOpts.f (k : Nat) (x0_0 : Int) (x0_1 : Int) (x0_2 : Int) (x0_3 : Int) (x0_4 : Int) (x0_5 : Int) (x0_6 : Int) (x0_7 : Int) (x0_8 : Int) (x0_9 : Int) (x0_10 : Int) (x0_11 : Int) (x0_12 : Int) (x0_13 : Int) (x0_14 : Int) (x0_15 : Int) (x0_16 : Int) (x0_17 : Int) (x0_18 : Int) : Option (List UInt8) := (synodref17_numbers.f x0_0 x0_1 x0_2 x0_3 x0_4 x0_5 x0_6 x0_7 x0_8 x0_9 x0_10 x0_11 x0_12 x0_13 x0_14 x0_15 x0_16 x0_17 x0_18).bind fun s2v => ((synodref17_FormatOpts.l0 s2v k ([119, 111, 114, 108, 100] : List UInt8) 0).bind fun s5v => (some s5v))
theorem synodref17_FormatOpts.calls (W : World) (F : HA) (k : Nat) (x0_0 : Int) (x0_1 : Int) (x0_2 : Int) (x0_3 : Int) (x0_4 : Int) (x0_5 : Int) (x0_6 : Int) (x0_7 : Int) (x0_8 : Int) (x0_9 : Int) (x0_10 : Int) (x0_11 : Int) (x0_12 : Int) (x0_13 : Int) (x0_14 : Int) (x0_15 : Int) (x0_16 : Int) (x0_17 : Int) (x0_18 : Int) (hgl : Glb Tryd.prog F) :
    Fn Tryd.prog W 28 [.agg #[.int .i64 x0_0, .int .i64 x0_1, .int .i64 x0_2, .int .i64 x0_3, .int .i64 x0_4, .int .i64 x0_5, .int .i64 x0_6, .int .i64 x0_7, .int .i64 x0_8, .int .i64 x0_9, .int .i64 x0_10, .int .i64 x0_11, .int .i64 x0_12, .int .i64 x0_13, .int .i64 x0_14, .int .i64 x0_15, .int .i64 x0_16, .int .i64 x0_17, .int .i64 x0_18]] [] F (synodref17_FormatOpts.f k x0_0 x0_1 x0_2 x0_3 x0_4 x0_5 x0_6 x0_7 x0_8 x0_9 x0_10 x0_11 x0_12 x0_13 x0_14 x0_15 x0_16 x0_17 x0_18) (fun (r : List UInt8) (y : Unit) => str r) (fun r y => []) := by
 unfold synodref17_FormatOpts.f
 refine fn_intro 23 Tryd.func28 rfl Tryd.ntmps28 rfl ?_
 refine sr ?_
 refine simL_eff (re_box rfl rfl rfl) rfl rfl rfl ?_
 intro b1v
 refine va rfl rfl (nx ?_)
 refine va rfl rfl (nx ?_)
 refine vq (q_loado 0 rfl rfl Tryd.isAgg61 Tryd.sizeOf61 rfl rfl) rfl ?_
 refine simL_bind (fun s2v hs3v => ?_)
 refine simL_eff (re_call (vs := [.agg #[.int .i64 x0_0, .int .i64 x0_1, .int .i64 x0_2, .int .i64 x0_3, .int .i64 x0_4, .int .i64 x0_5, .int .i64 x0_6, .int .i64 x0_7, .int .i64 x0_8, .int .i64 x0_9, .int .i64 x0_10, .int .i64 x0_11, .int .i64 x0_12, .int .i64 x0_13, .int .i64 x0_14, .int .i64 x0_15, .int .i64 x0_16, .int .i64 x0_17, .int .i64 x0_18]]) (cap := []) (A := []) (rst := [obj b1v 61 [.int .i64 x0_0, .int .i64 x0_1, .int .i64 x0_2, .int .i64 x0_3, .int .i64 x0_4, .int .i64 x0_5, .int .i64 x0_6, .int .i64 x0_7, .int .i64 x0_8, .int .i64 x0_9, .int .i64 x0_10, .int .i64 x0_11, .int .i64 x0_12, .int .i64 x0_13, .int .i64 x0_14, .int .i64 x0_15, .int .i64 x0_16, .int .i64 x0_17, .int .i64 x0_18], F]) rfl rfl rfl rfl rfl rfl Tryd.call58 (.sel 0 rfl (.sel 0 rfl (.nil _))) (synodref17_numbers.calls _ _ x0_0 x0_1 x0_2 x0_3 x0_4 x0_5 x0_6 x0_7 x0_8 x0_9 x0_10 x0_11 x0_12 x0_13 x0_14 x0_15 x0_16 x0_17 x0_18 ) hs3v) rfl rfl rfl ?_
 intro y4v
 refine va rfl rfl (simL_nil (nrm_then ?_))
 refine sim_cut (S := List UInt8) (Unit) (fun s y => [(3, str s)]) (fun s y => [F]) ?_ ?_
 refine sr ?_
 refine va rfl rfl (simL_nil (nrm_then ?_))
 refine sim_block ?_
 refine sim_loop (S := List UInt8 × Int) (Unit) (fun k s => synodref17_FormatOpts.l0 s2v k s.1 s.2) (fun s y => [(3, str s.1), (4, .slice y4v.1 s2v.length y4v.2), (5, .int .i64 s.2)]) (fun s y => [RowV 3 1 (V3 tt) y4v.1 s2v y4v.2, F]) (fun _ => by rw [synodref17_FormatOpts.l0]) ?_ k (([119, 111, 114, 108, 100] : List UInt8), 0) () ⟨rfl, rfl, rfl, trivial⟩ (.sel 0 rfl (.sel 1 rfl (.nil _)))
 intro k s7v y8v
 refine sim_eq (by rw [synodref17_FormatOpts.l0]) ?_
 refine sim_seq (sr ?_)
 refine vm rfl rfl ?_
 refine vm rfl rfl ?_
 refine vq (q_len rfl rfl rfl Tryd.underlying68) rfl ?_
 refine vq (q_lss rfl rfl rfl) rfl (simL_nil (nrm_then ?_))
 refine sim_cond rfl (fun h11v => ?_) (fun h12v => ?_)
 refine sim_skip ?_
 refine nrm_then (sim_seq ?_)
 refine sim_block ?_
 refine sim_region ?_
 refine vm rfl rfl ?_
 refine simL_ask (fun hb13v => ?_)
 refine vq (q_cat rfl rfl rfl hb13v) rfl ?_
 refine vm rfl rfl ?_
 refine vm rfl rfl ?_
 refine simL_openV 0 rfl (fun rs22v hl23v => ?_)
 refine simL_ask (fun hi14v => ?_)
 refine simL_posV 0 rfl hl23v rfl (i := s7v.2.toNat) (by omega) (0 : Int) (fun b15v b15vo r18v ha16v hV19v hlr20v hcell21v => ?_)
 obtain rfl := hV19v
 refine vq (q_idx rfl rfl rfl ha16v Tryd.underlying68 Tryd.sizeOf3 hi14v.1 hi14v.2) rfl ?_
 refine vq (q_load rfl rfl Tryd.isAgg3 (hcell21v 0 rfl 0 _ rfl)) rfl ?_
 refine simL_bind (fun s24v hs25v => ?_)
 refine simL_eff (re_call (vs := [.int .i64 (s2v.getD s7v.2.toNat (0 : Int))]) (cap := []) (A := []) (rst := [Row 3 1 y4v.1 s2v.length y4v.2 rs22v.flatten, F]) rfl rfl rfl rfl rfl rfl Tryd.call51 (.sel 0 rfl (.sel 0 rfl (.nil _))) (strconv_Itoa.calls _ _ (s2v.getD s7v.2.toNat (0 : Int)) (hgl.lend 1 rfl)) hs25v) rfl rfl rfl ?_
 intro y26v
 refine simL_ask (fun hb27v => ?_)
 refine vq (q_cat rfl rfl rfl hb27v) rfl ?_
 refine va rfl rfl (simL_nil (nrm_block (nrm_then (sim_region ?_))))
 refine vm rfl rfl ?_
 refine vq (q_add rfl rfl rfl) rfl ?_
 refine va rfl rfl (simL_nil ?_)
 exact nrm_again (s := ((s7v.1 ++ ([32] : List UInt8)) ++ s24v, IntKind.i64.wrap (s7v.2 + 1))) () ⟨rfl, rfl, rfl, trivial⟩ (.sel' 0 rfl (RowV.mk hl23v) (.sel 0 rfl (.nil _)))
 refine sim_exi ?_
 refine exi_then ?_
 refine exi_loop ?_
 refine exi_here ?_
 exact nrm_cut (s := s7v.1) () ⟨rfl, trivial⟩ (.sel 1 rfl (.nil _))
 intro s5v y6v
 refine sr ?_
 refine vm rfl rfl ?_
 refine va rfl rfl (simL_nil (nrm_then (sim_rtn ?_)))
 exact rtn_fn () rfl rfl rfl (.sel 0 rfl (.nil _))
end Go.Proofs.YtbcnegennmpliaaDoor

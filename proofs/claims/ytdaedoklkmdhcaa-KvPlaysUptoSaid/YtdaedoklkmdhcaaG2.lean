/- Printed by gen.py: pure functions and the proofs that the Go functions simulate them. Conditions: as each theorem says. -/
import Derived.Test.YtdaedoklkmdhcaaG1
namespace Go.Proofs.Ytdaedoklkmdhcaa
open Go.RowKit
set_option linter.unusedVariables false
set_option linter.unusedSimpArgs false
set_option maxRecDepth 20000
set_option maxHeartbeats 20000000
def synodref11_Store_does.f (k : Nat) (x0_0 : List (Ty92)) (x0_1 : List (Ty86)) (x1_0 : Int) (x1_1 : Int) (x1_2 : Int) (x1_3 : List UInt8) (x1_4 : List UInt8) (x1_5 : List UInt8) : Option (Int × List UInt8 × (List (Ty92)) × (List (Ty86))) := (synodref11_Store_at.f k x0_0 x0_1 x1_3).bind fun s15v => (if ((decide (x1_0 = (2 : Int))) && (!s15v.2)) = true then (if (128 : Int) ≤ (x0_0.length : Int) then (some (5, ([] : List UInt8), x0_0, x0_1)) else (if 0 ≤ (0 : Int) ∧ (0 : Int) ≤ s15v.1 ∧ s15v.1 ≤ (x0_0.length : Int) then (if (([] : List (Ty92)).length + (cut x0_0 (0 : Int) s15v.1).length) * 32 ≤ 140737488355328 then (if ((([] : List (Ty92)) ++ (cut x0_0 (0 : Int) s15v.1)).length + ([(x1_3, x1_4)] : List (Ty92)).length) * 32 ≤ 140737488355328 then (if 0 ≤ s15v.1 ∧ s15v.1 ≤ (x0_0.length : Int) ∧ (x0_0.length : Int) ≤ (x0_0.length : Int) then (if (((([] : List (Ty92)) ++ (cut x0_0 (0 : Int) s15v.1)) ++ ([(x1_3, x1_4)] : List (Ty92))).length + (cut x0_0 s15v.1 (x0_0.length : Int)).length) * 32 ≤ 140737488355328 then (some (1, ([] : List UInt8), ((([] : List (Ty92)) ++ (cut x0_0 (0 : Int) s15v.1)) ++ ([(x1_3, x1_4)] : List (Ty92))) ++ (cut x0_0 s15v.1 (x0_0.length : Int)), x0_1)) else none) else none) else none) else none) else none)) else (if (!s15v.2) = true then (some (2, ([] : List UInt8), x0_0, x0_1)) else (if x1_0 = (3 : Int) then (if 0 ≤ (0 : Int) ∧ (0 : Int) ≤ s15v.1 ∧ s15v.1 ≤ (x0_0.length : Int) then (if (([] : List (Ty92)).length + (cut x0_0 (0 : Int) s15v.1).length) * 32 ≤ 140737488355328 then (if 0 ≤ IntKind.i64.wrap (s15v.1 + 1) ∧ IntKind.i64.wrap (s15v.1 + 1) ≤ (x0_0.length : Int) ∧ (x0_0.length : Int) ≤ (x0_0.length : Int) then (if ((([] : List (Ty92)) ++ (cut x0_0 (0 : Int) s15v.1)).length + (cut x0_0 (IntKind.i64.wrap (s15v.1 + 1)) (x0_0.length : Int)).length) * 32 ≤ 140737488355328 then (some (1, ([] : List UInt8), (([] : List (Ty92)) ++ (cut x0_0 (0 : Int) s15v.1)) ++ (cut x0_0 (IntKind.i64.wrap (s15v.1 + 1)) (x0_0.length : Int)), x0_1)) else none) else none) else none) else none) else ((if x1_0 = (4 : Int) then (if 0 ≤ s15v.1 ∧ s15v.1 < (x0_0.length : Int) then (some (!decide (((x0_0.getD s15v.1.toNat dz92).2) = x1_5))) else none) else (some false)).bind fun s104v => (if s104v = true then (if 0 ≤ s15v.1 ∧ s15v.1 < (x0_0.length : Int) then (some (3, (x0_0.getD s15v.1.toNat dz92).2, x0_0, x0_1)) else none) else (if 0 ≤ s15v.1 ∧ s15v.1 < (x0_0.length : Int) then (some (1, ([] : List UInt8), x0_0.set s15v.1.toNat ((x0_0.getD s15v.1.toNat dz92).1, x1_4), x0_1)) else none))))))
theorem synodref11_Store_does.calls (W : World) (F : HA) (k : Nat) (b0 : Nat) (a0_0 : Option Addr) (c0_0 : Nat) (x0_0 : List (Ty92)) (a0_1 : Option Addr) (c0_1 : Nat) (x0_1 : List (Ty86)) (x1_0 : Int) (x1_1 : Int) (x1_2 : Int) (x1_3 : List UInt8) (x1_4 : List UInt8) (x1_5 : List UInt8)  :
    Fn Try.prog W 36 [.pointer (some ⟨b0, 0, none⟩), .agg #[.int .i64 x1_0, .int .i64 x1_1, .int .i64 x1_2, str x1_3, str x1_4, str x1_5]] [obj b0 47 [.slice a0_0 x0_0.length c0_0, .slice a0_1 x0_1.length c0_1], RowV 92 2 (V92 tt) a0_0 x0_0 c0_0, RowV 86 4 (V86 tt) a0_1 x0_1 c0_1] F (synodref11_Store_does.f k x0_0 x0_1 x1_0 x1_1 x1_2 x1_3 x1_4 x1_5) (fun (r : Int × List UInt8 × (List (Ty92)) × (List (Ty86))) (y : Option Addr × Nat × Option Addr × Nat) => .agg #[.int .i64 r.1, str r.2.1]) (fun r y => [obj b0 47 [.slice y.1 r.2.2.1.length y.2.1, .slice y.2.2.1 r.2.2.2.length y.2.2.2], RowV 92 2 (V92 tt) y.1 r.2.2.1 y.2.1, RowV 86 4 (V86 tt) y.2.2.1 r.2.2.2 y.2.2.2]) := by
 unfold synodref11_Store_does.f
 refine fn_intro 120 Try.func36 rfl Try.ntmps36 rfl ?_
 refine sr ?_
 refine simL_eff (re_box rfl rfl rfl) rfl rfl rfl ?_
 intro b1v
 refine simL_eff (re_alloc rfl Try.zeroValue28 rfl) rfl rfl rfl ?_
 intro b2v
 refine nx ?_
 refine vm rfl rfl ?_
 refine vq (q_fa rfl rfl Try.underlying33 rfl rfl Try.sizeOf9 rfl) rfl ?_
 refine vq (q_load rfl rfl Try.isAgg9 (.obj 1 rfl rfl)) rfl ?_
 refine simL_openV 3 rfl (fun rs3v hl4v => ?_)
 refine simL_openV 4 rfl (fun rs5v hl6v => ?_)
 refine simL_bind (fun s15v hs16v => ?_)
 refine simL_lend 3 rfl (fun hq7v hq8v hq9v hq10v => ?_)
 refine simL_lend 4 rfl (fun hq11v hq12v hq13v hq14v => ?_)
 refine simL_eff (re_call (vs := [.pointer (some ⟨b0, 0, none⟩), str x1_3]) (cap := []) (A := [obj b0 47 [.slice a0_0 x0_0.length c0_0, .slice a0_1 x0_1.length c0_1]]) (rst := [obj b2v 28 [.int .i64 0, str ([] : List UInt8)], obj b1v 33 [.int .i64 x1_0, .int .i64 x1_1, .int .i64 x1_2, str x1_3, str x1_4, str x1_5], Row 92 2 a0_0 x0_0.length c0_0 rs3v.flatten, Row 86 4 a0_1 x0_1.length c0_1 rs5v.flatten, F]) rfl rfl rfl rfl rfl rfl Try.call37 (.sel 2 rfl (.sel 0 rfl (.sel 0 rfl (.sel 0 rfl (.sel 0 rfl (.sel 0 rfl (.nil _))))))) (synodref11_Store_at.calls _ _ k b0 a0_0 c0_0 x0_0 a0_1 c0_1 x0_1 x1_3 ((Rd.asV hl4v hq7v).up (Up.lend 2 rfl) (fun _ _ h => h)) hq8v hq9v ((Rd.asV hl6v hq11v).up (Up.lend 3 rfl) (fun _ _ h => h)) hq12v hq13v) hs16v) rfl rfl rfl ?_
 intro y17v
 refine vm rfl rfl ?_
 refine vq (q_ext rfl rfl rfl) rfl ?_
 refine vq (q_ext rfl rfl rfl) rfl ?_
 refine va rfl rfl ?_
 refine va rfl rfl (simL_nil (nrm_then (sim_seq (sr ?_))))
 refine vq (q_fa rfl rfl Try.underlying33 rfl rfl Try.sizeOf3 rfl) rfl ?_
 refine vq (q_load rfl rfl Try.isAgg3 (.obj 2 rfl rfl)) rfl ?_
 refine vq (q_eql rfl rfl rfl) rfl ?_
 refine vm rfl rfl ?_
 refine simL_valc (b := decide (x1_0 = (2 : Int))) (fun hb143v => RQ.sub (E' := [(6, .bool s15v.2)]) ⟨rfl, trivial⟩ (q_move rfl rfl)) rfl rfl rfl rfl rfl ?_
 refine simL_valc (b := decide (x1_0 = (2 : Int))) (fun hb142v => RQ.sub (E' := [(20, .bool s15v.2)]) ⟨lk_cv rfl hb142v, trivial⟩ (q_not rfl rfl)) rfl rfl rfl rfl rfl ?_
 refine vq (q_and rfl rfl rfl) rfl (simL_nil (nrm_then ?_))
 refine sim_condb rfl (fun h18v => ?_) (fun h19v => ?_)
 refine sim_seq (sr ?_)
 refine vm rfl rfl ?_
 refine vn rfl rfl ?_
 refine vq (q_fa rfl rfl Try.underlying47 rfl rfl Try.sizeOf44 rfl) rfl ?_
 refine vq (q_load rfl rfl Try.isAgg44 (.obj 0 rfl rfl)) rfl ?_
 refine vq (q_len rfl rfl rfl Try.underlying44) rfl ?_
 refine vq (q_geq rfl rfl rfl) rfl (simL_nil (nrm_then ?_))
 refine sim_cond rfl (fun h20v => ?_) (fun h21v => ?_)
 refine sr ?_
 refine vq (q_build (v := .agg #[.int .i64 5, str ([] : List UInt8)]) rfl rfl (fun _ => by kernel_rfl)) rfl ?_
 refine simL_do (re_store 1 rfl rfl rfl Try.sizeOf28 rfl rfl (one_of (by rfl)) rfl rfl) rfl rfl ?_
 intro _
 refine simL_nil (nrm_then (sim_rtn ?_))
 refine rtn_then ?_
 refine rtn_then ?_
 exact rtn_fnC (vs := [.agg #[.int .i64 5, str ([] : List UInt8)]]) (a0_0, c0_0, a0_1, c0_1) rfl ⟨⟨b2v, rfl, load_agg 1 Try.isAgg28 Try.sizeOf28 rfl rfl⟩, trivial⟩ rfl (.sel 0 rfl (.sel' 2 rfl (RowV.mk hl4v) (.sel' 2 rfl (RowV.mk hl6v) (.sel 2 rfl (.nil _)))))
 refine sim_skip ?_
 refine nrm_then (sr ?_)
 refine simL_eff (re_lit0V (α := List UInt8 × List UInt8) (V := (V92 tt)) rfl Try.underlying44 elt92) rfl rfl rfl ?_
 intro b22v
 refine vm rfl rfl ?_
 refine vn rfl rfl ?_
 refine vq (q_fa rfl rfl Try.underlying47 rfl rfl Try.sizeOf44 rfl) rfl ?_
 refine vq (q_load rfl rfl Try.isAgg44 (.obj 1 rfl rfl)) rfl ?_
 refine vm rfl rfl ?_
 refine simL_lend 4 rfl (fun hq24v hq25v hq26v hq27v => ?_)
 refine simL_ask (fun hb23v => ?_)
 obtain ⟨a28v, c29v, hS30v, hr31v, hc32v, hm33v⟩ := slice_preV (lo := (0 : Int)) (hi := s15v.1) (Rd.asV hl4v hq24v) hq25v hb23v
 refine vq (q_sub_roV (l := x0_0) (lo' := (0 : Int)) (hi' := s15v.1) rfl rfl rfl rfl Try.underlying44 Try.sizeOf92 (.inr ⟨_, rfl⟩) (.inl ⟨rfl, rfl⟩) hb23v hq25v hS30v) rfl ?_
 refine simL_openV 0 rfl (fun rs38v hl39v => ?_)
 refine simL_ask (fun hb37v => ?_)
 refine simL_eff (re_appendV 0 rfl rfl rfl Try.underlying44 elt92 rfl hl39v (hr31v.rds 3 rfl) hb37v) rfl rfl rfl ?_
 intro y36v
 refine va rfl rfl (nx ?_)
 refine vm rfl rfl ?_
 refine vq (q_fa rfl rfl Try.underlying33 rfl rfl Try.sizeOf9 rfl) rfl ?_
 refine vq (q_load rfl rfl Try.isAgg9 (.obj 3 rfl rfl)) rfl ?_
 refine vq (q_fa rfl rfl Try.underlying33 rfl rfl Try.sizeOf9 rfl) rfl ?_
 refine vq (q_load rfl rfl Try.isAgg9 (.obj 3 rfl rfl)) rfl ?_
 refine vq (q_build (v := .agg #[str x1_3, str x1_4]) rfl rfl (fun _ => by kernel_rfl)) rfl ?_
 have hlb41v : ListV 2 (V92 tt) ([(x1_3, x1_4)] : List (Ty92)) [[str x1_3, str x1_4]] := ⟨⟨rfl, one_of (by rfl), rfl⟩, trivial⟩
 refine simL_eff (re_litV (V := (V92 tt)) (xs := ([(x1_3, x1_4)] : List (Ty92))) [[str x1_3, str x1_4]] rfl rfl Try.underlying44 elt92 rfl (by kernel_rfl) rfl hlb41v rfl rfl) rfl rfl rfl ?_
 intro b41v
 refine simL_openV 1 rfl (fun rs46v hl47v => ?_)
 refine simL_ask (fun hb45v => ?_)
 refine simL_eff (re_appendV 1 rfl rfl rfl Try.underlying44 elt92 rfl hl47v (RdsV.row hlb41v 0 rfl) hb45v) rfl rfl rfl ?_
 intro y44v
 refine va rfl rfl (nx ?_)
 refine vm rfl rfl ?_
 refine vm rfl rfl ?_
 refine vm rfl rfl ?_
 refine vn rfl rfl ?_
 refine vq (q_fa rfl rfl Try.underlying47 rfl rfl Try.sizeOf44 rfl) rfl ?_
 refine vq (q_load rfl rfl Try.isAgg44 (.obj 2 rfl rfl)) rfl ?_
 refine vm rfl rfl ?_
 refine simL_lend 5 rfl (fun hq49v hq50v hq51v hq52v => ?_)
 refine simL_ask (fun hb48v => ?_)
 obtain ⟨a53v, c54v, hS55v, hr56v, hc57v, hm58v⟩ := slice_preV (lo := s15v.1) (hi := (x0_0.length : Int)) (Rd.asV hl4v hq49v) hq50v hb48v
 refine vq (q_sub_roV (l := x0_0) (lo' := s15v.1) (hi' := (x0_0.length : Int)) rfl rfl rfl rfl Try.underlying44 Try.sizeOf92 (.inl ⟨rfl, rfl⟩) (.inr ⟨_, rfl⟩) hb48v hq50v hS55v) rfl ?_
 refine simL_openV 1 rfl (fun rs63v hl64v => ?_)
 refine simL_ask (fun hb62v => ?_)
 refine simL_eff (re_appendV 1 rfl rfl rfl Try.underlying44 elt92 rfl hl64v (hr56v.rds 4 rfl) hb62v) rfl rfl rfl ?_
 intro y61v
 refine vn rfl rfl ?_
 refine vq (q_fa rfl rfl Try.underlying47 rfl rfl Try.sizeOf44 rfl) rfl ?_
 refine simL_do (re_store 2 rfl rfl rfl Try.sizeOf44 rfl rfl (one_of (by rfl)) rfl rfl) rfl rfl ?_
 intro _
 refine nx ?_
 refine vq (q_build (v := .agg #[.int .i64 1, str ([] : List UInt8)]) rfl rfl (fun _ => by kernel_rfl)) rfl ?_
 refine simL_do (re_store 3 rfl rfl rfl Try.sizeOf28 rfl rfl (one_of (by rfl)) rfl rfl) rfl rfl ?_
 intro _
 refine simL_nil (nrm_then (sim_rtn ?_))
 refine rtn_then ?_
 exact rtn_fnC (vs := [.agg #[.int .i64 1, str ([] : List UInt8)]]) (y61v.1, y61v.2, a0_1, c0_1) rfl ⟨⟨b2v, rfl, load_agg 3 Try.isAgg28 Try.sizeOf28 rfl rfl⟩, trivial⟩ rfl (.sel 2 rfl (.sel 1 rfl (.sel' 4 rfl (RowV.mk hl6v) (.sel 4 rfl (.nil _)))))
 refine sim_skip ?_
 refine nrm_then (sim_seq (sr ?_))
 refine vm rfl rfl ?_
 refine vq (q_not rfl rfl) rfl (simL_nil (nrm_then ?_))
 refine sim_condb rfl (fun h65v => ?_) (fun h66v => ?_)
 refine sr ?_
 refine vq (q_build (v := .agg #[.int .i64 2, str ([] : List UInt8)]) rfl rfl (fun _ => by kernel_rfl)) rfl ?_
 refine simL_do (re_store 1 rfl rfl rfl Try.sizeOf28 rfl rfl (one_of (by rfl)) rfl rfl) rfl rfl ?_
 intro _
 refine simL_nil (nrm_then (sim_rtn ?_))
 refine rtn_then ?_
 exact rtn_fnC (vs := [.agg #[.int .i64 2, str ([] : List UInt8)]]) (a0_0, c0_0, a0_1, c0_1) rfl ⟨⟨b2v, rfl, load_agg 1 Try.isAgg28 Try.sizeOf28 rfl rfl⟩, trivial⟩ rfl (.sel 0 rfl (.sel' 2 rfl (RowV.mk hl4v) (.sel' 2 rfl (RowV.mk hl6v) (.sel 2 rfl (.nil _)))))
 refine sim_skip ?_
 refine nrm_then (sim_seq (sr ?_))
 refine vq (q_fa rfl rfl Try.underlying33 rfl rfl Try.sizeOf3 rfl) rfl ?_
 refine vq (q_load rfl rfl Try.isAgg3 (.obj 2 rfl rfl)) rfl ?_
 refine vq (q_eql rfl rfl rfl) rfl (simL_nil (nrm_then ?_))
 refine sim_cond rfl (fun h67v => ?_) (fun h68v => ?_)
 refine sr ?_
 refine simL_eff (re_lit0V (α := List UInt8 × List UInt8) (V := (V92 tt)) rfl Try.underlying44 elt92) rfl rfl rfl ?_
 intro b69v
 refine vm rfl rfl ?_
 refine vn rfl rfl ?_
 refine vq (q_fa rfl rfl Try.underlying47 rfl rfl Try.sizeOf44 rfl) rfl ?_
 refine vq (q_load rfl rfl Try.isAgg44 (.obj 1 rfl rfl)) rfl ?_
 refine vm rfl rfl ?_
 refine simL_lend 4 rfl (fun hq71v hq72v hq73v hq74v => ?_)
 refine simL_ask (fun hb70v => ?_)
 obtain ⟨a75v, c76v, hS77v, hr78v, hc79v, hm80v⟩ := slice_preV (lo := (0 : Int)) (hi := s15v.1) (Rd.asV hl4v hq71v) hq72v hb70v
 refine vq (q_sub_roV (l := x0_0) (lo' := (0 : Int)) (hi' := s15v.1) rfl rfl rfl rfl Try.underlying44 Try.sizeOf92 (.inr ⟨_, rfl⟩) (.inl ⟨rfl, rfl⟩) hb70v hq72v hS77v) rfl ?_
 refine simL_openV 0 rfl (fun rs85v hl86v => ?_)
 refine simL_ask (fun hb84v => ?_)
 refine simL_eff (re_appendV 0 rfl rfl rfl Try.underlying44 elt92 rfl hl86v (hr78v.rds 3 rfl) hb84v) rfl rfl rfl ?_
 intro y83v
 refine va rfl rfl (nx ?_)
 refine vm rfl rfl ?_
 refine vm rfl rfl ?_
 refine vm rfl rfl ?_
 refine vn rfl rfl ?_
 refine vq (q_fa rfl rfl Try.underlying47 rfl rfl Try.sizeOf44 rfl) rfl ?_
 refine vq (q_load rfl rfl Try.isAgg44 (.obj 1 rfl rfl)) rfl ?_
 refine vm rfl rfl ?_
 refine vq (q_add rfl rfl rfl) rfl ?_
 refine simL_lend 4 rfl (fun hq88v hq89v hq90v hq91v => ?_)
 refine simL_ask (fun hb87v => ?_)
 obtain ⟨a92v, c93v, hS94v, hr95v, hc96v, hm97v⟩ := slice_preV (lo := IntKind.i64.wrap (s15v.1 + 1)) (hi := (x0_0.length : Int)) (Rd.asV hl4v hq88v) hq89v hb87v
 refine vq (q_sub_roV (l := x0_0) (lo' := IntKind.i64.wrap (s15v.1 + 1)) (hi' := (x0_0.length : Int)) rfl rfl rfl rfl Try.underlying44 Try.sizeOf92 (.inl ⟨rfl, rfl⟩) (.inr ⟨_, rfl⟩) hb87v hq89v hS94v) rfl ?_
 refine simL_openV 0 rfl (fun rs102v hl103v => ?_)
 refine simL_ask (fun hb101v => ?_)
 refine simL_eff (re_appendV 0 rfl rfl rfl Try.underlying44 elt92 rfl hl103v (hr95v.rds 3 rfl) hb101v) rfl rfl rfl ?_
 intro y100v
 refine vn rfl rfl ?_
 refine vq (q_fa rfl rfl Try.underlying47 rfl rfl Try.sizeOf44 rfl) rfl ?_
 refine simL_do (re_store 1 rfl rfl rfl Try.sizeOf44 rfl rfl (one_of (by rfl)) rfl rfl) rfl rfl ?_
 intro _
 refine nx ?_
 refine vq (q_build (v := .agg #[.int .i64 1, str ([] : List UInt8)]) rfl rfl (fun _ => by kernel_rfl)) rfl ?_
 refine simL_do (re_store 2 rfl rfl rfl Try.sizeOf28 rfl rfl (one_of (by rfl)) rfl rfl) rfl rfl ?_
 intro _
 refine simL_nil (nrm_then (sim_rtn ?_))
 refine rtn_then ?_
 exact rtn_fnC (vs := [.agg #[.int .i64 1, str ([] : List UInt8)]]) (y100v.1, y100v.2, a0_1, c0_1) rfl ⟨⟨b2v, rfl, load_agg 2 Try.isAgg28 Try.sizeOf28 rfl rfl⟩, trivial⟩ rfl (.sel 1 rfl (.sel 0 rfl (.sel' 3 rfl (RowV.mk hl6v) (.sel 3 rfl (.nil _)))))
 refine sim_skip ?_
 refine nrm_then (sim_seq ?_)
 refine sim_cut (S := Bool) (Unit) (fun s y => [(0, .pointer (some ⟨b0, 0, none⟩)), (3, .pointer (some ⟨b1v, 0, none⟩)), (4, .pointer (some ⟨b2v, 0, none⟩)), (5, .int .i64 s15v.1), (100, .bool s)]) (fun s y => [obj b0 47 [.slice a0_0 x0_0.length c0_0, .slice a0_1 x0_1.length c0_1], obj b2v 28 [.int .i64 0, str ([] : List UInt8)], obj b1v 33 [.int .i64 x1_0, .int .i64 x1_1, .int .i64 x1_2, str x1_3, str x1_4, str x1_5], RowV 92 2 (V92 tt) a0_0 x0_0 c0_0, RowV 86 4 (V86 tt) a0_1 x0_1 c0_1, F]) ?_ ?_
 refine sim_if (fun hk106v => ?_) (fun hk106v => ?_)
 refine sim_ask (fun hi107v => ?_)
 refine sim_posV 3 rfl hl4v rfl (i := s15v.1.toNat) (by omega) dz92 (fun b108v b108vo r111v ha109v hV112v hlr113v hcell114v => ?_)
 obtain rfl := hV112v
 refine sim_draw (Γ := Unit) () [[], [0], [0, 1], [0, 1, 2], rL 4, rL 5, rL 6, rL 7, rL 4, rL 9, rL 10, rL 11, rL 4, [0, 1, 2, 3, 12], rL 14, rL 15] [] [0, 1, 2, 3, 4, 5, 6, 7, 8, 9, 10, 11, 12, 13, 14, 15] (fun i => [[0], [0], [0], [0], [0], [0], [0], [0], [0], [0], [0], [0], [0], [0], [0], [0]].getD i []) (fun i => [[], [], [], [], [], [], [], [], [], [], [], [], [], [], [], []].getD i []) (fun γ i => [.pointer (some ⟨b1v, 0, none⟩), .int .i64 x1_0, .bool (decide (x1_0 = (4 : Int))), .bool (decide (x1_0 = (4 : Int))), .pointer (some ⟨b0, 0, none⟩), .pointer (some ⟨b0, 0, none⟩), .pointer (some ⟨b0, 0, none⟩), .slice a0_0 x0_0.length c0_0, .int .i64 s15v.1, .pointer (some ⟨b108v, b108vo + s15v.1.toNat * 2, none⟩), .pointer (some ⟨b108v, b108vo + s15v.1.toNat * 2 + 1, none⟩), str ((x0_0.getD s15v.1.toNat dz92).2), .pointer (some ⟨b1v, 5, none⟩), str x1_5, .bool (!decide (((x0_0.getD s15v.1.toNat dz92).2) = x1_5)), .bool (!decide (((x0_0.getD s15v.1.toNat dz92).2) = x1_5))].getD i undef) (fun j γ => [[obj b0 47 [.slice a0_0 x0_0.length c0_0, .slice a0_1 x0_1.length c0_1], obj b2v 28 [.int .i64 0, str ([] : List UInt8)], obj b1v 33 [.int .i64 x1_0, .int .i64 x1_1, .int .i64 x1_2, str x1_3, str x1_4, str x1_5], Row 92 2 a0_0 x0_0.length c0_0 rs3v.flatten, Row 86 4 a0_1 x0_1.length c0_1 rs5v.flatten, F]].getD j []) (fun γ => [(0, .pointer (some ⟨b0, 0, none⟩)), (3, .pointer (some ⟨b1v, 0, none⟩)), (4, .pointer (some ⟨b2v, 0, none⟩)), (5, .int .i64 s15v.1), (100, .bool (!decide (((x0_0.getD s15v.1.toNat dz92).2) = x1_5)))]) mixed (by decide) (by decide) (by decide) (by decide) (by decide) (by decide) (by decide) 120 rfl (by decide) (by decide) (by decide) (Ent.refl _) ?_ ?_ (fun _ => ⟨rfl, rfl, rfl, rfl, rfl, trivial⟩) ?_
 exact (aq rfl (fun γ => qp rfl rfl (.o (s := 3) rfl (by decide) .nil) (q_fa rfl rfl Try.underlying33 rfl rfl Try.sizeOf3 rfl) rfl) (aq rfl (fun γ => qp rfl rfl (.v 0 rfl rfl .nil) (q_load rfl rfl Try.isAgg3 (.obj 2 rfl rfl)) rfl) (aq rfl (fun γ => qp rfl rfl (.v 1 rfl rfl .nil) (q_eql rfl rfl rfl) rfl) (aq rfl (fun γ => qm rfl (.v 2 rfl rfl .nil) rfl) (aq rfl (fun γ => qy rfl rfl (.o (s := 0) rfl (by decide) (.v 3 rfl rfl .nil)) rfl rfl (beq_yes (decide_eq_true hk106v)) (q_move rfl rfl) rfl) (aq rfl (fun γ => qy rfl rfl (.v 3 rfl rfl (.v 4 rfl rfl .nil)) rfl rfl (beq_yes (decide_eq_true hk106v)) (q_nil rfl rfl) rfl) (aq rfl (fun γ => qy rfl rfl (.v 3 rfl rfl (.v 5 rfl rfl .nil)) rfl rfl (beq_yes (decide_eq_true hk106v)) (q_fa rfl rfl Try.underlying47 rfl rfl Try.sizeOf44 rfl) rfl) (aq rfl (fun γ => qy rfl rfl (.v 3 rfl rfl (.v 6 rfl rfl .nil)) rfl rfl (beq_yes (decide_eq_true hk106v)) (q_load rfl rfl Try.isAgg44 (.obj 0 rfl rfl)) rfl) (aq rfl (fun γ => qy rfl rfl (.o (s := 5) rfl (by decide) (.v 3 rfl rfl .nil)) rfl rfl (beq_yes (decide_eq_true hk106v)) (q_move rfl rfl) rfl) (aq rfl (fun γ => qy rfl rfl (.v 3 rfl rfl (.v 7 rfl rfl (.v 8 rfl rfl .nil))) rfl rfl (beq_yes (decide_eq_true hk106v)) (q_idx rfl rfl rfl ha109v Try.underlying44 Try.sizeOf92 hi107v.1 hi107v.2) rfl) (aq rfl (fun γ => qy rfl rfl (.v 3 rfl rfl (.v 9 rfl rfl .nil)) rfl rfl (beq_yes (decide_eq_true hk106v)) (q_fa rfl rfl Try.underlying92 rfl rfl Try.sizeOf9 rfl) rfl) (aq rfl (fun γ => qy rfl rfl (.v 3 rfl rfl (.v 10 rfl rfl .nil)) rfl rfl (beq_yes (decide_eq_true hk106v)) (q_load rfl rfl Try.isAgg9 (hcell114v 3 rfl 1 _ rfl)) rfl) (aq rfl (fun γ => qy rfl rfl (.o (s := 3) rfl (by decide) (.v 3 rfl rfl .nil)) rfl rfl (beq_yes (decide_eq_true hk106v)) (q_fa rfl rfl Try.underlying33 rfl rfl Try.sizeOf9 rfl) rfl) (aq rfl (fun γ => qy rfl rfl (.v 3 rfl rfl (.v 12 rfl rfl .nil)) rfl rfl (beq_yes (decide_eq_true hk106v)) (q_load rfl rfl Try.isAgg9 (.obj 2 rfl rfl)) rfl) (aq rfl (fun γ => qy rfl rfl (.v 3 rfl rfl (.v 11 rfl rfl (.v 13 rfl rfl .nil))) rfl rfl (beq_yes (decide_eq_true hk106v)) (q_nes rfl rfl rfl) rfl) (aq rfl (fun γ => qp rfl rfl (.v 3 rfl rfl (.v 14 rfl rfl .nil)) (q_pick rfl rfl rfl rfl (bif_yes (decide_eq_true hk106v) _ _)) rfl) zA))))))))))))))))
 exact zA
 intro g115v
 exact nrm_cut (s := !decide (((x0_0.getD s15v.1.toNat dz92).2) = x1_5)) () ⟨rfl, rfl, rfl, rfl, rfl, trivial⟩ (.sel 0 rfl (.sel 0 rfl (.sel 0 rfl (.sel' 0 rfl (RowV.mk hl4v) (.sel' 0 rfl (RowV.mk hl6v) (.sel 0 rfl (.nil _)))))))
 refine sim_draw (Γ := Unit) () [[], [0], [0, 1], [0, 1, 2], rL 4, rL 5, rL 6, rL 7, rL 4, rL 9, rL 10, rL 11, rL 4, [0, 1, 2, 3, 12], rL 14, rL 15] [] [0, 1, 2, 3, 4, 5, 6, 7, 8, 9, 10, 11, 12, 13, 14, 15] (fun i => [[0], [0], [0], [0], [0], [0], [0], [0], [0], [0], [0], [0], [0], [0], [0], [0]].getD i []) (fun i => [[], [], [], [], [], [], [], [], [], [], [], [], [], [], [], []].getD i []) (fun γ i => [.pointer (some ⟨b1v, 0, none⟩), .int .i64 x1_0, .bool (decide (x1_0 = (4 : Int))), .bool (decide (x1_0 = (4 : Int))), undef, undef, undef, undef, undef, undef, undef, undef, undef, undef, undef, .bool false].getD i undef) (fun j γ => [[obj b0 47 [.slice a0_0 x0_0.length c0_0, .slice a0_1 x0_1.length c0_1], obj b2v 28 [.int .i64 0, str ([] : List UInt8)], obj b1v 33 [.int .i64 x1_0, .int .i64 x1_1, .int .i64 x1_2, str x1_3, str x1_4, str x1_5], Row 92 2 a0_0 x0_0.length c0_0 rs3v.flatten, Row 86 4 a0_1 x0_1.length c0_1 rs5v.flatten, F]].getD j []) (fun γ => [(0, .pointer (some ⟨b0, 0, none⟩)), (3, .pointer (some ⟨b1v, 0, none⟩)), (4, .pointer (some ⟨b2v, 0, none⟩)), (5, .int .i64 s15v.1), (100, .bool false)]) mixed (by decide) (by decide) (by decide) (by decide) (by decide) (by decide) (by decide) 120 rfl (by decide) (by decide) (by decide) (Ent.refl _) ?_ ?_ (fun _ => ⟨rfl, rfl, rfl, rfl, rfl, trivial⟩) ?_
 exact (aq rfl (fun γ => qp rfl rfl (.o (s := 3) rfl (by decide) .nil) (q_fa rfl rfl Try.underlying33 rfl rfl Try.sizeOf3 rfl) rfl) (aq rfl (fun γ => qp rfl rfl (.v 0 rfl rfl .nil) (q_load rfl rfl Try.isAgg3 (.obj 2 rfl rfl)) rfl) (aq rfl (fun γ => qp rfl rfl (.v 1 rfl rfl .nil) (q_eql rfl rfl rfl) rfl) (aq rfl (fun γ => qm rfl (.v 2 rfl rfl .nil) rfl) (aq rfl (fun γ => qn rfl rfl (.o (s := 0) rfl (by decide) (.v 3 rfl rfl .nil)) rfl rfl (beq_no' (decide_eq_false hk106v)) rfl) (aq rfl (fun γ => qn rfl rfl (.v 3 rfl rfl (.v 4 rfl rfl .nil)) rfl rfl (beq_no' (decide_eq_false hk106v)) rfl) (aq rfl (fun γ => qn rfl rfl (.v 3 rfl rfl (.v 5 rfl rfl .nil)) rfl rfl (beq_no' (decide_eq_false hk106v)) rfl) (aq rfl (fun γ => qn rfl rfl (.v 3 rfl rfl (.v 6 rfl rfl .nil)) rfl rfl (beq_no' (decide_eq_false hk106v)) rfl) (aq rfl (fun γ => qn rfl rfl (.o (s := 5) rfl (by decide) (.v 3 rfl rfl .nil)) rfl rfl (beq_no' (decide_eq_false hk106v)) rfl) (aq rfl (fun γ => qn rfl rfl (.v 3 rfl rfl (.v 7 rfl rfl (.v 8 rfl rfl .nil))) rfl rfl (beq_no' (decide_eq_false hk106v)) rfl) (aq rfl (fun γ => qn rfl rfl (.v 3 rfl rfl (.v 9 rfl rfl .nil)) rfl rfl (beq_no' (decide_eq_false hk106v)) rfl) (aq rfl (fun γ => qn rfl rfl (.v 3 rfl rfl (.v 10 rfl rfl .nil)) rfl rfl (beq_no' (decide_eq_false hk106v)) rfl) (aq rfl (fun γ => qn rfl rfl (.o (s := 3) rfl (by decide) (.v 3 rfl rfl .nil)) rfl rfl (beq_no' (decide_eq_false hk106v)) rfl) (aq rfl (fun γ => qn rfl rfl (.v 3 rfl rfl (.v 12 rfl rfl .nil)) rfl rfl (beq_no' (decide_eq_false hk106v)) rfl) (aq rfl (fun γ => qn rfl rfl (.v 3 rfl rfl (.v 11 rfl rfl (.v 13 rfl rfl .nil))) rfl rfl (beq_no' (decide_eq_false hk106v)) rfl) (aq rfl (fun γ => qp rfl rfl (.v 3 rfl rfl (.v 14 rfl rfl .nil)) (q_pick rfl rfl rfl rfl (bif_no (decide_eq_false hk106v) _ _)) rfl) zA))))))))))))))))
 exact zA
 intro g116v
 exact nrm_cut (s := false) () ⟨rfl, rfl, rfl, rfl, rfl, trivial⟩ (.sel 0 rfl (.sel 0 rfl (.sel 0 rfl (.sel' 0 rfl (RowV.mk hl4v) (.sel' 0 rfl (RowV.mk hl6v) (.sel 0 rfl (.nil _)))))))
 intro s104v y105v
 refine sim_condb rfl (fun h117v => ?_) (fun h118v => ?_)
 refine sr ?_
 refine vm rfl rfl ?_
 refine vn rfl rfl ?_
 refine vq (q_fa rfl rfl Try.underlying47 rfl rfl Try.sizeOf44 rfl) rfl ?_
 refine vq (q_load rfl rfl Try.isAgg44 (.obj 0 rfl rfl)) rfl ?_
 refine vm rfl rfl ?_
 refine simL_openV 3 rfl (fun rs127v hl128v => ?_)
 refine simL_ask (fun hi119v => ?_)
 refine simL_posV 3 rfl hl128v rfl (i := s15v.1.toNat) (by omega) dz92 (fun b120v b120vo r123v ha121v hV124v hlr125v hcell126v => ?_)
 obtain rfl := hV124v
 refine vq (q_idx rfl rfl rfl ha121v Try.underlying44 Try.sizeOf92 hi119v.1 hi119v.2) rfl ?_
 refine vq (q_fa rfl rfl Try.underlying92 rfl rfl Try.sizeOf9 rfl) rfl ?_
 refine vq (q_load rfl rfl Try.isAgg9 (hcell126v 3 rfl 1 _ rfl)) rfl ?_
 refine vq (q_build (v := .agg #[.int .i64 3, str ((x0_0.getD s15v.1.toNat dz92).2)]) rfl rfl (fun _ => by kernel_rfl)) rfl ?_
 refine simL_do (re_store 1 rfl rfl rfl Try.sizeOf28 rfl rfl (one_of (by rfl)) rfl rfl) rfl rfl ?_
 intro _
 refine simL_nil (nrm_then (sim_rtn ?_))
 refine rtn_then ?_
 exact rtn_fnC (vs := [.agg #[.int .i64 3, str ((x0_0.getD s15v.1.toNat dz92).2)]]) (a0_0, c0_0, a0_1, c0_1) rfl ⟨⟨b2v, rfl, load_agg 1 Try.isAgg28 Try.sizeOf28 rfl rfl⟩, trivial⟩ rfl (.sel 0 rfl (.sel' 2 rfl (RowV.mk hl128v) (.sel 2 rfl (.sel 2 rfl (.nil _)))))
 refine sim_skip ?_
 refine nrm_then (sim_seq ?_)
 refine sim_openV 3 rfl (fun rs129v hl130v => ?_)
 refine sim_openV 4 rfl (fun rs131v hl132v => ?_)
 refine sim_ask (fun hi133v => ?_)
 refine sim_posV 3 rfl hl130v rfl (i := s15v.1.toNat) (by omega) dz92 (fun b134v b134vo r137v ha135v hV138v hlr139v hcell140v => ?_)
 obtain rfl := hV138v
 refine sim_draw (Γ := Unit) () [[], [0], [0, 1], [0, 1, 2], [], [], [5], rL 7, rL 8, rL 9] [9] [0, 1, 2, 3, 4, 5, 6, 7, 8] (fun i => [[0], [0], [0], [0], [0], [0], [0], [0], [0], []].getD i []) (fun i => [[], [], [], [], [], [], [], [], [], rL 9].getD i []) (fun γ i => [.pointer (some ⟨b0, 0, none⟩), .pointer (some ⟨b0, 0, none⟩), .pointer (some ⟨b0, 0, none⟩), .slice a0_0 x0_0.length c0_0, .int .i64 s15v.1, .pointer (some ⟨b1v, 4, none⟩), str x1_4, .pointer (some ⟨b134v, b134vo + s15v.1.toNat * 2, none⟩), .pointer (some ⟨b134v, b134vo + s15v.1.toNat * 2 + 1, none⟩), undef].getD i undef) (fun j γ => [[obj b0 47 [.slice a0_0 x0_0.length c0_0, .slice a0_1 x0_1.length c0_1], obj b2v 28 [.int .i64 0, str ([] : List UInt8)], obj b1v 33 [.int .i64 x1_0, .int .i64 x1_1, .int .i64 x1_2, str x1_3, str x1_4, str x1_5], Row 92 2 a0_0 x0_0.length c0_0 rs129v.flatten, Row 86 4 a0_1 x0_1.length c0_1 rs131v.flatten, F], [obj b0 47 [.slice a0_0 ((x0_0.set s15v.1.toNat ((x0_0.getD s15v.1.toNat dz92).1, x1_4)).length) c0_0, .slice a0_1 x0_1.length c0_1], obj b2v 28 [.int .i64 0, str ([] : List UInt8)], obj b1v 33 [.int .i64 x1_0, .int .i64 x1_1, .int .i64 x1_2, str x1_3, str x1_4, str x1_5], RowV 92 2 (V92 tt) a0_0 (x0_0.set s15v.1.toNat ((x0_0.getD s15v.1.toNat dz92).1, x1_4)) c0_0, Row 86 4 a0_1 x0_1.length c0_1 rs131v.flatten, F]].getD j []) (fun γ => [(4, .pointer (some ⟨b2v, 0, none⟩))]) mixed (by decide) (by decide) (by decide) (by decide) (by decide) (by decide) (by decide) 120 rfl (by decide) (by decide) (by decide) (Ent.refl _) ?_ ?_ (fun _ => ⟨rfl, trivial⟩) ?_
 exact (aq rfl (fun γ => qm rfl (.o (s := 0) rfl (by decide) .nil) rfl) (aq rfl (fun γ => qp rfl rfl (.v 0 rfl rfl .nil) (q_nil rfl rfl) rfl) (aq rfl (fun γ => qp rfl rfl (.v 1 rfl rfl .nil) (q_fa rfl rfl Try.underlying47 rfl rfl Try.sizeOf44 rfl) rfl) (aq rfl (fun γ => qp rfl rfl (.v 2 rfl rfl .nil) (q_load rfl rfl Try.isAgg44 (.obj 0 rfl rfl)) rfl) (aq rfl (fun γ => qm rfl (.o (s := 5) rfl (by decide) .nil) rfl) (aq rfl (fun γ => qp rfl rfl (.o (s := 3) rfl (by decide) .nil) (q_fa rfl rfl Try.underlying33 rfl rfl Try.sizeOf9 rfl) rfl) (aq rfl (fun γ => qp rfl rfl (.v 5 rfl rfl .nil) (q_load rfl rfl Try.isAgg9 (.obj 2 rfl rfl)) rfl) (aq rfl (fun γ => qp rfl rfl (.v 3 rfl rfl (.v 4 rfl rfl .nil)) (q_idx rfl rfl rfl ha135v Try.underlying44 Try.sizeOf92 hi133v.1 hi133v.2) rfl) (aq rfl (fun γ => qp rfl rfl (.v 7 rfl rfl .nil) (q_fa rfl rfl Try.underlying92 rfl rfl Try.sizeOf9 rfl) rfl) zA)))))))))
 exact (ac (fun γ => eo (Z := Unit) (fun z => ()) rfl rfl (.v 6 rfl rfl (.v 8 rfl rfl .nil)) (re_storeV (V := (V92 tt)) ((x0_0.getD s15v.1.toNat dz92).1, x1_4) 1 dz92 3 rfl rfl rfl Try.sizeOf9 rfl rfl (one_of (by rfl)) rfl hl130v ha135v (by omega) rfl (fun r hr _ _ => by cases (show r = _ from hr); exact rfl)) (fun _ => ⟨rfl, rfl, rfl, rfl, rfl, rfl, rfl, rfl, rfl, trivial⟩) (fun _ => .inl rfl) (fun z => ent_eq ((rfl : _ = [obj b0 47 [.slice a0_0 x0_0.length c0_0, .slice a0_1 x0_1.length c0_1], obj b2v 28 [.int .i64 0, str ([] : List UInt8)], obj b1v 33 [.int .i64 x1_0, .int .i64 x1_1, .int .i64 x1_2, str x1_3, str x1_4, str x1_5], RowV 92 2 (V92 tt) a0_0 (x0_0.set s15v.1.toNat ((x0_0.getD s15v.1.toNat dz92).1, x1_4)) c0_0, Row 86 4 a0_1 x0_1.length c0_1 rs131v.flatten, F]).trans ((by simp only [List.length_set, copyB_length] : [obj b0 47 [.slice a0_0 x0_0.length c0_0, .slice a0_1 x0_1.length c0_1], obj b2v 28 [.int .i64 0, str ([] : List UInt8)], obj b1v 33 [.int .i64 x1_0, .int .i64 x1_1, .int .i64 x1_2, str x1_3, str x1_4, str x1_5], RowV 92 2 (V92 tt) a0_0 (x0_0.set s15v.1.toNat ((x0_0.getD s15v.1.toNat dz92).1, x1_4)) c0_0, Row 86 4 a0_1 x0_1.length c0_1 rs131v.flatten, F] = [obj b0 47 [.slice a0_0 ((x0_0.set s15v.1.toNat ((x0_0.getD s15v.1.toNat dz92).1, x1_4)).length) c0_0, .slice a0_1 x0_1.length c0_1], obj b2v 28 [.int .i64 0, str ([] : List UInt8)], obj b1v 33 [.int .i64 x1_0, .int .i64 x1_1, .int .i64 x1_2, str x1_3, str x1_4, str x1_5], RowV 92 2 (V92 tt) a0_0 (x0_0.set s15v.1.toNat ((x0_0.getD s15v.1.toNat dz92).1, x1_4)) c0_0, Row 86 4 a0_1 x0_1.length c0_1 rs131v.flatten, F]).trans rfl)))) zA)
 intro g141v
 refine nrm_then (sr ?_)
 refine vq (q_build (v := .agg #[.int .i64 1, str ([] : List UInt8)]) rfl rfl (fun _ => by kernel_rfl)) rfl ?_
 refine simL_do (re_store 1 rfl rfl rfl Try.sizeOf28 rfl rfl (one_of (by rfl)) rfl rfl) rfl rfl ?_
 intro _
 refine simL_nil (nrm_then (sim_rtn ?_))
 exact rtn_fnC (vs := [.agg #[.int .i64 1, str ([] : List UInt8)]]) (a0_0, c0_0, a0_1, c0_1) rfl ⟨⟨b2v, rfl, load_agg 1 Try.isAgg28 Try.sizeOf28 rfl rfl⟩, trivial⟩ rfl (.sel 0 rfl (.sel 2 rfl (.sel' 2 rfl (RowV.mk hl132v) (.sel 2 rfl (.nil _)))))

def synodref11_Store_Do.l0 (x0_1 : List (Ty86)) (x1_1 : Int) : Nat → Int → Option (Int)
  | 0, _ => none
  | k + 1, z12v => (if z12v < (x0_1.length : Int) then (if 0 ≤ z12v ∧ z12v < (x0_1.length : Int) then (some (decide ((x0_1.getD z12v.toNat dz86).1 < x1_1))) else none) else (some false)).bind fun s13v => (if s13v = true then (synodref11_Store_Do.l0 x0_1 x1_1 k (IntKind.i64.wrap (z12v + 1))) else (some z12v))
def synodref11_Store_Do.f (k : Nat) (x0_0 : List (Ty92)) (x0_1 : List (Ty86)) (x1_0 : Int) (x1_1 : Int) (x1_2 : Int) (x1_3 : List UInt8) (x1_4 : List UInt8) (x1_5 : List UInt8) : Option (Int × List UInt8 × Int × (List (Ty92)) × (List (Ty86))) := (synodref3_CheckCommand.f x1_0 x1_1 x1_2 x1_3 x1_4 x1_5).bind fun s3v => (if s3v = (0 : Int) then ((synodref11_Store_Do.l0 x0_1 x1_1 k 0).bind fun s8v => ((if s8v < (x0_1.length : Int) then (if 0 ≤ s8v ∧ s8v < (x0_1.length : Int) then (some (decide ((x0_1.getD s8v.toNat dz86).1 = x1_1))) else none) else (some false)).bind fun s32v => ((if s32v = true then (if 0 ≤ s8v ∧ s8v < (x0_1.length : Int) then (some (decide (x1_2 = (x0_1.getD s8v.toNat dz86).2.1))) else none) else (some false)).bind fun s49v => (if s49v = true then (if 0 ≤ s8v ∧ s8v < (x0_1.length : Int) then (some ((x0_1.getD s8v.toNat dz86).2.2.1, (x0_1.getD s8v.toNat dz86).2.2.2, s3v, x0_0, x0_1)) else none) else ((if s32v = true then (if 0 ≤ s8v ∧ s8v < (x0_1.length : Int) then (some (decide (x1_2 < (x0_1.getD s8v.toNat dz86).2.1))) else none) else (some false)).bind fun s78v => (if s78v = true then (some (4, ([] : List UInt8), s3v, x0_0, x0_1)) else (if ((!s32v) && (decide ((32 : Int) ≤ (x0_1.length : Int)))) = true then (some (5, ([] : List UInt8), s3v, x0_0, x0_1)) else ((synodref11_Store_does.f k x0_0 x0_1 x1_0 x1_1 x1_2 x1_3 x1_4 x1_5).bind fun s103v => ((if (!s32v) = true then (if 0 ≤ (0 : Int) ∧ (0 : Int) ≤ s8v ∧ s8v ≤ (s103v.2.2.2.length : Int) then (if (([] : List (Ty86)).length + (cut s103v.2.2.2 (0 : Int) s8v).length) * 40 ≤ 140737488355328 then (if ((([] : List (Ty86)) ++ (cut s103v.2.2.2 (0 : Int) s8v)).length + ([(x1_1, (0 : Int), (0 : Int), ([] : List UInt8))] : List (Ty86)).length) * 40 ≤ 140737488355328 then (if 0 ≤ s8v ∧ s8v ≤ (s103v.2.2.2.length : Int) ∧ (s103v.2.2.2.length : Int) ≤ (s103v.2.2.2.length : Int) then (if (((([] : List (Ty86)) ++ (cut s103v.2.2.2 (0 : Int) s8v)) ++ ([(x1_1, (0 : Int), (0 : Int), ([] : List UInt8))] : List (Ty86))).length + (cut s103v.2.2.2 s8v (s103v.2.2.2.length : Int)).length) * 40 ≤ 140737488355328 then (some (((([] : List (Ty86)) ++ (cut s103v.2.2.2 (0 : Int) s8v)) ++ ([(x1_1, (0 : Int), (0 : Int), ([] : List UInt8))] : List (Ty86))) ++ (cut s103v.2.2.2 s8v (s103v.2.2.2.length : Int)))) else none) else none) else none) else none) else none) else (some s103v.2.2.2)).bind fun s107v => (if 0 ≤ s8v ∧ s8v < (s107v.length : Int) then (some (s103v.1, s103v.2.1, s3v, s103v.2.2.1, s107v.set s8v.toNat (x1_1, x1_2, s103v.1, s103v.2.1))) else none)))))))))) else (some (0, ([] : List UInt8), s3v, x0_0, x0_1)))
theorem synodref11_Store_Do.calls (W : World) (F : HA) (k : Nat) (b0 : Nat) (a0_0 : Option Addr) (c0_0 : Nat) (x0_0 : List (Ty92)) (a0_1 : Option Addr) (c0_1 : Nat) (x0_1 : List (Ty86)) (x1_0 : Int) (x1_1 : Int) (x1_2 : Int) (x1_3 : List UInt8) (x1_4 : List UInt8) (x1_5 : List UInt8)  :
    Fn Try.prog W 18 [.pointer (some ⟨b0, 0, none⟩), .agg #[.int .i64 x1_0, .int .i64 x1_1, .int .i64 x1_2, str x1_3, str x1_4, str x1_5]] [obj b0 47 [.slice a0_0 x0_0.length c0_0, .slice a0_1 x0_1.length c0_1], RowV 92 2 (V92 tt) a0_0 x0_0 c0_0, RowV 86 4 (V86 tt) a0_1 x0_1 c0_1] F (synodref11_Store_Do.f k x0_0 x0_1 x1_0 x1_1 x1_2 x1_3 x1_4 x1_5) (fun (r : Int × List UInt8 × Int × (List (Ty92)) × (List (Ty86))) (y : Option Addr × Nat × Option Addr × Nat) => .tuple #[.agg #[.int .i64 r.1, str r.2.1], .int .i64 r.2.2.1]) (fun r y => [obj b0 47 [.slice y.1 r.2.2.2.1.length y.2.1, .slice y.2.2.1 r.2.2.2.2.length y.2.2.2], RowV 92 2 (V92 tt) y.1 r.2.2.2.1 y.2.1, RowV 86 4 (V86 tt) y.2.2.1 r.2.2.2.2 y.2.2.2]) := by
 unfold synodref11_Store_Do.f
 refine fn_intro 154 Try.func18 rfl Try.ntmps18 rfl ?_
 refine sr ?_
 refine simL_eff (re_box rfl rfl rfl) rfl rfl rfl ?_
 intro b1v
 refine simL_eff (re_alloc rfl Try.zeroValue28 rfl) rfl rfl rfl ?_
 intro b2v
 refine va rfl rfl (nx ?_)
 refine vq (q_loado 1 rfl rfl Try.isAgg33 Try.sizeOf33 rfl rfl) rfl ?_
 refine simL_bind (fun s3v hs4v => ?_)
 refine simL_eff (re_call (vs := [.agg #[.int .i64 x1_0, .int .i64 x1_1, .int .i64 x1_2, str x1_3, str x1_4, str x1_5]]) (cap := []) (A := []) (rst := [obj b2v 28 [.int .i64 0, str ([] : List UInt8)], obj b1v 33 [.int .i64 x1_0, .int .i64 x1_1, .int .i64 x1_2, str x1_3, str x1_4, str x1_5], obj b0 47 [.slice a0_0 x0_0.length c0_0, .slice a0_1 x0_1.length c0_1], RowV 92 2 (V92 tt) a0_0 x0_0 c0_0, RowV 86 4 (V86 tt) a0_1 x0_1 c0_1, F]) rfl rfl rfl rfl rfl rfl Try.call35 (.sel 0 rfl (.sel 0 rfl (.sel 0 rfl (.sel 0 rfl (.sel 0 rfl (.sel 0 rfl (.nil _))))))) (synodref3_CheckCommand.calls _ _ x1_0 x1_1 x1_2 x1_3 x1_4 x1_5 ) hs4v) rfl rfl rfl ?_
 intro y5v
 refine va rfl rfl (simL_nil (nrm_then (sim_seq (sr ?_))))
 refine vm rfl rfl ?_
 refine vq (q_neq rfl rfl rfl) rfl (simL_nil (nrm_then ?_))
 refine sim_condn rfl (fun h6v => ?_) (fun h7v => ?_)
 refine sim_skip ?_
 refine nrm_then (sr ?_)
 refine va rfl rfl (simL_nil (nrm_then ?_))
 refine sim_cut (S := Int) (Unit) (fun s y => [(0, .pointer (some ⟨b0, 0, none⟩)), (3, .pointer (some ⟨b1v, 0, none⟩)), (4, .pointer (some ⟨b2v, 0, none⟩)), (6, .int .i64 s3v), (7, .int .i64 s)]) (fun s y => [obj b2v 28 [.int .i64 0, str ([] : List UInt8)], obj b1v 33 [.int .i64 x1_0, .int .i64 x1_1, .int .i64 x1_2, str x1_3, str x1_4, str x1_5], obj b0 47 [.slice a0_0 x0_0.length c0_0, .slice a0_1 x0_1.length c0_1], RowV 92 2 (V92 tt) a0_0 x0_0 c0_0, RowV 86 4 (V86 tt) a0_1 x0_1 c0_1, F]) ?_ ?_
 refine sim_block ?_
 refine sim_loop (S := Int) (Unit) (fun k s => synodref11_Store_Do.l0 x0_1 x1_1 k s) (fun s y => [(0, .pointer (some ⟨b0, 0, none⟩)), (3, .pointer (some ⟨b1v, 0, none⟩)), (4, .pointer (some ⟨b2v, 0, none⟩)), (6, .int .i64 s3v), (7, .int .i64 s)]) (fun s y => [obj b2v 28 [.int .i64 0, str ([] : List UInt8)], obj b1v 33 [.int .i64 x1_0, .int .i64 x1_1, .int .i64 x1_2, str x1_3, str x1_4, str x1_5], obj b0 47 [.slice a0_0 x0_0.length c0_0, .slice a0_1 x0_1.length c0_1], RowV 92 2 (V92 tt) a0_0 x0_0 c0_0, RowV 86 4 (V86 tt) a0_1 x0_1 c0_1, F]) (fun _ => by rw [synodref11_Store_Do.l0]) ?_ k 0 () ⟨rfl, rfl, rfl, rfl, rfl, trivial⟩ (.sel 0 rfl (.sel 0 rfl (.sel 0 rfl (.sel 0 rfl (.sel 0 rfl (.sel 0 rfl (.nil _)))))))
 intro k s10v y11v
 refine sim_eq (by rw [synodref11_Store_Do.l0]) ?_
 refine sim_seq ?_
 refine sim_cut (S := Bool) (Unit) (fun s y => [(0, .pointer (some ⟨b0, 0, none⟩)), (3, .pointer (some ⟨b1v, 0, none⟩)), (4, .pointer (some ⟨b2v, 0, none⟩)), (6, .int .i64 s3v), (7, .int .i64 s10v), (36, .bool s)]) (fun s y => [obj b2v 28 [.int .i64 0, str ([] : List UInt8)], obj b1v 33 [.int .i64 x1_0, .int .i64 x1_1, .int .i64 x1_2, str x1_3, str x1_4, str x1_5], obj b0 47 [.slice a0_0 x0_0.length c0_0, .slice a0_1 x0_1.length c0_1], RowV 92 2 (V92 tt) a0_0 x0_0 c0_0, RowV 86 4 (V86 tt) a0_1 x0_1 c0_1, F]) ?_ ?_
 refine sim_openV 3 rfl (fun rs15v hl16v => ?_)
 refine sim_openV 4 rfl (fun rs17v hl18v => ?_)
 refine sim_if (fun hk19v => ?_) (fun hk19v => ?_)
 refine sim_ask (fun hi20v => ?_)
 refine sim_posV 4 rfl hl18v rfl (i := s10v.toNat) (by omega) dz86 (fun b21v b21vo r24v ha22v hV25v hlr26v hcell27v => ?_)
 obtain rfl := hV25v
 refine sim_draw (Γ := Unit) () [[], [], [1], [1, 2], [1, 2, 3], [1, 2, 3, 4], rL 6, rL 7, rL 8, rL 9, rL 10, rL 11, rL 8, rL 13, rL 14, rL 15, rL 8, [0, 1, 2, 3, 4, 5, 6, 7, 16], rL 18, rL 19] [] [0, 1, 2, 3, 4, 5, 6, 7, 8, 9, 10, 11, 12, 13, 14, 15, 16, 17, 18, 19] (fun i => [[0], [0], [0], [0], [0], [0], [0], [0], [0], [0], [0], [0], [0], [0], [0], [0], [0], [0], [0], [0]].getD i []) (fun i => [[], [], [], [], [], [], [], [], [], [], [], [], [], [], [], [], [], [], [], []].getD i []) (fun γ i => [.int .i64 s10v, .pointer (some ⟨b0, 0, none⟩), .pointer (some ⟨b0, 0, none⟩), .pointer (some ⟨b0, 1, none⟩), .slice a0_1 x0_1.length c0_1, .int .i64 (x0_1.length : Int), .bool (decide (s10v < (x0_1.length : Int))), .bool (decide (s10v < (x0_1.length : Int))), .pointer (some ⟨b0, 0, none⟩), .pointer (some ⟨b0, 0, none⟩), .pointer (some ⟨b0, 1, none⟩), .slice a0_1 x0_1.length c0_1, .int .i64 s10v, .pointer (some ⟨b21v, b21vo + s10v.toNat * 4, none⟩), .pointer (some ⟨b21v, b21vo + s10v.toNat * 4 + 0, none⟩), .int .i64 ((x0_1.getD s10v.toNat dz86).1), .pointer (some ⟨b1v, 1, none⟩), .int .i64 x1_1, .bool (decide ((x0_1.getD s10v.toNat dz86).1 < x1_1)), .bool (decide ((x0_1.getD s10v.toNat dz86).1 < x1_1))].getD i undef) (fun j γ => [[obj b2v 28 [.int .i64 0, str ([] : List UInt8)], obj b1v 33 [.int .i64 x1_0, .int .i64 x1_1, .int .i64 x1_2, str x1_3, str x1_4, str x1_5], obj b0 47 [.slice a0_0 x0_0.length c0_0, .slice a0_1 x0_1.length c0_1], Row 92 2 a0_0 x0_0.length c0_0 rs15v.flatten, Row 86 4 a0_1 x0_1.length c0_1 rs17v.flatten, F]].getD j []) (fun γ => [(0, .pointer (some ⟨b0, 0, none⟩)), (3, .pointer (some ⟨b1v, 0, none⟩)), (4, .pointer (some ⟨b2v, 0, none⟩)), (6, .int .i64 s3v), (7, .int .i64 s10v), (25, .pointer (some ⟨b0, 0, none⟩)), (26, .pointer (some ⟨b0, 0, none⟩)), (27, .pointer (some ⟨b0, 1, none⟩)), (28, .slice a0_1 x0_1.length c0_1), (29, .int .i64 s10v), (30, .pointer (some ⟨b21v, b21vo + s10v.toNat * 4, none⟩)), (31, .pointer (some ⟨b21v, b21vo + s10v.toNat * 4 + 0, none⟩)), (32, .int .i64 ((x0_1.getD s10v.toNat dz86).1)), (33, .pointer (some ⟨b1v, 1, none⟩)), (34, .int .i64 x1_1), (35, .bool (decide ((x0_1.getD s10v.toNat dz86).1 < x1_1))), (36, .bool (decide ((x0_1.getD s10v.toNat dz86).1 < x1_1)))]) mixed (by decide) (by decide) (by decide) (by decide) (by decide) (by decide) (by decide) 154 rfl (by decide) (by decide) (by decide) (Ent.refl _) ?_ ?_ (fun _ => ⟨rfl, rfl, rfl, rfl, rfl, rfl, rfl, rfl, rfl, rfl, rfl, rfl, rfl, rfl, rfl, rfl, rfl, trivial⟩) ?_
 exact (aq rfl (fun γ => qm rfl (.o (s := 7) rfl (by decide) .nil) rfl) (aq rfl (fun γ => qm rfl (.o (s := 0) rfl (by decide) .nil) rfl) (aq rfl (fun γ => qp rfl rfl (.v 1 rfl rfl .nil) (q_nil rfl rfl) rfl) (aq rfl (fun γ => qp rfl rfl (.v 2 rfl rfl .nil) (q_fa rfl rfl Try.underlying47 rfl rfl Try.sizeOf45 rfl) rfl) (aq rfl (fun γ => qp rfl rfl (.v 3 rfl rfl .nil) (q_load rfl rfl Try.isAgg45 (.obj 2 rfl rfl)) rfl) (aq rfl (fun γ => qp rfl rfl (.v 4 rfl rfl .nil) (q_len rfl rfl rfl Try.underlying45) rfl) (aq rfl (fun γ => qp rfl rfl (.v 0 rfl rfl (.v 5 rfl rfl .nil)) (q_lss rfl rfl rfl) rfl) (aq rfl (fun γ => qm rfl (.v 6 rfl rfl .nil) rfl) (aq rfl (fun γ => qy rfl rfl (.o (s := 0) rfl (by decide) (.v 7 rfl rfl .nil)) rfl rfl (beq_yes (decide_eq_true hk19v)) (q_move rfl rfl) rfl) (aq rfl (fun γ => qy rfl rfl (.v 7 rfl rfl (.v 8 rfl rfl .nil)) rfl rfl (beq_yes (decide_eq_true hk19v)) (q_nil rfl rfl) rfl) (aq rfl (fun γ => qy rfl rfl (.v 7 rfl rfl (.v 9 rfl rfl .nil)) rfl rfl (beq_yes (decide_eq_true hk19v)) (q_fa rfl rfl Try.underlying47 rfl rfl Try.sizeOf45 rfl) rfl) (aq rfl (fun γ => qy rfl rfl (.v 7 rfl rfl (.v 10 rfl rfl .nil)) rfl rfl (beq_yes (decide_eq_true hk19v)) (q_load rfl rfl Try.isAgg45 (.obj 2 rfl rfl)) rfl) (aq rfl (fun γ => qy rfl rfl (.o (s := 7) rfl (by decide) (.v 7 rfl rfl .nil)) rfl rfl (beq_yes (decide_eq_true hk19v)) (q_move rfl rfl) rfl) (aq rfl (fun γ => qy rfl rfl (.v 7 rfl rfl (.v 11 rfl rfl (.v 12 rfl rfl .nil))) rfl rfl (beq_yes (decide_eq_true hk19v)) (q_idx rfl rfl rfl ha22v Try.underlying45 Try.sizeOf86 hi20v.1 hi20v.2) rfl) (aq rfl (fun γ => qy rfl rfl (.v 7 rfl rfl (.v 13 rfl rfl .nil)) rfl rfl (beq_yes (decide_eq_true hk19v)) (q_fa rfl rfl Try.underlying86 rfl rfl Try.sizeOf3 rfl) rfl) (aq rfl (fun γ => qy rfl rfl (.v 7 rfl rfl (.v 14 rfl rfl .nil)) rfl rfl (beq_yes (decide_eq_true hk19v)) (q_load rfl rfl Try.isAgg3 (hcell27v 4 rfl 0 _ rfl)) rfl) (aq rfl (fun γ => qy rfl rfl (.o (s := 3) rfl (by decide) (.v 7 rfl rfl .nil)) rfl rfl (beq_yes (decide_eq_true hk19v)) (q_fa rfl rfl Try.underlying33 rfl rfl Try.sizeOf3 rfl) rfl) (aq rfl (fun γ => qy rfl rfl (.v 7 rfl rfl (.v 16 rfl rfl .nil)) rfl rfl (beq_yes (decide_eq_true hk19v)) (q_load rfl rfl Try.isAgg3 (.obj 1 rfl rfl)) rfl) (aq rfl (fun γ => qy rfl rfl (.v 7 rfl rfl (.v 15 rfl rfl (.v 17 rfl rfl .nil))) rfl rfl (beq_yes (decide_eq_true hk19v)) (q_lss rfl rfl rfl) rfl) (aq rfl (fun γ => qp rfl rfl (.v 7 rfl rfl (.v 18 rfl rfl .nil)) (q_pick rfl rfl rfl rfl (bif_yes (decide_eq_true hk19v) _ _)) rfl) zA))))))))))))))))))))
 exact zA
 intro g28v
 exact nrm_cut (s := decide ((x0_1.getD s10v.toNat dz86).1 < x1_1)) () ⟨rfl, rfl, rfl, rfl, rfl, rfl, trivial⟩ (.sel 0 rfl (.sel 0 rfl (.sel 0 rfl (.sel' 0 rfl (RowV.mk hl16v) (.sel' 0 rfl (RowV.mk hl18v) (.sel 0 rfl (.nil _)))))))
 refine sim_draw (Γ := Unit) () [[], [], [1], [1, 2], [1, 2, 3], [1, 2, 3, 4], rL 6, rL 7, rL 8, rL 9, rL 10, rL 11, rL 8, rL 13, rL 14, rL 15, rL 8, [0, 1, 2, 3, 4, 5, 6, 7, 16], rL 18, rL 19] [] [0, 1, 2, 3, 4, 5, 6, 7, 8, 9, 10, 11, 12, 13, 14, 15, 16, 17, 18, 19] (fun i => [[0], [0], [0], [0], [0], [0], [0], [0], [0], [0], [0], [0], [0], [0], [0], [0], [0], [0], [0], [0]].getD i []) (fun i => [[], [], [], [], [], [], [], [], [], [], [], [], [], [], [], [], [], [], [], []].getD i []) (fun γ i => [.int .i64 s10v, .pointer (some ⟨b0, 0, none⟩), .pointer (some ⟨b0, 0, none⟩), .pointer (some ⟨b0, 1, none⟩), .slice a0_1 x0_1.length c0_1, .int .i64 (x0_1.length : Int), .bool (decide (s10v < (x0_1.length : Int))), .bool (decide (s10v < (x0_1.length : Int))), undef, undef, undef, undef, undef, undef, undef, undef, undef, undef, undef, .bool false].getD i undef) (fun j γ => [[obj b2v 28 [.int .i64 0, str ([] : List UInt8)], obj b1v 33 [.int .i64 x1_0, .int .i64 x1_1, .int .i64 x1_2, str x1_3, str x1_4, str x1_5], obj b0 47 [.slice a0_0 x0_0.length c0_0, .slice a0_1 x0_1.length c0_1], Row 92 2 a0_0 x0_0.length c0_0 rs15v.flatten, Row 86 4 a0_1 x0_1.length c0_1 rs17v.flatten, F]].getD j []) (fun γ => [(0, .pointer (some ⟨b0, 0, none⟩)), (3, .pointer (some ⟨b1v, 0, none⟩)), (4, .pointer (some ⟨b2v, 0, none⟩)), (6, .int .i64 s3v), (7, .int .i64 s10v), (25, undef), (26, undef), (27, undef), (28, undef), (29, undef), (30, undef), (31, undef), (32, undef), (33, undef), (34, undef), (35, undef), (36, .bool false)]) mixed (by decide) (by decide) (by decide) (by decide) (by decide) (by decide) (by decide) 154 rfl (by decide) (by decide) (by decide) (Ent.refl _) ?_ ?_ (fun _ => ⟨rfl, rfl, rfl, rfl, rfl, rfl, rfl, rfl, rfl, rfl, rfl, rfl, rfl, rfl, rfl, rfl, rfl, trivial⟩) ?_
 exact (aq rfl (fun γ => qm rfl (.o (s := 7) rfl (by decide) .nil) rfl) (aq rfl (fun γ => qm rfl (.o (s := 0) rfl (by decide) .nil) rfl) (aq rfl (fun γ => qp rfl rfl (.v 1 rfl rfl .nil) (q_nil rfl rfl) rfl) (aq rfl (fun γ => qp rfl rfl (.v 2 rfl rfl .nil) (q_fa rfl rfl Try.underlying47 rfl rfl Try.sizeOf45 rfl) rfl) (aq rfl (fun γ => qp rfl rfl (.v 3 rfl rfl .nil) (q_load rfl rfl Try.isAgg45 (.obj 2 rfl rfl)) rfl) (aq rfl (fun γ => qp rfl rfl (.v 4 rfl rfl .nil) (q_len rfl rfl rfl Try.underlying45) rfl) (aq rfl (fun γ => qp rfl rfl (.v 0 rfl rfl (.v 5 rfl rfl .nil)) (q_lss rfl rfl rfl) rfl) (aq rfl (fun γ => qm rfl (.v 6 rfl rfl .nil) rfl) (aq rfl (fun γ => qn rfl rfl (.o (s := 0) rfl (by decide) (.v 7 rfl rfl .nil)) rfl rfl (beq_no' (decide_eq_false hk19v)) rfl) (aq rfl (fun γ => qn rfl rfl (.v 7 rfl rfl (.v 8 rfl rfl .nil)) rfl rfl (beq_no' (decide_eq_false hk19v)) rfl) (aq rfl (fun γ => qn rfl rfl (.v 7 rfl rfl (.v 9 rfl rfl .nil)) rfl rfl (beq_no' (decide_eq_false hk19v)) rfl) (aq rfl (fun γ => qn rfl rfl (.v 7 rfl rfl (.v 10 rfl rfl .nil)) rfl rfl (beq_no' (decide_eq_false hk19v)) rfl) (aq rfl (fun γ => qn rfl rfl (.o (s := 7) rfl (by decide) (.v 7 rfl rfl .nil)) rfl rfl (beq_no' (decide_eq_false hk19v)) rfl) (aq rfl (fun γ => qn rfl rfl (.v 7 rfl rfl (.v 11 rfl rfl (.v 12 rfl rfl .nil))) rfl rfl (beq_no' (decide_eq_false hk19v)) rfl) (aq rfl (fun γ => qn rfl rfl (.v 7 rfl rfl (.v 13 rfl rfl .nil)) rfl rfl (beq_no' (decide_eq_false hk19v)) rfl) (aq rfl (fun γ => qn rfl rfl (.v 7 rfl rfl (.v 14 rfl rfl .nil)) rfl rfl (beq_no' (decide_eq_false hk19v)) rfl) (aq rfl (fun γ => qn rfl rfl (.o (s := 3) rfl (by decide) (.v 7 rfl rfl .nil)) rfl rfl (beq_no' (decide_eq_false hk19v)) rfl) (aq rfl (fun γ => qn rfl rfl (.v 7 rfl rfl (.v 16 rfl rfl .nil)) rfl rfl (beq_no' (decide_eq_false hk19v)) rfl) (aq rfl (fun γ => qn rfl rfl (.v 7 rfl rfl (.v 15 rfl rfl (.v 17 rfl rfl .nil))) rfl rfl (beq_no' (decide_eq_false hk19v)) rfl) (aq rfl (fun γ => qp rfl rfl (.v 7 rfl rfl (.v 18 rfl rfl .nil)) (q_pick rfl rfl rfl rfl (bif_no (decide_eq_false hk19v) _ _)) rfl) zA))))))))))))))))))))
 exact zA
 intro g29v
 exact nrm_cut (s := false) () ⟨rfl, rfl, rfl, rfl, rfl, rfl, trivial⟩ (.sel 0 rfl (.sel 0 rfl (.sel 0 rfl (.sel' 0 rfl (RowV.mk hl16v) (.sel' 0 rfl (RowV.mk hl18v) (.sel 0 rfl (.nil _)))))))
 intro s13v y14v
 refine sim_condb rfl (fun h30v => ?_) (fun h31v => ?_)
 refine sim_skip ?_
 refine nrm_then ?_
 refine sim_block ?_
 refine sim_region ?_
 refine vm rfl rfl ?_
 refine vq (q_add rfl rfl rfl) rfl ?_
 refine va rfl rfl (simL_nil (nrm_block ?_))
 exact nrm_again (s := IntKind.i64.wrap (s10v + 1)) () ⟨rfl, rfl, rfl, rfl, rfl, trivial⟩ (.sel 0 rfl (.sel 0 rfl (.sel 0 rfl (.sel 0 rfl (.sel 0 rfl (.sel 0 rfl (.nil _)))))))
 refine sim_exi ?_
 refine exi_then ?_
 refine exi_loop ?_
 refine exi_here ?_
 exact nrm_cut (s := s10v) () ⟨rfl, rfl, rfl, rfl, rfl, trivial⟩ (.sel 0 rfl (.sel 0 rfl (.sel 0 rfl (.sel 0 rfl (.sel 0 rfl (.sel 0 rfl (.nil _)))))))
 intro s8v y9v
 refine sim_cut (S := Bool) (Unit) (fun s y => [(0, .pointer (some ⟨b0, 0, none⟩)), (3, .pointer (some ⟨b1v, 0, none⟩)), (4, .pointer (some ⟨b2v, 0, none⟩)), (6, .int .i64 s3v), (7, .int .i64 s8v), (8, .bool s)]) (fun s y => [obj b2v 28 [.int .i64 0, str ([] : List UInt8)], obj b1v 33 [.int .i64 x1_0, .int .i64 x1_1, .int .i64 x1_2, str x1_3, str x1_4, str x1_5], obj b0 47 [.slice a0_0 x0_0.length c0_0, .slice a0_1 x0_1.length c0_1], RowV 92 2 (V92 tt) a0_0 x0_0 c0_0, RowV 86 4 (V86 tt) a0_1 x0_1 c0_1, F]) ?_ ?_
 refine sim_openV 3 rfl (fun rs34v hl35v => ?_)
 refine sim_openV 4 rfl (fun rs36v hl37v => ?_)
 refine sim_if (fun hk38v => ?_) (fun hk38v => ?_)
 refine sim_ask (fun hi39v => ?_)
 refine sim_posV 4 rfl hl37v rfl (i := s8v.toNat) (by omega) dz86 (fun b40v b40vo r43v ha41v hV44v hlr45v hcell46v => ?_)
 obtain rfl := hV44v
 refine sim_draw (Γ := Unit) () [[], [], [1], [1, 2], [1, 2, 3], [1, 2, 3, 4], rL 6, rL 7, rL 8, rL 9, rL 10, rL 11, rL 8, rL 13, rL 14, rL 15, rL 8, [0, 1, 2, 3, 4, 5, 6, 7, 16], rL 18, rL 19, rL 20] [] [0, 1, 2, 3, 4, 5, 6, 7, 8, 9, 10, 11, 12, 13, 14, 15, 16, 17, 18, 19, 20] (fun i => [[0], [0], [0], [0], [0], [0], [0], [0], [0], [0], [0], [0], [0], [0], [0], [0], [0], [0], [0], [0], [0]].getD i []) (fun i => [[], [], [], [], [], [], [], [], [], [], [], [], [], [], [], [], [], [], [], [], []].getD i []) (fun γ i => [.int .i64 s8v, .pointer (some ⟨b0, 0, none⟩), .pointer (some ⟨b0, 0, none⟩), .pointer (some ⟨b0, 1, none⟩), .slice a0_1 x0_1.length c0_1, .int .i64 (x0_1.length : Int), .bool (decide (s8v < (x0_1.length : Int))), .bool (decide (s8v < (x0_1.length : Int))), .pointer (some ⟨b0, 0, none⟩), .pointer (some ⟨b0, 0, none⟩), .pointer (some ⟨b0, 1, none⟩), .slice a0_1 x0_1.length c0_1, .int .i64 s8v, .pointer (some ⟨b40v, b40vo + s8v.toNat * 4, none⟩), .pointer (some ⟨b40v, b40vo + s8v.toNat * 4 + 0, none⟩), .int .i64 ((x0_1.getD s8v.toNat dz86).1), .pointer (some ⟨b1v, 1, none⟩), .int .i64 x1_1, .bool (decide ((x0_1.getD s8v.toNat dz86).1 = x1_1)), .bool (decide ((x0_1.getD s8v.toNat dz86).1 = x1_1)), .bool (decide ((x0_1.getD s8v.toNat dz86).1 = x1_1))].getD i undef) (fun j γ => [[obj b2v 28 [.int .i64 0, str ([] : List UInt8)], obj b1v 33 [.int .i64 x1_0, .int .i64 x1_1, .int .i64 x1_2, str x1_3, str x1_4, str x1_5], obj b0 47 [.slice a0_0 x0_0.length c0_0, .slice a0_1 x0_1.length c0_1], Row 92 2 a0_0 x0_0.length c0_0 rs34v.flatten, Row 86 4 a0_1 x0_1.length c0_1 rs36v.flatten, F]].getD j []) (fun γ => [(0, .pointer (some ⟨b0, 0, none⟩)), (3, .pointer (some ⟨b1v, 0, none⟩)), (4, .pointer (some ⟨b2v, 0, none⟩)), (6, .int .i64 s3v), (7, .int .i64 s8v), (8, .bool (decide ((x0_1.getD s8v.toNat dz86).1 = x1_1)))]) mixed (by decide) (by decide) (by decide) (by decide) (by decide) (by decide) (by decide) 154 rfl (by decide) (by decide) (by decide) (Ent.refl _) ?_ ?_ (fun _ => ⟨rfl, rfl, rfl, rfl, rfl, rfl, trivial⟩) ?_
 exact (aq rfl (fun γ => qm rfl (.o (s := 7) rfl (by decide) .nil) rfl) (aq rfl (fun γ => qm rfl (.o (s := 0) rfl (by decide) .nil) rfl) (aq rfl (fun γ => qp rfl rfl (.v 1 rfl rfl .nil) (q_nil rfl rfl) rfl) (aq rfl (fun γ => qp rfl rfl (.v 2 rfl rfl .nil) (q_fa rfl rfl Try.underlying47 rfl rfl Try.sizeOf45 rfl) rfl) (aq rfl (fun γ => qp rfl rfl (.v 3 rfl rfl .nil) (q_load rfl rfl Try.isAgg45 (.obj 2 rfl rfl)) rfl) (aq rfl (fun γ => qp rfl rfl (.v 4 rfl rfl .nil) (q_len rfl rfl rfl Try.underlying45) rfl) (aq rfl (fun γ => qp rfl rfl (.v 0 rfl rfl (.v 5 rfl rfl .nil)) (q_lss rfl rfl rfl) rfl) (aq rfl (fun γ => qm rfl (.v 6 rfl rfl .nil) rfl) (aq rfl (fun γ => qy rfl rfl (.o (s := 0) rfl (by decide) (.v 7 rfl rfl .nil)) rfl rfl (beq_yes (decide_eq_true hk38v)) (q_move rfl rfl) rfl) (aq rfl (fun γ => qy rfl rfl (.v 7 rfl rfl (.v 8 rfl rfl .nil)) rfl rfl (beq_yes (decide_eq_true hk38v)) (q_nil rfl rfl) rfl) (aq rfl (fun γ => qy rfl rfl (.v 7 rfl rfl (.v 9 rfl rfl .nil)) rfl rfl (beq_yes (decide_eq_true hk38v)) (q_fa rfl rfl Try.underlying47 rfl rfl Try.sizeOf45 rfl) rfl) (aq rfl (fun γ => qy rfl rfl (.v 7 rfl rfl (.v 10 rfl rfl .nil)) rfl rfl (beq_yes (decide_eq_true hk38v)) (q_load rfl rfl Try.isAgg45 (.obj 2 rfl rfl)) rfl) (aq rfl (fun γ => qy rfl rfl (.o (s := 7) rfl (by decide) (.v 7 rfl rfl .nil)) rfl rfl (beq_yes (decide_eq_true hk38v)) (q_move rfl rfl) rfl) (aq rfl (fun γ => qy rfl rfl (.v 7 rfl rfl (.v 11 rfl rfl (.v 12 rfl rfl .nil))) rfl rfl (beq_yes (decide_eq_true hk38v)) (q_idx rfl rfl rfl ha41v Try.underlying45 Try.sizeOf86 hi39v.1 hi39v.2) rfl) (aq rfl (fun γ => qy rfl rfl (.v 7 rfl rfl (.v 13 rfl rfl .nil)) rfl rfl (beq_yes (decide_eq_true hk38v)) (q_fa rfl rfl Try.underlying86 rfl rfl Try.sizeOf3 rfl) rfl) (aq rfl (fun γ => qy rfl rfl (.v 7 rfl rfl (.v 14 rfl rfl .nil)) rfl rfl (beq_yes (decide_eq_true hk38v)) (q_load rfl rfl Try.isAgg3 (hcell46v 4 rfl 0 _ rfl)) rfl) (aq rfl (fun γ => qy rfl rfl (.o (s := 3) rfl (by decide) (.v 7 rfl rfl .nil)) rfl rfl (beq_yes (decide_eq_true hk38v)) (q_fa rfl rfl Try.underlying33 rfl rfl Try.sizeOf3 rfl) rfl) (aq rfl (fun γ => qy rfl rfl (.v 7 rfl rfl (.v 16 rfl rfl .nil)) rfl rfl (beq_yes (decide_eq_true hk38v)) (q_load rfl rfl Try.isAgg3 (.obj 1 rfl rfl)) rfl) (aq rfl (fun γ => qy rfl rfl (.v 7 rfl rfl (.v 15 rfl rfl (.v 17 rfl rfl .nil))) rfl rfl (beq_yes (decide_eq_true hk38v)) (q_eql rfl rfl rfl) rfl) (aq rfl (fun γ => qp rfl rfl (.v 7 rfl rfl (.v 18 rfl rfl .nil)) (q_pick rfl rfl rfl rfl (bif_yes (decide_eq_true hk38v) _ _)) rfl) (aq rfl (fun γ => qp rfl rfl (.v 19 rfl rfl .nil) (q_asg rfl rfl) rfl) zA)))))))))))))))))))))
 exact zA
 intro g47v
 exact nrm_cut (s := decide ((x0_1.getD s8v.toNat dz86).1 = x1_1)) () ⟨rfl, rfl, rfl, rfl, rfl, rfl, trivial⟩ (.sel 0 rfl (.sel 0 rfl (.sel 0 rfl (.sel' 0 rfl (RowV.mk hl35v) (.sel' 0 rfl (RowV.mk hl37v) (.sel 0 rfl (.nil _)))))))
 refine sim_draw (Γ := Unit) () [[], [], [1], [1, 2], [1, 2, 3], [1, 2, 3, 4], rL 6, rL 7, rL 8, rL 9, rL 10, rL 11, rL 8, rL 13, rL 14, rL 15, rL 8, [0, 1, 2, 3, 4, 5, 6, 7, 16], rL 18, rL 19, rL 20] [] [0, 1, 2, 3, 4, 5, 6, 7, 8, 9, 10, 11, 12, 13, 14, 15, 16, 17, 18, 19, 20] (fun i => [[0], [0], [0], [0], [0], [0], [0], [0], [0], [0], [0], [0], [0], [0], [0], [0], [0], [0], [0], [0], [0]].getD i []) (fun i => [[], [], [], [], [], [], [], [], [], [], [], [], [], [], [], [], [], [], [], [], []].getD i []) (fun γ i => [.int .i64 s8v, .pointer (some ⟨b0, 0, none⟩), .pointer (some ⟨b0, 0, none⟩), .pointer (some ⟨b0, 1, none⟩), .slice a0_1 x0_1.length c0_1, .int .i64 (x0_1.length : Int), .bool (decide (s8v < (x0_1.length : Int))), .bool (decide (s8v < (x0_1.length : Int))), undef, undef, undef, undef, undef, undef, undef, undef, undef, undef, undef, .bool false, .bool false].getD i undef) (fun j γ => [[obj b2v 28 [.int .i64 0, str ([] : List UInt8)], obj b1v 33 [.int .i64 x1_0, .int .i64 x1_1, .int .i64 x1_2, str x1_3, str x1_4, str x1_5], obj b0 47 [.slice a0_0 x0_0.length c0_0, .slice a0_1 x0_1.length c0_1], Row 92 2 a0_0 x0_0.length c0_0 rs34v.flatten, Row 86 4 a0_1 x0_1.length c0_1 rs36v.flatten, F]].getD j []) (fun γ => [(0, .pointer (some ⟨b0, 0, none⟩)), (3, .pointer (some ⟨b1v, 0, none⟩)), (4, .pointer (some ⟨b2v, 0, none⟩)), (6, .int .i64 s3v), (7, .int .i64 s8v), (8, .bool false)]) mixed (by decide) (by decide) (by decide) (by decide) (by decide) (by decide) (by decide) 154 rfl (by decide) (by decide) (by decide) (Ent.refl _) ?_ ?_ (fun _ => ⟨rfl, rfl, rfl, rfl, rfl, rfl, trivial⟩) ?_
 exact (aq rfl (fun γ => qm rfl (.o (s := 7) rfl (by decide) .nil) rfl) (aq rfl (fun γ => qm rfl (.o (s := 0) rfl (by decide) .nil) rfl) (aq rfl (fun γ => qp rfl rfl (.v 1 rfl rfl .nil) (q_nil rfl rfl) rfl) (aq rfl (fun γ => qp rfl rfl (.v 2 rfl rfl .nil) (q_fa rfl rfl Try.underlying47 rfl rfl Try.sizeOf45 rfl) rfl) (aq rfl (fun γ => qp rfl rfl (.v 3 rfl rfl .nil) (q_load rfl rfl Try.isAgg45 (.obj 2 rfl rfl)) rfl) (aq rfl (fun γ => qp rfl rfl (.v 4 rfl rfl .nil) (q_len rfl rfl rfl Try.underlying45) rfl) (aq rfl (fun γ => qp rfl rfl (.v 0 rfl rfl (.v 5 rfl rfl .nil)) (q_lss rfl rfl rfl) rfl) (aq rfl (fun γ => qm rfl (.v 6 rfl rfl .nil) rfl) (aq rfl (fun γ => qn rfl rfl (.o (s := 0) rfl (by decide) (.v 7 rfl rfl .nil)) rfl rfl (beq_no' (decide_eq_false hk38v)) rfl) (aq rfl (fun γ => qn rfl rfl (.v 7 rfl rfl (.v 8 rfl rfl .nil)) rfl rfl (beq_no' (decide_eq_false hk38v)) rfl) (aq rfl (fun γ => qn rfl rfl (.v 7 rfl rfl (.v 9 rfl rfl .nil)) rfl rfl (beq_no' (decide_eq_false hk38v)) rfl) (aq rfl (fun γ => qn rfl rfl (.v 7 rfl rfl (.v 10 rfl rfl .nil)) rfl rfl (beq_no' (decide_eq_false hk38v)) rfl) (aq rfl (fun γ => qn rfl rfl (.o (s := 7) rfl (by decide) (.v 7 rfl rfl .nil)) rfl rfl (beq_no' (decide_eq_false hk38v)) rfl) (aq rfl (fun γ => qn rfl rfl (.v 7 rfl rfl (.v 11 rfl rfl (.v 12 rfl rfl .nil))) rfl rfl (beq_no' (decide_eq_false hk38v)) rfl) (aq rfl (fun γ => qn rfl rfl (.v 7 rfl rfl (.v 13 rfl rfl .nil)) rfl rfl (beq_no' (decide_eq_false hk38v)) rfl) (aq rfl (fun γ => qn rfl rfl (.v 7 rfl rfl (.v 14 rfl rfl .nil)) rfl rfl (beq_no' (decide_eq_false hk38v)) rfl) (aq rfl (fun γ => qn rfl rfl (.o (s := 3) rfl (by decide) (.v 7 rfl rfl .nil)) rfl rfl (beq_no' (decide_eq_false hk38v)) rfl) (aq rfl (fun γ => qn rfl rfl (.v 7 rfl rfl (.v 16 rfl rfl .nil)) rfl rfl (beq_no' (decide_eq_false hk38v)) rfl) (aq rfl (fun γ => qn rfl rfl (.v 7 rfl rfl (.v 15 rfl rfl (.v 17 rfl rfl .nil))) rfl rfl (beq_no' (decide_eq_false hk38v)) rfl) (aq rfl (fun γ => qp rfl rfl (.v 7 rfl rfl (.v 18 rfl rfl .nil)) (q_pick rfl rfl rfl rfl (bif_no (decide_eq_false hk38v) _ _)) rfl) (aq rfl (fun γ => qp rfl rfl (.v 19 rfl rfl .nil) (q_asg rfl rfl) rfl) zA)))))))))))))))))))))
 exact zA
 intro g48v
 exact nrm_cut (s := false) () ⟨rfl, rfl, rfl, rfl, rfl, rfl, trivial⟩ (.sel 0 rfl (.sel 0 rfl (.sel 0 rfl (.sel' 0 rfl (RowV.mk hl35v) (.sel' 0 rfl (RowV.mk hl37v) (.sel 0 rfl (.nil _)))))))
 intro s32v y33v
 refine sim_seq ?_
 refine sim_cut (S := Bool) (Unit) (fun s y => [(0, .pointer (some ⟨b0, 0, none⟩)), (3, .pointer (some ⟨b1v, 0, none⟩)), (4, .pointer (some ⟨b2v, 0, none⟩)), (6, .int .i64 s3v), (7, .int .i64 s8v), (8, .bool s32v), (72, .bool s)]) (fun s y => [obj b2v 28 [.int .i64 0, str ([] : List UInt8)], obj b1v 33 [.int .i64 x1_0, .int .i64 x1_1, .int .i64 x1_2, str x1_3, str x1_4, str x1_5], obj b0 47 [.slice a0_0 x0_0.length c0_0, .slice a0_1 x0_1.length c0_1], RowV 92 2 (V92 tt) a0_0 x0_0 c0_0, RowV 86 4 (V86 tt) a0_1 x0_1 c0_1, F]) ?_ ?_
 refine sim_openV 3 rfl (fun rs51v hl52v => ?_)
 refine sim_openV 4 rfl (fun rs53v hl54v => ?_)
 refine sim_if (fun hk55v => ?_) (fun hk55v => ?_)
 refine sim_ask (fun hi56v => ?_)
 refine sim_posV 4 rfl hl54v rfl (i := s8v.toNat) (by omega) dz86 (fun b57v b57vo r60v ha58v hV61v hlr62v hcell63v => ?_)
 obtain rfl := hV61v
 refine sim_draw (Γ := Unit) () [[], [0], [0, 1], [0, 1, 2], [0, 1], [0, 1, 4], [0, 1, 4, 5], [0, 1, 4, 5, 6], [0, 1], [0, 1, 4, 5, 6, 7, 8], [0, 1, 4, 5, 6, 7, 8, 9], [0, 1, 4, 5, 6, 7, 8, 9, 10], rL 12, rL 13] [] [0, 1, 2, 3, 4, 5, 6, 7, 8, 9, 10, 11, 12, 13] (fun i => [[0], [0], [0], [0], [0], [0], [0], [0], [0], [0], [0], [0], [0], [0]].getD i []) (fun i => [[], [], [], [], [], [], [], [], [], [], [], [], [], []].getD i []) (fun γ i => [.bool s32v, .bool s32v, .pointer (some ⟨b1v, 2, none⟩), .int .i64 x1_2, .pointer (some ⟨b0, 0, none⟩), .pointer (some ⟨b0, 0, none⟩), .pointer (some ⟨b0, 1, none⟩), .slice a0_1 x0_1.length c0_1, .int .i64 s8v, .pointer (some ⟨b57v, b57vo + s8v.toNat * 4, none⟩), .pointer (some ⟨b57v, b57vo + s8v.toNat * 4 + 1, none⟩), .int .i64 ((x0_1.getD s8v.toNat dz86).2.1), .bool (decide (x1_2 = (x0_1.getD s8v.toNat dz86).2.1)), .bool (decide (x1_2 = (x0_1.getD s8v.toNat dz86).2.1))].getD i undef) (fun j γ => [[obj b2v 28 [.int .i64 0, str ([] : List UInt8)], obj b1v 33 [.int .i64 x1_0, .int .i64 x1_1, .int .i64 x1_2, str x1_3, str x1_4, str x1_5], obj b0 47 [.slice a0_0 x0_0.length c0_0, .slice a0_1 x0_1.length c0_1], Row 92 2 a0_0 x0_0.length c0_0 rs51v.flatten, Row 86 4 a0_1 x0_1.length c0_1 rs53v.flatten, F]].getD j []) (fun γ => [(0, .pointer (some ⟨b0, 0, none⟩)), (3, .pointer (some ⟨b1v, 0, none⟩)), (4, .pointer (some ⟨b2v, 0, none⟩)), (6, .int .i64 s3v), (7, .int .i64 s8v), (8, .bool s32v), (72, .bool (decide (x1_2 = (x0_1.getD s8v.toNat dz86).2.1)))]) mixed (by decide) (by decide) (by decide) (by decide) (by decide) (by decide) (by decide) 154 rfl (by decide) (by decide) (by decide) (Ent.refl _) ?_ ?_ (fun _ => ⟨rfl, rfl, rfl, rfl, rfl, rfl, rfl, trivial⟩) ?_
 exact (aq rfl (fun γ => qm rfl (.o (s := 8) rfl (by decide) .nil) rfl) (aq rfl (fun γ => qm rfl (.v 0 rfl rfl .nil) rfl) (aq rfl (fun γ => qy rfl rfl (.o (s := 3) rfl (by decide) (.v 1 rfl rfl .nil)) rfl rfl (beq_yes hk55v) (q_fa rfl rfl Try.underlying33 rfl rfl Try.sizeOf3 rfl) rfl) (aq rfl (fun γ => qy rfl rfl (.v 1 rfl rfl (.v 2 rfl rfl .nil)) rfl rfl (beq_yes hk55v) (q_load rfl rfl Try.isAgg3 (.obj 1 rfl rfl)) rfl) (aq rfl (fun γ => qy rfl rfl (.o (s := 0) rfl (by decide) (.v 1 rfl rfl .nil)) rfl rfl (beq_yes hk55v) (q_move rfl rfl) rfl) (aq rfl (fun γ => qy rfl rfl (.v 1 rfl rfl (.v 4 rfl rfl .nil)) rfl rfl (beq_yes hk55v) (q_nil rfl rfl) rfl) (aq rfl (fun γ => qy rfl rfl (.v 1 rfl rfl (.v 5 rfl rfl .nil)) rfl rfl (beq_yes hk55v) (q_fa rfl rfl Try.underlying47 rfl rfl Try.sizeOf45 rfl) rfl) (aq rfl (fun γ => qy rfl rfl (.v 1 rfl rfl (.v 6 rfl rfl .nil)) rfl rfl (beq_yes hk55v) (q_load rfl rfl Try.isAgg45 (.obj 2 rfl rfl)) rfl) (aq rfl (fun γ => qy rfl rfl (.o (s := 7) rfl (by decide) (.v 1 rfl rfl .nil)) rfl rfl (beq_yes hk55v) (q_move rfl rfl) rfl) (aq rfl (fun γ => qy rfl rfl (.v 1 rfl rfl (.v 7 rfl rfl (.v 8 rfl rfl .nil))) rfl rfl (beq_yes hk55v) (q_idx rfl rfl rfl ha58v Try.underlying45 Try.sizeOf86 hi56v.1 hi56v.2) rfl) (aq rfl (fun γ => qy rfl rfl (.v 1 rfl rfl (.v 9 rfl rfl .nil)) rfl rfl (beq_yes hk55v) (q_fa rfl rfl Try.underlying86 rfl rfl Try.sizeOf3 rfl) rfl) (aq rfl (fun γ => qy rfl rfl (.v 1 rfl rfl (.v 10 rfl rfl .nil)) rfl rfl (beq_yes hk55v) (q_load rfl rfl Try.isAgg3 (hcell63v 4 rfl 1 _ rfl)) rfl) (aq rfl (fun γ => qy rfl rfl (.v 1 rfl rfl (.v 3 rfl rfl (.v 11 rfl rfl .nil))) rfl rfl (beq_yes hk55v) (q_eql rfl rfl rfl) rfl) (aq rfl (fun γ => qp rfl rfl (.v 1 rfl rfl (.v 12 rfl rfl .nil)) (q_pick rfl rfl rfl rfl (bif_yes hk55v _ _)) rfl) zA))))))))))))))
 exact zA
 intro g64v
 exact nrm_cut (s := decide (x1_2 = (x0_1.getD s8v.toNat dz86).2.1)) () ⟨rfl, rfl, rfl, rfl, rfl, rfl, rfl, trivial⟩ (.sel 0 rfl (.sel 0 rfl (.sel 0 rfl (.sel' 0 rfl (RowV.mk hl52v) (.sel' 0 rfl (RowV.mk hl54v) (.sel 0 rfl (.nil _)))))))
 refine sim_draw (Γ := Unit) () [[], [0], [0, 1], [0, 1, 2], [0, 1], [0, 1, 4], [0, 1, 4, 5], [0, 1, 4, 5, 6], [0, 1], [0, 1, 4, 5, 6, 7, 8], [0, 1, 4, 5, 6, 7, 8, 9], [0, 1, 4, 5, 6, 7, 8, 9, 10], rL 12, rL 13] [] [0, 1, 2, 3, 4, 5, 6, 7, 8, 9, 10, 11, 12, 13] (fun i => [[0], [0], [0], [0], [0], [0], [0], [0], [0], [0], [0], [0], [0], [0]].getD i []) (fun i => [[], [], [], [], [], [], [], [], [], [], [], [], [], []].getD i []) (fun γ i => [.bool s32v, .bool s32v, undef, undef, undef, undef, undef, undef, undef, undef, undef, undef, undef, .bool false].getD i undef) (fun j γ => [[obj b2v 28 [.int .i64 0, str ([] : List UInt8)], obj b1v 33 [.int .i64 x1_0, .int .i64 x1_1, .int .i64 x1_2, str x1_3, str x1_4, str x1_5], obj b0 47 [.slice a0_0 x0_0.length c0_0, .slice a0_1 x0_1.length c0_1], Row 92 2 a0_0 x0_0.length c0_0 rs51v.flatten, Row 86 4 a0_1 x0_1.length c0_1 rs53v.flatten, F]].getD j []) (fun γ => [(0, .pointer (some ⟨b0, 0, none⟩)), (3, .pointer (some ⟨b1v, 0, none⟩)), (4, .pointer (some ⟨b2v, 0, none⟩)), (6, .int .i64 s3v), (7, .int .i64 s8v), (8, .bool s32v), (72, .bool false)]) mixed (by decide) (by decide) (by decide) (by decide) (by decide) (by decide) (by decide) 154 rfl (by decide) (by decide) (by decide) (Ent.refl _) ?_ ?_ (fun _ => ⟨rfl, rfl, rfl, rfl, rfl, rfl, rfl, trivial⟩) ?_
 exact (aq rfl (fun γ => qm rfl (.o (s := 8) rfl (by decide) .nil) rfl) (aq rfl (fun γ => qm rfl (.v 0 rfl rfl .nil) rfl) (aq rfl (fun γ => qn rfl rfl (.o (s := 3) rfl (by decide) (.v 1 rfl rfl .nil)) rfl rfl (beq_no' (eq_false_of_ne_true hk55v)) rfl) (aq rfl (fun γ => qn rfl rfl (.v 1 rfl rfl (.v 2 rfl rfl .nil)) rfl rfl (beq_no' (eq_false_of_ne_true hk55v)) rfl) (aq rfl (fun γ => qn rfl rfl (.o (s := 0) rfl (by decide) (.v 1 rfl rfl .nil)) rfl rfl (beq_no' (eq_false_of_ne_true hk55v)) rfl) (aq rfl (fun γ => qn rfl rfl (.v 1 rfl rfl (.v 4 rfl rfl .nil)) rfl rfl (beq_no' (eq_false_of_ne_true hk55v)) rfl) (aq rfl (fun γ => qn rfl rfl (.v 1 rfl rfl (.v 5 rfl rfl .nil)) rfl rfl (beq_no' (eq_false_of_ne_true hk55v)) rfl) (aq rfl (fun γ => qn rfl rfl (.v 1 rfl rfl (.v 6 rfl rfl .nil)) rfl rfl (beq_no' (eq_false_of_ne_true hk55v)) rfl) (aq rfl (fun γ => qn rfl rfl (.o (s := 7) rfl (by decide) (.v 1 rfl rfl .nil)) rfl rfl (beq_no' (eq_false_of_ne_true hk55v)) rfl) (aq rfl (fun γ => qn rfl rfl (.v 1 rfl rfl (.v 7 rfl rfl (.v 8 rfl rfl .nil))) rfl rfl (beq_no' (eq_false_of_ne_true hk55v)) rfl) (aq rfl (fun γ => qn rfl rfl (.v 1 rfl rfl (.v 9 rfl rfl .nil)) rfl rfl (beq_no' (eq_false_of_ne_true hk55v)) rfl) (aq rfl (fun γ => qn rfl rfl (.v 1 rfl rfl (.v 10 rfl rfl .nil)) rfl rfl (beq_no' (eq_false_of_ne_true hk55v)) rfl) (aq rfl (fun γ => qn rfl rfl (.v 1 rfl rfl (.v 3 rfl rfl (.v 11 rfl rfl .nil))) rfl rfl (beq_no' (eq_false_of_ne_true hk55v)) rfl) (aq rfl (fun γ => qp rfl rfl (.v 1 rfl rfl (.v 12 rfl rfl .nil)) (q_pick rfl rfl rfl rfl (bif_no (eq_false_of_ne_true hk55v) _ _)) rfl) zA))))))))))))))
 exact zA
 intro g65v
 exact nrm_cut (s := false) () ⟨rfl, rfl, rfl, rfl, rfl, rfl, rfl, trivial⟩ (.sel 0 rfl (.sel 0 rfl (.sel 0 rfl (.sel' 0 rfl (RowV.mk hl52v) (.sel' 0 rfl (RowV.mk hl54v) (.sel 0 rfl (.nil _)))))))
 intro s49v y50v
 refine sim_condb rfl (fun h66v => ?_) (fun h67v => ?_)
 refine sr ?_
 refine vm rfl rfl ?_
 refine vn rfl rfl ?_
 refine vq (q_fa rfl rfl Try.underlying47 rfl rfl Try.sizeOf45 rfl) rfl ?_
 refine vq (q_load rfl rfl Try.isAgg45 (.obj 2 rfl rfl)) rfl ?_
 refine vm rfl rfl ?_
 refine simL_openV 4 rfl (fun rs76v hl77v => ?_)
 refine simL_ask (fun hi68v => ?_)
 refine simL_posV 4 rfl hl77v rfl (i := s8v.toNat) (by omega) dz86 (fun b69v b69vo r72v ha70v hV73v hlr74v hcell75v => ?_)
 obtain rfl := hV73v
 refine vq (q_idx rfl rfl rfl ha70v Try.underlying45 Try.sizeOf86 hi68v.1 hi68v.2) rfl ?_
 refine vq (q_fa rfl rfl Try.underlying86 rfl rfl Try.sizeOf28 rfl) rfl ?_
 refine vq (q_loads (vs := [.int .i64 ((x0_1.getD s8v.toNat dz86).2.2.1), str ((x0_1.getD s8v.toNat dz86).2.2.2)]) rfl rfl Try.isAgg28 Try.sizeOf28 rfl (fun j v hj => cellAt_off (hcell75v 4 rfl (2 + j) v (get_drop 2 hj)))) rfl ?_
 refine vm rfl rfl ?_
 refine simL_do (re_store 0 rfl rfl rfl Try.sizeOf28 rfl rfl (one_of (by rfl)) rfl rfl) rfl rfl ?_
 intro _
 refine va rfl rfl (simL_nil (nrm_then (sim_rtn ?_)))
 refine rtn_then ?_
 exact rtn_fnC (vs := [.agg #[.int .i64 ((x0_1.getD s8v.toNat dz86).2.2.1), str ((x0_1.getD s8v.toNat dz86).2.2.2)], .int .i64 s3v]) (a0_0, c0_0, a0_1, c0_1) rfl ⟨⟨b2v, rfl, load_agg 0 Try.isAgg28 Try.sizeOf28 rfl rfl⟩, rfl, trivial⟩ rfl (.sel 2 rfl (.sel 2 rfl (.sel' 2 rfl (RowV.mk hl77v) (.sel 2 rfl (.nil _)))))
 refine sim_skip ?_
 refine nrm_then (sim_seq ?_)
 refine sim_cut (S := Bool) (Unit) (fun s y => [(0, .pointer (some ⟨b0, 0, none⟩)), (3, .pointer (some ⟨b1v, 0, none⟩)), (4, .pointer (some ⟨b2v, 0, none⟩)), (6, .int .i64 s3v), (7, .int .i64 s8v), (8, .bool s32v), (95, .bool s)]) (fun s y => [obj b2v 28 [.int .i64 0, str ([] : List UInt8)], obj b1v 33 [.int .i64 x1_0, .int .i64 x1_1, .int .i64 x1_2, str x1_3, str x1_4, str x1_5], obj b0 47 [.slice a0_0 x0_0.length c0_0, .slice a0_1 x0_1.length c0_1], RowV 92 2 (V92 tt) a0_0 x0_0 c0_0, RowV 86 4 (V86 tt) a0_1 x0_1 c0_1, F]) ?_ ?_
 refine sim_openV 3 rfl (fun rs80v hl81v => ?_)
 refine sim_openV 4 rfl (fun rs82v hl83v => ?_)
 refine sim_if (fun hk84v => ?_) (fun hk84v => ?_)
 refine sim_ask (fun hi85v => ?_)
 refine sim_posV 4 rfl hl83v rfl (i := s8v.toNat) (by omega) dz86 (fun b86v b86vo r89v ha87v hV90v hlr91v hcell92v => ?_)
 obtain rfl := hV90v
 refine sim_draw (Γ := Unit) () [[], [0], [0, 1], [0, 1, 2], [0, 1], [0, 1, 4], [0, 1, 4, 5], [0, 1, 4, 5, 6], [0, 1], [0, 1, 4, 5, 6, 7, 8], [0, 1, 4, 5, 6, 7, 8, 9], [0, 1, 4, 5, 6, 7, 8, 9, 10], rL 12, rL 13] [] [0, 1, 2, 3, 4, 5, 6, 7, 8, 9, 10, 11, 12, 13] (fun i => [[0], [0], [0], [0], [0], [0], [0], [0], [0], [0], [0], [0], [0], [0]].getD i []) (fun i => [[], [], [], [], [], [], [], [], [], [], [], [], [], []].getD i []) (fun γ i => [.bool s32v, .bool s32v, .pointer (some ⟨b1v, 2, none⟩), .int .i64 x1_2, .pointer (some ⟨b0, 0, none⟩), .pointer (some ⟨b0, 0, none⟩), .pointer (some ⟨b0, 1, none⟩), .slice a0_1 x0_1.length c0_1, .int .i64 s8v, .pointer (some ⟨b86v, b86vo + s8v.toNat * 4, none⟩), .pointer (some ⟨b86v, b86vo + s8v.toNat * 4 + 1, none⟩), .int .i64 ((x0_1.getD s8v.toNat dz86).2.1), .bool (decide (x1_2 < (x0_1.getD s8v.toNat dz86).2.1)), .bool (decide (x1_2 < (x0_1.getD s8v.toNat dz86).2.1))].getD i undef) (fun j γ => [[obj b2v 28 [.int .i64 0, str ([] : List UInt8)], obj b1v 33 [.int .i64 x1_0, .int .i64 x1_1, .int .i64 x1_2, str x1_3, str x1_4, str x1_5], obj b0 47 [.slice a0_0 x0_0.length c0_0, .slice a0_1 x0_1.length c0_1], Row 92 2 a0_0 x0_0.length c0_0 rs80v.flatten, Row 86 4 a0_1 x0_1.length c0_1 rs82v.flatten, F]].getD j []) (fun γ => [(0, .pointer (some ⟨b0, 0, none⟩)), (3, .pointer (some ⟨b1v, 0, none⟩)), (4, .pointer (some ⟨b2v, 0, none⟩)), (6, .int .i64 s3v), (7, .int .i64 s8v), (8, .bool s32v), (95, .bool (decide (x1_2 < (x0_1.getD s8v.toNat dz86).2.1)))]) mixed (by decide) (by decide) (by decide) (by decide) (by decide) (by decide) (by decide) 154 rfl (by decide) (by decide) (by decide) (Ent.refl _) ?_ ?_ (fun _ => ⟨rfl, rfl, rfl, rfl, rfl, rfl, rfl, trivial⟩) ?_
 exact (aq rfl (fun γ => qm rfl (.o (s := 8) rfl (by decide) .nil) rfl) (aq rfl (fun γ => qm rfl (.v 0 rfl rfl .nil) rfl) (aq rfl (fun γ => qy rfl rfl (.o (s := 3) rfl (by decide) (.v 1 rfl rfl .nil)) rfl rfl (beq_yes hk84v) (q_fa rfl rfl Try.underlying33 rfl rfl Try.sizeOf3 rfl) rfl) (aq rfl (fun γ => qy rfl rfl (.v 1 rfl rfl (.v 2 rfl rfl .nil)) rfl rfl (beq_yes hk84v) (q_load rfl rfl Try.isAgg3 (.obj 1 rfl rfl)) rfl) (aq rfl (fun γ => qy rfl rfl (.o (s := 0) rfl (by decide) (.v 1 rfl rfl .nil)) rfl rfl (beq_yes hk84v) (q_move rfl rfl) rfl) (aq rfl (fun γ => qy rfl rfl (.v 1 rfl rfl (.v 4 rfl rfl .nil)) rfl rfl (beq_yes hk84v) (q_nil rfl rfl) rfl) (aq rfl (fun γ => qy rfl rfl (.v 1 rfl rfl (.v 5 rfl rfl .nil)) rfl rfl (beq_yes hk84v) (q_fa rfl rfl Try.underlying47 rfl rfl Try.sizeOf45 rfl) rfl) (aq rfl (fun γ => qy rfl rfl (.v 1 rfl rfl (.v 6 rfl rfl .nil)) rfl rfl (beq_yes hk84v) (q_load rfl rfl Try.isAgg45 (.obj 2 rfl rfl)) rfl) (aq rfl (fun γ => qy rfl rfl (.o (s := 7) rfl (by decide) (.v 1 rfl rfl .nil)) rfl rfl (beq_yes hk84v) (q_move rfl rfl) rfl) (aq rfl (fun γ => qy rfl rfl (.v 1 rfl rfl (.v 7 rfl rfl (.v 8 rfl rfl .nil))) rfl rfl (beq_yes hk84v) (q_idx rfl rfl rfl ha87v Try.underlying45 Try.sizeOf86 hi85v.1 hi85v.2) rfl) (aq rfl (fun γ => qy rfl rfl (.v 1 rfl rfl (.v 9 rfl rfl .nil)) rfl rfl (beq_yes hk84v) (q_fa rfl rfl Try.underlying86 rfl rfl Try.sizeOf3 rfl) rfl) (aq rfl (fun γ => qy rfl rfl (.v 1 rfl rfl (.v 10 rfl rfl .nil)) rfl rfl (beq_yes hk84v) (q_load rfl rfl Try.isAgg3 (hcell92v 4 rfl 1 _ rfl)) rfl) (aq rfl (fun γ => qy rfl rfl (.v 1 rfl rfl (.v 3 rfl rfl (.v 11 rfl rfl .nil))) rfl rfl (beq_yes hk84v) (q_lss rfl rfl rfl) rfl) (aq rfl (fun γ => qp rfl rfl (.v 1 rfl rfl (.v 12 rfl rfl .nil)) (q_pick rfl rfl rfl rfl (bif_yes hk84v _ _)) rfl) zA))))))))))))))
 exact zA
 intro g93v
 exact nrm_cut (s := decide (x1_2 < (x0_1.getD s8v.toNat dz86).2.1)) () ⟨rfl, rfl, rfl, rfl, rfl, rfl, rfl, trivial⟩ (.sel 0 rfl (.sel 0 rfl (.sel 0 rfl (.sel' 0 rfl (RowV.mk hl81v) (.sel' 0 rfl (RowV.mk hl83v) (.sel 0 rfl (.nil _)))))))
 refine sim_draw (Γ := Unit) () [[], [0], [0, 1], [0, 1, 2], [0, 1], [0, 1, 4], [0, 1, 4, 5], [0, 1, 4, 5, 6], [0, 1], [0, 1, 4, 5, 6, 7, 8], [0, 1, 4, 5, 6, 7, 8, 9], [0, 1, 4, 5, 6, 7, 8, 9, 10], rL 12, rL 13] [] [0, 1, 2, 3, 4, 5, 6, 7, 8, 9, 10, 11, 12, 13] (fun i => [[0], [0], [0], [0], [0], [0], [0], [0], [0], [0], [0], [0], [0], [0]].getD i []) (fun i => [[], [], [], [], [], [], [], [], [], [], [], [], [], []].getD i []) (fun γ i => [.bool s32v, .bool s32v, undef, undef, undef, undef, undef, undef, undef, undef, undef, undef, undef, .bool false].getD i undef) (fun j γ => [[obj b2v 28 [.int .i64 0, str ([] : List UInt8)], obj b1v 33 [.int .i64 x1_0, .int .i64 x1_1, .int .i64 x1_2, str x1_3, str x1_4, str x1_5], obj b0 47 [.slice a0_0 x0_0.length c0_0, .slice a0_1 x0_1.length c0_1], Row 92 2 a0_0 x0_0.length c0_0 rs80v.flatten, Row 86 4 a0_1 x0_1.length c0_1 rs82v.flatten, F]].getD j []) (fun γ => [(0, .pointer (some ⟨b0, 0, none⟩)), (3, .pointer (some ⟨b1v, 0, none⟩)), (4, .pointer (some ⟨b2v, 0, none⟩)), (6, .int .i64 s3v), (7, .int .i64 s8v), (8, .bool s32v), (95, .bool false)]) mixed (by decide) (by decide) (by decide) (by decide) (by decide) (by decide) (by decide) 154 rfl (by decide) (by decide) (by decide) (Ent.refl _) ?_ ?_ (fun _ => ⟨rfl, rfl, rfl, rfl, rfl, rfl, rfl, trivial⟩) ?_
 exact (aq rfl (fun γ => qm rfl (.o (s := 8) rfl (by decide) .nil) rfl) (aq rfl (fun γ => qm rfl (.v 0 rfl rfl .nil) rfl) (aq rfl (fun γ => qn rfl rfl (.o (s := 3) rfl (by decide) (.v 1 rfl rfl .nil)) rfl rfl (beq_no' (eq_false_of_ne_true hk84v)) rfl) (aq rfl (fun γ => qn rfl rfl (.v 1 rfl rfl (.v 2 rfl rfl .nil)) rfl rfl (beq_no' (eq_false_of_ne_true hk84v)) rfl) (aq rfl (fun γ => qn rfl rfl (.o (s := 0) rfl (by decide) (.v 1 rfl rfl .nil)) rfl rfl (beq_no' (eq_false_of_ne_true hk84v)) rfl) (aq rfl (fun γ => qn rfl rfl (.v 1 rfl rfl (.v 4 rfl rfl .nil)) rfl rfl (beq_no' (eq_false_of_ne_true hk84v)) rfl) (aq rfl (fun γ => qn rfl rfl (.v 1 rfl rfl (.v 5 rfl rfl .nil)) rfl rfl (beq_no' (eq_false_of_ne_true hk84v)) rfl) (aq rfl (fun γ => qn rfl rfl (.v 1 rfl rfl (.v 6 rfl rfl .nil)) rfl rfl (beq_no' (eq_false_of_ne_true hk84v)) rfl) (aq rfl (fun γ => qn rfl rfl (.o (s := 7) rfl (by decide) (.v 1 rfl rfl .nil)) rfl rfl (beq_no' (eq_false_of_ne_true hk84v)) rfl) (aq rfl (fun γ => qn rfl rfl (.v 1 rfl rfl (.v 7 rfl rfl (.v 8 rfl rfl .nil))) rfl rfl (beq_no' (eq_false_of_ne_true hk84v)) rfl) (aq rfl (fun γ => qn rfl rfl (.v 1 rfl rfl (.v 9 rfl rfl .nil)) rfl rfl (beq_no' (eq_false_of_ne_true hk84v)) rfl) (aq rfl (fun γ => qn rfl rfl (.v 1 rfl rfl (.v 10 rfl rfl .nil)) rfl rfl (beq_no' (eq_false_of_ne_true hk84v)) rfl) (aq rfl (fun γ => qn rfl rfl (.v 1 rfl rfl (.v 3 rfl rfl (.v 11 rfl rfl .nil))) rfl rfl (beq_no' (eq_false_of_ne_true hk84v)) rfl) (aq rfl (fun γ => qp rfl rfl (.v 1 rfl rfl (.v 12 rfl rfl .nil)) (q_pick rfl rfl rfl rfl (bif_no (eq_false_of_ne_true hk84v) _ _)) rfl) zA))))))))))))))
 exact zA
 intro g94v
 exact nrm_cut (s := false) () ⟨rfl, rfl, rfl, rfl, rfl, rfl, rfl, trivial⟩ (.sel 0 rfl (.sel 0 rfl (.sel 0 rfl (.sel' 0 rfl (RowV.mk hl81v) (.sel' 0 rfl (RowV.mk hl83v) (.sel 0 rfl (.nil _)))))))
 intro s78v y79v
 refine sim_condb rfl (fun h95v => ?_) (fun h96v => ?_)
 refine sr ?_
 refine vq (q_build (v := .agg #[.int .i64 4, str ([] : List UInt8)]) rfl rfl (fun _ => by kernel_rfl)) rfl ?_
 refine vm rfl rfl ?_
 refine simL_do (re_store 0 rfl rfl rfl Try.sizeOf28 rfl rfl (one_of (by rfl)) rfl rfl) rfl rfl ?_
 intro _
 refine va rfl rfl (simL_nil (nrm_then (sim_rtn ?_)))
 refine rtn_then ?_
 exact rtn_fnC (vs := [.agg #[.int .i64 4, str ([] : List UInt8)], .int .i64 s3v]) (a0_0, c0_0, a0_1, c0_1) rfl ⟨⟨b2v, rfl, load_agg 0 Try.isAgg28 Try.sizeOf28 rfl rfl⟩, rfl, trivial⟩ rfl (.sel 2 rfl (.sel 2 rfl (.sel 2 rfl (.sel 2 rfl (.nil _)))))
 refine sim_skip ?_
 refine nrm_then (sim_seq (sr ?_))
 refine vm rfl rfl ?_
 refine vq (q_not rfl rfl) rfl ?_
 refine vm rfl rfl ?_
 refine simL_valc (b := !s32v) (fun hb174v => RQ.sub (E' := [(0, .pointer (some ⟨b0, 0, none⟩))]) ⟨rfl, trivial⟩ (q_move rfl rfl)) rfl rfl rfl rfl rfl ?_
 refine simL_valc (b := !s32v) (fun hb173v => RQ.sub (E' := [(101, .pointer (some ⟨b0, 0, none⟩))]) ⟨lk_cv rfl hb173v, trivial⟩ (q_nil rfl rfl)) rfl rfl rfl rfl rfl ?_
 refine simL_valc (b := !s32v) (fun hb172v => RQ.sub (E' := [(102, .pointer (some ⟨b0, 0, none⟩))]) ⟨lk_cv rfl hb172v, trivial⟩ (q_fa rfl rfl Try.underlying47 rfl rfl Try.sizeOf45 rfl)) rfl rfl rfl rfl rfl ?_
 refine simL_valc (b := !s32v) (fun hb171v => RQ.sub (E' := [(103, .pointer (some ⟨b0, 1, none⟩))]) ⟨lk_cv rfl hb171v, trivial⟩ (q_load rfl rfl Try.isAgg45 (.obj 2 rfl rfl))) rfl rfl rfl rfl rfl ?_
 refine simL_valc (b := !s32v) (fun hb170v => RQ.sub (E' := [(104, .slice a0_1 x0_1.length c0_1)]) ⟨lk_cv rfl hb170v, trivial⟩ (q_len rfl rfl rfl Try.underlying45)) rfl rfl rfl rfl rfl ?_
 refine simL_valc (b := !s32v) (fun hb169v => RQ.sub (E' := [(105, .int .i64 (x0_1.length : Int))]) ⟨lk_cv rfl hb169v, trivial⟩ (q_geq rfl rfl rfl)) rfl rfl rfl rfl rfl ?_
 refine vq (q_and rfl rfl rfl) rfl (simL_nil (nrm_then ?_))
 refine sim_condb rfl (fun h97v => ?_) (fun h98v => ?_)
 refine sr ?_
 refine vq (q_build (v := .agg #[.int .i64 5, str ([] : List UInt8)]) rfl rfl (fun _ => by kernel_rfl)) rfl ?_
 refine vm rfl rfl ?_
 refine simL_do (re_store 0 rfl rfl rfl Try.sizeOf28 rfl rfl (one_of (by rfl)) rfl rfl) rfl rfl ?_
 intro _
 refine va rfl rfl (simL_nil (nrm_then (sim_rtn ?_)))
 refine rtn_then ?_
 exact rtn_fnC (vs := [.agg #[.int .i64 5, str ([] : List UInt8)], .int .i64 s3v]) (a0_0, c0_0, a0_1, c0_1) rfl ⟨⟨b2v, rfl, load_agg 0 Try.isAgg28 Try.sizeOf28 rfl rfl⟩, rfl, trivial⟩ rfl (.sel 2 rfl (.sel 2 rfl (.sel 2 rfl (.sel 2 rfl (.nil _)))))
 refine sim_skip ?_
 refine nrm_then (sr ?_)
 refine vm rfl rfl ?_
 refine vq (q_loado 1 rfl rfl Try.isAgg33 Try.sizeOf33 rfl rfl) rfl ?_
 refine simL_openV 3 rfl (fun rs99v hl100v => ?_)
 refine simL_openV 4 rfl (fun rs101v hl102v => ?_)
 refine simL_bind (fun s103v hs104v => ?_)
 refine simL_eff (re_call (vs := [.pointer (some ⟨b0, 0, none⟩), .agg #[.int .i64 x1_0, .int .i64 x1_1, .int .i64 x1_2, str x1_3, str x1_4, str x1_5]]) (cap := []) (A := [obj b0 47 [.slice a0_0 x0_0.length c0_0, .slice a0_1 x0_1.length c0_1], RowV 92 2 (V92 tt) a0_0 x0_0 c0_0, RowV 86 4 (V86 tt) a0_1 x0_1 c0_1]) (rst := [obj b2v 28 [.int .i64 0, str ([] : List UInt8)], obj b1v 33 [.int .i64 x1_0, .int .i64 x1_1, .int .i64 x1_2, str x1_3, str x1_4, str x1_5], F]) rfl rfl rfl rfl rfl rfl Try.call36 (.sel 2 rfl (.sel' 2 rfl (RowV.mk hl100v) (.sel' 2 rfl (RowV.mk hl102v) (.sel 0 rfl (.sel 0 rfl (.sel 0 rfl (.nil _))))))) (synodref11_Store_does.calls _ _ k b0 a0_0 c0_0 x0_0 a0_1 c0_1 x0_1 x1_0 x1_1 x1_2 x1_3 x1_4 x1_5 ) hs104v) rfl rfl rfl ?_
 intro y105v
 refine simL_eff (re_alloc rfl Try.zeroValue28 rfl) rfl rfl rfl ?_
 intro b106v
 refine simL_do (re_store 0 rfl rfl rfl Try.sizeOf28 rfl rfl (one_of (by rfl)) rfl rfl) rfl rfl ?_
 intro _
 refine simL_nil (nrm_then ?_)
 refine sim_cut (S := (List (Ty86))) (Option Addr × Nat) (fun s y => [(0, .pointer (some ⟨b0, 0, none⟩)), (3, .pointer (some ⟨b1v, 0, none⟩)), (4, .pointer (some ⟨b2v, 0, none⟩)), (6, .int .i64 s3v), (7, .int .i64 s8v), (9, .pointer (some ⟨b106v, 0, none⟩))]) (fun s y => [obj b106v 28 [.int .i64 s103v.1, str s103v.2.1], obj b0 47 [.slice y105v.1 s103v.2.2.1.length y105v.2.1, .slice y.1 s.length y.2], obj b2v 28 [.int .i64 0, str ([] : List UInt8)], obj b1v 33 [.int .i64 x1_0, .int .i64 x1_1, .int .i64 x1_2, str x1_3, str x1_4, str x1_5], RowV 92 2 (V92 tt) y105v.1 s103v.2.2.1 y105v.2.1, RowV 86 4 (V86 tt) y.1 s y.2, F]) ?_ ?_
 refine sr ?_
 refine vm rfl rfl ?_
 refine vq (q_not rfl rfl) rfl (simL_nil (nrm_then ?_))
 refine sim_condb rfl (fun h109v => ?_) (fun h110v => ?_)
 refine sr ?_
 refine simL_eff (re_lit0V (α := Int × Int × Int × List UInt8) (V := (V86 tt)) rfl Try.underlying45 elt86) rfl rfl rfl ?_
 intro b111v
 refine vm rfl rfl ?_
 refine vn rfl rfl ?_
 refine vq (q_fa rfl rfl Try.underlying47 rfl rfl Try.sizeOf45 rfl) rfl ?_
 refine vq (q_load rfl rfl Try.isAgg45 (.obj 2 rfl rfl)) rfl ?_
 refine vm rfl rfl ?_
 refine simL_openV 4 rfl (fun rs113v hl114v => ?_)
 refine simL_lend 4 rfl (fun hq115v hq116v hq117v hq118v => ?_)
 refine simL_ask (fun hb112v => ?_)
 obtain ⟨a119v, c120v, hS121v, hr122v, hc123v, hm124v⟩ := slice_preV (lo := (0 : Int)) (hi := s8v) (Rd.asV hl114v hq115v) hq116v hb112v
 refine vq (q_sub_roV (l := s103v.2.2.2) (lo' := (0 : Int)) (hi' := s8v) rfl rfl rfl rfl Try.underlying45 Try.sizeOf86 (.inr ⟨_, rfl⟩) (.inl ⟨rfl, rfl⟩) hb112v hq116v hS121v) rfl ?_
 refine simL_openV 0 rfl (fun rs129v hl130v => ?_)
 refine simL_ask (fun hb128v => ?_)
 refine simL_eff (re_appendV 0 rfl rfl rfl Try.underlying45 elt86 rfl hl130v (hr122v.rds 3 rfl) hb128v) rfl rfl rfl ?_
 intro y127v
 refine va rfl rfl (nx ?_)
 refine vm rfl rfl ?_
 refine vq (q_fa rfl rfl Try.underlying33 rfl rfl Try.sizeOf3 rfl) rfl ?_
 refine vq (q_load rfl rfl Try.isAgg3 (.obj 6 rfl rfl)) rfl ?_
 refine vq (q_build (v := .agg #[.int .i64 x1_1, .int .i64 0, .int .i64 0, str ([] : List UInt8)]) rfl rfl (fun _ => by kernel_rfl)) rfl ?_
 have hlb132v : ListV 4 (V86 tt) ([(x1_1, (0 : Int), (0 : Int), ([] : List UInt8))] : List (Ty86)) [[.int .i64 x1_1, .int .i64 0, .int .i64 0, str ([] : List UInt8)]] := ⟨⟨rfl, one_of (by rfl), rfl⟩, trivial⟩
 refine simL_eff (re_litV (V := (V86 tt)) (xs := ([(x1_1, (0 : Int), (0 : Int), ([] : List UInt8))] : List (Ty86))) [[.int .i64 x1_1, .int .i64 0, .int .i64 0, str ([] : List UInt8)]] rfl rfl Try.underlying45 elt86 rfl (by kernel_rfl) rfl hlb132v rfl rfl) rfl rfl rfl ?_
 intro b132v
 refine simL_openV 1 rfl (fun rs137v hl138v => ?_)
 refine simL_ask (fun hb136v => ?_)
 refine simL_eff (re_appendV 1 rfl rfl rfl Try.underlying45 elt86 rfl hl138v (RdsV.row hlb132v 0 rfl) hb136v) rfl rfl rfl ?_
 intro y135v
 refine va rfl rfl (ny ?_)
 refine vm rfl rfl ?_
 refine vm rfl rfl ?_
 refine vm rfl rfl ?_
 refine vn rfl rfl ?_
 refine vq (q_fa rfl rfl Try.underlying47 rfl rfl Try.sizeOf45 rfl) rfl ?_
 refine vq (q_load rfl rfl Try.isAgg45 (.obj 3 rfl rfl)) rfl ?_
 refine vm rfl rfl ?_
 refine simL_lend 5 rfl (fun hq140v hq141v hq142v hq143v => ?_)
 refine simL_ask (fun hb139v => ?_)
 obtain ⟨a144v, c145v, hS146v, hr147v, hc148v, hm149v⟩ := slice_preV (lo := s8v) (hi := (s103v.2.2.2.length : Int)) (Rd.asV hl114v hq140v) hq141v hb139v
 refine vq (q_sub_roV (l := s103v.2.2.2) (lo' := s8v) (hi' := (s103v.2.2.2.length : Int)) rfl rfl rfl rfl Try.underlying45 Try.sizeOf86 (.inl ⟨rfl, rfl⟩) (.inr ⟨_, rfl⟩) hb139v hq141v hS146v) rfl ?_
 refine simL_openV 1 rfl (fun rs154v hl155v => ?_)
 refine simL_ask (fun hb153v => ?_)
 refine simL_eff (re_appendV 1 rfl rfl rfl Try.underlying45 elt86 rfl hl155v (hr147v.rds 4 rfl) hb153v) rfl rfl rfl ?_
 intro y152v
 refine vn rfl rfl ?_
 refine vq (q_fa rfl rfl Try.underlying47 rfl rfl Try.sizeOf45 rfl) rfl ?_
 refine simL_do (re_store 3 rfl rfl rfl Try.sizeOf45 rfl rfl (one_of (by rfl)) rfl rfl) rfl rfl ?_
 intro _
 refine simL_nil ?_
 exact nrm_cut (s := ((([] : List (Ty86)) ++ (cut s103v.2.2.2 (0 : Int) s8v)) ++ ([(x1_1, (0 : Int), (0 : Int), ([] : List UInt8))] : List (Ty86))) ++ (cut s103v.2.2.2 s8v (s103v.2.2.2.length : Int))) (y152v.1, y152v.2) ⟨rfl, rfl, rfl, rfl, rfl, rfl, trivial⟩ (.sel 2 rfl (.sel 2 rfl (.sel 4 rfl (.sel 4 rfl (.sel 2 rfl (.sel 1 rfl (.sel 2 rfl (.nil _))))))))
 refine sim_skip ?_
 exact nrm_cut (s := s103v.2.2.2) (y105v.2.2.1, y105v.2.2.2) ⟨rfl, rfl, rfl, rfl, rfl, rfl, trivial⟩ (.sel 0 rfl (.sel 0 rfl (.sel 2 rfl (.sel 2 rfl (.sel 0 rfl (.sel 0 rfl (.sel 0 rfl (.nil _))))))))
 intro s107v y108v
 refine sim_seq ?_
 refine sim_openV 4 rfl (fun rs156v hl157v => ?_)
 refine sim_openV 5 rfl (fun rs158v hl159v => ?_)
 refine sim_ask (fun hi160v => ?_)
 refine sim_posV 5 rfl hl159v rfl (i := s8v.toNat) (by omega) dz86 (fun b161v b161vo r164v ha162v hV165v hlr166v hcell167v => ?_)
 obtain rfl := hV165v
 refine sim_draw (Γ := Unit) () [[], [0], [0, 1], [0, 1, 2], [], [], [5], [], [7], [], [5, 6, 7, 8, 9], rL 11, rL 12] [12] [0, 1, 2, 3, 4, 5, 6, 7, 8, 9, 10, 11] (fun i => [[0], [0], [0], [0], [0], [0], [0], [0], [0], [0], [0], [0], []].getD i []) (fun i => [[], [], [], [], [], [], [], [], [], [], [], [], rL 12].getD i []) (fun γ i => [.pointer (some ⟨b0, 0, none⟩), .pointer (some ⟨b0, 0, none⟩), .pointer (some ⟨b0, 1, none⟩), .slice y108v.1 s107v.length y108v.2, .int .i64 s8v, .pointer (some ⟨b1v, 1, none⟩), .int .i64 x1_1, .pointer (some ⟨b1v, 2, none⟩), .int .i64 x1_2, .agg #[.int .i64 s103v.1, str s103v.2.1], .agg #[.int .i64 x1_1, .int .i64 x1_2, .int .i64 s103v.1, str s103v.2.1], .pointer (some ⟨b161v, b161vo + s8v.toNat * 4, none⟩), undef].getD i undef) (fun j γ => [[obj b106v 28 [.int .i64 s103v.1, str s103v.2.1], obj b0 47 [.slice y105v.1 s103v.2.2.1.length y105v.2.1, .slice y108v.1 s107v.length y108v.2], obj b2v 28 [.int .i64 0, str ([] : List UInt8)], obj b1v 33 [.int .i64 x1_0, .int .i64 x1_1, .int .i64 x1_2, str x1_3, str x1_4, str x1_5], Row 92 2 y105v.1 s103v.2.2.1.length y105v.2.1 rs156v.flatten, Row 86 4 y108v.1 s107v.length y108v.2 rs158v.flatten, F], [obj b106v 28 [.int .i64 s103v.1, str s103v.2.1], obj b0 47 [.slice y105v.1 s103v.2.2.1.length y105v.2.1, .slice y108v.1 ((s107v.set s8v.toNat (x1_1, x1_2, s103v.1, s103v.2.1)).length) y108v.2], obj b2v 28 [.int .i64 0, str ([] : List UInt8)], obj b1v 33 [.int .i64 x1_0, .int .i64 x1_1, .int .i64 x1_2, str x1_3, str x1_4, str x1_5], Row 92 2 y105v.1 s103v.2.2.1.length y105v.2.1 rs156v.flatten, RowV 86 4 (V86 tt) y108v.1 (s107v.set s8v.toNat (x1_1, x1_2, s103v.1, s103v.2.1)) y108v.2, F]].getD j []) (fun γ => [(4, .pointer (some ⟨b2v, 0, none⟩)), (6, .int .i64 s3v), (9, .pointer (some ⟨b106v, 0, none⟩))]) mixed (by decide) (by decide) (by decide) (by decide) (by decide) (by decide) (by decide) 154 rfl (by decide) (by decide) (by decide) (Ent.refl _) ?_ ?_ (fun _ => ⟨rfl, rfl, rfl, trivial⟩) ?_
 exact (aq rfl (fun γ => qm rfl (.o (s := 0) rfl (by decide) .nil) rfl) (aq rfl (fun γ => qp rfl rfl (.v 0 rfl rfl .nil) (q_nil rfl rfl) rfl) (aq rfl (fun γ => qp rfl rfl (.v 1 rfl rfl .nil) (q_fa rfl rfl Try.underlying47 rfl rfl Try.sizeOf45 rfl) rfl) (aq rfl (fun γ => qp rfl rfl (.v 2 rfl rfl .nil) (q_load rfl rfl Try.isAgg45 (.obj 1 rfl rfl)) rfl) (aq rfl (fun γ => qm rfl (.o (s := 7) rfl (by decide) .nil) rfl) (aq rfl (fun γ => qp rfl rfl (.o (s := 3) rfl (by decide) .nil) (q_fa rfl rfl Try.underlying33 rfl rfl Try.sizeOf3 rfl) rfl) (aq rfl (fun γ => qp rfl rfl (.v 5 rfl rfl .nil) (q_load rfl rfl Try.isAgg3 (.obj 3 rfl rfl)) rfl) (aq rfl (fun γ => qp rfl rfl (.o (s := 3) rfl (by decide) .nil) (q_fa rfl rfl Try.underlying33 rfl rfl Try.sizeOf3 rfl) rfl) (aq rfl (fun γ => qp rfl rfl (.v 7 rfl rfl .nil) (q_load rfl rfl Try.isAgg3 (.obj 3 rfl rfl)) rfl) (aq rfl (fun γ => qp rfl rfl (.o (s := 9) rfl (by decide) .nil) (q_loado 0 rfl rfl Try.isAgg28 Try.sizeOf28 rfl rfl) rfl) (aq rfl (fun γ => qp rfl rfl (.v 6 rfl rfl (.v 8 rfl rfl (.v 9 rfl rfl .nil))) (q_build (v := .agg #[.int .i64 x1_1, .int .i64 x1_2, .int .i64 s103v.1, str s103v.2.1]) rfl rfl (fun _ => by kernel_rfl)) rfl) (aq rfl (fun γ => qp rfl rfl (.v 3 rfl rfl (.v 4 rfl rfl .nil)) (q_idx rfl rfl rfl ha162v Try.underlying45 Try.sizeOf86 hi160v.1 hi160v.2) rfl) zA))))))))))))
 exact (ac (fun γ => eo (Z := Unit) (fun z => ()) rfl rfl (.v 10 rfl rfl (.v 11 rfl rfl .nil)) (re_storeV (V := (V86 tt)) (x1_1, x1_2, s103v.1, s103v.2.1) 0 dz86 5 rfl rfl rfl Try.sizeOf86 rfl rfl (one_of (by rfl)) rfl hl159v ha162v (by omega) rfl (fun r hr _ _ => by cases (show r = _ from hr); exact rfl)) (fun _ => ⟨rfl, rfl, rfl, rfl, rfl, rfl, rfl, rfl, rfl, rfl, rfl, rfl, trivial⟩) (fun _ => .inl rfl) (fun z => ent_eq ((rfl : _ = [obj b106v 28 [.int .i64 s103v.1, str s103v.2.1], obj b0 47 [.slice y105v.1 s103v.2.2.1.length y105v.2.1, .slice y108v.1 s107v.length y108v.2], obj b2v 28 [.int .i64 0, str ([] : List UInt8)], obj b1v 33 [.int .i64 x1_0, .int .i64 x1_1, .int .i64 x1_2, str x1_3, str x1_4, str x1_5], Row 92 2 y105v.1 s103v.2.2.1.length y105v.2.1 rs156v.flatten, RowV 86 4 (V86 tt) y108v.1 (s107v.set s8v.toNat (x1_1, x1_2, s103v.1, s103v.2.1)) y108v.2, F]).trans ((by simp only [List.length_set, copyB_length] : [obj b106v 28 [.int .i64 s103v.1, str s103v.2.1], obj b0 47 [.slice y105v.1 s103v.2.2.1.length y105v.2.1, .slice y108v.1 s107v.length y108v.2], obj b2v 28 [.int .i64 0, str ([] : List UInt8)], obj b1v 33 [.int .i64 x1_0, .int .i64 x1_1, .int .i64 x1_2, str x1_3, str x1_4, str x1_5], Row 92 2 y105v.1 s103v.2.2.1.length y105v.2.1 rs156v.flatten, RowV 86 4 (V86 tt) y108v.1 (s107v.set s8v.toNat (x1_1, x1_2, s103v.1, s103v.2.1)) y108v.2, F] = [obj b106v 28 [.int .i64 s103v.1, str s103v.2.1], obj b0 47 [.slice y105v.1 s103v.2.2.1.length y105v.2.1, .slice y108v.1 ((s107v.set s8v.toNat (x1_1, x1_2, s103v.1, s103v.2.1)).length) y108v.2], obj b2v 28 [.int .i64 0, str ([] : List UInt8)], obj b1v 33 [.int .i64 x1_0, .int .i64 x1_1, .int .i64 x1_2, str x1_3, str x1_4, str x1_5], Row 92 2 y105v.1 s103v.2.2.1.length y105v.2.1 rs156v.flatten, RowV 86 4 (V86 tt) y108v.1 (s107v.set s8v.toNat (x1_1, x1_2, s103v.1, s103v.2.1)) y108v.2, F]).trans rfl)))) zA)
 intro g168v
 refine nrm_then (sr ?_)
 refine vq (q_loado 0 rfl rfl Try.isAgg28 Try.sizeOf28 rfl rfl) rfl ?_
 refine vm rfl rfl ?_
 refine simL_do (re_store 2 rfl rfl rfl Try.sizeOf28 rfl rfl (one_of (by rfl)) rfl rfl) rfl rfl ?_
 intro _
 refine va rfl rfl (simL_nil (nrm_then (sim_rtn ?_)))
 exact rtn_fnC (vs := [.agg #[.int .i64 s103v.1, str s103v.2.1], .int .i64 s3v]) (y105v.1, y105v.2.1, y108v.1, y108v.2) rfl ⟨⟨b2v, rfl, load_agg 2 Try.isAgg28 Try.sizeOf28 rfl rfl⟩, rfl, trivial⟩ rfl (.sel 1 rfl (.sel' 3 rfl (RowV.mk hl157v) (.sel 3 rfl (.sel 3 rfl (.nil _)))))
 refine sr ?_
 refine vq (q_build (v := .agg #[.int .i64 0, str ([] : List UInt8)]) rfl rfl (fun _ => by kernel_rfl)) rfl ?_
 refine vm rfl rfl ?_
 refine simL_do (re_store 0 rfl rfl rfl Try.sizeOf28 rfl rfl (one_of (by rfl)) rfl rfl) rfl rfl ?_
 intro _
 refine va rfl rfl (simL_nil (nrm_then (sim_rtn ?_)))
 refine rtn_then ?_
 exact rtn_fnC (vs := [.agg #[.int .i64 0, str ([] : List UInt8)], .int .i64 s3v]) (a0_0, c0_0, a0_1, c0_1) rfl ⟨⟨b2v, rfl, load_agg 0 Try.isAgg28 Try.sizeOf28 rfl rfl⟩, rfl, trivial⟩ rfl (.sel 2 rfl (.sel 2 rfl (.sel 2 rfl (.sel 2 rfl (.nil _)))))

def synodref11_Store_Get.f (k : Nat) (x0_0 : List (Ty92)) (x0_1 : List (Ty86)) (x1 : List UInt8) : Option (Int × List UInt8) := (synodref11_Store_at.f k x0_0 x0_1 x1).bind fun s2v => (if (!s2v.2) = true then (some (2, ([] : List UInt8))) else (if 0 ≤ s2v.1 ∧ s2v.1 < (x0_0.length : Int) then (some (1, (x0_0.getD s2v.1.toNat dz92).2)) else none))
theorem synodref11_Store_Get.calls (W : World) (F : HA) (k : Nat) (b0 : Nat) (a0_0 : Option Addr) (c0_0 : Nat) (x0_0 : List (Ty92)) (a0_1 : Option Addr) (c0_1 : Nat) (x0_1 : List (Ty86)) (x1 : List UInt8) (h0_0 : RdV F 2 (V92 tt) a0_0 x0_0) (hc0_0 : x0_0.length ≤ c0_0) (hm0_0 : c0_0 ≤ maxLen) (h0_1 : RdV F 4 (V86 tt) a0_1 x0_1) (hc0_1 : x0_1.length ≤ c0_1) (hm0_1 : c0_1 ≤ maxLen) :
    Fn Try.prog W 20 [.pointer (some ⟨b0, 0, none⟩), str x1] [obj b0 47 [.slice a0_0 x0_0.length c0_0, .slice a0_1 x0_1.length c0_1]] F (synodref11_Store_Get.f k x0_0 x0_1 x1) (fun (r : Int × List UInt8) (y : Unit) => .agg #[.int .i64 r.1, str r.2]) (fun r y => [obj b0 47 [.slice a0_0 x0_0.length c0_0, .slice a0_1 x0_1.length c0_1]]) := by
 unfold synodref11_Store_Get.f
 refine fn_intro 25 Try.func20 rfl Try.ntmps20 rfl ?_
 refine sr ?_
 refine simL_eff (re_alloc rfl Try.zeroValue28 rfl) rfl rfl rfl ?_
 intro b1v
 refine nx ?_
 refine vm rfl rfl ?_
 refine vm rfl rfl ?_
 refine simL_bind (fun s2v hs3v => ?_)
 refine simL_eff (re_call (vs := [.pointer (some ⟨b0, 0, none⟩), str x1]) (cap := []) (A := [obj b0 47 [.slice a0_0 x0_0.length c0_0, .slice a0_1 x0_1.length c0_1]]) (rst := [obj b1v 28 [.int .i64 0, str ([] : List UInt8)], F]) rfl rfl rfl rfl rfl rfl Try.call37 (.sel 1 rfl (.sel 0 rfl (.sel 0 rfl (.nil _)))) (synodref11_Store_at.calls _ _ k b0 a0_0 c0_0 x0_0 a0_1 c0_1 x0_1 x1 (h0_0.up (Up.lend 1 rfl) (fun _ _ h => h)) hc0_0 hm0_0 (h0_1.up (Up.lend 1 rfl) (fun _ _ h => h)) hc0_1 hm0_1) hs3v) rfl rfl rfl ?_
 intro y4v
 refine vm rfl rfl ?_
 refine vq (q_ext rfl rfl rfl) rfl ?_
 refine vq (q_ext rfl rfl rfl) rfl ?_
 refine va rfl rfl ?_
 refine va rfl rfl (simL_nil (nrm_then (sim_seq (sr ?_))))
 refine vm rfl rfl ?_
 refine vq (q_not rfl rfl) rfl (simL_nil (nrm_then ?_))
 refine sim_condb rfl (fun h5v => ?_) (fun h6v => ?_)
 refine sr ?_
 refine vq (q_build (v := .agg #[.int .i64 2, str ([] : List UInt8)]) rfl rfl (fun _ => by kernel_rfl)) rfl ?_
 refine simL_do (re_store 1 rfl rfl rfl Try.sizeOf28 rfl rfl (one_of (by rfl)) rfl rfl) rfl rfl ?_
 intro _
 refine simL_nil (nrm_then (sim_rtn ?_))
 refine rtn_then ?_
 exact rtn_fnC (vs := [.agg #[.int .i64 2, str ([] : List UInt8)]]) () rfl ⟨⟨b1v, rfl, load_agg 1 Try.isAgg28 Try.sizeOf28 rfl rfl⟩, trivial⟩ rfl (.sel 0 rfl (.sel 1 rfl (.nil _)))
 refine sim_skip ?_
 refine nrm_then (sr ?_)
 refine vm rfl rfl ?_
 refine vn rfl rfl ?_
 refine vq (q_fa rfl rfl Try.underlying47 rfl rfl Try.sizeOf44 rfl) rfl ?_
 refine vq (q_load rfl rfl Try.isAgg44 (.obj 0 rfl rfl)) rfl ?_
 refine vm rfl rfl ?_
 refine simL_ask (fun hi7v => ?_)
 obtain ⟨b8v, b8vo, r11v, ha9v, hV12v, hlr13v, hcell14v⟩ := RdV.pos h0_0 (Up.refl _) rfl (i := s2v.1.toNat) (by omega) dz92
 obtain rfl := hV12v
 refine vq (q_idx rfl rfl rfl ha9v Try.underlying44 Try.sizeOf92 hi7v.1 hi7v.2) rfl ?_
 refine vq (q_fa rfl rfl Try.underlying92 rfl rfl Try.sizeOf9 rfl) rfl ?_
 refine vq (q_load rfl rfl Try.isAgg9 (hcell14v 2 rfl 1 _ rfl)) rfl ?_
 refine vq (q_build (v := .agg #[.int .i64 1, str ((x0_0.getD s2v.1.toNat dz92).2)]) rfl rfl (fun _ => by kernel_rfl)) rfl ?_
 refine simL_do (re_store 1 rfl rfl rfl Try.sizeOf28 rfl rfl (one_of (by rfl)) rfl rfl) rfl rfl ?_
 intro _
 refine simL_nil (nrm_then (sim_rtn ?_))
 exact rtn_fnC (vs := [.agg #[.int .i64 1, str ((x0_0.getD s2v.1.toNat dz92).2)]]) () rfl ⟨⟨b1v, rfl, load_agg 1 Try.isAgg28 Try.sizeOf28 rfl rfl⟩, trivial⟩ rfl (.sel 0 rfl (.sel 1 rfl (.nil _)))

def maps_Keys_map_string_string_string_string.f  : Option (Unit) := some ()
theorem maps_Keys_map_string_string_string_string.calls (W : World) (F : HA) (m0 : Nat)  :
    Fn Try.prog W 51 [.map (some m0)] [] F (maps_Keys_map_string_string_string_string.f ) (fun (r : Unit) (y : Nat) => .func (.func 65) #[] #[.pointer (some ⟨y, 0, none⟩)]) (fun r y => [obj y 60 [.map (some m0)]]) := by
 unfold maps_Keys_map_string_string_string_string.f
 refine fn_intro 4 Try.func51 rfl Try.ntmps51 rfl ?_
 refine sr ?_
 refine simL_eff (re_box rfl rfl rfl) rfl rfl rfl ?_
 intro b1v
 refine va rfl rfl (nx ?_)
 refine vq (q_mkfn rfl rfl rfl) rfl ?_
 refine va rfl rfl (simL_nil (nrm_then (sim_rtn ?_)))
 exact rtn_fn b1v rfl rfl rfl (.sel 0 rfl (.sel 0 rfl (.nil _)))

def slices_Sorted_string_maps_Keys_map_string_string_string_string_1.f (xp0_0 : List ((List UInt8) × (List UInt8))) : Option (List (List UInt8)) := if (xp0_0.map (·.1)).Nodup ∧ xp0_0.length * 16 ≤ 140737488355328 ∧ ∀ p ∈ xp0_0, p.1.length ≤ 140737488351232 then some (keysS xp0_0) else none
theorem slices_Sorted_string_maps_Keys_map_string_string_string_string_1.calls (W : World) (F : HA) (bp0 : Nat) (mp0_0 : Nat) (xp0_0 : List ((List UInt8) × (List UInt8))) :
    Fn Try.prog W 50 [.func (.func 65) #[] #[.pointer (some ⟨bp0, 0, none⟩)]] [obj bp0 60 [.map (some mp0_0)], mapO mp0_0 enc9 enc9 xp0_0] F (slices_Sorted_string_maps_Keys_map_string_string_string_string_1.f xp0_0) (fun (r : List (List UInt8)) (y : Option Addr × Nat) => .slice y.1 r.length y.2) (fun r y => [RowV 9 1 (V9 tt) y.1 r y.2, obj bp0 60 [.map (some mp0_0)], mapO mp0_0 enc9 enc9 xp0_0]) := by
  unfold slices_Sorted_string_maps_Keys_map_string_string_string_string_1.f
  exact fn_sortedS (V := (V9 tt)) (fun _ => rfl) Try.underlying9 (fun w D0 nn => lib_sorted50_65 w D0 nn mp0_0 bp0)

def kv_Store_Keys.f (x0_0 : List ((List UInt8) × (List UInt8))) (x0_1 : List ((Int) × (Ty86))) : Option (List (List UInt8)) := (maps_Keys_map_string_string_string_string.f).bind fun s1v => ((slices_Sorted_string_maps_Keys_map_string_string_string_string_1.f x0_0).bind fun s4v => (some s4v))
theorem kv_Store_Keys.calls (W : World) (F : HA) (b0 : Nat) (m0_0 : Nat) (x0_0 : List ((List UInt8) × (List UInt8))) (m0_1 : Nat) (x0_1 : List ((Int) × (Ty86)))  :
    Fn Try.prog W 38 [.pointer (some ⟨b0, 0, none⟩)] [obj b0 63 [.map (some m0_0), .map (some m0_1)], mapO m0_0 enc9 enc9 x0_0, mapO m0_1 enc3 enc42 x0_1] F (kv_Store_Keys.f x0_0 x0_1) (fun (r : List (List UInt8)) (y : Option Addr × Nat) => .slice y.1 r.length y.2) (fun r y => [RowV 9 1 (V9 tt) y.1 r y.2, obj b0 63 [.map (some m0_0), .map (some m0_1)], mapO m0_0 enc9 enc9 x0_0, mapO m0_1 enc3 enc42 x0_1]) := by
 unfold kv_Store_Keys.f
 refine fn_intro 9 Try.func38 rfl Try.ntmps38 rfl ?_
 refine sr ?_
 refine va rfl rfl (nx ?_)
 refine vm rfl rfl ?_
 refine vn rfl rfl ?_
 refine vq (q_fa rfl rfl Try.underlying63 rfl rfl Try.sizeOf60 rfl) rfl ?_
 refine vq (q_load rfl rfl Try.isAgg60 (.obj 0 rfl rfl)) rfl ?_
 refine simL_bind (fun s1v hs2v => ?_)
 refine simL_eff (re_call (vs := [.map (some m0_0)]) (cap := []) (A := []) (rst := [obj b0 63 [.map (some m0_0), .map (some m0_1)], mapO m0_0 enc9 enc9 x0_0, mapO m0_1 enc3 enc42 x0_1, F]) rfl rfl rfl rfl rfl rfl Try.call51 (.sel 0 rfl (.sel 0 rfl (.sel 0 rfl (.sel 0 rfl (.nil _))))) (maps_Keys_map_string_string_string_string.calls _ _ m0_0 ) hs2v) rfl rfl rfl ?_
 intro y3v
 refine simL_bind (fun s4v hs5v => ?_)
 refine simL_eff (re_call (vs := [.func (.func 65) #[] #[.pointer (some ⟨y3v, 0, none⟩)]]) (cap := []) (A := [obj y3v 60 [.map (some m0_0)], mapO m0_0 enc9 enc9 x0_0]) (rst := [obj b0 63 [.map (some m0_0), .map (some m0_1)], mapO m0_1 enc3 enc42 x0_1, F]) rfl rfl rfl rfl rfl rfl Try.call50 (.sel 0 rfl (.sel 1 rfl (.sel 0 rfl (.sel 0 rfl (.sel 0 rfl (.nil _)))))) (slices_Sorted_string_maps_Keys_map_string_string_string_string_1.calls _ _ y3v m0_0 x0_0 ) hs5v) rfl rfl rfl ?_
 intro y6v
 refine va rfl rfl (simL_nil (nrm_then (sim_rtn ?_)))
 exact rtn_fn (y6v.1, y6v.2) rfl rfl rfl (.sel 0 rfl (.sel 2 rfl (.sel 1 rfl (.sel 1 rfl (.sel 1 rfl (.nil _))))))

def maps_Keys_Session.f  : Option (Unit) := some ()
theorem maps_Keys_Session.calls (W : World) (F : HA) (m0 : Nat)  :
    Fn Try.prog W 34 [.map (some m0)] [] F (maps_Keys_Session.f ) (fun (r : Unit) (y : Nat) => .func (.func 56) #[] #[.pointer (some ⟨y, 0, none⟩)]) (fun r y => [obj y 61 [.map (some m0)]]) := by
 unfold maps_Keys_Session.f
 refine fn_intro 4 Try.func34 rfl Try.ntmps34 rfl ?_
 refine sr ?_
 refine simL_eff (re_box rfl rfl rfl) rfl rfl rfl ?_
 intro b1v
 refine va rfl rfl (nx ?_)
 refine vq (q_mkfn rfl rfl rfl) rfl ?_
 refine va rfl rfl (simL_nil (nrm_then (sim_rtn ?_)))
 exact rtn_fn b1v rfl rfl rfl (.sel 0 rfl (.sel 0 rfl (.nil _)))

def slices_Sorted_int_maps_Keys_Session_1.f (xp0_0 : List ((Int) × (Ty86))) : Option (List Int) := if (xp0_0.map (·.1)).Nodup ∧ xp0_0.length * 16 ≤ 140737488355328 ∧ ∀ p ∈ xp0_0, (Lit.int .i64 p.1).wf = true then some (keysI xp0_0) else none
theorem slices_Sorted_int_maps_Keys_Session_1.calls (W : World) (F : HA) (bp0 : Nat) (mp0_0 : Nat) (xp0_0 : List ((Int) × (Ty86))) :
    Fn Try.prog W 33 [.func (.func 56) #[] #[.pointer (some ⟨bp0, 0, none⟩)]] [obj bp0 61 [.map (some mp0_0)], mapO mp0_0 enc3 enc42 xp0_0] F (slices_Sorted_int_maps_Keys_Session_1.f xp0_0) (fun (r : List Int) (y : Option Addr × Nat) => .slice y.1 r.length y.2) (fun r y => [RowV 3 1 (V3 tt) y.1 r y.2, obj bp0 61 [.map (some mp0_0)], mapO mp0_0 enc3 enc42 xp0_0]) := by
  unfold slices_Sorted_int_maps_Keys_Session_1.f
  exact fn_sortedI (V := (V3 tt)) (fun _ => rfl) Try.underlying3 (fun w D0 nn => lib_sorted33_56 w D0 nn mp0_0 bp0)

def kv_Store_Sessions.l0 (x0_1 : List ((Int) × (Ty86))) (s6v : List Int) : Nat → List (Ty86) → Int → Option ((List (Ty86)))
  | 0, _, _ => none
  | k + 1, z11v, z12v => if z12v < (s6v.length : Int) then (if 0 ≤ z12v ∧ z12v < (s6v.length : Int) then (if (z11v.length + ([(((mget x0_1 (s6v.getD z12v.toNat (0 : Int))).getD dz86).1, ((mget x0_1 (s6v.getD z12v.toNat (0 : Int))).getD dz86).2.1, ((mget x0_1 (s6v.getD z12v.toNat (0 : Int))).getD dz86).2.2.1, ((mget x0_1 (s6v.getD z12v.toNat (0 : Int))).getD dz86).2.2.2)] : List (Ty86)).length) * 40 ≤ 140737488355328 then (kv_Store_Sessions.l0 x0_1 s6v k (z11v ++ ([(((mget x0_1 (s6v.getD z12v.toNat (0 : Int))).getD dz86).1, ((mget x0_1 (s6v.getD z12v.toNat (0 : Int))).getD dz86).2.1, ((mget x0_1 (s6v.getD z12v.toNat (0 : Int))).getD dz86).2.2.1, ((mget x0_1 (s6v.getD z12v.toNat (0 : Int))).getD dz86).2.2.2)] : List (Ty86))) (IntKind.i64.wrap (z12v + 1))) else none) else none) else (some z11v)
def kv_Store_Sessions.f (k : Nat) (x0_0 : List ((List UInt8) × (List UInt8))) (x0_1 : List ((Int) × (Ty86))) : Option ((List (Ty86))) := ((maps_Keys_Session.f).bind fun s3v => ((slices_Sorted_int_maps_Keys_Session_1.f x0_1).bind fun s6v => (kv_Store_Sessions.l0 x0_1 s6v k ([] : List (Ty86)) 0))).bind fun s1v => (some s1v)
theorem kv_Store_Sessions.calls (W : World) (F : HA) (k : Nat) (b0 : Nat) (m0_0 : Nat) (x0_0 : List ((List UInt8) × (List UInt8))) (m0_1 : Nat) (x0_1 : List ((Int) × (Ty86)))  :
    Fn Try.prog W 17 [.pointer (some ⟨b0, 0, none⟩)] [obj b0 63 [.map (some m0_0), .map (some m0_1)], mapO m0_0 enc9 enc9 x0_0, mapO m0_1 enc3 enc42 x0_1] F (kv_Store_Sessions.f k x0_0 x0_1) (fun (r : (List (Ty86))) (y : Option Addr × Nat) => .slice y.1 r.length y.2) (fun r y => [RowV 42 4 (V42 tt) y.1 r y.2, obj b0 63 [.map (some m0_0), .map (some m0_1)], mapO m0_0 enc9 enc9 x0_0, mapO m0_1 enc3 enc42 x0_1]) := by
 unfold kv_Store_Sessions.f
 refine fn_intro 28 Try.func17 rfl Try.ntmps17 rfl ?_
 refine sr ?_
 refine va rfl rfl (nx ?_)
 refine va rfl rfl (simL_nil (nrm_then ?_))
 refine sim_cut (S := (List (Ty86))) (Option Addr × Nat) (fun s y => [(3, .slice y.1 s.length y.2)]) (fun s y => [obj b0 63 [.map (some m0_0), .map (some m0_1)], RowV 42 4 (V42 tt) y.1 s y.2, mapO m0_0 enc9 enc9 x0_0, mapO m0_1 enc3 enc42 x0_1, F]) ?_ ?_
 refine sr ?_
 refine vm rfl rfl ?_
 refine vn rfl rfl ?_
 refine vq (q_fa rfl rfl Try.underlying63 rfl rfl Try.sizeOf61 rfl) rfl ?_
 refine vq (q_load rfl rfl Try.isAgg61 (.obj 0 rfl rfl)) rfl ?_
 refine simL_bind (fun s3v hs4v => ?_)
 refine simL_eff (re_call (vs := [.map (some m0_1)]) (cap := []) (A := []) (rst := [obj b0 63 [.map (some m0_0), .map (some m0_1)], mapO m0_0 enc9 enc9 x0_0, mapO m0_1 enc3 enc42 x0_1, F]) rfl rfl rfl rfl rfl rfl Try.call34 (.sel 0 rfl (.sel 0 rfl (.sel 0 rfl (.sel 0 rfl (.nil _))))) (maps_Keys_Session.calls _ _ m0_1 ) hs4v) rfl rfl rfl ?_
 intro y5v
 refine simL_bind (fun s6v hs7v => ?_)
 refine simL_eff (re_call (vs := [.func (.func 56) #[] #[.pointer (some ⟨y5v, 0, none⟩)]]) (cap := []) (A := [obj y5v 61 [.map (some m0_1)], mapO m0_1 enc3 enc42 x0_1]) (rst := [obj b0 63 [.map (some m0_0), .map (some m0_1)], mapO m0_0 enc9 enc9 x0_0, F]) rfl rfl rfl rfl rfl rfl Try.call33 (.sel 0 rfl (.sel 2 rfl (.sel 0 rfl (.sel 0 rfl (.sel 0 rfl (.nil _)))))) (slices_Sorted_int_maps_Keys_Session_1.calls _ _ y5v m0_1 x0_1 ) hs7v) rfl rfl rfl ?_
 intro y8v
 refine vq (q_len rfl rfl rfl Try.underlying80) rfl ?_
 refine vm rfl rfl (simL_nil (nrm_then ?_))
 refine sim_block ?_
 refine sim_loop (S := (List (Ty86)) × Int) (Option Addr × Nat) (fun k s => kv_Store_Sessions.l0 x0_1 s6v k s.1 s.2) (fun s y => [(0, .pointer (some ⟨b0, 0, none⟩)), (3, .slice y.1 s.1.length y.2), (11, .slice y8v.1 s6v.length y8v.2), (12, .int .i64 (s6v.length : Int)), (13, .int .i64 s.2)]) (fun s y => [obj b0 63 [.map (some m0_0), .map (some m0_1)], RowV 42 4 (V42 tt) y.1 s.1 y.2, RowV 3 1 (V3 tt) y8v.1 s6v y8v.2, mapO m0_0 enc9 enc9 x0_0, mapO m0_1 enc3 enc42 x0_1, F]) (fun _ => by rw [kv_Store_Sessions.l0]) ?_ k (([] : List (Ty86)), 0) (none, 0) ⟨rfl, rfl, rfl, rfl, rfl, trivial⟩ (.sel 3 rfl (.rowV_nil (.sel 0 rfl (.sel 2 rfl (.sel 1 rfl (.sel 1 rfl (.nil _)))))))
 intro k s9v y10v
 refine sim_eq (by rw [kv_Store_Sessions.l0]) ?_
 refine sr ?_
 refine vq (q_lss rfl rfl rfl) rfl (simL_nil (nrm_then (sim_seq ?_)))
 refine sim_cond rfl (fun h13v => ?_) (fun h14v => ?_)
 refine sim_skip ?_
 refine nrm_then (sim_seq ?_)
 refine sim_block ?_
 refine sr ?_
 refine simL_openV 2 rfl (fun rs23v hl24v => ?_)
 refine simL_ask (fun hi15v => ?_)
 refine simL_posV 2 rfl hl24v rfl (i := s9v.2.toNat) (by omega) (0 : Int) (fun b16v b16vo r19v ha17v hV20v hlr21v hcell22v => ?_)
 obtain rfl := hV20v
 refine vq (q_idx rfl rfl rfl ha17v Try.underlying80 Try.sizeOf3 hi15v.1 hi15v.2) rfl ?_
 refine vq (q_load rfl rfl Try.isAgg3 (hcell22v 2 rfl 0 _ rfl)) rfl ?_
 refine va rfl rfl (ny ?_)
 refine vm rfl rfl ?_
 refine vm rfl rfl ?_
 refine vn rfl rfl ?_
 refine vq (q_fa rfl rfl Try.underlying63 rfl rfl Try.sizeOf61 rfl) rfl ?_
 refine vq (q_load rfl rfl Try.isAgg61 (.obj 0 rfl rfl)) rfl ?_
 refine vm rfl rfl ?_
 refine vq ((q_mlook (ek := enc3) (ev := enc42) (z := dz86) 4 (s6v.getD s9v.2.toNat (0 : Int)) rfl rfl rfl Try.underlying61 key3 Try.zeroValue42 rfl : RQ _ _ _ _ (.agg #[.int .i64 (((mget x0_1 (s6v.getD s9v.2.toNat (0 : Int))).getD dz86).1), .int .i64 (((mget x0_1 (s6v.getD s9v.2.toNat (0 : Int))).getD dz86).2.1), .int .i64 (((mget x0_1 (s6v.getD s9v.2.toNat (0 : Int))).getD dz86).2.2.1), str (((mget x0_1 (s6v.getD s9v.2.toNat (0 : Int))).getD dz86).2.2.2)]))) rfl ?_
 have hlb26v : ListV 4 (V42 tt) ([(((mget x0_1 (s6v.getD s9v.2.toNat (0 : Int))).getD dz86).1, ((mget x0_1 (s6v.getD s9v.2.toNat (0 : Int))).getD dz86).2.1, ((mget x0_1 (s6v.getD s9v.2.toNat (0 : Int))).getD dz86).2.2.1, ((mget x0_1 (s6v.getD s9v.2.toNat (0 : Int))).getD dz86).2.2.2)] : List (Ty86)) [[.int .i64 (((mget x0_1 (s6v.getD s9v.2.toNat (0 : Int))).getD dz86).1), .int .i64 (((mget x0_1 (s6v.getD s9v.2.toNat (0 : Int))).getD dz86).2.1), .int .i64 (((mget x0_1 (s6v.getD s9v.2.toNat (0 : Int))).getD dz86).2.2.1), str (((mget x0_1 (s6v.getD s9v.2.toNat (0 : Int))).getD dz86).2.2.2)]] := ⟨⟨rfl, one_of (by rfl), rfl⟩, trivial⟩
 refine simL_eff (re_litV (V := (V42 tt)) (xs := ([(((mget x0_1 (s6v.getD s9v.2.toNat (0 : Int))).getD dz86).1, ((mget x0_1 (s6v.getD s9v.2.toNat (0 : Int))).getD dz86).2.1, ((mget x0_1 (s6v.getD s9v.2.toNat (0 : Int))).getD dz86).2.2.1, ((mget x0_1 (s6v.getD s9v.2.toNat (0 : Int))).getD dz86).2.2.2)] : List (Ty86))) [[.int .i64 (((mget x0_1 (s6v.getD s9v.2.toNat (0 : Int))).getD dz86).1), .int .i64 (((mget x0_1 (s6v.getD s9v.2.toNat (0 : Int))).getD dz86).2.1), .int .i64 (((mget x0_1 (s6v.getD s9v.2.toNat (0 : Int))).getD dz86).2.2.1), str (((mget x0_1 (s6v.getD s9v.2.toNat (0 : Int))).getD dz86).2.2.2)]] rfl rfl Try.underlying39 elt42 rfl (by kernel_rfl) rfl hlb26v rfl rfl) rfl rfl rfl ?_
 intro b26v
 refine simL_openV 2 rfl (fun rs31v hl32v => ?_)
 refine simL_ask (fun hb30v => ?_)
 refine simL_eff (re_appendV 2 rfl rfl rfl Try.underlying39 elt42 rfl hl32v (RdsV.row hlb26v 0 rfl) hb30v) rfl rfl rfl ?_
 intro y29v
 refine va rfl rfl (simL_nil (nrm_block (nrm_then (sim_region ?_))))
 refine vq (q_add rfl rfl rfl) rfl ?_
 refine vm rfl rfl (simL_nil ?_)
 exact nrm_again (s := (s9v.1 ++ ([(((mget x0_1 (s6v.getD s9v.2.toNat (0 : Int))).getD dz86).1, ((mget x0_1 (s6v.getD s9v.2.toNat (0 : Int))).getD dz86).2.1, ((mget x0_1 (s6v.getD s9v.2.toNat (0 : Int))).getD dz86).2.2.1, ((mget x0_1 (s6v.getD s9v.2.toNat (0 : Int))).getD dz86).2.2.2)] : List (Ty86)), IntKind.i64.wrap (s9v.2 + 1))) (y29v.1, y29v.2) ⟨rfl, rfl, rfl, rfl, rfl, trivial⟩ (.sel 1 rfl (.sel 1 rfl (.sel' 1 rfl (RowV.mk hl24v) (.sel 1 rfl (.sel 1 rfl (.sel 1 rfl (.nil _)))))))
 refine sim_exi ?_
 refine exi_then ?_
 refine exi_loop ?_
 refine exi_here ?_
 exact nrm_cut (s := s9v.1) (y10v.1, y10v.2) ⟨rfl, trivial⟩ (.sel 0 rfl (.sel 0 rfl (.sel 1 rfl (.sel 1 rfl (.sel 1 rfl (.nil _))))))
 intro s1v y2v
 refine sr ?_
 refine vm rfl rfl ?_
 refine va rfl rfl (simL_nil (nrm_then (sim_rtn ?_)))
 exact rtn_fn (y2v.1, y2v.2) rfl rfl rfl (.sel 1 rfl (.sel 0 rfl (.sel 0 rfl (.sel 0 rfl (.sel 0 rfl (.nil _))))))

def synodlaw11_Sessions.l0 (x0 : List (Ty86)) (x1_1 : List (Ty86)) : Nat → Int → Option ((Unit) ⊕ (Bool))
  | 0, _ => none
  | k + 1, z7v => if z7v < (x0.length : Int) then ((if 0 ≤ z7v ∧ z7v < (x0.length : Int) then (if 0 ≤ z7v ∧ z7v < (x1_1.length : Int) then (if (x0.getD z7v.toNat dz86).1 = (x1_1.getD z7v.toNat dz86).1 then (if 0 ≤ z7v ∧ z7v < (x0.length : Int) then (if 0 ≤ z7v ∧ z7v < (x1_1.length : Int) then (if (x0.getD z7v.toNat dz86).2.1 = (x1_1.getD z7v.toNat dz86).2.1 then (if 0 ≤ z7v ∧ z7v < (x0.length : Int) then (if 0 ≤ z7v ∧ z7v < (x1_1.length : Int) then (some (!(decide ((x0.getD z7v.toNat dz86).2.2.1 = (x1_1.getD z7v.toNat dz86).2.2.1) && (decide (((x0.getD z7v.toNat dz86).2.2.2) = ((x1_1.getD z7v.toNat dz86).2.2.2)))))) else none) else none) else (some true)) else none) else none) else (some true)) else none) else none).bind fun s10v => (if s10v = true then (some (.inr false)) else (synodlaw11_Sessions.l0 x0 x1_1 k (IntKind.i64.wrap (z7v + 1))))) else (some (.inl ()))
def synodlaw11_Sessions.f (k : Nat) (x0 : List (Ty86)) (x1_0 : List (Ty92)) (x1_1 : List (Ty86)) : Option (Bool) := if (x0.length : Int) = (x1_1.length : Int) then (orR (synodlaw11_Sessions.l0 x0 x1_1 k 0) fun s3v => (some true)) else (some false)
theorem synodlaw11_Sessions.calls (W : World) (F : HA) (k : Nat) (a0 : Option Addr) (c0 : Nat) (x0 : List (Ty86)) (b1 : Nat) (a1_0 : Option Addr) (c1_0 : Nat) (x1_0 : List (Ty92)) (a1_1 : Option Addr) (c1_1 : Nat) (x1_1 : List (Ty86)) (h0 : RdV F 4 (V42 tt) a0 x0) (hc0 : x0.length ≤ c0) (hm0 : c0 ≤ maxLen) (h1_0 : RdV F 2 (V92 tt) a1_0 x1_0) (hc1_0 : x1_0.length ≤ c1_0) (hm1_0 : c1_0 ≤ maxLen) (h1_1 : RdV F 4 (V86 tt) a1_1 x1_1) (hc1_1 : x1_1.length ≤ c1_1) (hm1_1 : c1_1 ≤ maxLen) :
    Fn Try.prog W 39 [.slice a0 x0.length c0, .pointer (some ⟨b1, 0, none⟩)] [obj b1 47 [.slice a1_0 x1_0.length c1_0, .slice a1_1 x1_1.length c1_1]] F (synodlaw11_Sessions.f k x0 x1_0 x1_1) (fun (r : Bool) (y : Unit) => .bool r) (fun r y => [obj b1 47 [.slice a1_0 x1_0.length c1_0, .slice a1_1 x1_1.length c1_1]]) := by
 unfold synodlaw11_Sessions.f
 refine fn_intro 66 Try.func39 rfl Try.ntmps39 rfl ?_
 refine sr ?_
 refine va rfl rfl (simL_nil (nrm_then (sim_seq (sr ?_))))
 refine vm rfl rfl ?_
 refine vq (q_len rfl rfl rfl Try.underlying39) rfl ?_
 refine vm rfl rfl ?_
 refine vn rfl rfl ?_
 refine vq (q_fa rfl rfl Try.underlying47 rfl rfl Try.sizeOf45 rfl) rfl ?_
 refine vq (q_load rfl rfl Try.isAgg45 (.obj 0 rfl rfl)) rfl ?_
 refine vq (q_len rfl rfl rfl Try.underlying45) rfl ?_
 refine vq (q_neq rfl rfl rfl) rfl (simL_nil (nrm_then ?_))
 refine sim_condn rfl (fun h1v => ?_) (fun h2v => ?_)
 refine sim_skip ?_
 refine nrm_then ?_
 refine sim_cutR (S := Unit) (Unit) (fun s y => []) (fun s y => [obj b1 47 [.slice a1_0 x1_0.length c1_0, .slice a1_1 x1_1.length c1_1], F]) ?_ ?_
 refine sr ?_
 refine va rfl rfl (simL_nil (nrm_then ?_))
 refine sim_block ?_
 refine sim_loop (S := Int) (Unit) (fun k s => synodlaw11_Sessions.l0 x0 x1_1 k s) (fun s y => [(0, .slice a0 x0.length c0), (1, .pointer (some ⟨b1, 0, none⟩)), (5, .int .i64 s)]) (fun s y => [obj b1 47 [.slice a1_0 x1_0.length c1_0, .slice a1_1 x1_1.length c1_1], F]) (fun _ => by rw [synodlaw11_Sessions.l0]) ?_ k 0 () ⟨rfl, rfl, rfl, trivial⟩ (.sel 0 rfl (.sel 0 rfl (.nil _)))
 intro k s5v y6v
 refine sim_eq (by rw [synodlaw11_Sessions.l0]) ?_
 refine sim_seq (sr ?_)
 refine vm rfl rfl ?_
 refine vm rfl rfl ?_
 refine vq (q_len rfl rfl rfl Try.underlying39) rfl ?_
 refine vq (q_lss rfl rfl rfl) rfl (simL_nil (nrm_then ?_))
 refine sim_cond rfl (fun h8v => ?_) (fun h9v => ?_)
 refine sim_skip ?_
 refine nrm_then (sim_seq ?_)
 refine sim_block ?_
 refine sim_cut (S := Bool) (Unit) (fun s y => [(0, .slice a0 x0.length c0), (1, .pointer (some ⟨b1, 0, none⟩)), (5, .int .i64 s5v), (65, .bool s)]) (fun s y => [obj b1 47 [.slice a1_0 x1_0.length c1_0, .slice a1_1 x1_1.length c1_1], F]) ?_ ?_
 refine sim_ask (fun hi12v => ?_)
 obtain ⟨b13v, b13vo, r16v, ha14v, hV17v, hlr18v, hcell19v⟩ := RdV.pos h0 (Up.refl _) rfl (i := s5v.toNat) (by omega) dz86
 obtain rfl := hV17v
 refine sim_ask (fun hi20v => ?_)
 obtain ⟨b21v, b21vo, r24v, ha22v, hV25v, hlr26v, hcell27v⟩ := RdV.pos h1_1 (Up.refl _) rfl (i := s5v.toNat) (by omega) dz86
 obtain rfl := hV25v
 refine sim_if (fun hk28v => ?_) (fun hk28v => ?_)
 refine sim_ask (fun hi30v => ?_)
 obtain ⟨b31v, b31vo, r34v, ha32v, hV35v, hlr36v, hcell37v⟩ := RdV.pos h0 (Up.refl _) rfl (i := s5v.toNat) (by omega) dz86
 obtain rfl := hV35v
 refine sim_ask (fun hi38v => ?_)
 obtain ⟨b39v, b39vo, r42v, ha40v, hV43v, hlr44v, hcell45v⟩ := RdV.pos h1_1 (Up.refl _) rfl (i := s5v.toNat) (by omega) dz86
 obtain rfl := hV43v
 refine sim_if (fun hk46v => ?_) (fun hk46v => ?_)
 refine sim_ask (fun hi48v => ?_)
 obtain ⟨b49v, b49vo, r52v, ha50v, hV53v, hlr54v, hcell55v⟩ := RdV.pos h0 (Up.refl _) rfl (i := s5v.toNat) (by omega) dz86
 obtain rfl := hV53v
 refine sim_ask (fun hi56v => ?_)
 obtain ⟨b57v, b57vo, r60v, ha58v, hV61v, hlr62v, hcell63v⟩ := RdV.pos h1_1 (Up.refl _) rfl (i := s5v.toNat) (by omega) dz86
 obtain rfl := hV61v
 refine sim_draw (Γ := Unit) () [[], [], [0, 1], [0, 1, 2], rL 4, [], [5], [5, 6], [5, 6, 7], [], [5, 6, 7, 8, 9], [5, 6, 7, 8, 9, 10], [5, 6, 7, 8, 9, 10, 11], rL 13, rL 14, rL 15, rL 15, rL 17, rL 18, rL 19, rL 15, [0, 1, 2, 3, 4, 5, 6, 7, 8, 9, 10, 11, 12, 13, 14, 20], [0, 1, 2, 3, 4, 5, 6, 7, 8, 9, 10, 11, 12, 13, 14, 20, 21], [0, 1, 2, 3, 4, 5, 6, 7, 8, 9, 10, 11, 12, 13, 14, 20, 21, 22], rL 15, [0, 1, 2, 3, 4, 5, 6, 7, 8, 9, 10, 11, 12, 13, 14, 20, 21, 22, 23, 24], [0, 1, 2, 3, 4, 5, 6, 7, 8, 9, 10, 11, 12, 13, 14, 20, 21, 22, 23, 24, 25], [0, 1, 2, 3, 4, 5, 6, 7, 8, 9, 10, 11, 12, 13, 14, 20, 21, 22, 23, 24, 25, 26], rL 28, rL 29, rL 30, rL 31, rL 31, rL 33, rL 34, rL 35, rL 31, [0, 1, 2, 3, 4, 5, 6, 7, 8, 9, 10, 11, 12, 13, 14, 15, 16, 17, 18, 19, 20, 21, 22, 23, 24, 25, 26, 27, 28, 29, 30, 36], [0, 1, 2, 3, 4, 5, 6, 7, 8, 9, 10, 11, 12, 13, 14, 15, 16, 17, 18, 19, 20, 21, 22, 23, 24, 25, 26, 27, 28, 29, 30, 36, 37], [0, 1, 2, 3, 4, 5, 6, 7, 8, 9, 10, 11, 12, 13, 14, 15, 16, 17, 18, 19, 20, 21, 22, 23, 24, 25, 26, 27, 28, 29, 30, 36, 37, 38], rL 31, [0, 1, 2, 3, 4, 5, 6, 7, 8, 9, 10, 11, 12, 13, 14, 15, 16, 17, 18, 19, 20, 21, 22, 23, 24, 25, 26, 27, 28, 29, 30, 36, 37, 38, 39, 40], [0, 1, 2, 3, 4, 5, 6, 7, 8, 9, 10, 11, 12, 13, 14, 15, 16, 17, 18, 19, 20, 21, 22, 23, 24, 25, 26, 27, 28, 29, 30, 36, 37, 38, 39, 40, 41], [0, 1, 2, 3, 4, 5, 6, 7, 8, 9, 10, 11, 12, 13, 14, 15, 16, 17, 18, 19, 20, 21, 22, 23, 24, 25, 26, 27, 28, 29, 30, 36, 37, 38, 39, 40, 41, 42], rL 44, rL 45] [] [0, 1, 2, 3, 4, 5, 6, 7, 8, 9, 10, 11, 12, 13, 14, 15, 16, 17, 18, 19, 20, 21, 22, 23, 24, 25, 26, 27, 28, 29, 30, 31, 32, 33, 34, 35, 36, 37, 38, 39, 40, 41, 42, 43, 44, 45] (fun i => [[0], [0], [0], [0], [0], [0], [0], [0], [0], [0], [0], [0], [0], [0], [0], [0], [0], [0], [0], [0], [0], [0], [0], [0], [0], [0], [0], [0], [0], [0], [0], [0], [0], [0], [0], [0], [0], [0], [0], [0], [0], [0], [0], [0], [0], [0]].getD i []) (fun i => [[], [], [], [], [], [], [], [], [], [], [], [], [], [], [], [], [], [], [], [], [], [], [], [], [], [], [], [], [], [], [], [], [], [], [], [], [], [], [], [], [], [], [], [], [], []].getD i []) (fun γ i => [.slice a0 x0.length c0, .int .i64 s5v, .pointer (some ⟨b13v, b13vo + s5v.toNat * 4, none⟩), .pointer (some ⟨b13v, b13vo + s5v.toNat * 4 + 0, none⟩), .int .i64 ((x0.getD s5v.toNat dz86).1), .pointer (some ⟨b1, 0, none⟩), .pointer (some ⟨b1, 0, none⟩), .pointer (some ⟨b1, 1, none⟩), .slice a1_1 x1_1.length c1_1, .int .i64 s5v, .pointer (some ⟨b21v, b21vo + s5v.toNat * 4, none⟩), .pointer (some ⟨b21v, b21vo + s5v.toNat * 4 + 0, none⟩), .int .i64 ((x1_1.getD s5v.toNat dz86).1), .bool (!decide ((x0.getD s5v.toNat dz86).1 = (x1_1.getD s5v.toNat dz86).1)), .bool (!decide ((x0.getD s5v.toNat dz86).1 = (x1_1.getD s5v.toNat dz86).1)), .slice a0 x0.length c0, .int .i64 s5v, .pointer (some ⟨b31v, b31vo + s5v.toNat * 4, none⟩), .pointer (some ⟨b31v, b31vo + s5v.toNat * 4 + 1, none⟩), .int .i64 ((x0.getD s5v.toNat dz86).2.1), .pointer (some ⟨b1, 0, none⟩), .pointer (some ⟨b1, 0, none⟩), .pointer (some ⟨b1, 1, none⟩), .slice a1_1 x1_1.length c1_1, .int .i64 s5v, .pointer (some ⟨b39v, b39vo + s5v.toNat * 4, none⟩), .pointer (some ⟨b39v, b39vo + s5v.toNat * 4 + 1, none⟩), .int .i64 ((x1_1.getD s5v.toNat dz86).2.1), .bool (!decide ((x0.getD s5v.toNat dz86).2.1 = (x1_1.getD s5v.toNat dz86).2.1)), .bool (!decide ((x0.getD s5v.toNat dz86).2.1 = (x1_1.getD s5v.toNat dz86).2.1)), .bool (!decide ((x0.getD s5v.toNat dz86).2.1 = (x1_1.getD s5v.toNat dz86).2.1)), .slice a0 x0.length c0, .int .i64 s5v, .pointer (some ⟨b49v, b49vo + s5v.toNat * 4, none⟩), .pointer (some ⟨b49v, b49vo + s5v.toNat * 4 + 2, none⟩), .agg #[.int .i64 ((x0.getD s5v.toNat dz86).2.2.1), str ((x0.getD s5v.toNat dz86).2.2.2)], .pointer (some ⟨b1, 0, none⟩), .pointer (some ⟨b1, 0, none⟩), .pointer (some ⟨b1, 1, none⟩), .slice a1_1 x1_1.length c1_1, .int .i64 s5v, .pointer (some ⟨b57v, b57vo + s5v.toNat * 4, none⟩), .pointer (some ⟨b57v, b57vo + s5v.toNat * 4 + 2, none⟩), .agg #[.int .i64 ((x1_1.getD s5v.toNat dz86).2.2.1), str ((x1_1.getD s5v.toNat dz86).2.2.2)], .bool (!(decide ((x0.getD s5v.toNat dz86).2.2.1 = (x1_1.getD s5v.toNat dz86).2.2.1) && (decide (((x0.getD s5v.toNat dz86).2.2.2) = ((x1_1.getD s5v.toNat dz86).2.2.2))))), .bool (!(decide ((x0.getD s5v.toNat dz86).2.2.1 = (x1_1.getD s5v.toNat dz86).2.2.1) && (decide (((x0.getD s5v.toNat dz86).2.2.2) = ((x1_1.getD s5v.toNat dz86).2.2.2)))))].getD i undef) (fun j γ => [[obj b1 47 [.slice a1_0 x1_0.length c1_0, .slice a1_1 x1_1.length c1_1], F]].getD j []) (fun γ => [(0, .slice a0 x0.length c0), (1, .pointer (some ⟨b1, 0, none⟩)), (5, .int .i64 s5v), (35, .slice a0 x0.length c0), (36, .int .i64 s5v), (37, .pointer (some ⟨b31v, b31vo + s5v.toNat * 4, none⟩)), (38, .pointer (some ⟨b31v, b31vo + s5v.toNat * 4 + 1, none⟩)), (39, .int .i64 ((x0.getD s5v.toNat dz86).2.1)), (40, .pointer (some ⟨b1, 0, none⟩)), (41, .pointer (some ⟨b1, 0, none⟩)), (42, .pointer (some ⟨b1, 1, none⟩)), (43, .slice a1_1 x1_1.length c1_1), (44, .int .i64 s5v), (45, .pointer (some ⟨b39v, b39vo + s5v.toNat * 4, none⟩)), (46, .pointer (some ⟨b39v, b39vo + s5v.toNat * 4 + 1, none⟩)), (47, .int .i64 ((x1_1.getD s5v.toNat dz86).2.1)), (48, .bool (!decide ((x0.getD s5v.toNat dz86).2.1 = (x1_1.getD s5v.toNat dz86).2.1))), (51, .slice a0 x0.length c0), (52, .int .i64 s5v), (53, .pointer (some ⟨b49v, b49vo + s5v.toNat * 4, none⟩)), (54, .pointer (some ⟨b49v, b49vo + s5v.toNat * 4 + 2, none⟩)), (55, .agg #[.int .i64 ((x0.getD s5v.toNat dz86).2.2.1), str ((x0.getD s5v.toNat dz86).2.2.2)]), (56, .pointer (some ⟨b1, 0, none⟩)), (57, .pointer (some ⟨b1, 0, none⟩)), (58, .pointer (some ⟨b1, 1, none⟩)), (59, .slice a1_1 x1_1.length c1_1), (60, .int .i64 s5v), (61, .pointer (some ⟨b57v, b57vo + s5v.toNat * 4, none⟩)), (62, .pointer (some ⟨b57v, b57vo + s5v.toNat * 4 + 2, none⟩)), (63, .agg #[.int .i64 ((x1_1.getD s5v.toNat dz86).2.2.1), str ((x1_1.getD s5v.toNat dz86).2.2.2)]), (64, .bool (!(decide ((x0.getD s5v.toNat dz86).2.2.1 = (x1_1.getD s5v.toNat dz86).2.2.1) && (decide (((x0.getD s5v.toNat dz86).2.2.2) = ((x1_1.getD s5v.toNat dz86).2.2.2)))))), (65, .bool (!(decide ((x0.getD s5v.toNat dz86).2.2.1 = (x1_1.getD s5v.toNat dz86).2.2.1) && (decide (((x0.getD s5v.toNat dz86).2.2.2) = ((x1_1.getD s5v.toNat dz86).2.2.2))))))]) mixed (by decide) (by decide) (by decide) (by decide) (by decide) (by decide) (by decide) 66 rfl (by decide) (by decide) (by decide) (Ent.refl _) ?_ ?_ (fun _ => ⟨rfl, rfl, rfl, rfl, rfl, rfl, rfl, rfl, rfl, rfl, rfl, rfl, rfl, rfl, rfl, rfl, rfl, rfl, rfl, rfl, rfl, rfl, rfl, rfl, rfl, rfl, rfl, rfl, rfl, rfl, rfl, rfl, trivial⟩) ?_
 exact (aq rfl (fun γ => qm rfl (.o (s := 0) rfl (by decide) .nil) rfl) (aq rfl (fun γ => qm rfl (.o (s := 5) rfl (by decide) .nil) rfl) (aq rfl (fun γ => qp rfl rfl (.v 0 rfl rfl (.v 1 rfl rfl .nil)) (q_idx rfl rfl rfl ha14v Try.underlying39 Try.sizeOf42 hi12v.1 hi12v.2) rfl) (aq rfl (fun γ => qp rfl rfl (.v 2 rfl rfl .nil) (q_fa rfl rfl Try.underlying42 rfl rfl Try.sizeOf3 rfl) rfl) (aq rfl (fun γ => qp rfl rfl (.v 3 rfl rfl .nil) (q_load rfl rfl Try.isAgg3 (hcell19v 1 rfl 0 _ rfl)) rfl) (aq rfl (fun γ => qm rfl (.o (s := 1) rfl (by decide) .nil) rfl) (aq rfl (fun γ => qp rfl rfl (.v 5 rfl rfl .nil) (q_nil rfl rfl) rfl) (aq rfl (fun γ => qp rfl rfl (.v 6 rfl rfl .nil) (q_fa rfl rfl Try.underlying47 rfl rfl Try.sizeOf45 rfl) rfl) (aq rfl (fun γ => qp rfl rfl (.v 7 rfl rfl .nil) (q_load rfl rfl Try.isAgg45 (.obj 0 rfl rfl)) rfl) (aq rfl (fun γ => qm rfl (.o (s := 5) rfl (by decide) .nil) rfl) (aq rfl (fun γ => qp rfl rfl (.v 8 rfl rfl (.v 9 rfl rfl .nil)) (q_idx rfl rfl rfl ha22v Try.underlying45 Try.sizeOf86 hi20v.1 hi20v.2) rfl) (aq rfl (fun γ => qp rfl rfl (.v 10 rfl rfl .nil) (q_fa rfl rfl Try.underlying86 rfl rfl Try.sizeOf3 rfl) rfl) (aq rfl (fun γ => qp rfl rfl (.v 11 rfl rfl .nil) (q_load rfl rfl Try.isAgg3 (hcell27v 1 rfl 0 _ rfl)) rfl) (aq rfl (fun γ => qp rfl rfl (.v 4 rfl rfl (.v 12 rfl rfl .nil)) (q_neq rfl rfl rfl) rfl) (aq rfl (fun γ => qm rfl (.v 13 rfl rfl .nil) rfl) (aq rfl (fun γ => qy rfl rfl (.o (s := 0) rfl (by decide) (.v 14 rfl rfl .nil)) rfl rfl (beq_no (ndec_no hk28v)) (q_move rfl rfl) rfl) (aq rfl (fun γ => qy rfl rfl (.o (s := 5) rfl (by decide) (.v 14 rfl rfl .nil)) rfl rfl (beq_no (ndec_no hk28v)) (q_move rfl rfl) rfl) (aq rfl (fun γ => qy rfl rfl (.v 14 rfl rfl (.v 15 rfl rfl (.v 16 rfl rfl .nil))) rfl rfl (beq_no (ndec_no hk28v)) (q_idx rfl rfl rfl ha32v Try.underlying39 Try.sizeOf42 hi30v.1 hi30v.2) rfl) (aq rfl (fun γ => qy rfl rfl (.v 14 rfl rfl (.v 17 rfl rfl .nil)) rfl rfl (beq_no (ndec_no hk28v)) (q_fa rfl rfl Try.underlying42 rfl rfl Try.sizeOf3 rfl) rfl) (aq rfl (fun γ => qy rfl rfl (.v 14 rfl rfl (.v 18 rfl rfl .nil)) rfl rfl (beq_no (ndec_no hk28v)) (q_load rfl rfl Try.isAgg3 (hcell37v 1 rfl 1 _ rfl)) rfl) (aq rfl (fun γ => qy rfl rfl (.o (s := 1) rfl (by decide) (.v 14 rfl rfl .nil)) rfl rfl (beq_no (ndec_no hk28v)) (q_move rfl rfl) rfl) (aq rfl (fun γ => qy rfl rfl (.v 14 rfl rfl (.v 20 rfl rfl .nil)) rfl rfl (beq_no (ndec_no hk28v)) (q_nil rfl rfl) rfl) (aq rfl (fun γ => qy rfl rfl (.v 14 rfl rfl (.v 21 rfl rfl .nil)) rfl rfl (beq_no (ndec_no hk28v)) (q_fa rfl rfl Try.underlying47 rfl rfl Try.sizeOf45 rfl) rfl) (aq rfl (fun γ => qy rfl rfl (.v 14 rfl rfl (.v 22 rfl rfl .nil)) rfl rfl (beq_no (ndec_no hk28v)) (q_load rfl rfl Try.isAgg45 (.obj 0 rfl rfl)) rfl) (aq rfl (fun γ => qy rfl rfl (.o (s := 5) rfl (by decide) (.v 14 rfl rfl .nil)) rfl rfl (beq_no (ndec_no hk28v)) (q_move rfl rfl) rfl) (aq rfl (fun γ => qy rfl rfl (.v 14 rfl rfl (.v 23 rfl rfl (.v 24 rfl rfl .nil))) rfl rfl (beq_no (ndec_no hk28v)) (q_idx rfl rfl rfl ha40v Try.underlying45 Try.sizeOf86 hi38v.1 hi38v.2) rfl) (aq rfl (fun γ => qy rfl rfl (.v 14 rfl rfl (.v 25 rfl rfl .nil)) rfl rfl (beq_no (ndec_no hk28v)) (q_fa rfl rfl Try.underlying86 rfl rfl Try.sizeOf3 rfl) rfl) (aq rfl (fun γ => qy rfl rfl (.v 14 rfl rfl (.v 26 rfl rfl .nil)) rfl rfl (beq_no (ndec_no hk28v)) (q_load rfl rfl Try.isAgg3 (hcell45v 1 rfl 1 _ rfl)) rfl) (aq rfl (fun γ => qy rfl rfl (.v 14 rfl rfl (.v 19 rfl rfl (.v 27 rfl rfl .nil))) rfl rfl (beq_no (ndec_no hk28v)) (q_neq rfl rfl rfl) rfl) (aq rfl (fun γ => qp rfl rfl (.v 14 rfl rfl (.v 28 rfl rfl .nil)) (q_pick rfl rfl rfl rfl (bif_no (ndec_no hk28v) _ _)) rfl) (aq rfl (fun γ => qm rfl (.v 29 rfl rfl .nil) rfl) (aq rfl (fun γ => qy rfl rfl (.o (s := 0) rfl (by decide) (.v 30 rfl rfl .nil)) rfl rfl (beq_no (ndec_no hk46v)) (q_move rfl rfl) rfl) (aq rfl (fun γ => qy rfl rfl (.o (s := 5) rfl (by decide) (.v 30 rfl rfl .nil)) rfl rfl (beq_no (ndec_no hk46v)) (q_move rfl rfl) rfl) (aq rfl (fun γ => qy rfl rfl (.v 30 rfl rfl (.v 31 rfl rfl (.v 32 rfl rfl .nil))) rfl rfl (beq_no (ndec_no hk46v)) (q_idx rfl rfl rfl ha50v Try.underlying39 Try.sizeOf42 hi48v.1 hi48v.2) rfl) (aq rfl (fun γ => qy rfl rfl (.v 30 rfl rfl (.v 33 rfl rfl .nil)) rfl rfl (beq_no (ndec_no hk46v)) (q_fa rfl rfl Try.underlying42 rfl rfl Try.sizeOf28 rfl) rfl) (aq rfl (fun γ => qy rfl rfl (.v 30 rfl rfl (.v 34 rfl rfl .nil)) rfl rfl (beq_no (ndec_no hk46v)) (q_loads (vs := [.int .i64 ((x0.getD s5v.toNat dz86).2.2.1), str ((x0.getD s5v.toNat dz86).2.2.2)]) rfl rfl Try.isAgg28 Try.sizeOf28 rfl (fun j v hj => cellAt_off (hcell55v 1 rfl (2 + j) v (get_drop 2 hj)))) rfl) (aq rfl (fun γ => qy rfl rfl (.o (s := 1) rfl (by decide) (.v 30 rfl rfl .nil)) rfl rfl (beq_no (ndec_no hk46v)) (q_move rfl rfl) rfl) (aq rfl (fun γ => qy rfl rfl (.v 30 rfl rfl (.v 36 rfl rfl .nil)) rfl rfl (beq_no (ndec_no hk46v)) (q_nil rfl rfl) rfl) (aq rfl (fun γ => qy rfl rfl (.v 30 rfl rfl (.v 37 rfl rfl .nil)) rfl rfl (beq_no (ndec_no hk46v)) (q_fa rfl rfl Try.underlying47 rfl rfl Try.sizeOf45 rfl) rfl) (aq rfl (fun γ => qy rfl rfl (.v 30 rfl rfl (.v 38 rfl rfl .nil)) rfl rfl (beq_no (ndec_no hk46v)) (q_load rfl rfl Try.isAgg45 (.obj 0 rfl rfl)) rfl) (aq rfl (fun γ => qy rfl rfl (.o (s := 5) rfl (by decide) (.v 30 rfl rfl .nil)) rfl rfl (beq_no (ndec_no hk46v)) (q_move rfl rfl) rfl) (aq rfl (fun γ => qy rfl rfl (.v 30 rfl rfl (.v 39 rfl rfl (.v 40 rfl rfl .nil))) rfl rfl (beq_no (ndec_no hk46v)) (q_idx rfl rfl rfl ha58v Try.underlying45 Try.sizeOf86 hi56v.1 hi56v.2) rfl) (aq rfl (fun γ => qy rfl rfl (.v 30 rfl rfl (.v 41 rfl rfl .nil)) rfl rfl (beq_no (ndec_no hk46v)) (q_fa rfl rfl Try.underlying86 rfl rfl Try.sizeOf28 rfl) rfl) (aq rfl (fun γ => qy rfl rfl (.v 30 rfl rfl (.v 42 rfl rfl .nil)) rfl rfl (beq_no (ndec_no hk46v)) (q_loads (vs := [.int .i64 ((x1_1.getD s5v.toNat dz86).2.2.1), str ((x1_1.getD s5v.toNat dz86).2.2.2)]) rfl rfl Try.isAgg28 Try.sizeOf28 rfl (fun j v hj => cellAt_off (hcell63v 1 rfl (2 + j) v (get_drop 2 hj)))) rfl) (aq rfl (fun γ => qy rfl rfl (.v 30 rfl rfl (.v 35 rfl rfl (.v 43 rfl rfl .nil))) rfl rfl (beq_no (ndec_no hk46v)) (q_neagg rfl rfl rfl (by kernel_rfl) (fun d w => eqi_struct Try.underlying28 (by kernel_rfl) (eqf_cons (by rfl) (part_of Try.isAgg3 rfl) (part_of Try.isAgg3 rfl) (eqi_int Try.underlying3) (eqf_last (by rfl) (part_of Try.isAgg9 rfl) (part_of Try.isAgg9 rfl) (eqi_str Try.underlying9))))) rfl) (aq rfl (fun γ => qp rfl rfl (.v 30 rfl rfl (.v 44 rfl rfl .nil)) (q_pick rfl rfl rfl rfl (bif_no (ndec_no hk46v) _ _)) rfl) zA))))))))))))))))))))))))))))))))))))))))))))))
 exact zA
 intro g64v
 exact nrm_cut (s := !(decide ((x0.getD s5v.toNat dz86).2.2.1 = (x1_1.getD s5v.toNat dz86).2.2.1) && (decide (((x0.getD s5v.toNat dz86).2.2.2) = ((x1_1.getD s5v.toNat dz86).2.2.2))))) () ⟨rfl, rfl, rfl, rfl, trivial⟩ (.sel 0 rfl (.sel 0 rfl (.nil _)))
 refine sim_draw (Γ := Unit) () [[], [], [0, 1], [0, 1, 2], rL 4, [], [5], [5, 6], [5, 6, 7], [], [5, 6, 7, 8, 9], [5, 6, 7, 8, 9, 10], [5, 6, 7, 8, 9, 10, 11], rL 13, rL 14, rL 15, rL 15, rL 17, rL 18, rL 19, rL 15, [0, 1, 2, 3, 4, 5, 6, 7, 8, 9, 10, 11, 12, 13, 14, 20], [0, 1, 2, 3, 4, 5, 6, 7, 8, 9, 10, 11, 12, 13, 14, 20, 21], [0, 1, 2, 3, 4, 5, 6, 7, 8, 9, 10, 11, 12, 13, 14, 20, 21, 22], rL 15, [0, 1, 2, 3, 4, 5, 6, 7, 8, 9, 10, 11, 12, 13, 14, 20, 21, 22, 23, 24], [0, 1, 2, 3, 4, 5, 6, 7, 8, 9, 10, 11, 12, 13, 14, 20, 21, 22, 23, 24, 25], [0, 1, 2, 3, 4, 5, 6, 7, 8, 9, 10, 11, 12, 13, 14, 20, 21, 22, 23, 24, 25, 26], rL 28, rL 29, rL 30, rL 31, rL 31, rL 33, rL 34, rL 35, rL 31, [0, 1, 2, 3, 4, 5, 6, 7, 8, 9, 10, 11, 12, 13, 14, 15, 16, 17, 18, 19, 20, 21, 22, 23, 24, 25, 26, 27, 28, 29, 30, 36], [0, 1, 2, 3, 4, 5, 6, 7, 8, 9, 10, 11, 12, 13, 14, 15, 16, 17, 18, 19, 20, 21, 22, 23, 24, 25, 26, 27, 28, 29, 30, 36, 37], [0, 1, 2, 3, 4, 5, 6, 7, 8, 9, 10, 11, 12, 13, 14, 15, 16, 17, 18, 19, 20, 21, 22, 23, 24, 25, 26, 27, 28, 29, 30, 36, 37, 38], rL 31, [0, 1, 2, 3, 4, 5, 6, 7, 8, 9, 10, 11, 12, 13, 14, 15, 16, 17, 18, 19, 20, 21, 22, 23, 24, 25, 26, 27, 28, 29, 30, 36, 37, 38, 39, 40], [0, 1, 2, 3, 4, 5, 6, 7, 8, 9, 10, 11, 12, 13, 14, 15, 16, 17, 18, 19, 20, 21, 22, 23, 24, 25, 26, 27, 28, 29, 30, 36, 37, 38, 39, 40, 41], [0, 1, 2, 3, 4, 5, 6, 7, 8, 9, 10, 11, 12, 13, 14, 15, 16, 17, 18, 19, 20, 21, 22, 23, 24, 25, 26, 27, 28, 29, 30, 36, 37, 38, 39, 40, 41, 42], rL 44, rL 45] [] [0, 1, 2, 3, 4, 5, 6, 7, 8, 9, 10, 11, 12, 13, 14, 15, 16, 17, 18, 19, 20, 21, 22, 23, 24, 25, 26, 27, 28, 29, 30, 31, 32, 33, 34, 35, 36, 37, 38, 39, 40, 41, 42, 43, 44, 45] (fun i => [[0], [0], [0], [0], [0], [0], [0], [0], [0], [0], [0], [0], [0], [0], [0], [0], [0], [0], [0], [0], [0], [0], [0], [0], [0], [0], [0], [0], [0], [0], [0], [0], [0], [0], [0], [0], [0], [0], [0], [0], [0], [0], [0], [0], [0], [0]].getD i []) (fun i => [[], [], [], [], [], [], [], [], [], [], [], [], [], [], [], [], [], [], [], [], [], [], [], [], [], [], [], [], [], [], [], [], [], [], [], [], [], [], [], [], [], [], [], [], [], []].getD i []) (fun γ i => [.slice a0 x0.length c0, .int .i64 s5v, .pointer (some ⟨b13v, b13vo + s5v.toNat * 4, none⟩), .pointer (some ⟨b13v, b13vo + s5v.toNat * 4 + 0, none⟩), .int .i64 ((x0.getD s5v.toNat dz86).1), .pointer (some ⟨b1, 0, none⟩), .pointer (some ⟨b1, 0, none⟩), .pointer (some ⟨b1, 1, none⟩), .slice a1_1 x1_1.length c1_1, .int .i64 s5v, .pointer (some ⟨b21v, b21vo + s5v.toNat * 4, none⟩), .pointer (some ⟨b21v, b21vo + s5v.toNat * 4 + 0, none⟩), .int .i64 ((x1_1.getD s5v.toNat dz86).1), .bool (!decide ((x0.getD s5v.toNat dz86).1 = (x1_1.getD s5v.toNat dz86).1)), .bool (!decide ((x0.getD s5v.toNat dz86).1 = (x1_1.getD s5v.toNat dz86).1)), .slice a0 x0.length c0, .int .i64 s5v, .pointer (some ⟨b31v, b31vo + s5v.toNat * 4, none⟩), .pointer (some ⟨b31v, b31vo + s5v.toNat * 4 + 1, none⟩), .int .i64 ((x0.getD s5v.toNat dz86).2.1), .pointer (some ⟨b1, 0, none⟩), .pointer (some ⟨b1, 0, none⟩), .pointer (some ⟨b1, 1, none⟩), .slice a1_1 x1_1.length c1_1, .int .i64 s5v, .pointer (some ⟨b39v, b39vo + s5v.toNat * 4, none⟩), .pointer (some ⟨b39v, b39vo + s5v.toNat * 4 + 1, none⟩), .int .i64 ((x1_1.getD s5v.toNat dz86).2.1), .bool (!decide ((x0.getD s5v.toNat dz86).2.1 = (x1_1.getD s5v.toNat dz86).2.1)), .bool (!decide ((x0.getD s5v.toNat dz86).2.1 = (x1_1.getD s5v.toNat dz86).2.1)), .bool (!decide ((x0.getD s5v.toNat dz86).2.1 = (x1_1.getD s5v.toNat dz86).2.1)), undef, undef, undef, undef, undef, undef, undef, undef, undef, undef, undef, undef, undef, undef, .bool true].getD i undef) (fun j γ => [[obj b1 47 [.slice a1_0 x1_0.length c1_0, .slice a1_1 x1_1.length c1_1], F]].getD j []) (fun γ => [(0, .slice a0 x0.length c0), (1, .pointer (some ⟨b1, 0, none⟩)), (5, .int .i64 s5v), (35, .slice a0 x0.length c0), (36, .int .i64 s5v), (37, .pointer (some ⟨b31v, b31vo + s5v.toNat * 4, none⟩)), (38, .pointer (some ⟨b31v, b31vo + s5v.toNat * 4 + 1, none⟩)), (39, .int .i64 ((x0.getD s5v.toNat dz86).2.1)), (40, .pointer (some ⟨b1, 0, none⟩)), (41, .pointer (some ⟨b1, 0, none⟩)), (42, .pointer (some ⟨b1, 1, none⟩)), (43, .slice a1_1 x1_1.length c1_1), (44, .int .i64 s5v), (45, .pointer (some ⟨b39v, b39vo + s5v.toNat * 4, none⟩)), (46, .pointer (some ⟨b39v, b39vo + s5v.toNat * 4 + 1, none⟩)), (47, .int .i64 ((x1_1.getD s5v.toNat dz86).2.1)), (48, .bool (!decide ((x0.getD s5v.toNat dz86).2.1 = (x1_1.getD s5v.toNat dz86).2.1))), (51, undef), (52, undef), (53, undef), (54, undef), (55, undef), (56, undef), (57, undef), (58, undef), (59, undef), (60, undef), (61, undef), (62, undef), (63, undef), (64, undef), (65, .bool true)]) mixed (by decide) (by decide) (by decide) (by decide) (by decide) (by decide) (by decide) 66 rfl (by decide) (by decide) (by decide) (Ent.refl _) ?_ ?_ (fun _ => ⟨rfl, rfl, rfl, rfl, rfl, rfl, rfl, rfl, rfl, rfl, rfl, rfl, rfl, rfl, rfl, rfl, rfl, rfl, rfl, rfl, rfl, rfl, rfl, rfl, rfl, rfl, rfl, rfl, rfl, rfl, rfl, rfl, trivial⟩) ?_
 exact (aq rfl (fun γ => qm rfl (.o (s := 0) rfl (by decide) .nil) rfl) (aq rfl (fun γ => qm rfl (.o (s := 5) rfl (by decide) .nil) rfl) (aq rfl (fun γ => qp rfl rfl (.v 0 rfl rfl (.v 1 rfl rfl .nil)) (q_idx rfl rfl rfl ha14v Try.underlying39 Try.sizeOf42 hi12v.1 hi12v.2) rfl) (aq rfl (fun γ => qp rfl rfl (.v 2 rfl rfl .nil) (q_fa rfl rfl Try.underlying42 rfl rfl Try.sizeOf3 rfl) rfl) (aq rfl (fun γ => qp rfl rfl (.v 3 rfl rfl .nil) (q_load rfl rfl Try.isAgg3 (hcell19v 1 rfl 0 _ rfl)) rfl) (aq rfl (fun γ => qm rfl (.o (s := 1) rfl (by decide) .nil) rfl) (aq rfl (fun γ => qp rfl rfl (.v 5 rfl rfl .nil) (q_nil rfl rfl) rfl) (aq rfl (fun γ => qp rfl rfl (.v 6 rfl rfl .nil) (q_fa rfl rfl Try.underlying47 rfl rfl Try.sizeOf45 rfl) rfl) (aq rfl (fun γ => qp rfl rfl (.v 7 rfl rfl .nil) (q_load rfl rfl Try.isAgg45 (.obj 0 rfl rfl)) rfl) (aq rfl (fun γ => qm rfl (.o (s := 5) rfl (by decide) .nil) rfl) (aq rfl (fun γ => qp rfl rfl (.v 8 rfl rfl (.v 9 rfl rfl .nil)) (q_idx rfl rfl rfl ha22v Try.underlying45 Try.sizeOf86 hi20v.1 hi20v.2) rfl) (aq rfl (fun γ => qp rfl rfl (.v 10 rfl rfl .nil) (q_fa rfl rfl Try.underlying86 rfl rfl Try.sizeOf3 rfl) rfl) (aq rfl (fun γ => qp rfl rfl (.v 11 rfl rfl .nil) (q_load rfl rfl Try.isAgg3 (hcell27v 1 rfl 0 _ rfl)) rfl) (aq rfl (fun γ => qp rfl rfl (.v 4 rfl rfl (.v 12 rfl rfl .nil)) (q_neq rfl rfl rfl) rfl) (aq rfl (fun γ => qm rfl (.v 13 rfl rfl .nil) rfl) (aq rfl (fun γ => qy rfl rfl (.o (s := 0) rfl (by decide) (.v 14 rfl rfl .nil)) rfl rfl (beq_no (ndec_no hk28v)) (q_move rfl rfl) rfl) (aq rfl (fun γ => qy rfl rfl (.o (s := 5) rfl (by decide) (.v 14 rfl rfl .nil)) rfl rfl (beq_no (ndec_no hk28v)) (q_move rfl rfl) rfl) (aq rfl (fun γ => qy rfl rfl (.v 14 rfl rfl (.v 15 rfl rfl (.v 16 rfl rfl .nil))) rfl rfl (beq_no (ndec_no hk28v)) (q_idx rfl rfl rfl ha32v Try.underlying39 Try.sizeOf42 hi30v.1 hi30v.2) rfl) (aq rfl (fun γ => qy rfl rfl (.v 14 rfl rfl (.v 17 rfl rfl .nil)) rfl rfl (beq_no (ndec_no hk28v)) (q_fa rfl rfl Try.underlying42 rfl rfl Try.sizeOf3 rfl) rfl) (aq rfl (fun γ => qy rfl rfl (.v 14 rfl rfl (.v 18 rfl rfl .nil)) rfl rfl (beq_no (ndec_no hk28v)) (q_load rfl rfl Try.isAgg3 (hcell37v 1 rfl 1 _ rfl)) rfl) (aq rfl (fun γ => qy rfl rfl (.o (s := 1) rfl (by decide) (.v 14 rfl rfl .nil)) rfl rfl (beq_no (ndec_no hk28v)) (q_move rfl rfl) rfl) (aq rfl (fun γ => qy rfl rfl (.v 14 rfl rfl (.v 20 rfl rfl .nil)) rfl rfl (beq_no (ndec_no hk28v)) (q_nil rfl rfl) rfl) (aq rfl (fun γ => qy rfl rfl (.v 14 rfl rfl (.v 21 rfl rfl .nil)) rfl rfl (beq_no (ndec_no hk28v)) (q_fa rfl rfl Try.underlying47 rfl rfl Try.sizeOf45 rfl) rfl) (aq rfl (fun γ => qy rfl rfl (.v 14 rfl rfl (.v 22 rfl rfl .nil)) rfl rfl (beq_no (ndec_no hk28v)) (q_load rfl rfl Try.isAgg45 (.obj 0 rfl rfl)) rfl) (aq rfl (fun γ => qy rfl rfl (.o (s := 5) rfl (by decide) (.v 14 rfl rfl .nil)) rfl rfl (beq_no (ndec_no hk28v)) (q_move rfl rfl) rfl) (aq rfl (fun γ => qy rfl rfl (.v 14 rfl rfl (.v 23 rfl rfl (.v 24 rfl rfl .nil))) rfl rfl (beq_no (ndec_no hk28v)) (q_idx rfl rfl rfl ha40v Try.underlying45 Try.sizeOf86 hi38v.1 hi38v.2) rfl) (aq rfl (fun γ => qy rfl rfl (.v 14 rfl rfl (.v 25 rfl rfl .nil)) rfl rfl (beq_no (ndec_no hk28v)) (q_fa rfl rfl Try.underlying86 rfl rfl Try.sizeOf3 rfl) rfl) (aq rfl (fun γ => qy rfl rfl (.v 14 rfl rfl (.v 26 rfl rfl .nil)) rfl rfl (beq_no (ndec_no hk28v)) (q_load rfl rfl Try.isAgg3 (hcell45v 1 rfl 1 _ rfl)) rfl) (aq rfl (fun γ => qy rfl rfl (.v 14 rfl rfl (.v 19 rfl rfl (.v 27 rfl rfl .nil))) rfl rfl (beq_no (ndec_no hk28v)) (q_neq rfl rfl rfl) rfl) (aq rfl (fun γ => qp rfl rfl (.v 14 rfl rfl (.v 28 rfl rfl .nil)) (q_pick rfl rfl rfl rfl (bif_no (ndec_no hk28v) _ _)) rfl) (aq rfl (fun γ => qm rfl (.v 29 rfl rfl .nil) rfl) (aq rfl (fun γ => qn rfl rfl (.o (s := 0) rfl (by decide) (.v 30 rfl rfl .nil)) rfl rfl (beq_yes' (ndec_yes hk46v)) rfl) (aq rfl (fun γ => qn rfl rfl (.o (s := 5) rfl (by decide) (.v 30 rfl rfl .nil)) rfl rfl (beq_yes' (ndec_yes hk46v)) rfl) (aq rfl (fun γ => qn rfl rfl (.v 30 rfl rfl (.v 31 rfl rfl (.v 32 rfl rfl .nil))) rfl rfl (beq_yes' (ndec_yes hk46v)) rfl) (aq rfl (fun γ => qn rfl rfl (.v 30 rfl rfl (.v 33 rfl rfl .nil)) rfl rfl (beq_yes' (ndec_yes hk46v)) rfl) (aq rfl (fun γ => qn rfl rfl (.v 30 rfl rfl (.v 34 rfl rfl .nil)) rfl rfl (beq_yes' (ndec_yes hk46v)) rfl) (aq rfl (fun γ => qn rfl rfl (.o (s := 1) rfl (by decide) (.v 30 rfl rfl .nil)) rfl rfl (beq_yes' (ndec_yes hk46v)) rfl) (aq rfl (fun γ => qn rfl rfl (.v 30 rfl rfl (.v 36 rfl rfl .nil)) rfl rfl (beq_yes' (ndec_yes hk46v)) rfl) (aq rfl (fun γ => qn rfl rfl (.v 30 rfl rfl (.v 37 rfl rfl .nil)) rfl rfl (beq_yes' (ndec_yes hk46v)) rfl) (aq rfl (fun γ => qn rfl rfl (.v 30 rfl rfl (.v 38 rfl rfl .nil)) rfl rfl (beq_yes' (ndec_yes hk46v)) rfl) (aq rfl (fun γ => qn rfl rfl (.o (s := 5) rfl (by decide) (.v 30 rfl rfl .nil)) rfl rfl (beq_yes' (ndec_yes hk46v)) rfl) (aq rfl (fun γ => qn rfl rfl (.v 30 rfl rfl (.v 39 rfl rfl (.v 40 rfl rfl .nil))) rfl rfl (beq_yes' (ndec_yes hk46v)) rfl) (aq rfl (fun γ => qn rfl rfl (.v 30 rfl rfl (.v 41 rfl rfl .nil)) rfl rfl (beq_yes' (ndec_yes hk46v)) rfl) (aq rfl (fun γ => qn rfl rfl (.v 30 rfl rfl (.v 42 rfl rfl .nil)) rfl rfl (beq_yes' (ndec_yes hk46v)) rfl) (aq rfl (fun γ => qn rfl rfl (.v 30 rfl rfl (.v 35 rfl rfl (.v 43 rfl rfl .nil))) rfl rfl (beq_yes' (ndec_yes hk46v)) rfl) (aq rfl (fun γ => qp rfl rfl (.v 30 rfl rfl (.v 44 rfl rfl .nil)) (q_pick rfl rfl rfl rfl (bif_yes (ndec_yes hk46v) _ _)) rfl) zA))))))))))))))))))))))))))))))))))))))))))))))
 exact zA
 intro g47v
 exact nrm_cut (s := true) () ⟨rfl, rfl, rfl, rfl, trivial⟩ (.sel 0 rfl (.sel 0 rfl (.nil _)))
 refine sim_draw (Γ := Unit) () [[], [], [0, 1], [0, 1, 2], rL 4, [], [5], [5, 6], [5, 6, 7], [], [5, 6, 7, 8, 9], [5, 6, 7, 8, 9, 10], [5, 6, 7, 8, 9, 10, 11], rL 13, rL 14, rL 15, rL 15, rL 17, rL 18, rL 19, rL 15, [0, 1, 2, 3, 4, 5, 6, 7, 8, 9, 10, 11, 12, 13, 14, 20], [0, 1, 2, 3, 4, 5, 6, 7, 8, 9, 10, 11, 12, 13, 14, 20, 21], [0, 1, 2, 3, 4, 5, 6, 7, 8, 9, 10, 11, 12, 13, 14, 20, 21, 22], rL 15, [0, 1, 2, 3, 4, 5, 6, 7, 8, 9, 10, 11, 12, 13, 14, 20, 21, 22, 23, 24], [0, 1, 2, 3, 4, 5, 6, 7, 8, 9, 10, 11, 12, 13, 14, 20, 21, 22, 23, 24, 25], [0, 1, 2, 3, 4, 5, 6, 7, 8, 9, 10, 11, 12, 13, 14, 20, 21, 22, 23, 24, 25, 26], rL 28, rL 29, rL 30, rL 31, rL 31, rL 33, rL 34, rL 35, rL 31, [0, 1, 2, 3, 4, 5, 6, 7, 8, 9, 10, 11, 12, 13, 14, 15, 16, 17, 18, 19, 20, 21, 22, 23, 24, 25, 26, 27, 28, 29, 30, 36], [0, 1, 2, 3, 4, 5, 6, 7, 8, 9, 10, 11, 12, 13, 14, 15, 16, 17, 18, 19, 20, 21, 22, 23, 24, 25, 26, 27, 28, 29, 30, 36, 37], [0, 1, 2, 3, 4, 5, 6, 7, 8, 9, 10, 11, 12, 13, 14, 15, 16, 17, 18, 19, 20, 21, 22, 23, 24, 25, 26, 27, 28, 29, 30, 36, 37, 38], rL 31, [0, 1, 2, 3, 4, 5, 6, 7, 8, 9, 10, 11, 12, 13, 14, 15, 16, 17, 18, 19, 20, 21, 22, 23, 24, 25, 26, 27, 28, 29, 30, 36, 37, 38, 39, 40], [0, 1, 2, 3, 4, 5, 6, 7, 8, 9, 10, 11, 12, 13, 14, 15, 16, 17, 18, 19, 20, 21, 22, 23, 24, 25, 26, 27, 28, 29, 30, 36, 37, 38, 39, 40, 41], [0, 1, 2, 3, 4, 5, 6, 7, 8, 9, 10, 11, 12, 13, 14, 15, 16, 17, 18, 19, 20, 21, 22, 23, 24, 25, 26, 27, 28, 29, 30, 36, 37, 38, 39, 40, 41, 42], rL 44, rL 45] [] [0, 1, 2, 3, 4, 5, 6, 7, 8, 9, 10, 11, 12, 13, 14, 15, 16, 17, 18, 19, 20, 21, 22, 23, 24, 25, 26, 27, 28, 29, 30, 31, 32, 33, 34, 35, 36, 37, 38, 39, 40, 41, 42, 43, 44, 45] (fun i => [[0], [0], [0], [0], [0], [0], [0], [0], [0], [0], [0], [0], [0], [0], [0], [0], [0], [0], [0], [0], [0], [0], [0], [0], [0], [0], [0], [0], [0], [0], [0], [0], [0], [0], [0], [0], [0], [0], [0], [0], [0], [0], [0], [0], [0], [0]].getD i []) (fun i => [[], [], [], [], [], [], [], [], [], [], [], [], [], [], [], [], [], [], [], [], [], [], [], [], [], [], [], [], [], [], [], [], [], [], [], [], [], [], [], [], [], [], [], [], [], []].getD i []) (fun γ i => [.slice a0 x0.length c0, .int .i64 s5v, .pointer (some ⟨b13v, b13vo + s5v.toNat * 4, none⟩), .pointer (some ⟨b13v, b13vo + s5v.toNat * 4 + 0, none⟩), .int .i64 ((x0.getD s5v.toNat dz86).1), .pointer (some ⟨b1, 0, none⟩), .pointer (some ⟨b1, 0, none⟩), .pointer (some ⟨b1, 1, none⟩), .slice a1_1 x1_1.length c1_1, .int .i64 s5v, .pointer (some ⟨b21v, b21vo + s5v.toNat * 4, none⟩), .pointer (some ⟨b21v, b21vo + s5v.toNat * 4 + 0, none⟩), .int .i64 ((x1_1.getD s5v.toNat dz86).1), .bool (!decide ((x0.getD s5v.toNat dz86).1 = (x1_1.getD s5v.toNat dz86).1)), .bool (!decide ((x0.getD s5v.toNat dz86).1 = (x1_1.getD s5v.toNat dz86).1)), undef, undef, undef, undef, undef, undef, undef, undef, undef, undef, undef, undef, undef, undef, .bool true, .bool true, undef, undef, undef, undef, undef, undef, undef, undef, undef, undef, undef, undef, undef, undef, .bool true].getD i undef) (fun j γ => [[obj b1 47 [.slice a1_0 x1_0.length c1_0, .slice a1_1 x1_1.length c1_1], F]].getD j []) (fun γ => [(0, .slice a0 x0.length c0), (1, .pointer (some ⟨b1, 0, none⟩)), (5, .int .i64 s5v), (35, undef), (36, undef), (37, undef), (38, undef), (39, undef), (40, undef), (41, undef), (42, undef), (43, undef), (44, undef), (45, undef), (46, undef), (47, undef), (48, undef), (51, undef), (52, undef), (53, undef), (54, undef), (55, undef), (56, undef), (57, undef), (58, undef), (59, undef), (60, undef), (61, undef), (62, undef), (63, undef), (64, undef), (65, .bool true)]) mixed (by decide) (by decide) (by decide) (by decide) (by decide) (by decide) (by decide) 66 rfl (by decide) (by decide) (by decide) (Ent.refl _) ?_ ?_ (fun _ => ⟨rfl, rfl, rfl, rfl, rfl, rfl, rfl, rfl, rfl, rfl, rfl, rfl, rfl, rfl, rfl, rfl, rfl, rfl, rfl, rfl, rfl, rfl, rfl, rfl, rfl, rfl, rfl, rfl, rfl, rfl, rfl, rfl, trivial⟩) ?_
 exact (aq rfl (fun γ => qm rfl (.o (s := 0) rfl (by decide) .nil) rfl) (aq rfl (fun γ => qm rfl (.o (s := 5) rfl (by decide) .nil) rfl) (aq rfl (fun γ => qp rfl rfl (.v 0 rfl rfl (.v 1 rfl rfl .nil)) (q_idx rfl rfl rfl ha14v Try.underlying39 Try.sizeOf42 hi12v.1 hi12v.2) rfl) (aq rfl (fun γ => qp rfl rfl (.v 2 rfl rfl .nil) (q_fa rfl rfl Try.underlying42 rfl rfl Try.sizeOf3 rfl) rfl) (aq rfl (fun γ => qp rfl rfl (.v 3 rfl rfl .nil) (q_load rfl rfl Try.isAgg3 (hcell19v 1 rfl 0 _ rfl)) rfl) (aq rfl (fun γ => qm rfl (.o (s := 1) rfl (by decide) .nil) rfl) (aq rfl (fun γ => qp rfl rfl (.v 5 rfl rfl .nil) (q_nil rfl rfl) rfl) (aq rfl (fun γ => qp rfl rfl (.v 6 rfl rfl .nil) (q_fa rfl rfl Try.underlying47 rfl rfl Try.sizeOf45 rfl) rfl) (aq rfl (fun γ => qp rfl rfl (.v 7 rfl rfl .nil) (q_load rfl rfl Try.isAgg45 (.obj 0 rfl rfl)) rfl) (aq rfl (fun γ => qm rfl (.o (s := 5) rfl (by decide) .nil) rfl) (aq rfl (fun γ => qp rfl rfl (.v 8 rfl rfl (.v 9 rfl rfl .nil)) (q_idx rfl rfl rfl ha22v Try.underlying45 Try.sizeOf86 hi20v.1 hi20v.2) rfl) (aq rfl (fun γ => qp rfl rfl (.v 10 rfl rfl .nil) (q_fa rfl rfl Try.underlying86 rfl rfl Try.sizeOf3 rfl) rfl) (aq rfl (fun γ => qp rfl rfl (.v 11 rfl rfl .nil) (q_load rfl rfl Try.isAgg3 (hcell27v 1 rfl 0 _ rfl)) rfl) (aq rfl (fun γ => qp rfl rfl (.v 4 rfl rfl (.v 12 rfl rfl .nil)) (q_neq rfl rfl rfl) rfl) (aq rfl (fun γ => qm rfl (.v 13 rfl rfl .nil) rfl) (aq rfl (fun γ => qn rfl rfl (.o (s := 0) rfl (by decide) (.v 14 rfl rfl .nil)) rfl rfl (beq_yes' (ndec_yes hk28v)) rfl) (aq rfl (fun γ => qn rfl rfl (.o (s := 5) rfl (by decide) (.v 14 rfl rfl .nil)) rfl rfl (beq_yes' (ndec_yes hk28v)) rfl) (aq rfl (fun γ => qn rfl rfl (.v 14 rfl rfl (.v 15 rfl rfl (.v 16 rfl rfl .nil))) rfl rfl (beq_yes' (ndec_yes hk28v)) rfl) (aq rfl (fun γ => qn rfl rfl (.v 14 rfl rfl (.v 17 rfl rfl .nil)) rfl rfl (beq_yes' (ndec_yes hk28v)) rfl) (aq rfl (fun γ => qn rfl rfl (.v 14 rfl rfl (.v 18 rfl rfl .nil)) rfl rfl (beq_yes' (ndec_yes hk28v)) rfl) (aq rfl (fun γ => qn rfl rfl (.o (s := 1) rfl (by decide) (.v 14 rfl rfl .nil)) rfl rfl (beq_yes' (ndec_yes hk28v)) rfl) (aq rfl (fun γ => qn rfl rfl (.v 14 rfl rfl (.v 20 rfl rfl .nil)) rfl rfl (beq_yes' (ndec_yes hk28v)) rfl) (aq rfl (fun γ => qn rfl rfl (.v 14 rfl rfl (.v 21 rfl rfl .nil)) rfl rfl (beq_yes' (ndec_yes hk28v)) rfl) (aq rfl (fun γ => qn rfl rfl (.v 14 rfl rfl (.v 22 rfl rfl .nil)) rfl rfl (beq_yes' (ndec_yes hk28v)) rfl) (aq rfl (fun γ => qn rfl rfl (.o (s := 5) rfl (by decide) (.v 14 rfl rfl .nil)) rfl rfl (beq_yes' (ndec_yes hk28v)) rfl) (aq rfl (fun γ => qn rfl rfl (.v 14 rfl rfl (.v 23 rfl rfl (.v 24 rfl rfl .nil))) rfl rfl (beq_yes' (ndec_yes hk28v)) rfl) (aq rfl (fun γ => qn rfl rfl (.v 14 rfl rfl (.v 25 rfl rfl .nil)) rfl rfl (beq_yes' (ndec_yes hk28v)) rfl) (aq rfl (fun γ => qn rfl rfl (.v 14 rfl rfl (.v 26 rfl rfl .nil)) rfl rfl (beq_yes' (ndec_yes hk28v)) rfl) (aq rfl (fun γ => qn rfl rfl (.v 14 rfl rfl (.v 19 rfl rfl (.v 27 rfl rfl .nil))) rfl rfl (beq_yes' (ndec_yes hk28v)) rfl) (aq rfl (fun γ => qp rfl rfl (.v 14 rfl rfl (.v 28 rfl rfl .nil)) (q_pick rfl rfl rfl rfl (bif_yes (ndec_yes hk28v) _ _)) rfl) (aq rfl (fun γ => qm rfl (.v 29 rfl rfl .nil) rfl) (aq rfl (fun γ => qn rfl rfl (.o (s := 0) rfl (by decide) (.v 30 rfl rfl .nil)) rfl rfl rfl rfl) (aq rfl (fun γ => qn rfl rfl (.o (s := 5) rfl (by decide) (.v 30 rfl rfl .nil)) rfl rfl rfl rfl) (aq rfl (fun γ => qn rfl rfl (.v 30 rfl rfl (.v 31 rfl rfl (.v 32 rfl rfl .nil))) rfl rfl rfl rfl) (aq rfl (fun γ => qn rfl rfl (.v 30 rfl rfl (.v 33 rfl rfl .nil)) rfl rfl rfl rfl) (aq rfl (fun γ => qn rfl rfl (.v 30 rfl rfl (.v 34 rfl rfl .nil)) rfl rfl rfl rfl) (aq rfl (fun γ => qn rfl rfl (.o (s := 1) rfl (by decide) (.v 30 rfl rfl .nil)) rfl rfl rfl rfl) (aq rfl (fun γ => qn rfl rfl (.v 30 rfl rfl (.v 36 rfl rfl .nil)) rfl rfl rfl rfl) (aq rfl (fun γ => qn rfl rfl (.v 30 rfl rfl (.v 37 rfl rfl .nil)) rfl rfl rfl rfl) (aq rfl (fun γ => qn rfl rfl (.v 30 rfl rfl (.v 38 rfl rfl .nil)) rfl rfl rfl rfl) (aq rfl (fun γ => qn rfl rfl (.o (s := 5) rfl (by decide) (.v 30 rfl rfl .nil)) rfl rfl rfl rfl) (aq rfl (fun γ => qn rfl rfl (.v 30 rfl rfl (.v 39 rfl rfl (.v 40 rfl rfl .nil))) rfl rfl rfl rfl) (aq rfl (fun γ => qn rfl rfl (.v 30 rfl rfl (.v 41 rfl rfl .nil)) rfl rfl rfl rfl) (aq rfl (fun γ => qn rfl rfl (.v 30 rfl rfl (.v 42 rfl rfl .nil)) rfl rfl rfl rfl) (aq rfl (fun γ => qn rfl rfl (.v 30 rfl rfl (.v 35 rfl rfl (.v 43 rfl rfl .nil))) rfl rfl rfl rfl) (aq rfl (fun γ => qp rfl rfl (.v 30 rfl rfl (.v 44 rfl rfl .nil)) (q_pick rfl rfl rfl rfl rfl) rfl) zA))))))))))))))))))))))))))))))))))))))))))))))
 exact zA
 intro g29v
 exact nrm_cut (s := true) () ⟨rfl, rfl, rfl, rfl, trivial⟩ (.sel 0 rfl (.sel 0 rfl (.nil _)))
 intro s10v y11v
 refine sim_condb rfl (fun h65v => ?_) (fun h66v => ?_)
 refine sr ?_
 refine va rfl rfl (simL_nil (nrm_then (sim_rtn ?_)))
 refine rtn_block ?_
 refine rtn_then ?_
 refine rtn_loop ?_
 refine rtn_block ?_
 refine rtn_cutR ?_
 exact rtn_fn () rfl rfl rfl (.sel 0 rfl (.sel 0 rfl (.nil _)))
 refine sim_skip ?_
 refine nrm_block (nrm_then (sim_region ?_))
 refine vm rfl rfl ?_
 refine vq (q_add rfl rfl rfl) rfl ?_
 refine va rfl rfl (simL_nil ?_)
 exact nrm_again (s := IntKind.i64.wrap (s5v + 1)) () ⟨rfl, rfl, rfl, trivial⟩ (.sel 0 rfl (.sel 0 rfl (.nil _)))
 refine sim_exi ?_
 refine exi_then ?_
 refine exi_loop ?_
 refine exi_here ?_
 exact nrm_cutR (s := ()) () trivial (.sel 0 rfl (.sel 0 rfl (.nil _)))
 intro s3v y4v
 refine sr ?_
 refine va rfl rfl (simL_nil (nrm_then (sim_rtn ?_)))
 exact rtn_fn () rfl rfl rfl (.sel 0 rfl (.sel 0 rfl (.nil _)))
 refine sr ?_
 refine va rfl rfl (simL_nil (nrm_then (sim_rtn ?_)))
 refine rtn_then ?_
 exact rtn_fn () rfl rfl rfl (.sel 0 rfl (.sel 0 rfl (.nil _)))

def wire_NewWriter.f  : Option (List UInt8 × Int) := some (([] : List UInt8), 0)
theorem wire_NewWriter.calls (W : World) (F : HA)   :
    Fn Try.prog W 28 [] [] F (wire_NewWriter.f ) (fun (r : List UInt8 × Int) (y : Nat × Option Addr × Nat) => .pointer (some ⟨y.1, 0, none⟩)) (fun r y => [obj y.1 100 [.slice y.2.1 r.1.length y.2.2, .int .i64 r.2], Row 5 1 y.2.1 r.1.length y.2.2 (encB r.1)]) := by
 unfold wire_NewWriter.f
 refine fn_intro 3 Try.func28 rfl Try.ntmps28 rfl ?_
 refine sr ?_
 refine va rfl rfl (nx ?_)
 refine vq (q_build (v := .agg #[.slice none 0 0, .int .i64 0]) rfl rfl (fun _ => by kernel_rfl)) rfl ?_
 refine simL_eff (re_box rfl rfl rfl) rfl rfl rfl ?_
 intro b1v
 refine va rfl rfl (simL_nil (nrm_then (sim_rtn ?_)))
 exact rtn_fn (b1v, none, 0) rfl rfl rfl (.sel 0 rfl (.row_nil (.sel 0 rfl (.nil _))))

def wire_Size.l0 : Nat → Int → Int → Option (Int)
  | 0, _, _ => none
  | k + 1, z7v, z8v => if (128 : Int) ≤ z7v then (wire_Size.l0 k (Int.fdiv z7v (2 ^ (min (7 : Int).toNat IntKind.i64.bits))) (IntKind.i64.wrap (z8v + 1))) else (some z8v)
def wire_Size.f (k : Nat) (x0 : Int) : Option (Int) := if ((decide (x0 < (0 : Int))) || (decide ((4611686018427387904 : Int) < x0))) = true then (some 0) else ((wire_Size.l0 k x0 1).bind fun s3v => (some s3v))
theorem wire_Size.calls (W : World) (F : HA) (k : Nat) (x0 : Int)  :
    Fn Try.prog W 47 [.int .i64 x0] [] F (wire_Size.f k x0) (fun (r : Int) (y : Unit) => .int .i64 r) (fun r y => []) := by
 unfold wire_Size.f
 refine fn_intro 17 Try.func47 rfl Try.ntmps47 rfl ?_
 refine sr ?_
 refine va rfl rfl (simL_nil (nrm_then (sim_seq (sr ?_))))
 refine vm rfl rfl ?_
 refine vq (q_lss rfl rfl rfl) rfl ?_
 refine vm rfl rfl ?_
 refine simL_valc (b := decide (x0 < (0 : Int))) (fun hb12v => RQ.sub (E' := [(0, .int .i64 x0)]) ⟨rfl, trivial⟩ (q_move rfl rfl)) rfl rfl rfl rfl rfl ?_
 refine simL_valc (b := decide (x0 < (0 : Int))) (fun hb11v => RQ.sub (E' := [(7, .int .i64 x0)]) ⟨lk_cv rfl hb11v, trivial⟩ (q_gtr rfl rfl rfl)) rfl rfl rfl rfl rfl ?_
 refine vq (q_or rfl rfl rfl) rfl (simL_nil (nrm_then ?_))
 refine sim_condb rfl (fun h1v => ?_) (fun h2v => ?_)
 refine sr ?_
 refine va rfl rfl (simL_nil (nrm_then (sim_rtn ?_)))
 refine rtn_then ?_
 exact rtn_fn () rfl rfl rfl (.sel 0 rfl (.nil _))
 refine sim_skip ?_
 refine nrm_then (sr ?_)
 refine va rfl rfl (simL_nil (nrm_then ?_))
 refine sim_cut (S := Int) (Unit) (fun s y => [(3, .int .i64 s)]) (fun s y => [F]) ?_ ?_
 refine sim_block ?_
 refine sim_loop (S := Int × Int) (Unit) (fun k s => wire_Size.l0 k s.1 s.2) (fun s y => [(0, .int .i64 s.1), (3, .int .i64 s.2)]) (fun s y => [F]) (fun _ => by rw [wire_Size.l0]) ?_ k (x0, 1) () ⟨rfl, rfl, trivial⟩ (.sel 0 rfl (.nil _))
 intro k s5v y6v
 refine sim_eq (by rw [wire_Size.l0]) ?_
 refine sim_seq (sr ?_)
 refine vm rfl rfl ?_
 refine vq (q_geq rfl rfl rfl) rfl (simL_nil (nrm_then ?_))
 refine sim_cond rfl (fun h9v => ?_) (fun h10v => ?_)
 refine sim_skip ?_
 refine nrm_then ?_
 refine sim_block ?_
 refine sr ?_
 refine vm rfl rfl ?_
 refine vq (q_shr rfl rfl rfl (by decide)) rfl ?_
 refine va rfl rfl (ny ?_)
 refine vm rfl rfl ?_
 refine vq (q_add rfl rfl rfl) rfl ?_
 refine va rfl rfl (simL_nil (nrm_block ?_))
 exact nrm_again (s := (Int.fdiv s5v.1 (2 ^ (min (7 : Int).toNat IntKind.i64.bits)), IntKind.i64.wrap (s5v.2 + 1))) () ⟨rfl, rfl, trivial⟩ (.sel 0 rfl (.nil _))
 refine sim_exi ?_
 refine exi_then ?_
 refine exi_loop ?_
 refine exi_here ?_
 exact nrm_cut (s := s5v.2) () ⟨rfl, trivial⟩ (.sel 0 rfl (.nil _))
 intro s3v y4v
 refine sr ?_
 refine vm rfl rfl ?_
 refine va rfl rfl (simL_nil (nrm_then (sim_rtn ?_)))
 exact rtn_fn () rfl rfl rfl (.sel 0 rfl (.nil _))

def wire_sevens_1.l0 {S : Type} (step : S → Int → Option S) : Nat → Int → S → Option (Int × S)
  | 0, _, _ => none
  | k + 1, z5v, z6v => if (128 : Int) ≤ z5v then ((step z6v (IntKind.u8.wrap (bitsV .or .i64 (bitsV .and .i64 z5v 127) 128))).bind fun s9v => (wire_sevens_1.l0 step k (Int.fdiv z5v (2 ^ (min (7 : Int).toNat IntKind.i64.bits))) s9v)) else (some (z5v, z6v))
def wire_sevens_1.f {S : Type} (k : Nat) (step : S → Int → Option S) (s0 : S) (x1_0 : Int) : Option (S) := (wire_sevens_1.l0 step k x1_0 s0).bind fun s1v => ((step s1v.2 (IntKind.u8.wrap s1v.1)).bind fun s12v => (some s12v))
theorem wire_sevens_1.calls (W : World) (F : HA) (k : Nat) (S Y : Type) (l : Nat) (step : S → Int → Option S) (A : S → Y → HA) (s0 : S) (y0 : Y) (b1 : Nat) (x1_0 : Int) (hY : YieldOk Try.prog W l (fun (x : Int) => [.int .u8 x]) step A) :
    Fn Try.prog W 62 [.func (.yield l) #[] #[], .pointer (some ⟨b1, 0, none⟩)] [A s0 y0, obj b1 3 [.int .i64 x1_0]] F (wire_sevens_1.f k step s0 x1_0) (fun (r : S) (y : Y) => .tuple #[]) (fun r y => [A r y, obj b1 3 [.int .i64 x1_0]]) := by
 unfold wire_sevens_1.f
 refine fn_intro 20 Try.func62 rfl Try.ntmps62 rfl ?_
 refine sr ?_
 refine vq (q_load rfl rfl Try.isAgg3 (.obj 1 rfl rfl)) rfl ?_
 refine va rfl rfl (simL_nil (nrm_then ?_))
 refine sim_cut (S := Int × S) (Y) (fun s y => [(0, .func (.yield l) #[] #[]), (3, .int .i64 s.1)]) (fun s y => [obj b1 3 [.int .i64 x1_0], A s.2 y, F]) ?_ ?_
 refine sim_block ?_
 refine sim_loop (S := Int × S) (Y) (fun k s => wire_sevens_1.l0 step k s.1 s.2) (fun s y => [(0, .func (.yield l) #[] #[]), (3, .int .i64 s.1)]) (fun s y => [obj b1 3 [.int .i64 x1_0], A s.2 y, F]) (fun _ => by rw [wire_sevens_1.l0]) ?_ k (x1_0, s0) y0 ⟨rfl, rfl, trivial⟩ (.sel 1 rfl (.sel 0 rfl (.sel 0 rfl (.nil _))))
 intro k s3v y4v
 refine sim_eq (by rw [wire_sevens_1.l0]) ?_
 refine sim_seq (sr ?_)
 refine vm rfl rfl ?_
 refine vq (q_geq rfl rfl rfl) rfl (simL_nil (nrm_then ?_))
 refine sim_cond rfl (fun h7v => ?_) (fun h8v => ?_)
 refine sim_skip ?_
 refine nrm_then ?_
 refine sim_block ?_
 refine sim_seq (sr ?_)
 refine vm rfl rfl ?_
 refine vm rfl rfl ?_
 refine vq (q_and_ rfl rfl rfl) rfl ?_
 refine vq (q_or_ rfl rfl rfl) rfl ?_
 refine vq (q_conv rfl rfl Try.underlying3 Try.underlying5) rfl ?_
 refine simL_bind (fun s9v hs11v => ?_)
 refine simL_eff (re_yield (IntKind.u8.wrap (bitsV .or .i64 (bitsV .and .i64 s3v.1 127) 128)) 1 rfl rfl rfl rfl rfl rfl hY rfl hs11v) rfl rfl rfl ?_
 intro y10v
 refine vq (q_not rfl rfl) rfl (simL_nil (nrm_then ?_))
 refine sim_false rfl ?_
 refine sim_skip ?_
 refine nrm_then (sim_region ?_)
 refine vm rfl rfl ?_
 refine vq (q_shr rfl rfl rfl (by decide)) rfl ?_
 refine va rfl rfl (simL_nil (nrm_block ?_))
 exact nrm_again (s := (Int.fdiv s3v.1 (2 ^ (min (7 : Int).toNat IntKind.i64.bits)), s9v)) y10v ⟨rfl, rfl, trivial⟩ (.sel 0 rfl (.sel 0 rfl (.sel 0 rfl (.nil _))))
 refine sim_exi ?_
 refine exi_then ?_
 refine exi_loop ?_
 refine exi_here ?_
 exact nrm_cut (s := (s3v.1, s3v.2)) y4v ⟨rfl, rfl, trivial⟩ (.sel 0 rfl (.sel 0 rfl (.sel 0 rfl (.nil _))))
 intro s1v y2v
 refine sim_region ?_
 refine vm rfl rfl ?_
 refine vm rfl rfl ?_
 refine vq (q_conv rfl rfl Try.underlying3 Try.underlying5) rfl ?_
 refine simL_bind (fun s12v hs14v => ?_)
 refine simL_eff (re_yield (IntKind.u8.wrap s1v.1) 1 rfl rfl rfl rfl rfl rfl hY rfl hs14v) rfl rfl rfl ?_
 intro y13v
 refine simL_nil ?_
 exact nrm_fn y13v rfl rfl rfl (.sel 1 rfl (.sel 0 rfl (.sel 0 rfl (.nil _))))

def wire_sevens.f (x0 : Int) : Option (Int) := some x0
theorem wire_sevens.calls (W : World) (F : HA) (x0 : Int)  :
    Fn Try.prog W 48 [.int .i64 x0] [] F (wire_sevens.f x0) (fun (r : Int) (y : Nat) => .func (.func 62) #[] #[.pointer (some ⟨y, 0, none⟩)]) (fun r y => [obj y 3 [.int .i64 r]]) := by
 unfold wire_sevens.f
 refine fn_intro 4 Try.func48 rfl Try.ntmps48 rfl ?_
 refine sr ?_
 refine simL_eff (re_box rfl rfl rfl) rfl rfl rfl ?_
 intro b1v
 refine va rfl rfl (nx ?_)
 refine vq (q_mkfn rfl rfl rfl) rfl ?_
 refine va rfl rfl (simL_nil (nrm_then (sim_rtn ?_)))
 exact rtn_fn b1v rfl rfl rfl (.sel 0 rfl (.sel 0 rfl (.nil _)))

def wire_Writer_Int.f (k : Nat) (x0_0 : List UInt8) (x0_1 : Int) (x1 : Int) : Option (List UInt8 × Int) := if x0_1 = (0 : Int) then ((wire_Size.f k x1).bind fun s4v => (if s4v = (0 : Int) then (some (x0_0, 1)) else ((wire_sevens.f x1).bind fun s9v => ((wire_sevens_1.f k (fun (s13v : List UInt8) (x12v : Int) => if 0 ≤ x12v ∧ x12v < 256 then (if (s13v.length + ([(byte x12v)] : List UInt8).length) * 1 ≤ 140737488355328 then (some (s13v ++ ([(byte x12v)] : List UInt8))) else none) else none) x0_0 s9v).bind fun s20v => (some (s20v, x0_1)))))) else (some (x0_0, x0_1))
theorem wire_Writer_Int.calls (W : World) (F : HA) (k : Nat) (b0 : Nat) (a0_0 : Option Addr) (c0_0 : Nat) (x0_0 : List UInt8) (x0_1 : Int) (x1 : Int)  :
    Fn Try.prog W 29 [.pointer (some ⟨b0, 0, none⟩), .int .i64 x1] [obj b0 100 [.slice a0_0 x0_0.length c0_0, .int .i64 x0_1], Row 5 1 a0_0 x0_0.length c0_0 (encB x0_0)] F (wire_Writer_Int.f k x0_0 x0_1 x1) (fun (r : List UInt8 × Int) (y : Option Addr × Nat) => .tuple #[]) (fun r y => [obj b0 100 [.slice y.1 r.1.length y.2, .int .i64 r.2], Row 5 1 y.1 r.1.length y.2 (encB r.1)]) := by
 unfold wire_Writer_Int.f
 refine fn_introM 29 Try.func29 rfl Try.ntmps29 rfl ?_
 refine sr ?_
 refine simL_eff (re_box rfl rfl rfl) rfl rfl rfl ?_
 intro b1v
 refine simL_nil (nrm_then (sim_seq (sr ?_)))
 refine vq (q_load rfl rfl Try.isAgg71 (.obj 0 rfl rfl)) rfl ?_
 refine vn rfl rfl ?_
 refine vq (q_fa rfl rfl Try.underlying100 rfl rfl Try.sizeOf29 rfl) rfl ?_
 refine vq (q_load rfl rfl Try.isAgg29 (.obj 1 rfl rfl)) rfl ?_
 refine vq (q_neq rfl rfl rfl) rfl (simL_nil (nrm_then ?_))
 refine sim_condn rfl (fun h2v => ?_) (fun h3v => ?_)
 refine sim_skip ?_
 refine nrm_then (sim_seq (sr ?_))
 refine vm rfl rfl ?_
 refine simL_bind (fun s4v hs5v => ?_)
 refine simL_eff (re_call (vs := [.int .i64 x1]) (cap := []) (A := []) (rst := [obj b1v 71 [.pointer (some ⟨b0, 0, none⟩)], obj b0 100 [.slice a0_0 x0_0.length c0_0, .int .i64 x0_1], Row 5 1 a0_0 x0_0.length c0_0 (encB x0_0), F]) rfl rfl rfl rfl rfl rfl Try.call47 (.sel 0 rfl (.sel 0 rfl (.sel 0 rfl (.sel 0 rfl (.nil _))))) (wire_Size.calls _ _ k x1 ) hs5v) rfl rfl rfl ?_
 intro y6v
 refine vq (q_eql rfl rfl rfl) rfl (simL_nil (nrm_then ?_))
 refine sim_cond rfl (fun h7v => ?_) (fun h8v => ?_)
 refine sr ?_
 refine vq (q_load rfl rfl Try.isAgg71 (.obj 0 rfl rfl)) rfl ?_
 refine vn rfl rfl ?_
 refine vq (q_fa rfl rfl Try.underlying100 rfl rfl Try.sizeOf29 rfl) rfl ?_
 refine simL_do (re_store 1 rfl rfl rfl Try.sizeOf29 rfl rfl (one_of (by rfl)) rfl rfl) rfl rfl ?_
 intro _
 refine simL_nil (nrm_then (sim_rtn ?_))
 refine rtn_then ?_
 exact rtn_fnM [] (a0_0, c0_0) rfl rfl rfl (.sel 1 rfl (.sel 1 rfl (.sel 1 rfl (.nil _))))
 refine sim_skip ?_
 refine nrm_then (sr ?_)
 refine vm rfl rfl ?_
 refine simL_bind (fun s9v hs10v => ?_)
 refine simL_eff (re_call (vs := [.int .i64 x1]) (cap := []) (A := []) (rst := [obj b1v 71 [.pointer (some ⟨b0, 0, none⟩)], obj b0 100 [.slice a0_0 x0_0.length c0_0, .int .i64 x0_1], Row 5 1 a0_0 x0_0.length c0_0 (encB x0_0), F]) rfl rfl rfl rfl rfl rfl Try.call48 (.sel 0 rfl (.sel 0 rfl (.sel 0 rfl (.sel 0 rfl (.nil _))))) (wire_sevens.calls _ _ x1 ) hs10v) rfl rfl rfl ?_
 intro y11v
 refine simL_nil (nrm_then ?_)
 refine sim_block ?_
 refine sim_range (S := List UInt8) (Y := Option Addr × Nat) (R' := List UInt8) (Y' := (Option Addr × Nat)) (ps := [18]) (Cap := [obj y11v 3 [.int .i64 s9v]]) (rst := []) (CapB := fun r y => [obj y11v 3 [.int .i64 s9v]]) (enc := fun (x : Int) => [.int .u8 x]) (oN := wire_sevens_1.f k (fun (s13v : List UInt8) (x12v : Int) => if 0 ≤ x12v ∧ x12v < 256 then (if (s13v.length + ([(byte x12v)] : List UInt8).length) * 1 ≤ 140737488355328 then (some (s13v ++ ([(byte x12v)] : List UInt8))) else none) else none) x0_0 s9v) (fun s y => [obj b1v 71 [.pointer (some ⟨b0, 0, none⟩)], obj b0 100 [.slice y.1 s.length y.2, .int .i64 x0_1], Row 5 1 y.1 s.length y.2 (encB s), F]) x0_0 (a0_0, c0_0) (fun s13v x12v y14v => [(2, .pointer (some ⟨b1v, 0, none⟩)), (4, .int .u8 x12v)]) (fun r => r) (fun r y => y) rfl rfl Try.call62 (fun l A hY X => wire_sevens_1.calls _ _ k _ _ l _ A _ _ y11v s9v hY) rfl (fun _ => rfl) (.sel 1 rfl (.sel 1 rfl (.sel 1 rfl (.sel 1 rfl (.sel 0 rfl (.nil _)))))) ?_ ?_ ?_
 intro l s13v x12v y14v Fr
 refine sim_ent (H' := [obj b1v 71 [.pointer (some ⟨b0, 0, none⟩)], obj b0 100 [.slice y14v.1 s13v.length y14v.2, .int .i64 x0_1], Row 5 1 y14v.1 s13v.length y14v.2 (encB s13v), F, Fr]) (Ent.refl _) ?_
 refine sim_region ?_
 refine va rfl rfl (simL_nil ?_)
 exact nrm_cut () ⟨rfl, rfl, trivial⟩ (Ent.refl _)
 intro l s13v x12v y14v Fr
 refine sim_ent (H' := [obj b1v 71 [.pointer (some ⟨b0, 0, none⟩)], obj b0 100 [.slice y14v.1 s13v.length y14v.2, .int .i64 x0_1], Row 5 1 y14v.1 s13v.length y14v.2 (encB s13v), F, Fr]) (Ent.refl _) ?_
 refine sim_block ?_
 refine sim_ask (fun hb16v => ?_)
 refine sim_ask (fun hb18v => ?_)
 refine sim_draw (Γ := Nat × (Option Addr × Nat)) (0, (none, 0)) [[], [], [1], [1, 2], [1, 2, 3], [], [5], [1, 2, 3, 4, 5, 6], rL 8, rL 9, rL 10] [6, 7, 10] [0, 1, 2, 3, 4, 5, 8, 9] (fun i => [[0, 1, 2], [0, 1], [0, 1], [0, 1], [0, 1], [0], [], [], [2], [2], []].getD i []) (fun i => [[], [], [], [], [], [], rL 6, rL 7, [], [], rL 10].getD i []) (fun γ i => [.pointer (some ⟨b0, 0, none⟩), .pointer (some ⟨b0, 0, none⟩), .pointer (some ⟨b0, 0, none⟩), .pointer (some ⟨b0, 0, none⟩), .slice y14v.1 s13v.length y14v.2, .int .u8 x12v, .slice (some ⟨γ.1, 0, none⟩) (([(byte x12v)] : List UInt8).length) 1, .slice γ.2.1 ((s13v ++ ([(byte x12v)] : List UInt8)).length) γ.2.2, .pointer (some ⟨b0, 0, none⟩), .pointer (some ⟨b0, 0, none⟩), undef].getD i undef) (fun j γ => [[obj b1v 71 [.pointer (some ⟨b0, 0, none⟩)], obj b0 100 [.slice y14v.1 s13v.length y14v.2, .int .i64 x0_1], Row 5 1 y14v.1 s13v.length y14v.2 (encB s13v), F, Fr], [Row 5 1 (some ⟨γ.1, 0, none⟩) ([(byte x12v)] : List UInt8).length 1 (encB ([(byte x12v)] : List UInt8)), obj b1v 71 [.pointer (some ⟨b0, 0, none⟩)], obj b0 100 [.slice y14v.1 s13v.length y14v.2, .int .i64 x0_1], Row 5 1 y14v.1 s13v.length y14v.2 (encB s13v), F, Fr], [Row 5 1 (some ⟨γ.1, 0, none⟩) ([(byte x12v)] : List UInt8).length 1 (encB ([(byte x12v)] : List UInt8)), obj b1v 71 [.pointer (some ⟨b0, 0, none⟩)], obj b0 100 [.slice y14v.1 s13v.length y14v.2, .int .i64 x0_1], Row 5 1 γ.2.1 (s13v ++ ([(byte x12v)] : List UInt8)).length γ.2.2 (encB (s13v ++ ([(byte x12v)] : List UInt8))), F, Fr], [Row 5 1 (some ⟨γ.1, 0, none⟩) ([(byte x12v)] : List UInt8).length 1 (encB ([(byte x12v)] : List UInt8)), obj b1v 71 [.pointer (some ⟨b0, 0, none⟩)], obj b0 100 [.slice γ.2.1 ((s13v ++ ([(byte x12v)] : List UInt8)).length) γ.2.2, .int .i64 x0_1], Row 5 1 γ.2.1 (s13v ++ ([(byte x12v)] : List UInt8)).length γ.2.2 (encB (s13v ++ ([(byte x12v)] : List UInt8))), F, Fr]].getD j []) (fun γ => []) mixed (by decide) (by decide) (by decide) (by decide) (by decide) (by decide) (by decide) 29 rfl (by decide) (by decide) (by decide) (Ent.refl _) ?_ ?_ (fun _ => trivial) ?_
 exact (ac (fun γ => (ac (qp rfl rfl (.o (s := 2) rfl (by decide) .nil) (q_load rfl rfl Try.isAgg71 (.obj 0 rfl rfl)) rfl) (ac (qp rfl rfl (.o (s := 2) rfl (by decide) .nil) (q_load rfl rfl Try.isAgg71 (.obj 1 rfl rfl)) rfl) (ac (qp rfl rfl (.o (s := 2) rfl (by decide) .nil) (q_load rfl rfl Try.isAgg71 (.obj 1 rfl rfl)) rfl) zA)))) (ac (fun γ => (ac (qp rfl rfl (.o (s := 2) rfl (by decide) .nil) (q_load rfl rfl Try.isAgg71 (.obj 0 rfl rfl)) rfl) (ac (qp rfl rfl (.o (s := 2) rfl (by decide) .nil) (q_load rfl rfl Try.isAgg71 (.obj 1 rfl rfl)) rfl) zA))) (ac (fun γ => (ac (qp rfl rfl (.v 1 rfl rfl .nil) (q_nil rfl rfl) rfl) (ac (qp rfl rfl (.v 1 rfl rfl .nil) (q_nil rfl rfl) rfl) zA))) (ac (fun γ => (ac (qp rfl rfl (.v 2 rfl rfl .nil) (q_fa rfl rfl Try.underlying100 rfl rfl Try.sizeOf35 rfl) rfl) (ac (qp rfl rfl (.v 2 rfl rfl .nil) (q_fa rfl rfl Try.underlying100 rfl rfl Try.sizeOf35 rfl) rfl) zA))) (ac (fun γ => (ac (qp rfl rfl (.v 3 rfl rfl .nil) (q_load rfl rfl Try.isAgg35 (.obj 1 rfl rfl)) rfl) (ac (qp rfl rfl (.v 3 rfl rfl .nil) (q_load rfl rfl Try.isAgg35 (.obj 2 rfl rfl)) rfl) zA))) (aq rfl (fun γ => qm rfl (.o (s := 4) rfl (by decide) .nil) rfl) (aq rfl (fun γ => qp rfl rfl (.v 0 rfl rfl .nil) (q_nil rfl rfl) rfl) (aq rfl (fun γ => qp rfl rfl (.v 8 rfl rfl .nil) (q_fa rfl rfl Try.underlying100 rfl rfl Try.sizeOf35 rfl) rfl) zA))))))))
 exact (ac (fun γ => eo (Z := Nat) (fun z => (z, γ.2)) rfl rfl (.v 5 rfl rfl .nil) (re_litb (cs := [.int .u8 x12v]) ([(byte x12v)] : List UInt8) rfl rfl Try.underlying35 elt5 rfl (by kernel_rfl) rfl rfl (byte_lit1 hb16v)) (fun _ => ⟨rfl, rfl, rfl, rfl, rfl, rfl, trivial⟩) (fun _ => .inr rfl) (fun z => Ent.refl _)) (ac (fun γ => eo (Z := Option Addr × Nat) (fun z => (γ.1, z)) rfl rfl (.v 4 rfl rfl (.v 6 rfl rfl .nil)) (re_appendb 3 rfl rfl rfl Try.underlying35 elt5 rfl (Rds.row 0 rfl) hb18v) (fun _ => ⟨rfl, rfl, rfl, rfl, rfl, rfl, rfl, trivial⟩) (fun _ => .inr rfl) (fun z => Ent.refl _)) (ac (fun γ => eo (Z := Unit) (fun z => (γ.1, γ.2)) rfl rfl (.v 7 rfl rfl (.v 9 rfl rfl .nil)) (re_store 2 rfl rfl rfl Try.sizeOf35 rfl rfl (one_of (by rfl)) rfl rfl) (fun _ => ⟨rfl, rfl, rfl, rfl, rfl, rfl, rfl, rfl, rfl, rfl, trivial⟩) (fun _ => .inl rfl) (fun z => Ent.refl _)) zA)))
 intro g19v
 refine nrm_block ?_
 exact nrm_cut (s := s13v ++ ([(byte x12v)] : List UInt8)) (g19v.2.1, g19v.2.2) trivial (.sel 1 rfl (.sel 1 rfl (.sel 1 rfl (.sel 1 rfl (.sel 1 rfl (.nil _))))))
 intro D22v s20v y21v
 refine nrm_ent (H' := [shutD D22v, obj b1v 71 [.pointer (some ⟨b0, 0, none⟩)], obj b0 100 [.slice y21v.1 s20v.length y21v.2, .int .i64 x0_1], Row 5 1 y21v.1 s20v.length y21v.2 (encB s20v), F, obj y11v 3 [.int .i64 s9v]]) (Ent.refl _) ?_
 refine nrm_block ?_
 exact nrm_fnM [D22v] (y21v.1, y21v.2) rfl rfl rfl (.sel 0 rfl (.sel 1 rfl (.sel 1 rfl (.sel 1 rfl (.nil _)))))
 refine sim_rtn ?_
 refine rtn_then ?_
 exact rtn_fnM [] (a0_0, c0_0) rfl rfl rfl (.sel 1 rfl (.sel 1 rfl (.sel 1 rfl (.nil _))))

def maps_Clone_map_string_string_string_string.f (x0 : List ((List UInt8) × (List UInt8))) : Option ((List ((List UInt8) × (List UInt8)))) := some x0
theorem maps_Clone_map_string_string_string_string.calls (W : World) (F : HA) (m0 : Nat) (x0 : List ((List UInt8) × (List UInt8))) :
    Fn Try.prog W 41 [.map (some m0)] [mapO m0 enc9 enc9 x0] F (maps_Clone_map_string_string_string_string.f x0) (fun (r : (List ((List UInt8) × (List UInt8)))) (y : Nat) => .map (some y)) (fun r y => [mapO y enc9 enc9 r, mapO m0 enc9 enc9 x0]) := by
  unfold maps_Clone_map_string_string_string_string.f
  exact fn_clone (fun es clock w h => AnyW.maps_Clone shClone41 _ es clock w h)

def kv_Store_Each.f  : Option (Unit) := some ()
theorem kv_Store_Each.calls (W : World) (F : HA) (b0 : Nat)  :
    Fn Try.prog W 30 [.pointer (some ⟨b0, 0, none⟩)] [] F (kv_Store_Each.f ) (fun (r : Unit) (y : Nat) => .func (.func 49) #[] #[.pointer (some ⟨y, 0, none⟩)]) (fun r y => [obj y 25 [.pointer (some ⟨b0, 0, none⟩)]]) := by
 unfold kv_Store_Each.f
 refine fn_intro 4 Try.func30 rfl Try.ntmps30 rfl ?_
 refine sr ?_
 refine simL_eff (re_box rfl rfl rfl) rfl rfl rfl ?_
 intro b1v
 refine va rfl rfl (nx ?_)
 refine vq (q_mkfn rfl rfl rfl) rfl ?_
 refine va rfl rfl (simL_nil (nrm_then (sim_rtn ?_)))
 exact rtn_fn b1v rfl rfl rfl (.sel 0 rfl (.sel 0 rfl (.nil _)))

def wire_Writer_Bytes.f (k : Nat) (x0_0 : List UInt8) (x0_1 : Int) (x1 : List UInt8) (x2 : Int) : Option (List UInt8 × Int) := (if ((decide (x0_1 = (0 : Int))) && (decide (max x2 (0 : Int) < (x1.length : Int)))) = true then (some 3) else (some x0_1)).bind fun s1v => (if s1v = (0 : Int) then ((wire_Writer_Int.f k x0_0 s1v (x1.length : Int)).bind fun s12v => (if (s12v.1.length + x1.length) * 1 ≤ 140737488355328 then (some (s12v.1 ++ x1, s12v.2)) else none)) else (some (x0_0, s1v)))
theorem wire_Writer_Bytes.calls (W : World) (F : HA) (k : Nat) (b0 : Nat) (a0_0 : Option Addr) (c0_0 : Nat) (x0_0 : List UInt8) (x0_1 : Int) (a1 : Option Addr) (c1 : Nat) (x1 : List UInt8) (x2 : Int) (h1 : Rd F a1 (encB x1)) (hc1 : x1.length ≤ c1) (hm1 : c1 ≤ maxLen) :
    Fn Try.prog W 52 [.pointer (some ⟨b0, 0, none⟩), .slice a1 x1.length c1, .int .i64 x2] [obj b0 100 [.slice a0_0 x0_0.length c0_0, .int .i64 x0_1], Row 5 1 a0_0 x0_0.length c0_0 (encB x0_0)] F (wire_Writer_Bytes.f k x0_0 x0_1 x1 x2) (fun (r : List UInt8 × Int) (y : Option Addr × Nat) => .tuple #[]) (fun r y => [obj b0 100 [.slice y.1 r.1.length y.2, .int .i64 r.2], Row 5 1 y.1 r.1.length y.2 (encB r.1)]) := by
 unfold wire_Writer_Bytes.f
 refine fn_intro 39 Try.func52 rfl Try.ntmps52 rfl ?_
 refine sim_cut (S := Int) (Unit) (fun s y => [(0, .pointer (some ⟨b0, 0, none⟩)), (1, .slice a1 x1.length c1)]) (fun s y => [obj b0 100 [.slice a0_0 x0_0.length c0_0, .int .i64 s], Row 5 1 a0_0 x0_0.length c0_0 (encB x0_0), F]) ?_ ?_
 refine sr ?_
 refine vm rfl rfl ?_
 refine vn rfl rfl ?_
 refine vq (q_fa rfl rfl Try.underlying100 rfl rfl Try.sizeOf29 rfl) rfl ?_
 refine vq (q_load rfl rfl Try.isAgg29 (.obj 0 rfl rfl)) rfl ?_
 refine vq (q_eql rfl rfl rfl) rfl ?_
 refine vm rfl rfl ?_
 refine simL_valc (b := decide (x0_1 = (0 : Int))) (fun hb9v => RQ.sub (E' := [(1, .slice a1 x1.length c1)]) ⟨rfl, trivial⟩ (q_move rfl rfl)) rfl rfl rfl rfl rfl ?_
 refine simL_valc (b := decide (x0_1 = (0 : Int))) (fun hb8v => RQ.sub (E' := [(12, .slice a1 x1.length c1)]) ⟨lk_cv rfl hb8v, trivial⟩ (q_len rfl rfl rfl Try.underlying35)) rfl rfl rfl rfl rfl ?_
 refine simL_valc (b := decide (x0_1 = (0 : Int))) (fun hb7v => RQ.sub (E' := [(2, .int .i64 x2)]) ⟨rfl, trivial⟩ (q_move rfl rfl)) rfl rfl rfl rfl rfl ?_
 refine simL_valc (b := decide (x0_1 = (0 : Int))) (fun hb6v => RQ.sub (E' := [(14, .int .i64 x2)]) ⟨lk_cv rfl hb6v, trivial⟩ (q_max rfl rfl rfl)) rfl rfl rfl rfl rfl ?_
 refine simL_valc (b := decide (x0_1 = (0 : Int))) (fun hb5v => RQ.sub (E' := [(13, .int .i64 (x1.length : Int)), (15, .int .i64 (max x2 (0 : Int)))]) ⟨lk_cv rfl hb5v, lk_cv rfl hb5v, trivial⟩ (q_gtr rfl rfl rfl)) rfl rfl rfl rfl rfl ?_
 refine vq (q_and rfl rfl rfl) rfl (simL_nil (nrm_then ?_))
 refine sim_condb rfl (fun h3v => ?_) (fun h4v => ?_)
 refine sim_region ?_
 refine vm rfl rfl ?_
 refine vn rfl rfl ?_
 refine vq (q_fa rfl rfl Try.underlying100 rfl rfl Try.sizeOf29 rfl) rfl ?_
 refine simL_do (re_store 0 rfl rfl rfl Try.sizeOf29 rfl rfl (one_of (by rfl)) rfl rfl) rfl rfl ?_
 intro _
 refine simL_nil ?_
 exact nrm_cut (s := 3) () ⟨rfl, rfl, trivial⟩ (.sel 0 rfl (.sel 0 rfl (.sel 0 rfl (.nil _))))
 refine sim_skip ?_
 exact nrm_cut (s := x0_1) () ⟨rfl, rfl, trivial⟩ (.sel 0 rfl (.sel 0 rfl (.sel 0 rfl (.nil _))))
 intro s1v y2v
 refine sim_seq (sr ?_)
 refine vm rfl rfl ?_
 refine vn rfl rfl ?_
 refine vq (q_fa rfl rfl Try.underlying100 rfl rfl Try.sizeOf29 rfl) rfl ?_
 refine vq (q_load rfl rfl Try.isAgg29 (.obj 0 rfl rfl)) rfl ?_
 refine vq (q_neq rfl rfl rfl) rfl (simL_nil (nrm_then ?_))
 refine sim_condn rfl (fun h10v => ?_) (fun h11v => ?_)
 refine sim_skip ?_
 refine nrm_then (sr ?_)
 refine vm rfl rfl ?_
 refine vm rfl rfl ?_
 refine vq (q_len rfl rfl rfl Try.underlying35) rfl ?_
 refine simL_bind (fun s12v hs13v => ?_)
 refine simL_eff (re_call (vs := [.pointer (some ⟨b0, 0, none⟩), .int .i64 (x1.length : Int)]) (cap := []) (A := [obj b0 100 [.slice a0_0 x0_0.length c0_0, .int .i64 s1v], Row 5 1 a0_0 x0_0.length c0_0 (encB x0_0)]) (rst := [F]) rfl rfl rfl rfl rfl rfl Try.call29 (.sel 0 rfl (.sel 0 rfl (.sel 0 rfl (.nil _)))) (wire_Writer_Int.calls _ _ k b0 a0_0 c0_0 x0_0 s1v (x1.length : Int) ) hs13v) rfl rfl rfl ?_
 intro y14v
 refine ny ?_
 refine vm rfl rfl ?_
 refine vm rfl rfl ?_
 refine vn rfl rfl ?_
 refine vq (q_fa rfl rfl Try.underlying100 rfl rfl Try.sizeOf35 rfl) rfl ?_
 refine vq (q_load rfl rfl Try.isAgg35 (.obj 0 rfl rfl)) rfl ?_
 refine vm rfl rfl ?_
 refine simL_ask (fun hb16v => ?_)
 refine simL_eff (re_appendb 1 rfl rfl rfl Try.underlying35 elt5 rfl (h1.rds 1 rfl) hb16v) rfl rfl rfl ?_
 intro y15v
 refine vn rfl rfl ?_
 refine vq (q_fa rfl rfl Try.underlying100 rfl rfl Try.sizeOf35 rfl) rfl ?_
 refine simL_do (re_store 0 rfl rfl rfl Try.sizeOf35 rfl rfl (one_of (by rfl)) rfl rfl) rfl rfl ?_
 intro _
 refine simL_nil ?_
 exact nrm_fn (y15v.1, y15v.2) rfl rfl rfl (.sel 0 rfl (.sel 0 rfl (.sel 0 rfl (.nil _))))
 refine sim_rtn ?_
 refine rtn_then ?_
 exact rtn_fn (a0_0, c0_0) rfl rfl rfl (.sel 0 rfl (.sel 0 rfl (.sel 0 rfl (.nil _))))

def wire_Writer_Text.f (k : Nat) (x0_0 : List UInt8) (x0_1 : Int) (x1 : List UInt8) (x2 : Int) : Option (List UInt8 × Int) := if x1.length ≤ 140737488355328 then ((wire_Writer_Bytes.f k x0_0 x0_1 x1 x2).bind fun s7v => (some (s7v.1, s7v.2))) else none
theorem wire_Writer_Text.calls (W : World) (F : HA) (k : Nat) (b0 : Nat) (a0_0 : Option Addr) (c0_0 : Nat) (x0_0 : List UInt8) (x0_1 : Int) (x1 : List UInt8) (x2 : Int)  :
    Fn Try.prog W 31 [.pointer (some ⟨b0, 0, none⟩), str x1, .int .i64 x2] [obj b0 100 [.slice a0_0 x0_0.length c0_0, .int .i64 x0_1], Row 5 1 a0_0 x0_0.length c0_0 (encB x0_0)] F (wire_Writer_Text.f k x0_0 x0_1 x1 x2) (fun (r : List UInt8 × Int) (y : Option Addr × Nat) => .tuple #[]) (fun r y => [obj b0 100 [.slice y.1 r.1.length y.2, .int .i64 r.2], Row 5 1 y.1 r.1.length y.2 (encB r.1)]) := by
 unfold wire_Writer_Text.f
 refine fn_intro 11 Try.func31 rfl Try.ntmps31 rfl ?_
 refine sim_region ?_
 refine vm rfl rfl ?_
 refine vm rfl rfl ?_
 refine simL_ask (fun hb2v => ?_)
 refine simL_eff (re_tobytes rfl rfl Try.underlying9 Try.underlying35 Try.underlying5 hb2v) rfl rfl rfl ?_
 intro y1v
 refine vm rfl rfl ?_
 refine simL_bind (fun s7v hs8v => ?_)
 refine simL_lend 0 rfl (fun hq3v hq4v hq5v hq6v => ?_)
 refine simL_eff (re_call (vs := [.pointer (some ⟨b0, 0, none⟩), .slice (some ⟨y1v.1, 0, none⟩) x1.length y1v.2, .int .i64 x2]) (cap := []) (A := [obj b0 100 [.slice a0_0 x0_0.length c0_0, .int .i64 x0_1], Row 5 1 a0_0 x0_0.length c0_0 (encB x0_0)]) (rst := [Row 5 1 (some ⟨y1v.1, 0, none⟩) x1.length y1v.2 (encB x1), F]) rfl rfl rfl rfl rfl rfl Try.call52 (.sel 1 rfl (.sel 1 rfl (.sel 0 rfl (.sel 0 rfl (.nil _))))) (wire_Writer_Bytes.calls _ _ k b0 a0_0 c0_0 x0_0 x0_1 (some ⟨y1v.1, 0, none⟩) y1v.2 x1 x2 (hq3v.lend 0 rfl) hq4v hq5v) hs8v) rfl rfl rfl ?_
 intro y9v
 refine simL_nil ?_
 exact nrm_fn (y9v.1, y9v.2) rfl rfl rfl (.sel 0 rfl (.sel 0 rfl (.sel 1 rfl (.nil _))))

def wire_fresh.f (x0 : List UInt8) : Option (List UInt8) := if 0 ≤ (x0.length : Int) ∧ (x0.length : Int) ≤ (x0.length : Int) ∧ (x0.length : Int) * 1 ≤ 140737488355328 then (some (copyB (List.replicate (x0.length : Int).toNat (0 : UInt8)) x0)) else none
theorem wire_fresh.calls (W : World) (F : HA) (a0 : Option Addr) (c0 : Nat) (x0 : List UInt8) (h0 : Rd F a0 (encB x0)) (hc0 : x0.length ≤ c0) (hm0 : c0 ≤ maxLen) :
    Fn Try.prog W 53 [.slice a0 x0.length c0] [] F (wire_fresh.f x0) (fun (r : List UInt8) (y : Option Addr × Nat) => .slice y.1 r.length y.2) (fun r y => [Row 5 1 y.1 r.length y.2 (encB r)]) := by
 unfold wire_fresh.f
 refine fn_intro 11 Try.func53 rfl Try.ntmps53 rfl ?_
 refine sr ?_
 refine va rfl rfl (nx ?_)
 refine vm rfl rfl ?_
 refine vq (q_len rfl rfl rfl Try.underlying35) rfl ?_
 refine simL_ask (fun hb2v => ?_)
 refine simL_eff (re_makeb rfl rfl rfl Try.underlying35 elt5 hb2v.1 hb2v.2.1 hb2v.2.2) rfl rfl rfl ?_
 intro b1v
 refine va rfl rfl (nx ?_)
 refine vm rfl rfl ?_
 refine vm rfl rfl ?_
 refine simL_eff (re_copyb 0 rfl rfl rfl Try.underlying35 elt5 rfl (h0.rds 1 rfl)) rfl rfl rfl ?_
 intro _
 refine simL_ren (.slice (some ⟨b1v, 0, none⟩) ((copyB (List.replicate (x0.length : Int).toNat (0 : UInt8)) x0).length) ((x0.length : Int).toNat)) (d := 6) rfl (slc_len (copyB_length _ _).symm) ?_
 refine simL_ren (.slice (some ⟨b1v, 0, none⟩) ((copyB (List.replicate (x0.length : Int).toNat (0 : UInt8)) x0).length) ((x0.length : Int).toNat)) (d := 3) rfl (slc_len (copyB_length _ _).symm) ?_
 refine simL_ren (.slice (some ⟨b1v, 0, none⟩) ((copyB (List.replicate (x0.length : Int).toNat (0 : UInt8)) x0).length) ((x0.length : Int).toNat)) (d := 7) rfl (slc_len (copyB_length _ _).symm) ?_
 refine nx ?_
 refine vm rfl rfl ?_
 refine va rfl rfl (simL_nil (nrm_then (sim_rtn ?_)))
 exact rtn_fn ((some ⟨b1v, 0, none⟩), (x0.length : Int).toNat) rfl rfl rfl (.sel 0 rfl (.sel 0 rfl (.nil _)))

def wire_Writer_Done.f (x0_0 : List UInt8) (x0_1 : Int) : Option (List UInt8 × Int) := if x0_1 = (0 : Int) then ((wire_fresh.f x0_0).bind fun s3v => (some (s3v, 0))) else (some (([] : List UInt8), x0_1))
theorem wire_Writer_Done.calls (W : World) (F : HA) (b0 : Nat) (a0_0 : Option Addr) (c0_0 : Nat) (x0_0 : List UInt8) (x0_1 : Int) (h0_0 : Rd F a0_0 (encB x0_0)) (hc0_0 : x0_0.length ≤ c0_0) (hm0_0 : c0_0 ≤ maxLen) :
    Fn Try.prog W 32 [.pointer (some ⟨b0, 0, none⟩)] [obj b0 100 [.slice a0_0 x0_0.length c0_0, .int .i64 x0_1]] F (wire_Writer_Done.f x0_0 x0_1) (fun (r : List UInt8 × Int) (y : Option Addr × Nat) => .tuple #[.slice y.1 r.1.length y.2, .int .i64 r.2]) (fun r y => [Row 5 1 y.1 r.1.length y.2 (encB r.1), obj b0 100 [.slice a0_0 x0_0.length c0_0, .int .i64 x0_1]]) := by
 unfold wire_Writer_Done.f
 refine fn_intro 18 Try.func32 rfl Try.ntmps32 rfl ?_
 refine sr ?_
 refine va rfl rfl ?_
 refine va rfl rfl (simL_nil (nrm_then (sim_seq (sr ?_))))
 refine vm rfl rfl ?_
 refine vn rfl rfl ?_
 refine vq (q_fa rfl rfl Try.underlying100 rfl rfl Try.sizeOf29 rfl) rfl ?_
 refine vq (q_load rfl rfl Try.isAgg29 (.obj 0 rfl rfl)) rfl ?_
 refine vq (q_neq rfl rfl rfl) rfl (simL_nil (nrm_then ?_))
 refine sim_condn rfl (fun h1v => ?_) (fun h2v => ?_)
 refine sim_skip ?_
 refine nrm_then (sr ?_)
 refine vm rfl rfl ?_
 refine vn rfl rfl ?_
 refine vq (q_fa rfl rfl Try.underlying100 rfl rfl Try.sizeOf35 rfl) rfl ?_
 refine vq (q_load rfl rfl Try.isAgg35 (.obj 0 rfl rfl)) rfl ?_
 refine simL_bind (fun s3v hs4v => ?_)
 refine simL_eff (re_call (vs := [.slice a0_0 x0_0.length c0_0]) (cap := []) (A := []) (rst := [obj b0 100 [.slice a0_0 x0_0.length c0_0, .int .i64 x0_1], F]) rfl rfl rfl rfl rfl rfl Try.call53 (.sel 0 rfl (.sel 0 rfl (.nil _))) (wire_fresh.calls _ _ a0_0 c0_0 x0_0 (h0_0.lend 1 rfl) hc0_0 hm0_0) hs4v) rfl rfl rfl ?_
 intro y5v
 refine va rfl rfl ?_
 refine va rfl rfl (simL_nil (nrm_then (sim_rtn ?_)))
 exact rtn_fn (y5v.1, y5v.2) rfl rfl rfl (.sel 0 rfl (.sel 0 rfl (.sel 0 rfl (.nil _))))
 refine sim_seq ?_
 refine sim_draw (Γ := Unit) () [[], [0], [0, 1], [0, 1, 2], [], rL 5] [] [0, 1, 2, 3, 4, 5] (fun i => [[0], [0], [0], [0], [0], [0]].getD i []) (fun i => [[], [], [], [], [], []].getD i []) (fun γ i => [.pointer (some ⟨b0, 0, none⟩), .pointer (some ⟨b0, 0, none⟩), .pointer (some ⟨b0, 1, none⟩), .int .i64 x0_1, .slice none 0 0, .int .i64 x0_1].getD i undef) (fun j γ => [[obj b0 100 [.slice a0_0 x0_0.length c0_0, .int .i64 x0_1], F]].getD j []) (fun γ => [(2, .slice none 0 0), (3, .int .i64 x0_1)]) mixed (by decide) (by decide) (by decide) (by decide) (by decide) (by decide) (by decide) 18 rfl (by decide) (by decide) (by decide) (Ent.refl _) ?_ ?_ (fun _ => ⟨rfl, rfl, trivial⟩) ?_
 exact (aq rfl (fun γ => qm rfl (.o (s := 0) rfl (by decide) .nil) rfl) (aq rfl (fun γ => qp rfl rfl (.v 0 rfl rfl .nil) (q_nil rfl rfl) rfl) (aq rfl (fun γ => qp rfl rfl (.v 1 rfl rfl .nil) (q_fa rfl rfl Try.underlying100 rfl rfl Try.sizeOf29 rfl) rfl) (aq rfl (fun γ => qp rfl rfl (.v 2 rfl rfl .nil) (q_load rfl rfl Try.isAgg29 (.obj 0 rfl rfl)) rfl) (aq rfl (fun γ => qp rfl rfl .nil (q_asg rfl rfl) rfl) (aq rfl (fun γ => qp rfl rfl (.v 3 rfl rfl .nil) (q_asg rfl rfl) rfl) zA))))))
 exact zA
 intro g6v
 refine nrm_then (sim_rtn ?_)
 refine rtn_then ?_
 exact rtn_fn (none, 0) rfl rfl rfl (.row_nil (.sel 0 rfl (.sel 0 rfl (.nil _))))
end Go.Proofs.Ytdaedoklkmdhcaa

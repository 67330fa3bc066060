/- Printed by gen.py: pure functions and the proofs that the Go functions simulate them. Conditions: as each theorem says. -/
import Derived.Test.YtlblpegbgbgliaaG3
namespace Go.Proofs.Ytlblpegbgbgliaa
open Go.RowKit
set_option linter.unusedVariables false
set_option maxRecDepth 20000
set_option maxHeartbeats 2000000
def synodref16_Step.f (x0 : Bool) (x1 : List UInt8) (x2_0 : Int) (x2_1 : Int) (x2_2 : Int) (x2_3 : List UInt8) (x2_4 : List UInt8) (x2_5 : List UInt8) (x2_6 : Int) (x2_7 : Int) (x2_8 : Int) (x2_9 : List UInt8) : Option (Bool × List UInt8 × Int × List UInt8) := (if (!x0) = true then (some ([] : List UInt8)) else (some x1)).bind fun s3v => (if x2_2 = (1 : Int) then (if x0 = true then (some (x0, s3v, 1, s3v)) else (some (x0, s3v, 2, ([] : List UInt8)))) else (if x2_2 = (2 : Int) then (some (true, x2_4, 1, ([] : List UInt8))) else (if x2_2 = (3 : Int) then (if x0 = true then (some (false, ([] : List UInt8), 1, ([] : List UInt8))) else (some (false, ([] : List UInt8), 2, ([] : List UInt8)))) else (if x2_2 = (4 : Int) then (if (!x0) = true then (some (false, ([] : List UInt8), 2, ([] : List UInt8))) else (if s3v = x2_5 then (some (true, x2_4, 1, ([] : List UInt8))) else (some (true, s3v, 3, s3v)))) else (some (x0, s3v, 0, ([] : List UInt8)))))))
theorem synodref16_Step.calls (W : World) (F : HA) (x0 : Bool) (x1 : List UInt8) (x2_0 : Int) (x2_1 : Int) (x2_2 : Int) (x2_3 : List UInt8) (x2_4 : List UInt8) (x2_5 : List UInt8) (x2_6 : Int) (x2_7 : Int) (x2_8 : Int) (x2_9 : List UInt8)  :
    Fn Try.prog W 27 [.bool x0, str x1, .agg #[.int .i64 x2_0, .int .i64 x2_1, .int .i64 x2_2, str x2_3, str x2_4, str x2_5, .int .i64 x2_6, .int .i64 x2_7, .int .i64 x2_8, str x2_9]] [] F (synodref16_Step.f x0 x1 x2_0 x2_1 x2_2 x2_3 x2_4 x2_5 x2_6 x2_7 x2_8 x2_9) (fun (r : Bool × List UInt8 × Int × List UInt8) (y : Unit) => .tuple #[.bool r.1, str r.2.1, .agg #[.int .i64 r.2.2.1, str r.2.2.2]]) (fun r y => []) := by
 unfold synodref16_Step.f
 refine fn_intro 51 Try.func27 rfl Try.ntmps27 rfl ?_
 refine sim_seq (sim_region ?_)
 refine simL_eff (re_box rfl rfl rfl) rfl rfl rfl ?_
 intro b1v
 refine simL_val (q_asg rfl rfl) rfl rfl rfl ?_
 refine simL_val (q_asg rfl rfl) rfl rfl rfl ?_
 refine simL_eff (re_alloc rfl Try.zeroValue33 rfl) rfl rfl rfl ?_
 intro b2v
 refine simL_nil (nrm_then ?_)
 refine sim_cut (S := List UInt8) (Unit) (fun s y => [(0, .bool x0), (1, str s), (5, .pointer (some ⟨b1v, 0, none⟩)), (8, .pointer (some ⟨b2v, 0, none⟩))]) (fun s y => [obj b2v 33 [.int .i64 0, str ([] : List UInt8)], obj b1v 35 [.int .i64 x2_0, .int .i64 x2_1, .int .i64 x2_2, str x2_3, str x2_4, str x2_5, .int .i64 x2_6, .int .i64 x2_7, .int .i64 x2_8, str x2_9], F]) ?_ ?_
 refine sim_seq (sim_region ?_)
 refine simL_val (q_move rfl rfl) rfl rfl rfl ?_
 refine simL_val (q_not rfl rfl) rfl rfl rfl (simL_nil (nrm_then ?_))
 refine sim_condb rfl (fun h5v => ?_) (fun h6v => ?_)
 refine sim_region ?_
 refine simL_val (q_asg rfl rfl) rfl rfl rfl (simL_nil ?_)
 exact nrm_cut (s := ([] : List UInt8)) () ⟨rfl, rfl, rfl, rfl, trivial⟩ (.sel 0 rfl (.sel 0 rfl (.sel 0 rfl (.nil _))))
 refine sim_skip ?_
 exact nrm_cut (s := x1) () ⟨rfl, rfl, rfl, rfl, trivial⟩ (.sel 0 rfl (.sel 0 rfl (.sel 0 rfl (.nil _))))
 intro s3v y4v
 refine sim_seq (sim_seq (sim_region ?_))
 refine simL_val (q_fa rfl rfl Try.underlying35 rfl rfl Try.sizeOf3 rfl) rfl rfl rfl ?_
 refine simL_val (q_load rfl rfl Try.isAgg3 (.obj 1 rfl rfl)) rfl rfl rfl (simL_nil (nrm_then ?_))
 refine sim_block ?_
 refine sim_seq (sim_region ?_)
 refine simL_val (q_eql rfl rfl rfl) rfl rfl rfl ?_
 refine simL_val (q_asg rfl rfl) rfl rfl rfl (simL_nil (nrm_then ?_))
 refine sim_cond rfl (fun h7v => ?_) (fun h8v => ?_)
 refine sim_seq (sim_seq (sim_region ?_))
 refine simL_val (q_move rfl rfl) rfl rfl rfl (simL_nil (nrm_then ?_))
 refine sim_condb rfl (fun h9v => ?_) (fun h10v => ?_)
 refine sim_seq (sim_region ?_)
 refine simL_val (q_move rfl rfl) rfl rfl rfl ?_
 refine simL_val (q_move rfl rfl) rfl rfl rfl ?_
 refine simL_val (q_move rfl rfl) rfl rfl rfl ?_
 refine simL_val (q_build (v := .agg #[.int .i64 1, str s3v]) rfl rfl (fun _ => by kernel_rfl)) rfl rfl rfl ?_
 refine simL_val (q_asg rfl rfl) rfl rfl rfl ?_
 refine simL_val (q_asg rfl rfl) rfl rfl rfl ?_
 refine simL_do (re_store 0 rfl rfl rfl Try.sizeOf33 rfl rfl (one_of (by rfl)) rfl rfl) rfl rfl ?_
 intro _
 refine simL_nil (nrm_then (sim_rtn ?_))
 refine rtn_then ?_
 refine rtn_block ?_
 refine rtn_then ?_
 exact rtn_fnC (vs := [.bool x0, str s3v, .agg #[.int .i64 1, str s3v]]) () rfl ⟨rfl, rfl, ⟨b2v, rfl, load_agg 0 Try.isAgg33 Try.sizeOf33 rfl rfl⟩, trivial⟩ rfl (.sel 2 rfl (.nil _))
 refine sim_skip ?_
 refine nrm_then (sim_seq (sim_region ?_))
 refine simL_val (q_move rfl rfl) rfl rfl rfl ?_
 refine simL_val (q_move rfl rfl) rfl rfl rfl ?_
 refine simL_val (q_build (v := .agg #[.int .i64 2, str ([] : List UInt8)]) rfl rfl (fun _ => by kernel_rfl)) rfl rfl rfl ?_
 refine simL_val (q_asg rfl rfl) rfl rfl rfl ?_
 refine simL_val (q_asg rfl rfl) rfl rfl rfl ?_
 refine simL_do (re_store 0 rfl rfl rfl Try.sizeOf33 rfl rfl (one_of (by rfl)) rfl rfl) rfl rfl ?_
 intro _
 refine simL_nil (nrm_then (sim_rtn ?_))
 refine rtn_block ?_
 refine rtn_then ?_
 exact rtn_fnC (vs := [.bool x0, str s3v, .agg #[.int .i64 2, str ([] : List UInt8)]]) () rfl ⟨rfl, rfl, ⟨b2v, rfl, load_agg 0 Try.isAgg33 Try.sizeOf33 rfl rfl⟩, trivial⟩ rfl (.sel 2 rfl (.nil _))
 refine sim_seq (sim_region ?_)
 refine simL_val (q_eql rfl rfl rfl) rfl rfl rfl ?_
 refine simL_val (q_asg rfl rfl) rfl rfl rfl (simL_nil (nrm_then ?_))
 refine sim_cond rfl (fun h11v => ?_) (fun h12v => ?_)
 refine sim_seq ?_
 refine sim_draw (Γ := Unit) () [[], [0], [], [], [0, 1, 3], [0, 1, 2, 3, 4]] [5] [0, 1, 2, 3, 4] (fun i => [[0], [0], [0], [0], [0], []].getD i []) (fun i => [[], [], [], [], [], [0, 1, 2, 3, 4]].getD i []) (fun γ i => [.pointer (some ⟨b1v, 4, none⟩), str x2_4, .agg #[.int .i64 1, str ([] : List UInt8)], .bool true, str x2_4, undef].getD i undef) (fun j γ => [[obj b2v 33 [.int .i64 0, str ([] : List UInt8)], obj b1v 35 [.int .i64 x2_0, .int .i64 x2_1, .int .i64 x2_2, str x2_3, str x2_4, str x2_5, .int .i64 x2_6, .int .i64 x2_7, .int .i64 x2_8, str x2_9], F], [obj b2v 33 [.int .i64 1, str ([] : List UInt8)], obj b1v 35 [.int .i64 x2_0, .int .i64 x2_1, .int .i64 x2_2, str x2_3, str x2_4, str x2_5, .int .i64 x2_6, .int .i64 x2_7, .int .i64 x2_8, str x2_9], F]].getD j []) (fun γ => [(6, .bool true), (7, str x2_4), (8, .pointer (some ⟨b2v, 0, none⟩))]) mixed (by decide) (by decide) (by decide) (by decide) (by decide) (by decide) (by decide) 51 rfl (by decide) (by decide) (by decide) (Ent.refl _) ?_ ?_ (fun _ => ⟨rfl, rfl, rfl, trivial⟩) ?_
 exact (All.cons (fun γ => (All.cons (QOb.plain [(5, .pointer (some ⟨b1v, 0, none⟩))] rfl rfl (.o rfl (by decide) .nil) (q_fa rfl rfl Try.underlying35 rfl rfl Try.sizeOf9 rfl) rfl) All.nil)) (All.cons (fun γ => (All.cons (QOb.plain [(25, .pointer (some ⟨b1v, 4, none⟩))] rfl rfl (.w 0 rfl rfl rfl .nil) (q_load rfl rfl Try.isAgg9 (.obj 1 rfl rfl)) rfl) All.nil)) (All.cons (fun γ => (All.cons (QOb.plain [] rfl rfl .nil (q_build (v := .agg #[.int .i64 1, str ([] : List UInt8)]) rfl rfl (fun _ => by kernel_rfl)) rfl) All.nil)) (All.cons (fun γ => (All.cons (QOb.plain [] rfl rfl .nil (q_asg rfl rfl) rfl) All.nil)) (All.cons (fun γ => (All.cons (QOb.plain [(26, str x2_4)] rfl rfl (.w 1 rfl rfl rfl .nil) (q_asg rfl rfl) rfl) All.nil)) All.nil)))))
 exact (All.cons (fun γ => EOb.mk (Z := Unit) [(8, .pointer (some ⟨b2v, 0, none⟩)), (27, .agg #[.int .i64 1, str ([] : List UInt8)])] (fun z => ()) rfl rfl (.o rfl (by decide) (.w 2 rfl rfl rfl .nil)) (re_store 0 rfl rfl rfl Try.sizeOf33 rfl rfl (one_of (by rfl)) rfl rfl) (fun _ => ⟨rfl, rfl, rfl, rfl, rfl, trivial⟩) (fun _ => .inl rfl) (fun z => Ent.refl _)) All.nil)
 intro g13v
 refine nrm_then (sim_rtn ?_)
 refine rtn_block ?_
 refine rtn_then ?_
 exact rtn_fnC (vs := [.bool true, str x2_4, .agg #[.int .i64 1, str ([] : List UInt8)]]) () rfl ⟨rfl, rfl, ⟨b2v, rfl, load_agg 0 Try.isAgg33 Try.sizeOf33 rfl rfl⟩, trivial⟩ rfl (.sel 2 rfl (.nil _))
 refine sim_seq (sim_region ?_)
 refine simL_val (q_eql rfl rfl rfl) rfl rfl rfl ?_
 refine simL_val (q_asg rfl rfl) rfl rfl rfl (simL_nil (nrm_then ?_))
 refine sim_cond rfl (fun h14v => ?_) (fun h15v => ?_)
 refine sim_seq (sim_seq (sim_region ?_))
 refine simL_val (q_move rfl rfl) rfl rfl rfl (simL_nil (nrm_then ?_))
 refine sim_condb rfl (fun h16v => ?_) (fun h17v => ?_)
 refine sim_seq (sim_region ?_)
 refine simL_val (q_build (v := .agg #[.int .i64 1, str ([] : List UInt8)]) rfl rfl (fun _ => by kernel_rfl)) rfl rfl rfl ?_
 refine simL_val (q_asg rfl rfl) rfl rfl rfl ?_
 refine simL_val (q_asg rfl rfl) rfl rfl rfl ?_
 refine simL_do (re_store 0 rfl rfl rfl Try.sizeOf33 rfl rfl (one_of (by rfl)) rfl rfl) rfl rfl ?_
 intro _
 refine simL_nil (nrm_then (sim_rtn ?_))
 refine rtn_then ?_
 refine rtn_block ?_
 refine rtn_then ?_
 exact rtn_fnC (vs := [.bool false, str ([] : List UInt8), .agg #[.int .i64 1, str ([] : List UInt8)]]) () rfl ⟨rfl, rfl, ⟨b2v, rfl, load_agg 0 Try.isAgg33 Try.sizeOf33 rfl rfl⟩, trivial⟩ rfl (.sel 2 rfl (.nil _))
 refine sim_skip ?_
 refine nrm_then (sim_seq (sim_region ?_))
 refine simL_val (q_build (v := .agg #[.int .i64 2, str ([] : List UInt8)]) rfl rfl (fun _ => by kernel_rfl)) rfl rfl rfl ?_
 refine simL_val (q_asg rfl rfl) rfl rfl rfl ?_
 refine simL_val (q_asg rfl rfl) rfl rfl rfl ?_
 refine simL_do (re_store 0 rfl rfl rfl Try.sizeOf33 rfl rfl (one_of (by rfl)) rfl rfl) rfl rfl ?_
 intro _
 refine simL_nil (nrm_then (sim_rtn ?_))
 refine rtn_block ?_
 refine rtn_then ?_
 exact rtn_fnC (vs := [.bool false, str ([] : List UInt8), .agg #[.int .i64 2, str ([] : List UInt8)]]) () rfl ⟨rfl, rfl, ⟨b2v, rfl, load_agg 0 Try.isAgg33 Try.sizeOf33 rfl rfl⟩, trivial⟩ rfl (.sel 2 rfl (.nil _))
 refine sim_seq (sim_region ?_)
 refine simL_val (q_eql rfl rfl rfl) rfl rfl rfl ?_
 refine simL_val (q_asg rfl rfl) rfl rfl rfl (simL_nil (nrm_then ?_))
 refine sim_cond rfl (fun h18v => ?_) (fun h19v => ?_)
 refine sim_seq (sim_seq (sim_region ?_))
 refine simL_val (q_move rfl rfl) rfl rfl rfl ?_
 refine simL_val (q_not rfl rfl) rfl rfl rfl (simL_nil (nrm_then ?_))
 refine sim_condb rfl (fun h20v => ?_) (fun h21v => ?_)
 refine sim_seq (sim_region ?_)
 refine simL_val (q_build (v := .agg #[.int .i64 2, str ([] : List UInt8)]) rfl rfl (fun _ => by kernel_rfl)) rfl rfl rfl ?_
 refine simL_val (q_asg rfl rfl) rfl rfl rfl ?_
 refine simL_val (q_asg rfl rfl) rfl rfl rfl ?_
 refine simL_do (re_store 0 rfl rfl rfl Try.sizeOf33 rfl rfl (one_of (by rfl)) rfl rfl) rfl rfl ?_
 intro _
 refine simL_nil (nrm_then (sim_rtn ?_))
 refine rtn_then ?_
 refine rtn_block ?_
 refine rtn_then ?_
 exact rtn_fnC (vs := [.bool false, str ([] : List UInt8), .agg #[.int .i64 2, str ([] : List UInt8)]]) () rfl ⟨rfl, rfl, ⟨b2v, rfl, load_agg 0 Try.isAgg33 Try.sizeOf33 rfl rfl⟩, trivial⟩ rfl (.sel 2 rfl (.nil _))
 refine sim_skip ?_
 refine nrm_then (sim_seq (sim_seq (sim_region ?_)))
 refine simL_val (q_move rfl rfl) rfl rfl rfl ?_
 refine simL_val (q_fa rfl rfl Try.underlying35 rfl rfl Try.sizeOf9 rfl) rfl rfl rfl ?_
 refine simL_val (q_load rfl rfl Try.isAgg9 (.obj 1 rfl rfl)) rfl rfl rfl ?_
 refine simL_val (q_nes rfl rfl rfl) rfl rfl rfl (simL_nil (nrm_then ?_))
 refine sim_condn rfl (fun h22v => ?_) (fun h23v => ?_)
 refine sim_skip ?_
 refine nrm_then (sim_seq ?_)
 refine sim_draw (Γ := Unit) () [[], [0], [], [], [0, 1, 3], [0, 1, 2, 3, 4]] [5] [0, 1, 2, 3, 4] (fun i => [[0], [0], [0], [0], [0], []].getD i []) (fun i => [[], [], [], [], [], [0, 1, 2, 3, 4]].getD i []) (fun γ i => [.pointer (some ⟨b1v, 4, none⟩), str x2_4, .agg #[.int .i64 1, str ([] : List UInt8)], .bool true, str x2_4, undef].getD i undef) (fun j γ => [[obj b2v 33 [.int .i64 0, str ([] : List UInt8)], obj b1v 35 [.int .i64 x2_0, .int .i64 x2_1, .int .i64 x2_2, str x2_3, str x2_4, str x2_5, .int .i64 x2_6, .int .i64 x2_7, .int .i64 x2_8, str x2_9], F], [obj b2v 33 [.int .i64 1, str ([] : List UInt8)], obj b1v 35 [.int .i64 x2_0, .int .i64 x2_1, .int .i64 x2_2, str x2_3, str x2_4, str x2_5, .int .i64 x2_6, .int .i64 x2_7, .int .i64 x2_8, str x2_9], F]].getD j []) (fun γ => [(6, .bool true), (7, str x2_4), (8, .pointer (some ⟨b2v, 0, none⟩))]) mixed (by decide) (by decide) (by decide) (by decide) (by decide) (by decide) (by decide) 51 rfl (by decide) (by decide) (by decide) (Ent.refl _) ?_ ?_ (fun _ => ⟨rfl, rfl, rfl, trivial⟩) ?_
 exact (All.cons (fun γ => (All.cons (QOb.plain [(5, .pointer (some ⟨b1v, 0, none⟩))] rfl rfl (.o rfl (by decide) .nil) (q_fa rfl rfl Try.underlying35 rfl rfl Try.sizeOf9 rfl) rfl) All.nil)) (All.cons (fun γ => (All.cons (QOb.plain [(45, .pointer (some ⟨b1v, 4, none⟩))] rfl rfl (.w 0 rfl rfl rfl .nil) (q_load rfl rfl Try.isAgg9 (.obj 1 rfl rfl)) rfl) All.nil)) (All.cons (fun γ => (All.cons (QOb.plain [] rfl rfl .nil (q_build (v := .agg #[.int .i64 1, str ([] : List UInt8)]) rfl rfl (fun _ => by kernel_rfl)) rfl) All.nil)) (All.cons (fun γ => (All.cons (QOb.plain [] rfl rfl .nil (q_asg rfl rfl) rfl) All.nil)) (All.cons (fun γ => (All.cons (QOb.plain [(46, str x2_4)] rfl rfl (.w 1 rfl rfl rfl .nil) (q_asg rfl rfl) rfl) All.nil)) All.nil)))))
 exact (All.cons (fun γ => EOb.mk (Z := Unit) [(8, .pointer (some ⟨b2v, 0, none⟩)), (47, .agg #[.int .i64 1, str ([] : List UInt8)])] (fun z => ()) rfl rfl (.o rfl (by decide) (.w 2 rfl rfl rfl .nil)) (re_store 0 rfl rfl rfl Try.sizeOf33 rfl rfl (one_of (by rfl)) rfl rfl) (fun _ => ⟨rfl, rfl, rfl, rfl, rfl, trivial⟩) (fun _ => .inl rfl) (fun z => Ent.refl _)) All.nil)
 intro g24v
 refine nrm_then (sim_rtn ?_)
 refine rtn_block ?_
 refine rtn_then ?_
 exact rtn_fnC (vs := [.bool true, str x2_4, .agg #[.int .i64 1, str ([] : List UInt8)]]) () rfl ⟨rfl, rfl, ⟨b2v, rfl, load_agg 0 Try.isAgg33 Try.sizeOf33 rfl rfl⟩, trivial⟩ rfl (.sel 2 rfl (.nil _))
 refine sim_seq (sim_region ?_)
 refine simL_val (q_move rfl rfl) rfl rfl rfl ?_
 refine simL_val (q_move rfl rfl) rfl rfl rfl ?_
 refine simL_val (q_build (v := .agg #[.int .i64 3, str s3v]) rfl rfl (fun _ => by kernel_rfl)) rfl rfl rfl ?_
 refine simL_val (q_asg rfl rfl) rfl rfl rfl ?_
 refine simL_val (q_asg rfl rfl) rfl rfl rfl ?_
 refine simL_do (re_store 0 rfl rfl rfl Try.sizeOf33 rfl rfl (one_of (by rfl)) rfl rfl) rfl rfl ?_
 intro _
 refine simL_nil (nrm_then (sim_rtn ?_))
 refine rtn_then ?_
 refine rtn_block ?_
 refine rtn_then ?_
 exact rtn_fnC (vs := [.bool true, str s3v, .agg #[.int .i64 3, str s3v]]) () rfl ⟨rfl, rfl, ⟨b2v, rfl, load_agg 0 Try.isAgg33 Try.sizeOf33 rfl rfl⟩, trivial⟩ rfl (.sel 2 rfl (.nil _))
 refine sim_skip ?_
 refine nrm_block (nrm_then (sim_seq (sim_region ?_)))
 refine simL_val (q_move rfl rfl) rfl rfl rfl ?_
 refine simL_val (q_move rfl rfl) rfl rfl rfl ?_
 refine simL_val (q_build (v := .agg #[.int .i64 0, str ([] : List UInt8)]) rfl rfl (fun _ => by kernel_rfl)) rfl rfl rfl ?_
 refine simL_val (q_asg rfl rfl) rfl rfl rfl ?_
 refine simL_val (q_asg rfl rfl) rfl rfl rfl ?_
 refine simL_do (re_store 0 rfl rfl rfl Try.sizeOf33 rfl rfl (one_of (by rfl)) rfl rfl) rfl rfl ?_
 intro _
 refine simL_nil (nrm_then (sim_rtn ?_))
 exact rtn_fnC (vs := [.bool x0, str s3v, .agg #[.int .i64 0, str ([] : List UInt8)]]) () rfl ⟨rfl, rfl, ⟨b2v, rfl, load_agg 0 Try.isAgg33 Try.sizeOf33 rfl rfl⟩, trivial⟩ rfl (.sel 2 rfl (.nil _))
def synodref16_Step.v (x0 : Bool) (x1 : List UInt8) (x2_0 : Int) (x2_1 : Int) (x2_2 : Int) (x2_3 : List UInt8) (x2_4 : List UInt8) (x2_5 : List UInt8) (x2_6 : Int) (x2_7 : Int) (x2_8 : Int) (x2_9 : List UInt8) : Bool × List UInt8 × Int × List UInt8 := (synodref16_Step.f x0 x1 x2_0 x2_1 x2_2 x2_3 x2_4 x2_5 x2_6 x2_7 x2_8 x2_9).getD (false, [], 0, [])
theorem synodref16_Step.tot (x0 : Bool) (x1 : List UInt8) (x2_0 : Int) (x2_1 : Int) (x2_2 : Int) (x2_3 : List UInt8) (x2_4 : List UInt8) (x2_5 : List UInt8) (x2_6 : Int) (x2_7 : Int) (x2_8 : Int) (x2_9 : List UInt8) : synodref16_Step.f x0 x1 x2_0 x2_1 x2_2 x2_3 x2_4 x2_5 x2_6 x2_7 x2_8 x2_9 = some (synodref16_Step.v x0 x1 x2_0 x2_1 x2_2 x2_3 x2_4 x2_5 x2_6 x2_7 x2_8 x2_9) := by
  have h : ∃ r, synodref16_Step.f x0 x1 x2_0 x2_1 x2_2 x2_3 x2_4 x2_5 x2_6 x2_7 x2_8 x2_9 = some r := by
    unfold synodref16_Step.f
    repeat' (first | exact ⟨_, rfl⟩ | split | simp only [Option.bind_some])
  obtain ⟨r, h⟩ := h
  unfold synodref16_Step.v
  rw [h]; rfl

def synodlaw16_LinSteps.f (k : Nat) (x0 : Bool) (x1 : List UInt8) (x2_0 : Int) (x2_1 : Int) (x2_2 : Int) (x2_3 : List UInt8) (x2_4 : List UInt8) (x2_5 : List UInt8) (x2_6 : Int) (x2_7 : Int) (x2_8 : Int) (x2_9 : List UInt8) : Option (Bool) := (synodlaw16_first.f k).bind fun s2v => (if ((((!s2v) || (decide ((9000 : Int) < (x1.length : Int)))) || (decide ((9000 : Int) < (x2_4.length : Int)))) || (decide ((9000 : Int) < (x2_5.length : Int)))) = true then (some s2v) else ((lin_Step.f x0 x1 x2_0 x2_1 x2_2 x2_3 x2_4 x2_5 x2_6 x2_7 x2_8 x2_9).bind fun s7v => ((synodref16_Step.f x0 x1 x2_0 x2_1 x2_2 x2_3 x2_4 x2_5 x2_6 x2_7 x2_8 x2_9).bind fun s11v => (some (((s7v.1 == s11v.1) && (decide (s7v.2.1 = s11v.2.1))) && (decide (s7v.2.2.1 = s11v.2.2.1) && (decide (s7v.2.2.2 = s11v.2.2.2))))))))
theorem synodlaw16_LinSteps.calls (W : World) (F : HA) (k : Nat) (x0 : Bool) (x1 : List UInt8) (x2_0 : Int) (x2_1 : Int) (x2_2 : Int) (x2_3 : List UInt8) (x2_4 : List UInt8) (x2_5 : List UInt8) (x2_6 : Int) (x2_7 : Int) (x2_8 : Int) (x2_9 : List UInt8)  :
    Fn Try.prog W 5 [.bool x0, str x1, .agg #[.int .i64 x2_0, .int .i64 x2_1, .int .i64 x2_2, str x2_3, str x2_4, str x2_5, .int .i64 x2_6, .int .i64 x2_7, .int .i64 x2_8, str x2_9]] [] F (synodlaw16_LinSteps.f k x0 x1 x2_0 x2_1 x2_2 x2_3 x2_4 x2_5 x2_6 x2_7 x2_8 x2_9) (fun (r : Bool) (y : Unit) => .bool r) (fun r y => []) := by
 unfold synodlaw16_LinSteps.f
 refine fn_intro 64 Try.func5 rfl Try.ntmps5 rfl ?_
 refine sim_seq (sim_region ?_)
 refine simL_eff (re_box rfl rfl rfl) rfl rfl rfl ?_
 intro b1v
 refine simL_val (q_asg rfl rfl) rfl rfl rfl (simL_nil (nrm_then (sim_seq (sim_region ?_))))
 refine simL_bind (fun s2v hs4v => ?_)
 refine simL_eff (re_call (vs := []) (cap := []) (A := []) (rst := [obj b1v 35 [.int .i64 x2_0, .int .i64 x2_1, .int .i64 x2_2, str x2_3, str x2_4, str x2_5, .int .i64 x2_6, .int .i64 x2_7, .int .i64 x2_8, str x2_9], F]) rfl rfl rfl rfl rfl rfl Try.call11 (.sel 0 rfl (.sel 0 rfl (.nil _))) (synodlaw16_first.calls _ _ k  ) hs4v) rfl rfl rfl ?_
 intro y3v
 refine simL_val (q_asg rfl rfl) rfl rfl rfl (simL_nil (nrm_then (sim_seq (sim_seq (sim_region ?_)))))
 refine simL_val (q_move rfl rfl) rfl rfl rfl ?_
 refine simL_val (q_not rfl rfl) rfl rfl rfl ?_
 refine simL_val (q_move rfl rfl) rfl rfl rfl ?_
 refine simL_valc (b := !s2v) (fun hb31v => RQ.sub (E' := [(1, str x1)]) ⟨rfl, trivial⟩ (q_move rfl rfl)) rfl rfl rfl rfl rfl ?_
 refine simL_valc (b := !s2v) (fun hb30v => RQ.sub (E' := [(18, str x1)]) ⟨lk_cv rfl hb30v, trivial⟩ (q_lens rfl rfl rfl Try.underlying9)) rfl rfl rfl rfl rfl ?_
 refine simL_valc (b := !s2v) (fun hb29v => RQ.sub (E' := [(19, .int .i64 (x1.length : Int))]) ⟨lk_cv rfl hb29v, trivial⟩ (q_gtr rfl rfl rfl)) rfl rfl rfl rfl rfl ?_
 refine simL_val (q_or rfl rfl rfl) rfl rfl rfl ?_
 refine simL_val (q_move rfl rfl) rfl rfl rfl ?_
 refine simL_valc (b := (!s2v) || (decide ((9000 : Int) < (x1.length : Int)))) (fun hb28v => RQ.sub (E' := [(5, .pointer (some ⟨b1v, 0, none⟩))]) ⟨rfl, trivial⟩ (q_fa rfl rfl Try.underlying35 rfl rfl Try.sizeOf9 rfl)) rfl rfl rfl rfl rfl ?_
 refine simL_valc (b := (!s2v) || (decide ((9000 : Int) < (x1.length : Int)))) (fun hb27v => RQ.sub (E' := [(23, .pointer (some ⟨b1v, 4, none⟩))]) ⟨lk_cv rfl hb27v, trivial⟩ (q_load rfl rfl Try.isAgg9 (.obj 0 rfl rfl))) rfl rfl rfl rfl rfl ?_
 refine simL_valc (b := (!s2v) || (decide ((9000 : Int) < (x1.length : Int)))) (fun hb26v => RQ.sub (E' := [(24, str x2_4)]) ⟨lk_cv rfl hb26v, trivial⟩ (q_lens rfl rfl rfl Try.underlying9)) rfl rfl rfl rfl rfl ?_
 refine simL_valc (b := (!s2v) || (decide ((9000 : Int) < (x1.length : Int)))) (fun hb25v => RQ.sub (E' := [(25, .int .i64 (x2_4.length : Int))]) ⟨lk_cv rfl hb25v, trivial⟩ (q_gtr rfl rfl rfl)) rfl rfl rfl rfl rfl ?_
 refine simL_val (q_or rfl rfl rfl) rfl rfl rfl ?_
 refine simL_val (q_move rfl rfl) rfl rfl rfl ?_
 refine simL_valc (b := ((!s2v) || (decide ((9000 : Int) < (x1.length : Int)))) || (decide ((9000 : Int) < (x2_4.length : Int)))) (fun hb24v => RQ.sub (E' := [(5, .pointer (some ⟨b1v, 0, none⟩))]) ⟨rfl, trivial⟩ (q_fa rfl rfl Try.underlying35 rfl rfl Try.sizeOf9 rfl)) rfl rfl rfl rfl rfl ?_
 refine simL_valc (b := ((!s2v) || (decide ((9000 : Int) < (x1.length : Int)))) || (decide ((9000 : Int) < (x2_4.length : Int)))) (fun hb23v => RQ.sub (E' := [(29, .pointer (some ⟨b1v, 5, none⟩))]) ⟨lk_cv rfl hb23v, trivial⟩ (q_load rfl rfl Try.isAgg9 (.obj 0 rfl rfl))) rfl rfl rfl rfl rfl ?_
 refine simL_valc (b := ((!s2v) || (decide ((9000 : Int) < (x1.length : Int)))) || (decide ((9000 : Int) < (x2_4.length : Int)))) (fun hb22v => RQ.sub (E' := [(30, str x2_5)]) ⟨lk_cv rfl hb22v, trivial⟩ (q_lens rfl rfl rfl Try.underlying9)) rfl rfl rfl rfl rfl ?_
 refine simL_valc (b := ((!s2v) || (decide ((9000 : Int) < (x1.length : Int)))) || (decide ((9000 : Int) < (x2_4.length : Int)))) (fun hb21v => RQ.sub (E' := [(31, .int .i64 (x2_5.length : Int))]) ⟨lk_cv rfl hb21v, trivial⟩ (q_gtr rfl rfl rfl)) rfl rfl rfl rfl rfl ?_
 refine simL_val (q_or rfl rfl rfl) rfl rfl rfl (simL_nil (nrm_then ?_))
 refine sim_condb rfl (fun h5v => ?_) (fun h6v => ?_)
 refine sim_seq (sim_region ?_)
 refine simL_val (q_move rfl rfl) rfl rfl rfl ?_
 refine simL_val (q_asg rfl rfl) rfl rfl rfl (simL_nil (nrm_then (sim_rtn ?_)))
 refine rtn_then ?_
 exact rtn_fn () rfl rfl rfl (.sel 1 rfl (.nil _))
 refine sim_skip ?_
 refine nrm_then (sim_seq (sim_region ?_))
 refine simL_val (q_move rfl rfl) rfl rfl rfl ?_
 refine simL_val (q_move rfl rfl) rfl rfl rfl ?_
 refine simL_val (q_loado 0 rfl rfl Try.isAgg35 Try.sizeOf35 rfl rfl) rfl rfl rfl ?_
 refine simL_bind (fun s7v hs9v => ?_)
 refine simL_eff (re_call (vs := [.bool x0, str x1, .agg #[.int .i64 x2_0, .int .i64 x2_1, .int .i64 x2_2, str x2_3, str x2_4, str x2_5, .int .i64 x2_6, .int .i64 x2_7, .int .i64 x2_8, str x2_9]]) (cap := []) (A := []) (rst := [obj b1v 35 [.int .i64 x2_0, .int .i64 x2_1, .int .i64 x2_2, str x2_3, str x2_4, str x2_5, .int .i64 x2_6, .int .i64 x2_7, .int .i64 x2_8, str x2_9], F]) rfl rfl rfl rfl rfl rfl Try.call26 (.sel 0 rfl (.sel 0 rfl (.nil _))) (lin_Step.calls _ _ x0 x1 x2_0 x2_1 x2_2 x2_3 x2_4 x2_5 x2_6 x2_7 x2_8 x2_9 ) hs9v) rfl rfl rfl ?_
 intro y8v
 refine simL_val (q_move rfl rfl) rfl rfl rfl ?_
 refine simL_val (q_ext rfl rfl rfl) rfl rfl rfl ?_
 refine simL_val (q_ext rfl rfl rfl) rfl rfl rfl ?_
 refine simL_val (q_ext rfl rfl rfl) rfl rfl rfl ?_
 refine simL_eff (re_alloc rfl Try.zeroValue33 rfl) rfl rfl rfl ?_
 intro b10v
 refine simL_val (q_asg rfl rfl) rfl rfl rfl ?_
 refine simL_val (q_asg rfl rfl) rfl rfl rfl ?_
 refine simL_do (re_store 0 rfl rfl rfl Try.sizeOf33 rfl rfl (one_of (by rfl)) rfl rfl) rfl rfl ?_
 intro _
 refine simL_nil (nrm_then (sim_seq (sim_region ?_)))
 refine simL_val (q_move rfl rfl) rfl rfl rfl ?_
 refine simL_val (q_move rfl rfl) rfl rfl rfl ?_
 refine simL_val (q_loado 1 rfl rfl Try.isAgg35 Try.sizeOf35 rfl rfl) rfl rfl rfl ?_
 refine simL_bind (fun s11v hs13v => ?_)
 refine simL_eff (re_call (vs := [.bool x0, str x1, .agg #[.int .i64 x2_0, .int .i64 x2_1, .int .i64 x2_2, str x2_3, str x2_4, str x2_5, .int .i64 x2_6, .int .i64 x2_7, .int .i64 x2_8, str x2_9]]) (cap := []) (A := []) (rst := [obj b10v 33 [.int .i64 s7v.2.2.1, str s7v.2.2.2], obj b1v 35 [.int .i64 x2_0, .int .i64 x2_1, .int .i64 x2_2, str x2_3, str x2_4, str x2_5, .int .i64 x2_6, .int .i64 x2_7, .int .i64 x2_8, str x2_9], F]) rfl rfl rfl rfl rfl rfl Try.call27 (.sel 0 rfl (.sel 0 rfl (.sel 0 rfl (.nil _)))) (synodref16_Step.calls _ _ x0 x1 x2_0 x2_1 x2_2 x2_3 x2_4 x2_5 x2_6 x2_7 x2_8 x2_9 ) hs13v) rfl rfl rfl ?_
 intro y12v
 refine simL_val (q_move rfl rfl) rfl rfl rfl ?_
 refine simL_val (q_ext rfl rfl rfl) rfl rfl rfl ?_
 refine simL_val (q_ext rfl rfl rfl) rfl rfl rfl ?_
 refine simL_val (q_ext rfl rfl rfl) rfl rfl rfl ?_
 refine simL_eff (re_alloc rfl Try.zeroValue33 rfl) rfl rfl rfl ?_
 intro b14v
 refine simL_val (q_asg rfl rfl) rfl rfl rfl ?_
 refine simL_val (q_asg rfl rfl) rfl rfl rfl ?_
 refine simL_do (re_store 0 rfl rfl rfl Try.sizeOf33 rfl rfl (one_of (by rfl)) rfl rfl) rfl rfl ?_
 intro _
 refine simL_nil (nrm_then (sim_seq (sim_region ?_)))
 refine simL_val (q_move rfl rfl) rfl rfl rfl ?_
 refine simL_val (q_move rfl rfl) rfl rfl rfl ?_
 refine simL_val (q_eqb rfl rfl rfl Try.underlying4) rfl rfl rfl ?_
 refine simL_val (q_move rfl rfl) rfl rfl rfl ?_
 refine simL_valc (b := s7v.1 == s11v.1) (fun hb20v => RQ.sub (E' := [(9, str s7v.2.1)]) ⟨rfl, trivial⟩ (q_move rfl rfl)) rfl rfl rfl rfl rfl ?_
 refine simL_valc (b := s7v.1 == s11v.1) (fun hb19v => RQ.sub (E' := [(12, str s11v.2.1)]) ⟨rfl, trivial⟩ (q_move rfl rfl)) rfl rfl rfl rfl rfl ?_
 refine simL_valc (b := s7v.1 == s11v.1) (fun hb18v => RQ.sub (E' := [(55, str s7v.2.1), (56, str s11v.2.1)]) ⟨lk_cv rfl hb18v, lk_cv rfl hb18v, trivial⟩ (q_eqs rfl rfl rfl)) rfl rfl rfl rfl rfl ?_
 refine simL_val (q_and rfl rfl rfl) rfl rfl rfl ?_
 refine simL_val (q_move rfl rfl) rfl rfl rfl ?_
 refine simL_valc (b := (s7v.1 == s11v.1) && (decide (s7v.2.1 = s11v.2.1))) (fun hb17v => RQ.sub (E' := [(10, .pointer (some ⟨b10v, 0, none⟩))]) ⟨rfl, trivial⟩ (q_loado 1 rfl rfl Try.isAgg33 Try.sizeOf33 rfl rfl)) rfl rfl rfl rfl rfl ?_
 refine simL_valc (b := (s7v.1 == s11v.1) && (decide (s7v.2.1 = s11v.2.1))) (fun hb16v => RQ.sub (E' := [(13, .pointer (some ⟨b14v, 0, none⟩))]) ⟨rfl, trivial⟩ (q_loado 0 rfl rfl Try.isAgg33 Try.sizeOf33 rfl rfl)) rfl rfl rfl rfl rfl ?_
 refine simL_valc (b := (s7v.1 == s11v.1) && (decide (s7v.2.1 = s11v.2.1))) (fun hb15v => RQ.sub (E' := [(60, .agg #[.int .i64 s7v.2.2.1, str s7v.2.2.2]), (61, .agg #[.int .i64 s11v.2.2.1, str s11v.2.2.2])]) ⟨lk_cv rfl hb15v, lk_cv rfl hb15v, trivial⟩ (q_eqagg rfl rfl rfl (by kernel_rfl) (fun d w => eqi_struct Try.underlying33 (by kernel_rfl) (eqf_cons (by rfl) (part_of Try.isAgg3 rfl) (part_of Try.isAgg3 rfl) (eqi_int Try.underlying3) (eqf_last (by rfl) (part_of Try.isAgg9 rfl) (part_of Try.isAgg9 rfl) (eqi_str Try.underlying9)))))) rfl rfl rfl rfl rfl ?_
 refine simL_val (q_and rfl rfl rfl) rfl rfl rfl ?_
 refine simL_val (q_asg rfl rfl) rfl rfl rfl (simL_nil (nrm_then (sim_rtn ?_)))
 exact rtn_fn () rfl rfl rfl (.sel 3 rfl (.nil _))
end Go.Proofs.Ytlblpegbgbgliaa

/- Printed by gen.py: pure functions and the proofs that the Go functions simulate them. Conditions: as each theorem says. -/
import Derived.Test.YtdoghfenhoigmaaG2
namespace Go.Proofs.Ytdoghfenhoigmaa
open Go.RowKit
set_option linter.unusedVariables false
set_option maxRecDepth 20000
set_option maxHeartbeats 2000000
def wire_Reader_Bytes.f (k : Nat) (x0_0 : List UInt8) (x0_1 : Int) (x0_2 : Int) (x1 : Int) : Option (List UInt8 × Int × Int) := (wire_Reader_look.f k x0_0 x0_1 x0_2).bind fun s1v => (if (!s1v.2.2.1) = true then (some (([] : List UInt8), s1v.2.2.2.1, s1v.2.2.2.2)) else (if max x1 (0 : Int) < s1v.1 then (some (([] : List UInt8), s1v.2.2.2.1, 3)) else (if IntKind.i64.wrap ((IntKind.i64.wrap ((x0_0.length : Int) - s1v.2.2.2.1)) - s1v.2.1) < s1v.1 then (some (([] : List UInt8), s1v.2.2.2.1, 2)) else (if 0 ≤ IntKind.i64.wrap (s1v.2.2.2.1 + s1v.2.1) ∧ IntKind.i64.wrap (s1v.2.2.2.1 + s1v.2.1) ≤ IntKind.i64.wrap ((IntKind.i64.wrap (s1v.2.2.2.1 + s1v.2.1)) + s1v.1) ∧ IntKind.i64.wrap ((IntKind.i64.wrap (s1v.2.2.2.1 + s1v.2.1)) + s1v.1) ≤ (x0_0.length : Int) then ((wire_fresh.f (cut x0_0 (IntKind.i64.wrap (s1v.2.2.2.1 + s1v.2.1)) (IntKind.i64.wrap ((IntKind.i64.wrap (s1v.2.2.2.1 + s1v.2.1)) + s1v.1)))).bind fun s18v => (some (s18v, IntKind.i64.wrap ((IntKind.i64.wrap (s1v.2.2.2.1 + s1v.2.1)) + s1v.1), s1v.2.2.2.2))) else none))))
theorem wire_Reader_Bytes.calls (W : World) (F : HA) (k : Nat) (b0 : Nat) (a0_0 : Option Addr) (c0_0 : Nat) (x0_0 : List UInt8) (x0_1 : Int) (x0_2 : Int) (x1 : Int) (h0_0 : Rd F a0_0 (encB x0_0)) (hc0_0 : x0_0.length ≤ c0_0) (hm0_0 : c0_0 ≤ maxLen) :
    Fn Try.prog W 90 [.pointer (some ⟨b0, 0, none⟩), .int .i64 x1] [obj b0 194 [.slice a0_0 x0_0.length c0_0, .int .i64 x0_1, .int .i64 x0_2]] F (wire_Reader_Bytes.f k x0_0 x0_1 x0_2 x1) (fun (r : List UInt8 × Int × Int) (y : Option Addr × Nat) => .slice y.1 r.1.length y.2) (fun r y => [Row 5 1 y.1 r.1.length y.2 (encB r.1), obj b0 194 [.slice a0_0 x0_0.length c0_0, .int .i64 r.2.1, .int .i64 r.2.2]]) := by
 unfold wire_Reader_Bytes.f
 refine fn_intro 67 Try.func90 rfl Try.ntmps90 rfl ?_
 refine sim_seq ?_
 refine sim_region ?_
 refine simL_val (q_asg rfl rfl) rfl rfl rfl ?_
 refine simL_nil ?_
 refine nrm_then ?_
 refine sim_seq ?_
 refine sim_region ?_
 refine simL_val (q_move rfl rfl) rfl rfl rfl ?_
 refine simL_bind (fun s1v hs3v => ?_)
 refine simL_eff (re_call (vs := [.pointer (some ⟨b0, 0, none⟩)]) (cap := []) (A := [obj b0 194 [.slice a0_0 x0_0.length c0_0, .int .i64 x0_1, .int .i64 x0_2]]) (rst := [F]) rfl rfl rfl rfl rfl rfl Try.call129 (.sel 0 rfl (.sel 0 rfl (.nil _))) (wire_Reader_look.calls _ _ k b0 a0_0 c0_0 x0_0 x0_1 x0_2 (h0_0.lend 0 rfl) hc0_0 hm0_0) hs3v) rfl rfl rfl ?_
 intro y2v
 refine simL_val (q_move rfl rfl) rfl rfl rfl ?_
 refine simL_val (q_ext rfl rfl rfl) rfl rfl rfl ?_
 refine simL_val (q_ext rfl rfl rfl) rfl rfl rfl ?_
 refine simL_val (q_ext rfl rfl rfl) rfl rfl rfl ?_
 refine simL_val (q_asg rfl rfl) rfl rfl rfl ?_
 refine simL_val (q_asg rfl rfl) rfl rfl rfl ?_
 refine simL_val (q_asg rfl rfl) rfl rfl rfl ?_
 refine simL_nil ?_
 refine nrm_then ?_
 refine sim_seq ?_
 refine sim_block ?_
 refine sim_seq ?_
 refine sim_region ?_
 refine simL_val (q_move rfl rfl) rfl rfl rfl ?_
 refine simL_val (q_not rfl rfl) rfl rfl rfl ?_
 refine simL_val (q_asg rfl rfl) rfl rfl rfl ?_
 refine simL_nil ?_
 refine nrm_then ?_
 refine sim_condb rfl (fun h4v => ?_) (fun h5v => ?_)
 refine sim_seq ?_
 refine sim_region ?_
 refine simL_val (q_asg rfl rfl) rfl rfl rfl ?_
 refine simL_nil ?_
 refine nrm_then ?_
 refine sim_rtn ?_
 refine rtn_block ?_
 refine rtn_then ?_
 exact rtn_fn (none, 0) rfl rfl rfl (.row_nil (.sel 0 rfl (.sel 0 rfl (.nil _))))
 refine sim_seq ?_
 refine sim_region ?_
 refine simL_val (q_move rfl rfl) rfl rfl rfl ?_
 refine simL_val (q_move rfl rfl) rfl rfl rfl ?_
 refine simL_val (q_max rfl rfl rfl) rfl rfl rfl ?_
 refine simL_val (q_gtr rfl rfl rfl) rfl rfl rfl ?_
 refine simL_val (q_asg rfl rfl) rfl rfl rfl ?_
 refine simL_nil ?_
 refine nrm_then ?_
 refine sim_cond rfl (fun h6v => ?_) (fun h7v => ?_)
 refine sim_seq ?_
 refine sim_region ?_
 refine simL_val (q_move rfl rfl) rfl rfl rfl ?_
 refine simL_val (q_nil rfl rfl) rfl rfl rfl ?_
 refine simL_val (q_fa rfl rfl Try.underlying194 rfl rfl Try.sizeOf46 rfl) rfl rfl rfl ?_
 refine simL_do (re_store 0 rfl rfl rfl Try.sizeOf46 rfl rfl (one_of (by rfl)) rfl rfl) rfl rfl ?_
 intro _
 refine simL_nil ?_
 refine nrm_then ?_
 refine sim_seq ?_
 refine sim_region ?_
 refine simL_val (q_asg rfl rfl) rfl rfl rfl ?_
 refine simL_nil ?_
 refine nrm_then ?_
 refine sim_rtn ?_
 refine rtn_block ?_
 refine rtn_then ?_
 exact rtn_fn (none, 0) rfl rfl rfl (.row_nil (.sel 0 rfl (.sel 0 rfl (.nil _))))
 refine sim_seq ?_
 refine sim_draw (Γ := Unit) () [[], [], [1], [1, 2], [1, 2, 3], [1, 2, 3, 4], [], [6], [6, 7], [6, 7, 8], [1, 2, 3, 4, 5, 6, 7, 8, 9], [], [1, 2, 3, 4, 5, 6, 7, 8, 9, 10, 11], [0, 1, 2, 3, 4, 5, 6, 7, 8, 9, 10, 11, 12], [0, 1, 2, 3, 4, 5, 6, 7, 8, 9, 10, 11, 12, 13]] [] [0, 1, 2, 3, 4, 5, 6, 7, 8, 9, 10, 11, 12, 13, 14] (fun i => [[0], [0], [0], [0], [0], [0], [0], [0], [0], [0], [0], [0], [0], [0], [0]].getD i []) (fun i => [[], [], [], [], [], [], [], [], [], [], [], [], [], [], []].getD i []) (fun γ i => [.int .i64 s1v.1, .pointer (some ⟨b0, 0, none⟩), .pointer (some ⟨b0, 0, none⟩), .pointer (some ⟨b0, 0, none⟩), .slice a0_0 x0_0.length c0_0, .int .i64 (x0_0.length : Int), .pointer (some ⟨b0, 0, none⟩), .pointer (some ⟨b0, 0, none⟩), .pointer (some ⟨b0, 1, none⟩), .int .i64 s1v.2.2.2.1, .int .i64 (IntKind.i64.wrap ((x0_0.length : Int) - s1v.2.2.2.1)), .int .i64 s1v.2.1, .int .i64 (IntKind.i64.wrap ((IntKind.i64.wrap ((x0_0.length : Int) - s1v.2.2.2.1)) - s1v.2.1)), .bool (decide (IntKind.i64.wrap ((IntKind.i64.wrap ((x0_0.length : Int) - s1v.2.2.2.1)) - s1v.2.1) < s1v.1)), .bool (decide (IntKind.i64.wrap ((IntKind.i64.wrap ((x0_0.length : Int) - s1v.2.2.2.1)) - s1v.2.1) < s1v.1))].getD i undef) (fun j γ => [[obj b0 194 [.slice a0_0 x0_0.length c0_0, .int .i64 s1v.2.2.2.1, .int .i64 s1v.2.2.2.2], F]].getD j []) (fun γ => [(0, .pointer (some ⟨b0, 0, none⟩)), (5, .int .i64 s1v.1), (6, .int .i64 s1v.2.1), (26, .bool (decide (IntKind.i64.wrap ((IntKind.i64.wrap ((x0_0.length : Int) - s1v.2.2.2.1)) - s1v.2.1) < s1v.1)))]) mixed (by decide) (by decide) (by decide) (by decide) (by decide) (by decide) (by decide) 67 rfl (by decide) (by decide) (by decide) (Ent.refl _) ?_ ?_ (fun _ => ⟨rfl, rfl, rfl, rfl, trivial⟩) ?_
 exact (All.cons (fun γ => (All.cons (QOb.plain [(5, .int .i64 s1v.1)] rfl rfl (.o rfl (by decide) .nil) (q_move rfl rfl) rfl) All.nil)) (All.cons (fun γ => (All.cons (QOb.plain [(0, .pointer (some ⟨b0, 0, none⟩))] rfl rfl (.o rfl (by decide) .nil) (q_move rfl rfl) rfl) All.nil)) (All.cons (fun γ => (All.cons (QOb.plain [(28, .pointer (some ⟨b0, 0, none⟩))] rfl rfl (.w 1 rfl rfl rfl .nil) (q_nil rfl rfl) rfl) All.nil)) (All.cons (fun γ => (All.cons (QOb.plain [(29, .pointer (some ⟨b0, 0, none⟩))] rfl rfl (.w 2 rfl rfl rfl .nil) (q_fa rfl rfl Try.underlying194 rfl rfl Try.sizeOf27 rfl) rfl) All.nil)) (All.cons (fun γ => (All.cons (QOb.plain [(30, .pointer (some ⟨b0, 0, none⟩))] rfl rfl (.w 3 rfl rfl rfl .nil) (q_load rfl rfl Try.isAgg27 (.obj 0 rfl rfl)) rfl) All.nil)) (All.cons (fun γ => (All.cons (QOb.plain [(31, .slice a0_0 x0_0.length c0_0)] rfl rfl (.w 4 rfl rfl rfl .nil) (q_len rfl rfl rfl Try.underlying27) rfl) All.nil)) (All.cons (fun γ => (All.cons (QOb.plain [(0, .pointer (some ⟨b0, 0, none⟩))] rfl rfl (.o rfl (by decide) .nil) (q_move rfl rfl) rfl) All.nil)) (All.cons (fun γ => (All.cons (QOb.plain [(33, .pointer (some ⟨b0, 0, none⟩))] rfl rfl (.w 6 rfl rfl rfl .nil) (q_nil rfl rfl) rfl) All.nil)) (All.cons (fun γ => (All.cons (QOb.plain [(34, .pointer (some ⟨b0, 0, none⟩))] rfl rfl (.w 7 rfl rfl rfl .nil) (q_fa rfl rfl Try.underlying194 rfl rfl Try.sizeOf3 rfl) rfl) All.nil)) (All.cons (fun γ => (All.cons (QOb.plain [(35, .pointer (some ⟨b0, 1, none⟩))] rfl rfl (.w 8 rfl rfl rfl .nil) (q_load rfl rfl Try.isAgg3 (.obj 0 rfl rfl)) rfl) All.nil)) (All.cons (fun γ => (All.cons (QOb.plain [(32, .int .i64 (x0_0.length : Int)), (36, .int .i64 s1v.2.2.2.1)] rfl rfl (.w 5 rfl rfl rfl (.w 9 rfl rfl rfl .nil)) (q_sub rfl rfl rfl) rfl) All.nil)) (All.cons (fun γ => (All.cons (QOb.plain [(6, .int .i64 s1v.2.1)] rfl rfl (.o rfl (by decide) .nil) (q_move rfl rfl) rfl) All.nil)) (All.cons (fun γ => (All.cons (QOb.plain [(37, .int .i64 (IntKind.i64.wrap ((x0_0.length : Int) - s1v.2.2.2.1))), (38, .int .i64 s1v.2.1)] rfl rfl (.w 10 rfl rfl rfl (.w 11 rfl rfl rfl .nil)) (q_sub rfl rfl rfl) rfl) All.nil)) (All.cons (fun γ => (All.cons (QOb.plain [(27, .int .i64 s1v.1), (39, .int .i64 (IntKind.i64.wrap ((IntKind.i64.wrap ((x0_0.length : Int) - s1v.2.2.2.1)) - s1v.2.1)))] rfl rfl (.w 0 rfl rfl rfl (.w 12 rfl rfl rfl .nil)) (q_gtr rfl rfl rfl) rfl) All.nil)) (All.cons (fun γ => (All.cons (QOb.plain [(40, .bool (decide (IntKind.i64.wrap ((IntKind.i64.wrap ((x0_0.length : Int) - s1v.2.2.2.1)) - s1v.2.1) < s1v.1)))] rfl rfl (.w 13 rfl rfl rfl .nil) (q_asg rfl rfl) rfl) All.nil)) All.nil)))))))))))))))
 exact All.nil
 intro g8v
 refine nrm_then ?_
 refine sim_cond rfl (fun h9v => ?_) (fun h10v => ?_)
 refine sim_seq ?_
 refine sim_region ?_
 refine simL_val (q_move rfl rfl) rfl rfl rfl ?_
 refine simL_val (q_nil rfl rfl) rfl rfl rfl ?_
 refine simL_val (q_fa rfl rfl Try.underlying194 rfl rfl Try.sizeOf46 rfl) rfl rfl rfl ?_
 refine simL_do (re_store 0 rfl rfl rfl Try.sizeOf46 rfl rfl (one_of (by rfl)) rfl rfl) rfl rfl ?_
 intro _
 refine simL_nil ?_
 refine nrm_then ?_
 refine sim_seq ?_
 refine sim_region ?_
 refine simL_val (q_asg rfl rfl) rfl rfl rfl ?_
 refine simL_nil ?_
 refine nrm_then ?_
 refine sim_rtn ?_
 refine rtn_block ?_
 refine rtn_then ?_
 exact rtn_fn (none, 0) rfl rfl rfl (.row_nil (.sel 0 rfl (.sel 0 rfl (.nil _))))
 refine sim_skip ?_
 refine nrm_block ?_
 refine nrm_then ?_
 refine sim_seq ?_
 refine sim_region ?_
 refine simL_val (q_move rfl rfl) rfl rfl rfl ?_
 refine simL_val (q_nil rfl rfl) rfl rfl rfl ?_
 refine simL_val (q_fa rfl rfl Try.underlying194 rfl rfl Try.sizeOf3 rfl) rfl rfl rfl ?_
 refine simL_val (q_load rfl rfl Try.isAgg3 (.obj 0 rfl rfl)) rfl rfl rfl ?_
 refine simL_val (q_move rfl rfl) rfl rfl rfl ?_
 refine simL_val (q_add rfl rfl rfl) rfl rfl rfl ?_
 refine simL_val (q_asg rfl rfl) rfl rfl rfl ?_
 refine simL_nil ?_
 refine nrm_then ?_
 refine sim_seq ?_
 refine sim_region ?_
 refine simL_val (q_move rfl rfl) rfl rfl rfl ?_
 refine simL_val (q_move rfl rfl) rfl rfl rfl ?_
 refine simL_val (q_move rfl rfl) rfl rfl rfl ?_
 refine simL_val (q_add rfl rfl rfl) rfl rfl rfl ?_
 refine simL_val (q_nil rfl rfl) rfl rfl rfl ?_
 refine simL_val (q_fa rfl rfl Try.underlying194 rfl rfl Try.sizeOf3 rfl) rfl rfl rfl ?_
 refine simL_do (re_store 0 rfl rfl rfl Try.sizeOf3 rfl rfl (one_of (by rfl)) rfl rfl) rfl rfl ?_
 intro _
 refine simL_nil ?_
 refine nrm_then ?_
 refine sim_seq ?_
 refine sim_ask (fun hb11v => ?_)
 obtain ⟨a12v, c13v, hS14v, hr15v, hc16v, hm17v⟩ := slice_pre (lo := IntKind.i64.wrap (s1v.2.2.2.1 + s1v.2.1)) (hi := IntKind.i64.wrap ((IntKind.i64.wrap (s1v.2.2.2.1 + s1v.2.1)) + s1v.1)) h0_0 hc0_0 hb11v
 refine sim_bind (fun s18v hs20v => ?_)
 refine sim_draw (Γ := (Option Addr × Nat)) (none, 0) [[], [0], [0, 1], [0, 1, 2], [], [], [5], [5, 6], [5, 6, 7], [0, 1, 2, 3, 4, 5, 6, 7, 8], [0, 1, 2, 3, 4, 5, 6, 7, 8, 9], [0, 1, 2, 3, 4, 5, 6, 7, 8, 9, 10]] [10] [0, 1, 2, 3, 4, 5, 6, 7, 8, 9, 11] (fun i => [[0], [0], [0], [0], [0], [0], [0], [0], [0], [0], [], [1]].getD i []) (fun i => [[], [], [], [], [], [], [], [], [], [], [0, 1, 2, 3, 4, 5, 6, 7, 8, 9], []].getD i []) (fun γ i => [.pointer (some ⟨b0, 0, none⟩), .pointer (some ⟨b0, 0, none⟩), .pointer (some ⟨b0, 0, none⟩), .slice a0_0 x0_0.length c0_0, .int .i64 (IntKind.i64.wrap (s1v.2.2.2.1 + s1v.2.1)), .pointer (some ⟨b0, 0, none⟩), .pointer (some ⟨b0, 0, none⟩), .pointer (some ⟨b0, 1, none⟩), .int .i64 (IntKind.i64.wrap ((IntKind.i64.wrap (s1v.2.2.2.1 + s1v.2.1)) + s1v.1)), .slice a12v ((cut x0_0 (IntKind.i64.wrap (s1v.2.2.2.1 + s1v.2.1)) (IntKind.i64.wrap ((IntKind.i64.wrap (s1v.2.2.2.1 + s1v.2.1)) + s1v.1))).length) c13v, .slice γ.1 s18v.length γ.2, .slice γ.1 s18v.length γ.2].getD i undef) (fun j γ => [[obj b0 194 [.slice a0_0 x0_0.length c0_0, .int .i64 (IntKind.i64.wrap ((IntKind.i64.wrap (s1v.2.2.2.1 + s1v.2.1)) + s1v.1)), .int .i64 s1v.2.2.2.2], F], [Row 5 1 γ.1 s18v.length γ.2 (encB s18v), obj b0 194 [.slice a0_0 x0_0.length c0_0, .int .i64 (IntKind.i64.wrap ((IntKind.i64.wrap (s1v.2.2.2.1 + s1v.2.1)) + s1v.1)), .int .i64 s1v.2.2.2.2], F]].getD j []) (fun γ => [(4, .slice γ.1 s18v.length γ.2)]) mixed (by decide) (by decide) (by decide) (by decide) (by decide) (by decide) (by decide) 67 rfl (by decide) (by decide) (by decide) (Ent.refl _) ?_ ?_ (fun _ => ⟨rfl, trivial⟩) ?_
 exact (All.cons (fun γ => (All.cons (QOb.plain [(0, .pointer (some ⟨b0, 0, none⟩))] rfl rfl (.o rfl (by decide) .nil) (q_move rfl rfl) rfl) All.nil)) (All.cons (fun γ => (All.cons (QOb.plain [(56, .pointer (some ⟨b0, 0, none⟩))] rfl rfl (.w 0 rfl rfl rfl .nil) (q_nil rfl rfl) rfl) All.nil)) (All.cons (fun γ => (All.cons (QOb.plain [(57, .pointer (some ⟨b0, 0, none⟩))] rfl rfl (.w 1 rfl rfl rfl .nil) (q_fa rfl rfl Try.underlying194 rfl rfl Try.sizeOf27 rfl) rfl) All.nil)) (All.cons (fun γ => (All.cons (QOb.plain [(58, .pointer (some ⟨b0, 0, none⟩))] rfl rfl (.w 2 rfl rfl rfl .nil) (q_load rfl rfl Try.isAgg27 (.obj 0 rfl rfl)) rfl) All.nil)) (All.cons (fun γ => (All.cons (QOb.plain [(8, .int .i64 (IntKind.i64.wrap (s1v.2.2.2.1 + s1v.2.1)))] rfl rfl (.o rfl (by decide) .nil) (q_move rfl rfl) rfl) All.nil)) (All.cons (fun γ => (All.cons (QOb.plain [(0, .pointer (some ⟨b0, 0, none⟩))] rfl rfl (.o rfl (by decide) .nil) (q_move rfl rfl) rfl) All.nil)) (All.cons (fun γ => (All.cons (QOb.plain [(61, .pointer (some ⟨b0, 0, none⟩))] rfl rfl (.w 5 rfl rfl rfl .nil) (q_nil rfl rfl) rfl) All.nil)) (All.cons (fun γ => (All.cons (QOb.plain [(62, .pointer (some ⟨b0, 0, none⟩))] rfl rfl (.w 6 rfl rfl rfl .nil) (q_fa rfl rfl Try.underlying194 rfl rfl Try.sizeOf3 rfl) rfl) All.nil)) (All.cons (fun γ => (All.cons (QOb.plain [(63, .pointer (some ⟨b0, 1, none⟩))] rfl rfl (.w 7 rfl rfl rfl .nil) (q_load rfl rfl Try.isAgg3 (.obj 0 rfl rfl)) rfl) All.nil)) (All.cons (fun γ => (All.cons (QOb.plain [(59, .slice a0_0 x0_0.length c0_0), (60, .int .i64 (IntKind.i64.wrap (s1v.2.2.2.1 + s1v.2.1))), (64, .int .i64 (IntKind.i64.wrap ((IntKind.i64.wrap (s1v.2.2.2.1 + s1v.2.1)) + s1v.1)))] rfl rfl (.w 3 rfl rfl rfl (.w 4 rfl rfl rfl (.w 8 rfl rfl rfl .nil))) (q_sub_ro (l := x0_0) (lo' := IntKind.i64.wrap (s1v.2.2.2.1 + s1v.2.1)) (hi' := IntKind.i64.wrap ((IntKind.i64.wrap (s1v.2.2.2.1 + s1v.2.1)) + s1v.1)) rfl rfl rfl rfl Try.underlying27 Try.sizeOf5 (.inr ⟨_, rfl⟩) (.inr ⟨_, rfl⟩) hb11v hc0_0 hS14v) rfl) All.nil)) (All.cons (fun γ => (All.cons (QOb.plain [(66, .slice γ.1 s18v.length γ.2)] rfl rfl (.w 10 rfl rfl rfl .nil) (q_asg rfl rfl) rfl) All.nil)) All.nil)))))))))))
 exact (All.cons (fun γ => EOb.mk (Z := Option Addr × Nat) [(65, .slice a12v ((cut x0_0 (IntKind.i64.wrap (s1v.2.2.2.1 + s1v.2.1)) (IntKind.i64.wrap ((IntKind.i64.wrap (s1v.2.2.2.1 + s1v.2.1)) + s1v.1))).length) c13v)] (fun z => z) rfl rfl (.w 9 rfl rfl rfl .nil) (re_call (vs := [.slice a12v ((cut x0_0 (IntKind.i64.wrap (s1v.2.2.2.1 + s1v.2.1)) (IntKind.i64.wrap ((IntKind.i64.wrap (s1v.2.2.2.1 + s1v.2.1)) + s1v.1))).length) c13v]) (cap := []) (A := []) (rst := [obj b0 194 [.slice a0_0 x0_0.length c0_0, .int .i64 (IntKind.i64.wrap ((IntKind.i64.wrap (s1v.2.2.2.1 + s1v.2.1)) + s1v.1)), .int .i64 s1v.2.2.2.2], F]) rfl rfl rfl rfl rfl rfl Try.call128 (.sel 0 rfl (.sel 0 rfl (.nil _))) (wire_fresh.calls _ _ a12v c13v (cut x0_0 (IntKind.i64.wrap (s1v.2.2.2.1 + s1v.2.1)) (IntKind.i64.wrap ((IntKind.i64.wrap (s1v.2.2.2.1 + s1v.2.1)) + s1v.1))) (hr15v.lend 1 rfl) hc16v (Nat.le_trans hm17v hm0_0)) hs20v) (fun _ => ⟨rfl, rfl, rfl, rfl, rfl, rfl, rfl, rfl, rfl, rfl, trivial⟩) (fun _ => .inr rfl) (fun z => Ent.refl _)) All.nil)
 intro g21v
 refine nrm_then ?_
 refine sim_rtn ?_
 exact rtn_fn (g21v.1, g21v.2) rfl rfl rfl (.sel 0 rfl (.sel 0 rfl (.sel 0 rfl (.nil _))))

def wire_Reader_Text.f (k : Nat) (x0_0 : List UInt8) (x0_1 : Int) (x0_2 : Int) (x1 : Int) : Option (List UInt8 × Int × Int) := (wire_Reader_Bytes.f k x0_0 x0_1 x0_2 x1).bind fun s1v => (some (s1v.1, s1v.2.1, s1v.2.2))
theorem wire_Reader_Text.calls (W : World) (F : HA) (k : Nat) (b0 : Nat) (a0_0 : Option Addr) (c0_0 : Nat) (x0_0 : List UInt8) (x0_1 : Int) (x0_2 : Int) (x1 : Int) (h0_0 : Rd F a0_0 (encB x0_0)) (hc0_0 : x0_0.length ≤ c0_0) (hm0_0 : c0_0 ≤ maxLen) :
    Fn Try.prog W 99 [.pointer (some ⟨b0, 0, none⟩), .int .i64 x1] [obj b0 194 [.slice a0_0 x0_0.length c0_0, .int .i64 x0_1, .int .i64 x0_2]] F (wire_Reader_Text.f k x0_0 x0_1 x0_2 x1) (fun (r : List UInt8 × Int × Int) (y : Unit) => str r.1) (fun r y => [obj b0 194 [.slice a0_0 x0_0.length c0_0, .int .i64 r.2.1, .int .i64 r.2.2]]) := by
 unfold wire_Reader_Text.f
 refine fn_intro 9 Try.func99 rfl Try.ntmps99 rfl ?_
 refine sim_seq ?_
 refine sim_region ?_
 refine simL_val (q_asg rfl rfl) rfl rfl rfl ?_
 refine simL_nil ?_
 refine nrm_then ?_
 refine sim_seq ?_
 refine sim_region ?_
 refine simL_val (q_move rfl rfl) rfl rfl rfl ?_
 refine simL_val (q_move rfl rfl) rfl rfl rfl ?_
 refine simL_bind (fun s1v hs3v => ?_)
 refine simL_eff (re_call (vs := [.pointer (some ⟨b0, 0, none⟩), .int .i64 x1]) (cap := []) (A := [obj b0 194 [.slice a0_0 x0_0.length c0_0, .int .i64 x0_1, .int .i64 x0_2]]) (rst := [F]) rfl rfl rfl rfl rfl rfl Try.call90 (.sel 0 rfl (.sel 0 rfl (.nil _))) (wire_Reader_Bytes.calls _ _ k b0 a0_0 c0_0 x0_0 x0_1 x0_2 x1 (h0_0.lend 0 rfl) hc0_0 hm0_0) hs3v) rfl rfl rfl ?_
 intro y2v
 refine simL_val (q_tostr rfl rfl Try.underlying27 Try.underlying5 Try.underlying9 (Rds.row 0 rfl) rfl) rfl rfl rfl ?_
 refine simL_val (q_asg rfl rfl) rfl rfl rfl ?_
 refine simL_nil ?_
 refine nrm_then ?_
 refine sim_rtn ?_
 exact rtn_fn () rfl rfl rfl (.sel 1 rfl (.sel 1 rfl (.nil _)))

def wire_Reader_Left.f (x0_0 : List UInt8) (x0_1 : Int) (x0_2 : Int) : Option (Int) := some (IntKind.i64.wrap ((x0_0.length : Int) - x0_1))
theorem wire_Reader_Left.calls (W : World) (F : HA) (b0 : Nat) (a0_0 : Option Addr) (c0_0 : Nat) (x0_0 : List UInt8) (x0_1 : Int) (x0_2 : Int) (h0_0 : Rd F a0_0 (encB x0_0)) (hc0_0 : x0_0.length ≤ c0_0) (hm0_0 : c0_0 ≤ maxLen) :
    Fn Try.prog W 135 [.pointer (some ⟨b0, 0, none⟩)] [obj b0 194 [.slice a0_0 x0_0.length c0_0, .int .i64 x0_1, .int .i64 x0_2]] F (wire_Reader_Left.f x0_0 x0_1 x0_2) (fun (r : Int) (y : Unit) => .int .i64 r) (fun r y => [obj b0 194 [.slice a0_0 x0_0.length c0_0, .int .i64 x0_1, .int .i64 x0_2]]) := by
 unfold wire_Reader_Left.f
 refine fn_intro 13 Try.func135 rfl Try.ntmps135 rfl ?_
 refine sim_seq ?_
 refine sim_region ?_
 refine simL_val (q_asg rfl rfl) rfl rfl rfl ?_
 refine simL_nil ?_
 refine nrm_then ?_
 refine sim_seq ?_
 refine sim_draw (Γ := Unit) () [[], [0], [0, 1], [0, 1, 2], [0, 1, 2, 3], [], [5], [5, 6], [5, 6, 7], [0, 1, 2, 3, 4, 5, 6, 7, 8], [0, 1, 2, 3, 4, 5, 6, 7, 8, 9]] [] [0, 1, 2, 3, 4, 5, 6, 7, 8, 9, 10] (fun i => [[0], [0], [0], [0], [0], [0], [0], [0], [0], [0], [0]].getD i []) (fun i => [[], [], [], [], [], [], [], [], [], [], []].getD i []) (fun γ i => [.pointer (some ⟨b0, 0, none⟩), .pointer (some ⟨b0, 0, none⟩), .pointer (some ⟨b0, 0, none⟩), .slice a0_0 x0_0.length c0_0, .int .i64 (x0_0.length : Int), .pointer (some ⟨b0, 0, none⟩), .pointer (some ⟨b0, 0, none⟩), .pointer (some ⟨b0, 1, none⟩), .int .i64 x0_1, .int .i64 (IntKind.i64.wrap ((x0_0.length : Int) - x0_1)), .int .i64 (IntKind.i64.wrap ((x0_0.length : Int) - x0_1))].getD i undef) (fun j γ => [[obj b0 194 [.slice a0_0 x0_0.length c0_0, .int .i64 x0_1, .int .i64 x0_2], F]].getD j []) (fun γ => [(2, .int .i64 (IntKind.i64.wrap ((x0_0.length : Int) - x0_1)))]) mixed (by decide) (by decide) (by decide) (by decide) (by decide) (by decide) (by decide) 13 rfl (by decide) (by decide) (by decide) (Ent.refl _) ?_ ?_ (fun _ => ⟨rfl, trivial⟩) ?_
 exact (All.cons (fun γ => (All.cons (QOb.plain [(0, .pointer (some ⟨b0, 0, none⟩))] rfl rfl (.o rfl (by decide) .nil) (q_move rfl rfl) rfl) All.nil)) (All.cons (fun γ => (All.cons (QOb.plain [(3, .pointer (some ⟨b0, 0, none⟩))] rfl rfl (.w 0 rfl rfl rfl .nil) (q_nil rfl rfl) rfl) All.nil)) (All.cons (fun γ => (All.cons (QOb.plain [(4, .pointer (some ⟨b0, 0, none⟩))] rfl rfl (.w 1 rfl rfl rfl .nil) (q_fa rfl rfl Try.underlying194 rfl rfl Try.sizeOf27 rfl) rfl) All.nil)) (All.cons (fun γ => (All.cons (QOb.plain [(5, .pointer (some ⟨b0, 0, none⟩))] rfl rfl (.w 2 rfl rfl rfl .nil) (q_load rfl rfl Try.isAgg27 (.obj 0 rfl rfl)) rfl) All.nil)) (All.cons (fun γ => (All.cons (QOb.plain [(6, .slice a0_0 x0_0.length c0_0)] rfl rfl (.w 3 rfl rfl rfl .nil) (q_len rfl rfl rfl Try.underlying27) rfl) All.nil)) (All.cons (fun γ => (All.cons (QOb.plain [(0, .pointer (some ⟨b0, 0, none⟩))] rfl rfl (.o rfl (by decide) .nil) (q_move rfl rfl) rfl) All.nil)) (All.cons (fun γ => (All.cons (QOb.plain [(8, .pointer (some ⟨b0, 0, none⟩))] rfl rfl (.w 5 rfl rfl rfl .nil) (q_nil rfl rfl) rfl) All.nil)) (All.cons (fun γ => (All.cons (QOb.plain [(9, .pointer (some ⟨b0, 0, none⟩))] rfl rfl (.w 6 rfl rfl rfl .nil) (q_fa rfl rfl Try.underlying194 rfl rfl Try.sizeOf3 rfl) rfl) All.nil)) (All.cons (fun γ => (All.cons (QOb.plain [(10, .pointer (some ⟨b0, 1, none⟩))] rfl rfl (.w 7 rfl rfl rfl .nil) (q_load rfl rfl Try.isAgg3 (.obj 0 rfl rfl)) rfl) All.nil)) (All.cons (fun γ => (All.cons (QOb.plain [(7, .int .i64 (x0_0.length : Int)), (11, .int .i64 x0_1)] rfl rfl (.w 4 rfl rfl rfl (.w 8 rfl rfl rfl .nil)) (q_sub rfl rfl rfl) rfl) All.nil)) (All.cons (fun γ => (All.cons (QOb.plain [(12, .int .i64 (IntKind.i64.wrap ((x0_0.length : Int) - x0_1)))] rfl rfl (.w 9 rfl rfl rfl .nil) (q_asg rfl rfl) rfl) All.nil)) All.nil)))))))))))
 exact All.nil
 intro g1v
 refine nrm_then ?_
 refine sim_rtn ?_
 exact rtn_fn () rfl rfl rfl (.sel 0 rfl (.sel 0 rfl (.nil _)))
def wire_Reader_Left.v (x0_0 : List UInt8) (x0_1 : Int) (x0_2 : Int) : Int := (wire_Reader_Left.f x0_0 x0_1 x0_2).getD 0
theorem wire_Reader_Left.tot (x0_0 : List UInt8) (x0_1 : Int) (x0_2 : Int) : wire_Reader_Left.f x0_0 x0_1 x0_2 = some (wire_Reader_Left.v x0_0 x0_1 x0_2) := by
  have h : ∃ r, wire_Reader_Left.f x0_0 x0_1 x0_2 = some r := by
    unfold wire_Reader_Left.f
    repeat' (first | exact ⟨_, rfl⟩ | split | simp only [Option.bind_some])
  obtain ⟨r, h⟩ := h
  unfold wire_Reader_Left.v
  rw [h]; rfl

def wire_Reader_Done.f (x0_0 : List UInt8) (x0_1 : Int) (x0_2 : Int) : Option (Int) := (if x0_2 = (0 : Int) then ((wire_Reader_Left.f x0_0 x0_1 x0_2).bind fun s3v => (some (decide ((0 : Int) < s3v)))) else (some false)).bind fun s1v => (if s1v = true then (some 3) else (some x0_2))
theorem wire_Reader_Done.calls (W : World) (F : HA) (b0 : Nat) (a0_0 : Option Addr) (c0_0 : Nat) (x0_0 : List UInt8) (x0_1 : Int) (x0_2 : Int) (h0_0 : Rd F a0_0 (encB x0_0)) (hc0_0 : x0_0.length ≤ c0_0) (hm0_0 : c0_0 ≤ maxLen) :
    Fn Try.prog W 124 [.pointer (some ⟨b0, 0, none⟩)] [obj b0 194 [.slice a0_0 x0_0.length c0_0, .int .i64 x0_1, .int .i64 x0_2]] F (wire_Reader_Done.f x0_0 x0_1 x0_2) (fun (r : Int) (y : Unit) => .int .i64 r) (fun r y => [obj b0 194 [.slice a0_0 x0_0.length c0_0, .int .i64 x0_1, .int .i64 x0_2]]) := by
 unfold wire_Reader_Done.f
 refine fn_intro 17 Try.func124 rfl Try.ntmps124 rfl ?_
 refine sim_seq ?_
 refine sim_region ?_
 refine simL_val (q_asg rfl rfl) rfl rfl rfl ?_
 refine simL_nil ?_
 refine nrm_then ?_
 refine sim_seq ?_
 refine sim_seq ?_
 refine sim_region ?_
 refine simL_val (q_move rfl rfl) rfl rfl rfl ?_
 refine simL_val (q_nil rfl rfl) rfl rfl rfl ?_
 refine simL_val (q_fa rfl rfl Try.underlying194 rfl rfl Try.sizeOf46 rfl) rfl rfl rfl ?_
 refine simL_val (q_load rfl rfl Try.isAgg46 (.obj 0 rfl rfl)) rfl rfl rfl ?_
 refine simL_val (q_eql rfl rfl rfl) rfl rfl rfl ?_
 refine simL_val (q_move rfl rfl) rfl rfl rfl ?_
 refine simL_cut' 4 (S := Bool) (Unit) (fun s y => [(0, .pointer (some ⟨b0, 0, none⟩)), (12, .bool s)]) (fun s y => [obj b0 194 [.slice a0_0 x0_0.length c0_0, .int .i64 x0_1, .int .i64 x0_2], F]) ?_ ?_
 refine simL_casep (fun hb6v => ?_) (fun hb7v => ?_)
 rw [hb6v]
 refine simL_valg (q_move rfl rfl) rfl rfl rfl rfl rfl rfl ?_
 refine simL_bind (fun s3v hs5v => ?_)
 refine simL_effg (re_call (vs := [.pointer (some ⟨b0, 0, none⟩)]) (cap := []) (A := [obj b0 194 [.slice a0_0 x0_0.length c0_0, .int .i64 x0_1, .int .i64 x0_2]]) (rst := [F]) rfl rfl rfl rfl rfl rfl Try.call135 (.sel 0 rfl (.sel 0 rfl (.nil _))) (wire_Reader_Left.calls _ _ b0 a0_0 c0_0 x0_0 x0_1 x0_2 (h0_0.lend 0 rfl) hc0_0 hm0_0) hs5v) rfl rfl rfl rfl rfl rfl ?_
 intro y4v
 refine simL_valg (q_gtr rfl rfl rfl) rfl rfl rfl rfl rfl rfl ?_
 refine simL_val (q_pick rfl rfl rfl rfl rfl) rfl rfl rfl ?_
 refine simL_nil ?_
 exact nrm_cut (s := decide ((0 : Int) < s3v)) () ⟨rfl, rfl, trivial⟩ (.sel 0 rfl (.sel 0 rfl (.nil _)))
 rw [hb7v]
 refine simL_skipd rfl rfl rfl rfl rfl rfl ?_
 refine simL_skipd rfl rfl rfl rfl rfl rfl ?_
 refine simL_skipd rfl rfl rfl rfl rfl rfl ?_
 refine simL_val (q_pick rfl rfl rfl rfl rfl) rfl rfl rfl ?_
 refine simL_nil ?_
 exact nrm_cut (s := false) () ⟨rfl, rfl, trivial⟩ (.sel 0 rfl (.sel 0 rfl (.nil _)))
 intro s1v y2v
 refine simL_nil ?_
 refine nrm_then ?_
 refine sim_condb rfl (fun h8v => ?_) (fun h9v => ?_)
 refine sim_seq ?_
 refine sim_region ?_
 refine simL_val (q_asg rfl rfl) rfl rfl rfl ?_
 refine simL_nil ?_
 refine nrm_then ?_
 refine sim_rtn ?_
 refine rtn_then ?_
 exact rtn_fn () rfl rfl rfl (.sel 0 rfl (.sel 0 rfl (.nil _)))
 refine sim_skip ?_
 refine nrm_then ?_
 refine sim_seq ?_
 refine sim_region ?_
 refine simL_val (q_move rfl rfl) rfl rfl rfl ?_
 refine simL_val (q_nil rfl rfl) rfl rfl rfl ?_
 refine simL_val (q_fa rfl rfl Try.underlying194 rfl rfl Try.sizeOf46 rfl) rfl rfl rfl ?_
 refine simL_val (q_load rfl rfl Try.isAgg46 (.obj 0 rfl rfl)) rfl rfl rfl ?_
 refine simL_val (q_asg rfl rfl) rfl rfl rfl ?_
 refine simL_nil ?_
 refine nrm_then ?_
 refine sim_rtn ?_
 exact rtn_fn () rfl rfl rfl (.sel 0 rfl (.sel 0 rfl (.nil _)))
def wire_Reader_Done.v (x0_0 : List UInt8) (x0_1 : Int) (x0_2 : Int) : Int := (wire_Reader_Done.f x0_0 x0_1 x0_2).getD 0
theorem wire_Reader_Done.tot (x0_0 : List UInt8) (x0_1 : Int) (x0_2 : Int) : wire_Reader_Done.f x0_0 x0_1 x0_2 = some (wire_Reader_Done.v x0_0 x0_1 x0_2) := by
  have h : ∃ r, wire_Reader_Done.f x0_0 x0_1 x0_2 = some r := by
    unfold wire_Reader_Done.f
    repeat' (first | exact ⟨_, rfl⟩ | split | simp only [Option.bind_some, wire_Reader_Left.tot])
  obtain ⟨r, h⟩ := h
  unfold wire_Reader_Done.v
  rw [h]; rfl

def codec_last_Command_Commands.f (xp0_0 : List UInt8) (xp0_1 : Int) (xp0_2 : Int) (x2_0 : Int) (x2_1 : Int) (x2_2 : Int) (x2_3 : List UInt8) (x2_4 : List UInt8) (x2_5 : List UInt8) : Option (Int × Int × Int × List UInt8 × List UInt8 × List UInt8 × Int) := (wire_Reader_Done.f xp0_0 xp0_1 xp0_2).bind fun s3v => ((if s3v = (0 : Int) then ((codec_Commands_Check.f x2_0 x2_1 x2_2 x2_3 x2_4 x2_5).bind fun s10v => (some s10v)) else (some s3v)).bind fun s6v => (if s6v = (0 : Int) then (some (x2_0, x2_1, x2_2, x2_3, x2_4, x2_5, 0)) else (some (0, 0, 0, ([] : List UInt8), ([] : List UInt8), ([] : List UInt8), s6v))))
theorem codec_last_Command_Commands.calls (W : World) (F : HA) (bp0 : Nat) (ap0_0 : Option Addr) (cp0_0 : Nat) (xp0_0 : List UInt8) (xp0_1 : Int) (xp0_2 : Int) (x2_0 : Int) (x2_1 : Int) (x2_2 : Int) (x2_3 : List UInt8) (x2_4 : List UInt8) (x2_5 : List UInt8) (hp0_0 : Rd F ap0_0 (encB xp0_0)) (hcp0_0 : xp0_0.length ≤ cp0_0) (hmp0_0 : cp0_0 ≤ maxLen) :
    Fn Try.prog W 103 [.pointer (some ⟨bp0, 0, none⟩), .iface 42 (.agg #[]), .agg #[.int .i64 x2_0, .int .i64 x2_1, .int .i64 x2_2, str x2_3, str x2_4, str x2_5]] [obj bp0 194 [.slice ap0_0 xp0_0.length cp0_0, .int .i64 xp0_1, .int .i64 xp0_2]] F (codec_last_Command_Commands.f xp0_0 xp0_1 xp0_2 x2_0 x2_1 x2_2 x2_3 x2_4 x2_5) (fun (r : Int × Int × Int × List UInt8 × List UInt8 × List UInt8 × Int) (y : Unit) => .tuple #[.agg #[.int .i64 r.1, .int .i64 r.2.1, .int .i64 r.2.2.1, str r.2.2.2.1, str r.2.2.2.2.1, str r.2.2.2.2.2.1], .int .i64 r.2.2.2.2.2.2]) (fun r y => [obj bp0 194 [.slice ap0_0 xp0_0.length cp0_0, .int .i64 xp0_1, .int .i64 xp0_2]]) := by
 unfold codec_last_Command_Commands.f
 refine fn_intro 22 Try.func103 rfl Try.ntmps103 rfl ?_
 refine sim_seq ?_
 refine sim_region ?_
 refine simL_eff (re_box rfl rfl rfl) rfl rfl rfl ?_
 intro b1v
 refine simL_eff (re_alloc rfl Try.zeroValue25 rfl) rfl rfl rfl ?_
 intro b2v
 refine simL_val (q_asg rfl rfl) rfl rfl rfl ?_
 refine simL_nil ?_
 refine nrm_then ?_
 refine sim_seq ?_
 refine sim_region ?_
 refine simL_val (q_move rfl rfl) rfl rfl rfl ?_
 refine simL_bind (fun s3v hs5v => ?_)
 refine simL_eff (re_call (vs := [.pointer (some ⟨bp0, 0, none⟩)]) (cap := []) (A := [obj bp0 194 [.slice ap0_0 xp0_0.length cp0_0, .int .i64 xp0_1, .int .i64 xp0_2]]) (rst := [obj b2v 25 [.int .i64 0, .int .i64 0, .int .i64 0, str ([] : List UInt8), str ([] : List UInt8), str ([] : List UInt8)], obj b1v 25 [.int .i64 x2_0, .int .i64 x2_1, .int .i64 x2_2, str x2_3, str x2_4, str x2_5], F]) rfl rfl rfl rfl rfl rfl Try.call124 (.sel 2 rfl (.sel 0 rfl (.sel 0 rfl (.sel 0 rfl (.nil _))))) (wire_Reader_Done.calls _ _ bp0 ap0_0 cp0_0 xp0_0 xp0_1 xp0_2 (hp0_0.lend 2 rfl) hcp0_0 hmp0_0) hs5v) rfl rfl rfl ?_
 intro y4v
 refine simL_val (q_asg rfl rfl) rfl rfl rfl ?_
 refine simL_nil ?_
 refine nrm_then ?_
 refine sim_cut (S := Int) (Unit) (fun s y => [(5, .pointer (some ⟨b1v, 0, none⟩)), (6, .pointer (some ⟨b2v, 0, none⟩)), (8, .int .i64 s)]) (fun s y => [obj bp0 194 [.slice ap0_0 xp0_0.length cp0_0, .int .i64 xp0_1, .int .i64 xp0_2], obj b2v 25 [.int .i64 0, .int .i64 0, .int .i64 0, str ([] : List UInt8), str ([] : List UInt8), str ([] : List UInt8)], obj b1v 25 [.int .i64 x2_0, .int .i64 x2_1, .int .i64 x2_2, str x2_3, str x2_4, str x2_5], F]) ?_ ?_
 refine sim_seq ?_
 refine sim_region ?_
 refine simL_val (q_move rfl rfl) rfl rfl rfl ?_
 refine simL_val (q_eql rfl rfl rfl) rfl rfl rfl ?_
 refine simL_nil ?_
 refine nrm_then ?_
 refine sim_cond rfl (fun h8v => ?_) (fun h9v => ?_)
 refine sim_region ?_
 refine simL_val (q_move rfl rfl) rfl rfl rfl ?_
 refine simL_val (q_loado 2 rfl rfl Try.isAgg25 Try.sizeOf25 rfl rfl) rfl rfl rfl ?_
 refine simL_bind (fun s10v hs12v => ?_)
 refine simL_eff (re_invoke (vs := [.agg #[.int .i64 x2_0, .int .i64 x2_1, .int .i64 x2_2, str x2_3, str x2_4, str x2_5]]) (A := []) (rst := [obj bp0 194 [.slice ap0_0 xp0_0.length cp0_0, .int .i64 xp0_1, .int .i64 xp0_2], obj b2v 25 [.int .i64 0, .int .i64 0, .int .i64 0, str ([] : List UInt8), str ([] : List UInt8), str ([] : List UInt8)], obj b1v 25 [.int .i64 x2_0, .int .i64 x2_1, .int .i64 x2_2, str x2_3, str x2_4, str x2_5], F]) rfl rfl rfl rfl rfl (fun _ => by kernel_rfl) Try.call54 (.sel 0 rfl (.sel 0 rfl (.sel 0 rfl (.sel 0 rfl (.nil _))))) (codec_Commands_Check.calls _ _ x2_0 x2_1 x2_2 x2_3 x2_4 x2_5 ) hs12v) rfl rfl rfl ?_
 intro y11v
 refine simL_val (q_asg rfl rfl) rfl rfl rfl ?_
 refine simL_nil ?_
 exact nrm_cut (s := s10v) () ⟨rfl, rfl, rfl, trivial⟩ (.sel 0 rfl (.sel 0 rfl (.sel 0 rfl (.sel 0 rfl (.nil _)))))
 refine sim_skip ?_
 exact nrm_cut (s := s3v) () ⟨rfl, rfl, rfl, trivial⟩ (.sel 0 rfl (.sel 0 rfl (.sel 0 rfl (.sel 0 rfl (.nil _)))))
 intro s6v y7v
 refine sim_seq ?_
 refine sim_seq ?_
 refine sim_region ?_
 refine simL_val (q_move rfl rfl) rfl rfl rfl ?_
 refine simL_val (q_neq rfl rfl rfl) rfl rfl rfl ?_
 refine simL_nil ?_
 refine nrm_then ?_
 refine sim_condn rfl (fun h13v => ?_) (fun h14v => ?_)
 refine sim_skip ?_
 refine nrm_then ?_
 refine sim_seq ?_
 refine sim_region ?_
 refine simL_val (q_loado 2 rfl rfl Try.isAgg25 Try.sizeOf25 rfl rfl) rfl rfl rfl ?_
 refine simL_do (re_store 1 rfl rfl rfl Try.sizeOf25 rfl rfl (one_of (by rfl)) rfl rfl) rfl rfl ?_
 intro _
 refine simL_ent (H' := [obj bp0 194 [.slice ap0_0 xp0_0.length cp0_0, .int .i64 xp0_1, .int .i64 xp0_2], obj b2v 25 [.int .i64 x2_0, .int .i64 x2_1, .int .i64 x2_2, str x2_3, str x2_4, str x2_5], obj b1v 25 [.int .i64 x2_0, .int .i64 x2_1, .int .i64 x2_2, str x2_3, str x2_4, str x2_5], F]) (Ent.refl _) ?_
 refine simL_val (q_asg rfl rfl) rfl rfl rfl ?_
 refine simL_nil ?_
 refine nrm_then ?_
 refine sim_rtn ?_
 exact rtn_fnC (vs := [.agg #[.int .i64 x2_0, .int .i64 x2_1, .int .i64 x2_2, str x2_3, str x2_4, str x2_5], .int .i64 0]) () rfl ⟨⟨b2v, rfl, load_agg 1 Try.isAgg25 Try.sizeOf25 rfl rfl⟩, rfl, trivial⟩ rfl (.sel 0 rfl (.sel 2 rfl (.nil _)))
 refine sim_seq ?_
 refine sim_region ?_
 refine simL_eff (re_alloc rfl Try.zeroValue25 rfl) rfl rfl rfl ?_
 intro b15v
 refine simL_nil ?_
 refine nrm_then ?_
 refine sim_seq ?_
 refine sim_region ?_
 refine simL_val (q_loado 0 rfl rfl Try.isAgg25 Try.sizeOf25 rfl rfl) rfl rfl rfl ?_
 refine simL_val (q_move rfl rfl) rfl rfl rfl ?_
 refine simL_do (re_store 2 rfl rfl rfl Try.sizeOf25 rfl rfl (one_of (by rfl)) rfl rfl) rfl rfl ?_
 intro _
 refine simL_ent (H' := [obj b15v 25 [.int .i64 0, .int .i64 0, .int .i64 0, str ([] : List UInt8), str ([] : List UInt8), str ([] : List UInt8)], obj bp0 194 [.slice ap0_0 xp0_0.length cp0_0, .int .i64 xp0_1, .int .i64 xp0_2], obj b2v 25 [.int .i64 0, .int .i64 0, .int .i64 0, str ([] : List UInt8), str ([] : List UInt8), str ([] : List UInt8)], obj b1v 25 [.int .i64 x2_0, .int .i64 x2_1, .int .i64 x2_2, str x2_3, str x2_4, str x2_5], F]) (Ent.refl _) ?_
 refine simL_val (q_asg rfl rfl) rfl rfl rfl ?_
 refine simL_nil ?_
 refine nrm_then ?_
 refine sim_rtn ?_
 refine rtn_then ?_
 exact rtn_fnC (vs := [.agg #[.int .i64 0, .int .i64 0, .int .i64 0, str ([] : List UInt8), str ([] : List UInt8), str ([] : List UInt8)], .int .i64 s6v]) () rfl ⟨⟨b2v, rfl, load_agg 2 Try.isAgg25 Try.sizeOf25 rfl rfl⟩, rfl, trivial⟩ rfl (.sel 1 rfl (.sel 3 rfl (.nil _)))
def codec_last_Command_Commands.v (xp0_0 : List UInt8) (xp0_1 : Int) (xp0_2 : Int) (x2_0 : Int) (x2_1 : Int) (x2_2 : Int) (x2_3 : List UInt8) (x2_4 : List UInt8) (x2_5 : List UInt8) : Int × Int × Int × List UInt8 × List UInt8 × List UInt8 × Int := (codec_last_Command_Commands.f xp0_0 xp0_1 xp0_2 x2_0 x2_1 x2_2 x2_3 x2_4 x2_5).getD (0, 0, 0, [], [], [], 0)
theorem codec_last_Command_Commands.tot (xp0_0 : List UInt8) (xp0_1 : Int) (xp0_2 : Int) (x2_0 : Int) (x2_1 : Int) (x2_2 : Int) (x2_3 : List UInt8) (x2_4 : List UInt8) (x2_5 : List UInt8) : codec_last_Command_Commands.f xp0_0 xp0_1 xp0_2 x2_0 x2_1 x2_2 x2_3 x2_4 x2_5 = some (codec_last_Command_Commands.v xp0_0 xp0_1 xp0_2 x2_0 x2_1 x2_2 x2_3 x2_4 x2_5) := by
  have h : ∃ r, codec_last_Command_Commands.f xp0_0 xp0_1 xp0_2 x2_0 x2_1 x2_2 x2_3 x2_4 x2_5 = some r := by
    unfold codec_last_Command_Commands.f
    repeat' (first | exact ⟨_, rfl⟩ | split | simp only [Option.bind_some, wire_Reader_Done.tot, codec_Commands_Check.tot])
  obtain ⟨r, h⟩ := h
  unfold codec_last_Command_Commands.v
  rw [h]; rfl

def codec_Commands_Get.f (k : Nat) (x1 : List UInt8) : Option (Int × Int × Int × List UInt8 × List UInt8 × List UInt8 × Int) := (wire_NewReader.f x1).bind fun s3v => ((wire_Reader_Int.f k s3v.1 s3v.2.1 s3v.2.2).bind fun s10v => ((wire_Reader_Int.f k s3v.1 s10v.2.1 s10v.2.2).bind fun s17v => ((wire_Reader_Int.f k s3v.1 s17v.2.1 s17v.2.2).bind fun s24v => ((wire_Reader_Text.f k s3v.1 s24v.2.1 s24v.2.2 (64 : Int)).bind fun s31v => ((wire_Reader_Text.f k s3v.1 s31v.2.1 s31v.2.2 (1024 : Int)).bind fun s38v => ((wire_Reader_Text.f k s3v.1 s38v.2.1 s38v.2.2 (1024 : Int)).bind fun s45v => ((codec_last_Command_Commands.f s3v.1 s45v.2.1 s45v.2.2 s10v.1 s17v.1 s24v.1 s31v.1 s38v.1 s45v.1).bind fun s53v => (some (s53v.1, s53v.2.1, s53v.2.2.1, s53v.2.2.2.1, s53v.2.2.2.2.1, s53v.2.2.2.2.2.1, s53v.2.2.2.2.2.2)))))))))
theorem codec_Commands_Get.calls (W : World) (F : HA) (k : Nat) (a1 : Option Addr) (c1 : Nat) (x1 : List UInt8) (h1 : Rd F a1 (encB x1)) (hc1 : x1.length ≤ c1) (hm1 : c1 ≤ maxLen) :
    Fn Try.prog W 55 [.agg #[], .slice a1 x1.length c1] [] F (codec_Commands_Get.f k x1) (fun (r : Int × Int × Int × List UInt8 × List UInt8 × List UInt8 × Int) (y : Unit) => .tuple #[.agg #[.int .i64 r.1, .int .i64 r.2.1, .int .i64 r.2.2.1, str r.2.2.2.1, str r.2.2.2.2.1, str r.2.2.2.2.2.1], .int .i64 r.2.2.2.2.2.2]) (fun r y => []) := by
 unfold codec_Commands_Get.f
 refine fn_intro 30 Try.func55 rfl Try.ntmps55 rfl ?_
 refine sim_seq ?_
 refine sim_region ?_
 refine simL_eff (re_box rfl rfl rfl) rfl rfl rfl ?_
 intro b1v
 refine simL_eff (re_alloc rfl Try.zeroValue25 rfl) rfl rfl rfl ?_
 intro b2v
 refine simL_val (q_asg rfl rfl) rfl rfl rfl ?_
 refine simL_nil ?_
 refine nrm_then ?_
 refine sim_seq ?_
 refine sim_region ?_
 refine simL_val (q_move rfl rfl) rfl rfl rfl ?_
 refine simL_bind (fun s3v hs5v => ?_)
 refine simL_eff (re_call (vs := [.slice a1 x1.length c1]) (cap := []) (A := []) (rst := [obj b2v 25 [.int .i64 0, .int .i64 0, .int .i64 0, str ([] : List UInt8), str ([] : List UInt8), str ([] : List UInt8)], obj b1v 42 [], F]) rfl rfl rfl rfl rfl rfl Try.call82 (.sel 0 rfl (.sel 0 rfl (.sel 0 rfl (.nil _)))) (wire_NewReader.calls _ _ a1 c1 x1 (h1.lend 2 rfl) hc1 hm1) hs5v) rfl rfl rfl ?_
 intro y4v
 refine simL_val (q_asg rfl rfl) rfl rfl rfl ?_
 refine simL_nil ?_
 refine nrm_then ?_
 refine sim_seq ?_
 refine sim_region ?_
 refine simL_val (q_move rfl rfl) rfl rfl rfl ?_
 refine simL_bind (fun s10v hs12v => ?_)
 refine simL_lend 1 rfl (fun hq6v hq7v hq8v hq9v => ?_)
 refine simL_eff (re_call (vs := [.pointer (some ⟨y4v.1, 0, none⟩)]) (cap := []) (A := [obj y4v.1 194 [.slice y4v.2.1 s3v.1.length y4v.2.2, .int .i64 s3v.2.1, .int .i64 s3v.2.2]]) (rst := [Row 5 1 y4v.2.1 s3v.1.length y4v.2.2 (encB s3v.1), obj b2v 25 [.int .i64 0, .int .i64 0, .int .i64 0, str ([] : List UInt8), str ([] : List UInt8), str ([] : List UInt8)], obj b1v 42 [], F]) rfl rfl rfl rfl rfl rfl Try.call83 (.sel 0 rfl (.sel 0 rfl (.sel 0 rfl (.sel 0 rfl (.sel 0 rfl (.nil _)))))) (wire_Reader_Int.calls _ _ k y4v.1 y4v.2.1 y4v.2.2 s3v.1 s3v.2.1 s3v.2.2 (hq6v.lend 0 rfl) hq7v hq8v) hs12v) rfl rfl rfl ?_
 intro y11v
 refine simL_val (q_move rfl rfl) rfl rfl rfl ?_
 refine simL_bind (fun s17v hs19v => ?_)
 refine simL_lend 1 rfl (fun hq13v hq14v hq15v hq16v => ?_)
 refine simL_eff (re_call (vs := [.pointer (some ⟨y4v.1, 0, none⟩)]) (cap := []) (A := [obj y4v.1 194 [.slice y4v.2.1 s3v.1.length y4v.2.2, .int .i64 s10v.2.1, .int .i64 s10v.2.2]]) (rst := [Row 5 1 y4v.2.1 s3v.1.length y4v.2.2 (encB s3v.1), obj b2v 25 [.int .i64 0, .int .i64 0, .int .i64 0, str ([] : List UInt8), str ([] : List UInt8), str ([] : List UInt8)], obj b1v 42 [], F]) rfl rfl rfl rfl rfl rfl Try.call83 (.sel 0 rfl (.sel 0 rfl (.sel 0 rfl (.sel 0 rfl (.sel 0 rfl (.nil _)))))) (wire_Reader_Int.calls _ _ k y4v.1 y4v.2.1 y4v.2.2 s3v.1 s10v.2.1 s10v.2.2 (hq13v.lend 0 rfl) hq14v hq15v) hs19v) rfl rfl rfl ?_
 intro y18v
 refine simL_val (q_move rfl rfl) rfl rfl rfl ?_
 refine simL_bind (fun s24v hs26v => ?_)
 refine simL_lend 1 rfl (fun hq20v hq21v hq22v hq23v => ?_)
 refine simL_eff (re_call (vs := [.pointer (some ⟨y4v.1, 0, none⟩)]) (cap := []) (A := [obj y4v.1 194 [.slice y4v.2.1 s3v.1.length y4v.2.2, .int .i64 s17v.2.1, .int .i64 s17v.2.2]]) (rst := [Row 5 1 y4v.2.1 s3v.1.length y4v.2.2 (encB s3v.1), obj b2v 25 [.int .i64 0, .int .i64 0, .int .i64 0, str ([] : List UInt8), str ([] : List UInt8), str ([] : List UInt8)], obj b1v 42 [], F]) rfl rfl rfl rfl rfl rfl Try.call83 (.sel 0 rfl (.sel 0 rfl (.sel 0 rfl (.sel 0 rfl (.sel 0 rfl (.nil _)))))) (wire_Reader_Int.calls _ _ k y4v.1 y4v.2.1 y4v.2.2 s3v.1 s17v.2.1 s17v.2.2 (hq20v.lend 0 rfl) hq21v hq22v) hs26v) rfl rfl rfl ?_
 intro y25v
 refine simL_val (q_move rfl rfl) rfl rfl rfl ?_
 refine simL_bind (fun s31v hs33v => ?_)
 refine simL_lend 1 rfl (fun hq27v hq28v hq29v hq30v => ?_)
 refine simL_eff (re_call (vs := [.pointer (some ⟨y4v.1, 0, none⟩), .int .i64 64]) (cap := []) (A := [obj y4v.1 194 [.slice y4v.2.1 s3v.1.length y4v.2.2, .int .i64 s24v.2.1, .int .i64 s24v.2.2]]) (rst := [Row 5 1 y4v.2.1 s3v.1.length y4v.2.2 (encB s3v.1), obj b2v 25 [.int .i64 0, .int .i64 0, .int .i64 0, str ([] : List UInt8), str ([] : List UInt8), str ([] : List UInt8)], obj b1v 42 [], F]) rfl rfl rfl rfl rfl rfl Try.call99 (.sel 0 rfl (.sel 0 rfl (.sel 0 rfl (.sel 0 rfl (.sel 0 rfl (.nil _)))))) (wire_Reader_Text.calls _ _ k y4v.1 y4v.2.1 y4v.2.2 s3v.1 s24v.2.1 s24v.2.2 (64 : Int) (hq27v.lend 0 rfl) hq28v hq29v) hs33v) rfl rfl rfl ?_
 intro y32v
 refine simL_val (q_move rfl rfl) rfl rfl rfl ?_
 refine simL_bind (fun s38v hs40v => ?_)
 refine simL_lend 1 rfl (fun hq34v hq35v hq36v hq37v => ?_)
 refine simL_eff (re_call (vs := [.pointer (some ⟨y4v.1, 0, none⟩), .int .i64 1024]) (cap := []) (A := [obj y4v.1 194 [.slice y4v.2.1 s3v.1.length y4v.2.2, .int .i64 s31v.2.1, .int .i64 s31v.2.2]]) (rst := [Row 5 1 y4v.2.1 s3v.1.length y4v.2.2 (encB s3v.1), obj b2v 25 [.int .i64 0, .int .i64 0, .int .i64 0, str ([] : List UInt8), str ([] : List UInt8), str ([] : List UInt8)], obj b1v 42 [], F]) rfl rfl rfl rfl rfl rfl Try.call99 (.sel 0 rfl (.sel 0 rfl (.sel 0 rfl (.sel 0 rfl (.sel 0 rfl (.nil _)))))) (wire_Reader_Text.calls _ _ k y4v.1 y4v.2.1 y4v.2.2 s3v.1 s31v.2.1 s31v.2.2 (1024 : Int) (hq34v.lend 0 rfl) hq35v hq36v) hs40v) rfl rfl rfl ?_
 intro y39v
 refine simL_val (q_move rfl rfl) rfl rfl rfl ?_
 refine simL_bind (fun s45v hs47v => ?_)
 refine simL_lend 1 rfl (fun hq41v hq42v hq43v hq44v => ?_)
 refine simL_eff (re_call (vs := [.pointer (some ⟨y4v.1, 0, none⟩), .int .i64 1024]) (cap := []) (A := [obj y4v.1 194 [.slice y4v.2.1 s3v.1.length y4v.2.2, .int .i64 s38v.2.1, .int .i64 s38v.2.2]]) (rst := [Row 5 1 y4v.2.1 s3v.1.length y4v.2.2 (encB s3v.1), obj b2v 25 [.int .i64 0, .int .i64 0, .int .i64 0, str ([] : List UInt8), str ([] : List UInt8), str ([] : List UInt8)], obj b1v 42 [], F]) rfl rfl rfl rfl rfl rfl Try.call99 (.sel 0 rfl (.sel 0 rfl (.sel 0 rfl (.sel 0 rfl (.sel 0 rfl (.nil _)))))) (wire_Reader_Text.calls _ _ k y4v.1 y4v.2.1 y4v.2.2 s3v.1 s38v.2.1 s38v.2.2 (1024 : Int) (hq41v.lend 0 rfl) hq42v hq43v) hs47v) rfl rfl rfl ?_
 intro y46v
 refine simL_val (q_build (v := .agg #[.int .i64 s10v.1, .int .i64 s17v.1, .int .i64 s24v.1, str s31v.1, str s38v.1, str s45v.1]) rfl rfl (fun _ => by kernel_rfl)) rfl rfl rfl ?_
 refine simL_eff (re_alloc rfl Try.zeroValue25 rfl) rfl rfl rfl ?_
 intro b48v
 refine simL_do (re_store 0 rfl rfl rfl Try.sizeOf25 rfl rfl (one_of (by rfl)) rfl rfl) rfl rfl ?_
 intro _
 refine simL_ent (H' := [obj b48v 25 [.int .i64 s10v.1, .int .i64 s17v.1, .int .i64 s24v.1, str s31v.1, str s38v.1, str s45v.1], obj y4v.1 194 [.slice y4v.2.1 s3v.1.length y4v.2.2, .int .i64 s45v.2.1, .int .i64 s45v.2.2], Row 5 1 y4v.2.1 s3v.1.length y4v.2.2 (encB s3v.1), obj b2v 25 [.int .i64 0, .int .i64 0, .int .i64 0, str ([] : List UInt8), str ([] : List UInt8), str ([] : List UInt8)], obj b1v 42 [], F]) (Ent.refl _) ?_
 refine simL_nil ?_
 refine nrm_then ?_
 refine sim_seq ?_
 refine sim_region ?_
 refine simL_val (q_move rfl rfl) rfl rfl rfl ?_
 refine simL_val (q_loado 4 rfl rfl Try.isAgg42 Try.sizeOf42 rfl rfl) rfl rfl rfl ?_
 refine simL_val (q_mkif rfl rfl Try.underlying42 rfl) rfl rfl rfl ?_
 refine simL_val (q_loado 0 rfl rfl Try.isAgg25 Try.sizeOf25 rfl rfl) rfl rfl rfl ?_
 refine simL_bind (fun s53v hs55v => ?_)
 refine simL_lend 2 rfl (fun hq49v hq50v hq51v hq52v => ?_)
 refine simL_eff (re_call (vs := [.pointer (some ⟨y4v.1, 0, none⟩), .iface 42 (.agg #[]), .agg #[.int .i64 s10v.1, .int .i64 s17v.1, .int .i64 s24v.1, str s31v.1, str s38v.1, str s45v.1]]) (cap := []) (A := [obj y4v.1 194 [.slice y4v.2.1 s3v.1.length y4v.2.2, .int .i64 s45v.2.1, .int .i64 s45v.2.2]]) (rst := [obj b48v 25 [.int .i64 s10v.1, .int .i64 s17v.1, .int .i64 s24v.1, str s31v.1, str s38v.1, str s45v.1], Row 5 1 y4v.2.1 s3v.1.length y4v.2.2 (encB s3v.1), obj b2v 25 [.int .i64 0, .int .i64 0, .int .i64 0, str ([] : List UInt8), str ([] : List UInt8), str ([] : List UInt8)], obj b1v 42 [], F]) rfl rfl rfl rfl rfl rfl Try.call103 (.sel 1 rfl (.sel 0 rfl (.sel 0 rfl (.sel 0 rfl (.sel 0 rfl (.sel 0 rfl (.nil _))))))) (codec_last_Command_Commands.calls _ _ y4v.1 y4v.2.1 y4v.2.2 s3v.1 s45v.2.1 s45v.2.2 s10v.1 s17v.1 s24v.1 s31v.1 s38v.1 s45v.1 (hq49v.lend 1 rfl) hq50v hq51v) hs55v) rfl rfl rfl ?_
 intro y54v
 refine simL_val (q_ext rfl rfl rfl) rfl rfl rfl ?_
 refine simL_val (q_ext rfl rfl rfl) rfl rfl rfl ?_
 refine simL_do (re_store 3 rfl rfl rfl Try.sizeOf25 rfl rfl (one_of (by rfl)) rfl rfl) rfl rfl ?_
 intro _
 refine simL_ent (H' := [obj y4v.1 194 [.slice y4v.2.1 s3v.1.length y4v.2.2, .int .i64 s45v.2.1, .int .i64 s45v.2.2], obj b48v 25 [.int .i64 s10v.1, .int .i64 s17v.1, .int .i64 s24v.1, str s31v.1, str s38v.1, str s45v.1], Row 5 1 y4v.2.1 s3v.1.length y4v.2.2 (encB s3v.1), obj b2v 25 [.int .i64 s53v.1, .int .i64 s53v.2.1, .int .i64 s53v.2.2.1, str s53v.2.2.2.1, str s53v.2.2.2.2.1, str s53v.2.2.2.2.2.1], obj b1v 42 [], F]) (Ent.refl _) ?_
 refine simL_val (q_asg rfl rfl) rfl rfl rfl ?_
 refine simL_nil ?_
 refine nrm_then ?_
 refine sim_rtn ?_
 exact rtn_fnC (vs := [.agg #[.int .i64 s53v.1, .int .i64 s53v.2.1, .int .i64 s53v.2.2.1, str s53v.2.2.2.1, str s53v.2.2.2.2.1, str s53v.2.2.2.2.2.1], .int .i64 s53v.2.2.2.2.2.2]) () rfl ⟨⟨b2v, rfl, load_agg 3 Try.isAgg25 Try.sizeOf25 rfl rfl⟩, rfl, trivial⟩ rfl (.sel 5 rfl (.nil _))

def synodref1_Int.l1 (x0 : List UInt8) (x1 : Int) : Nat → Int → Int → Option (Int)
  | 0, _, _ => none
  | k + 1, z42v, z43v => if (0 : Int) ≤ z43v then (if 0 ≤ IntKind.i64.wrap (x1 + z43v) ∧ IntKind.i64.wrap (x1 + z43v) < (x0.length : Int) then (synodref1_Int.l1 x0 x1 k (IntKind.i64.wrap ((IntKind.i64.wrap (z42v * 128)) + (Int.tmod (IntKind.i64.wrap ((x0.getD (IntKind.i64.wrap (x1 + z43v)).toNat 0).toNat : Int)) 128))) (IntKind.i64.wrap (z43v - 1))) else none) else (some z42v)
def synodref1_Int.l0 (x0 : List UInt8) (x1 : Int) : Nat → Int → Option (Int)
  | 0, _ => none
  | k + 1, z7v => (if ((decide (z7v < (9 : Int))) && (decide (IntKind.i64.wrap (x1 + z7v) < (x0.length : Int)))) = true then (if 0 ≤ IntKind.i64.wrap (x1 + z7v) ∧ IntKind.i64.wrap (x1 + z7v) < (x0.length : Int) then (some (decide ((128 : Int) ≤ ((x0.getD (IntKind.i64.wrap (x1 + z7v)).toNat 0).toNat : Int)))) else none) else (some false)).bind fun s8v => (if s8v = true then (synodref1_Int.l0 x0 x1 k (IntKind.i64.wrap (z7v + 1))) else (some z7v))
def synodref1_Int.f (k : Nat) (x0 : List UInt8) (x1 : Int) : Option (Int × Int × Int) := if ((decide (x1 < (0 : Int))) || (decide ((x0.length : Int) ≤ x1))) = true then (some (0, 0, 2)) else ((synodref1_Int.l0 x0 x1 k 0).bind fun s3v => (if s3v = (9 : Int) then (some (0, 0, 4)) else (if (x0.length : Int) ≤ IntKind.i64.wrap (x1 + s3v) then (some (0, 0, 2)) else ((if (0 : Int) < s3v then (if 0 ≤ IntKind.i64.wrap (x1 + s3v) ∧ IntKind.i64.wrap (x1 + s3v) < (x0.length : Int) then (some (decide (((x0.getD (IntKind.i64.wrap (x1 + s3v)).toNat 0).toNat : Int) = (0 : Int)))) else none) else (some false)).bind fun s28v => (if s28v = true then (some (0, 0, 4)) else ((synodref1_Int.l1 x0 x1 k 0 s3v).bind fun s38v => (if (4611686018427387904 : Int) < s38v then (some (0, 0, 1)) else (some (s38v, IntKind.i64.wrap (s3v + 1), 0)))))))))
theorem synodref1_Int.calls (W : World) (F : HA) (k : Nat) (a0 : Option Addr) (c0 : Nat) (x0 : List UInt8) (x1 : Int) (h0 : Rd F a0 (encB x0)) (hc0 : x0.length ≤ c0) (hm0 : c0 ≤ maxLen) :
    Fn Try.prog W 130 [.slice a0 x0.length c0, .int .i64 x1] [] F (synodref1_Int.f k x0 x1) (fun (r : Int × Int × Int) (y : Unit) => .tuple #[.int .i64 r.1, .int .i64 r.2.1, .int .i64 r.2.2]) (fun r y => []) := by
 unfold synodref1_Int.f
 refine fn_intro 79 Try.func130 rfl Try.ntmps130 rfl ?_
 refine sim_seq ?_
 refine sim_region ?_
 refine simL_val (q_asg rfl rfl) rfl rfl rfl ?_
 refine simL_val (q_asg rfl rfl) rfl rfl rfl ?_
 refine simL_val (q_asg rfl rfl) rfl rfl rfl ?_
 refine simL_nil ?_
 refine nrm_then ?_
 refine sim_seq ?_
 refine sim_seq ?_
 refine sim_region ?_
 refine simL_val (q_move rfl rfl) rfl rfl rfl ?_
 refine simL_val (q_lss rfl rfl rfl) rfl rfl rfl ?_
 refine simL_val (q_move rfl rfl) rfl rfl rfl ?_
 refine simL_valc (b := decide (x1 < (0 : Int))) (fun hb56v => RQ.sub (E' := [(1, .int .i64 x1)]) ⟨rfl, trivial⟩ (q_move rfl rfl)) rfl rfl rfl rfl rfl ?_
 refine simL_valc (b := decide (x1 < (0 : Int))) (fun hb55v => RQ.sub (E' := [(0, .slice a0 x0.length c0)]) ⟨rfl, trivial⟩ (q_move rfl rfl)) rfl rfl rfl rfl rfl ?_
 refine simL_valc (b := decide (x1 < (0 : Int))) (fun hb54v => RQ.sub (E' := [(14, .slice a0 x0.length c0)]) ⟨lk_cv rfl hb54v, trivial⟩ (q_len rfl rfl rfl Try.underlying27)) rfl rfl rfl rfl rfl ?_
 refine simL_valc (b := decide (x1 < (0 : Int))) (fun hb53v => RQ.sub (E' := [(13, .int .i64 x1), (15, .int .i64 (x0.length : Int))]) ⟨lk_cv rfl hb53v, lk_cv rfl hb53v, trivial⟩ (q_geq rfl rfl rfl)) rfl rfl rfl rfl rfl ?_
 refine simL_val (q_or rfl rfl rfl) rfl rfl rfl ?_
 refine simL_nil ?_
 refine nrm_then ?_
 refine sim_condb rfl (fun h1v => ?_) (fun h2v => ?_)
 refine sim_seq ?_
 refine sim_region ?_
 refine simL_val (q_asg rfl rfl) rfl rfl rfl ?_
 refine simL_val (q_asg rfl rfl) rfl rfl rfl ?_
 refine simL_val (q_asg rfl rfl) rfl rfl rfl ?_
 refine simL_nil ?_
 refine nrm_then ?_
 refine sim_rtn ?_
 refine rtn_then ?_
 exact rtn_fn () rfl rfl rfl (.sel 0 rfl (.nil _))
 refine sim_skip ?_
 refine nrm_then ?_
 refine sim_seq ?_
 refine sim_region ?_
 refine simL_val (q_asg rfl rfl) rfl rfl rfl ?_
 refine simL_nil ?_
 refine nrm_then ?_
 refine sim_cut (S := Int) (Unit) (fun s y => [(0, .slice a0 x0.length c0), (1, .int .i64 x1), (7, .int .i64 s)]) (fun s y => [F]) ?_ ?_
 refine sim_block ?_
 refine sim_loop (S := Int) (Unit) (fun k s => synodref1_Int.l0 x0 x1 k s) (fun s y => [(0, .slice a0 x0.length c0), (1, .int .i64 x1), (7, .int .i64 s)]) (fun s y => [F]) (fun _ => by rw [synodref1_Int.l0]) ?_ k 0 () ⟨rfl, rfl, rfl, trivial⟩ (.sel 0 rfl (.nil _))
 intro k s5v y6v
 refine sim_eq (by rw [synodref1_Int.l0]) ?_
 refine sim_seq ?_
 refine sim_seq ?_
 refine sim_region ?_
 refine simL_val (q_move rfl rfl) rfl rfl rfl ?_
 refine simL_val (q_lss rfl rfl rfl) rfl rfl rfl ?_
 refine simL_val (q_move rfl rfl) rfl rfl rfl ?_
 refine simL_valc (b := decide (s5v < (9 : Int))) (fun hb23v => RQ.sub (E' := [(1, .int .i64 x1)]) ⟨rfl, trivial⟩ (q_move rfl rfl)) rfl rfl rfl rfl rfl ?_
 refine simL_valc (b := decide (s5v < (9 : Int))) (fun hb22v => RQ.sub (E' := [(7, .int .i64 s5v)]) ⟨rfl, trivial⟩ (q_move rfl rfl)) rfl rfl rfl rfl rfl ?_
 refine simL_valc (b := decide (s5v < (9 : Int))) (fun hb21v => RQ.sub (E' := [(21, .int .i64 x1), (22, .int .i64 s5v)]) ⟨lk_cv rfl hb21v, lk_cv rfl hb21v, trivial⟩ (q_add rfl rfl rfl)) rfl rfl rfl rfl rfl ?_
 refine simL_valc (b := decide (s5v < (9 : Int))) (fun hb20v => RQ.sub (E' := [(0, .slice a0 x0.length c0)]) ⟨rfl, trivial⟩ (q_move rfl rfl)) rfl rfl rfl rfl rfl ?_
 refine simL_valc (b := decide (s5v < (9 : Int))) (fun hb19v => RQ.sub (E' := [(24, .slice a0 x0.length c0)]) ⟨lk_cv rfl hb19v, trivial⟩ (q_len rfl rfl rfl Try.underlying27)) rfl rfl rfl rfl rfl ?_
 refine simL_valc (b := decide (s5v < (9 : Int))) (fun hb18v => RQ.sub (E' := [(23, .int .i64 (IntKind.i64.wrap (x1 + s5v))), (25, .int .i64 (x0.length : Int))]) ⟨lk_cv rfl hb18v, lk_cv rfl hb18v, trivial⟩ (q_lss rfl rfl rfl)) rfl rfl rfl rfl rfl ?_
 refine simL_val (q_and rfl rfl rfl) rfl rfl rfl ?_
 refine simL_val (q_move rfl rfl) rfl rfl rfl ?_
 refine simL_cut' 8 (S := Bool) (Unit) (fun s y => [(0, .slice a0 x0.length c0), (1, .int .i64 x1), (7, .int .i64 s5v), (36, .bool s)]) (fun s y => [F]) ?_ ?_
 refine simL_caseb (fun hb14v => ?_) (fun hb15v => ?_)
 rw [hb14v]
 refine simL_valg (q_move rfl rfl) rfl rfl rfl rfl rfl rfl ?_
 refine simL_valg (q_move rfl rfl) rfl rfl rfl rfl rfl rfl ?_
 refine simL_valg (q_move rfl rfl) rfl rfl rfl rfl rfl rfl ?_
 refine simL_valg (q_add rfl rfl rfl) rfl rfl rfl rfl rfl rfl ?_
 refine simL_ask (fun hi10v => ?_)
 obtain ⟨b11v, b11vo, ha12v⟩ := h0.pos (encB_ne (j := (IntKind.i64.wrap (x1 + s5v)).toNat) (by omega))
 refine simL_valg (q_idx1 rfl rfl rfl ha12v Try.underlying27 Try.sizeOf5 hi10v.1 hi10v.2) rfl rfl rfl rfl rfl rfl ?_
 refine simL_valg (q_load rfl rfl Try.isAgg5 (h0.cell 0 rfl ha12v (encB_get (by omega)))) rfl rfl rfl rfl rfl rfl ?_
 refine simL_valg (q_geq rfl rfl rfl) rfl rfl rfl rfl rfl rfl ?_
 refine simL_val (q_pick rfl rfl rfl rfl rfl) rfl rfl rfl ?_
 refine simL_nil ?_
 exact nrm_cut (s := decide ((128 : Int) ≤ ((x0.getD (IntKind.i64.wrap (x1 + s5v)).toNat 0).toNat : Int))) () ⟨rfl, rfl, rfl, rfl, trivial⟩ (.sel 0 rfl (.nil _))
 rw [hb15v]
 refine simL_skipd rfl rfl rfl rfl rfl rfl ?_
 refine simL_skipd rfl rfl rfl rfl rfl rfl ?_
 refine simL_skipd rfl rfl rfl rfl rfl rfl ?_
 refine simL_skipd rfl rfl rfl rfl rfl rfl ?_
 refine simL_skipd rfl rfl rfl rfl rfl rfl ?_
 refine simL_skipd rfl rfl rfl rfl rfl rfl ?_
 refine simL_skipd rfl rfl rfl rfl rfl rfl ?_
 refine simL_val (q_pick rfl rfl rfl rfl rfl) rfl rfl rfl ?_
 refine simL_nil ?_
 exact nrm_cut (s := false) () ⟨rfl, rfl, rfl, rfl, trivial⟩ (.sel 0 rfl (.nil _))
 intro s8v y9v
 refine simL_nil ?_
 refine nrm_then ?_
 refine sim_condb rfl (fun h16v => ?_) (fun h17v => ?_)
 refine sim_skip ?_
 refine nrm_then ?_
 refine sim_block ?_
 refine sim_region ?_
 refine simL_val (q_move rfl rfl) rfl rfl rfl ?_
 refine simL_val (q_add rfl rfl rfl) rfl rfl rfl ?_
 refine simL_val (q_asg rfl rfl) rfl rfl rfl ?_
 refine simL_nil ?_
 refine nrm_block ?_
 exact nrm_again (s := IntKind.i64.wrap (s5v + 1)) () ⟨rfl, rfl, rfl, trivial⟩ (.sel 0 rfl (.nil _))
 refine sim_exi ?_
 refine exi_then ?_
 refine exi_loop ?_
 refine exi_here ?_
 exact nrm_cut (s := s5v) () ⟨rfl, rfl, rfl, trivial⟩ (.sel 0 rfl (.nil _))
 intro s3v y4v
 refine sim_seq ?_
 refine sim_seq ?_
 refine sim_region ?_
 refine simL_val (q_move rfl rfl) rfl rfl rfl ?_
 refine simL_val (q_eql rfl rfl rfl) rfl rfl rfl ?_
 refine simL_nil ?_
 refine nrm_then ?_
 refine sim_cond rfl (fun h24v => ?_) (fun h25v => ?_)
 refine sim_seq ?_
 refine sim_region ?_
 refine simL_val (q_asg rfl rfl) rfl rfl rfl ?_
 refine simL_val (q_asg rfl rfl) rfl rfl rfl ?_
 refine simL_val (q_asg rfl rfl) rfl rfl rfl ?_
 refine simL_nil ?_
 refine nrm_then ?_
 refine sim_rtn ?_
 refine rtn_then ?_
 exact rtn_fn () rfl rfl rfl (.sel 0 rfl (.nil _))
 refine sim_skip ?_
 refine nrm_then ?_
 refine sim_seq ?_
 refine sim_seq ?_
 refine sim_region ?_
 refine simL_val (q_move rfl rfl) rfl rfl rfl ?_
 refine simL_val (q_move rfl rfl) rfl rfl rfl ?_
 refine simL_val (q_add rfl rfl rfl) rfl rfl rfl ?_
 refine simL_val (q_move rfl rfl) rfl rfl rfl ?_
 refine simL_val (q_len rfl rfl rfl Try.underlying27) rfl rfl rfl ?_
 refine simL_val (q_geq rfl rfl rfl) rfl rfl rfl ?_
 refine simL_nil ?_
 refine nrm_then ?_
 refine sim_cond rfl (fun h26v => ?_) (fun h27v => ?_)
 refine sim_seq ?_
 refine sim_region ?_
 refine simL_val (q_asg rfl rfl) rfl rfl rfl ?_
 refine simL_val (q_asg rfl rfl) rfl rfl rfl ?_
 refine simL_val (q_asg rfl rfl) rfl rfl rfl ?_
 refine simL_nil ?_
 refine nrm_then ?_
 refine sim_rtn ?_
 refine rtn_then ?_
 exact rtn_fn () rfl rfl rfl (.sel 0 rfl (.nil _))
 refine sim_skip ?_
 refine nrm_then ?_
 refine sim_seq ?_
 refine sim_seq ?_
 refine sim_region ?_
 refine simL_val (q_move rfl rfl) rfl rfl rfl ?_
 refine simL_val (q_gtr rfl rfl rfl) rfl rfl rfl ?_
 refine simL_val (q_move rfl rfl) rfl rfl rfl ?_
 refine simL_cut' 8 (S := Bool) (Unit) (fun s y => [(0, .slice a0 x0.length c0), (1, .int .i64 x1), (7, .int .i64 s3v), (57, .bool s)]) (fun s y => [F]) ?_ ?_
 refine simL_casep (fun hb34v => ?_) (fun hb35v => ?_)
 rw [hb34v]
 refine simL_valg (q_move rfl rfl) rfl rfl rfl rfl rfl rfl ?_
 refine simL_valg (q_move rfl rfl) rfl rfl rfl rfl rfl rfl ?_
 refine simL_valg (q_move rfl rfl) rfl rfl rfl rfl rfl rfl ?_
 refine simL_valg (q_add rfl rfl rfl) rfl rfl rfl rfl rfl rfl ?_
 refine simL_ask (fun hi30v => ?_)
 obtain ⟨b31v, b31vo, ha32v⟩ := h0.pos (encB_ne (j := (IntKind.i64.wrap (x1 + s3v)).toNat) (by omega))
 refine simL_valg (q_idx1 rfl rfl rfl ha32v Try.underlying27 Try.sizeOf5 hi30v.1 hi30v.2) rfl rfl rfl rfl rfl rfl ?_
 refine simL_valg (q_load rfl rfl Try.isAgg5 (h0.cell 0 rfl ha32v (encB_get (by omega)))) rfl rfl rfl rfl rfl rfl ?_
 refine simL_valg (q_eql rfl rfl rfl) rfl rfl rfl rfl rfl rfl ?_
 refine simL_val (q_pick rfl rfl rfl rfl rfl) rfl rfl rfl ?_
 refine simL_nil ?_
 exact nrm_cut (s := decide (((x0.getD (IntKind.i64.wrap (x1 + s3v)).toNat 0).toNat : Int) = (0 : Int))) () ⟨rfl, rfl, rfl, rfl, trivial⟩ (.sel 0 rfl (.nil _))
 rw [hb35v]
 refine simL_skipd rfl rfl rfl rfl rfl rfl ?_
 refine simL_skipd rfl rfl rfl rfl rfl rfl ?_
 refine simL_skipd rfl rfl rfl rfl rfl rfl ?_
 refine simL_skipd rfl rfl rfl rfl rfl rfl ?_
 refine simL_skipd rfl rfl rfl rfl rfl rfl ?_
 refine simL_skipd rfl rfl rfl rfl rfl rfl ?_
 refine simL_skipd rfl rfl rfl rfl rfl rfl ?_
 refine simL_val (q_pick rfl rfl rfl rfl rfl) rfl rfl rfl ?_
 refine simL_nil ?_
 exact nrm_cut (s := false) () ⟨rfl, rfl, rfl, rfl, trivial⟩ (.sel 0 rfl (.nil _))
 intro s28v y29v
 refine simL_nil ?_
 refine nrm_then ?_
 refine sim_condb rfl (fun h36v => ?_) (fun h37v => ?_)
 refine sim_seq ?_
 refine sim_region ?_
 refine simL_val (q_asg rfl rfl) rfl rfl rfl ?_
 refine simL_val (q_asg rfl rfl) rfl rfl rfl ?_
 refine simL_val (q_asg rfl rfl) rfl rfl rfl ?_
 refine simL_nil ?_
 refine nrm_then ?_
 refine sim_rtn ?_
 refine rtn_then ?_
 exact rtn_fn () rfl rfl rfl (.sel 0 rfl (.nil _))
 refine sim_skip ?_
 refine nrm_then ?_
 refine sim_seq ?_
 refine sim_region ?_
 refine simL_val (q_asg rfl rfl) rfl rfl rfl ?_
 refine simL_nil ?_
 refine nrm_then ?_
 refine sim_cut (S := Int) (Unit) (fun s y => [(7, .int .i64 s3v), (8, .int .i64 s)]) (fun s y => [F]) ?_ ?_
 refine sim_seq ?_
 refine sim_region ?_
 refine simL_val (q_move rfl rfl) rfl rfl rfl ?_
 refine simL_val (q_asg rfl rfl) rfl rfl rfl ?_
 refine simL_nil ?_
 refine nrm_then ?_
 refine sim_block ?_
 refine sim_loop (S := Int × Int) (Unit) (fun k s => synodref1_Int.l1 x0 x1 k s.1 s.2) (fun s y => [(0, .slice a0 x0.length c0), (1, .int .i64 x1), (7, .int .i64 s3v), (8, .int .i64 s.1), (9, .int .i64 s.2)]) (fun s y => [F]) (fun _ => by rw [synodref1_Int.l1]) ?_ k (0, s3v) () ⟨rfl, rfl, rfl, rfl, rfl, trivial⟩ (.sel 0 rfl (.nil _))
 intro k s40v y41v
 refine sim_eq (by rw [synodref1_Int.l1]) ?_
 refine sim_seq ?_
 refine sim_seq ?_
 refine sim_region ?_
 refine simL_val (q_move rfl rfl) rfl rfl rfl ?_
 refine simL_val (q_geq rfl rfl rfl) rfl rfl rfl ?_
 refine simL_nil ?_
 refine nrm_then ?_
 refine sim_cond rfl (fun h44v => ?_) (fun h45v => ?_)
 refine sim_skip ?_
 refine nrm_then ?_
 refine sim_seq ?_
 refine sim_block ?_
 refine sim_region ?_
 refine simL_val (q_move rfl rfl) rfl rfl rfl ?_
 refine simL_val (q_mul rfl rfl rfl) rfl rfl rfl ?_
 refine simL_val (q_move rfl rfl) rfl rfl rfl ?_
 refine simL_val (q_move rfl rfl) rfl rfl rfl ?_
 refine simL_val (q_move rfl rfl) rfl rfl rfl ?_
 refine simL_val (q_add rfl rfl rfl) rfl rfl rfl ?_
 refine simL_ask (fun hi46v => ?_)
 obtain ⟨b47v, b47vo, ha48v⟩ := h0.pos (encB_ne (j := (IntKind.i64.wrap (x1 + s40v.2)).toNat) (by omega))
 refine simL_val (q_idx1 rfl rfl rfl ha48v Try.underlying27 Try.sizeOf5 hi46v.1 hi46v.2) rfl rfl rfl ?_
 refine simL_val (q_load rfl rfl Try.isAgg5 (h0.cell 0 rfl ha48v (encB_get (by omega)))) rfl rfl rfl ?_
 refine simL_val (q_conv rfl rfl Try.underlying5 Try.underlying3) rfl rfl rfl ?_
 refine simL_val (q_rem rfl rfl rfl (by decide)) rfl rfl rfl ?_
 refine simL_val (q_add rfl rfl rfl) rfl rfl rfl ?_
 refine simL_val (q_asg rfl rfl) rfl rfl rfl ?_
 refine simL_nil ?_
 refine nrm_block ?_
 refine nrm_then ?_
 refine sim_region ?_
 refine simL_val (q_move rfl rfl) rfl rfl rfl ?_
 refine simL_val (q_sub rfl rfl rfl) rfl rfl rfl ?_
 refine simL_val (q_asg rfl rfl) rfl rfl rfl ?_
 refine simL_nil ?_
 exact nrm_again (s := (IntKind.i64.wrap ((IntKind.i64.wrap (s40v.1 * 128)) + (Int.tmod (IntKind.i64.wrap ((x0.getD (IntKind.i64.wrap (x1 + s40v.2)).toNat 0).toNat : Int)) 128)), IntKind.i64.wrap (s40v.2 - 1))) () ⟨rfl, rfl, rfl, rfl, rfl, trivial⟩ (.sel 0 rfl (.nil _))
 refine sim_exi ?_
 refine exi_then ?_
 refine exi_loop ?_
 refine exi_here ?_
 exact nrm_cut (s := s40v.1) () ⟨rfl, rfl, trivial⟩ (.sel 0 rfl (.nil _))
 intro s38v y39v
 refine sim_seq ?_
 refine sim_seq ?_
 refine sim_region ?_
 refine simL_val (q_move rfl rfl) rfl rfl rfl ?_
 refine simL_val (q_gtr rfl rfl rfl) rfl rfl rfl ?_
 refine simL_nil ?_
 refine nrm_then ?_
 refine sim_cond rfl (fun h51v => ?_) (fun h52v => ?_)
 refine sim_seq ?_
 refine sim_region ?_
 refine simL_val (q_asg rfl rfl) rfl rfl rfl ?_
 refine simL_val (q_asg rfl rfl) rfl rfl rfl ?_
 refine simL_val (q_asg rfl rfl) rfl rfl rfl ?_
 refine simL_nil ?_
 refine nrm_then ?_
 refine sim_rtn ?_
 refine rtn_then ?_
 exact rtn_fn () rfl rfl rfl (.sel 0 rfl (.nil _))
 refine sim_skip ?_
 refine nrm_then ?_
 refine sim_seq ?_
 refine sim_region ?_
 refine simL_val (q_move rfl rfl) rfl rfl rfl ?_
 refine simL_val (q_move rfl rfl) rfl rfl rfl ?_
 refine simL_val (q_add rfl rfl rfl) rfl rfl rfl ?_
 refine simL_val (q_asg rfl rfl) rfl rfl rfl ?_
 refine simL_val (q_asg rfl rfl) rfl rfl rfl ?_
 refine simL_val (q_asg rfl rfl) rfl rfl rfl ?_
 refine simL_nil ?_
 refine nrm_then ?_
 refine sim_rtn ?_
 exact rtn_fn () rfl rfl rfl (.sel 0 rfl (.nil _))

def synodref1_Reader_Int.f (k : Nat) (x0_0 : List UInt8) (x0_1 : Int) (x0_2 : Int) : Option (Int × Int × Int) := if x0_2 = (0 : Int) then ((synodref1_Int.f k x0_0 x0_1).bind fun s3v => (some (s3v.1, IntKind.i64.wrap (x0_1 + s3v.2.1), s3v.2.2))) else (some (0, x0_1, x0_2))
theorem synodref1_Reader_Int.calls (W : World) (F : HA) (k : Nat) (b0 : Nat) (a0_0 : Option Addr) (c0_0 : Nat) (x0_0 : List UInt8) (x0_1 : Int) (x0_2 : Int) (h0_0 : Rd F a0_0 (encB x0_0)) (hc0_0 : x0_0.length ≤ c0_0) (hm0_0 : c0_0 ≤ maxLen) :
    Fn Try.prog W 85 [.pointer (some ⟨b0, 0, none⟩)] [obj b0 152 [.slice a0_0 x0_0.length c0_0, .int .i64 x0_1, .int .i64 x0_2]] F (synodref1_Reader_Int.f k x0_0 x0_1 x0_2) (fun (r : Int × Int × Int) (y : Unit) => .int .i64 r.1) (fun r y => [obj b0 152 [.slice a0_0 x0_0.length c0_0, .int .i64 r.2.1, .int .i64 r.2.2]]) := by
 unfold synodref1_Reader_Int.f
 refine fn_intro 38 Try.func85 rfl Try.ntmps85 rfl ?_
 refine sim_seq ?_
 refine sim_region ?_
 refine simL_val (q_asg rfl rfl) rfl rfl rfl ?_
 refine simL_nil ?_
 refine nrm_then ?_
 refine sim_seq ?_
 refine sim_seq ?_
 refine sim_region ?_
 refine simL_val (q_move rfl rfl) rfl rfl rfl ?_
 refine simL_val (q_nil rfl rfl) rfl rfl rfl ?_
 refine simL_val (q_fa rfl rfl Try.underlying152 rfl rfl Try.sizeOf3 rfl) rfl rfl rfl ?_
 refine simL_val (q_load rfl rfl Try.isAgg3 (.obj 0 rfl rfl)) rfl rfl rfl ?_
 refine simL_val (q_neq rfl rfl rfl) rfl rfl rfl ?_
 refine simL_nil ?_
 refine nrm_then ?_
 refine sim_condn rfl (fun h1v => ?_) (fun h2v => ?_)
 refine sim_skip ?_
 refine nrm_then ?_
 refine sim_seq ?_
 refine sim_bind (fun s3v hs5v => ?_)
 refine sim_draw (Γ := Unit) () [[], [0], [0, 1], [0, 1, 2], [], [4], [4, 5], [4, 5, 6], [0, 1, 2, 3, 4, 5, 6, 7], [0, 1, 2, 3, 4, 5, 6, 7, 8], [0, 1, 2, 3, 4, 5, 6, 7, 8, 9], [0, 1, 2, 3, 4, 5, 6, 7, 8, 9], [0, 1, 2, 3, 4, 5, 6, 7, 8, 9], [0, 1, 2, 3, 4, 5, 6, 7, 8, 9, 10], [0, 1, 2, 3, 4, 5, 6, 7, 8, 9, 10, 11, 13], [0, 1, 2, 3, 4, 5, 6, 7, 8, 9, 10, 11, 12, 13, 14]] [8] [0, 1, 2, 3, 4, 5, 6, 7, 9, 10, 11, 12, 13, 14, 15] (fun i => [[0], [0], [0], [0], [0], [0], [0], [0], [], [1], [1], [1], [1], [1], [1], [1]].getD i []) (fun i => [[], [], [], [], [], [], [], [], [0, 1, 2, 3, 4, 5, 6, 7], [], [], [], [], [], [], []].getD i []) (fun γ i => [.pointer (some ⟨b0, 0, none⟩), .pointer (some ⟨b0, 0, none⟩), .pointer (some ⟨b0, 0, none⟩), .slice a0_0 x0_0.length c0_0, .pointer (some ⟨b0, 0, none⟩), .pointer (some ⟨b0, 0, none⟩), .pointer (some ⟨b0, 1, none⟩), .int .i64 x0_1, .tuple #[.int .i64 s3v.1, .int .i64 s3v.2.1, .int .i64 s3v.2.2], .tuple #[.int .i64 s3v.1, .int .i64 s3v.2.1, .int .i64 s3v.2.2], .int .i64 s3v.1, .int .i64 s3v.2.1, .int .i64 s3v.2.2, .int .i64 s3v.1, .int .i64 s3v.2.1, .int .i64 s3v.2.2].getD i undef) (fun j γ => [[obj b0 152 [.slice a0_0 x0_0.length c0_0, .int .i64 x0_1, .int .i64 x0_2], F], [obj b0 152 [.slice a0_0 x0_0.length c0_0, .int .i64 x0_1, .int .i64 x0_2], F]].getD j []) (fun γ => [(0, .pointer (some ⟨b0, 0, none⟩)), (3, .int .i64 s3v.1), (4, .int .i64 s3v.2.1), (5, .int .i64 s3v.2.2)]) mixed (by decide) (by decide) (by decide) (by decide) (by decide) (by decide) (by decide) 38 rfl (by decide) (by decide) (by decide) (Ent.refl _) ?_ ?_ (fun _ => ⟨rfl, rfl, rfl, rfl, trivial⟩) ?_
 exact (All.cons (fun γ => (All.cons (QOb.plain [(0, .pointer (some ⟨b0, 0, none⟩))] rfl rfl (.o rfl (by decide) .nil) (q_move rfl rfl) rfl) All.nil)) (All.cons (fun γ => (All.cons (QOb.plain [(12, .pointer (some ⟨b0, 0, none⟩))] rfl rfl (.w 0 rfl rfl rfl .nil) (q_nil rfl rfl) rfl) All.nil)) (All.cons (fun γ => (All.cons (QOb.plain [(13, .pointer (some ⟨b0, 0, none⟩))] rfl rfl (.w 1 rfl rfl rfl .nil) (q_fa rfl rfl Try.underlying152 rfl rfl Try.sizeOf27 rfl) rfl) All.nil)) (All.cons (fun γ => (All.cons (QOb.plain [(14, .pointer (some ⟨b0, 0, none⟩))] rfl rfl (.w 2 rfl rfl rfl .nil) (q_load rfl rfl Try.isAgg27 (.obj 0 rfl rfl)) rfl) All.nil)) (All.cons (fun γ => (All.cons (QOb.plain [(0, .pointer (some ⟨b0, 0, none⟩))] rfl rfl (.o rfl (by decide) .nil) (q_move rfl rfl) rfl) All.nil)) (All.cons (fun γ => (All.cons (QOb.plain [(16, .pointer (some ⟨b0, 0, none⟩))] rfl rfl (.w 4 rfl rfl rfl .nil) (q_nil rfl rfl) rfl) All.nil)) (All.cons (fun γ => (All.cons (QOb.plain [(17, .pointer (some ⟨b0, 0, none⟩))] rfl rfl (.w 5 rfl rfl rfl .nil) (q_fa rfl rfl Try.underlying152 rfl rfl Try.sizeOf3 rfl) rfl) All.nil)) (All.cons (fun γ => (All.cons (QOb.plain [(18, .pointer (some ⟨b0, 1, none⟩))] rfl rfl (.w 6 rfl rfl rfl .nil) (q_load rfl rfl Try.isAgg3 (.obj 0 rfl rfl)) rfl) All.nil)) (All.cons (fun γ => (All.cons (QOb.plain [(20, .tuple #[.int .i64 s3v.1, .int .i64 s3v.2.1, .int .i64 s3v.2.2])] rfl rfl (.w 8 rfl rfl rfl .nil) (q_move rfl rfl) rfl) All.nil)) (All.cons (fun γ => (All.cons (QOb.plain [(11, .tuple #[.int .i64 s3v.1, .int .i64 s3v.2.1, .int .i64 s3v.2.2])] rfl rfl (.w 9 rfl rfl rfl .nil) (q_ext rfl rfl rfl) rfl) All.nil)) (All.cons (fun γ => (All.cons (QOb.plain [(11, .tuple #[.int .i64 s3v.1, .int .i64 s3v.2.1, .int .i64 s3v.2.2])] rfl rfl (.w 9 rfl rfl rfl .nil) (q_ext rfl rfl rfl) rfl) All.nil)) (All.cons (fun γ => (All.cons (QOb.plain [(11, .tuple #[.int .i64 s3v.1, .int .i64 s3v.2.1, .int .i64 s3v.2.2])] rfl rfl (.w 9 rfl rfl rfl .nil) (q_ext rfl rfl rfl) rfl) All.nil)) (All.cons (fun γ => (All.cons (QOb.plain [(21, .int .i64 s3v.1)] rfl rfl (.w 10 rfl rfl rfl .nil) (q_asg rfl rfl) rfl) All.nil)) (All.cons (fun γ => (All.cons (QOb.plain [(22, .int .i64 s3v.2.1)] rfl rfl (.w 11 rfl rfl rfl .nil) (q_asg rfl rfl) rfl) All.nil)) (All.cons (fun γ => (All.cons (QOb.plain [(23, .int .i64 s3v.2.2)] rfl rfl (.w 12 rfl rfl rfl .nil) (q_asg rfl rfl) rfl) All.nil)) All.nil)))))))))))))))
 exact (All.cons (fun γ => EOb.mk (Z := Unit) [(15, .slice a0_0 x0_0.length c0_0), (19, .int .i64 x0_1)] (fun z => ()) rfl rfl (.w 3 rfl rfl rfl (.w 7 rfl rfl rfl .nil)) (re_call (vs := [.slice a0_0 x0_0.length c0_0, .int .i64 x0_1]) (cap := []) (A := []) (rst := [obj b0 152 [.slice a0_0 x0_0.length c0_0, .int .i64 x0_1, .int .i64 x0_2], F]) rfl rfl rfl rfl rfl rfl Try.call130 (.sel 0 rfl (.sel 0 rfl (.nil _))) (synodref1_Int.calls _ _ k a0_0 c0_0 x0_0 x0_1 (h0_0.lend 1 rfl) hc0_0 hm0_0) hs5v) (fun _ => ⟨rfl, rfl, rfl, rfl, rfl, rfl, rfl, rfl, trivial⟩) (fun _ => .inr rfl) (fun z => Ent.refl _)) All.nil)
 intro g6v
 refine nrm_then ?_
 refine sim_seq ?_
 refine sim_region ?_
 refine simL_val (q_move rfl rfl) rfl rfl rfl ?_
 refine simL_val (q_move rfl rfl) rfl rfl rfl ?_
 refine simL_val (q_nil rfl rfl) rfl rfl rfl ?_
 refine simL_val (q_fa rfl rfl Try.underlying152 rfl rfl Try.sizeOf3 rfl) rfl rfl rfl ?_
 refine simL_do (re_store 0 rfl rfl rfl Try.sizeOf3 rfl rfl (one_of (by rfl)) rfl rfl) rfl rfl ?_
 intro _
 refine simL_nil ?_
 refine nrm_then ?_
 refine sim_seq ?_
 refine sim_region ?_
 refine simL_val (q_move rfl rfl) rfl rfl rfl ?_
 refine simL_val (q_move rfl rfl) rfl rfl rfl ?_
 refine simL_val (q_nil rfl rfl) rfl rfl rfl ?_
 refine simL_val (q_fa rfl rfl Try.underlying152 rfl rfl Try.sizeOf3 rfl) rfl rfl rfl ?_
 refine simL_val (q_load rfl rfl Try.isAgg3 (.obj 0 rfl rfl)) rfl rfl rfl ?_
 refine simL_val (q_move rfl rfl) rfl rfl rfl ?_
 refine simL_val (q_add rfl rfl rfl) rfl rfl rfl ?_
 refine simL_val (q_nil rfl rfl) rfl rfl rfl ?_
 refine simL_val (q_fa rfl rfl Try.underlying152 rfl rfl Try.sizeOf3 rfl) rfl rfl rfl ?_
 refine simL_do (re_store 0 rfl rfl rfl Try.sizeOf3 rfl rfl (one_of (by rfl)) rfl rfl) rfl rfl ?_
 intro _
 refine simL_nil ?_
 refine nrm_then ?_
 refine sim_seq ?_
 refine sim_region ?_
 refine simL_val (q_move rfl rfl) rfl rfl rfl ?_
 refine simL_val (q_asg rfl rfl) rfl rfl rfl ?_
 refine simL_nil ?_
 refine nrm_then ?_
 refine sim_rtn ?_
 exact rtn_fn () rfl rfl rfl (.sel 0 rfl (.sel 0 rfl (.nil _)))
 refine sim_seq ?_
 refine sim_region ?_
 refine simL_val (q_asg rfl rfl) rfl rfl rfl ?_
 refine simL_nil ?_
 refine nrm_then ?_
 refine sim_rtn ?_
 refine rtn_then ?_
 exact rtn_fn () rfl rfl rfl (.sel 0 rfl (.sel 0 rfl (.nil _)))

def synodref1_Reader_Bytes.f (k : Nat) (x0_0 : List UInt8) (x0_1 : Int) (x0_2 : Int) (x1 : Int) : Option (List UInt8 × Int × Int) := (synodref1_Reader_Int.f k x0_0 x0_1 x0_2).bind fun s1v => (if s1v.2.2 = (0 : Int) then ((if max x1 (0 : Int) < s1v.1 then (some 3) else (if IntKind.i64.wrap ((x0_0.length : Int) - s1v.2.1) < s1v.1 then (some 2) else (some s1v.2.2))).bind fun s6v => (if s6v = (0 : Int) then (if 0 ≤ IntKind.i64.wrap ((IntKind.i64.wrap (s1v.2.1 + s1v.1)) - s1v.1) ∧ IntKind.i64.wrap ((IntKind.i64.wrap (s1v.2.1 + s1v.1)) - s1v.1) ≤ IntKind.i64.wrap (s1v.2.1 + s1v.1) ∧ IntKind.i64.wrap (s1v.2.1 + s1v.1) ≤ (x0_0.length : Int) then ((synodref_Bytes.f (cut x0_0 (IntKind.i64.wrap ((IntKind.i64.wrap (s1v.2.1 + s1v.1)) - s1v.1)) (IntKind.i64.wrap (s1v.2.1 + s1v.1)))).bind fun s22v => (some (s22v, IntKind.i64.wrap (s1v.2.1 + s1v.1), s6v))) else none) else (some (([] : List UInt8), x0_1, s6v)))) else (some (([] : List UInt8), s1v.2.1, s1v.2.2)))
theorem synodref1_Reader_Bytes.calls (W : World) (F : HA) (k : Nat) (b0 : Nat) (a0_0 : Option Addr) (c0_0 : Nat) (x0_0 : List UInt8) (x0_1 : Int) (x0_2 : Int) (x1 : Int) (h0_0 : Rd F a0_0 (encB x0_0)) (hc0_0 : x0_0.length ≤ c0_0) (hm0_0 : c0_0 ≤ maxLen) :
    Fn Try.prog W 92 [.pointer (some ⟨b0, 0, none⟩), .int .i64 x1] [obj b0 152 [.slice a0_0 x0_0.length c0_0, .int .i64 x0_1, .int .i64 x0_2]] F (synodref1_Reader_Bytes.f k x0_0 x0_1 x0_2 x1) (fun (r : List UInt8 × Int × Int) (y : Option Addr × Nat) => .slice y.1 r.1.length y.2) (fun r y => [Row 5 1 y.1 r.1.length y.2 (encB r.1), obj b0 152 [.slice a0_0 x0_0.length c0_0, .int .i64 r.2.1, .int .i64 r.2.2]]) := by
 unfold synodref1_Reader_Bytes.f
 refine fn_intro 74 Try.func92 rfl Try.ntmps92 rfl ?_
 refine sim_seq ?_
 refine sim_region ?_
 refine simL_val (q_asg rfl rfl) rfl rfl rfl ?_
 refine simL_nil ?_
 refine nrm_then ?_
 refine sim_seq ?_
 refine sim_region ?_
 refine simL_val (q_move rfl rfl) rfl rfl rfl ?_
 refine simL_val (q_nil rfl rfl) rfl rfl rfl ?_
 refine simL_val (q_fa rfl rfl Try.underlying152 rfl rfl Try.sizeOf3 rfl) rfl rfl rfl ?_
 refine simL_val (q_load rfl rfl Try.isAgg3 (.obj 0 rfl rfl)) rfl rfl rfl ?_
 refine simL_val (q_asg rfl rfl) rfl rfl rfl ?_
 refine simL_nil ?_
 refine nrm_then ?_
 refine sim_seq ?_
 refine sim_region ?_
 refine simL_val (q_move rfl rfl) rfl rfl rfl ?_
 refine simL_bind (fun s1v hs3v => ?_)
 refine simL_eff (re_call (vs := [.pointer (some ⟨b0, 0, none⟩)]) (cap := []) (A := [obj b0 152 [.slice a0_0 x0_0.length c0_0, .int .i64 x0_1, .int .i64 x0_2]]) (rst := [F]) rfl rfl rfl rfl rfl rfl Try.call85 (.sel 0 rfl (.sel 0 rfl (.nil _))) (synodref1_Reader_Int.calls _ _ k b0 a0_0 c0_0 x0_0 x0_1 x0_2 (h0_0.lend 0 rfl) hc0_0 hm0_0) hs3v) rfl rfl rfl ?_
 intro y2v
 refine simL_val (q_asg rfl rfl) rfl rfl rfl ?_
 refine simL_nil ?_
 refine nrm_then ?_
 refine sim_seq ?_
 refine sim_seq ?_
 refine sim_region ?_
 refine simL_val (q_move rfl rfl) rfl rfl rfl ?_
 refine simL_val (q_nil rfl rfl) rfl rfl rfl ?_
 refine simL_val (q_fa rfl rfl Try.underlying152 rfl rfl Try.sizeOf3 rfl) rfl rfl rfl ?_
 refine simL_val (q_load rfl rfl Try.isAgg3 (.obj 0 rfl rfl)) rfl rfl rfl ?_
 refine simL_val (q_neq rfl rfl rfl) rfl rfl rfl ?_
 refine simL_nil ?_
 refine nrm_then ?_
 refine sim_condn rfl (fun h4v => ?_) (fun h5v => ?_)
 refine sim_skip ?_
 refine nrm_then ?_
 refine sim_cut (S := Int) (Unit) (fun s y => [(0, .pointer (some ⟨b0, 0, none⟩)), (5, .int .i64 x0_1), (6, .int .i64 s1v.1)]) (fun s y => [obj b0 152 [.slice a0_0 x0_0.length c0_0, .int .i64 s1v.2.1, .int .i64 s], F]) ?_ ?_
 refine sim_seq ?_
 refine sim_region ?_
 refine simL_val (q_move rfl rfl) rfl rfl rfl ?_
 refine simL_val (q_move rfl rfl) rfl rfl rfl ?_
 refine simL_val (q_max rfl rfl rfl) rfl rfl rfl ?_
 refine simL_val (q_gtr rfl rfl rfl) rfl rfl rfl ?_
 refine simL_nil ?_
 refine nrm_then ?_
 refine sim_cond rfl (fun h8v => ?_) (fun h9v => ?_)
 refine sim_region ?_
 refine simL_val (q_move rfl rfl) rfl rfl rfl ?_
 refine simL_val (q_nil rfl rfl) rfl rfl rfl ?_
 refine simL_val (q_fa rfl rfl Try.underlying152 rfl rfl Try.sizeOf3 rfl) rfl rfl rfl ?_
 refine simL_do (re_store 0 rfl rfl rfl Try.sizeOf3 rfl rfl (one_of (by rfl)) rfl rfl) rfl rfl ?_
 intro _
 refine simL_nil ?_
 exact nrm_cut (s := 3) () ⟨rfl, rfl, rfl, trivial⟩ (.sel 0 rfl (.sel 0 rfl (.nil _)))
 refine sim_seq ?_
 refine sim_draw (Γ := Unit) () [[], [], [1], [1, 2], [1, 2, 3], [1, 2, 3, 4], [], [6], [6, 7], [6, 7, 8], [1, 2, 3, 4, 5, 6, 7, 8, 9], [0, 1, 2, 3, 4, 5, 6, 7, 8, 9, 10]] [] [0, 1, 2, 3, 4, 5, 6, 7, 8, 9, 10, 11] (fun i => [[0], [0], [0], [0], [0], [0], [0], [0], [0], [0], [0], [0]].getD i []) (fun i => [[], [], [], [], [], [], [], [], [], [], [], []].getD i []) (fun γ i => [.int .i64 s1v.1, .pointer (some ⟨b0, 0, none⟩), .pointer (some ⟨b0, 0, none⟩), .pointer (some ⟨b0, 0, none⟩), .slice a0_0 x0_0.length c0_0, .int .i64 (x0_0.length : Int), .pointer (some ⟨b0, 0, none⟩), .pointer (some ⟨b0, 0, none⟩), .pointer (some ⟨b0, 1, none⟩), .int .i64 s1v.2.1, .int .i64 (IntKind.i64.wrap ((x0_0.length : Int) - s1v.2.1)), .bool (decide (IntKind.i64.wrap ((x0_0.length : Int) - s1v.2.1) < s1v.1))].getD i undef) (fun j γ => [[obj b0 152 [.slice a0_0 x0_0.length c0_0, .int .i64 s1v.2.1, .int .i64 s1v.2.2], F]].getD j []) (fun γ => [(0, .pointer (some ⟨b0, 0, none⟩)), (5, .int .i64 x0_1), (6, .int .i64 s1v.1), (36, .bool (decide (IntKind.i64.wrap ((x0_0.length : Int) - s1v.2.1) < s1v.1)))]) mixed (by decide) (by decide) (by decide) (by decide) (by decide) (by decide) (by decide) 74 rfl (by decide) (by decide) (by decide) (Ent.refl _) ?_ ?_ (fun _ => ⟨rfl, rfl, rfl, rfl, trivial⟩) ?_
 exact (All.cons (fun γ => (All.cons (QOb.plain [(6, .int .i64 s1v.1)] rfl rfl (.o rfl (by decide) .nil) (q_move rfl rfl) rfl) All.nil)) (All.cons (fun γ => (All.cons (QOb.plain [(0, .pointer (some ⟨b0, 0, none⟩))] rfl rfl (.o rfl (by decide) .nil) (q_move rfl rfl) rfl) All.nil)) (All.cons (fun γ => (All.cons (QOb.plain [(26, .pointer (some ⟨b0, 0, none⟩))] rfl rfl (.w 1 rfl rfl rfl .nil) (q_nil rfl rfl) rfl) All.nil)) (All.cons (fun γ => (All.cons (QOb.plain [(27, .pointer (some ⟨b0, 0, none⟩))] rfl rfl (.w 2 rfl rfl rfl .nil) (q_fa rfl rfl Try.underlying152 rfl rfl Try.sizeOf27 rfl) rfl) All.nil)) (All.cons (fun γ => (All.cons (QOb.plain [(28, .pointer (some ⟨b0, 0, none⟩))] rfl rfl (.w 3 rfl rfl rfl .nil) (q_load rfl rfl Try.isAgg27 (.obj 0 rfl rfl)) rfl) All.nil)) (All.cons (fun γ => (All.cons (QOb.plain [(29, .slice a0_0 x0_0.length c0_0)] rfl rfl (.w 4 rfl rfl rfl .nil) (q_len rfl rfl rfl Try.underlying27) rfl) All.nil)) (All.cons (fun γ => (All.cons (QOb.plain [(0, .pointer (some ⟨b0, 0, none⟩))] rfl rfl (.o rfl (by decide) .nil) (q_move rfl rfl) rfl) All.nil)) (All.cons (fun γ => (All.cons (QOb.plain [(31, .pointer (some ⟨b0, 0, none⟩))] rfl rfl (.w 6 rfl rfl rfl .nil) (q_nil rfl rfl) rfl) All.nil)) (All.cons (fun γ => (All.cons (QOb.plain [(32, .pointer (some ⟨b0, 0, none⟩))] rfl rfl (.w 7 rfl rfl rfl .nil) (q_fa rfl rfl Try.underlying152 rfl rfl Try.sizeOf3 rfl) rfl) All.nil)) (All.cons (fun γ => (All.cons (QOb.plain [(33, .pointer (some ⟨b0, 1, none⟩))] rfl rfl (.w 8 rfl rfl rfl .nil) (q_load rfl rfl Try.isAgg3 (.obj 0 rfl rfl)) rfl) All.nil)) (All.cons (fun γ => (All.cons (QOb.plain [(30, .int .i64 (x0_0.length : Int)), (34, .int .i64 s1v.2.1)] rfl rfl (.w 5 rfl rfl rfl (.w 9 rfl rfl rfl .nil)) (q_sub rfl rfl rfl) rfl) All.nil)) (All.cons (fun γ => (All.cons (QOb.plain [(25, .int .i64 s1v.1), (35, .int .i64 (IntKind.i64.wrap ((x0_0.length : Int) - s1v.2.1)))] rfl rfl (.w 0 rfl rfl rfl (.w 10 rfl rfl rfl .nil)) (q_gtr rfl rfl rfl) rfl) All.nil)) All.nil))))))))))))
 exact All.nil
 intro g10v
 refine nrm_then ?_
 refine sim_cond rfl (fun h11v => ?_) (fun h12v => ?_)
 refine sim_region ?_
 refine simL_val (q_move rfl rfl) rfl rfl rfl ?_
 refine simL_val (q_nil rfl rfl) rfl rfl rfl ?_
 refine simL_val (q_fa rfl rfl Try.underlying152 rfl rfl Try.sizeOf3 rfl) rfl rfl rfl ?_
 refine simL_do (re_store 0 rfl rfl rfl Try.sizeOf3 rfl rfl (one_of (by rfl)) rfl rfl) rfl rfl ?_
 intro _
 refine simL_nil ?_
 exact nrm_cut (s := 2) () ⟨rfl, rfl, rfl, trivial⟩ (.sel 0 rfl (.sel 0 rfl (.nil _)))
 refine sim_skip ?_
 exact nrm_cut (s := s1v.2.2) () ⟨rfl, rfl, rfl, trivial⟩ (.sel 0 rfl (.sel 0 rfl (.nil _)))
 intro s6v y7v
 refine sim_seq ?_
 refine sim_seq ?_
 refine sim_region ?_
 refine simL_val (q_move rfl rfl) rfl rfl rfl ?_
 refine simL_val (q_nil rfl rfl) rfl rfl rfl ?_
 refine simL_val (q_fa rfl rfl Try.underlying152 rfl rfl Try.sizeOf3 rfl) rfl rfl rfl ?_
 refine simL_val (q_load rfl rfl Try.isAgg3 (.obj 0 rfl rfl)) rfl rfl rfl ?_
 refine simL_val (q_neq rfl rfl rfl) rfl rfl rfl ?_
 refine simL_nil ?_
 refine nrm_then ?_
 refine sim_condn rfl (fun h13v => ?_) (fun h14v => ?_)
 refine sim_skip ?_
 refine nrm_then ?_
 refine sim_seq ?_
 refine sim_region ?_
 refine simL_val (q_move rfl rfl) rfl rfl rfl ?_
 refine simL_val (q_move rfl rfl) rfl rfl rfl ?_
 refine simL_val (q_nil rfl rfl) rfl rfl rfl ?_
 refine simL_val (q_fa rfl rfl Try.underlying152 rfl rfl Try.sizeOf3 rfl) rfl rfl rfl ?_
 refine simL_val (q_load rfl rfl Try.isAgg3 (.obj 0 rfl rfl)) rfl rfl rfl ?_
 refine simL_val (q_move rfl rfl) rfl rfl rfl ?_
 refine simL_val (q_add rfl rfl rfl) rfl rfl rfl ?_
 refine simL_val (q_nil rfl rfl) rfl rfl rfl ?_
 refine simL_val (q_fa rfl rfl Try.underlying152 rfl rfl Try.sizeOf3 rfl) rfl rfl rfl ?_
 refine simL_do (re_store 0 rfl rfl rfl Try.sizeOf3 rfl rfl (one_of (by rfl)) rfl rfl) rfl rfl ?_
 intro _
 refine simL_nil ?_
 refine nrm_then ?_
 refine sim_seq ?_
 refine sim_ask (fun hb15v => ?_)
 obtain ⟨a16v, c17v, hS18v, hr19v, hc20v, hm21v⟩ := slice_pre (lo := IntKind.i64.wrap ((IntKind.i64.wrap (s1v.2.1 + s1v.1)) - s1v.1)) (hi := IntKind.i64.wrap (s1v.2.1 + s1v.1)) h0_0 hc0_0 hb15v
 refine sim_bind (fun s22v hs24v => ?_)
 refine sim_draw (Γ := (Option Addr × Nat)) (none, 0) [[], [0], [0, 1], [0, 1, 2], [], [4], [4, 5], [4, 5, 6], [], [4, 5, 6, 7, 8], [], [10], [10, 11], [10, 11, 12], [0, 1, 2, 3, 4, 5, 6, 7, 8, 9, 10, 11, 12, 13], [0, 1, 2, 3, 4, 5, 6, 7, 8, 9, 10, 11, 12, 13, 14], [0, 1, 2, 3, 4, 5, 6, 7, 8, 9, 10, 11, 12, 13, 14, 15]] [15] [0, 1, 2, 3, 4, 5, 6, 7, 8, 9, 10, 11, 12, 13, 14, 16] (fun i => [[0], [0], [0], [0], [0], [0], [0], [0], [0], [0], [0], [0], [0], [0], [0], [], [1]].getD i []) (fun i => [[], [], [], [], [], [], [], [], [], [], [], [], [], [], [], [0, 1, 2, 3, 4, 5, 6, 7, 8, 9, 10, 11, 12, 13, 14], []].getD i []) (fun γ i => [.pointer (some ⟨b0, 0, none⟩), .pointer (some ⟨b0, 0, none⟩), .pointer (some ⟨b0, 0, none⟩), .slice a0_0 x0_0.length c0_0, .pointer (some ⟨b0, 0, none⟩), .pointer (some ⟨b0, 0, none⟩), .pointer (some ⟨b0, 1, none⟩), .int .i64 (IntKind.i64.wrap (s1v.2.1 + s1v.1)), .int .i64 s1v.1, .int .i64 (IntKind.i64.wrap ((IntKind.i64.wrap (s1v.2.1 + s1v.1)) - s1v.1)), .pointer (some ⟨b0, 0, none⟩), .pointer (some ⟨b0, 0, none⟩), .pointer (some ⟨b0, 1, none⟩), .int .i64 (IntKind.i64.wrap (s1v.2.1 + s1v.1)), .slice a16v ((cut x0_0 (IntKind.i64.wrap ((IntKind.i64.wrap (s1v.2.1 + s1v.1)) - s1v.1)) (IntKind.i64.wrap (s1v.2.1 + s1v.1))).length) c17v, .slice γ.1 s22v.length γ.2, .slice γ.1 s22v.length γ.2].getD i undef) (fun j γ => [[obj b0 152 [.slice a0_0 x0_0.length c0_0, .int .i64 (IntKind.i64.wrap (s1v.2.1 + s1v.1)), .int .i64 s6v], F], [Row 5 1 γ.1 s22v.length γ.2 (encB s22v), obj b0 152 [.slice a0_0 x0_0.length c0_0, .int .i64 (IntKind.i64.wrap (s1v.2.1 + s1v.1)), .int .i64 s6v], F]].getD j []) (fun γ => [(4, .slice γ.1 s22v.length γ.2)]) mixed (by decide) (by decide) (by decide) (by decide) (by decide) (by decide) (by decide) 74 rfl (by decide) (by decide) (by decide) (Ent.refl _) ?_ ?_ (fun _ => ⟨rfl, trivial⟩) ?_
 exact (All.cons (fun γ => (All.cons (QOb.plain [(0, .pointer (some ⟨b0, 0, none⟩))] rfl rfl (.o rfl (by decide) .nil) (q_move rfl rfl) rfl) All.nil)) (All.cons (fun γ => (All.cons (QOb.plain [(58, .pointer (some ⟨b0, 0, none⟩))] rfl rfl (.w 0 rfl rfl rfl .nil) (q_nil rfl rfl) rfl) All.nil)) (All.cons (fun γ => (All.cons (QOb.plain [(59, .pointer (some ⟨b0, 0, none⟩))] rfl rfl (.w 1 rfl rfl rfl .nil) (q_fa rfl rfl Try.underlying152 rfl rfl Try.sizeOf27 rfl) rfl) All.nil)) (All.cons (fun γ => (All.cons (QOb.plain [(60, .pointer (some ⟨b0, 0, none⟩))] rfl rfl (.w 2 rfl rfl rfl .nil) (q_load rfl rfl Try.isAgg27 (.obj 0 rfl rfl)) rfl) All.nil)) (All.cons (fun γ => (All.cons (QOb.plain [(0, .pointer (some ⟨b0, 0, none⟩))] rfl rfl (.o rfl (by decide) .nil) (q_move rfl rfl) rfl) All.nil)) (All.cons (fun γ => (All.cons (QOb.plain [(62, .pointer (some ⟨b0, 0, none⟩))] rfl rfl (.w 4 rfl rfl rfl .nil) (q_nil rfl rfl) rfl) All.nil)) (All.cons (fun γ => (All.cons (QOb.plain [(63, .pointer (some ⟨b0, 0, none⟩))] rfl rfl (.w 5 rfl rfl rfl .nil) (q_fa rfl rfl Try.underlying152 rfl rfl Try.sizeOf3 rfl) rfl) All.nil)) (All.cons (fun γ => (All.cons (QOb.plain [(64, .pointer (some ⟨b0, 1, none⟩))] rfl rfl (.w 6 rfl rfl rfl .nil) (q_load rfl rfl Try.isAgg3 (.obj 0 rfl rfl)) rfl) All.nil)) (All.cons (fun γ => (All.cons (QOb.plain [(6, .int .i64 s1v.1)] rfl rfl (.o rfl (by decide) .nil) (q_move rfl rfl) rfl) All.nil)) (All.cons (fun γ => (All.cons (QOb.plain [(65, .int .i64 (IntKind.i64.wrap (s1v.2.1 + s1v.1))), (66, .int .i64 s1v.1)] rfl rfl (.w 7 rfl rfl rfl (.w 8 rfl rfl rfl .nil)) (q_sub rfl rfl rfl) rfl) All.nil)) (All.cons (fun γ => (All.cons (QOb.plain [(0, .pointer (some ⟨b0, 0, none⟩))] rfl rfl (.o rfl (by decide) .nil) (q_move rfl rfl) rfl) All.nil)) (All.cons (fun γ => (All.cons (QOb.plain [(68, .pointer (some ⟨b0, 0, none⟩))] rfl rfl (.w 10 rfl rfl rfl .nil) (q_nil rfl rfl) rfl) All.nil)) (All.cons (fun γ => (All.cons (QOb.plain [(69, .pointer (some ⟨b0, 0, none⟩))] rfl rfl (.w 11 rfl rfl rfl .nil) (q_fa rfl rfl Try.underlying152 rfl rfl Try.sizeOf3 rfl) rfl) All.nil)) (All.cons (fun γ => (All.cons (QOb.plain [(70, .pointer (some ⟨b0, 1, none⟩))] rfl rfl (.w 12 rfl rfl rfl .nil) (q_load rfl rfl Try.isAgg3 (.obj 0 rfl rfl)) rfl) All.nil)) (All.cons (fun γ => (All.cons (QOb.plain [(61, .slice a0_0 x0_0.length c0_0), (67, .int .i64 (IntKind.i64.wrap ((IntKind.i64.wrap (s1v.2.1 + s1v.1)) - s1v.1))), (71, .int .i64 (IntKind.i64.wrap (s1v.2.1 + s1v.1)))] rfl rfl (.w 3 rfl rfl rfl (.w 9 rfl rfl rfl (.w 13 rfl rfl rfl .nil))) (q_sub_ro (l := x0_0) (lo' := IntKind.i64.wrap ((IntKind.i64.wrap (s1v.2.1 + s1v.1)) - s1v.1)) (hi' := IntKind.i64.wrap (s1v.2.1 + s1v.1)) rfl rfl rfl rfl Try.underlying27 Try.sizeOf5 (.inr ⟨_, rfl⟩) (.inr ⟨_, rfl⟩) hb15v hc0_0 hS18v) rfl) All.nil)) (All.cons (fun γ => (All.cons (QOb.plain [(73, .slice γ.1 s22v.length γ.2)] rfl rfl (.w 15 rfl rfl rfl .nil) (q_asg rfl rfl) rfl) All.nil)) All.nil))))))))))))))))
 exact (All.cons (fun γ => EOb.mk (Z := Option Addr × Nat) [(72, .slice a16v ((cut x0_0 (IntKind.i64.wrap ((IntKind.i64.wrap (s1v.2.1 + s1v.1)) - s1v.1)) (IntKind.i64.wrap (s1v.2.1 + s1v.1))).length) c17v)] (fun z => z) rfl rfl (.w 14 rfl rfl rfl .nil) (re_call (vs := [.slice a16v ((cut x0_0 (IntKind.i64.wrap ((IntKind.i64.wrap (s1v.2.1 + s1v.1)) - s1v.1)) (IntKind.i64.wrap (s1v.2.1 + s1v.1))).length) c17v]) (cap := []) (A := []) (rst := [obj b0 152 [.slice a0_0 x0_0.length c0_0, .int .i64 (IntKind.i64.wrap (s1v.2.1 + s1v.1)), .int .i64 s6v], F]) rfl rfl rfl rfl rfl rfl Try.call62 (.sel 0 rfl (.sel 0 rfl (.nil _))) (synodref_Bytes.calls _ _ a16v c17v (cut x0_0 (IntKind.i64.wrap ((IntKind.i64.wrap (s1v.2.1 + s1v.1)) - s1v.1)) (IntKind.i64.wrap (s1v.2.1 + s1v.1))) (hr19v.lend 1 rfl) hc20v (Nat.le_trans hm21v hm0_0)) hs24v) (fun _ => ⟨rfl, rfl, rfl, rfl, rfl, rfl, rfl, rfl, rfl, rfl, rfl, rfl, rfl, rfl, rfl, trivial⟩) (fun _ => .inr rfl) (fun z => Ent.refl _)) All.nil)
 intro g25v
 refine nrm_then ?_
 refine sim_rtn ?_
 exact rtn_fn (g25v.1, g25v.2) rfl rfl rfl (.sel 0 rfl (.sel 0 rfl (.sel 0 rfl (.nil _))))
 refine sim_seq ?_
 refine sim_region ?_
 refine simL_val (q_move rfl rfl) rfl rfl rfl ?_
 refine simL_val (q_move rfl rfl) rfl rfl rfl ?_
 refine simL_val (q_nil rfl rfl) rfl rfl rfl ?_
 refine simL_val (q_fa rfl rfl Try.underlying152 rfl rfl Try.sizeOf3 rfl) rfl rfl rfl ?_
 refine simL_do (re_store 0 rfl rfl rfl Try.sizeOf3 rfl rfl (one_of (by rfl)) rfl rfl) rfl rfl ?_
 intro _
 refine simL_nil ?_
 refine nrm_then ?_
 refine sim_seq ?_
 refine sim_region ?_
 refine simL_val (q_asg rfl rfl) rfl rfl rfl ?_
 refine simL_nil ?_
 refine nrm_then ?_
 refine sim_rtn ?_
 refine rtn_then ?_
 exact rtn_fn (none, 0) rfl rfl rfl (.row_nil (.sel 0 rfl (.sel 0 rfl (.nil _))))
 refine sim_seq ?_
 refine sim_region ?_
 refine simL_val (q_asg rfl rfl) rfl rfl rfl ?_
 refine simL_nil ?_
 refine nrm_then ?_
 refine sim_rtn ?_
 refine rtn_then ?_
 exact rtn_fn (none, 0) rfl rfl rfl (.row_nil (.sel 0 rfl (.sel 0 rfl (.nil _))))

def synodref1_Reader_Text.f (k : Nat) (x0_0 : List UInt8) (x0_1 : Int) (x0_2 : Int) (x1 : Int) : Option (List UInt8 × Int × Int) := (synodref1_Reader_Bytes.f k x0_0 x0_1 x0_2 x1).bind fun s1v => (some (s1v.1, s1v.2.1, s1v.2.2))
theorem synodref1_Reader_Text.calls (W : World) (F : HA) (k : Nat) (b0 : Nat) (a0_0 : Option Addr) (c0_0 : Nat) (x0_0 : List UInt8) (x0_1 : Int) (x0_2 : Int) (x1 : Int) (h0_0 : Rd F a0_0 (encB x0_0)) (hc0_0 : x0_0.length ≤ c0_0) (hm0_0 : c0_0 ≤ maxLen) :
    Fn Try.prog W 101 [.pointer (some ⟨b0, 0, none⟩), .int .i64 x1] [obj b0 152 [.slice a0_0 x0_0.length c0_0, .int .i64 x0_1, .int .i64 x0_2]] F (synodref1_Reader_Text.f k x0_0 x0_1 x0_2 x1) (fun (r : List UInt8 × Int × Int) (y : Unit) => str r.1) (fun r y => [obj b0 152 [.slice a0_0 x0_0.length c0_0, .int .i64 r.2.1, .int .i64 r.2.2]]) := by
 unfold synodref1_Reader_Text.f
 refine fn_intro 9 Try.func101 rfl Try.ntmps101 rfl ?_
 refine sim_seq ?_
 refine sim_region ?_
 refine simL_val (q_asg rfl rfl) rfl rfl rfl ?_
 refine simL_nil ?_
 refine nrm_then ?_
 refine sim_seq ?_
 refine sim_region ?_
 refine simL_val (q_move rfl rfl) rfl rfl rfl ?_
 refine simL_val (q_move rfl rfl) rfl rfl rfl ?_
 refine simL_bind (fun s1v hs3v => ?_)
 refine simL_eff (re_call (vs := [.pointer (some ⟨b0, 0, none⟩), .int .i64 x1]) (cap := []) (A := [obj b0 152 [.slice a0_0 x0_0.length c0_0, .int .i64 x0_1, .int .i64 x0_2]]) (rst := [F]) rfl rfl rfl rfl rfl rfl Try.call92 (.sel 0 rfl (.sel 0 rfl (.nil _))) (synodref1_Reader_Bytes.calls _ _ k b0 a0_0 c0_0 x0_0 x0_1 x0_2 x1 (h0_0.lend 0 rfl) hc0_0 hm0_0) hs3v) rfl rfl rfl ?_
 intro y2v
 refine simL_val (q_tostr rfl rfl Try.underlying27 Try.underlying5 Try.underlying9 (Rds.row 0 rfl) rfl) rfl rfl rfl ?_
 refine simL_val (q_asg rfl rfl) rfl rfl rfl ?_
 refine simL_nil ?_
 refine nrm_then ?_
 refine sim_rtn ?_
 exact rtn_fn () rfl rfl rfl (.sel 1 rfl (.sel 1 rfl (.nil _)))

def synodref1_Reader_Left.f (x0_0 : List UInt8) (x0_1 : Int) (x0_2 : Int) : Option (Int) := some (IntKind.i64.wrap ((x0_0.length : Int) - x0_1))
theorem synodref1_Reader_Left.calls (W : World) (F : HA) (b0 : Nat) (a0_0 : Option Addr) (c0_0 : Nat) (x0_0 : List UInt8) (x0_1 : Int) (x0_2 : Int) (h0_0 : Rd F a0_0 (encB x0_0)) (hc0_0 : x0_0.length ≤ c0_0) (hm0_0 : c0_0 ≤ maxLen) :
    Fn Try.prog W 131 [.pointer (some ⟨b0, 0, none⟩)] [obj b0 152 [.slice a0_0 x0_0.length c0_0, .int .i64 x0_1, .int .i64 x0_2]] F (synodref1_Reader_Left.f x0_0 x0_1 x0_2) (fun (r : Int) (y : Unit) => .int .i64 r) (fun r y => [obj b0 152 [.slice a0_0 x0_0.length c0_0, .int .i64 x0_1, .int .i64 x0_2]]) := by
 unfold synodref1_Reader_Left.f
 refine fn_intro 13 Try.func131 rfl Try.ntmps131 rfl ?_
 refine sim_seq ?_
 refine sim_region ?_
 refine simL_val (q_asg rfl rfl) rfl rfl rfl ?_
 refine simL_nil ?_
 refine nrm_then ?_
 refine sim_seq ?_
 refine sim_draw (Γ := Unit) () [[], [0], [0, 1], [0, 1, 2], [0, 1, 2, 3], [], [5], [5, 6], [5, 6, 7], [0, 1, 2, 3, 4, 5, 6, 7, 8], [0, 1, 2, 3, 4, 5, 6, 7, 8, 9]] [] [0, 1, 2, 3, 4, 5, 6, 7, 8, 9, 10] (fun i => [[0], [0], [0], [0], [0], [0], [0], [0], [0], [0], [0]].getD i []) (fun i => [[], [], [], [], [], [], [], [], [], [], []].getD i []) (fun γ i => [.pointer (some ⟨b0, 0, none⟩), .pointer (some ⟨b0, 0, none⟩), .pointer (some ⟨b0, 0, none⟩), .slice a0_0 x0_0.length c0_0, .int .i64 (x0_0.length : Int), .pointer (some ⟨b0, 0, none⟩), .pointer (some ⟨b0, 0, none⟩), .pointer (some ⟨b0, 1, none⟩), .int .i64 x0_1, .int .i64 (IntKind.i64.wrap ((x0_0.length : Int) - x0_1)), .int .i64 (IntKind.i64.wrap ((x0_0.length : Int) - x0_1))].getD i undef) (fun j γ => [[obj b0 152 [.slice a0_0 x0_0.length c0_0, .int .i64 x0_1, .int .i64 x0_2], F]].getD j []) (fun γ => [(2, .int .i64 (IntKind.i64.wrap ((x0_0.length : Int) - x0_1)))]) mixed (by decide) (by decide) (by decide) (by decide) (by decide) (by decide) (by decide) 13 rfl (by decide) (by decide) (by decide) (Ent.refl _) ?_ ?_ (fun _ => ⟨rfl, trivial⟩) ?_
 exact (All.cons (fun γ => (All.cons (QOb.plain [(0, .pointer (some ⟨b0, 0, none⟩))] rfl rfl (.o rfl (by decide) .nil) (q_move rfl rfl) rfl) All.nil)) (All.cons (fun γ => (All.cons (QOb.plain [(3, .pointer (some ⟨b0, 0, none⟩))] rfl rfl (.w 0 rfl rfl rfl .nil) (q_nil rfl rfl) rfl) All.nil)) (All.cons (fun γ => (All.cons (QOb.plain [(4, .pointer (some ⟨b0, 0, none⟩))] rfl rfl (.w 1 rfl rfl rfl .nil) (q_fa rfl rfl Try.underlying152 rfl rfl Try.sizeOf27 rfl) rfl) All.nil)) (All.cons (fun γ => (All.cons (QOb.plain [(5, .pointer (some ⟨b0, 0, none⟩))] rfl rfl (.w 2 rfl rfl rfl .nil) (q_load rfl rfl Try.isAgg27 (.obj 0 rfl rfl)) rfl) All.nil)) (All.cons (fun γ => (All.cons (QOb.plain [(6, .slice a0_0 x0_0.length c0_0)] rfl rfl (.w 3 rfl rfl rfl .nil) (q_len rfl rfl rfl Try.underlying27) rfl) All.nil)) (All.cons (fun γ => (All.cons (QOb.plain [(0, .pointer (some ⟨b0, 0, none⟩))] rfl rfl (.o rfl (by decide) .nil) (q_move rfl rfl) rfl) All.nil)) (All.cons (fun γ => (All.cons (QOb.plain [(8, .pointer (some ⟨b0, 0, none⟩))] rfl rfl (.w 5 rfl rfl rfl .nil) (q_nil rfl rfl) rfl) All.nil)) (All.cons (fun γ => (All.cons (QOb.plain [(9, .pointer (some ⟨b0, 0, none⟩))] rfl rfl (.w 6 rfl rfl rfl .nil) (q_fa rfl rfl Try.underlying152 rfl rfl Try.sizeOf3 rfl) rfl) All.nil)) (All.cons (fun γ => (All.cons (QOb.plain [(10, .pointer (some ⟨b0, 1, none⟩))] rfl rfl (.w 7 rfl rfl rfl .nil) (q_load rfl rfl Try.isAgg3 (.obj 0 rfl rfl)) rfl) All.nil)) (All.cons (fun γ => (All.cons (QOb.plain [(7, .int .i64 (x0_0.length : Int)), (11, .int .i64 x0_1)] rfl rfl (.w 4 rfl rfl rfl (.w 8 rfl rfl rfl .nil)) (q_sub rfl rfl rfl) rfl) All.nil)) (All.cons (fun γ => (All.cons (QOb.plain [(12, .int .i64 (IntKind.i64.wrap ((x0_0.length : Int) - x0_1)))] rfl rfl (.w 9 rfl rfl rfl .nil) (q_asg rfl rfl) rfl) All.nil)) All.nil)))))))))))
 exact All.nil
 intro g1v
 refine nrm_then ?_
 refine sim_rtn ?_
 exact rtn_fn () rfl rfl rfl (.sel 0 rfl (.sel 0 rfl (.nil _)))
def synodref1_Reader_Left.v (x0_0 : List UInt8) (x0_1 : Int) (x0_2 : Int) : Int := (synodref1_Reader_Left.f x0_0 x0_1 x0_2).getD 0
theorem synodref1_Reader_Left.tot (x0_0 : List UInt8) (x0_1 : Int) (x0_2 : Int) : synodref1_Reader_Left.f x0_0 x0_1 x0_2 = some (synodref1_Reader_Left.v x0_0 x0_1 x0_2) := by
  have h : ∃ r, synodref1_Reader_Left.f x0_0 x0_1 x0_2 = some r := by
    unfold synodref1_Reader_Left.f
    repeat' (first | exact ⟨_, rfl⟩ | split | simp only [Option.bind_some])
  obtain ⟨r, h⟩ := h
  unfold synodref1_Reader_Left.v
  rw [h]; rfl

def synodref1_Reader_Done.f (x0_0 : List UInt8) (x0_1 : Int) (x0_2 : Int) : Option (Int) := (if x0_2 = (0 : Int) then ((synodref1_Reader_Left.f x0_0 x0_1 x0_2).bind fun s3v => (some (decide ((0 : Int) < s3v)))) else (some false)).bind fun s1v => (if s1v = true then (some 3) else (some x0_2))
theorem synodref1_Reader_Done.calls (W : World) (F : HA) (b0 : Nat) (a0_0 : Option Addr) (c0_0 : Nat) (x0_0 : List UInt8) (x0_1 : Int) (x0_2 : Int) (h0_0 : Rd F a0_0 (encB x0_0)) (hc0_0 : x0_0.length ≤ c0_0) (hm0_0 : c0_0 ≤ maxLen) :
    Fn Try.prog W 86 [.pointer (some ⟨b0, 0, none⟩)] [obj b0 152 [.slice a0_0 x0_0.length c0_0, .int .i64 x0_1, .int .i64 x0_2]] F (synodref1_Reader_Done.f x0_0 x0_1 x0_2) (fun (r : Int) (y : Unit) => .int .i64 r) (fun r y => [obj b0 152 [.slice a0_0 x0_0.length c0_0, .int .i64 x0_1, .int .i64 x0_2]]) := by
 unfold synodref1_Reader_Done.f
 refine fn_intro 17 Try.func86 rfl Try.ntmps86 rfl ?_
 refine sim_seq ?_
 refine sim_region ?_
 refine simL_val (q_asg rfl rfl) rfl rfl rfl ?_
 refine simL_nil ?_
 refine nrm_then ?_
 refine sim_seq ?_
 refine sim_seq ?_
 refine sim_region ?_
 refine simL_val (q_move rfl rfl) rfl rfl rfl ?_
 refine simL_val (q_nil rfl rfl) rfl rfl rfl ?_
 refine simL_val (q_fa rfl rfl Try.underlying152 rfl rfl Try.sizeOf3 rfl) rfl rfl rfl ?_
 refine simL_val (q_load rfl rfl Try.isAgg3 (.obj 0 rfl rfl)) rfl rfl rfl ?_
 refine simL_val (q_eql rfl rfl rfl) rfl rfl rfl ?_
 refine simL_val (q_move rfl rfl) rfl rfl rfl ?_
 refine simL_cut' 4 (S := Bool) (Unit) (fun s y => [(0, .pointer (some ⟨b0, 0, none⟩)), (12, .bool s)]) (fun s y => [obj b0 152 [.slice a0_0 x0_0.length c0_0, .int .i64 x0_1, .int .i64 x0_2], F]) ?_ ?_
 refine simL_casep (fun hb6v => ?_) (fun hb7v => ?_)
 rw [hb6v]
 refine simL_valg (q_move rfl rfl) rfl rfl rfl rfl rfl rfl ?_
 refine simL_bind (fun s3v hs5v => ?_)
 refine simL_effg (re_call (vs := [.pointer (some ⟨b0, 0, none⟩)]) (cap := []) (A := [obj b0 152 [.slice a0_0 x0_0.length c0_0, .int .i64 x0_1, .int .i64 x0_2]]) (rst := [F]) rfl rfl rfl rfl rfl rfl Try.call131 (.sel 0 rfl (.sel 0 rfl (.nil _))) (synodref1_Reader_Left.calls _ _ b0 a0_0 c0_0 x0_0 x0_1 x0_2 (h0_0.lend 0 rfl) hc0_0 hm0_0) hs5v) rfl rfl rfl rfl rfl rfl ?_
 intro y4v
 refine simL_valg (q_gtr rfl rfl rfl) rfl rfl rfl rfl rfl rfl ?_
 refine simL_val (q_pick rfl rfl rfl rfl rfl) rfl rfl rfl ?_
 refine simL_nil ?_
 exact nrm_cut (s := decide ((0 : Int) < s3v)) () ⟨rfl, rfl, trivial⟩ (.sel 0 rfl (.sel 0 rfl (.nil _)))
 rw [hb7v]
 refine simL_skipd rfl rfl rfl rfl rfl rfl ?_
 refine simL_skipd rfl rfl rfl rfl rfl rfl ?_
 refine simL_skipd rfl rfl rfl rfl rfl rfl ?_
 refine simL_val (q_pick rfl rfl rfl rfl rfl) rfl rfl rfl ?_
 refine simL_nil ?_
 exact nrm_cut (s := false) () ⟨rfl, rfl, trivial⟩ (.sel 0 rfl (.sel 0 rfl (.nil _)))
 intro s1v y2v
 refine simL_nil ?_
 refine nrm_then ?_
 refine sim_condb rfl (fun h8v => ?_) (fun h9v => ?_)
 refine sim_seq ?_
 refine sim_region ?_
 refine simL_val (q_asg rfl rfl) rfl rfl rfl ?_
 refine simL_nil ?_
 refine nrm_then ?_
 refine sim_rtn ?_
 refine rtn_then ?_
 exact rtn_fn () rfl rfl rfl (.sel 0 rfl (.sel 0 rfl (.nil _)))
 refine sim_skip ?_
 refine nrm_then ?_
 refine sim_seq ?_
 refine sim_region ?_
 refine simL_val (q_move rfl rfl) rfl rfl rfl ?_
 refine simL_val (q_nil rfl rfl) rfl rfl rfl ?_
 refine simL_val (q_fa rfl rfl Try.underlying152 rfl rfl Try.sizeOf3 rfl) rfl rfl rfl ?_
 refine simL_val (q_load rfl rfl Try.isAgg3 (.obj 0 rfl rfl)) rfl rfl rfl ?_
 refine simL_val (q_asg rfl rfl) rfl rfl rfl ?_
 refine simL_nil ?_
 refine nrm_then ?_
 refine sim_rtn ?_
 exact rtn_fn () rfl rfl rfl (.sel 0 rfl (.sel 0 rfl (.nil _)))
def synodref1_Reader_Done.v (x0_0 : List UInt8) (x0_1 : Int) (x0_2 : Int) : Int := (synodref1_Reader_Done.f x0_0 x0_1 x0_2).getD 0
theorem synodref1_Reader_Done.tot (x0_0 : List UInt8) (x0_1 : Int) (x0_2 : Int) : synodref1_Reader_Done.f x0_0 x0_1 x0_2 = some (synodref1_Reader_Done.v x0_0 x0_1 x0_2) := by
  have h : ∃ r, synodref1_Reader_Done.f x0_0 x0_1 x0_2 = some r := by
    unfold synodref1_Reader_Done.f
    repeat' (first | exact ⟨_, rfl⟩ | split | simp only [Option.bind_some, synodref1_Reader_Left.tot])
  obtain ⟨r, h⟩ := h
  unfold synodref1_Reader_Done.v
  rw [h]; rfl

def synodref3_GetCommand.f (k : Nat) (x0 : List UInt8) : Option (Int × Int × Int × List UInt8 × List UInt8 × List UInt8 × Int) := (synodref1_Reader_Int.f k x0 (0 : Int) (0 : Int)).bind fun s3v => ((synodref1_Reader_Int.f k x0 s3v.2.1 s3v.2.2).bind fun s6v => ((synodref1_Reader_Int.f k x0 s6v.2.1 s6v.2.2).bind fun s9v => ((synodref1_Reader_Text.f k x0 s9v.2.1 s9v.2.2 (64 : Int)).bind fun s12v => ((synodref1_Reader_Text.f k x0 s12v.2.1 s12v.2.2 (1024 : Int)).bind fun s15v => ((synodref1_Reader_Text.f k x0 s15v.2.1 s15v.2.2 (1024 : Int)).bind fun s18v => ((synodref1_Reader_Done.f x0 s18v.2.1 s18v.2.2).bind fun s22v => ((if s22v = (0 : Int) then ((synodref3_CheckCommand.f s3v.1 s6v.1 s9v.1 s12v.1 s15v.1 s18v.1).bind fun s29v => (some s29v)) else (some s22v)).bind fun s25v => (if s25v = (0 : Int) then (some (s3v.1, s6v.1, s9v.1, s12v.1, s15v.1, s18v.1, s25v)) else (some (0, 0, 0, ([] : List UInt8), ([] : List UInt8), ([] : List UInt8), s25v))))))))))
theorem synodref3_GetCommand.calls (W : World) (F : HA) (k : Nat) (a0 : Option Addr) (c0 : Nat) (x0 : List UInt8) (h0 : Rd F a0 (encB x0)) (hc0 : x0.length ≤ c0) (hm0 : c0 ≤ maxLen) :
    Fn Try.prog W 56 [.slice a0 x0.length c0] [] F (synodref3_GetCommand.f k x0) (fun (r : Int × Int × Int × List UInt8 × List UInt8 × List UInt8 × Int) (y : Unit) => .tuple #[.agg #[.int .i64 r.1, .int .i64 r.2.1, .int .i64 r.2.2.1, str r.2.2.2.1, str r.2.2.2.2.1, str r.2.2.2.2.2.1], .int .i64 r.2.2.2.2.2.2]) (fun r y => []) := by
 unfold synodref3_GetCommand.f
 refine fn_intro 35 Try.func56 rfl Try.ntmps56 rfl ?_
 refine sim_seq ?_
 refine sim_region ?_
 refine simL_eff (re_alloc rfl Try.zeroValue25 rfl) rfl rfl rfl ?_
 intro b1v
 refine simL_val (q_asg rfl rfl) rfl rfl rfl ?_
 refine simL_nil ?_
 refine nrm_then ?_
 refine sim_seq ?_
 refine sim_region ?_
 refine simL_val (q_move rfl rfl) rfl rfl rfl ?_
 refine simL_val (q_build (v := .agg #[.slice a0 x0.length c0, .int .i64 0, .int .i64 0]) rfl rfl (fun _ => by kernel_rfl)) rfl rfl rfl ?_
 refine simL_eff (re_box rfl rfl rfl) rfl rfl rfl ?_
 intro b2v
 refine simL_val (q_asg rfl rfl) rfl rfl rfl ?_
 refine simL_nil ?_
 refine nrm_then ?_
 refine sim_seq ?_
 refine sim_region ?_
 refine simL_val (q_move rfl rfl) rfl rfl rfl ?_
 refine simL_bind (fun s3v hs5v => ?_)
 refine simL_eff (re_call (vs := [.pointer (some ⟨b2v, 0, none⟩)]) (cap := []) (A := [obj b2v 152 [.slice a0 x0.length c0, .int .i64 0, .int .i64 0]]) (rst := [obj b1v 25 [.int .i64 0, .int .i64 0, .int .i64 0, str ([] : List UInt8), str ([] : List UInt8), str ([] : List UInt8)], F]) rfl rfl rfl rfl rfl rfl Try.call85 (.sel 0 rfl (.sel 0 rfl (.sel 0 rfl (.nil _)))) (synodref1_Reader_Int.calls _ _ k b2v a0 c0 x0 (0 : Int) (0 : Int) (h0.lend 1 rfl) hc0 hm0) hs5v) rfl rfl rfl ?_
 intro y4v
 refine simL_val (q_move rfl rfl) rfl rfl rfl ?_
 refine simL_bind (fun s6v hs8v => ?_)
 refine simL_eff (re_call (vs := [.pointer (some ⟨b2v, 0, none⟩)]) (cap := []) (A := [obj b2v 152 [.slice a0 x0.length c0, .int .i64 s3v.2.1, .int .i64 s3v.2.2]]) (rst := [obj b1v 25 [.int .i64 0, .int .i64 0, .int .i64 0, str ([] : List UInt8), str ([] : List UInt8), str ([] : List UInt8)], F]) rfl rfl rfl rfl rfl rfl Try.call85 (.sel 0 rfl (.sel 0 rfl (.sel 0 rfl (.nil _)))) (synodref1_Reader_Int.calls _ _ k b2v a0 c0 x0 s3v.2.1 s3v.2.2 (h0.lend 1 rfl) hc0 hm0) hs8v) rfl rfl rfl ?_
 intro y7v
 refine simL_val (q_move rfl rfl) rfl rfl rfl ?_
 refine simL_bind (fun s9v hs11v => ?_)
 refine simL_eff (re_call (vs := [.pointer (some ⟨b2v, 0, none⟩)]) (cap := []) (A := [obj b2v 152 [.slice a0 x0.length c0, .int .i64 s6v.2.1, .int .i64 s6v.2.2]]) (rst := [obj b1v 25 [.int .i64 0, .int .i64 0, .int .i64 0, str ([] : List UInt8), str ([] : List UInt8), str ([] : List UInt8)], F]) rfl rfl rfl rfl rfl rfl Try.call85 (.sel 0 rfl (.sel 0 rfl (.sel 0 rfl (.nil _)))) (synodref1_Reader_Int.calls _ _ k b2v a0 c0 x0 s6v.2.1 s6v.2.2 (h0.lend 1 rfl) hc0 hm0) hs11v) rfl rfl rfl ?_
 intro y10v
 refine simL_val (q_move rfl rfl) rfl rfl rfl ?_
 refine simL_bind (fun s12v hs14v => ?_)
 refine simL_eff (re_call (vs := [.pointer (some ⟨b2v, 0, none⟩), .int .i64 64]) (cap := []) (A := [obj b2v 152 [.slice a0 x0.length c0, .int .i64 s9v.2.1, .int .i64 s9v.2.2]]) (rst := [obj b1v 25 [.int .i64 0, .int .i64 0, .int .i64 0, str ([] : List UInt8), str ([] : List UInt8), str ([] : List UInt8)], F]) rfl rfl rfl rfl rfl rfl Try.call101 (.sel 0 rfl (.sel 0 rfl (.sel 0 rfl (.nil _)))) (synodref1_Reader_Text.calls _ _ k b2v a0 c0 x0 s9v.2.1 s9v.2.2 (64 : Int) (h0.lend 1 rfl) hc0 hm0) hs14v) rfl rfl rfl ?_
 intro y13v
 refine simL_val (q_move rfl rfl) rfl rfl rfl ?_
 refine simL_bind (fun s15v hs17v => ?_)
 refine simL_eff (re_call (vs := [.pointer (some ⟨b2v, 0, none⟩), .int .i64 1024]) (cap := []) (A := [obj b2v 152 [.slice a0 x0.length c0, .int .i64 s12v.2.1, .int .i64 s12v.2.2]]) (rst := [obj b1v 25 [.int .i64 0, .int .i64 0, .int .i64 0, str ([] : List UInt8), str ([] : List UInt8), str ([] : List UInt8)], F]) rfl rfl rfl rfl rfl rfl Try.call101 (.sel 0 rfl (.sel 0 rfl (.sel 0 rfl (.nil _)))) (synodref1_Reader_Text.calls _ _ k b2v a0 c0 x0 s12v.2.1 s12v.2.2 (1024 : Int) (h0.lend 1 rfl) hc0 hm0) hs17v) rfl rfl rfl ?_
 intro y16v
 refine simL_val (q_move rfl rfl) rfl rfl rfl ?_
 refine simL_bind (fun s18v hs20v => ?_)
 refine simL_eff (re_call (vs := [.pointer (some ⟨b2v, 0, none⟩), .int .i64 1024]) (cap := []) (A := [obj b2v 152 [.slice a0 x0.length c0, .int .i64 s15v.2.1, .int .i64 s15v.2.2]]) (rst := [obj b1v 25 [.int .i64 0, .int .i64 0, .int .i64 0, str ([] : List UInt8), str ([] : List UInt8), str ([] : List UInt8)], F]) rfl rfl rfl rfl rfl rfl Try.call101 (.sel 0 rfl (.sel 0 rfl (.sel 0 rfl (.nil _)))) (synodref1_Reader_Text.calls _ _ k b2v a0 c0 x0 s15v.2.1 s15v.2.2 (1024 : Int) (h0.lend 1 rfl) hc0 hm0) hs20v) rfl rfl rfl ?_
 intro y19v
 refine simL_val (q_build (v := .agg #[.int .i64 s3v.1, .int .i64 s6v.1, .int .i64 s9v.1, str s12v.1, str s15v.1, str s18v.1]) rfl rfl (fun _ => by kernel_rfl)) rfl rfl rfl ?_
 refine simL_eff (re_alloc rfl Try.zeroValue25 rfl) rfl rfl rfl ?_
 intro b21v
 refine simL_do (re_store 0 rfl rfl rfl Try.sizeOf25 rfl rfl (one_of (by rfl)) rfl rfl) rfl rfl ?_
 intro _
 refine simL_ent (H' := [obj b21v 25 [.int .i64 s3v.1, .int .i64 s6v.1, .int .i64 s9v.1, str s12v.1, str s15v.1, str s18v.1], obj b2v 152 [.slice a0 x0.length c0, .int .i64 s18v.2.1, .int .i64 s18v.2.2], obj b1v 25 [.int .i64 0, .int .i64 0, .int .i64 0, str ([] : List UInt8), str ([] : List UInt8), str ([] : List UInt8)], F]) (Ent.refl _) ?_
 refine simL_nil ?_
 refine nrm_then ?_
 refine sim_seq ?_
 refine sim_region ?_
 refine simL_val (q_move rfl rfl) rfl rfl rfl ?_
 refine simL_bind (fun s22v hs24v => ?_)
 refine simL_eff (re_call (vs := [.pointer (some ⟨b2v, 0, none⟩)]) (cap := []) (A := [obj b2v 152 [.slice a0 x0.length c0, .int .i64 s18v.2.1, .int .i64 s18v.2.2]]) (rst := [obj b21v 25 [.int .i64 s3v.1, .int .i64 s6v.1, .int .i64 s9v.1, str s12v.1, str s15v.1, str s18v.1], obj b1v 25 [.int .i64 0, .int .i64 0, .int .i64 0, str ([] : List UInt8), str ([] : List UInt8), str ([] : List UInt8)], F]) rfl rfl rfl rfl rfl rfl Try.call86 (.sel 1 rfl (.sel 0 rfl (.sel 0 rfl (.sel 0 rfl (.nil _))))) (synodref1_Reader_Done.calls _ _ b2v a0 c0 x0 s18v.2.1 s18v.2.2 (h0.lend 2 rfl) hc0 hm0) hs24v) rfl rfl rfl ?_
 intro y23v
 refine simL_val (q_asg rfl rfl) rfl rfl rfl ?_
 refine simL_nil ?_
 refine nrm_then ?_
 refine sim_cut (S := Int) (Unit) (fun s y => [(2, .pointer (some ⟨b1v, 0, none⟩)), (5, .pointer (some ⟨b21v, 0, none⟩)), (6, .int .i64 s)]) (fun s y => [obj b21v 25 [.int .i64 s3v.1, .int .i64 s6v.1, .int .i64 s9v.1, str s12v.1, str s15v.1, str s18v.1], obj b1v 25 [.int .i64 0, .int .i64 0, .int .i64 0, str ([] : List UInt8), str ([] : List UInt8), str ([] : List UInt8)], F]) ?_ ?_
 refine sim_seq ?_
 refine sim_region ?_
 refine simL_val (q_move rfl rfl) rfl rfl rfl ?_
 refine simL_val (q_eql rfl rfl rfl) rfl rfl rfl ?_
 refine simL_nil ?_
 refine nrm_then ?_
 refine sim_cond rfl (fun h27v => ?_) (fun h28v => ?_)
 refine sim_region ?_
 refine simL_val (q_loado 1 rfl rfl Try.isAgg25 Try.sizeOf25 rfl rfl) rfl rfl rfl ?_
 refine simL_bind (fun s29v hs31v => ?_)
 refine simL_eff (re_call (vs := [.agg #[.int .i64 s3v.1, .int .i64 s6v.1, .int .i64 s9v.1, str s12v.1, str s15v.1, str s18v.1]]) (cap := []) (A := []) (rst := [obj b2v 152 [.slice a0 x0.length c0, .int .i64 s18v.2.1, .int .i64 s18v.2.2], obj b21v 25 [.int .i64 s3v.1, .int .i64 s6v.1, .int .i64 s9v.1, str s12v.1, str s15v.1, str s18v.1], obj b1v 25 [.int .i64 0, .int .i64 0, .int .i64 0, str ([] : List UInt8), str ([] : List UInt8), str ([] : List UInt8)], F]) rfl rfl rfl rfl rfl rfl Try.call17 (.sel 0 rfl (.sel 0 rfl (.sel 0 rfl (.sel 0 rfl (.nil _))))) (synodref3_CheckCommand.calls _ _ s3v.1 s6v.1 s9v.1 s12v.1 s15v.1 s18v.1 ) hs31v) rfl rfl rfl ?_
 intro y30v
 refine simL_val (q_asg rfl rfl) rfl rfl rfl ?_
 refine simL_nil ?_
 exact nrm_cut (s := s29v) () ⟨rfl, rfl, rfl, trivial⟩ (.sel 1 rfl (.sel 1 rfl (.sel 1 rfl (.nil _))))
 refine sim_skip ?_
 exact nrm_cut (s := s22v) () ⟨rfl, rfl, rfl, trivial⟩ (.sel 1 rfl (.sel 1 rfl (.sel 1 rfl (.nil _))))
 intro s25v y26v
 refine sim_seq ?_
 refine sim_seq ?_
 refine sim_region ?_
 refine simL_val (q_move rfl rfl) rfl rfl rfl ?_
 refine simL_val (q_neq rfl rfl rfl) rfl rfl rfl ?_
 refine simL_nil ?_
 refine nrm_then ?_
 refine sim_condn rfl (fun h32v => ?_) (fun h33v => ?_)
 refine sim_skip ?_
 refine nrm_then ?_
 refine sim_seq ?_
 refine sim_region ?_
 refine simL_val (q_loado 0 rfl rfl Try.isAgg25 Try.sizeOf25 rfl rfl) rfl rfl rfl ?_
 refine simL_val (q_move rfl rfl) rfl rfl rfl ?_
 refine simL_do (re_store 1 rfl rfl rfl Try.sizeOf25 rfl rfl (one_of (by rfl)) rfl rfl) rfl rfl ?_
 intro _
 refine simL_ent (H' := [obj b21v 25 [.int .i64 s3v.1, .int .i64 s6v.1, .int .i64 s9v.1, str s12v.1, str s15v.1, str s18v.1], obj b1v 25 [.int .i64 s3v.1, .int .i64 s6v.1, .int .i64 s9v.1, str s12v.1, str s15v.1, str s18v.1], F]) (Ent.refl _) ?_
 refine simL_val (q_asg rfl rfl) rfl rfl rfl ?_
 refine simL_nil ?_
 refine nrm_then ?_
 refine sim_rtn ?_
 exact rtn_fnC (vs := [.agg #[.int .i64 s3v.1, .int .i64 s6v.1, .int .i64 s9v.1, str s12v.1, str s15v.1, str s18v.1], .int .i64 s25v]) () rfl ⟨⟨b1v, rfl, load_agg 1 Try.isAgg25 Try.sizeOf25 rfl rfl⟩, rfl, trivial⟩ rfl (.sel 2 rfl (.nil _))
 refine sim_seq ?_
 refine sim_region ?_
 refine simL_val (q_build (v := .agg #[.int .i64 0, .int .i64 0, .int .i64 0, str ([] : List UInt8), str ([] : List UInt8), str ([] : List UInt8)]) rfl rfl (fun _ => by kernel_rfl)) rfl rfl rfl ?_
 refine simL_val (q_move rfl rfl) rfl rfl rfl ?_
 refine simL_do (re_store 1 rfl rfl rfl Try.sizeOf25 rfl rfl (one_of (by rfl)) rfl rfl) rfl rfl ?_
 intro _
 refine simL_ent (H' := [obj b21v 25 [.int .i64 s3v.1, .int .i64 s6v.1, .int .i64 s9v.1, str s12v.1, str s15v.1, str s18v.1], obj b1v 25 [.int .i64 0, .int .i64 0, .int .i64 0, str ([] : List UInt8), str ([] : List UInt8), str ([] : List UInt8)], F]) (Ent.refl _) ?_
 refine simL_val (q_asg rfl rfl) rfl rfl rfl ?_
 refine simL_nil ?_
 refine nrm_then ?_
 refine sim_rtn ?_
 refine rtn_then ?_
 exact rtn_fnC (vs := [.agg #[.int .i64 0, .int .i64 0, .int .i64 0, str ([] : List UInt8), str ([] : List UInt8), str ([] : List UInt8)], .int .i64 s25v]) () rfl ⟨⟨b1v, rfl, load_agg 1 Try.isAgg25 Try.sizeOf25 rfl rfl⟩, rfl, trivial⟩ rfl (.sel 2 rfl (.nil _))

def synodref_Kept.f (k : Nat) (x0 : List UInt8) (z0 : List UInt8) (x1 : List UInt8) : Option (Bool) := (synodref_SameBytes.f k x0 x1).bind fun s1v => ((if (s1v && (decide ((x0.length : Int) = (x1.length : Int)))) = true then (if 0 ≤ (0 : Int) ∧ (0 : Int) ≤ IntKind.i64.wrap ((x1.length : Int) + 1) ∧ IntKind.i64.wrap ((x1.length : Int) + 1) ≤ ((x0 ++ z0).length : Int) then (if 0 ≤ (x1.length : Int) ∧ (x1.length : Int) < ((cut (x0 ++ z0) (0 : Int) (IntKind.i64.wrap ((x1.length : Int) + 1))).length : Int) then (some (decide ((((cut (x0 ++ z0) (0 : Int) (IntKind.i64.wrap ((x1.length : Int) + 1))).getD (x1.length : Int).toNat 0).toNat : Int) = (201 : Int)))) else none) else none) else (some false)).bind fun s4v => (some s4v))
theorem synodref_Kept.calls (W : World) (F : HA) (k : Nat) (a0 : Option Addr) (c0 : Nat) (x0 z0 : List UInt8) (a1 : Option Addr) (c1 : Nat) (x1 : List UInt8) (h0 : Rd F a0 (encB (x0 ++ z0))) (hc0 : (x0 ++ z0).length ≤ c0) (hm0 : c0 ≤ maxLen) (h1 : Rd F a1 (encB x1)) (hc1 : x1.length ≤ c1) (hm1 : c1 ≤ maxLen) :
    Fn Try.prog W 31 [.slice a0 x0.length c0, .slice a1 x1.length c1] [] F (synodref_Kept.f k x0 z0 x1) (fun (r : Bool) (y : Unit) => .bool r) (fun r y => []) := by
 unfold synodref_Kept.f
 refine fn_intro 29 Try.func31 rfl Try.ntmps31 rfl ?_
 refine sim_seq ?_
 refine sim_region ?_
 refine simL_val (q_asg rfl rfl) rfl rfl rfl ?_
 refine simL_nil ?_
 refine nrm_then ?_
 refine sim_seq ?_
 refine sim_region ?_
 refine simL_val (q_move rfl rfl) rfl rfl rfl ?_
 refine simL_val (q_move rfl rfl) rfl rfl rfl ?_
 refine simL_bind (fun s1v hs3v => ?_)
 refine simL_eff (re_call (vs := [.slice a0 x0.length c0, .slice a1 x1.length c1]) (cap := []) (A := []) (rst := [F]) rfl rfl rfl rfl rfl rfl Try.call25 (.sel 0 rfl (.nil _)) (synodref_SameBytes.calls _ _ k a0 c0 x0 a1 c1 x1 ((rd_front h0).lend 0 rfl) (front_len hc0) hm0 (h1.lend 0 rfl) hc1 hm1) hs3v) rfl rfl rfl ?_
 intro y2v
 refine simL_val (q_asg rfl rfl) rfl rfl rfl ?_
 refine simL_nil ?_
 refine nrm_then ?_
 refine sim_seq ?_
 refine sim_region ?_
 refine simL_val (q_move rfl rfl) rfl rfl rfl ?_
 refine simL_val (q_move rfl rfl) rfl rfl rfl ?_
 refine simL_valc (b := s1v) (fun hb23v => RQ.sub (E' := [(0, .slice a0 x0.length c0)]) ⟨rfl, trivial⟩ (q_move rfl rfl)) rfl rfl rfl rfl rfl ?_
 refine simL_valc (b := s1v) (fun hb22v => RQ.sub (E' := [(11, .slice a0 x0.length c0)]) ⟨lk_cv rfl hb22v, trivial⟩ (q_len rfl rfl rfl Try.underlying27)) rfl rfl rfl rfl rfl ?_
 refine simL_valc (b := s1v) (fun hb21v => RQ.sub (E' := [(1, .slice a1 x1.length c1)]) ⟨rfl, trivial⟩ (q_move rfl rfl)) rfl rfl rfl rfl rfl ?_
 refine simL_valc (b := s1v) (fun hb20v => RQ.sub (E' := [(13, .slice a1 x1.length c1)]) ⟨lk_cv rfl hb20v, trivial⟩ (q_len rfl rfl rfl Try.underlying27)) rfl rfl rfl rfl rfl ?_
 refine simL_valc (b := s1v) (fun hb19v => RQ.sub (E' := [(12, .int .i64 (x0.length : Int)), (14, .int .i64 (x1.length : Int))]) ⟨lk_cv rfl hb19v, lk_cv rfl hb19v, trivial⟩ (q_eql rfl rfl rfl)) rfl rfl rfl rfl rfl ?_
 refine simL_val (q_and rfl rfl rfl) rfl rfl rfl ?_
 refine simL_val (q_move rfl rfl) rfl rfl rfl ?_
 refine simL_cut' 11 (S := Bool) (Unit) (fun s y => [(28, .bool s)]) (fun s y => [F]) ?_ ?_
 refine simL_caseb (fun hb17v => ?_) (fun hb18v => ?_)
 rw [hb17v]
 refine simL_valg (q_move rfl rfl) rfl rfl rfl rfl rfl rfl ?_
 refine simL_valg (q_move rfl rfl) rfl rfl rfl rfl rfl rfl ?_
 refine simL_valg (q_len rfl rfl rfl Try.underlying27) rfl rfl rfl rfl rfl rfl ?_
 refine simL_valg (q_add rfl rfl rfl) rfl rfl rfl rfl rfl rfl ?_
 refine simL_ask (fun hb6v => ?_)
 obtain ⟨a7v, c8v, hS9v, hr10v, hc11v, hm12v⟩ := slice_pre (lo := (0 : Int)) (hi := IntKind.i64.wrap ((x1.length : Int) + 1)) h0 hc0 hb6v
 refine simL_valg (q_sub_ro (l := (x0 ++ z0)) (lo' := (0 : Int)) (hi' := IntKind.i64.wrap ((x1.length : Int) + 1)) rfl rfl rfl rfl Try.underlying27 Try.sizeOf5 (.inr ⟨_, rfl⟩) (.inl ⟨rfl, rfl⟩) hb6v hc0 hS9v) rfl rfl rfl rfl rfl rfl ?_
 refine simL_valg (q_move rfl rfl) rfl rfl rfl rfl rfl rfl ?_
 refine simL_valg (q_len rfl rfl rfl Try.underlying27) rfl rfl rfl rfl rfl rfl ?_
 refine simL_ask (fun hi13v => ?_)
 obtain ⟨b14v, b14vo, ha15v⟩ := hr10v.pos (encB_ne (j := (x1.length : Int).toNat) (by omega))
 refine simL_valg (q_idx1 rfl rfl rfl ha15v Try.underlying27 Try.sizeOf5 hi13v.1 hi13v.2) rfl rfl rfl rfl rfl rfl ?_
 refine simL_valg (q_load rfl rfl Try.isAgg5 (hr10v.cell 0 rfl ha15v (encB_get (by omega)))) rfl rfl rfl rfl rfl rfl ?_
 refine simL_valg (q_eql rfl rfl rfl) rfl rfl rfl rfl rfl rfl ?_
 refine simL_val (q_pick rfl rfl rfl rfl rfl) rfl rfl rfl ?_
 refine simL_nil ?_
 exact nrm_cut (s := decide ((((cut (x0 ++ z0) (0 : Int) (IntKind.i64.wrap ((x1.length : Int) + 1))).getD (x1.length : Int).toNat 0).toNat : Int) = (201 : Int))) () ⟨rfl, trivial⟩ (.sel 0 rfl (.nil _))
 rw [hb18v]
 refine simL_skipd rfl rfl rfl rfl rfl rfl ?_
 refine simL_skipd rfl rfl rfl rfl rfl rfl ?_
 refine simL_skipd rfl rfl rfl rfl rfl rfl ?_
 refine simL_skipd rfl rfl rfl rfl rfl rfl ?_
 refine simL_skipd rfl rfl rfl rfl rfl rfl ?_
 refine simL_skipd rfl rfl rfl rfl rfl rfl ?_
 refine simL_skipd rfl rfl rfl rfl rfl rfl ?_
 refine simL_skipd rfl rfl rfl rfl rfl rfl ?_
 refine simL_skipd rfl rfl rfl rfl rfl rfl ?_
 refine simL_skipd rfl rfl rfl rfl rfl rfl ?_
 refine simL_val (q_pick rfl rfl rfl rfl rfl) rfl rfl rfl ?_
 refine simL_nil ?_
 exact nrm_cut (s := false) () ⟨rfl, trivial⟩ (.sel 0 rfl (.nil _))
 intro s4v y5v
 refine simL_val (q_asg rfl rfl) rfl rfl rfl ?_
 refine simL_nil ?_
 refine nrm_then ?_
 refine sim_rtn ?_
 exact rtn_fn () rfl rfl rfl (.sel 0 rfl (.nil _))

def synodlaw3_CodecCommands.l0 : Nat → List UInt8 → Int → Option (Unit)
  | 0, _, _ => none
  | k + 1, z108v, z109v => if z109v < (z108v.length : Int) then (if 0 ≤ z109v ∧ z109v < (z108v.length : Int) then (synodlaw3_CodecCommands.l0 k (z108v.set z109v.toNat 255) (IntKind.i64.wrap (z109v + 1))) else none) else (some ())
def synodlaw3_CodecCommands.f (k : Nat) (x0_0 : Int) (x0_1 : Int) (x0_2 : Int) (x0_3 : List UInt8) (x0_4 : List UInt8) (x0_5 : List UInt8) (x1 : List UInt8) : Option (Bool) := (synodlaw3_first.f k).bind fun s2v => (if ((!s2v) || (!((((decide ((x0_3.length : Int) ≤ (20000 : Int))) && (decide ((x0_4.length : Int) ≤ (20000 : Int)))) && (decide ((x0_5.length : Int) ≤ (20000 : Int)))) && (decide ((x1.length : Int) ≤ (20000 : Int)))))) = true then (some s2v) else ((codec_Commands_Put.f k x0_0 x0_1 x0_2 x0_3 x0_4 x0_5).bind fun s8v => ((synodref3_PutCommand.f k x0_0 x0_1 x0_2 x0_3 x0_4 x0_5).bind fun s11v => ((synodref_SameBytes.f k s8v.1 s11v.1).bind fun s22v => (if (((!s22v) || (!decide ((synodref_Num.v s8v.2) = s11v.2))) || (!decide ((synodref_Num.v (codec_Commands_Check.v x0_0 x0_1 x0_2 x0_3 x0_4 x0_5)) = (synodref3_CheckCommand.v x0_0 x0_1 x0_2 x0_3 x0_4 x0_5)))) = true then (some false) else ((synodref_Lent.f x1).bind fun s63v => ((codec_Commands_Get.f k s63v.1).bind fun s70v => ((synodref3_GetCommand.f k x1).bind fun s74v => ((synodref_Kept.f k s63v.1 s63v.2 x1).bind fun s82v => ((if (!(decide (s70v.1 = s74v.1) && (decide (s70v.2.1 = s74v.2.1) && (decide (s70v.2.2.1 = s74v.2.2.1) && (decide (s70v.2.2.2.1 = s74v.2.2.2.1) && (decide (s70v.2.2.2.2.1 = s74v.2.2.2.2.1) && (decide (s70v.2.2.2.2.2.1 = s74v.2.2.2.2.2.1)))))))) = true then (some true) else ((synodref_Num.f s70v.2.2.2.2.2.2).bind fun s87v => (some (!decide (s87v = s74v.2.2.2.2.2.2))))).bind fun s85v => (if (s85v || (!s82v)) = true then (some false) else (if s11v.2 = (0 : Int) then ((codec_Commands_Get.f k s8v.1).bind fun s100v => ((synodlaw3_CodecCommands.l0 k s8v.1 0).bind fun s104v => ((if (decide (s100v.1 = x0_0) && (decide (s100v.2.1 = x0_1) && (decide (s100v.2.2.1 = x0_2) && (decide (s100v.2.2.2.1 = x0_3) && (decide (s100v.2.2.2.2.1 = x0_4) && (decide (s100v.2.2.2.2.2.1 = x0_5))))))) = true then ((synodref_Num.f s100v.2.2.2.2.2.2).bind fun s119v => (some (decide (s119v = (0 : Int))))) else (some false)).bind fun s117v => (some (s117v && (decide (s100v.1 = x0_0) && (decide (s100v.2.1 = x0_1) && (decide (s100v.2.2.1 = x0_2) && (decide (s100v.2.2.2.1 = x0_3) && (decide (s100v.2.2.2.2.1 = x0_4) && (decide (s100v.2.2.2.2.2.1 = x0_5)))))))))))) else (some true)))))))))))))
theorem synodlaw3_CodecCommands.calls (W : World) (F : HA) (k : Nat) (x0_0 : Int) (x0_1 : Int) (x0_2 : Int) (x0_3 : List UInt8) (x0_4 : List UInt8) (x0_5 : List UInt8) (a1 : Option Addr) (c1 : Nat) (x1 : List UInt8) (h1 : Rd F a1 (encB x1)) (hc1 : x1.length ≤ c1) (hm1 : c1 ≤ maxLen) :
    Fn Try.prog W 8 [.agg #[.int .i64 x0_0, .int .i64 x0_1, .int .i64 x0_2, str x0_3, str x0_4, str x0_5], .slice a1 x1.length c1] [] F (synodlaw3_CodecCommands.f k x0_0 x0_1 x0_2 x0_3 x0_4 x0_5 x1) (fun (r : Bool) (y : Unit) => .bool r) (fun r y => []) := by
 unfold synodlaw3_CodecCommands.f
 refine fn_intro 147 Try.func8 rfl Try.ntmps8 rfl ?_
 refine sim_seq ?_
 refine sim_region ?_
 refine simL_eff (re_box rfl rfl rfl) rfl rfl rfl ?_
 intro b1v
 refine simL_val (q_asg rfl rfl) rfl rfl rfl ?_
 refine simL_nil ?_
 refine nrm_then ?_
 refine sim_seq ?_
 refine sim_region ?_
 refine simL_bind (fun s2v hs4v => ?_)
 refine simL_eff (re_call (vs := []) (cap := []) (A := []) (rst := [obj b1v 25 [.int .i64 x0_0, .int .i64 x0_1, .int .i64 x0_2, str x0_3, str x0_4, str x0_5], F]) rfl rfl rfl rfl rfl rfl Try.call14 (.sel 0 rfl (.sel 0 rfl (.nil _))) (synodlaw3_first.calls _ _ k  ) hs4v) rfl rfl rfl ?_
 intro y3v
 refine simL_val (q_asg rfl rfl) rfl rfl rfl ?_
 refine simL_nil ?_
 refine nrm_then ?_
 refine sim_seq ?_
 refine sim_region ?_
 refine simL_val (q_fa rfl rfl Try.underlying25 rfl rfl Try.sizeOf9 rfl) rfl rfl rfl ?_
 refine simL_val (q_load rfl rfl Try.isAgg9 (.obj 0 rfl rfl)) rfl rfl rfl ?_
 refine simL_val (q_lens rfl rfl rfl Try.underlying9) rfl rfl rfl ?_
 refine simL_val (q_leq rfl rfl rfl) rfl rfl rfl ?_
 refine simL_val (q_move rfl rfl) rfl rfl rfl ?_
 refine simL_valc (b := decide ((x0_3.length : Int) ≤ (20000 : Int))) (fun hb141v => RQ.sub (E' := [(2, .pointer (some ⟨b1v, 0, none⟩))]) ⟨rfl, trivial⟩ (q_fa rfl rfl Try.underlying25 rfl rfl Try.sizeOf9 rfl)) rfl rfl rfl rfl rfl ?_
 refine simL_valc (b := decide ((x0_3.length : Int) ≤ (20000 : Int))) (fun hb140v => RQ.sub (E' := [(30, .pointer (some ⟨b1v, 4, none⟩))]) ⟨lk_cv rfl hb140v, trivial⟩ (q_load rfl rfl Try.isAgg9 (.obj 0 rfl rfl))) rfl rfl rfl rfl rfl ?_
 refine simL_valc (b := decide ((x0_3.length : Int) ≤ (20000 : Int))) (fun hb139v => RQ.sub (E' := [(31, str x0_4)]) ⟨lk_cv rfl hb139v, trivial⟩ (q_lens rfl rfl rfl Try.underlying9)) rfl rfl rfl rfl rfl ?_
 refine simL_valc (b := decide ((x0_3.length : Int) ≤ (20000 : Int))) (fun hb138v => RQ.sub (E' := [(32, .int .i64 (x0_4.length : Int))]) ⟨lk_cv rfl hb138v, trivial⟩ (q_leq rfl rfl rfl)) rfl rfl rfl rfl rfl ?_
 refine simL_val (q_and rfl rfl rfl) rfl rfl rfl ?_
 refine simL_val (q_move rfl rfl) rfl rfl rfl ?_
 refine simL_valc (b := (decide ((x0_3.length : Int) ≤ (20000 : Int))) && (decide ((x0_4.length : Int) ≤ (20000 : Int)))) (fun hb137v => RQ.sub (E' := [(2, .pointer (some ⟨b1v, 0, none⟩))]) ⟨rfl, trivial⟩ (q_fa rfl rfl Try.underlying25 rfl rfl Try.sizeOf9 rfl)) rfl rfl rfl rfl rfl ?_
 refine simL_valc (b := (decide ((x0_3.length : Int) ≤ (20000 : Int))) && (decide ((x0_4.length : Int) ≤ (20000 : Int)))) (fun hb136v => RQ.sub (E' := [(36, .pointer (some ⟨b1v, 5, none⟩))]) ⟨lk_cv rfl hb136v, trivial⟩ (q_load rfl rfl Try.isAgg9 (.obj 0 rfl rfl))) rfl rfl rfl rfl rfl ?_
 refine simL_valc (b := (decide ((x0_3.length : Int) ≤ (20000 : Int))) && (decide ((x0_4.length : Int) ≤ (20000 : Int)))) (fun hb135v => RQ.sub (E' := [(37, str x0_5)]) ⟨lk_cv rfl hb135v, trivial⟩ (q_lens rfl rfl rfl Try.underlying9)) rfl rfl rfl rfl rfl ?_
 refine simL_valc (b := (decide ((x0_3.length : Int) ≤ (20000 : Int))) && (decide ((x0_4.length : Int) ≤ (20000 : Int)))) (fun hb134v => RQ.sub (E' := [(38, .int .i64 (x0_5.length : Int))]) ⟨lk_cv rfl hb134v, trivial⟩ (q_leq rfl rfl rfl)) rfl rfl rfl rfl rfl ?_
 refine simL_val (q_and rfl rfl rfl) rfl rfl rfl ?_
 refine simL_val (q_move rfl rfl) rfl rfl rfl ?_
 refine simL_valc (b := ((decide ((x0_3.length : Int) ≤ (20000 : Int))) && (decide ((x0_4.length : Int) ≤ (20000 : Int)))) && (decide ((x0_5.length : Int) ≤ (20000 : Int)))) (fun hb133v => RQ.sub (E' := [(1, .slice a1 x1.length c1)]) ⟨rfl, trivial⟩ (q_move rfl rfl)) rfl rfl rfl rfl rfl ?_
 refine simL_valc (b := ((decide ((x0_3.length : Int) ≤ (20000 : Int))) && (decide ((x0_4.length : Int) ≤ (20000 : Int)))) && (decide ((x0_5.length : Int) ≤ (20000 : Int)))) (fun hb132v => RQ.sub (E' := [(42, .slice a1 x1.length c1)]) ⟨lk_cv rfl hb132v, trivial⟩ (q_len rfl rfl rfl Try.underlying27)) rfl rfl rfl rfl rfl ?_
 refine simL_valc (b := ((decide ((x0_3.length : Int) ≤ (20000 : Int))) && (decide ((x0_4.length : Int) ≤ (20000 : Int)))) && (decide ((x0_5.length : Int) ≤ (20000 : Int)))) (fun hb131v => RQ.sub (E' := [(43, .int .i64 (x1.length : Int))]) ⟨lk_cv rfl hb131v, trivial⟩ (q_leq rfl rfl rfl)) rfl rfl rfl rfl rfl ?_
 refine simL_val (q_and rfl rfl rfl) rfl rfl rfl ?_
 refine simL_val (q_asg rfl rfl) rfl rfl rfl ?_
 refine simL_nil ?_
 refine nrm_then ?_
 refine sim_seq ?_
 refine sim_seq ?_
 refine sim_region ?_
 refine simL_val (q_move rfl rfl) rfl rfl rfl ?_
 refine simL_val (q_not rfl rfl) rfl rfl rfl ?_
 refine simL_val (q_move rfl rfl) rfl rfl rfl ?_
 refine simL_valc (b := !s2v) (fun hb130v => RQ.sub (E' := [(6, .bool ((((decide ((x0_3.length : Int) ≤ (20000 : Int))) && (decide ((x0_4.length : Int) ≤ (20000 : Int)))) && (decide ((x0_5.length : Int) ≤ (20000 : Int)))) && (decide ((x1.length : Int) ≤ (20000 : Int)))))]) ⟨rfl, trivial⟩ (q_move rfl rfl)) rfl rfl rfl rfl rfl ?_
 refine simL_valc (b := !s2v) (fun hb129v => RQ.sub (E' := [(49, .bool ((((decide ((x0_3.length : Int) ≤ (20000 : Int))) && (decide ((x0_4.length : Int) ≤ (20000 : Int)))) && (decide ((x0_5.length : Int) ≤ (20000 : Int)))) && (decide ((x1.length : Int) ≤ (20000 : Int)))))]) ⟨lk_cv rfl hb129v, trivial⟩ (q_not rfl rfl)) rfl rfl rfl rfl rfl ?_
 refine simL_val (q_or rfl rfl rfl) rfl rfl rfl ?_
 refine simL_nil ?_
 refine nrm_then ?_
 refine sim_condb rfl (fun h5v => ?_) (fun h6v => ?_)
 refine sim_seq ?_
 refine sim_region ?_
 refine simL_val (q_move rfl rfl) rfl rfl rfl ?_
 refine simL_val (q_asg rfl rfl) rfl rfl rfl ?_
 refine simL_nil ?_
 refine nrm_then ?_
 refine sim_rtn ?_
 refine rtn_then ?_
 exact rtn_fn () rfl rfl rfl (.sel 1 rfl (.nil _))
 refine sim_skip ?_
 refine nrm_then ?_
 refine sim_seq ?_
 refine sim_region ?_
 refine simL_val (q_build (v := .agg #[]) rfl rfl (fun _ => by kernel_rfl)) rfl rfl rfl ?_
 refine simL_eff (re_alloc rfl Try.zeroValue42 rfl) rfl rfl rfl ?_
 intro b7v
 refine simL_do (re_store 0 rfl rfl rfl Try.sizeOf42 rfl rfl (one_of (by rfl)) rfl rfl) rfl rfl ?_
 intro _
 refine simL_nil ?_
 refine nrm_then ?_
 refine sim_seq ?_
 refine sim_region ?_
 refine simL_val (q_loado 0 rfl rfl Try.isAgg42 Try.sizeOf42 rfl rfl) rfl rfl rfl ?_
 refine simL_val (q_loado 1 rfl rfl Try.isAgg25 Try.sizeOf25 rfl rfl) rfl rfl rfl ?_
 refine simL_bind (fun s8v hs10v => ?_)
 refine simL_eff (re_call (vs := [.agg #[], .agg #[.int .i64 x0_0, .int .i64 x0_1, .int .i64 x0_2, str x0_3, str x0_4, str x0_5]]) (cap := []) (A := []) (rst := [obj b7v 42 [], obj b1v 25 [.int .i64 x0_0, .int .i64 x0_1, .int .i64 x0_2, str x0_3, str x0_4, str x0_5], F]) rfl rfl rfl rfl rfl rfl Try.call52 (.sel 0 rfl (.sel 0 rfl (.sel 0 rfl (.nil _)))) (codec_Commands_Put.calls _ _ k x0_0 x0_1 x0_2 x0_3 x0_4 x0_5 ) hs10v) rfl rfl rfl ?_
 intro y9v
 refine simL_val (q_move rfl rfl) rfl rfl rfl ?_
 refine simL_val (q_ext rfl rfl rfl) rfl rfl rfl ?_
 refine simL_val (q_ext rfl rfl rfl) rfl rfl rfl ?_
 refine simL_val (q_asg rfl rfl) rfl rfl rfl ?_
 refine simL_val (q_asg rfl rfl) rfl rfl rfl ?_
 refine simL_nil ?_
 refine nrm_then ?_
 refine sim_seq ?_
 refine sim_region ?_
 refine simL_val (q_loado 2 rfl rfl Try.isAgg25 Try.sizeOf25 rfl rfl) rfl rfl rfl ?_
 refine simL_bind (fun s11v hs13v => ?_)
 refine simL_eff (re_call (vs := [.agg #[.int .i64 x0_0, .int .i64 x0_1, .int .i64 x0_2, str x0_3, str x0_4, str x0_5]]) (cap := []) (A := []) (rst := [Row 5 1 y9v.1 s8v.1.length y9v.2 (encB s8v.1), obj b7v 42 [], obj b1v 25 [.int .i64 x0_0, .int .i64 x0_1, .int .i64 x0_2, str x0_3, str x0_4, str x0_5], F]) rfl rfl rfl rfl rfl rfl Try.call53 (.sel 0 rfl (.sel 0 rfl (.sel 0 rfl (.sel 0 rfl (.nil _))))) (synodref3_PutCommand.calls _ _ k x0_0 x0_1 x0_2 x0_3 x0_4 x0_5 ) hs13v) rfl rfl rfl ?_
 intro y12v
 refine simL_val (q_move rfl rfl) rfl rfl rfl ?_
 refine simL_val (q_ext rfl rfl rfl) rfl rfl rfl ?_
 refine simL_val (q_ext rfl rfl rfl) rfl rfl rfl ?_
 refine simL_val (q_asg rfl rfl) rfl rfl rfl ?_
 refine simL_val (q_asg rfl rfl) rfl rfl rfl ?_
 refine simL_nil ?_
 refine nrm_then ?_
 refine sim_seq ?_
 refine sim_region ?_
 refine simL_val (q_move rfl rfl) rfl rfl rfl ?_
 refine simL_val (q_move rfl rfl) rfl rfl rfl ?_
 refine simL_bind (fun s22v hs24v => ?_)
 refine simL_lend 1 rfl (fun hq14v hq15v hq16v hq17v => ?_)
 refine simL_lend 0 rfl (fun hq18v hq19v hq20v hq21v => ?_)
 refine simL_eff (re_call (vs := [.slice y9v.1 s8v.1.length y9v.2, .slice y12v.1 s11v.1.length y12v.2]) (cap := []) (A := []) (rst := [Row 5 1 y12v.1 s11v.1.length y12v.2 (encB s11v.1), Row 5 1 y9v.1 s8v.1.length y9v.2 (encB s8v.1), obj b7v 42 [], obj b1v 25 [.int .i64 x0_0, .int .i64 x0_1, .int .i64 x0_2, str x0_3, str x0_4, str x0_5], F]) rfl rfl rfl rfl rfl rfl Try.call25 (.sel 0 rfl (.sel 0 rfl (.sel 0 rfl (.sel 0 rfl (.sel 0 rfl (.nil _)))))) (synodref_SameBytes.calls _ _ k y9v.1 y9v.2 s8v.1 y12v.1 y12v.2 s11v.1 (hq14v.lend 1 rfl) hq15v hq16v (hq18v.lend 0 rfl) hq19v hq20v) hs24v) rfl rfl rfl ?_
 intro y23v
 refine simL_val (q_asg rfl rfl) rfl rfl rfl ?_
 refine simL_nil ?_
 refine nrm_then ?_
 refine sim_seq ?_
 refine sim_seq ?_
 refine sim_draw (Γ := Unit) () [[], [0], [0, 1], [0, 1, 2], [0, 1, 2, 3], [0, 1, 2], [0, 1, 2, 3, 4, 5], [0, 1, 2, 3, 4, 5, 6], [0, 1, 2, 3, 4, 5, 6, 7], [0, 1, 2, 3, 4, 5, 6, 7, 8], [0, 1, 2, 3, 4, 5, 6, 7, 8], [0, 1, 2, 3, 4, 5, 6, 7, 8, 9, 10], [0, 1, 2, 3, 4, 5, 6, 7, 8, 9, 10, 11], [0, 1, 2, 3, 4, 5, 6, 7, 8], [0, 1, 2, 3, 4, 5, 6, 7, 8, 9, 10, 11, 12, 13], [0, 1, 2, 3, 4, 5, 6, 7, 8, 9, 10, 11, 12, 13, 14], [0, 1, 2, 3, 4, 5, 6, 7, 8, 9, 10, 11, 12, 13, 14, 15]] [] [0, 1, 2, 3, 4, 5, 6, 7, 8, 9, 10, 11, 12, 13, 14, 15, 16] (fun i => [[0], [0], [0], [0], [0], [0], [0], [0], [0], [0], [0], [0], [0], [0], [0], [0], [0]].getD i []) (fun i => [[], [], [], [], [], [], [], [], [], [], [], [], [], [], [], [], []].getD i []) (fun γ i => [.bool s22v, .bool (!s22v), .bool (!s22v), cv ((!s22v) == false) (.int .i64 s8v.2), cv ((!s22v) == false) (.int .i64 (synodref_Num.v s8v.2)), cv ((!s22v) == false) (.int .i64 s11v.2), cv ((!s22v) == false) (.bool (!decide ((synodref_Num.v s8v.2) = s11v.2))), .bool ((!s22v) || (!decide ((synodref_Num.v s8v.2) = s11v.2))), .bool ((!s22v) || (!decide ((synodref_Num.v s8v.2) = s11v.2))), cv (((!s22v) || (!decide ((synodref_Num.v s8v.2) = s11v.2))) == false) (.agg #[]), cv (((!s22v) || (!decide ((synodref_Num.v s8v.2) = s11v.2))) == false) (.agg #[.int .i64 x0_0, .int .i64 x0_1, .int .i64 x0_2, str x0_3, str x0_4, str x0_5]), cv (((!s22v) || (!decide ((synodref_Num.v s8v.2) = s11v.2))) == false) (.int .i64 (codec_Commands_Check.v x0_0 x0_1 x0_2 x0_3 x0_4 x0_5)), cv (((!s22v) || (!decide ((synodref_Num.v s8v.2) = s11v.2))) == false) (.int .i64 (synodref_Num.v (codec_Commands_Check.v x0_0 x0_1 x0_2 x0_3 x0_4 x0_5))), cv (((!s22v) || (!decide ((synodref_Num.v s8v.2) = s11v.2))) == false) (.agg #[.int .i64 x0_0, .int .i64 x0_1, .int .i64 x0_2, str x0_3, str x0_4, str x0_5]), cv (((!s22v) || (!decide ((synodref_Num.v s8v.2) = s11v.2))) == false) (.int .i64 (synodref3_CheckCommand.v x0_0 x0_1 x0_2 x0_3 x0_4 x0_5)), cv (((!s22v) || (!decide ((synodref_Num.v s8v.2) = s11v.2))) == false) (.bool (!decide ((synodref_Num.v (codec_Commands_Check.v x0_0 x0_1 x0_2 x0_3 x0_4 x0_5)) = (synodref3_CheckCommand.v x0_0 x0_1 x0_2 x0_3 x0_4 x0_5)))), .bool (((!s22v) || (!decide ((synodref_Num.v s8v.2) = s11v.2))) || (!decide ((synodref_Num.v (codec_Commands_Check.v x0_0 x0_1 x0_2 x0_3 x0_4 x0_5)) = (synodref3_CheckCommand.v x0_0 x0_1 x0_2 x0_3 x0_4 x0_5))))].getD i undef) (fun j γ => [[Row 5 1 y12v.1 s11v.1.length y12v.2 (encB s11v.1), Row 5 1 y9v.1 s8v.1.length y9v.2 (encB s8v.1), obj b7v 42 [], obj b1v 25 [.int .i64 x0_0, .int .i64 x0_1, .int .i64 x0_2, str x0_3, str x0_4, str x0_5], F]].getD j []) (fun γ => [(1, .slice a1 x1.length c1), (2, .pointer (some ⟨b1v, 0, none⟩)), (7, .pointer (some ⟨b7v, 0, none⟩)), (8, .slice y9v.1 s8v.1.length y9v.2), (11, .int .i64 s11v.2), (84, .bool (((!s22v) || (!decide ((synodref_Num.v s8v.2) = s11v.2))) || (!decide ((synodref_Num.v (codec_Commands_Check.v x0_0 x0_1 x0_2 x0_3 x0_4 x0_5)) = (synodref3_CheckCommand.v x0_0 x0_1 x0_2 x0_3 x0_4 x0_5)))))]) mixed (by decide) (by decide) (by decide) (by decide) (by decide) (by decide) (by decide) 147 rfl (by decide) (by decide) (by decide) (Ent.refl _) ?_ ?_ (fun _ => ⟨rfl, rfl, rfl, rfl, rfl, rfl, trivial⟩) ?_
 exact (All.cons (fun γ => (All.cons (QOb.plain [(12, .bool s22v)] rfl rfl (.o rfl (by decide) .nil) (q_move rfl rfl) rfl) All.nil)) (All.cons (fun γ => (All.cons (QOb.plain [(68, .bool s22v)] rfl rfl (.w 0 rfl rfl rfl .nil) (q_not rfl rfl) rfl) All.nil)) (All.cons (fun γ => (All.cons (QOb.plain [(69, .bool (!s22v))] rfl rfl (.w 1 rfl rfl rfl .nil) (q_move rfl rfl) rfl) All.nil)) (All.cons (fun γ => (All.cons (QOb.grd (b := !s22v) [(9, .int .i64 s8v.2), (70, .bool (!s22v))] rfl rfl rfl rfl (.o rfl (by decide) (.w 2 rfl rfl rfl .nil)) (fun hb37v => RQ.sub (E' := [(9, .int .i64 s8v.2)]) ⟨rfl, trivial⟩ (q_move rfl rfl)) rfl) All.nil)) (All.cons (fun γ => (All.cons (QOb.grd (b := !s22v) [(70, .bool (!s22v)), (71, cv ((!s22v) == false) (.int .i64 s8v.2))] rfl rfl rfl rfl (.w 2 rfl rfl rfl (.w 3 rfl rfl rfl .nil)) (fun hb41v => RQ.sub (E' := [(71, .int .i64 s8v.2)]) ⟨lk_cv rfl hb41v, trivial⟩ (RE.rq (re_call (vs := [.int .i64 s8v.2]) (cap := []) (A := []) (rst := [Row 5 1 y12v.1 s11v.1.length y12v.2 (encB s11v.1), Row 5 1 y9v.1 s8v.1.length y9v.2 (encB s8v.1), obj b7v 42 [], obj b1v 25 [.int .i64 x0_0, .int .i64 x0_1, .int .i64 x0_2, str x0_3, str x0_4, str x0_5], F]) rfl rfl rfl rfl rfl rfl Try.call26 (.sel 0 rfl (.sel 0 rfl (.sel 0 rfl (.sel 0 rfl (.sel 0 rfl (.nil _)))))) (synodref_Num.calls _ _ s8v.2 ) (synodref_Num.tot s8v.2)) (fun _ => rfl) (fun _ => (.sel 0 rfl (.sel 0 rfl (.sel 0 rfl (.sel 0 rfl (.sel 0 rfl (.nil _))))))))) rfl) All.nil)) (All.cons (fun γ => (All.cons (QOb.grd (b := !s22v) [(11, .int .i64 s11v.2), (70, .bool (!s22v))] rfl rfl rfl rfl (.o rfl (by decide) (.w 2 rfl rfl rfl .nil)) (fun hb42v => RQ.sub (E' := [(11, .int .i64 s11v.2)]) ⟨rfl, trivial⟩ (q_move rfl rfl)) rfl) All.nil)) (All.cons (fun γ => (All.cons (QOb.grd (b := !s22v) [(70, .bool (!s22v)), (72, cv ((!s22v) == false) (.int .i64 (synodref_Num.v s8v.2))), (73, cv ((!s22v) == false) (.int .i64 s11v.2))] rfl rfl rfl rfl (.w 2 rfl rfl rfl (.w 4 rfl rfl rfl (.w 5 rfl rfl rfl .nil))) (fun hb43v => RQ.sub (E' := [(72, .int .i64 (synodref_Num.v s8v.2)), (73, .int .i64 s11v.2)]) ⟨lk_cv rfl hb43v, lk_cv rfl hb43v, trivial⟩ (q_neq rfl rfl rfl)) rfl) All.nil)) (All.cons (fun γ => (All.cons (QOb.plain [(70, .bool (!s22v)), (74, cv ((!s22v) == false) (.bool (!decide ((synodref_Num.v s8v.2) = s11v.2))))] rfl rfl (.w 2 rfl rfl rfl (.w 6 rfl rfl rfl .nil)) (q_or rfl rfl rfl) rfl) All.nil)) (All.cons (fun γ => (All.cons (QOb.plain [(75, .bool ((!s22v) || (!decide ((synodref_Num.v s8v.2) = s11v.2))))] rfl rfl (.w 7 rfl rfl rfl .nil) (q_move rfl rfl) rfl) All.nil)) (All.cons (fun γ => (All.cons (QOb.grd (b := (!s22v) || (!decide ((synodref_Num.v s8v.2) = s11v.2))) [(7, .pointer (some ⟨b7v, 0, none⟩)), (76, .bool ((!s22v) || (!decide ((synodref_Num.v s8v.2) = s11v.2))))] rfl rfl rfl rfl (.o rfl (by decide) (.w 8 rfl rfl rfl .nil)) (fun hb44v => RQ.sub (E' := [(7, .pointer (some ⟨b7v, 0, none⟩))]) ⟨rfl, trivial⟩ (q_loado 2 rfl rfl Try.isAgg42 Try.sizeOf42 rfl rfl)) rfl) All.nil)) (All.cons (fun γ => (All.cons (QOb.grd (b := (!s22v) || (!decide ((synodref_Num.v s8v.2) = s11v.2))) [(2, .pointer (some ⟨b1v, 0, none⟩)), (76, .bool ((!s22v) || (!decide ((synodref_Num.v s8v.2) = s11v.2))))] rfl rfl rfl rfl (.o rfl (by decide) (.w 8 rfl rfl rfl .nil)) (fun hb45v => RQ.sub (E' := [(2, .pointer (some ⟨b1v, 0, none⟩))]) ⟨rfl, trivial⟩ (q_loado 3 rfl rfl Try.isAgg25 Try.sizeOf25 rfl rfl)) rfl) All.nil)) (All.cons (fun γ => (All.cons (QOb.grd (b := (!s22v) || (!decide ((synodref_Num.v s8v.2) = s11v.2))) [(76, .bool ((!s22v) || (!decide ((synodref_Num.v s8v.2) = s11v.2)))), (77, cv (((!s22v) || (!decide ((synodref_Num.v s8v.2) = s11v.2))) == false) (.agg #[])), (78, cv (((!s22v) || (!decide ((synodref_Num.v s8v.2) = s11v.2))) == false) (.agg #[.int .i64 x0_0, .int .i64 x0_1, .int .i64 x0_2, str x0_3, str x0_4, str x0_5]))] rfl rfl rfl rfl (.w 8 rfl rfl rfl (.w 9 rfl rfl rfl (.w 10 rfl rfl rfl .nil))) (fun hb49v => RQ.sub (E' := [(77, .agg #[]), (78, .agg #[.int .i64 x0_0, .int .i64 x0_1, .int .i64 x0_2, str x0_3, str x0_4, str x0_5])]) ⟨lk_cv rfl hb49v, lk_cv rfl hb49v, trivial⟩ (RE.rq (re_call (vs := [.agg #[], .agg #[.int .i64 x0_0, .int .i64 x0_1, .int .i64 x0_2, str x0_3, str x0_4, str x0_5]]) (cap := []) (A := []) (rst := [Row 5 1 y12v.1 s11v.1.length y12v.2 (encB s11v.1), Row 5 1 y9v.1 s8v.1.length y9v.2 (encB s8v.1), obj b7v 42 [], obj b1v 25 [.int .i64 x0_0, .int .i64 x0_1, .int .i64 x0_2, str x0_3, str x0_4, str x0_5], F]) rfl rfl rfl rfl rfl rfl Try.call54 (.sel 0 rfl (.sel 0 rfl (.sel 0 rfl (.sel 0 rfl (.sel 0 rfl (.nil _)))))) (codec_Commands_Check.calls _ _ x0_0 x0_1 x0_2 x0_3 x0_4 x0_5 ) (codec_Commands_Check.tot x0_0 x0_1 x0_2 x0_3 x0_4 x0_5)) (fun _ => rfl) (fun _ => (.sel 0 rfl (.sel 0 rfl (.sel 0 rfl (.sel 0 rfl (.sel 0 rfl (.nil _))))))))) rfl) All.nil)) (All.cons (fun γ => (All.cons (QOb.grd (b := (!s22v) || (!decide ((synodref_Num.v s8v.2) = s11v.2))) [(76, .bool ((!s22v) || (!decide ((synodref_Num.v s8v.2) = s11v.2)))), (79, cv (((!s22v) || (!decide ((synodref_Num.v s8v.2) = s11v.2))) == false) (.int .i64 (codec_Commands_Check.v x0_0 x0_1 x0_2 x0_3 x0_4 x0_5)))] rfl rfl rfl rfl (.w 8 rfl rfl rfl (.w 11 rfl rfl rfl .nil)) (fun hb53v => RQ.sub (E' := [(79, .int .i64 (codec_Commands_Check.v x0_0 x0_1 x0_2 x0_3 x0_4 x0_5))]) ⟨lk_cv rfl hb53v, trivial⟩ (RE.rq (re_call (vs := [.int .i64 (codec_Commands_Check.v x0_0 x0_1 x0_2 x0_3 x0_4 x0_5)]) (cap := []) (A := []) (rst := [Row 5 1 y12v.1 s11v.1.length y12v.2 (encB s11v.1), Row 5 1 y9v.1 s8v.1.length y9v.2 (encB s8v.1), obj b7v 42 [], obj b1v 25 [.int .i64 x0_0, .int .i64 x0_1, .int .i64 x0_2, str x0_3, str x0_4, str x0_5], F]) rfl rfl rfl rfl rfl rfl Try.call26 (.sel 0 rfl (.sel 0 rfl (.sel 0 rfl (.sel 0 rfl (.sel 0 rfl (.nil _)))))) (synodref_Num.calls _ _ (codec_Commands_Check.v x0_0 x0_1 x0_2 x0_3 x0_4 x0_5) ) (synodref_Num.tot (codec_Commands_Check.v x0_0 x0_1 x0_2 x0_3 x0_4 x0_5))) (fun _ => rfl) (fun _ => (.sel 0 rfl (.sel 0 rfl (.sel 0 rfl (.sel 0 rfl (.sel 0 rfl (.nil _))))))))) rfl) All.nil)) (All.cons (fun γ => (All.cons (QOb.grd (b := (!s22v) || (!decide ((synodref_Num.v s8v.2) = s11v.2))) [(2, .pointer (some ⟨b1v, 0, none⟩)), (76, .bool ((!s22v) || (!decide ((synodref_Num.v s8v.2) = s11v.2))))] rfl rfl rfl rfl (.o rfl (by decide) (.w 8 rfl rfl rfl .nil)) (fun hb54v => RQ.sub (E' := [(2, .pointer (some ⟨b1v, 0, none⟩))]) ⟨rfl, trivial⟩ (q_loado 3 rfl rfl Try.isAgg25 Try.sizeOf25 rfl rfl)) rfl) All.nil)) (All.cons (fun γ => (All.cons (QOb.grd (b := (!s22v) || (!decide ((synodref_Num.v s8v.2) = s11v.2))) [(76, .bool ((!s22v) || (!decide ((synodref_Num.v s8v.2) = s11v.2)))), (81, cv (((!s22v) || (!decide ((synodref_Num.v s8v.2) = s11v.2))) == false) (.agg #[.int .i64 x0_0, .int .i64 x0_1, .int .i64 x0_2, str x0_3, str x0_4, str x0_5]))] rfl rfl rfl rfl (.w 8 rfl rfl rfl (.w 13 rfl rfl rfl .nil)) (fun hb58v => RQ.sub (E' := [(81, .agg #[.int .i64 x0_0, .int .i64 x0_1, .int .i64 x0_2, str x0_3, str x0_4, str x0_5])]) ⟨lk_cv rfl hb58v, trivial⟩ (RE.rq (re_call (vs := [.agg #[.int .i64 x0_0, .int .i64 x0_1, .int .i64 x0_2, str x0_3, str x0_4, str x0_5]]) (cap := []) (A := []) (rst := [Row 5 1 y12v.1 s11v.1.length y12v.2 (encB s11v.1), Row 5 1 y9v.1 s8v.1.length y9v.2 (encB s8v.1), obj b7v 42 [], obj b1v 25 [.int .i64 x0_0, .int .i64 x0_1, .int .i64 x0_2, str x0_3, str x0_4, str x0_5], F]) rfl rfl rfl rfl rfl rfl Try.call17 (.sel 0 rfl (.sel 0 rfl (.sel 0 rfl (.sel 0 rfl (.sel 0 rfl (.nil _)))))) (synodref3_CheckCommand.calls _ _ x0_0 x0_1 x0_2 x0_3 x0_4 x0_5 ) (synodref3_CheckCommand.tot x0_0 x0_1 x0_2 x0_3 x0_4 x0_5)) (fun _ => rfl) (fun _ => (.sel 0 rfl (.sel 0 rfl (.sel 0 rfl (.sel 0 rfl (.sel 0 rfl (.nil _))))))))) rfl) All.nil)) (All.cons (fun γ => (All.cons (QOb.grd (b := (!s22v) || (!decide ((synodref_Num.v s8v.2) = s11v.2))) [(76, .bool ((!s22v) || (!decide ((synodref_Num.v s8v.2) = s11v.2)))), (80, cv (((!s22v) || (!decide ((synodref_Num.v s8v.2) = s11v.2))) == false) (.int .i64 (synodref_Num.v (codec_Commands_Check.v x0_0 x0_1 x0_2 x0_3 x0_4 x0_5)))), (82, cv (((!s22v) || (!decide ((synodref_Num.v s8v.2) = s11v.2))) == false) (.int .i64 (synodref3_CheckCommand.v x0_0 x0_1 x0_2 x0_3 x0_4 x0_5)))] rfl rfl rfl rfl (.w 8 rfl rfl rfl (.w 12 rfl rfl rfl (.w 14 rfl rfl rfl .nil))) (fun hb59v => RQ.sub (E' := [(80, .int .i64 (synodref_Num.v (codec_Commands_Check.v x0_0 x0_1 x0_2 x0_3 x0_4 x0_5))), (82, .int .i64 (synodref3_CheckCommand.v x0_0 x0_1 x0_2 x0_3 x0_4 x0_5))]) ⟨lk_cv rfl hb59v, lk_cv rfl hb59v, trivial⟩ (q_neq rfl rfl rfl)) rfl) All.nil)) (All.cons (fun γ => (All.cons (QOb.plain [(76, .bool ((!s22v) || (!decide ((synodref_Num.v s8v.2) = s11v.2)))), (83, cv (((!s22v) || (!decide ((synodref_Num.v s8v.2) = s11v.2))) == false) (.bool (!decide ((synodref_Num.v (codec_Commands_Check.v x0_0 x0_1 x0_2 x0_3 x0_4 x0_5)) = (synodref3_CheckCommand.v x0_0 x0_1 x0_2 x0_3 x0_4 x0_5)))))] rfl rfl (.w 8 rfl rfl rfl (.w 15 rfl rfl rfl .nil)) (q_or rfl rfl rfl) rfl) All.nil)) All.nil)))))))))))))))))
 exact All.nil
 intro g60v
 refine nrm_then ?_
 refine sim_condb rfl (fun h61v => ?_) (fun h62v => ?_)
 refine sim_seq ?_
 refine sim_region ?_
 refine simL_val (q_asg rfl rfl) rfl rfl rfl ?_
 refine simL_nil ?_
 refine nrm_then ?_
 refine sim_rtn ?_
 refine rtn_then ?_
 exact rtn_fn () rfl rfl rfl (.sel 4 rfl (.nil _))
 refine sim_skip ?_
 refine nrm_then ?_
 refine sim_seq ?_
 refine sim_region ?_
 refine simL_val (q_move rfl rfl) rfl rfl rfl ?_
 refine simL_bind (fun s63v hs65v => ?_)
 refine simL_eff (re_call (vs := [.slice a1 x1.length c1]) (cap := []) (A := []) (rst := [Row 5 1 y12v.1 s11v.1.length y12v.2 (encB s11v.1), Row 5 1 y9v.1 s8v.1.length y9v.2 (encB s8v.1), obj b7v 42 [], obj b1v 25 [.int .i64 x0_0, .int .i64 x0_1, .int .i64 x0_2, str x0_3, str x0_4, str x0_5], F]) rfl rfl rfl rfl rfl rfl Try.call28 (.sel 0 rfl (.sel 0 rfl (.sel 0 rfl (.sel 0 rfl (.sel 0 rfl (.nil _)))))) (synodref_Lent.calls _ _ a1 c1 x1 (h1.lend 4 rfl) hc1 hm1) hs65v) rfl rfl rfl ?_
 intro y64v
 refine simL_val (q_asg rfl rfl) rfl rfl rfl ?_
 refine simL_nil ?_
 refine nrm_then ?_
 refine sim_seq ?_
 refine sim_region ?_
 refine simL_val (q_loado 3 rfl rfl Try.isAgg42 Try.sizeOf42 rfl rfl) rfl rfl rfl ?_
 refine simL_val (q_move rfl rfl) rfl rfl rfl ?_
 refine simL_bind (fun s70v hs72v => ?_)
 refine simL_lend 0 rfl (fun hq66v hq67v hq68v hq69v => ?_)
 refine simL_eff (re_call (vs := [.agg #[], .slice y64v.1 s63v.1.length y64v.2]) (cap := []) (A := []) (rst := [Row 5 1 y64v.1 s63v.1.length y64v.2 (encB (s63v.1 ++ s63v.2)), Row 5 1 y12v.1 s11v.1.length y12v.2 (encB s11v.1), Row 5 1 y9v.1 s8v.1.length y9v.2 (encB s8v.1), obj b7v 42 [], obj b1v 25 [.int .i64 x0_0, .int .i64 x0_1, .int .i64 x0_2, str x0_3, str x0_4, str x0_5], F]) rfl rfl rfl rfl rfl rfl Try.call55 (.sel 0 rfl (.sel 0 rfl (.sel 0 rfl (.sel 0 rfl (.sel 0 rfl (.sel 0 rfl (.nil _))))))) (codec_Commands_Get.calls _ _ k y64v.1 y64v.2 s63v.1 ((rd_front hq66v).lend 0 rfl) hq67v hq68v) hs72v) rfl rfl rfl ?_
 intro y71v
 refine simL_val (q_move rfl rfl) rfl rfl rfl ?_
 refine simL_val (q_ext rfl rfl rfl) rfl rfl rfl ?_
 refine simL_val (q_ext rfl rfl rfl) rfl rfl rfl ?_
 refine simL_eff (re_alloc rfl Try.zeroValue25 rfl) rfl rfl rfl ?_
 intro b73v
 refine simL_do (re_store 0 rfl rfl rfl Try.sizeOf25 rfl rfl (one_of (by rfl)) rfl rfl) rfl rfl ?_
 intro _
 refine simL_ent (H' := [obj b73v 25 [.int .i64 s70v.1, .int .i64 s70v.2.1, .int .i64 s70v.2.2.1, str s70v.2.2.2.1, str s70v.2.2.2.2.1, str s70v.2.2.2.2.2.1], Row 5 1 y64v.1 s63v.1.length y64v.2 (encB (s63v.1 ++ s63v.2)), Row 5 1 y12v.1 s11v.1.length y12v.2 (encB s11v.1), Row 5 1 y9v.1 s8v.1.length y9v.2 (encB s8v.1), obj b7v 42 [], obj b1v 25 [.int .i64 x0_0, .int .i64 x0_1, .int .i64 x0_2, str x0_3, str x0_4, str x0_5], F]) (Ent.refl _) ?_
 refine simL_val (q_asg rfl rfl) rfl rfl rfl ?_
 refine simL_nil ?_
 refine nrm_then ?_
 refine sim_seq ?_
 refine sim_region ?_
 refine simL_val (q_move rfl rfl) rfl rfl rfl ?_
 refine simL_bind (fun s74v hs76v => ?_)
 refine simL_eff (re_call (vs := [.slice a1 x1.length c1]) (cap := []) (A := []) (rst := [obj b73v 25 [.int .i64 s70v.1, .int .i64 s70v.2.1, .int .i64 s70v.2.2.1, str s70v.2.2.2.1, str s70v.2.2.2.2.1, str s70v.2.2.2.2.2.1], Row 5 1 y64v.1 s63v.1.length y64v.2 (encB (s63v.1 ++ s63v.2)), Row 5 1 y12v.1 s11v.1.length y12v.2 (encB s11v.1), Row 5 1 y9v.1 s8v.1.length y9v.2 (encB s8v.1), obj b7v 42 [], obj b1v 25 [.int .i64 x0_0, .int .i64 x0_1, .int .i64 x0_2, str x0_3, str x0_4, str x0_5], F]) rfl rfl rfl rfl rfl rfl Try.call56 (.sel 0 rfl (.sel 0 rfl (.sel 0 rfl (.sel 0 rfl (.sel 0 rfl (.sel 0 rfl (.sel 0 rfl (.nil _)))))))) (synodref3_GetCommand.calls _ _ k a1 c1 x1 (h1.lend 6 rfl) hc1 hm1) hs76v) rfl rfl rfl ?_
 intro y75v
 refine simL_val (q_move rfl rfl) rfl rfl rfl ?_
 refine simL_val (q_ext rfl rfl rfl) rfl rfl rfl ?_
 refine simL_val (q_ext rfl rfl rfl) rfl rfl rfl ?_
 refine simL_eff (re_alloc rfl Try.zeroValue25 rfl) rfl rfl rfl ?_
 intro b77v
 refine simL_do (re_store 0 rfl rfl rfl Try.sizeOf25 rfl rfl (one_of (by rfl)) rfl rfl) rfl rfl ?_
 intro _
 refine simL_ent (H' := [obj b77v 25 [.int .i64 s74v.1, .int .i64 s74v.2.1, .int .i64 s74v.2.2.1, str s74v.2.2.2.1, str s74v.2.2.2.2.1, str s74v.2.2.2.2.2.1], obj b73v 25 [.int .i64 s70v.1, .int .i64 s70v.2.1, .int .i64 s70v.2.2.1, str s70v.2.2.2.1, str s70v.2.2.2.2.1, str s70v.2.2.2.2.2.1], Row 5 1 y64v.1 s63v.1.length y64v.2 (encB (s63v.1 ++ s63v.2)), Row 5 1 y12v.1 s11v.1.length y12v.2 (encB s11v.1), Row 5 1 y9v.1 s8v.1.length y9v.2 (encB s8v.1), obj b7v 42 [], obj b1v 25 [.int .i64 x0_0, .int .i64 x0_1, .int .i64 x0_2, str x0_3, str x0_4, str x0_5], F]) (Ent.refl _) ?_
 refine simL_val (q_asg rfl rfl) rfl rfl rfl ?_
 refine simL_nil ?_
 refine nrm_then ?_
 refine sim_seq ?_
 refine sim_region ?_
 refine simL_val (q_move rfl rfl) rfl rfl rfl ?_
 refine simL_val (q_move rfl rfl) rfl rfl rfl ?_
 refine simL_bind (fun s82v hs84v => ?_)
 refine simL_lendt 2 rfl (fun hq78v hq79v hq80v => ?_)
 refine simL_eff (re_call (vs := [.slice y64v.1 s63v.1.length y64v.2, .slice a1 x1.length c1]) (cap := []) (A := []) (rst := [obj b77v 25 [.int .i64 s74v.1, .int .i64 s74v.2.1, .int .i64 s74v.2.2.1, str s74v.2.2.2.1, str s74v.2.2.2.2.1, str s74v.2.2.2.2.2.1], obj b73v 25 [.int .i64 s70v.1, .int .i64 s70v.2.1, .int .i64 s70v.2.2.1, str s70v.2.2.2.1, str s70v.2.2.2.2.1, str s70v.2.2.2.2.2.1], Row 5 1 y64v.1 s63v.1.length y64v.2 (encB (s63v.1 ++ s63v.2)), Row 5 1 y12v.1 s11v.1.length y12v.2 (encB s11v.1), Row 5 1 y9v.1 s8v.1.length y9v.2 (encB s8v.1), obj b7v 42 [], obj b1v 25 [.int .i64 x0_0, .int .i64 x0_1, .int .i64 x0_2, str x0_3, str x0_4, str x0_5], F]) rfl rfl rfl rfl rfl rfl Try.call31 (.sel 0 rfl (.sel 0 rfl (.sel 0 rfl (.sel 0 rfl (.sel 0 rfl (.sel 0 rfl (.sel 0 rfl (.sel 0 rfl (.nil _))))))))) (synodref_Kept.calls _ _ k y64v.1 y64v.2 s63v.1 s63v.2 a1 c1 x1 (hq78v.lend 2 rfl) (by rw [encB_length, Nat.mul_one] at hq79v; exact hq79v) hq80v (h1.lend 7 rfl) hc1 hm1) hs84v) rfl rfl rfl ?_
 intro y83v
 refine simL_val (q_asg rfl rfl) rfl rfl rfl ?_
 refine simL_nil ?_
 refine nrm_then ?_
 refine sim_seq ?_
 refine sim_region ?_
 refine simL_val (q_loado 1 rfl rfl Try.isAgg25 Try.sizeOf25 rfl rfl) rfl rfl rfl ?_
 refine simL_val (q_loado 0 rfl rfl Try.isAgg25 Try.sizeOf25 rfl rfl) rfl rfl rfl ?_
 refine simL_val (q_eqagg rfl rfl rfl (by kernel_rfl) (fun d w => eqi_struct Try.underlying25 (by kernel_rfl) (eqf_cons (by rfl) (part_of Try.isAgg3 rfl) (part_of Try.isAgg3 rfl) (eqi_int Try.underlying3) (eqf_cons (by rfl) (part_of Try.isAgg3 rfl) (part_of Try.isAgg3 rfl) (eqi_int Try.underlying3) (eqf_cons (by rfl) (part_of Try.isAgg3 rfl) (part_of Try.isAgg3 rfl) (eqi_int Try.underlying3) (eqf_cons (by rfl) (part_of Try.isAgg9 rfl) (part_of Try.isAgg9 rfl) (eqi_str Try.underlying9) (eqf_cons (by rfl) (part_of Try.isAgg9 rfl) (part_of Try.isAgg9 rfl) (eqi_str Try.underlying9) (eqf_last (by rfl) (part_of Try.isAgg9 rfl) (part_of Try.isAgg9 rfl) (eqi_str Try.underlying9))))))))) rfl rfl rfl ?_
 refine simL_val (q_asg rfl rfl) rfl rfl rfl ?_
 refine simL_nil ?_
 refine nrm_then ?_
 refine sim_seq ?_
 refine sim_seq ?_
 refine sim_region ?_
 refine simL_val (q_move rfl rfl) rfl rfl rfl ?_
 refine simL_val (q_not rfl rfl) rfl rfl rfl ?_
 refine simL_val (q_move rfl rfl) rfl rfl rfl ?_
 refine simL_cut' 5 (S := Bool) (Unit) (fun s y => [(2, .pointer (some ⟨b1v, 0, none⟩)), (7, .pointer (some ⟨b7v, 0, none⟩)), (8, .slice y9v.1 s8v.1.length y9v.2), (11, .int .i64 s11v.2), (18, .bool s82v), (111, .bool s)]) (fun s y => [obj b7v 42 [], obj b1v 25 [.int .i64 x0_0, .int .i64 x0_1, .int .i64 x0_2, str x0_3, str x0_4, str x0_5], Row 5 1 y9v.1 s8v.1.length y9v.2 (encB s8v.1), F]) ?_ ?_
 refine simL_caseb (fun hb90v => ?_) (fun hb91v => ?_)
 rw [hb90v]
 refine simL_skipd rfl rfl rfl rfl rfl rfl ?_
 refine simL_skipd rfl rfl rfl rfl rfl rfl ?_
 refine simL_skipd rfl rfl rfl rfl rfl rfl ?_
 refine simL_skipd rfl rfl rfl rfl rfl rfl ?_
 refine simL_val (q_pick rfl rfl rfl rfl rfl) rfl rfl rfl ?_
 refine simL_nil ?_
 exact nrm_cut (s := true) () ⟨rfl, rfl, rfl, rfl, rfl, rfl, trivial⟩ (.sel 5 rfl (.sel 5 rfl (.sel 4 rfl (.sel 4 rfl (.nil _)))))
 rw [hb91v]
 refine simL_valg (q_move rfl rfl) rfl rfl rfl rfl rfl rfl ?_
 refine simL_bind (fun s87v hs89v => ?_)
 refine simL_effg (re_call (vs := [.int .i64 s70v.2.2.2.2.2.2]) (cap := []) (A := []) (rst := [obj b77v 25 [.int .i64 s74v.1, .int .i64 s74v.2.1, .int .i64 s74v.2.2.1, str s74v.2.2.2.1, str s74v.2.2.2.2.1, str s74v.2.2.2.2.2.1], obj b73v 25 [.int .i64 s70v.1, .int .i64 s70v.2.1, .int .i64 s70v.2.2.1, str s70v.2.2.2.1, str s70v.2.2.2.2.1, str s70v.2.2.2.2.2.1], Row 5 1 y64v.1 s63v.1.length y64v.2 (encB (s63v.1 ++ s63v.2)), Row 5 1 y12v.1 s11v.1.length y12v.2 (encB s11v.1), Row 5 1 y9v.1 s8v.1.length y9v.2 (encB s8v.1), obj b7v 42 [], obj b1v 25 [.int .i64 x0_0, .int .i64 x0_1, .int .i64 x0_2, str x0_3, str x0_4, str x0_5], F]) rfl rfl rfl rfl rfl rfl Try.call26 (.sel 0 rfl (.sel 0 rfl (.sel 0 rfl (.sel 0 rfl (.sel 0 rfl (.sel 0 rfl (.sel 0 rfl (.sel 0 rfl (.nil _))))))))) (synodref_Num.calls _ _ s70v.2.2.2.2.2.2 ) hs89v) rfl rfl rfl rfl rfl rfl ?_
 intro y88v
 refine simL_valg (q_move rfl rfl) rfl rfl rfl rfl rfl rfl ?_
 refine simL_valg (q_neq rfl rfl rfl) rfl rfl rfl rfl rfl rfl ?_
 refine simL_val (q_pick rfl rfl rfl rfl rfl) rfl rfl rfl ?_
 refine simL_nil ?_
 exact nrm_cut (s := !decide (s87v = s74v.2.2.2.2.2.2)) () ⟨rfl, rfl, rfl, rfl, rfl, rfl, trivial⟩ (.sel 5 rfl (.sel 5 rfl (.sel 4 rfl (.sel 4 rfl (.nil _)))))
 intro s85v y86v
 refine simL_val (q_move rfl rfl) rfl rfl rfl ?_
 refine simL_valc (b := s85v) (fun hb128v => RQ.sub (E' := [(18, .bool s82v)]) ⟨rfl, trivial⟩ (q_move rfl rfl)) rfl rfl rfl rfl rfl ?_
 refine simL_valc (b := s85v) (fun hb127v => RQ.sub (E' := [(113, .bool s82v)]) ⟨lk_cv rfl hb127v, trivial⟩ (q_not rfl rfl)) rfl rfl rfl rfl rfl ?_
 refine simL_val (q_or rfl rfl rfl) rfl rfl rfl ?_
 refine simL_nil ?_
 refine nrm_then ?_
 refine sim_condb rfl (fun h92v => ?_) (fun h93v => ?_)
 refine sim_seq ?_
 refine sim_region ?_
 refine simL_val (q_asg rfl rfl) rfl rfl rfl ?_
 refine simL_nil ?_
 refine nrm_then ?_
 refine sim_rtn ?_
 refine rtn_then ?_
 exact rtn_fn () rfl rfl rfl (.sel 3 rfl (.nil _))
 refine sim_skip ?_
 refine nrm_then ?_
 refine sim_seq ?_
 refine sim_seq ?_
 refine sim_region ?_
 refine simL_val (q_move rfl rfl) rfl rfl rfl ?_
 refine simL_val (q_neq rfl rfl rfl) rfl rfl rfl ?_
 refine simL_nil ?_
 refine nrm_then ?_
 refine sim_condn rfl (fun h94v => ?_) (fun h95v => ?_)
 refine sim_skip ?_
 refine nrm_then ?_
 refine sim_seq ?_
 refine sim_region ?_
 refine simL_val (q_loado 0 rfl rfl Try.isAgg42 Try.sizeOf42 rfl rfl) rfl rfl rfl ?_
 refine simL_val (q_move rfl rfl) rfl rfl rfl ?_
 refine simL_bind (fun s100v hs102v => ?_)
 refine simL_lend 2 rfl (fun hq96v hq97v hq98v hq99v => ?_)
 refine simL_eff (re_call (vs := [.agg #[], .slice y9v.1 s8v.1.length y9v.2]) (cap := []) (A := []) (rst := [obj b7v 42 [], obj b1v 25 [.int .i64 x0_0, .int .i64 x0_1, .int .i64 x0_2, str x0_3, str x0_4, str x0_5], Row 5 1 y9v.1 s8v.1.length y9v.2 (encB s8v.1), F]) rfl rfl rfl rfl rfl rfl Try.call55 (.sel 0 rfl (.sel 0 rfl (.sel 0 rfl (.sel 0 rfl (.nil _))))) (codec_Commands_Get.calls _ _ k y9v.1 y9v.2 s8v.1 (hq96v.lend 2 rfl) hq97v hq98v) hs102v) rfl rfl rfl ?_
 intro y101v
 refine simL_val (q_move rfl rfl) rfl rfl rfl ?_
 refine simL_val (q_ext rfl rfl rfl) rfl rfl rfl ?_
 refine simL_val (q_ext rfl rfl rfl) rfl rfl rfl ?_
 refine simL_eff (re_alloc rfl Try.zeroValue25 rfl) rfl rfl rfl ?_
 intro b103v
 refine simL_do (re_store 0 rfl rfl rfl Try.sizeOf25 rfl rfl (one_of (by rfl)) rfl rfl) rfl rfl ?_
 intro _
 refine simL_ent (H' := [obj b103v 25 [.int .i64 s100v.1, .int .i64 s100v.2.1, .int .i64 s100v.2.2.1, str s100v.2.2.2.1, str s100v.2.2.2.2.1, str s100v.2.2.2.2.2.1], obj b7v 42 [], obj b1v 25 [.int .i64 x0_0, .int .i64 x0_1, .int .i64 x0_2, str x0_3, str x0_4, str x0_5], Row 5 1 y9v.1 s8v.1.length y9v.2 (encB s8v.1), F]) (Ent.refl _) ?_
 refine simL_val (q_asg rfl rfl) rfl rfl rfl ?_
 refine simL_nil ?_
 refine nrm_then ?_
 refine sim_seq ?_
 refine sim_region ?_
 refine simL_val (q_loado 0 rfl rfl Try.isAgg25 Try.sizeOf25 rfl rfl) rfl rfl rfl ?_
 refine simL_val (q_loado 2 rfl rfl Try.isAgg25 Try.sizeOf25 rfl rfl) rfl rfl rfl ?_
 refine simL_val (q_eqagg rfl rfl rfl (by kernel_rfl) (fun d w => eqi_struct Try.underlying25 (by kernel_rfl) (eqf_cons (by rfl) (part_of Try.isAgg3 rfl) (part_of Try.isAgg3 rfl) (eqi_int Try.underlying3) (eqf_cons (by rfl) (part_of Try.isAgg3 rfl) (part_of Try.isAgg3 rfl) (eqi_int Try.underlying3) (eqf_cons (by rfl) (part_of Try.isAgg3 rfl) (part_of Try.isAgg3 rfl) (eqi_int Try.underlying3) (eqf_cons (by rfl) (part_of Try.isAgg9 rfl) (part_of Try.isAgg9 rfl) (eqi_str Try.underlying9) (eqf_cons (by rfl) (part_of Try.isAgg9 rfl) (part_of Try.isAgg9 rfl) (eqi_str Try.underlying9) (eqf_last (by rfl) (part_of Try.isAgg9 rfl) (part_of Try.isAgg9 rfl) (eqi_str Try.underlying9))))))))) rfl rfl rfl ?_
 refine simL_val (q_asg rfl rfl) rfl rfl rfl ?_
 refine simL_nil ?_
 refine nrm_then ?_
 refine sim_cut (S := Unit) (Unit) (fun s y => [(2, .pointer (some ⟨b1v, 0, none⟩)), (20, .pointer (some ⟨b103v, 0, none⟩)), (21, .int .i64 s100v.2.2.2.2.2.2), (22, .bool (decide (s100v.1 = x0_0) && (decide (s100v.2.1 = x0_1) && (decide (s100v.2.2.1 = x0_2) && (decide (s100v.2.2.2.1 = x0_3) && (decide (s100v.2.2.2.2.1 = x0_4) && (decide (s100v.2.2.2.2.2.1 = x0_5))))))))]) (fun s y => [obj b103v 25 [.int .i64 s100v.1, .int .i64 s100v.2.1, .int .i64 s100v.2.2.1, str s100v.2.2.2.1, str s100v.2.2.2.2.1, str s100v.2.2.2.2.2.1], obj b1v 25 [.int .i64 x0_0, .int .i64 x0_1, .int .i64 x0_2, str x0_3, str x0_4, str x0_5], F]) ?_ ?_
 refine sim_seq ?_
 refine sim_region ?_
 refine simL_val (q_asg rfl rfl) rfl rfl rfl ?_
 refine simL_nil ?_
 refine nrm_then ?_
 refine sim_block ?_
 refine sim_loop (S := List UInt8 × Int) (Unit) (fun k s => synodlaw3_CodecCommands.l0 k s.1 s.2) (fun s y => [(2, .pointer (some ⟨b1v, 0, none⟩)), (8, .slice y9v.1 s.1.length y9v.2), (20, .pointer (some ⟨b103v, 0, none⟩)), (21, .int .i64 s100v.2.2.2.2.2.2), (22, .bool (decide (s100v.1 = x0_0) && (decide (s100v.2.1 = x0_1) && (decide (s100v.2.2.1 = x0_2) && (decide (s100v.2.2.2.1 = x0_3) && (decide (s100v.2.2.2.2.1 = x0_4) && (decide (s100v.2.2.2.2.2.1 = x0_5)))))))), (23, .int .i64 s.2)]) (fun s y => [obj b103v 25 [.int .i64 s100v.1, .int .i64 s100v.2.1, .int .i64 s100v.2.2.1, str s100v.2.2.2.1, str s100v.2.2.2.2.1, str s100v.2.2.2.2.2.1], obj b1v 25 [.int .i64 x0_0, .int .i64 x0_1, .int .i64 x0_2, str x0_3, str x0_4, str x0_5], Row 5 1 y9v.1 s.1.length y9v.2 (encB s.1), F]) (fun _ => by rw [synodlaw3_CodecCommands.l0]) ?_ k (s8v.1, 0) () ⟨rfl, rfl, rfl, rfl, rfl, rfl, trivial⟩ (.sel 0 rfl (.sel 1 rfl (.sel 1 rfl (.sel 1 rfl (.nil _)))))
 intro k s106v y107v
 refine sim_eq (by rw [synodlaw3_CodecCommands.l0]) ?_
 refine sim_seq ?_
 refine sim_seq ?_
 refine sim_region ?_
 refine simL_val (q_move rfl rfl) rfl rfl rfl ?_
 refine simL_val (q_move rfl rfl) rfl rfl rfl ?_
 refine simL_val (q_len rfl rfl rfl Try.underlying27) rfl rfl rfl ?_
 refine simL_val (q_lss rfl rfl rfl) rfl rfl rfl ?_
 refine simL_nil ?_
 refine nrm_then ?_
 refine sim_cond rfl (fun h110v => ?_) (fun h111v => ?_)
 refine sim_skip ?_
 refine nrm_then ?_
 refine sim_seq ?_
 refine sim_block ?_
 refine sim_region ?_
 refine simL_val (q_move rfl rfl) rfl rfl rfl ?_
 refine simL_val (q_move rfl rfl) rfl rfl rfl ?_
 refine simL_ask (fun hi112v => ?_)
 refine simL_row 2 rfl (encB_ne (j := s106v.2.toNat) (by omega)) (fun b113v b113vo ha114v => ?_)
 refine simL_val (q_idx1 rfl rfl rfl ha114v Try.underlying27 Try.sizeOf5 hi112v.1 hi112v.2) rfl rfl rfl ?_
 refine simL_do (re_storeb 255 2 rfl rfl rfl Try.sizeOf5 rfl ha114v hi112v.2 hi112v.1 rfl) rfl rfl ?_
 intro _
 refine simL_ren (.slice y9v.1 ((s106v.1.set s106v.2.toNat 255).length) y9v.2) (d := 8) rfl (slc_len (by simp)) ?_
 refine simL_ren (.slice y9v.1 ((s106v.1.set s106v.2.toNat 255).length) y9v.2) (d := 128) rfl (slc_len (by simp)) ?_
 refine simL_ren (.slice y9v.1 ((s106v.1.set s106v.2.toNat 255).length) y9v.2) (d := 133) rfl (slc_len (by simp)) ?_
 refine simL_nil ?_
 refine nrm_block ?_
 refine nrm_then ?_
 refine sim_region ?_
 refine simL_val (q_move rfl rfl) rfl rfl rfl ?_
 refine simL_val (q_add rfl rfl rfl) rfl rfl rfl ?_
 refine simL_val (q_asg rfl rfl) rfl rfl rfl ?_
 refine simL_nil ?_
 exact nrm_again (s := (s106v.1.set s106v.2.toNat 255, IntKind.i64.wrap (s106v.2 + 1))) () ⟨rfl, rfl, rfl, rfl, rfl, rfl, trivial⟩ (.sel 0 rfl (.sel 0 rfl (.sel 0 rfl (.sel 0 rfl (.nil _)))))
 refine sim_exi ?_
 refine exi_then ?_
 refine exi_loop ?_
 refine exi_here ?_
 exact nrm_cut (s := ()) () ⟨rfl, rfl, rfl, rfl, trivial⟩ (.sel 0 rfl (.sel 0 rfl (.sel 1 rfl (.nil _))))
 intro s104v y105v
 refine sim_seq ?_
 refine sim_region ?_
 refine simL_val (q_move rfl rfl) rfl rfl rfl ?_
 refine simL_val (q_move rfl rfl) rfl rfl rfl ?_
 refine simL_cut' 4 (S := Bool) (Unit) (fun s y => [(2, .pointer (some ⟨b1v, 0, none⟩)), (20, .pointer (some ⟨b103v, 0, none⟩)), (141, .bool s)]) (fun s y => [obj b103v 25 [.int .i64 s100v.1, .int .i64 s100v.2.1, .int .i64 s100v.2.2.1, str s100v.2.2.2.1, str s100v.2.2.2.2.1, str s100v.2.2.2.2.2.1], obj b1v 25 [.int .i64 x0_0, .int .i64 x0_1, .int .i64 x0_2, str x0_3, str x0_4, str x0_5], F]) ?_ ?_
 refine simL_caseb (fun hb122v => ?_) (fun hb123v => ?_)
 rw [hb122v]
 refine simL_valg (q_move rfl rfl) rfl rfl rfl rfl rfl rfl ?_
 refine simL_bind (fun s119v hs121v => ?_)
 refine simL_effg (re_call (vs := [.int .i64 s100v.2.2.2.2.2.2]) (cap := []) (A := []) (rst := [obj b103v 25 [.int .i64 s100v.1, .int .i64 s100v.2.1, .int .i64 s100v.2.2.1, str s100v.2.2.2.1, str s100v.2.2.2.2.1, str s100v.2.2.2.2.2.1], obj b1v 25 [.int .i64 x0_0, .int .i64 x0_1, .int .i64 x0_2, str x0_3, str x0_4, str x0_5], F]) rfl rfl rfl rfl rfl rfl Try.call26 (.sel 0 rfl (.sel 0 rfl (.sel 0 rfl (.nil _)))) (synodref_Num.calls _ _ s100v.2.2.2.2.2.2 ) hs121v) rfl rfl rfl rfl rfl rfl ?_
 intro y120v
 refine simL_valg (q_eql rfl rfl rfl) rfl rfl rfl rfl rfl rfl ?_
 refine simL_val (q_pick rfl rfl rfl rfl rfl) rfl rfl rfl ?_
 refine simL_nil ?_
 exact nrm_cut (s := decide (s119v = (0 : Int))) () ⟨rfl, rfl, rfl, trivial⟩ (.sel 0 rfl (.sel 0 rfl (.sel 0 rfl (.nil _))))
 rw [hb123v]
 refine simL_skipd rfl rfl rfl rfl rfl rfl ?_
 refine simL_skipd rfl rfl rfl rfl rfl rfl ?_
 refine simL_skipd rfl rfl rfl rfl rfl rfl ?_
 refine simL_val (q_pick rfl rfl rfl rfl rfl) rfl rfl rfl ?_
 refine simL_nil ?_
 exact nrm_cut (s := false) () ⟨rfl, rfl, rfl, trivial⟩ (.sel 0 rfl (.sel 0 rfl (.sel 0 rfl (.nil _))))
 intro s117v y118v
 refine simL_val (q_move rfl rfl) rfl rfl rfl ?_
 refine simL_valc (b := s117v) (fun hb126v => RQ.sub (E' := [(20, .pointer (some ⟨b103v, 0, none⟩))]) ⟨rfl, trivial⟩ (q_loado 0 rfl rfl Try.isAgg25 Try.sizeOf25 rfl rfl)) rfl rfl rfl rfl rfl ?_
 refine simL_valc (b := s117v) (fun hb125v => RQ.sub (E' := [(2, .pointer (some ⟨b1v, 0, none⟩))]) ⟨rfl, trivial⟩ (q_loado 1 rfl rfl Try.isAgg25 Try.sizeOf25 rfl rfl)) rfl rfl rfl rfl rfl ?_
 refine simL_valc (b := s117v) (fun hb124v => RQ.sub (E' := [(143, .agg #[.int .i64 s100v.1, .int .i64 s100v.2.1, .int .i64 s100v.2.2.1, str s100v.2.2.2.1, str s100v.2.2.2.2.1, str s100v.2.2.2.2.2.1]), (144, .agg #[.int .i64 x0_0, .int .i64 x0_1, .int .i64 x0_2, str x0_3, str x0_4, str x0_5])]) ⟨lk_cv rfl hb124v, lk_cv rfl hb124v, trivial⟩ (q_eqagg rfl rfl rfl (by kernel_rfl) (fun d w => eqi_struct Try.underlying25 (by kernel_rfl) (eqf_cons (by rfl) (part_of Try.isAgg3 rfl) (part_of Try.isAgg3 rfl) (eqi_int Try.underlying3) (eqf_cons (by rfl) (part_of Try.isAgg3 rfl) (part_of Try.isAgg3 rfl) (eqi_int Try.underlying3) (eqf_cons (by rfl) (part_of Try.isAgg3 rfl) (part_of Try.isAgg3 rfl) (eqi_int Try.underlying3) (eqf_cons (by rfl) (part_of Try.isAgg9 rfl) (part_of Try.isAgg9 rfl) (eqi_str Try.underlying9) (eqf_cons (by rfl) (part_of Try.isAgg9 rfl) (part_of Try.isAgg9 rfl) (eqi_str Try.underlying9) (eqf_last (by rfl) (part_of Try.isAgg9 rfl) (part_of Try.isAgg9 rfl) (eqi_str Try.underlying9)))))))))) rfl rfl rfl rfl rfl ?_
 refine simL_val (q_and rfl rfl rfl) rfl rfl rfl ?_
 refine simL_val (q_asg rfl rfl) rfl rfl rfl ?_
 refine simL_nil ?_
 refine nrm_then ?_
 refine sim_rtn ?_
 exact rtn_fn () rfl rfl rfl (.sel 2 rfl (.nil _))
 refine sim_seq ?_
 refine sim_region ?_
 refine simL_val (q_asg rfl rfl) rfl rfl rfl ?_
 refine simL_nil ?_
 refine nrm_then ?_
 refine sim_rtn ?_
 refine rtn_then ?_
 exact rtn_fn () rfl rfl rfl (.sel 3 rfl (.nil _))

def synodref3_CheckEntry.f (x0_0 : Int) (x0_1 : Int) (x0_2 : Int) (x0_3 : List UInt8) : Option (Int) := (synodref3_within.f x0_0 (1 : Int) (4611686018427387904 : Int)).bind fun s2v => ((if (!s2v) = true then (some true) else ((synodref3_within.f x0_1 (1 : Int) (4611686018427387904 : Int)).bind fun s7v => (some (!s7v)))).bind fun s5v => (if s5v = true then (some 1) else (if ((!decide (x0_2 = (0 : Int))) && (!decide (x0_2 = (1 : Int)))) = true then (some 6) else (if (4096 : Int) < (x0_3.length : Int) then (some 3) else (if ((decide (x0_2 = (0 : Int))) && (decide ((0 : Int) < (x0_3.length : Int)))) = true then (some 4) else (some 0))))))
theorem synodref3_CheckEntry.calls (W : World) (F : HA) (x0_0 : Int) (x0_1 : Int) (x0_2 : Int) (a0_3 : Option Addr) (c0_3 : Nat) (x0_3 : List UInt8) (h0_3 : Rd F a0_3 (encB x0_3)) (hc0_3 : x0_3.length ≤ c0_3) (hm0_3 : c0_3 ≤ maxLen) :
    Fn Try.prog W 35 [.agg #[.int .i64 x0_0, .int .i64 x0_1, .int .i64 x0_2, .slice a0_3 x0_3.length c0_3]] [] F (synodref3_CheckEntry.f x0_0 x0_1 x0_2 x0_3) (fun (r : Int) (y : Unit) => .int .i64 r) (fun r y => []) := by
 unfold synodref3_CheckEntry.f
 refine fn_intro 34 Try.func35 rfl Try.ntmps35 rfl ?_
 refine sim_seq ?_
 refine sim_region ?_
 refine simL_eff (re_box rfl rfl rfl) rfl rfl rfl ?_
 intro b1v
 refine simL_val (q_asg rfl rfl) rfl rfl rfl ?_
 refine simL_nil ?_
 refine nrm_then ?_
 refine sim_seq ?_
 refine sim_seq ?_
 refine sim_region ?_
 refine simL_val (q_fa rfl rfl Try.underlying61 rfl rfl Try.sizeOf3 rfl) rfl rfl rfl ?_
 refine simL_val (q_load rfl rfl Try.isAgg3 (.obj 0 rfl rfl)) rfl rfl rfl ?_
 refine simL_bind (fun s2v hs4v => ?_)
 refine simL_eff (re_call (vs := [.int .i64 x0_0, .int .i64 1, .int .i64 4611686018427387904]) (cap := []) (A := []) (rst := [obj b1v 61 [.int .i64 x0_0, .int .i64 x0_1, .int .i64 x0_2, .slice a0_3 x0_3.length c0_3], F]) rfl rfl rfl rfl rfl rfl Try.call69 (.sel 0 rfl (.sel 0 rfl (.nil _))) (synodref3_within.calls _ _ x0_0 (1 : Int) (4611686018427387904 : Int) ) hs4v) rfl rfl rfl ?_
 intro y3v
 refine simL_val (q_not rfl rfl) rfl rfl rfl ?_
 refine simL_val (q_move rfl rfl) rfl rfl rfl ?_
 refine simL_cut' 5 (S := Bool) (Unit) (fun s y => [(1, .pointer (some ⟨b1v, 0, none⟩)), (12, .bool s)]) (fun s y => [obj b1v 61 [.int .i64 x0_0, .int .i64 x0_1, .int .i64 x0_2, .slice a0_3 x0_3.length c0_3], F]) ?_ ?_
 refine simL_caseb (fun hb10v => ?_) (fun hb11v => ?_)
 rw [hb10v]
 refine simL_skipd rfl rfl rfl rfl rfl rfl ?_
 refine simL_skipd rfl rfl rfl rfl rfl rfl ?_
 refine simL_skipd rfl rfl rfl rfl rfl rfl ?_
 refine simL_skipd rfl rfl rfl rfl rfl rfl ?_
 refine simL_val (q_pick rfl rfl rfl rfl rfl) rfl rfl rfl ?_
 refine simL_nil ?_
 exact nrm_cut (s := true) () ⟨rfl, rfl, trivial⟩ (.sel 0 rfl (.sel 0 rfl (.nil _)))
 rw [hb11v]
 refine simL_valg (q_fa rfl rfl Try.underlying61 rfl rfl Try.sizeOf3 rfl) rfl rfl rfl rfl rfl rfl ?_
 refine simL_valg (q_load rfl rfl Try.isAgg3 (.obj 0 rfl rfl)) rfl rfl rfl rfl rfl rfl ?_
 refine simL_bind (fun s7v hs9v => ?_)
 refine simL_effg (re_call (vs := [.int .i64 x0_1, .int .i64 1, .int .i64 4611686018427387904]) (cap := []) (A := []) (rst := [obj b1v 61 [.int .i64 x0_0, .int .i64 x0_1, .int .i64 x0_2, .slice a0_3 x0_3.length c0_3], F]) rfl rfl rfl rfl rfl rfl Try.call69 (.sel 0 rfl (.sel 0 rfl (.nil _))) (synodref3_within.calls _ _ x0_1 (1 : Int) (4611686018427387904 : Int) ) hs9v) rfl rfl rfl rfl rfl rfl ?_
 intro y8v
 refine simL_valg (q_not rfl rfl) rfl rfl rfl rfl rfl rfl ?_
 refine simL_val (q_pick rfl rfl rfl rfl rfl) rfl rfl rfl ?_
 refine simL_nil ?_
 exact nrm_cut (s := !s7v) () ⟨rfl, rfl, trivial⟩ (.sel 0 rfl (.sel 0 rfl (.nil _)))
 intro s5v y6v
 refine simL_nil ?_
 refine nrm_then ?_
 refine sim_condb rfl (fun h12v => ?_) (fun h13v => ?_)
 refine sim_seq ?_
 refine sim_region ?_
 refine simL_val (q_asg rfl rfl) rfl rfl rfl ?_
 refine simL_nil ?_
 refine nrm_then ?_
 refine sim_rtn ?_
 refine rtn_then ?_
 exact rtn_fn () rfl rfl rfl (.sel 1 rfl (.nil _))
 refine sim_skip ?_
 refine nrm_then ?_
 refine sim_seq ?_
 refine sim_seq ?_
 refine sim_region ?_
 refine simL_val (q_fa rfl rfl Try.underlying61 rfl rfl Try.sizeOf3 rfl) rfl rfl rfl ?_
 refine simL_val (q_load rfl rfl Try.isAgg3 (.obj 0 rfl rfl)) rfl rfl rfl ?_
 refine simL_val (q_neq rfl rfl rfl) rfl rfl rfl ?_
 refine simL_val (q_move rfl rfl) rfl rfl rfl ?_
 refine simL_valc (b := !decide (x0_2 = (0 : Int))) (fun hb26v => RQ.sub (E' := [(1, .pointer (some ⟨b1v, 0, none⟩))]) ⟨rfl, trivial⟩ (q_fa rfl rfl Try.underlying61 rfl rfl Try.sizeOf3 rfl)) rfl rfl rfl rfl rfl ?_
 refine simL_valc (b := !decide (x0_2 = (0 : Int))) (fun hb25v => RQ.sub (E' := [(17, .pointer (some ⟨b1v, 2, none⟩))]) ⟨lk_cv rfl hb25v, trivial⟩ (q_load rfl rfl Try.isAgg3 (.obj 0 rfl rfl))) rfl rfl rfl rfl rfl ?_
 refine simL_valc (b := !decide (x0_2 = (0 : Int))) (fun hb24v => RQ.sub (E' := [(18, .int .i64 x0_2)]) ⟨lk_cv rfl hb24v, trivial⟩ (q_neq rfl rfl rfl)) rfl rfl rfl rfl rfl ?_
 refine simL_val (q_and rfl rfl rfl) rfl rfl rfl ?_
 refine simL_nil ?_
 refine nrm_then ?_
 refine sim_condb rfl (fun h14v => ?_) (fun h15v => ?_)
 refine sim_seq ?_
 refine sim_region ?_
 refine simL_val (q_asg rfl rfl) rfl rfl rfl ?_
 refine simL_nil ?_
 refine nrm_then ?_
 refine sim_rtn ?_
 refine rtn_then ?_
 exact rtn_fn () rfl rfl rfl (.sel 1 rfl (.nil _))
 refine sim_skip ?_
 refine nrm_then ?_
 refine sim_seq ?_
 refine sim_seq ?_
 refine sim_region ?_
 refine simL_val (q_fa rfl rfl Try.underlying61 rfl rfl Try.sizeOf27 rfl) rfl rfl rfl ?_
 refine simL_val (q_load rfl rfl Try.isAgg27 (.obj 0 rfl rfl)) rfl rfl rfl ?_
 refine simL_val (q_len rfl rfl rfl Try.underlying27) rfl rfl rfl ?_
 refine simL_val (q_gtr rfl rfl rfl) rfl rfl rfl ?_
 refine simL_nil ?_
 refine nrm_then ?_
 refine sim_cond rfl (fun h16v => ?_) (fun h17v => ?_)
 refine sim_seq ?_
 refine sim_region ?_
 refine simL_val (q_asg rfl rfl) rfl rfl rfl ?_
 refine simL_nil ?_
 refine nrm_then ?_
 refine sim_rtn ?_
 refine rtn_then ?_
 exact rtn_fn () rfl rfl rfl (.sel 1 rfl (.nil _))
 refine sim_skip ?_
 refine nrm_then ?_
 refine sim_seq ?_
 refine sim_seq ?_
 refine sim_region ?_
 refine simL_val (q_fa rfl rfl Try.underlying61 rfl rfl Try.sizeOf3 rfl) rfl rfl rfl ?_
 refine simL_val (q_load rfl rfl Try.isAgg3 (.obj 0 rfl rfl)) rfl rfl rfl ?_
 refine simL_val (q_eql rfl rfl rfl) rfl rfl rfl ?_
 refine simL_val (q_move rfl rfl) rfl rfl rfl ?_
 refine simL_valc (b := decide (x0_2 = (0 : Int))) (fun hb23v => RQ.sub (E' := [(1, .pointer (some ⟨b1v, 0, none⟩))]) ⟨rfl, trivial⟩ (q_fa rfl rfl Try.underlying61 rfl rfl Try.sizeOf27 rfl)) rfl rfl rfl rfl rfl ?_
 refine simL_valc (b := decide (x0_2 = (0 : Int))) (fun hb22v => RQ.sub (E' := [(29, .pointer (some ⟨b1v, 3, none⟩))]) ⟨lk_cv rfl hb22v, trivial⟩ (q_load rfl rfl Try.isAgg27 (.obj 0 rfl rfl))) rfl rfl rfl rfl rfl ?_
 refine simL_valc (b := decide (x0_2 = (0 : Int))) (fun hb21v => RQ.sub (E' := [(30, .slice a0_3 x0_3.length c0_3)]) ⟨lk_cv rfl hb21v, trivial⟩ (q_len rfl rfl rfl Try.underlying27)) rfl rfl rfl rfl rfl ?_
 refine simL_valc (b := decide (x0_2 = (0 : Int))) (fun hb20v => RQ.sub (E' := [(31, .int .i64 (x0_3.length : Int))]) ⟨lk_cv rfl hb20v, trivial⟩ (q_gtr rfl rfl rfl)) rfl rfl rfl rfl rfl ?_
 refine simL_val (q_and rfl rfl rfl) rfl rfl rfl ?_
 refine simL_nil ?_
 refine nrm_then ?_
 refine sim_condb rfl (fun h18v => ?_) (fun h19v => ?_)
 refine sim_seq ?_
 refine sim_region ?_
 refine simL_val (q_asg rfl rfl) rfl rfl rfl ?_
 refine simL_nil ?_
 refine nrm_then ?_
 refine sim_rtn ?_
 refine rtn_then ?_
 exact rtn_fn () rfl rfl rfl (.sel 1 rfl (.nil _))
 refine sim_skip ?_
 refine nrm_then ?_
 refine sim_seq ?_
 refine sim_region ?_
 refine simL_val (q_asg rfl rfl) rfl rfl rfl ?_
 refine simL_nil ?_
 refine nrm_then ?_
 refine sim_rtn ?_
 exact rtn_fn () rfl rfl rfl (.sel 1 rfl (.nil _))
def synodref3_CheckEntry.v (x0_0 : Int) (x0_1 : Int) (x0_2 : Int) (x0_3 : List UInt8) : Int := (synodref3_CheckEntry.f x0_0 x0_1 x0_2 x0_3).getD 0
theorem synodref3_CheckEntry.tot (x0_0 : Int) (x0_1 : Int) (x0_2 : Int) (x0_3 : List UInt8) : synodref3_CheckEntry.f x0_0 x0_1 x0_2 x0_3 = some (synodref3_CheckEntry.v x0_0 x0_1 x0_2 x0_3) := by
  have h : ∃ r, synodref3_CheckEntry.f x0_0 x0_1 x0_2 x0_3 = some r := by
    unfold synodref3_CheckEntry.f
    repeat' (first | exact ⟨_, rfl⟩ | split | simp only [Option.bind_some, synodref3_within.tot])
  obtain ⟨r, h⟩ := h
  unfold synodref3_CheckEntry.v
  rw [h]; rfl

def synodref3_PutEntry.f (k : Nat) (x0_0 : Int) (x0_1 : Int) (x0_2 : Int) (x0_3 : List UInt8) : Option (List UInt8 × Int) := (synodref3_CheckEntry.f x0_0 x0_1 x0_2 x0_3).bind fun s2v => (if s2v = (0 : Int) then ((synodref1_Writer_Int.f k ([] : List UInt8) (0 : Int) x0_0).bind fun s8v => ((synodref1_Writer_Int.f k s8v.1 s8v.2 x0_1).bind fun s11v => ((synodref1_Writer_Int.f k s11v.1 s11v.2 x0_2).bind fun s14v => ((synodref1_Writer_Bytes.f k s14v.1 s14v.2 x0_3 (4096 : Int)).bind fun s17v => ((synodref1_Writer_Done_s_c0p0.f s17v.1 s17v.2).bind fun s20v => (some (s20v.1, s20v.2))))))) else (some (([] : List UInt8), s2v)))
theorem synodref3_PutEntry.calls (W : World) (F : HA) (k : Nat) (x0_0 : Int) (x0_1 : Int) (x0_2 : Int) (a0_3 : Option Addr) (c0_3 : Nat) (x0_3 : List UInt8) (h0_3 : Rd F a0_3 (encB x0_3)) (hc0_3 : x0_3.length ≤ c0_3) (hm0_3 : c0_3 ≤ maxLen) :
    Fn Try.prog W 33 [.agg #[.int .i64 x0_0, .int .i64 x0_1, .int .i64 x0_2, .slice a0_3 x0_3.length c0_3]] [] F (synodref3_PutEntry.f k x0_0 x0_1 x0_2 x0_3) (fun (r : List UInt8 × Int) (y : Option Addr × Nat) => .tuple #[.slice y.1 r.1.length y.2, .int .i64 r.2]) (fun r y => [Row 5 1 y.1 r.1.length y.2 (encB r.1)]) := by
 unfold synodref3_PutEntry.f
 refine fn_intro 33 Try.func33 rfl Try.ntmps33 rfl ?_
 refine sim_seq ?_
 refine sim_region ?_
 refine simL_eff (re_box rfl rfl rfl) rfl rfl rfl ?_
 intro b1v
 refine simL_val (q_asg rfl rfl) rfl rfl rfl ?_
 refine simL_val (q_asg rfl rfl) rfl rfl rfl ?_
 refine simL_nil ?_
 refine nrm_then ?_
 refine sim_seq ?_
 refine sim_region ?_
 refine simL_val (q_loado 0 rfl rfl Try.isAgg61 Try.sizeOf61 rfl rfl) rfl rfl rfl ?_
 refine simL_bind (fun s2v hs4v => ?_)
 refine simL_eff (re_call (vs := [.agg #[.int .i64 x0_0, .int .i64 x0_1, .int .i64 x0_2, .slice a0_3 x0_3.length c0_3]]) (cap := []) (A := []) (rst := [obj b1v 61 [.int .i64 x0_0, .int .i64 x0_1, .int .i64 x0_2, .slice a0_3 x0_3.length c0_3], F]) rfl rfl rfl rfl rfl rfl Try.call35 (.sel 0 rfl (.sel 0 rfl (.nil _))) (synodref3_CheckEntry.calls _ _ x0_0 x0_1 x0_2 a0_3 c0_3 x0_3 (h0_3.lend 1 rfl) hc0_3 hm0_3) hs4v) rfl rfl rfl ?_
 intro y3v
 refine simL_val (q_asg rfl rfl) rfl rfl rfl ?_
 refine simL_nil ?_
 refine nrm_then ?_
 refine sim_seq ?_
 refine sim_seq ?_
 refine sim_region ?_
 refine simL_val (q_move rfl rfl) rfl rfl rfl ?_
 refine simL_val (q_neq rfl rfl rfl) rfl rfl rfl ?_
 refine simL_nil ?_
 refine nrm_then ?_
 refine sim_condn rfl (fun h5v => ?_) (fun h6v => ?_)
 refine sim_skip ?_
 refine nrm_then ?_
 refine sim_seq ?_
 refine sim_region ?_
 refine simL_val (q_build (v := .agg #[.slice none 0 0, .int .i64 0]) rfl rfl (fun _ => by kernel_rfl)) rfl rfl rfl ?_
 refine simL_eff (re_box rfl rfl rfl) rfl rfl rfl ?_
 intro b7v
 refine simL_val (q_asg rfl rfl) rfl rfl rfl ?_
 refine simL_nil ?_
 refine nrm_then ?_
 refine sim_seq ?_
 refine sim_region ?_
 refine simL_val (q_move rfl rfl) rfl rfl rfl ?_
 refine simL_val (q_fa rfl rfl Try.underlying61 rfl rfl Try.sizeOf3 rfl) rfl rfl rfl ?_
 refine simL_val (q_load rfl rfl Try.isAgg3 (.obj 1 rfl rfl)) rfl rfl rfl ?_
 refine simL_bind (fun s8v hs10v => ?_)
 refine simL_eff (re_call (vs := [.pointer (some ⟨b7v, 0, none⟩), .int .i64 x0_0]) (cap := []) (A := [obj b7v 143 [.slice none 0 0, .int .i64 0], Row 5 1 none ([] : List UInt8).length 0 (encB ([] : List UInt8))]) (rst := [obj b1v 61 [.int .i64 x0_0, .int .i64 x0_1, .int .i64 x0_2, .slice a0_3 x0_3.length c0_3], F]) rfl rfl rfl rfl rfl rfl Try.call79 (.sel 0 rfl (.row_nil (.sel 0 rfl (.sel 0 rfl (.nil _))))) (synodref1_Writer_Int.calls _ _ k b7v none 0 ([] : List UInt8) (0 : Int) x0_0 ) hs10v) rfl rfl rfl ?_
 intro y9v
 refine simL_nil ?_
 refine nrm_then ?_
 refine sim_seq ?_
 refine sim_region ?_
 refine simL_val (q_move rfl rfl) rfl rfl rfl ?_
 refine simL_val (q_fa rfl rfl Try.underlying61 rfl rfl Try.sizeOf3 rfl) rfl rfl rfl ?_
 refine simL_val (q_load rfl rfl Try.isAgg3 (.obj 2 rfl rfl)) rfl rfl rfl ?_
 refine simL_bind (fun s11v hs13v => ?_)
 refine simL_eff (re_call (vs := [.pointer (some ⟨b7v, 0, none⟩), .int .i64 x0_1]) (cap := []) (A := [obj b7v 143 [.slice y9v.1 s8v.1.length y9v.2, .int .i64 s8v.2], Row 5 1 y9v.1 s8v.1.length y9v.2 (encB s8v.1)]) (rst := [obj b1v 61 [.int .i64 x0_0, .int .i64 x0_1, .int .i64 x0_2, .slice a0_3 x0_3.length c0_3], F]) rfl rfl rfl rfl rfl rfl Try.call79 (.sel 0 rfl (.sel 0 rfl (.sel 0 rfl (.sel 0 rfl (.nil _))))) (synodref1_Writer_Int.calls _ _ k b7v y9v.1 y9v.2 s8v.1 s8v.2 x0_1 ) hs13v) rfl rfl rfl ?_
 intro y12v
 refine simL_nil ?_
 refine nrm_then ?_
 refine sim_seq ?_
 refine sim_region ?_
 refine simL_val (q_move rfl rfl) rfl rfl rfl ?_
 refine simL_val (q_fa rfl rfl Try.underlying61 rfl rfl Try.sizeOf3 rfl) rfl rfl rfl ?_
 refine simL_val (q_load rfl rfl Try.isAgg3 (.obj 2 rfl rfl)) rfl rfl rfl ?_
 refine simL_bind (fun s14v hs16v => ?_)
 refine simL_eff (re_call (vs := [.pointer (some ⟨b7v, 0, none⟩), .int .i64 x0_2]) (cap := []) (A := [obj b7v 143 [.slice y12v.1 s11v.1.length y12v.2, .int .i64 s11v.2], Row 5 1 y12v.1 s11v.1.length y12v.2 (encB s11v.1)]) (rst := [obj b1v 61 [.int .i64 x0_0, .int .i64 x0_1, .int .i64 x0_2, .slice a0_3 x0_3.length c0_3], F]) rfl rfl rfl rfl rfl rfl Try.call79 (.sel 0 rfl (.sel 0 rfl (.sel 0 rfl (.sel 0 rfl (.nil _))))) (synodref1_Writer_Int.calls _ _ k b7v y12v.1 y12v.2 s11v.1 s11v.2 x0_2 ) hs16v) rfl rfl rfl ?_
 intro y15v
 refine simL_nil ?_
 refine nrm_then ?_
 refine sim_seq ?_
 refine sim_region ?_
 refine simL_val (q_move rfl rfl) rfl rfl rfl ?_
 refine simL_val (q_fa rfl rfl Try.underlying61 rfl rfl Try.sizeOf27 rfl) rfl rfl rfl ?_
 refine simL_val (q_load rfl rfl Try.isAgg27 (.obj 2 rfl rfl)) rfl rfl rfl ?_
 refine simL_bind (fun s17v hs19v => ?_)
 refine simL_eff (re_call (vs := [.pointer (some ⟨b7v, 0, none⟩), .slice a0_3 x0_3.length c0_3, .int .i64 4096]) (cap := []) (A := [obj b7v 143 [.slice y15v.1 s14v.1.length y15v.2, .int .i64 s14v.2], Row 5 1 y15v.1 s14v.1.length y15v.2 (encB s14v.1)]) (rst := [obj b1v 61 [.int .i64 x0_0, .int .i64 x0_1, .int .i64 x0_2, .slice a0_3 x0_3.length c0_3], F]) rfl rfl rfl rfl rfl rfl Try.call89 (.sel 0 rfl (.sel 0 rfl (.sel 0 rfl (.sel 0 rfl (.nil _))))) (synodref1_Writer_Bytes.calls _ _ k b7v y15v.1 y15v.2 s14v.1 s14v.2 a0_3 c0_3 x0_3 (4096 : Int) (h0_3.lend 1 rfl) hc0_3 hm0_3) hs19v) rfl rfl rfl ?_
 intro y18v
 refine simL_nil ?_
 refine nrm_then ?_
 refine sim_seq ?_
 refine sim_region ?_
 refine simL_val (q_move rfl rfl) rfl rfl rfl ?_
 refine simL_bind (fun s20v hs22v => ?_)
 refine simL_eff (re_call (vs := [.pointer (some ⟨b7v, 0, none⟩)]) (cap := []) (A := [obj b7v 143 [.slice y18v.1 s17v.1.length y18v.2, .int .i64 s17v.2], Row 5 1 y18v.1 s17v.1.length y18v.2 (encB s17v.1)]) (rst := [obj b1v 61 [.int .i64 x0_0, .int .i64 x0_1, .int .i64 x0_2, .slice a0_3 x0_3.length c0_3], F]) rfl rfl rfl rfl rfl rfl Try.call80 (.sel 0 rfl (.sel 0 rfl (.sel 0 rfl (.sel 0 rfl (.nil _))))) (synodref1_Writer_Done_s_c0p0.calls _ _ b7v y18v.1 y18v.2 s17v.1 s17v.2 ) hs22v) rfl rfl rfl ?_
 intro y21v
 refine simL_val (q_ext rfl rfl rfl) rfl rfl rfl ?_
 refine simL_val (q_ext rfl rfl rfl) rfl rfl rfl ?_
 refine simL_val (q_asg rfl rfl) rfl rfl rfl ?_
 refine simL_val (q_asg rfl rfl) rfl rfl rfl ?_
 refine simL_nil ?_
 refine nrm_then ?_
 refine sim_rtn ?_
 exact rtn_fn (y21v.1, y21v.2) rfl rfl rfl (.sel 0 rfl (.sel 1 rfl (.nil _)))
 refine sim_seq ?_
 refine sim_region ?_
 refine simL_val (q_move rfl rfl) rfl rfl rfl ?_
 refine simL_val (q_asg rfl rfl) rfl rfl rfl ?_
 refine simL_val (q_asg rfl rfl) rfl rfl rfl ?_
 refine simL_nil ?_
 refine nrm_then ?_
 refine sim_rtn ?_
 refine rtn_then ?_
 exact rtn_fn (none, 0) rfl rfl rfl (.row_nil (.sel 1 rfl (.nil _)))

def synodref3_GetEntry.f (k : Nat) (x0 : List UInt8) : Option (Int × Int × Int × List UInt8 × Int) := (synodref1_Reader_Int.f k x0 (0 : Int) (0 : Int)).bind fun s3v => ((synodref1_Reader_Int.f k x0 s3v.2.1 s3v.2.2).bind fun s6v => ((synodref1_Reader_Int.f k x0 s6v.2.1 s6v.2.2).bind fun s9v => ((synodref1_Reader_Bytes.f k x0 s9v.2.1 s9v.2.2 (4096 : Int)).bind fun s12v => ((synodref1_Reader_Done.f x0 s12v.2.1 s12v.2.2).bind fun s16v => ((if s16v = (0 : Int) then ((synodref3_CheckEntry.f s3v.1 s6v.1 s9v.1 s12v.1).bind fun s27v => (some s27v)) else (some s16v)).bind fun s19v => (if s19v = (0 : Int) then (some (s3v.1, s6v.1, s9v.1, s12v.1, s19v)) else (some (0, 0, 0, ([] : List UInt8), s19v))))))))
theorem synodref3_GetEntry.calls (W : World) (F : HA) (k : Nat) (a0 : Option Addr) (c0 : Nat) (x0 : List UInt8) (h0 : Rd F a0 (encB x0)) (hc0 : x0.length ≤ c0) (hm0 : c0 ≤ maxLen) :
    Fn Try.prog W 37 [.slice a0 x0.length c0] [] F (synodref3_GetEntry.f k x0) (fun (r : Int × Int × Int × List UInt8 × Int) (y : Option Addr × Nat) => .tuple #[.agg #[.int .i64 r.1, .int .i64 r.2.1, .int .i64 r.2.2.1, .slice y.1 r.2.2.2.1.length y.2], .int .i64 r.2.2.2.2]) (fun r y => [Row 5 1 y.1 r.2.2.2.1.length y.2 (encB r.2.2.2.1)]) := by
 unfold synodref3_GetEntry.f
 refine fn_intro 31 Try.func37 rfl Try.ntmps37 rfl ?_
 refine sim_seq ?_
 refine sim_region ?_
 refine simL_eff (re_alloc rfl Try.zeroValue61 rfl) rfl rfl rfl ?_
 intro b1v
 refine simL_val (q_asg rfl rfl) rfl rfl rfl ?_
 refine simL_nil ?_
 refine nrm_then ?_
 refine sim_seq ?_
 refine sim_region ?_
 refine simL_val (q_move rfl rfl) rfl rfl rfl ?_
 refine simL_val (q_build (v := .agg #[.slice a0 x0.length c0, .int .i64 0, .int .i64 0]) rfl rfl (fun _ => by kernel_rfl)) rfl rfl rfl ?_
 refine simL_eff (re_box rfl rfl rfl) rfl rfl rfl ?_
 intro b2v
 refine simL_val (q_asg rfl rfl) rfl rfl rfl ?_
 refine simL_nil ?_
 refine nrm_then ?_
 refine sim_seq ?_
 refine sim_region ?_
 refine simL_val (q_move rfl rfl) rfl rfl rfl ?_
 refine simL_bind (fun s3v hs5v => ?_)
 refine simL_eff (re_call (vs := [.pointer (some ⟨b2v, 0, none⟩)]) (cap := []) (A := [obj b2v 152 [.slice a0 x0.length c0, .int .i64 0, .int .i64 0]]) (rst := [obj b1v 61 [.int .i64 0, .int .i64 0, .int .i64 0, .slice none 0 0], F]) rfl rfl rfl rfl rfl rfl Try.call85 (.sel 0 rfl (.sel 0 rfl (.sel 0 rfl (.nil _)))) (synodref1_Reader_Int.calls _ _ k b2v a0 c0 x0 (0 : Int) (0 : Int) (h0.lend 1 rfl) hc0 hm0) hs5v) rfl rfl rfl ?_
 intro y4v
 refine simL_val (q_move rfl rfl) rfl rfl rfl ?_
 refine simL_bind (fun s6v hs8v => ?_)
 refine simL_eff (re_call (vs := [.pointer (some ⟨b2v, 0, none⟩)]) (cap := []) (A := [obj b2v 152 [.slice a0 x0.length c0, .int .i64 s3v.2.1, .int .i64 s3v.2.2]]) (rst := [obj b1v 61 [.int .i64 0, .int .i64 0, .int .i64 0, .slice none 0 0], F]) rfl rfl rfl rfl rfl rfl Try.call85 (.sel 0 rfl (.sel 0 rfl (.sel 0 rfl (.nil _)))) (synodref1_Reader_Int.calls _ _ k b2v a0 c0 x0 s3v.2.1 s3v.2.2 (h0.lend 1 rfl) hc0 hm0) hs8v) rfl rfl rfl ?_
 intro y7v
 refine simL_val (q_move rfl rfl) rfl rfl rfl ?_
 refine simL_bind (fun s9v hs11v => ?_)
 refine simL_eff (re_call (vs := [.pointer (some ⟨b2v, 0, none⟩)]) (cap := []) (A := [obj b2v 152 [.slice a0 x0.length c0, .int .i64 s6v.2.1, .int .i64 s6v.2.2]]) (rst := [obj b1v 61 [.int .i64 0, .int .i64 0, .int .i64 0, .slice none 0 0], F]) rfl rfl rfl rfl rfl rfl Try.call85 (.sel 0 rfl (.sel 0 rfl (.sel 0 rfl (.nil _)))) (synodref1_Reader_Int.calls _ _ k b2v a0 c0 x0 s6v.2.1 s6v.2.2 (h0.lend 1 rfl) hc0 hm0) hs11v) rfl rfl rfl ?_
 intro y10v
 refine simL_val (q_move rfl rfl) rfl rfl rfl ?_
 refine simL_bind (fun s12v hs14v => ?_)
 refine simL_eff (re_call (vs := [.pointer (some ⟨b2v, 0, none⟩), .int .i64 4096]) (cap := []) (A := [obj b2v 152 [.slice a0 x0.length c0, .int .i64 s9v.2.1, .int .i64 s9v.2.2]]) (rst := [obj b1v 61 [.int .i64 0, .int .i64 0, .int .i64 0, .slice none 0 0], F]) rfl rfl rfl rfl rfl rfl Try.call92 (.sel 0 rfl (.sel 0 rfl (.sel 0 rfl (.nil _)))) (synodref1_Reader_Bytes.calls _ _ k b2v a0 c0 x0 s9v.2.1 s9v.2.2 (4096 : Int) (h0.lend 1 rfl) hc0 hm0) hs14v) rfl rfl rfl ?_
 intro y13v
 refine simL_val (q_build (v := .agg #[.int .i64 s3v.1, .int .i64 s6v.1, .int .i64 s9v.1, .slice y13v.1 s12v.1.length y13v.2]) rfl rfl (fun _ => by kernel_rfl)) rfl rfl rfl ?_
 refine simL_eff (re_alloc rfl Try.zeroValue61 rfl) rfl rfl rfl ?_
 intro b15v
 refine simL_do (re_store 0 rfl rfl rfl Try.sizeOf61 rfl rfl (one_of (by rfl)) rfl rfl) rfl rfl ?_
 intro _
 refine simL_nil ?_
 refine nrm_then ?_
 refine sim_seq ?_
 refine sim_region ?_
 refine simL_val (q_move rfl rfl) rfl rfl rfl ?_
 refine simL_bind (fun s16v hs18v => ?_)
 refine simL_eff (re_call (vs := [.pointer (some ⟨b2v, 0, none⟩)]) (cap := []) (A := [obj b2v 152 [.slice a0 x0.length c0, .int .i64 s12v.2.1, .int .i64 s12v.2.2]]) (rst := [obj b15v 61 [.int .i64 s3v.1, .int .i64 s6v.1, .int .i64 s9v.1, .slice y13v.1 s12v.1.length y13v.2], Row 5 1 y13v.1 s12v.1.length y13v.2 (encB s12v.1), obj b1v 61 [.int .i64 0, .int .i64 0, .int .i64 0, .slice none 0 0], F]) rfl rfl rfl rfl rfl rfl Try.call86 (.sel 2 rfl (.sel 0 rfl (.sel 0 rfl (.sel 0 rfl (.sel 0 rfl (.nil _)))))) (synodref1_Reader_Done.calls _ _ b2v a0 c0 x0 s12v.2.1 s12v.2.2 (h0.lend 3 rfl) hc0 hm0) hs18v) rfl rfl rfl ?_
 intro y17v
 refine simL_val (q_asg rfl rfl) rfl rfl rfl ?_
 refine simL_nil ?_
 refine nrm_then ?_
 refine sim_cut (S := Int) (Unit) (fun s y => [(2, .pointer (some ⟨b1v, 0, none⟩)), (5, .pointer (some ⟨b15v, 0, none⟩)), (6, .int .i64 s)]) (fun s y => [obj b15v 61 [.int .i64 s3v.1, .int .i64 s6v.1, .int .i64 s9v.1, .slice y13v.1 s12v.1.length y13v.2], obj b1v 61 [.int .i64 0, .int .i64 0, .int .i64 0, .slice none 0 0], Row 5 1 y13v.1 s12v.1.length y13v.2 (encB s12v.1), F]) ?_ ?_
 refine sim_seq ?_
 refine sim_region ?_
 refine simL_val (q_move rfl rfl) rfl rfl rfl ?_
 refine simL_val (q_eql rfl rfl rfl) rfl rfl rfl ?_
 refine simL_nil ?_
 refine nrm_then ?_
 refine sim_cond rfl (fun h21v => ?_) (fun h22v => ?_)
 refine sim_region ?_
 refine simL_val (q_loado 1 rfl rfl Try.isAgg61 Try.sizeOf61 rfl rfl) rfl rfl rfl ?_
 refine simL_bind (fun s27v hs29v => ?_)
 refine simL_lend 2 rfl (fun hq23v hq24v hq25v hq26v => ?_)
 refine simL_eff (re_call (vs := [.agg #[.int .i64 s3v.1, .int .i64 s6v.1, .int .i64 s9v.1, .slice y13v.1 s12v.1.length y13v.2]]) (cap := []) (A := []) (rst := [obj b2v 152 [.slice a0 x0.length c0, .int .i64 s12v.2.1, .int .i64 s12v.2.2], obj b15v 61 [.int .i64 s3v.1, .int .i64 s6v.1, .int .i64 s9v.1, .slice y13v.1 s12v.1.length y13v.2], Row 5 1 y13v.1 s12v.1.length y13v.2 (encB s12v.1), obj b1v 61 [.int .i64 0, .int .i64 0, .int .i64 0, .slice none 0 0], F]) rfl rfl rfl rfl rfl rfl Try.call35 (.sel 0 rfl (.sel 0 rfl (.sel 0 rfl (.sel 0 rfl (.sel 0 rfl (.nil _)))))) (synodref3_CheckEntry.calls _ _ s3v.1 s6v.1 s9v.1 y13v.1 y13v.2 s12v.1 (hq23v.lend 2 rfl) hq24v hq25v) hs29v) rfl rfl rfl ?_
 intro y28v
 refine simL_val (q_asg rfl rfl) rfl rfl rfl ?_
 refine simL_nil ?_
 exact nrm_cut (s := s27v) () ⟨rfl, rfl, rfl, trivial⟩ (.sel 1 rfl (.sel 2 rfl (.sel 1 rfl (.sel 1 rfl (.nil _)))))
 refine sim_skip ?_
 exact nrm_cut (s := s16v) () ⟨rfl, rfl, rfl, trivial⟩ (.sel 1 rfl (.sel 2 rfl (.sel 1 rfl (.sel 1 rfl (.nil _)))))
 intro s19v y20v
 refine sim_seq ?_
 refine sim_seq ?_
 refine sim_region ?_
 refine simL_val (q_move rfl rfl) rfl rfl rfl ?_
 refine simL_val (q_neq rfl rfl rfl) rfl rfl rfl ?_
 refine simL_nil ?_
 refine nrm_then ?_
 refine sim_condn rfl (fun h30v => ?_) (fun h31v => ?_)
 refine sim_skip ?_
 refine nrm_then ?_
 refine sim_seq ?_
 refine sim_region ?_
 refine simL_val (q_loado 0 rfl rfl Try.isAgg61 Try.sizeOf61 rfl rfl) rfl rfl rfl ?_
 refine simL_val (q_move rfl rfl) rfl rfl rfl ?_
 refine simL_do (re_store 1 rfl rfl rfl Try.sizeOf61 rfl rfl (one_of (by rfl)) rfl rfl) rfl rfl ?_
 intro _
 refine simL_val (q_asg rfl rfl) rfl rfl rfl ?_
 refine simL_nil ?_
 refine nrm_then ?_
 refine sim_rtn ?_
 exact rtn_fnC (vs := [.agg #[.int .i64 s3v.1, .int .i64 s6v.1, .int .i64 s9v.1, .slice y13v.1 s12v.1.length y13v.2], .int .i64 s19v]) (y13v.1, y13v.2) rfl ⟨⟨b1v, rfl, load_agg 1 Try.isAgg61 Try.sizeOf61 rfl rfl⟩, rfl, trivial⟩ rfl (.sel 2 rfl (.sel 2 rfl (.nil _)))
 refine sim_seq ?_
 refine sim_region ?_
 refine simL_val (q_build (v := .agg #[.int .i64 0, .int .i64 0, .int .i64 0, .slice none 0 0]) rfl rfl (fun _ => by kernel_rfl)) rfl rfl rfl ?_
 refine simL_val (q_move rfl rfl) rfl rfl rfl ?_
 refine simL_do (re_store 1 rfl rfl rfl Try.sizeOf61 rfl rfl (one_of (by rfl)) rfl rfl) rfl rfl ?_
 intro _
 refine simL_val (q_asg rfl rfl) rfl rfl rfl ?_
 refine simL_nil ?_
 refine nrm_then ?_
 refine sim_rtn ?_
 refine rtn_then ?_
 exact rtn_fnC (vs := [.agg #[.int .i64 0, .int .i64 0, .int .i64 0, .slice none 0 0], .int .i64 s19v]) (none, 0) rfl ⟨⟨b1v, rfl, load_agg 1 Try.isAgg61 Try.sizeOf61 rfl rfl⟩, rfl, trivial⟩ rfl (.row_nil (.sel 3 rfl (.nil _)))

def synodref3_None.f (x0_0 : Int) (x0_1 : Int) (x0_2 : List UInt8) : Option (Bool) := some (((decide (x0_0 = (0 : Int))) && (decide (x0_1 = (0 : Int)))) && (decide ((x0_2.length : Int) = (0 : Int))))
theorem synodref3_None.calls (W : World) (F : HA) (x0_0 : Int) (x0_1 : Int) (a0_2 : Option Addr) (c0_2 : Nat) (x0_2 : List UInt8) (h0_2 : Rd F a0_2 (encB x0_2)) (hc0_2 : x0_2.length ≤ c0_2) (hm0_2 : c0_2 ≤ maxLen) :
    Fn Try.prog W 74 [.agg #[.int .i64 x0_0, .int .i64 x0_1, .slice a0_2 x0_2.length c0_2]] [] F (synodref3_None.f x0_0 x0_1 x0_2) (fun (r : Bool) (y : Unit) => .bool r) (fun r y => []) := by
 unfold synodref3_None.f
 refine fn_intro 17 Try.func74 rfl Try.ntmps74 rfl ?_
 refine sim_seq ?_
 refine sim_region ?_
 refine simL_eff (re_box rfl rfl rfl) rfl rfl rfl ?_
 intro b1v
 refine simL_val (q_asg rfl rfl) rfl rfl rfl ?_
 refine simL_nil ?_
 refine nrm_then ?_
 refine sim_seq ?_
 refine sim_region ?_
 refine simL_val (q_fa rfl rfl Try.underlying29 rfl rfl Try.sizeOf3 rfl) rfl rfl rfl ?_
 refine simL_val (q_load rfl rfl Try.isAgg3 (.obj 0 rfl rfl)) rfl rfl rfl ?_
 refine simL_val (q_eql rfl rfl rfl) rfl rfl rfl ?_
 refine simL_val (q_move rfl rfl) rfl rfl rfl ?_
 refine simL_valc (b := decide (x0_0 = (0 : Int))) (fun hb8v => RQ.sub (E' := [(1, .pointer (some ⟨b1v, 0, none⟩))]) ⟨rfl, trivial⟩ (q_fa rfl rfl Try.underlying29 rfl rfl Try.sizeOf3 rfl)) rfl rfl rfl rfl rfl ?_
 refine simL_valc (b := decide (x0_0 = (0 : Int))) (fun hb7v => RQ.sub (E' := [(7, .pointer (some ⟨b1v, 1, none⟩))]) ⟨lk_cv rfl hb7v, trivial⟩ (q_load rfl rfl Try.isAgg3 (.obj 0 rfl rfl))) rfl rfl rfl rfl rfl ?_
 refine simL_valc (b := decide (x0_0 = (0 : Int))) (fun hb6v => RQ.sub (E' := [(8, .int .i64 x0_1)]) ⟨lk_cv rfl hb6v, trivial⟩ (q_eql rfl rfl rfl)) rfl rfl rfl rfl rfl ?_
 refine simL_val (q_and rfl rfl rfl) rfl rfl rfl ?_
 refine simL_val (q_move rfl rfl) rfl rfl rfl ?_
 refine simL_valc (b := (decide (x0_0 = (0 : Int))) && (decide (x0_1 = (0 : Int)))) (fun hb5v => RQ.sub (E' := [(1, .pointer (some ⟨b1v, 0, none⟩))]) ⟨rfl, trivial⟩ (q_fa rfl rfl Try.underlying29 rfl rfl Try.sizeOf27 rfl)) rfl rfl rfl rfl rfl ?_
 refine simL_valc (b := (decide (x0_0 = (0 : Int))) && (decide (x0_1 = (0 : Int)))) (fun hb4v => RQ.sub (E' := [(12, .pointer (some ⟨b1v, 2, none⟩))]) ⟨lk_cv rfl hb4v, trivial⟩ (q_load rfl rfl Try.isAgg27 (.obj 0 rfl rfl))) rfl rfl rfl rfl rfl ?_
 refine simL_valc (b := (decide (x0_0 = (0 : Int))) && (decide (x0_1 = (0 : Int)))) (fun hb3v => RQ.sub (E' := [(13, .slice a0_2 x0_2.length c0_2)]) ⟨lk_cv rfl hb3v, trivial⟩ (q_len rfl rfl rfl Try.underlying27)) rfl rfl rfl rfl rfl ?_
 refine simL_valc (b := (decide (x0_0 = (0 : Int))) && (decide (x0_1 = (0 : Int)))) (fun hb2v => RQ.sub (E' := [(14, .int .i64 (x0_2.length : Int))]) ⟨lk_cv rfl hb2v, trivial⟩ (q_eql rfl rfl rfl)) rfl rfl rfl rfl rfl ?_
 refine simL_val (q_and rfl rfl rfl) rfl rfl rfl ?_
 refine simL_val (q_asg rfl rfl) rfl rfl rfl ?_
 refine simL_nil ?_
 refine nrm_then ?_
 refine sim_rtn ?_
 exact rtn_fn () rfl rfl rfl (.sel 1 rfl (.nil _))
def synodref3_None.v (x0_0 : Int) (x0_1 : Int) (x0_2 : List UInt8) : Bool := (synodref3_None.f x0_0 x0_1 x0_2).getD false
theorem synodref3_None.tot (x0_0 : Int) (x0_1 : Int) (x0_2 : List UInt8) : synodref3_None.f x0_0 x0_1 x0_2 = some (synodref3_None.v x0_0 x0_1 x0_2) := by
  have h : ∃ r, synodref3_None.f x0_0 x0_1 x0_2 = some r := by
    unfold synodref3_None.f
    repeat' (first | exact ⟨_, rfl⟩ | split | simp only [Option.bind_some])
  obtain ⟨r, h⟩ := h
  unfold synodref3_None.v
  rw [h]; rfl

def synodref3_CheckSnap.f (x0_0 : Int) (x0_1 : Int) (x0_2 : List UInt8) : Option (Int) := (synodref3_None.f x0_0 x0_1 x0_2).bind fun s2v => (if s2v = true then (some 0) else ((synodref3_within.f x0_0 (1 : Int) (4611686018427387904 : Int)).bind fun s7v => ((if (!s7v) = true then (some true) else ((synodref3_within.f x0_1 (1 : Int) (4611686018427387904 : Int)).bind fun s12v => (some (!s12v)))).bind fun s10v => (if s10v = true then (some 1) else (if (524288 : Int) < (x0_2.length : Int) then (some 3) else (some 0))))))
theorem synodref3_CheckSnap.calls (W : World) (F : HA) (x0_0 : Int) (x0_1 : Int) (a0_2 : Option Addr) (c0_2 : Nat) (x0_2 : List UInt8) (h0_2 : Rd F a0_2 (encB x0_2)) (hc0_2 : x0_2.length ≤ c0_2) (hm0_2 : c0_2 ≤ maxLen) :
    Fn Try.prog W 42 [.agg #[.int .i64 x0_0, .int .i64 x0_1, .slice a0_2 x0_2.length c0_2]] [] F (synodref3_CheckSnap.f x0_0 x0_1 x0_2) (fun (r : Int) (y : Unit) => .int .i64 r) (fun r y => []) := by
 unfold synodref3_CheckSnap.f
 refine fn_intro 19 Try.func42 rfl Try.ntmps42 rfl ?_
 refine sim_seq ?_
 refine sim_region ?_
 refine simL_eff (re_box rfl rfl rfl) rfl rfl rfl ?_
 intro b1v
 refine simL_val (q_asg rfl rfl) rfl rfl rfl ?_
 refine simL_nil ?_
 refine nrm_then ?_
 refine sim_seq ?_
 refine sim_seq ?_
 refine sim_region ?_
 refine simL_val (q_loado 0 rfl rfl Try.isAgg29 Try.sizeOf29 rfl rfl) rfl rfl rfl ?_
 refine simL_bind (fun s2v hs4v => ?_)
 refine simL_eff (re_call (vs := [.agg #[.int .i64 x0_0, .int .i64 x0_1, .slice a0_2 x0_2.length c0_2]]) (cap := []) (A := []) (rst := [obj b1v 29 [.int .i64 x0_0, .int .i64 x0_1, .slice a0_2 x0_2.length c0_2], F]) rfl rfl rfl rfl rfl rfl Try.call74 (.sel 0 rfl (.sel 0 rfl (.nil _))) (synodref3_None.calls _ _ x0_0 x0_1 a0_2 c0_2 x0_2 (h0_2.lend 1 rfl) hc0_2 hm0_2) hs4v) rfl rfl rfl ?_
 intro y3v
 refine simL_nil ?_
 refine nrm_then ?_
 refine sim_condb rfl (fun h5v => ?_) (fun h6v => ?_)
 refine sim_seq ?_
 refine sim_region ?_
 refine simL_val (q_asg rfl rfl) rfl rfl rfl ?_
 refine simL_nil ?_
 refine nrm_then ?_
 refine sim_rtn ?_
 refine rtn_then ?_
 exact rtn_fn () rfl rfl rfl (.sel 1 rfl (.nil _))
 refine sim_skip ?_
 refine nrm_then ?_
 refine sim_seq ?_
 refine sim_seq ?_
 refine sim_region ?_
 refine simL_val (q_fa rfl rfl Try.underlying29 rfl rfl Try.sizeOf3 rfl) rfl rfl rfl ?_
 refine simL_val (q_load rfl rfl Try.isAgg3 (.obj 0 rfl rfl)) rfl rfl rfl ?_
 refine simL_bind (fun s7v hs9v => ?_)
 refine simL_eff (re_call (vs := [.int .i64 x0_0, .int .i64 1, .int .i64 4611686018427387904]) (cap := []) (A := []) (rst := [obj b1v 29 [.int .i64 x0_0, .int .i64 x0_1, .slice a0_2 x0_2.length c0_2], F]) rfl rfl rfl rfl rfl rfl Try.call69 (.sel 0 rfl (.sel 0 rfl (.nil _))) (synodref3_within.calls _ _ x0_0 (1 : Int) (4611686018427387904 : Int) ) hs9v) rfl rfl rfl ?_
 intro y8v
 refine simL_val (q_not rfl rfl) rfl rfl rfl ?_
 refine simL_val (q_move rfl rfl) rfl rfl rfl ?_
 refine simL_cut' 5 (S := Bool) (Unit) (fun s y => [(1, .pointer (some ⟨b1v, 0, none⟩)), (14, .bool s)]) (fun s y => [obj b1v 29 [.int .i64 x0_0, .int .i64 x0_1, .slice a0_2 x0_2.length c0_2], F]) ?_ ?_
 refine simL_caseb (fun hb15v => ?_) (fun hb16v => ?_)
 rw [hb15v]
 refine simL_skipd rfl rfl rfl rfl rfl rfl ?_
 refine simL_skipd rfl rfl rfl rfl rfl rfl ?_
 refine simL_skipd rfl rfl rfl rfl rfl rfl ?_
 refine simL_skipd rfl rfl rfl rfl rfl rfl ?_
 refine simL_val (q_pick rfl rfl rfl rfl rfl) rfl rfl rfl ?_
 refine simL_nil ?_
 exact nrm_cut (s := true) () ⟨rfl, rfl, trivial⟩ (.sel 0 rfl (.sel 0 rfl (.nil _)))
 rw [hb16v]
 refine simL_valg (q_fa rfl rfl Try.underlying29 rfl rfl Try.sizeOf3 rfl) rfl rfl rfl rfl rfl rfl ?_
 refine simL_valg (q_load rfl rfl Try.isAgg3 (.obj 0 rfl rfl)) rfl rfl rfl rfl rfl rfl ?_
 refine simL_bind (fun s12v hs14v => ?_)
 refine simL_effg (re_call (vs := [.int .i64 x0_1, .int .i64 1, .int .i64 4611686018427387904]) (cap := []) (A := []) (rst := [obj b1v 29 [.int .i64 x0_0, .int .i64 x0_1, .slice a0_2 x0_2.length c0_2], F]) rfl rfl rfl rfl rfl rfl Try.call69 (.sel 0 rfl (.sel 0 rfl (.nil _))) (synodref3_within.calls _ _ x0_1 (1 : Int) (4611686018427387904 : Int) ) hs14v) rfl rfl rfl rfl rfl rfl ?_
 intro y13v
 refine simL_valg (q_not rfl rfl) rfl rfl rfl rfl rfl rfl ?_
 refine simL_val (q_pick rfl rfl rfl rfl rfl) rfl rfl rfl ?_
 refine simL_nil ?_
 exact nrm_cut (s := !s12v) () ⟨rfl, rfl, trivial⟩ (.sel 0 rfl (.sel 0 rfl (.nil _)))
 intro s10v y11v
 refine simL_nil ?_
 refine nrm_then ?_
 refine sim_condb rfl (fun h17v => ?_) (fun h18v => ?_)
 refine sim_seq ?_
 refine sim_region ?_
 refine simL_val (q_asg rfl rfl) rfl rfl rfl ?_
 refine simL_nil ?_
 refine nrm_then ?_
 refine sim_rtn ?_
 refine rtn_then ?_
 exact rtn_fn () rfl rfl rfl (.sel 1 rfl (.nil _))
 refine sim_skip ?_
 refine nrm_then ?_
 refine sim_seq ?_
 refine sim_seq ?_
 refine sim_region ?_
 refine simL_val (q_fa rfl rfl Try.underlying29 rfl rfl Try.sizeOf27 rfl) rfl rfl rfl ?_
 refine simL_val (q_load rfl rfl Try.isAgg27 (.obj 0 rfl rfl)) rfl rfl rfl ?_
 refine simL_val (q_len rfl rfl rfl Try.underlying27) rfl rfl rfl ?_
 refine simL_val (q_gtr rfl rfl rfl) rfl rfl rfl ?_
 refine simL_nil ?_
 refine nrm_then ?_
 refine sim_cond rfl (fun h19v => ?_) (fun h20v => ?_)
 refine sim_seq ?_
 refine sim_region ?_
 refine simL_val (q_asg rfl rfl) rfl rfl rfl ?_
 refine simL_nil ?_
 refine nrm_then ?_
 refine sim_rtn ?_
 refine rtn_then ?_
 exact rtn_fn () rfl rfl rfl (.sel 1 rfl (.nil _))
 refine sim_skip ?_
 refine nrm_then ?_
 refine sim_seq ?_
 refine sim_region ?_
 refine simL_val (q_asg rfl rfl) rfl rfl rfl ?_
 refine simL_nil ?_
 refine nrm_then ?_
 refine sim_rtn ?_
 exact rtn_fn () rfl rfl rfl (.sel 1 rfl (.nil _))
def synodref3_CheckSnap.v (x0_0 : Int) (x0_1 : Int) (x0_2 : List UInt8) : Int := (synodref3_CheckSnap.f x0_0 x0_1 x0_2).getD 0
theorem synodref3_CheckSnap.tot (x0_0 : Int) (x0_1 : Int) (x0_2 : List UInt8) : synodref3_CheckSnap.f x0_0 x0_1 x0_2 = some (synodref3_CheckSnap.v x0_0 x0_1 x0_2) := by
  have h : ∃ r, synodref3_CheckSnap.f x0_0 x0_1 x0_2 = some r := by
    unfold synodref3_CheckSnap.f
    repeat' (first | exact ⟨_, rfl⟩ | split | simp only [Option.bind_some, synodref3_None.tot, synodref3_within.tot])
  obtain ⟨r, h⟩ := h
  unfold synodref3_CheckSnap.v
  rw [h]; rfl
end Go.Proofs.Ytdoghfenhoigmaa

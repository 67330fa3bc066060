/- Printed by gen.py: pure functions and the proofs that the Go functions simulate them. Conditions: as each theorem says. -/
import Derived.Test.YtdaedoklkmdhcaaGreatG1
namespace Go.Proofs.YtdaedoklkmdhcaaGreat
open Go.RowKit
set_option linter.unusedVariables false
set_option linter.unusedSimpArgs false
set_option maxRecDepth 20000
set_option maxHeartbeats 20000000
def wire_Reader_Bytes.f (k : Nat) (x0_0 : List UInt8) (x0_1 : Int) (x0_2 : Int) (x1 : Int) : Option (List UInt8 × Int × Int) := (wire_Reader_look.f k x0_0 x0_1 x0_2).bind fun s1v => (if (!s1v.2.2.1) = true then (some (([] : List UInt8), s1v.2.2.2.1, s1v.2.2.2.2)) else (if max x1 (0 : Int) < s1v.1 then (some (([] : List UInt8), s1v.2.2.2.1, 3)) else (if IntKind.i64.wrap ((IntKind.i64.wrap ((x0_0.length : Int) - s1v.2.2.2.1)) - s1v.2.1) < s1v.1 then (some (([] : List UInt8), s1v.2.2.2.1, 2)) else (if 0 ≤ IntKind.i64.wrap (s1v.2.2.2.1 + s1v.2.1) ∧ IntKind.i64.wrap (s1v.2.2.2.1 + s1v.2.1) ≤ IntKind.i64.wrap ((IntKind.i64.wrap (s1v.2.2.2.1 + s1v.2.1)) + s1v.1) ∧ IntKind.i64.wrap ((IntKind.i64.wrap (s1v.2.2.2.1 + s1v.2.1)) + s1v.1) ≤ (x0_0.length : Int) then ((wire_fresh.f (cut x0_0 (IntKind.i64.wrap (s1v.2.2.2.1 + s1v.2.1)) (IntKind.i64.wrap ((IntKind.i64.wrap (s1v.2.2.2.1 + s1v.2.1)) + s1v.1)))).bind fun s18v => (some (s18v, IntKind.i64.wrap ((IntKind.i64.wrap (s1v.2.2.2.1 + s1v.2.1)) + s1v.1), s1v.2.2.2.2))) else none))))
theorem wire_Reader_Bytes.calls (W : World) (F : HA) (k : Nat) (b0 : Nat) (a0_0 : Option Addr) (c0_0 : Nat) (x0_0 : List UInt8) (x0_1 : Int) (x0_2 : Int) (x1 : Int) (h0_0 : Rd F a0_0 (encB x0_0)) (hc0_0 : x0_0.length ≤ c0_0) (hm0_0 : c0_0 ≤ maxLen) :
    Fn Tryz.prog W 96 [.pointer (some ⟨b0, 0, none⟩), .int .i64 x1] [obj b0 125 [.slice a0_0 x0_0.length c0_0, .int .i64 x0_1, .int .i64 x0_2]] F (wire_Reader_Bytes.f k x0_0 x0_1 x0_2 x1) (fun (r : List UInt8 × Int × Int) (y : Option Addr × Nat) => .slice y.1 r.1.length y.2) (fun r y => [Row 5 1 y.1 r.1.length y.2 (encB r.1), obj b0 125 [.slice a0_0 x0_0.length c0_0, .int .i64 r.2.1, .int .i64 r.2.2]]) := by
 unfold wire_Reader_Bytes.f
 refine fn_intro 67 Tryz.func96 rfl Tryz.ntmps96 rfl ?_
 refine sr ?_
 refine va rfl rfl (nx ?_)
 refine vm rfl rfl ?_
 refine simL_bind (fun s1v hs2v => ?_)
 refine simL_eff (re_call (vs := [.pointer (some ⟨b0, 0, none⟩)]) (cap := []) (A := [obj b0 125 [.slice a0_0 x0_0.length c0_0, .int .i64 x0_1, .int .i64 x0_2]]) (rst := [F]) rfl rfl rfl rfl rfl rfl Tryz.call95 (.sel 0 rfl (.sel 0 rfl (.nil _))) (wire_Reader_look.calls _ _ k b0 a0_0 c0_0 x0_0 x0_1 x0_2 (h0_0.lend 0 rfl) hc0_0 hm0_0) hs2v) rfl rfl rfl ?_
 intro y3v
 refine vm rfl rfl ?_
 refine vq (q_ext rfl rfl rfl) rfl ?_
 refine vq (q_ext rfl rfl rfl) rfl ?_
 refine vq (q_ext rfl rfl rfl) rfl ?_
 refine va rfl rfl ?_
 refine va rfl rfl ?_
 refine va rfl rfl (simL_nil (nrm_then (sim_seq ?_)))
 refine sim_block ?_
 refine sr ?_
 refine vm rfl rfl ?_
 refine vq (q_not rfl rfl) rfl ?_
 refine va rfl rfl (simL_nil (nrm_then ?_))
 refine sim_condb rfl (fun h4v => ?_) (fun h5v => ?_)
 refine sr ?_
 refine va rfl rfl (simL_nil (nrm_then (sim_rtn ?_)))
 refine rtn_block ?_
 refine rtn_then ?_
 exact rtn_fn (none, 0) rfl rfl rfl (.row_nil (.sel 0 rfl (.sel 0 rfl (.nil _))))
 refine sr ?_
 refine vm rfl rfl ?_
 refine vm rfl rfl ?_
 refine vq (q_max rfl rfl rfl) rfl ?_
 refine vq (q_gtr rfl rfl rfl) rfl ?_
 refine va rfl rfl (simL_nil (nrm_then ?_))
 refine sim_cond rfl (fun h6v => ?_) (fun h7v => ?_)
 refine sr ?_
 refine vm rfl rfl ?_
 refine vn rfl rfl ?_
 refine vq (q_fa rfl rfl Tryz.underlying125 rfl rfl Tryz.sizeOf31 rfl) rfl ?_
 refine simL_do (re_store 0 rfl rfl rfl Tryz.sizeOf31 rfl rfl (one_of (by rfl)) rfl rfl) rfl rfl ?_
 intro _
 refine nx ?_
 refine va rfl rfl (simL_nil (nrm_then (sim_rtn ?_)))
 refine rtn_block ?_
 refine rtn_then ?_
 exact rtn_fn (none, 0) rfl rfl rfl (.row_nil (.sel 0 rfl (.sel 0 rfl (.nil _))))
 refine sim_seq ?_
 refine sim_draw (Γ := Unit) () [[], [], [1], [1, 2], [1, 2, 3], [1, 2, 3, 4], [], [6], [6, 7], [6, 7, 8], [1, 2, 3, 4, 5, 6, 7, 8, 9], [], [1, 2, 3, 4, 5, 6, 7, 8, 9, 10, 11], rL 13, rL 14] [] [0, 1, 2, 3, 4, 5, 6, 7, 8, 9, 10, 11, 12, 13, 14] (fun i => [[0], [0], [0], [0], [0], [0], [0], [0], [0], [0], [0], [0], [0], [0], [0]].getD i []) (fun i => [[], [], [], [], [], [], [], [], [], [], [], [], [], [], []].getD i []) (fun γ i => [.int .i64 s1v.1, .pointer (some ⟨b0, 0, none⟩), .pointer (some ⟨b0, 0, none⟩), .pointer (some ⟨b0, 0, none⟩), .slice a0_0 x0_0.length c0_0, .int .i64 (x0_0.length : Int), .pointer (some ⟨b0, 0, none⟩), .pointer (some ⟨b0, 0, none⟩), .pointer (some ⟨b0, 1, none⟩), .int .i64 s1v.2.2.2.1, .int .i64 (IntKind.i64.wrap ((x0_0.length : Int) - s1v.2.2.2.1)), .int .i64 s1v.2.1, .int .i64 (IntKind.i64.wrap ((IntKind.i64.wrap ((x0_0.length : Int) - s1v.2.2.2.1)) - s1v.2.1)), .bool (decide (IntKind.i64.wrap ((IntKind.i64.wrap ((x0_0.length : Int) - s1v.2.2.2.1)) - s1v.2.1) < s1v.1)), .bool (decide (IntKind.i64.wrap ((IntKind.i64.wrap ((x0_0.length : Int) - s1v.2.2.2.1)) - s1v.2.1) < s1v.1))].getD i undef) (fun j γ => [[obj b0 125 [.slice a0_0 x0_0.length c0_0, .int .i64 s1v.2.2.2.1, .int .i64 s1v.2.2.2.2], F]].getD j []) (fun γ => [(0, .pointer (some ⟨b0, 0, none⟩)), (5, .int .i64 s1v.1), (6, .int .i64 s1v.2.1), (26, .bool (decide (IntKind.i64.wrap ((IntKind.i64.wrap ((x0_0.length : Int) - s1v.2.2.2.1)) - s1v.2.1) < s1v.1)))]) mixed (by decide) (by decide) (by decide) (by decide) (by decide) (by decide) (by decide) 67 rfl (by decide) (by decide) (by decide) (Ent.refl _) ?_ ?_ (fun _ => ⟨rfl, rfl, rfl, rfl, trivial⟩) ?_
 exact (aq rfl (fun γ => qm rfl (.o (s := 5) rfl (by decide) .nil) rfl) (aq rfl (fun γ => qm rfl (.o (s := 0) rfl (by decide) .nil) rfl) (aq rfl (fun γ => qp rfl rfl (.v 1 rfl rfl .nil) (q_nil rfl rfl) rfl) (aq rfl (fun γ => qp rfl rfl (.v 2 rfl rfl .nil) (q_fa rfl rfl Tryz.underlying125 rfl rfl Tryz.sizeOf23 rfl) rfl) (aq rfl (fun γ => qp rfl rfl (.v 3 rfl rfl .nil) (q_load rfl rfl Tryz.isAgg23 (.obj 0 rfl rfl)) rfl) (aq rfl (fun γ => qp rfl rfl (.v 4 rfl rfl .nil) (q_len rfl rfl rfl Tryz.underlying23) rfl) (aq rfl (fun γ => qm rfl (.o (s := 0) rfl (by decide) .nil) rfl) (aq rfl (fun γ => qp rfl rfl (.v 6 rfl rfl .nil) (q_nil rfl rfl) rfl) (aq rfl (fun γ => qp rfl rfl (.v 7 rfl rfl .nil) (q_fa rfl rfl Tryz.underlying125 rfl rfl Tryz.sizeOf3 rfl) rfl) (aq rfl (fun γ => qp rfl rfl (.v 8 rfl rfl .nil) (q_load rfl rfl Tryz.isAgg3 (.obj 0 rfl rfl)) rfl) (aq rfl (fun γ => qp rfl rfl (.v 5 rfl rfl (.v 9 rfl rfl .nil)) (q_sub rfl rfl rfl) rfl) (aq rfl (fun γ => qm rfl (.o (s := 6) rfl (by decide) .nil) rfl) (aq rfl (fun γ => qp rfl rfl (.v 10 rfl rfl (.v 11 rfl rfl .nil)) (q_sub rfl rfl rfl) rfl) (aq rfl (fun γ => qp rfl rfl (.v 0 rfl rfl (.v 12 rfl rfl .nil)) (q_gtr rfl rfl rfl) rfl) (aq rfl (fun γ => qp rfl rfl (.v 13 rfl rfl .nil) (q_asg rfl rfl) rfl) zA)))))))))))))))
 exact zA
 intro g8v
 refine nrm_then ?_
 refine sim_cond rfl (fun h9v => ?_) (fun h10v => ?_)
 refine sr ?_
 refine vm rfl rfl ?_
 refine vn rfl rfl ?_
 refine vq (q_fa rfl rfl Tryz.underlying125 rfl rfl Tryz.sizeOf31 rfl) rfl ?_
 refine simL_do (re_store 0 rfl rfl rfl Tryz.sizeOf31 rfl rfl (one_of (by rfl)) rfl rfl) rfl rfl ?_
 intro _
 refine nx ?_
 refine va rfl rfl (simL_nil (nrm_then (sim_rtn ?_)))
 refine rtn_block ?_
 refine rtn_then ?_
 exact rtn_fn (none, 0) rfl rfl rfl (.row_nil (.sel 0 rfl (.sel 0 rfl (.nil _))))
 refine sim_skip ?_
 refine nrm_block (nrm_then (sr ?_))
 refine vm rfl rfl ?_
 refine vn rfl rfl ?_
 refine vq (q_fa rfl rfl Tryz.underlying125 rfl rfl Tryz.sizeOf3 rfl) rfl ?_
 refine vq (q_load rfl rfl Tryz.isAgg3 (.obj 0 rfl rfl)) rfl ?_
 refine vm rfl rfl ?_
 refine vq (q_add rfl rfl rfl) rfl ?_
 refine va rfl rfl (nx ?_)
 refine vm rfl rfl ?_
 refine vm rfl rfl ?_
 refine vm rfl rfl ?_
 refine vq (q_add rfl rfl rfl) rfl ?_
 refine vn rfl rfl ?_
 refine vq (q_fa rfl rfl Tryz.underlying125 rfl rfl Tryz.sizeOf3 rfl) rfl ?_
 refine simL_do (re_store 0 rfl rfl rfl Tryz.sizeOf3 rfl rfl (one_of (by rfl)) rfl rfl) rfl rfl ?_
 intro _
 refine simL_nil (nrm_then (sim_seq ?_))
 refine sim_ask (fun hb11v => ?_)
 obtain ⟨a12v, c13v, hS14v, hr15v, hc16v, hm17v⟩ := slice_pre (lo := IntKind.i64.wrap (s1v.2.2.2.1 + s1v.2.1)) (hi := IntKind.i64.wrap ((IntKind.i64.wrap (s1v.2.2.2.1 + s1v.2.1)) + s1v.1)) h0_0 hc0_0 hb11v
 refine sim_bind (fun s18v hs19v => ?_)
 refine sim_draw (Γ := (Option Addr × Nat)) (none, 0) [[], [0], [0, 1], [0, 1, 2], [], [], [5], [5, 6], [5, 6, 7], rL 9, rL 10, rL 11] [10] [0, 1, 2, 3, 4, 5, 6, 7, 8, 9, 11] (fun i => [[0], [0], [0], [0], [0], [0], [0], [0], [0], [0], [], [1]].getD i []) (fun i => [[], [], [], [], [], [], [], [], [], [], rL 10, []].getD i []) (fun γ i => [.pointer (some ⟨b0, 0, none⟩), .pointer (some ⟨b0, 0, none⟩), .pointer (some ⟨b0, 0, none⟩), .slice a0_0 x0_0.length c0_0, .int .i64 (IntKind.i64.wrap (s1v.2.2.2.1 + s1v.2.1)), .pointer (some ⟨b0, 0, none⟩), .pointer (some ⟨b0, 0, none⟩), .pointer (some ⟨b0, 1, none⟩), .int .i64 (IntKind.i64.wrap ((IntKind.i64.wrap (s1v.2.2.2.1 + s1v.2.1)) + s1v.1)), .slice a12v ((cut x0_0 (IntKind.i64.wrap (s1v.2.2.2.1 + s1v.2.1)) (IntKind.i64.wrap ((IntKind.i64.wrap (s1v.2.2.2.1 + s1v.2.1)) + s1v.1))).length) c13v, .slice γ.1 s18v.length γ.2, .slice γ.1 s18v.length γ.2].getD i undef) (fun j γ => [[obj b0 125 [.slice a0_0 x0_0.length c0_0, .int .i64 (IntKind.i64.wrap ((IntKind.i64.wrap (s1v.2.2.2.1 + s1v.2.1)) + s1v.1)), .int .i64 s1v.2.2.2.2], F], [Row 5 1 γ.1 s18v.length γ.2 (encB s18v), obj b0 125 [.slice a0_0 x0_0.length c0_0, .int .i64 (IntKind.i64.wrap ((IntKind.i64.wrap (s1v.2.2.2.1 + s1v.2.1)) + s1v.1)), .int .i64 s1v.2.2.2.2], F]].getD j []) (fun γ => [(4, .slice γ.1 s18v.length γ.2)]) mixed (by decide) (by decide) (by decide) (by decide) (by decide) (by decide) (by decide) 67 rfl (by decide) (by decide) (by decide) (Ent.refl _) ?_ ?_ (fun _ => ⟨rfl, trivial⟩) ?_
 exact (aq rfl (fun γ => qm rfl (.o (s := 0) rfl (by decide) .nil) rfl) (aq rfl (fun γ => qp rfl rfl (.v 0 rfl rfl .nil) (q_nil rfl rfl) rfl) (aq rfl (fun γ => qp rfl rfl (.v 1 rfl rfl .nil) (q_fa rfl rfl Tryz.underlying125 rfl rfl Tryz.sizeOf23 rfl) rfl) (aq rfl (fun γ => qp rfl rfl (.v 2 rfl rfl .nil) (q_load rfl rfl Tryz.isAgg23 (.obj 0 rfl rfl)) rfl) (aq rfl (fun γ => qm rfl (.o (s := 8) rfl (by decide) .nil) rfl) (aq rfl (fun γ => qm rfl (.o (s := 0) rfl (by decide) .nil) rfl) (aq rfl (fun γ => qp rfl rfl (.v 5 rfl rfl .nil) (q_nil rfl rfl) rfl) (aq rfl (fun γ => qp rfl rfl (.v 6 rfl rfl .nil) (q_fa rfl rfl Tryz.underlying125 rfl rfl Tryz.sizeOf3 rfl) rfl) (aq rfl (fun γ => qp rfl rfl (.v 7 rfl rfl .nil) (q_load rfl rfl Tryz.isAgg3 (.obj 0 rfl rfl)) rfl) (aq rfl (fun γ => qp rfl rfl (.v 3 rfl rfl (.v 4 rfl rfl (.v 8 rfl rfl .nil))) (q_sub_ro (l := x0_0) (lo' := IntKind.i64.wrap (s1v.2.2.2.1 + s1v.2.1)) (hi' := IntKind.i64.wrap ((IntKind.i64.wrap (s1v.2.2.2.1 + s1v.2.1)) + s1v.1)) rfl rfl rfl rfl Tryz.underlying23 Tryz.sizeOf5 (.inr ⟨_, rfl⟩) (.inr ⟨_, rfl⟩) hb11v hc0_0 hS14v) rfl) (aq rfl (fun γ => qp rfl rfl (.v 10 rfl rfl .nil) (q_asg rfl rfl) rfl) zA)))))))))))
 exact (ac (fun γ => eo (Z := Option Addr × Nat) (fun z => z) rfl rfl (.v 9 rfl rfl .nil) (re_call (vs := [.slice a12v ((cut x0_0 (IntKind.i64.wrap (s1v.2.2.2.1 + s1v.2.1)) (IntKind.i64.wrap ((IntKind.i64.wrap (s1v.2.2.2.1 + s1v.2.1)) + s1v.1))).length) c13v]) (cap := []) (A := []) (rst := [obj b0 125 [.slice a0_0 x0_0.length c0_0, .int .i64 (IntKind.i64.wrap ((IntKind.i64.wrap (s1v.2.2.2.1 + s1v.2.1)) + s1v.1)), .int .i64 s1v.2.2.2.2], F]) rfl rfl rfl rfl rfl rfl Tryz.call57 (.sel 0 rfl (.sel 0 rfl (.nil _))) (wire_fresh.calls _ _ a12v c13v (cut x0_0 (IntKind.i64.wrap (s1v.2.2.2.1 + s1v.2.1)) (IntKind.i64.wrap ((IntKind.i64.wrap (s1v.2.2.2.1 + s1v.2.1)) + s1v.1))) (hr15v.lend 1 rfl) hc16v (Nat.le_trans hm17v hm0_0)) hs19v) (fun _ => ⟨rfl, rfl, rfl, rfl, rfl, rfl, rfl, rfl, rfl, rfl, trivial⟩) (fun _ => .inr rfl) (fun z => Ent.refl _)) zA)
 intro g21v
 refine nrm_then (sim_rtn ?_)
 exact rtn_fn (g21v.1, g21v.2) rfl rfl rfl (.sel 0 rfl (.sel 0 rfl (.sel 0 rfl (.nil _))))

def wire_Reader_Text.f (k : Nat) (x0_0 : List UInt8) (x0_1 : Int) (x0_2 : Int) (x1 : Int) : Option (List UInt8 × Int × Int) := (wire_Reader_Bytes.f k x0_0 x0_1 x0_2 x1).bind fun s1v => (some (s1v.1, s1v.2.1, s1v.2.2))
theorem wire_Reader_Text.calls (W : World) (F : HA) (k : Nat) (b0 : Nat) (a0_0 : Option Addr) (c0_0 : Nat) (x0_0 : List UInt8) (x0_1 : Int) (x0_2 : Int) (x1 : Int) (h0_0 : Rd F a0_0 (encB x0_0)) (hc0_0 : x0_0.length ≤ c0_0) (hm0_0 : c0_0 ≤ maxLen) :
    Fn Tryz.prog W 63 [.pointer (some ⟨b0, 0, none⟩), .int .i64 x1] [obj b0 125 [.slice a0_0 x0_0.length c0_0, .int .i64 x0_1, .int .i64 x0_2]] F (wire_Reader_Text.f k x0_0 x0_1 x0_2 x1) (fun (r : List UInt8 × Int × Int) (y : Unit) => str r.1) (fun r y => [obj b0 125 [.slice a0_0 x0_0.length c0_0, .int .i64 r.2.1, .int .i64 r.2.2]]) := by
 unfold wire_Reader_Text.f
 refine fn_intro 9 Tryz.func63 rfl Tryz.ntmps63 rfl ?_
 refine sr ?_
 refine va rfl rfl (nx ?_)
 refine vm rfl rfl ?_
 refine vm rfl rfl ?_
 refine simL_bind (fun s1v hs2v => ?_)
 refine simL_eff (re_call (vs := [.pointer (some ⟨b0, 0, none⟩), .int .i64 x1]) (cap := []) (A := [obj b0 125 [.slice a0_0 x0_0.length c0_0, .int .i64 x0_1, .int .i64 x0_2]]) (rst := [F]) rfl rfl rfl rfl rfl rfl Tryz.call96 (.sel 0 rfl (.sel 0 rfl (.nil _))) (wire_Reader_Bytes.calls _ _ k b0 a0_0 c0_0 x0_0 x0_1 x0_2 x1 (h0_0.lend 0 rfl) hc0_0 hm0_0) hs2v) rfl rfl rfl ?_
 intro y3v
 refine vq (q_tostr rfl rfl Tryz.underlying23 Tryz.underlying5 Tryz.underlying9 (Rds.row 0 rfl) rfl) rfl ?_
 refine va rfl rfl (simL_nil (nrm_then (sim_rtn ?_)))
 exact rtn_fn () rfl rfl rfl (.sel 1 rfl (.sel 1 rfl (.nil _)))

def kv_reader_pairs_3.f (x0 : List UInt8) (x1_0 : List UInt8) : Option (Bool) := some (!(Op.bytesLess x0 x1_0 || decide (x0 = x1_0)))
theorem kv_reader_pairs_3.calls (W : World) (F : HA) (x0 : List UInt8) (b1 : Nat) (x1_0 : List UInt8)  :
    Fn Tryz.prog W 64 [str x0, .pointer (some ⟨b1, 0, none⟩)] [obj b1 9 [str x1_0]] F (kv_reader_pairs_3.f x0 x1_0) (fun (r : Bool) (y : Unit) => .bool r) (fun r y => [obj b1 9 [str x1_0]]) := by
 unfold kv_reader_pairs_3.f
 refine fn_intro 7 Tryz.func64 rfl Tryz.ntmps64 rfl ?_
 refine sr ?_
 refine va rfl rfl (nx ?_)
 refine vm rfl rfl ?_
 refine vq (q_load rfl rfl Tryz.isAgg9 (.obj 0 rfl rfl)) rfl ?_
 refine vq (q_gts rfl rfl rfl) rfl ?_
 refine va rfl rfl (simL_nil (nrm_then (sim_rtn ?_)))
 exact rtn_fn () rfl rfl rfl (.sel 0 rfl (.sel 0 rfl (.nil _)))

def kv_reader_pairs_5.f (x0 : List UInt8) : Option (Bool) := some true
theorem kv_reader_pairs_5.calls (W : World) (F : HA) (x0 : List UInt8)  :
    Fn Tryz.prog W 66 [str x0] [] F (kv_reader_pairs_5.f x0) (fun (r : Bool) (y : Unit) => .bool r) (fun r y => []) := by
 unfold kv_reader_pairs_5.f
 refine fn_intro 3 Tryz.func66 rfl Tryz.ntmps66 rfl ?_
 refine sr ?_
 refine va rfl rfl (nx ?_)
 refine va rfl rfl (simL_nil (nrm_then (sim_rtn ?_)))
 exact rtn_fn () rfl rfl rfl (.sel 0 rfl (.nil _))

def kv_reader_clients_1.f (x0 : Int) : Option (Bool) := some (decide (x0 ≤ (32 : Int)))
theorem kv_reader_clients_1.calls (W : World) (F : HA) (x0 : Int)  :
    Fn Tryz.prog W 67 [.int .i64 x0] [] F (kv_reader_clients_1.f x0) (fun (r : Bool) (y : Unit) => .bool r) (fun r y => []) := by
 unfold kv_reader_clients_1.f
 refine fn_intro 5 Tryz.func67 rfl Tryz.ntmps67 rfl ?_
 refine sr ?_
 refine va rfl rfl (nx ?_)
 refine vm rfl rfl ?_
 refine vq (q_leq rfl rfl rfl) rfl ?_
 refine va rfl rfl (simL_nil (nrm_then (sim_rtn ?_)))
 exact rtn_fn () rfl rfl rfl (.sel 0 rfl (.nil _))

def kv_reader_clients_2.f (x0 : Int) (x1_0 : Int) : Option (Bool) := some (decide (x1_0 < x0))
theorem kv_reader_clients_2.calls (W : World) (F : HA) (x0 : Int) (b1 : Nat) (x1_0 : Int)  :
    Fn Tryz.prog W 68 [.int .i64 x0, .pointer (some ⟨b1, 0, none⟩)] [obj b1 3 [.int .i64 x1_0]] F (kv_reader_clients_2.f x0 x1_0) (fun (r : Bool) (y : Unit) => .bool r) (fun r y => [obj b1 3 [.int .i64 x1_0]]) := by
 unfold kv_reader_clients_2.f
 refine fn_intro 7 Tryz.func68 rfl Tryz.ntmps68 rfl ?_
 refine sr ?_
 refine va rfl rfl (nx ?_)
 refine vm rfl rfl ?_
 refine vq (q_load rfl rfl Tryz.isAgg3 (.obj 0 rfl rfl)) rfl ?_
 refine vq (q_gtr rfl rfl rfl) rfl ?_
 refine va rfl rfl (simL_nil (nrm_then (sim_rtn ?_)))
 exact rtn_fn () rfl rfl rfl (.sel 0 rfl (.sel 0 rfl (.nil _)))

def kv_reader_clients_3.f (x0 : Int) : Option (Bool) := some (decide ((0 : Int) < x0))
theorem kv_reader_clients_3.calls (W : World) (F : HA) (x0 : Int)  :
    Fn Tryz.prog W 69 [.int .i64 x0] [] F (kv_reader_clients_3.f x0) (fun (r : Bool) (y : Unit) => .bool r) (fun r y => []) := by
 unfold kv_reader_clients_3.f
 refine fn_intro 5 Tryz.func69 rfl Tryz.ntmps69 rfl ?_
 refine sr ?_
 refine va rfl rfl (nx ?_)
 refine vm rfl rfl ?_
 refine vq (q_gtr rfl rfl rfl) rfl ?_
 refine va rfl rfl (simL_nil (nrm_then (sim_rtn ?_)))
 exact rtn_fn () rfl rfl rfl (.sel 0 rfl (.nil _))

def kv_kept.f (x0 : Int) : Option (Bool) := some ((((decide (x0 = (1 : Int))) || (decide (x0 = (2 : Int)))) || (decide (x0 = (3 : Int)))) || (decide (x0 = (5 : Int))))
theorem kv_kept.calls (W : World) (F : HA) (x0 : Int)  :
    Fn Tryz.prog W 70 [.int .i64 x0] [] F (kv_kept.f x0) (fun (r : Bool) (y : Unit) => .bool r) (fun r y => []) := by
 unfold kv_kept.f
 refine fn_intro 17 Tryz.func70 rfl Tryz.ntmps70 rfl ?_
 refine sr ?_
 refine va rfl rfl (nx ?_)
 refine vm rfl rfl ?_
 refine vq (q_eql rfl rfl rfl) rfl ?_
 refine vm rfl rfl ?_
 refine simL_valc (b := decide (x0 = (1 : Int))) (fun hb6v => RQ.sub (E' := [(0, .int .i64 x0)]) ⟨rfl, trivial⟩ (q_move rfl rfl)) rfl rfl rfl rfl rfl ?_
 refine simL_valc (b := decide (x0 = (1 : Int))) (fun hb5v => RQ.sub (E' := [(6, .int .i64 x0)]) ⟨lk_cv rfl hb5v, trivial⟩ (q_eql rfl rfl rfl)) rfl rfl rfl rfl rfl ?_
 refine vq (q_or rfl rfl rfl) rfl ?_
 refine vm rfl rfl ?_
 refine simL_valc (b := (decide (x0 = (1 : Int))) || (decide (x0 = (2 : Int)))) (fun hb4v => RQ.sub (E' := [(0, .int .i64 x0)]) ⟨rfl, trivial⟩ (q_move rfl rfl)) rfl rfl rfl rfl rfl ?_
 refine simL_valc (b := (decide (x0 = (1 : Int))) || (decide (x0 = (2 : Int)))) (fun hb3v => RQ.sub (E' := [(10, .int .i64 x0)]) ⟨lk_cv rfl hb3v, trivial⟩ (q_eql rfl rfl rfl)) rfl rfl rfl rfl rfl ?_
 refine vq (q_or rfl rfl rfl) rfl ?_
 refine vm rfl rfl ?_
 refine simL_valc (b := ((decide (x0 = (1 : Int))) || (decide (x0 = (2 : Int)))) || (decide (x0 = (3 : Int)))) (fun hb2v => RQ.sub (E' := [(0, .int .i64 x0)]) ⟨rfl, trivial⟩ (q_move rfl rfl)) rfl rfl rfl rfl rfl ?_
 refine simL_valc (b := ((decide (x0 = (1 : Int))) || (decide (x0 = (2 : Int)))) || (decide (x0 = (3 : Int)))) (fun hb1v => RQ.sub (E' := [(14, .int .i64 x0)]) ⟨lk_cv rfl hb1v, trivial⟩ (q_eql rfl rfl rfl)) rfl rfl rfl rfl rfl ?_
 refine vq (q_or rfl rfl rfl) rfl ?_
 refine va rfl rfl (simL_nil (nrm_then (sim_rtn ?_)))
 exact rtn_fn () rfl rfl rfl (.sel 0 rfl (.nil _))

def kv_reader_clients_5.f (x0 : List UInt8) (x1_0 : Int) (x1_1 : Int) (x1_2 : Int) (x1_3 : List UInt8) : Option (Bool) := some ((decide (x0 = ([] : List UInt8))) || (decide (x1_2 = (3 : Int))))
theorem kv_reader_clients_5.calls (W : World) (F : HA) (x0 : List UInt8) (b1 : Nat) (x1_0 : Int) (x1_1 : Int) (x1_2 : Int) (x1_3 : List UInt8)  :
    Fn Tryz.prog W 72 [str x0, .pointer (some ⟨b1, 0, none⟩)] [obj b1 69 [.int .i64 x1_0, .int .i64 x1_1, .int .i64 x1_2, str x1_3]] F (kv_reader_clients_5.f x0 x1_0 x1_1 x1_2 x1_3) (fun (r : Bool) (y : Unit) => .bool r) (fun r y => [obj b1 69 [.int .i64 x1_0, .int .i64 x1_1, .int .i64 x1_2, str x1_3]]) := by
 unfold kv_reader_clients_5.f
 refine fn_intro 12 Tryz.func72 rfl Tryz.ntmps72 rfl ?_
 refine sr ?_
 refine va rfl rfl (nx ?_)
 refine vm rfl rfl ?_
 refine vq (q_eqs rfl rfl rfl) rfl ?_
 refine vm rfl rfl ?_
 refine simL_valc (b := decide (x0 = ([] : List UInt8))) (fun hb4v => RQ.sub (E' := [(1, .pointer (some ⟨b1, 0, none⟩))]) ⟨rfl, trivial⟩ (q_fa rfl rfl Tryz.underlying69 rfl rfl Tryz.sizeOf45 rfl)) rfl rfl rfl rfl rfl ?_
 refine simL_valc (b := decide (x0 = ([] : List UInt8))) (fun hb3v => RQ.sub (E' := [(7, .pointer (some ⟨b1, 2, none⟩))]) ⟨lk_cv rfl hb3v, trivial⟩ (q_fa rfl rfl Tryz.underlying45 rfl rfl Tryz.sizeOf3 rfl)) rfl rfl rfl rfl rfl ?_
 refine simL_valc (b := decide (x0 = ([] : List UInt8))) (fun hb2v => RQ.sub (E' := [(8, .pointer (some ⟨b1, 2, none⟩))]) ⟨lk_cv rfl hb2v, trivial⟩ (q_load rfl rfl Tryz.isAgg3 (.obj 0 rfl rfl))) rfl rfl rfl rfl rfl ?_
 refine simL_valc (b := decide (x0 = ([] : List UInt8))) (fun hb1v => RQ.sub (E' := [(9, .int .i64 x1_2)]) ⟨lk_cv rfl hb1v, trivial⟩ (q_eql rfl rfl rfl)) rfl rfl rfl rfl rfl ?_
 refine vq (q_or rfl rfl rfl) rfl ?_
 refine va rfl rfl (simL_nil (nrm_then (sim_rtn ?_)))
 exact rtn_fn () rfl rfl rfl (.sel 0 rfl (.sel 0 rfl (.nil _)))

def kv_is_int_wire_Reader_Int_kv_reader_pairs_1.f (k : Nat) (xp1_0 : List UInt8) (xp1_1 : Int) (xp1_2 : Int) (xp0_1 : Int) (x3 : Int) : Option (Int × Bool × Int × Int × Int) := (wire_Reader_At.f xp1_0 xp1_1 xp1_2).bind fun s1v => ((wire_Reader_Int.f k xp1_0 xp1_1 xp1_2).bind fun s4v => ((wire_Reader_At.f xp1_0 s4v.2.1 s4v.2.2).bind fun s7v => (if s7v = s1v then ((wire_Reader_Done.f xp1_0 s4v.2.1 s4v.2.2).bind fun s12v => (some (s4v.1, decide (s12v = (0 : Int)), s4v.2.1, s4v.2.2, s12v))) else ((kv_reader_pairs_1.f s4v.1).bind fun s16v => (if (!s16v) = true then (some (s4v.1, decide (x3 = (0 : Int)), s4v.2.1, s4v.2.2, x3)) else (some (s4v.1, decide (xp0_1 = (0 : Int)), s4v.2.1, s4v.2.2, xp0_1)))))))
theorem kv_is_int_wire_Reader_Int_kv_reader_pairs_1.calls (W : World) (F : HA) (k : Nat) (bp0 : Nat) (bp1 : Nat) (ap1_0 : Option Addr) (cp1_0 : Nat) (xp1_0 : List UInt8) (xp1_1 : Int) (xp1_2 : Int) (xp0_1 : Int) (x3 : Int) (hp1_0 : Rd F ap1_0 (encB xp1_0)) (hcp1_0 : xp1_0.length ≤ cp1_0) (hmp1_0 : cp1_0 ≤ maxLen) :
    Fn Tryz.prog W 58 [.pointer (some ⟨bp0, 0, none⟩), .func (.func 59) #[.pointer (some ⟨bp1, 0, none⟩)] #[], .func (.func 60) #[] #[], .int .i64 x3] [obj bp1 125 [.slice ap1_0 xp1_0.length cp1_0, .int .i64 xp1_1, .int .i64 xp1_2], obj bp0 76 [.pointer (some ⟨bp1, 0, none⟩), .int .i64 xp0_1]] F (kv_is_int_wire_Reader_Int_kv_reader_pairs_1.f k xp1_0 xp1_1 xp1_2 xp0_1 x3) (fun (r : Int × Bool × Int × Int × Int) (y : Unit) => .tuple #[.int .i64 r.1, .bool r.2.1]) (fun r y => [obj bp1 125 [.slice ap1_0 xp1_0.length cp1_0, .int .i64 r.2.2.1, .int .i64 r.2.2.2.1], obj bp0 76 [.pointer (some ⟨bp1, 0, none⟩), .int .i64 r.2.2.2.2]]) := by
 unfold kv_is_int_wire_Reader_Int_kv_reader_pairs_1.f
 refine fn_intro 50 Tryz.func58 rfl Tryz.ntmps58 rfl ?_
 refine sr ?_
 refine va rfl rfl ?_
 refine va rfl rfl (nx ?_)
 refine vm rfl rfl ?_
 refine vn rfl rfl ?_
 refine vq (q_fa rfl rfl Tryz.underlying76 rfl rfl Tryz.sizeOf73 rfl) rfl ?_
 refine vq (q_load rfl rfl Tryz.isAgg73 (.obj 1 rfl rfl)) rfl ?_
 refine simL_bind (fun s1v hs2v => ?_)
 refine simL_eff (re_call (vs := [.pointer (some ⟨bp1, 0, none⟩)]) (cap := []) (A := [obj bp1 125 [.slice ap1_0 xp1_0.length cp1_0, .int .i64 xp1_1, .int .i64 xp1_2]]) (rst := [obj bp0 76 [.pointer (some ⟨bp1, 0, none⟩), .int .i64 xp0_1], F]) rfl rfl rfl rfl rfl rfl Tryz.call94 (.sel 0 rfl (.sel 0 rfl (.sel 0 rfl (.nil _)))) (wire_Reader_At.calls _ _ bp1 ap1_0 cp1_0 xp1_0 xp1_1 xp1_2 (hp1_0.lend 1 rfl) hcp1_0 hmp1_0) hs2v) rfl rfl rfl ?_
 intro y3v
 refine va rfl rfl (nx ?_)
 refine vm rfl rfl ?_
 refine simL_bind (fun s4v hs5v => ?_)
 refine simL_eff (re_callf (fst := [.pointer (some ⟨bp1, 0, none⟩)]) (vs := []) (cap := []) (A := [obj bp1 125 [.slice ap1_0 xp1_0.length cp1_0, .int .i64 xp1_1, .int .i64 xp1_2]]) (rst := [obj bp0 76 [.pointer (some ⟨bp1, 0, none⟩), .int .i64 xp0_1], F]) rfl rfl rfl rfl rfl rfl Tryz.call59 (.sel 0 rfl (.sel 0 rfl (.sel 0 rfl (.nil _)))) (wire_Reader_Int.calls _ _ k bp1 ap1_0 cp1_0 xp1_0 xp1_1 xp1_2 (hp1_0.lend 1 rfl) hcp1_0 hmp1_0) hs5v) rfl rfl rfl ?_
 intro y6v
 refine va rfl rfl (simL_nil (nrm_then (sim_seq ?_)))
 refine sim_block ?_
 refine sr ?_
 refine vm rfl rfl ?_
 refine vn rfl rfl ?_
 refine vq (q_fa rfl rfl Tryz.underlying76 rfl rfl Tryz.sizeOf73 rfl) rfl ?_
 refine vq (q_load rfl rfl Tryz.isAgg73 (.obj 1 rfl rfl)) rfl ?_
 refine simL_bind (fun s7v hs8v => ?_)
 refine simL_eff (re_call (vs := [.pointer (some ⟨bp1, 0, none⟩)]) (cap := []) (A := [obj bp1 125 [.slice ap1_0 xp1_0.length cp1_0, .int .i64 s4v.2.1, .int .i64 s4v.2.2]]) (rst := [obj bp0 76 [.pointer (some ⟨bp1, 0, none⟩), .int .i64 xp0_1], F]) rfl rfl rfl rfl rfl rfl Tryz.call94 (.sel 0 rfl (.sel 0 rfl (.sel 0 rfl (.nil _)))) (wire_Reader_At.calls _ _ bp1 ap1_0 cp1_0 xp1_0 s4v.2.1 s4v.2.2 (hp1_0.lend 1 rfl) hcp1_0 hmp1_0) hs8v) rfl rfl rfl ?_
 intro y9v
 refine vm rfl rfl ?_
 refine vq (q_eql rfl rfl rfl) rfl ?_
 refine va rfl rfl (simL_nil (nrm_then ?_))
 refine sim_cond rfl (fun h10v => ?_) (fun h11v => ?_)
 refine sim_region ?_
 refine vm rfl rfl ?_
 refine vm rfl rfl ?_
 refine vn rfl rfl ?_
 refine vq (q_fa rfl rfl Tryz.underlying76 rfl rfl Tryz.sizeOf73 rfl) rfl ?_
 refine vq (q_load rfl rfl Tryz.isAgg73 (.obj 1 rfl rfl)) rfl ?_
 refine simL_bind (fun s12v hs13v => ?_)
 refine simL_eff (re_call (vs := [.pointer (some ⟨bp1, 0, none⟩)]) (cap := []) (A := [obj bp1 125 [.slice ap1_0 xp1_0.length cp1_0, .int .i64 s4v.2.1, .int .i64 s4v.2.2]]) (rst := [obj bp0 76 [.pointer (some ⟨bp1, 0, none⟩), .int .i64 xp0_1], F]) rfl rfl rfl rfl rfl rfl Tryz.call33 (.sel 0 rfl (.sel 0 rfl (.sel 0 rfl (.nil _)))) (wire_Reader_Done.calls _ _ bp1 ap1_0 cp1_0 xp1_0 s4v.2.1 s4v.2.2 (hp1_0.lend 1 rfl) hcp1_0 hmp1_0) hs13v) rfl rfl rfl ?_
 intro y14v
 refine vn rfl rfl ?_
 refine vq (q_fa rfl rfl Tryz.underlying76 rfl rfl Tryz.sizeOf31 rfl) rfl ?_
 refine simL_do (re_store 1 rfl rfl rfl Tryz.sizeOf31 rfl rfl (one_of (by rfl)) rfl rfl) rfl rfl ?_
 intro _
 refine simL_nil (nrm_block (nrm_then (sim_seq ?_)))
 refine sim_draw (Γ := Unit) () [[], [], [1], [1, 2], [1, 2, 3], [1, 2, 3, 4], [0], rL 7] [] [0, 1, 2, 3, 4, 5, 6, 7] (fun i => [[0], [0], [0], [0], [0], [0], [0], [0]].getD i []) (fun i => [[], [], [], [], [], [], [], []].getD i []) (fun γ i => [.int .i64 s4v.1, .pointer (some ⟨bp0, 0, none⟩), .pointer (some ⟨bp0, 0, none⟩), .pointer (some ⟨bp0, 1, none⟩), .int .i64 s12v, .bool (decide (s12v = (0 : Int))), .int .i64 s4v.1, .bool (decide (s12v = (0 : Int)))].getD i undef) (fun j γ => [[obj bp1 125 [.slice ap1_0 xp1_0.length cp1_0, .int .i64 s4v.2.1, .int .i64 s4v.2.2], obj bp0 76 [.pointer (some ⟨bp1, 0, none⟩), .int .i64 s12v], F]].getD j []) (fun γ => [(8, .int .i64 s4v.1), (9, .bool (decide (s12v = (0 : Int))))]) mixed (by decide) (by decide) (by decide) (by decide) (by decide) (by decide) (by decide) 50 rfl (by decide) (by decide) (by decide) (Ent.refl _) ?_ ?_ (fun _ => ⟨rfl, rfl, trivial⟩) ?_
 exact (aq rfl (fun γ => qm rfl (.o (s := 11) rfl (by decide) .nil) rfl) (aq rfl (fun γ => qm rfl (.o (s := 0) rfl (by decide) .nil) rfl) (aq rfl (fun γ => qp rfl rfl (.v 1 rfl rfl .nil) (q_nil rfl rfl) rfl) (aq rfl (fun γ => qp rfl rfl (.v 2 rfl rfl .nil) (q_fa rfl rfl Tryz.underlying76 rfl rfl Tryz.sizeOf31 rfl) rfl) (aq rfl (fun γ => qp rfl rfl (.v 3 rfl rfl .nil) (q_load rfl rfl Tryz.isAgg31 (.obj 1 rfl rfl)) rfl) (aq rfl (fun γ => qp rfl rfl (.v 4 rfl rfl .nil) (q_eql rfl rfl rfl) rfl) (aq rfl (fun γ => qp rfl rfl (.v 0 rfl rfl .nil) (q_asg rfl rfl) rfl) (aq rfl (fun γ => qp rfl rfl (.v 5 rfl rfl .nil) (q_asg rfl rfl) rfl) zA))))))))
 exact zA
 intro g15v
 refine nrm_then (sim_rtn ?_)
 exact rtn_fn () rfl rfl rfl (.sel 0 rfl (.sel 0 rfl (.sel 0 rfl (.nil _))))
 refine sr ?_
 refine vm rfl rfl ?_
 refine vm rfl rfl ?_
 refine simL_bind (fun s16v hs17v => ?_)
 refine simL_eff (re_call (vs := [.int .i64 s4v.1]) (cap := []) (A := []) (rst := [obj bp1 125 [.slice ap1_0 xp1_0.length cp1_0, .int .i64 s4v.2.1, .int .i64 s4v.2.2], obj bp0 76 [.pointer (some ⟨bp1, 0, none⟩), .int .i64 xp0_1], F]) rfl rfl rfl rfl rfl rfl Tryz.call60 (.sel 0 rfl (.sel 0 rfl (.sel 0 rfl (.nil _)))) (kv_reader_pairs_1.calls _ _ s4v.1 ) hs17v) rfl rfl rfl ?_
 intro y18v
 refine vq (q_not rfl rfl) rfl ?_
 refine va rfl rfl (simL_nil (nrm_then ?_))
 refine sim_condb rfl (fun h19v => ?_) (fun h20v => ?_)
 refine sim_region ?_
 refine vm rfl rfl ?_
 refine vm rfl rfl ?_
 refine vn rfl rfl ?_
 refine vq (q_fa rfl rfl Tryz.underlying76 rfl rfl Tryz.sizeOf31 rfl) rfl ?_
 refine simL_do (re_store 1 rfl rfl rfl Tryz.sizeOf31 rfl rfl (one_of (by rfl)) rfl rfl) rfl rfl ?_
 intro _
 refine simL_nil (nrm_block (nrm_then (sim_seq ?_)))
 refine sim_draw (Γ := Unit) () [[], [], [1], [1, 2], [1, 2, 3], [1, 2, 3, 4], [0], rL 7] [] [0, 1, 2, 3, 4, 5, 6, 7] (fun i => [[0], [0], [0], [0], [0], [0], [0], [0]].getD i []) (fun i => [[], [], [], [], [], [], [], []].getD i []) (fun γ i => [.int .i64 s4v.1, .pointer (some ⟨bp0, 0, none⟩), .pointer (some ⟨bp0, 0, none⟩), .pointer (some ⟨bp0, 1, none⟩), .int .i64 x3, .bool (decide (x3 = (0 : Int))), .int .i64 s4v.1, .bool (decide (x3 = (0 : Int)))].getD i undef) (fun j γ => [[obj bp1 125 [.slice ap1_0 xp1_0.length cp1_0, .int .i64 s4v.2.1, .int .i64 s4v.2.2], obj bp0 76 [.pointer (some ⟨bp1, 0, none⟩), .int .i64 x3], F]].getD j []) (fun γ => [(8, .int .i64 s4v.1), (9, .bool (decide (x3 = (0 : Int))))]) mixed (by decide) (by decide) (by decide) (by decide) (by decide) (by decide) (by decide) 50 rfl (by decide) (by decide) (by decide) (Ent.refl _) ?_ ?_ (fun _ => ⟨rfl, rfl, trivial⟩) ?_
 exact (aq rfl (fun γ => qm rfl (.o (s := 11) rfl (by decide) .nil) rfl) (aq rfl (fun γ => qm rfl (.o (s := 0) rfl (by decide) .nil) rfl) (aq rfl (fun γ => qp rfl rfl (.v 1 rfl rfl .nil) (q_nil rfl rfl) rfl) (aq rfl (fun γ => qp rfl rfl (.v 2 rfl rfl .nil) (q_fa rfl rfl Tryz.underlying76 rfl rfl Tryz.sizeOf31 rfl) rfl) (aq rfl (fun γ => qp rfl rfl (.v 3 rfl rfl .nil) (q_load rfl rfl Tryz.isAgg31 (.obj 1 rfl rfl)) rfl) (aq rfl (fun γ => qp rfl rfl (.v 4 rfl rfl .nil) (q_eql rfl rfl rfl) rfl) (aq rfl (fun γ => qp rfl rfl (.v 0 rfl rfl .nil) (q_asg rfl rfl) rfl) (aq rfl (fun γ => qp rfl rfl (.v 5 rfl rfl .nil) (q_asg rfl rfl) rfl) zA))))))))
 exact zA
 intro g21v
 refine nrm_then (sim_rtn ?_)
 exact rtn_fn () rfl rfl rfl (.sel 0 rfl (.sel 0 rfl (.sel 0 rfl (.nil _))))
 refine sim_skip ?_
 refine nrm_block (nrm_then (sim_seq ?_))
 refine sim_draw (Γ := Unit) () [[], [], [1], [1, 2], [1, 2, 3], [1, 2, 3, 4], [0], rL 7] [] [0, 1, 2, 3, 4, 5, 6, 7] (fun i => [[0], [0], [0], [0], [0], [0], [0], [0]].getD i []) (fun i => [[], [], [], [], [], [], [], []].getD i []) (fun γ i => [.int .i64 s4v.1, .pointer (some ⟨bp0, 0, none⟩), .pointer (some ⟨bp0, 0, none⟩), .pointer (some ⟨bp0, 1, none⟩), .int .i64 xp0_1, .bool (decide (xp0_1 = (0 : Int))), .int .i64 s4v.1, .bool (decide (xp0_1 = (0 : Int)))].getD i undef) (fun j γ => [[obj bp1 125 [.slice ap1_0 xp1_0.length cp1_0, .int .i64 s4v.2.1, .int .i64 s4v.2.2], obj bp0 76 [.pointer (some ⟨bp1, 0, none⟩), .int .i64 xp0_1], F]].getD j []) (fun γ => [(8, .int .i64 s4v.1), (9, .bool (decide (xp0_1 = (0 : Int))))]) mixed (by decide) (by decide) (by decide) (by decide) (by decide) (by decide) (by decide) 50 rfl (by decide) (by decide) (by decide) (Ent.refl _) ?_ ?_ (fun _ => ⟨rfl, rfl, trivial⟩) ?_
 exact (aq rfl (fun γ => qm rfl (.o (s := 11) rfl (by decide) .nil) rfl) (aq rfl (fun γ => qm rfl (.o (s := 0) rfl (by decide) .nil) rfl) (aq rfl (fun γ => qp rfl rfl (.v 1 rfl rfl .nil) (q_nil rfl rfl) rfl) (aq rfl (fun γ => qp rfl rfl (.v 2 rfl rfl .nil) (q_fa rfl rfl Tryz.underlying76 rfl rfl Tryz.sizeOf31 rfl) rfl) (aq rfl (fun γ => qp rfl rfl (.v 3 rfl rfl .nil) (q_load rfl rfl Tryz.isAgg31 (.obj 1 rfl rfl)) rfl) (aq rfl (fun γ => qp rfl rfl (.v 4 rfl rfl .nil) (q_eql rfl rfl rfl) rfl) (aq rfl (fun γ => qp rfl rfl (.v 0 rfl rfl .nil) (q_asg rfl rfl) rfl) (aq rfl (fun γ => qp rfl rfl (.v 5 rfl rfl .nil) (q_asg rfl rfl) rfl) zA))))))))
 exact zA
 intro g22v
 refine nrm_then (sim_rtn ?_)
 exact rtn_fn () rfl rfl rfl (.sel 0 rfl (.sel 0 rfl (.sel 0 rfl (.nil _))))

def kv_reader_pairs_2_s.f (k : Nat) (xp2_0 : List UInt8) (xp2_1 : Int) (xp2_2 : Int) (xp1_1 : Int) : Option (List UInt8 × Int × Int) := (wire_Reader_Text.f k xp2_0 xp2_1 xp2_2 (64 : Int)).bind fun s1v => (some (s1v.1, s1v.2.1, s1v.2.2))
theorem kv_reader_pairs_2_s.calls (W : World) (F : HA) (k : Nat) (bp0 : Nat) (bp1 : Nat) (bp2 : Nat) (ap2_0 : Option Addr) (cp2_0 : Nat) (xp2_0 : List UInt8) (xp2_1 : Int) (xp2_2 : Int) (xp1_1 : Int) (hp2_0 : Rd F ap2_0 (encB xp2_0)) (hcp2_0 : xp2_0.length ≤ cp2_0) (hmp2_0 : cp2_0 ≤ maxLen) :
    Fn Tryz.prog W 62 [.pointer (some ⟨bp0, 0, none⟩)] [obj bp2 125 [.slice ap2_0 xp2_0.length cp2_0, .int .i64 xp2_1, .int .i64 xp2_2], obj bp1 76 [.pointer (some ⟨bp2, 0, none⟩), .int .i64 xp1_1], obj bp0 72 [.pointer (some ⟨bp1, 0, none⟩)]] F (kv_reader_pairs_2_s.f k xp2_0 xp2_1 xp2_2 xp1_1) (fun (r : List UInt8 × Int × Int) (y : Unit) => str r.1) (fun r y => [obj bp2 125 [.slice ap2_0 xp2_0.length cp2_0, .int .i64 r.2.1, .int .i64 r.2.2], obj bp1 76 [.pointer (some ⟨bp2, 0, none⟩), .int .i64 xp1_1], obj bp0 72 [.pointer (some ⟨bp1, 0, none⟩)]]) := by
 unfold kv_reader_pairs_2_s.f
 refine fn_intro 7 Tryz.func62 rfl Tryz.ntmps62 rfl ?_
 refine sr ?_
 refine va rfl rfl (nx ?_)
 refine vq (q_load rfl rfl Tryz.isAgg72 (.obj 2 rfl rfl)) rfl ?_
 refine vn rfl rfl ?_
 refine vq (q_fa rfl rfl Tryz.underlying76 rfl rfl Tryz.sizeOf73 rfl) rfl ?_
 refine vq (q_load rfl rfl Tryz.isAgg73 (.obj 1 rfl rfl)) rfl ?_
 refine simL_bind (fun s1v hs2v => ?_)
 refine simL_eff (re_call (vs := [.pointer (some ⟨bp2, 0, none⟩), .int .i64 64]) (cap := []) (A := [obj bp2 125 [.slice ap2_0 xp2_0.length cp2_0, .int .i64 xp2_1, .int .i64 xp2_2]]) (rst := [obj bp1 76 [.pointer (some ⟨bp2, 0, none⟩), .int .i64 xp1_1], obj bp0 72 [.pointer (some ⟨bp1, 0, none⟩)], F]) rfl rfl rfl rfl rfl rfl Tryz.call63 (.sel 0 rfl (.sel 0 rfl (.sel 0 rfl (.sel 0 rfl (.nil _))))) (wire_Reader_Text.calls _ _ k bp2 ap2_0 cp2_0 xp2_0 xp2_1 xp2_2 (64 : Int) (hp2_0.lend 2 rfl) hcp2_0 hmp2_0) hs2v) rfl rfl rfl ?_
 intro y3v
 refine va rfl rfl (simL_nil (nrm_then (sim_rtn ?_)))
 exact rtn_fn () rfl rfl rfl (.sel 0 rfl (.sel 0 rfl (.sel 0 rfl (.sel 0 rfl (.nil _)))))

def kv_is_string_kv_reader_pairs_2_kv_reader_pairs_3.f (k : Nat) (xp1_0 : List UInt8) (xp1_1 : Int) (xp1_2 : Int) (xp0_1 : Int) (xp3_0 : List UInt8) (x3 : Int) : Option (List UInt8 × Bool × Int × Int × Int) := (wire_Reader_At.f xp1_0 xp1_1 xp1_2).bind fun s1v => ((kv_reader_pairs_2_s.f k xp1_0 xp1_1 xp1_2 xp0_1).bind fun s4v => ((wire_Reader_At.f xp1_0 s4v.2.1 s4v.2.2).bind fun s7v => (if s7v = s1v then ((wire_Reader_Done.f xp1_0 s4v.2.1 s4v.2.2).bind fun s12v => (some (s4v.1, decide (s12v = (0 : Int)), s4v.2.1, s4v.2.2, s12v))) else ((kv_reader_pairs_3.f s4v.1 xp3_0).bind fun s16v => (if (!s16v) = true then (some (s4v.1, decide (x3 = (0 : Int)), s4v.2.1, s4v.2.2, x3)) else (some (s4v.1, decide (xp0_1 = (0 : Int)), s4v.2.1, s4v.2.2, xp0_1)))))))
theorem kv_is_string_kv_reader_pairs_2_kv_reader_pairs_3.calls (W : World) (F : HA) (k : Nat) (bp0 : Nat) (bp1 : Nat) (ap1_0 : Option Addr) (cp1_0 : Nat) (xp1_0 : List UInt8) (xp1_1 : Int) (xp1_2 : Int) (xp0_1 : Int) (bp2 : Nat) (bp3 : Nat) (xp3_0 : List UInt8) (x3 : Int) (hp1_0 : Rd F ap1_0 (encB xp1_0)) (hcp1_0 : xp1_0.length ≤ cp1_0) (hmp1_0 : cp1_0 ≤ maxLen) :
    Fn Tryz.prog W 61 [.pointer (some ⟨bp0, 0, none⟩), .func (.func 62) #[] #[.pointer (some ⟨bp2, 0, none⟩)], .func (.func 64) #[] #[.pointer (some ⟨bp3, 0, none⟩)], .int .i64 x3] [obj bp1 125 [.slice ap1_0 xp1_0.length cp1_0, .int .i64 xp1_1, .int .i64 xp1_2], obj bp0 76 [.pointer (some ⟨bp1, 0, none⟩), .int .i64 xp0_1], obj bp2 72 [.pointer (some ⟨bp0, 0, none⟩)], obj bp3 9 [str xp3_0]] F (kv_is_string_kv_reader_pairs_2_kv_reader_pairs_3.f k xp1_0 xp1_1 xp1_2 xp0_1 xp3_0 x3) (fun (r : List UInt8 × Bool × Int × Int × Int) (y : Unit) => .tuple #[str r.1, .bool r.2.1]) (fun r y => [obj bp1 125 [.slice ap1_0 xp1_0.length cp1_0, .int .i64 r.2.2.1, .int .i64 r.2.2.2.1], obj bp0 76 [.pointer (some ⟨bp1, 0, none⟩), .int .i64 r.2.2.2.2], obj bp2 72 [.pointer (some ⟨bp0, 0, none⟩)], obj bp3 9 [str xp3_0]]) := by
 unfold kv_is_string_kv_reader_pairs_2_kv_reader_pairs_3.f
 refine fn_intro 50 Tryz.func61 rfl Tryz.ntmps61 rfl ?_
 refine sr ?_
 refine va rfl rfl ?_
 refine va rfl rfl (nx ?_)
 refine vm rfl rfl ?_
 refine vn rfl rfl ?_
 refine vq (q_fa rfl rfl Tryz.underlying76 rfl rfl Tryz.sizeOf73 rfl) rfl ?_
 refine vq (q_load rfl rfl Tryz.isAgg73 (.obj 1 rfl rfl)) rfl ?_
 refine simL_bind (fun s1v hs2v => ?_)
 refine simL_eff (re_call (vs := [.pointer (some ⟨bp1, 0, none⟩)]) (cap := []) (A := [obj bp1 125 [.slice ap1_0 xp1_0.length cp1_0, .int .i64 xp1_1, .int .i64 xp1_2]]) (rst := [obj bp0 76 [.pointer (some ⟨bp1, 0, none⟩), .int .i64 xp0_1], obj bp2 72 [.pointer (some ⟨bp0, 0, none⟩)], obj bp3 9 [str xp3_0], F]) rfl rfl rfl rfl rfl rfl Tryz.call94 (.sel 0 rfl (.sel 0 rfl (.sel 0 rfl (.sel 0 rfl (.sel 0 rfl (.nil _)))))) (wire_Reader_At.calls _ _ bp1 ap1_0 cp1_0 xp1_0 xp1_1 xp1_2 (hp1_0.lend 3 rfl) hcp1_0 hmp1_0) hs2v) rfl rfl rfl ?_
 intro y3v
 refine va rfl rfl (nx ?_)
 refine vm rfl rfl ?_
 refine simL_bind (fun s4v hs5v => ?_)
 refine simL_eff (re_call (vs := []) (cap := [.pointer (some ⟨bp2, 0, none⟩)]) (A := [obj bp1 125 [.slice ap1_0 xp1_0.length cp1_0, .int .i64 xp1_1, .int .i64 xp1_2], obj bp0 76 [.pointer (some ⟨bp1, 0, none⟩), .int .i64 xp0_1], obj bp2 72 [.pointer (some ⟨bp0, 0, none⟩)]]) (rst := [obj bp3 9 [str xp3_0], F]) rfl rfl rfl rfl rfl rfl Tryz.call62 (.sel 0 rfl (.sel 0 rfl (.sel 0 rfl (.sel 0 rfl (.sel 0 rfl (.nil _)))))) (kv_reader_pairs_2_s.calls _ _ k bp2 bp0 bp1 ap1_0 cp1_0 xp1_0 xp1_1 xp1_2 xp0_1 (hp1_0.lend 1 rfl) hcp1_0 hmp1_0) hs5v) rfl rfl rfl ?_
 intro y6v
 refine va rfl rfl (simL_nil (nrm_then (sim_seq ?_)))
 refine sim_block ?_
 refine sr ?_
 refine vm rfl rfl ?_
 refine vn rfl rfl ?_
 refine vq (q_fa rfl rfl Tryz.underlying76 rfl rfl Tryz.sizeOf73 rfl) rfl ?_
 refine vq (q_load rfl rfl Tryz.isAgg73 (.obj 1 rfl rfl)) rfl ?_
 refine simL_bind (fun s7v hs8v => ?_)
 refine simL_eff (re_call (vs := [.pointer (some ⟨bp1, 0, none⟩)]) (cap := []) (A := [obj bp1 125 [.slice ap1_0 xp1_0.length cp1_0, .int .i64 s4v.2.1, .int .i64 s4v.2.2]]) (rst := [obj bp0 76 [.pointer (some ⟨bp1, 0, none⟩), .int .i64 xp0_1], obj bp2 72 [.pointer (some ⟨bp0, 0, none⟩)], obj bp3 9 [str xp3_0], F]) rfl rfl rfl rfl rfl rfl Tryz.call94 (.sel 0 rfl (.sel 0 rfl (.sel 0 rfl (.sel 0 rfl (.sel 0 rfl (.nil _)))))) (wire_Reader_At.calls _ _ bp1 ap1_0 cp1_0 xp1_0 s4v.2.1 s4v.2.2 (hp1_0.lend 3 rfl) hcp1_0 hmp1_0) hs8v) rfl rfl rfl ?_
 intro y9v
 refine vm rfl rfl ?_
 refine vq (q_eql rfl rfl rfl) rfl ?_
 refine va rfl rfl (simL_nil (nrm_then ?_))
 refine sim_cond rfl (fun h10v => ?_) (fun h11v => ?_)
 refine sim_region ?_
 refine vm rfl rfl ?_
 refine vm rfl rfl ?_
 refine vn rfl rfl ?_
 refine vq (q_fa rfl rfl Tryz.underlying76 rfl rfl Tryz.sizeOf73 rfl) rfl ?_
 refine vq (q_load rfl rfl Tryz.isAgg73 (.obj 1 rfl rfl)) rfl ?_
 refine simL_bind (fun s12v hs13v => ?_)
 refine simL_eff (re_call (vs := [.pointer (some ⟨bp1, 0, none⟩)]) (cap := []) (A := [obj bp1 125 [.slice ap1_0 xp1_0.length cp1_0, .int .i64 s4v.2.1, .int .i64 s4v.2.2]]) (rst := [obj bp0 76 [.pointer (some ⟨bp1, 0, none⟩), .int .i64 xp0_1], obj bp2 72 [.pointer (some ⟨bp0, 0, none⟩)], obj bp3 9 [str xp3_0], F]) rfl rfl rfl rfl rfl rfl Tryz.call33 (.sel 0 rfl (.sel 0 rfl (.sel 0 rfl (.sel 0 rfl (.sel 0 rfl (.nil _)))))) (wire_Reader_Done.calls _ _ bp1 ap1_0 cp1_0 xp1_0 s4v.2.1 s4v.2.2 (hp1_0.lend 3 rfl) hcp1_0 hmp1_0) hs13v) rfl rfl rfl ?_
 intro y14v
 refine vn rfl rfl ?_
 refine vq (q_fa rfl rfl Tryz.underlying76 rfl rfl Tryz.sizeOf31 rfl) rfl ?_
 refine simL_do (re_store 1 rfl rfl rfl Tryz.sizeOf31 rfl rfl (one_of (by rfl)) rfl rfl) rfl rfl ?_
 intro _
 refine simL_nil (nrm_block (nrm_then (sim_seq ?_)))
 refine sim_draw (Γ := Unit) () [[], [], [1], [1, 2], [1, 2, 3], [1, 2, 3, 4], [0], rL 7] [] [0, 1, 2, 3, 4, 5, 6, 7] (fun i => [[0], [0], [0], [0], [0], [0], [0], [0]].getD i []) (fun i => [[], [], [], [], [], [], [], []].getD i []) (fun γ i => [str s4v.1, .pointer (some ⟨bp0, 0, none⟩), .pointer (some ⟨bp0, 0, none⟩), .pointer (some ⟨bp0, 1, none⟩), .int .i64 s12v, .bool (decide (s12v = (0 : Int))), str s4v.1, .bool (decide (s12v = (0 : Int)))].getD i undef) (fun j γ => [[obj bp1 125 [.slice ap1_0 xp1_0.length cp1_0, .int .i64 s4v.2.1, .int .i64 s4v.2.2], obj bp0 76 [.pointer (some ⟨bp1, 0, none⟩), .int .i64 s12v], obj bp2 72 [.pointer (some ⟨bp0, 0, none⟩)], obj bp3 9 [str xp3_0], F]].getD j []) (fun γ => [(8, str s4v.1), (9, .bool (decide (s12v = (0 : Int))))]) mixed (by decide) (by decide) (by decide) (by decide) (by decide) (by decide) (by decide) 50 rfl (by decide) (by decide) (by decide) (Ent.refl _) ?_ ?_ (fun _ => ⟨rfl, rfl, trivial⟩) ?_
 exact (aq rfl (fun γ => qm rfl (.o (s := 11) rfl (by decide) .nil) rfl) (aq rfl (fun γ => qm rfl (.o (s := 0) rfl (by decide) .nil) rfl) (aq rfl (fun γ => qp rfl rfl (.v 1 rfl rfl .nil) (q_nil rfl rfl) rfl) (aq rfl (fun γ => qp rfl rfl (.v 2 rfl rfl .nil) (q_fa rfl rfl Tryz.underlying76 rfl rfl Tryz.sizeOf31 rfl) rfl) (aq rfl (fun γ => qp rfl rfl (.v 3 rfl rfl .nil) (q_load rfl rfl Tryz.isAgg31 (.obj 1 rfl rfl)) rfl) (aq rfl (fun γ => qp rfl rfl (.v 4 rfl rfl .nil) (q_eql rfl rfl rfl) rfl) (aq rfl (fun γ => qp rfl rfl (.v 0 rfl rfl .nil) (q_asg rfl rfl) rfl) (aq rfl (fun γ => qp rfl rfl (.v 5 rfl rfl .nil) (q_asg rfl rfl) rfl) zA))))))))
 exact zA
 intro g15v
 refine nrm_then (sim_rtn ?_)
 exact rtn_fn () rfl rfl rfl (.sel 0 rfl (.sel 0 rfl (.sel 0 rfl (.sel 0 rfl (.sel 0 rfl (.nil _))))))
 refine sr ?_
 refine vm rfl rfl ?_
 refine vm rfl rfl ?_
 refine simL_bind (fun s16v hs17v => ?_)
 refine simL_eff (re_call (vs := [str s4v.1]) (cap := [.pointer (some ⟨bp3, 0, none⟩)]) (A := [obj bp3 9 [str xp3_0]]) (rst := [obj bp1 125 [.slice ap1_0 xp1_0.length cp1_0, .int .i64 s4v.2.1, .int .i64 s4v.2.2], obj bp0 76 [.pointer (some ⟨bp1, 0, none⟩), .int .i64 xp0_1], obj bp2 72 [.pointer (some ⟨bp0, 0, none⟩)], F]) rfl rfl rfl rfl rfl rfl Tryz.call64 (.sel 3 rfl (.sel 0 rfl (.sel 0 rfl (.sel 0 rfl (.sel 0 rfl (.nil _)))))) (kv_reader_pairs_3.calls _ _ s4v.1 bp3 xp3_0 ) hs17v) rfl rfl rfl ?_
 intro y18v
 refine vq (q_not rfl rfl) rfl ?_
 refine va rfl rfl (simL_nil (nrm_then ?_))
 refine sim_condb rfl (fun h19v => ?_) (fun h20v => ?_)
 refine sim_region ?_
 refine vm rfl rfl ?_
 refine vm rfl rfl ?_
 refine vn rfl rfl ?_
 refine vq (q_fa rfl rfl Tryz.underlying76 rfl rfl Tryz.sizeOf31 rfl) rfl ?_
 refine simL_do (re_store 2 rfl rfl rfl Tryz.sizeOf31 rfl rfl (one_of (by rfl)) rfl rfl) rfl rfl ?_
 intro _
 refine simL_nil (nrm_block (nrm_then (sim_seq ?_)))
 refine sim_draw (Γ := Unit) () [[], [], [1], [1, 2], [1, 2, 3], [1, 2, 3, 4], [0], rL 7] [] [0, 1, 2, 3, 4, 5, 6, 7] (fun i => [[0], [0], [0], [0], [0], [0], [0], [0]].getD i []) (fun i => [[], [], [], [], [], [], [], []].getD i []) (fun γ i => [str s4v.1, .pointer (some ⟨bp0, 0, none⟩), .pointer (some ⟨bp0, 0, none⟩), .pointer (some ⟨bp0, 1, none⟩), .int .i64 x3, .bool (decide (x3 = (0 : Int))), str s4v.1, .bool (decide (x3 = (0 : Int)))].getD i undef) (fun j γ => [[obj bp3 9 [str xp3_0], obj bp1 125 [.slice ap1_0 xp1_0.length cp1_0, .int .i64 s4v.2.1, .int .i64 s4v.2.2], obj bp0 76 [.pointer (some ⟨bp1, 0, none⟩), .int .i64 x3], obj bp2 72 [.pointer (some ⟨bp0, 0, none⟩)], F]].getD j []) (fun γ => [(8, str s4v.1), (9, .bool (decide (x3 = (0 : Int))))]) mixed (by decide) (by decide) (by decide) (by decide) (by decide) (by decide) (by decide) 50 rfl (by decide) (by decide) (by decide) (Ent.refl _) ?_ ?_ (fun _ => ⟨rfl, rfl, trivial⟩) ?_
 exact (aq rfl (fun γ => qm rfl (.o (s := 11) rfl (by decide) .nil) rfl) (aq rfl (fun γ => qm rfl (.o (s := 0) rfl (by decide) .nil) rfl) (aq rfl (fun γ => qp rfl rfl (.v 1 rfl rfl .nil) (q_nil rfl rfl) rfl) (aq rfl (fun γ => qp rfl rfl (.v 2 rfl rfl .nil) (q_fa rfl rfl Tryz.underlying76 rfl rfl Tryz.sizeOf31 rfl) rfl) (aq rfl (fun γ => qp rfl rfl (.v 3 rfl rfl .nil) (q_load rfl rfl Tryz.isAgg31 (.obj 2 rfl rfl)) rfl) (aq rfl (fun γ => qp rfl rfl (.v 4 rfl rfl .nil) (q_eql rfl rfl rfl) rfl) (aq rfl (fun γ => qp rfl rfl (.v 0 rfl rfl .nil) (q_asg rfl rfl) rfl) (aq rfl (fun γ => qp rfl rfl (.v 5 rfl rfl .nil) (q_asg rfl rfl) rfl) zA))))))))
 exact zA
 intro g21v
 refine nrm_then (sim_rtn ?_)
 exact rtn_fn () rfl rfl rfl (.sel 1 rfl (.sel 1 rfl (.sel 1 rfl (.sel 0 rfl (.sel 0 rfl (.nil _))))))
 refine sim_skip ?_
 refine nrm_block (nrm_then (sim_seq ?_))
 refine sim_draw (Γ := Unit) () [[], [], [1], [1, 2], [1, 2, 3], [1, 2, 3, 4], [0], rL 7] [] [0, 1, 2, 3, 4, 5, 6, 7] (fun i => [[0], [0], [0], [0], [0], [0], [0], [0]].getD i []) (fun i => [[], [], [], [], [], [], [], []].getD i []) (fun γ i => [str s4v.1, .pointer (some ⟨bp0, 0, none⟩), .pointer (some ⟨bp0, 0, none⟩), .pointer (some ⟨bp0, 1, none⟩), .int .i64 xp0_1, .bool (decide (xp0_1 = (0 : Int))), str s4v.1, .bool (decide (xp0_1 = (0 : Int)))].getD i undef) (fun j γ => [[obj bp3 9 [str xp3_0], obj bp1 125 [.slice ap1_0 xp1_0.length cp1_0, .int .i64 s4v.2.1, .int .i64 s4v.2.2], obj bp0 76 [.pointer (some ⟨bp1, 0, none⟩), .int .i64 xp0_1], obj bp2 72 [.pointer (some ⟨bp0, 0, none⟩)], F]].getD j []) (fun γ => [(8, str s4v.1), (9, .bool (decide (xp0_1 = (0 : Int))))]) mixed (by decide) (by decide) (by decide) (by decide) (by decide) (by decide) (by decide) 50 rfl (by decide) (by decide) (by decide) (Ent.refl _) ?_ ?_ (fun _ => ⟨rfl, rfl, trivial⟩) ?_
 exact (aq rfl (fun γ => qm rfl (.o (s := 11) rfl (by decide) .nil) rfl) (aq rfl (fun γ => qm rfl (.o (s := 0) rfl (by decide) .nil) rfl) (aq rfl (fun γ => qp rfl rfl (.v 1 rfl rfl .nil) (q_nil rfl rfl) rfl) (aq rfl (fun γ => qp rfl rfl (.v 2 rfl rfl .nil) (q_fa rfl rfl Tryz.underlying76 rfl rfl Tryz.sizeOf31 rfl) rfl) (aq rfl (fun γ => qp rfl rfl (.v 3 rfl rfl .nil) (q_load rfl rfl Tryz.isAgg31 (.obj 2 rfl rfl)) rfl) (aq rfl (fun γ => qp rfl rfl (.v 4 rfl rfl .nil) (q_eql rfl rfl rfl) rfl) (aq rfl (fun γ => qp rfl rfl (.v 0 rfl rfl .nil) (q_asg rfl rfl) rfl) (aq rfl (fun γ => qp rfl rfl (.v 5 rfl rfl .nil) (q_asg rfl rfl) rfl) zA))))))))
 exact zA
 intro g22v
 refine nrm_then (sim_rtn ?_)
 exact rtn_fn () rfl rfl rfl (.sel 1 rfl (.sel 1 rfl (.sel 1 rfl (.sel 0 rfl (.sel 0 rfl (.nil _))))))

def kv_reader_pairs_4_s.f (k : Nat) (xp2_0 : List UInt8) (xp2_1 : Int) (xp2_2 : Int) (xp1_1 : Int) : Option (List UInt8 × Int × Int) := (wire_Reader_Text.f k xp2_0 xp2_1 xp2_2 (1024 : Int)).bind fun s1v => (some (s1v.1, s1v.2.1, s1v.2.2))
theorem kv_reader_pairs_4_s.calls (W : World) (F : HA) (k : Nat) (bp0 : Nat) (bp1 : Nat) (bp2 : Nat) (ap2_0 : Option Addr) (cp2_0 : Nat) (xp2_0 : List UInt8) (xp2_1 : Int) (xp2_2 : Int) (xp1_1 : Int) (hp2_0 : Rd F ap2_0 (encB xp2_0)) (hcp2_0 : xp2_0.length ≤ cp2_0) (hmp2_0 : cp2_0 ≤ maxLen) :
    Fn Tryz.prog W 65 [.pointer (some ⟨bp0, 0, none⟩)] [obj bp2 125 [.slice ap2_0 xp2_0.length cp2_0, .int .i64 xp2_1, .int .i64 xp2_2], obj bp1 76 [.pointer (some ⟨bp2, 0, none⟩), .int .i64 xp1_1], obj bp0 72 [.pointer (some ⟨bp1, 0, none⟩)]] F (kv_reader_pairs_4_s.f k xp2_0 xp2_1 xp2_2 xp1_1) (fun (r : List UInt8 × Int × Int) (y : Unit) => str r.1) (fun r y => [obj bp2 125 [.slice ap2_0 xp2_0.length cp2_0, .int .i64 r.2.1, .int .i64 r.2.2], obj bp1 76 [.pointer (some ⟨bp2, 0, none⟩), .int .i64 xp1_1], obj bp0 72 [.pointer (some ⟨bp1, 0, none⟩)]]) := by
 unfold kv_reader_pairs_4_s.f
 refine fn_intro 7 Tryz.func65 rfl Tryz.ntmps65 rfl ?_
 refine sr ?_
 refine va rfl rfl (nx ?_)
 refine vq (q_load rfl rfl Tryz.isAgg72 (.obj 2 rfl rfl)) rfl ?_
 refine vn rfl rfl ?_
 refine vq (q_fa rfl rfl Tryz.underlying76 rfl rfl Tryz.sizeOf73 rfl) rfl ?_
 refine vq (q_load rfl rfl Tryz.isAgg73 (.obj 1 rfl rfl)) rfl ?_
 refine simL_bind (fun s1v hs2v => ?_)
 refine simL_eff (re_call (vs := [.pointer (some ⟨bp2, 0, none⟩), .int .i64 1024]) (cap := []) (A := [obj bp2 125 [.slice ap2_0 xp2_0.length cp2_0, .int .i64 xp2_1, .int .i64 xp2_2]]) (rst := [obj bp1 76 [.pointer (some ⟨bp2, 0, none⟩), .int .i64 xp1_1], obj bp0 72 [.pointer (some ⟨bp1, 0, none⟩)], F]) rfl rfl rfl rfl rfl rfl Tryz.call63 (.sel 0 rfl (.sel 0 rfl (.sel 0 rfl (.sel 0 rfl (.nil _))))) (wire_Reader_Text.calls _ _ k bp2 ap2_0 cp2_0 xp2_0 xp2_1 xp2_2 (1024 : Int) (hp2_0.lend 2 rfl) hcp2_0 hmp2_0) hs2v) rfl rfl rfl ?_
 intro y3v
 refine va rfl rfl (simL_nil (nrm_then (sim_rtn ?_)))
 exact rtn_fn () rfl rfl rfl (.sel 0 rfl (.sel 0 rfl (.sel 0 rfl (.sel 0 rfl (.nil _)))))

def kv_is_string_kv_reader_pairs_4_kv_reader_pairs_5.f (k : Nat) (xp1_0 : List UInt8) (xp1_1 : Int) (xp1_2 : Int) (xp0_1 : Int) (x3 : Int) : Option (List UInt8 × Bool × Int × Int × Int) := (wire_Reader_At.f xp1_0 xp1_1 xp1_2).bind fun s1v => ((kv_reader_pairs_4_s.f k xp1_0 xp1_1 xp1_2 xp0_1).bind fun s4v => ((wire_Reader_At.f xp1_0 s4v.2.1 s4v.2.2).bind fun s7v => (if s7v = s1v then ((wire_Reader_Done.f xp1_0 s4v.2.1 s4v.2.2).bind fun s12v => (some (s4v.1, decide (s12v = (0 : Int)), s4v.2.1, s4v.2.2, s12v))) else ((kv_reader_pairs_5.f s4v.1).bind fun s16v => (if (!s16v) = true then (some (s4v.1, decide (x3 = (0 : Int)), s4v.2.1, s4v.2.2, x3)) else (some (s4v.1, decide (xp0_1 = (0 : Int)), s4v.2.1, s4v.2.2, xp0_1)))))))
theorem kv_is_string_kv_reader_pairs_4_kv_reader_pairs_5.calls (W : World) (F : HA) (k : Nat) (bp0 : Nat) (bp1 : Nat) (ap1_0 : Option Addr) (cp1_0 : Nat) (xp1_0 : List UInt8) (xp1_1 : Int) (xp1_2 : Int) (xp0_1 : Int) (bp2 : Nat) (x3 : Int) (hp1_0 : Rd F ap1_0 (encB xp1_0)) (hcp1_0 : xp1_0.length ≤ cp1_0) (hmp1_0 : cp1_0 ≤ maxLen) :
    Fn Tryz.prog W 61 [.pointer (some ⟨bp0, 0, none⟩), .func (.func 65) #[] #[.pointer (some ⟨bp2, 0, none⟩)], .func (.func 66) #[] #[], .int .i64 x3] [obj bp1 125 [.slice ap1_0 xp1_0.length cp1_0, .int .i64 xp1_1, .int .i64 xp1_2], obj bp0 76 [.pointer (some ⟨bp1, 0, none⟩), .int .i64 xp0_1], obj bp2 72 [.pointer (some ⟨bp0, 0, none⟩)]] F (kv_is_string_kv_reader_pairs_4_kv_reader_pairs_5.f k xp1_0 xp1_1 xp1_2 xp0_1 x3) (fun (r : List UInt8 × Bool × Int × Int × Int) (y : Unit) => .tuple #[str r.1, .bool r.2.1]) (fun r y => [obj bp1 125 [.slice ap1_0 xp1_0.length cp1_0, .int .i64 r.2.2.1, .int .i64 r.2.2.2.1], obj bp0 76 [.pointer (some ⟨bp1, 0, none⟩), .int .i64 r.2.2.2.2], obj bp2 72 [.pointer (some ⟨bp0, 0, none⟩)]]) := by
 unfold kv_is_string_kv_reader_pairs_4_kv_reader_pairs_5.f
 refine fn_intro 50 Tryz.func61 rfl Tryz.ntmps61 rfl ?_
 refine sr ?_
 refine va rfl rfl ?_
 refine va rfl rfl (nx ?_)
 refine vm rfl rfl ?_
 refine vn rfl rfl ?_
 refine vq (q_fa rfl rfl Tryz.underlying76 rfl rfl Tryz.sizeOf73 rfl) rfl ?_
 refine vq (q_load rfl rfl Tryz.isAgg73 (.obj 1 rfl rfl)) rfl ?_
 refine simL_bind (fun s1v hs2v => ?_)
 refine simL_eff (re_call (vs := [.pointer (some ⟨bp1, 0, none⟩)]) (cap := []) (A := [obj bp1 125 [.slice ap1_0 xp1_0.length cp1_0, .int .i64 xp1_1, .int .i64 xp1_2]]) (rst := [obj bp0 76 [.pointer (some ⟨bp1, 0, none⟩), .int .i64 xp0_1], obj bp2 72 [.pointer (some ⟨bp0, 0, none⟩)], F]) rfl rfl rfl rfl rfl rfl Tryz.call94 (.sel 0 rfl (.sel 0 rfl (.sel 0 rfl (.sel 0 rfl (.nil _))))) (wire_Reader_At.calls _ _ bp1 ap1_0 cp1_0 xp1_0 xp1_1 xp1_2 (hp1_0.lend 2 rfl) hcp1_0 hmp1_0) hs2v) rfl rfl rfl ?_
 intro y3v
 refine va rfl rfl (nx ?_)
 refine vm rfl rfl ?_
 refine simL_bind (fun s4v hs5v => ?_)
 refine simL_eff (re_call (vs := []) (cap := [.pointer (some ⟨bp2, 0, none⟩)]) (A := [obj bp1 125 [.slice ap1_0 xp1_0.length cp1_0, .int .i64 xp1_1, .int .i64 xp1_2], obj bp0 76 [.pointer (some ⟨bp1, 0, none⟩), .int .i64 xp0_1], obj bp2 72 [.pointer (some ⟨bp0, 0, none⟩)]]) (rst := [F]) rfl rfl rfl rfl rfl rfl Tryz.call65 (.sel 0 rfl (.sel 0 rfl (.sel 0 rfl (.sel 0 rfl (.nil _))))) (kv_reader_pairs_4_s.calls _ _ k bp2 bp0 bp1 ap1_0 cp1_0 xp1_0 xp1_1 xp1_2 xp0_1 (hp1_0.lend 0 rfl) hcp1_0 hmp1_0) hs5v) rfl rfl rfl ?_
 intro y6v
 refine va rfl rfl (simL_nil (nrm_then (sim_seq ?_)))
 refine sim_block ?_
 refine sr ?_
 refine vm rfl rfl ?_
 refine vn rfl rfl ?_
 refine vq (q_fa rfl rfl Tryz.underlying76 rfl rfl Tryz.sizeOf73 rfl) rfl ?_
 refine vq (q_load rfl rfl Tryz.isAgg73 (.obj 1 rfl rfl)) rfl ?_
 refine simL_bind (fun s7v hs8v => ?_)
 refine simL_eff (re_call (vs := [.pointer (some ⟨bp1, 0, none⟩)]) (cap := []) (A := [obj bp1 125 [.slice ap1_0 xp1_0.length cp1_0, .int .i64 s4v.2.1, .int .i64 s4v.2.2]]) (rst := [obj bp0 76 [.pointer (some ⟨bp1, 0, none⟩), .int .i64 xp0_1], obj bp2 72 [.pointer (some ⟨bp0, 0, none⟩)], F]) rfl rfl rfl rfl rfl rfl Tryz.call94 (.sel 0 rfl (.sel 0 rfl (.sel 0 rfl (.sel 0 rfl (.nil _))))) (wire_Reader_At.calls _ _ bp1 ap1_0 cp1_0 xp1_0 s4v.2.1 s4v.2.2 (hp1_0.lend 2 rfl) hcp1_0 hmp1_0) hs8v) rfl rfl rfl ?_
 intro y9v
 refine vm rfl rfl ?_
 refine vq (q_eql rfl rfl rfl) rfl ?_
 refine va rfl rfl (simL_nil (nrm_then ?_))
 refine sim_cond rfl (fun h10v => ?_) (fun h11v => ?_)
 refine sim_region ?_
 refine vm rfl rfl ?_
 refine vm rfl rfl ?_
 refine vn rfl rfl ?_
 refine vq (q_fa rfl rfl Tryz.underlying76 rfl rfl Tryz.sizeOf73 rfl) rfl ?_
 refine vq (q_load rfl rfl Tryz.isAgg73 (.obj 1 rfl rfl)) rfl ?_
 refine simL_bind (fun s12v hs13v => ?_)
 refine simL_eff (re_call (vs := [.pointer (some ⟨bp1, 0, none⟩)]) (cap := []) (A := [obj bp1 125 [.slice ap1_0 xp1_0.length cp1_0, .int .i64 s4v.2.1, .int .i64 s4v.2.2]]) (rst := [obj bp0 76 [.pointer (some ⟨bp1, 0, none⟩), .int .i64 xp0_1], obj bp2 72 [.pointer (some ⟨bp0, 0, none⟩)], F]) rfl rfl rfl rfl rfl rfl Tryz.call33 (.sel 0 rfl (.sel 0 rfl (.sel 0 rfl (.sel 0 rfl (.nil _))))) (wire_Reader_Done.calls _ _ bp1 ap1_0 cp1_0 xp1_0 s4v.2.1 s4v.2.2 (hp1_0.lend 2 rfl) hcp1_0 hmp1_0) hs13v) rfl rfl rfl ?_
 intro y14v
 refine vn rfl rfl ?_
 refine vq (q_fa rfl rfl Tryz.underlying76 rfl rfl Tryz.sizeOf31 rfl) rfl ?_
 refine simL_do (re_store 1 rfl rfl rfl Tryz.sizeOf31 rfl rfl (one_of (by rfl)) rfl rfl) rfl rfl ?_
 intro _
 refine simL_nil (nrm_block (nrm_then (sim_seq ?_)))
 refine sim_draw (Γ := Unit) () [[], [], [1], [1, 2], [1, 2, 3], [1, 2, 3, 4], [0], rL 7] [] [0, 1, 2, 3, 4, 5, 6, 7] (fun i => [[0], [0], [0], [0], [0], [0], [0], [0]].getD i []) (fun i => [[], [], [], [], [], [], [], []].getD i []) (fun γ i => [str s4v.1, .pointer (some ⟨bp0, 0, none⟩), .pointer (some ⟨bp0, 0, none⟩), .pointer (some ⟨bp0, 1, none⟩), .int .i64 s12v, .bool (decide (s12v = (0 : Int))), str s4v.1, .bool (decide (s12v = (0 : Int)))].getD i undef) (fun j γ => [[obj bp1 125 [.slice ap1_0 xp1_0.length cp1_0, .int .i64 s4v.2.1, .int .i64 s4v.2.2], obj bp0 76 [.pointer (some ⟨bp1, 0, none⟩), .int .i64 s12v], obj bp2 72 [.pointer (some ⟨bp0, 0, none⟩)], F]].getD j []) (fun γ => [(8, str s4v.1), (9, .bool (decide (s12v = (0 : Int))))]) mixed (by decide) (by decide) (by decide) (by decide) (by decide) (by decide) (by decide) 50 rfl (by decide) (by decide) (by decide) (Ent.refl _) ?_ ?_ (fun _ => ⟨rfl, rfl, trivial⟩) ?_
 exact (aq rfl (fun γ => qm rfl (.o (s := 11) rfl (by decide) .nil) rfl) (aq rfl (fun γ => qm rfl (.o (s := 0) rfl (by decide) .nil) rfl) (aq rfl (fun γ => qp rfl rfl (.v 1 rfl rfl .nil) (q_nil rfl rfl) rfl) (aq rfl (fun γ => qp rfl rfl (.v 2 rfl rfl .nil) (q_fa rfl rfl Tryz.underlying76 rfl rfl Tryz.sizeOf31 rfl) rfl) (aq rfl (fun γ => qp rfl rfl (.v 3 rfl rfl .nil) (q_load rfl rfl Tryz.isAgg31 (.obj 1 rfl rfl)) rfl) (aq rfl (fun γ => qp rfl rfl (.v 4 rfl rfl .nil) (q_eql rfl rfl rfl) rfl) (aq rfl (fun γ => qp rfl rfl (.v 0 rfl rfl .nil) (q_asg rfl rfl) rfl) (aq rfl (fun γ => qp rfl rfl (.v 5 rfl rfl .nil) (q_asg rfl rfl) rfl) zA))))))))
 exact zA
 intro g15v
 refine nrm_then (sim_rtn ?_)
 exact rtn_fn () rfl rfl rfl (.sel 0 rfl (.sel 0 rfl (.sel 0 rfl (.sel 0 rfl (.nil _)))))
 refine sr ?_
 refine vm rfl rfl ?_
 refine vm rfl rfl ?_
 refine simL_bind (fun s16v hs17v => ?_)
 refine simL_eff (re_call (vs := [str s4v.1]) (cap := []) (A := []) (rst := [obj bp1 125 [.slice ap1_0 xp1_0.length cp1_0, .int .i64 s4v.2.1, .int .i64 s4v.2.2], obj bp0 76 [.pointer (some ⟨bp1, 0, none⟩), .int .i64 xp0_1], obj bp2 72 [.pointer (some ⟨bp0, 0, none⟩)], F]) rfl rfl rfl rfl rfl rfl Tryz.call66 (.sel 0 rfl (.sel 0 rfl (.sel 0 rfl (.sel 0 rfl (.nil _))))) (kv_reader_pairs_5.calls _ _ s4v.1 ) hs17v) rfl rfl rfl ?_
 intro y18v
 refine vq (q_not rfl rfl) rfl ?_
 refine va rfl rfl (simL_nil (nrm_then ?_))
 refine sim_condb rfl (fun h19v => ?_) (fun h20v => ?_)
 refine sim_region ?_
 refine vm rfl rfl ?_
 refine vm rfl rfl ?_
 refine vn rfl rfl ?_
 refine vq (q_fa rfl rfl Tryz.underlying76 rfl rfl Tryz.sizeOf31 rfl) rfl ?_
 refine simL_do (re_store 1 rfl rfl rfl Tryz.sizeOf31 rfl rfl (one_of (by rfl)) rfl rfl) rfl rfl ?_
 intro _
 refine simL_nil (nrm_block (nrm_then (sim_seq ?_)))
 refine sim_draw (Γ := Unit) () [[], [], [1], [1, 2], [1, 2, 3], [1, 2, 3, 4], [0], rL 7] [] [0, 1, 2, 3, 4, 5, 6, 7] (fun i => [[0], [0], [0], [0], [0], [0], [0], [0]].getD i []) (fun i => [[], [], [], [], [], [], [], []].getD i []) (fun γ i => [str s4v.1, .pointer (some ⟨bp0, 0, none⟩), .pointer (some ⟨bp0, 0, none⟩), .pointer (some ⟨bp0, 1, none⟩), .int .i64 x3, .bool (decide (x3 = (0 : Int))), str s4v.1, .bool (decide (x3 = (0 : Int)))].getD i undef) (fun j γ => [[obj bp1 125 [.slice ap1_0 xp1_0.length cp1_0, .int .i64 s4v.2.1, .int .i64 s4v.2.2], obj bp0 76 [.pointer (some ⟨bp1, 0, none⟩), .int .i64 x3], obj bp2 72 [.pointer (some ⟨bp0, 0, none⟩)], F]].getD j []) (fun γ => [(8, str s4v.1), (9, .bool (decide (x3 = (0 : Int))))]) mixed (by decide) (by decide) (by decide) (by decide) (by decide) (by decide) (by decide) 50 rfl (by decide) (by decide) (by decide) (Ent.refl _) ?_ ?_ (fun _ => ⟨rfl, rfl, trivial⟩) ?_
 exact (aq rfl (fun γ => qm rfl (.o (s := 11) rfl (by decide) .nil) rfl) (aq rfl (fun γ => qm rfl (.o (s := 0) rfl (by decide) .nil) rfl) (aq rfl (fun γ => qp rfl rfl (.v 1 rfl rfl .nil) (q_nil rfl rfl) rfl) (aq rfl (fun γ => qp rfl rfl (.v 2 rfl rfl .nil) (q_fa rfl rfl Tryz.underlying76 rfl rfl Tryz.sizeOf31 rfl) rfl) (aq rfl (fun γ => qp rfl rfl (.v 3 rfl rfl .nil) (q_load rfl rfl Tryz.isAgg31 (.obj 1 rfl rfl)) rfl) (aq rfl (fun γ => qp rfl rfl (.v 4 rfl rfl .nil) (q_eql rfl rfl rfl) rfl) (aq rfl (fun γ => qp rfl rfl (.v 0 rfl rfl .nil) (q_asg rfl rfl) rfl) (aq rfl (fun γ => qp rfl rfl (.v 5 rfl rfl .nil) (q_asg rfl rfl) rfl) zA))))))))
 exact zA
 intro g21v
 refine nrm_then (sim_rtn ?_)
 exact rtn_fn () rfl rfl rfl (.sel 0 rfl (.sel 0 rfl (.sel 0 rfl (.sel 0 rfl (.nil _)))))
 refine sim_skip ?_
 refine nrm_block (nrm_then (sim_seq ?_))
 refine sim_draw (Γ := Unit) () [[], [], [1], [1, 2], [1, 2, 3], [1, 2, 3, 4], [0], rL 7] [] [0, 1, 2, 3, 4, 5, 6, 7] (fun i => [[0], [0], [0], [0], [0], [0], [0], [0]].getD i []) (fun i => [[], [], [], [], [], [], [], []].getD i []) (fun γ i => [str s4v.1, .pointer (some ⟨bp0, 0, none⟩), .pointer (some ⟨bp0, 0, none⟩), .pointer (some ⟨bp0, 1, none⟩), .int .i64 xp0_1, .bool (decide (xp0_1 = (0 : Int))), str s4v.1, .bool (decide (xp0_1 = (0 : Int)))].getD i undef) (fun j γ => [[obj bp1 125 [.slice ap1_0 xp1_0.length cp1_0, .int .i64 s4v.2.1, .int .i64 s4v.2.2], obj bp0 76 [.pointer (some ⟨bp1, 0, none⟩), .int .i64 xp0_1], obj bp2 72 [.pointer (some ⟨bp0, 0, none⟩)], F]].getD j []) (fun γ => [(8, str s4v.1), (9, .bool (decide (xp0_1 = (0 : Int))))]) mixed (by decide) (by decide) (by decide) (by decide) (by decide) (by decide) (by decide) 50 rfl (by decide) (by decide) (by decide) (Ent.refl _) ?_ ?_ (fun _ => ⟨rfl, rfl, trivial⟩) ?_
 exact (aq rfl (fun γ => qm rfl (.o (s := 11) rfl (by decide) .nil) rfl) (aq rfl (fun γ => qm rfl (.o (s := 0) rfl (by decide) .nil) rfl) (aq rfl (fun γ => qp rfl rfl (.v 1 rfl rfl .nil) (q_nil rfl rfl) rfl) (aq rfl (fun γ => qp rfl rfl (.v 2 rfl rfl .nil) (q_fa rfl rfl Tryz.underlying76 rfl rfl Tryz.sizeOf31 rfl) rfl) (aq rfl (fun γ => qp rfl rfl (.v 3 rfl rfl .nil) (q_load rfl rfl Tryz.isAgg31 (.obj 1 rfl rfl)) rfl) (aq rfl (fun γ => qp rfl rfl (.v 4 rfl rfl .nil) (q_eql rfl rfl rfl) rfl) (aq rfl (fun γ => qp rfl rfl (.v 0 rfl rfl .nil) (q_asg rfl rfl) rfl) (aq rfl (fun γ => qp rfl rfl (.v 5 rfl rfl .nil) (q_asg rfl rfl) rfl) zA))))))))
 exact zA
 intro g22v
 refine nrm_then (sim_rtn ?_)
 exact rtn_fn () rfl rfl rfl (.sel 0 rfl (.sel 0 rfl (.sel 0 rfl (.sel 0 rfl (.nil _)))))

def kv_reader_pairs_s.l0 (xp1_0 : List UInt8) (xp2_1 : List ((Int) × (Ty91))) (s2v : Int × Bool × Int × Int × Int) : Nat → Bool → Int → List UInt8 → Int → Int → Int → List ((List UInt8) × (List UInt8)) → Option ((Bool × Int × Int × Int × (List ((List UInt8) × (List UInt8)))) ⊕ (Bool × Int × Int × Int × (List ((List UInt8) × (List UInt8))) × (List ((Int) × (Ty91)))))
  | 0, _, _, _, _, _, _, _ => none
  | k + 1, z11v, z12v, z13v, z14v, z15v, z16v, z17v => if (z11v && (decide (z12v < s2v.1))) = true then ((kv_is_string_kv_reader_pairs_2_kv_reader_pairs_3.f k xp1_0 z14v z15v z16v z13v (4 : Int)).bind fun s20v => (if (!s20v.2.1) = true then (some (.inr (false, s20v.2.2.1, s20v.2.2.2.1, s20v.2.2.2.2, z17v, xp2_1))) else ((kv_is_string_kv_reader_pairs_4_kv_reader_pairs_5.f k xp1_0 s20v.2.2.1 s20v.2.2.2.1 s20v.2.2.2.2 (0 : Int)).bind fun s25v => (kv_reader_pairs_s.l0 xp1_0 xp2_1 s2v k s25v.2.1 (IntKind.i64.wrap (z12v + 1)) s20v.1 s25v.2.2.1 s25v.2.2.2.1 s25v.2.2.2.2 (mput z17v s20v.1 s25v.1))))) else (some (.inl (z11v, z14v, z15v, z16v, z17v)))
def kv_reader_pairs_s.f (k : Nat) (xp1_0 : List UInt8) (xp1_1 : Int) (xp1_2 : Int) (xp0_1 : Int) (xp2_0 : List ((List UInt8) × (List UInt8))) (xp2_1 : List ((Int) × (Ty91))) : Option (Bool × Int × Int × Int × (List ((List UInt8) × (List UInt8))) × (List ((Int) × (Ty91)))) := (kv_is_int_wire_Reader_Int_kv_reader_pairs_1.f k xp1_0 xp1_1 xp1_2 xp0_1 (23 : Int)).bind fun s2v => (orR (kv_reader_pairs_s.l0 xp1_0 xp2_1 s2v k s2v.2.1 0 ([] : List UInt8) s2v.2.2.1 s2v.2.2.2.1 s2v.2.2.2.2 xp2_0) fun s7v => (some (s7v.1, s7v.2.1, s7v.2.2.1, s7v.2.2.2.1, s7v.2.2.2.2, xp2_1)))
theorem kv_reader_pairs_s.calls (W : World) (F : HA) (k : Nat) (bp0 : Nat) (bp1 : Nat) (ap1_0 : Option Addr) (cp1_0 : Nat) (xp1_0 : List UInt8) (xp1_1 : Int) (xp1_2 : Int) (xp0_1 : Int) (bp2 : Nat) (mp2_0 : Nat) (xp2_0 : List ((List UInt8) × (List UInt8))) (mp2_1 : Nat) (xp2_1 : List ((Int) × (Ty91))) (hp1_0 : Rd F ap1_0 (encB xp1_0)) (hcp1_0 : xp1_0.length ≤ cp1_0) (hmp1_0 : cp1_0 ≤ maxLen) :
    Fn Tryz.prog W 31 [.pointer (some ⟨bp0, 0, none⟩), .pointer (some ⟨bp2, 0, none⟩)] [obj bp1 125 [.slice ap1_0 xp1_0.length cp1_0, .int .i64 xp1_1, .int .i64 xp1_2], obj bp0 76 [.pointer (some ⟨bp1, 0, none⟩), .int .i64 xp0_1], obj bp2 58 [.map (some mp2_0), .map (some mp2_1)], mapO mp2_0 enc9 enc9 xp2_0, mapO mp2_1 enc3 enc69 xp2_1] F (kv_reader_pairs_s.f k xp1_0 xp1_1 xp1_2 xp0_1 xp2_0 xp2_1) (fun (r : Bool × Int × Int × Int × (List ((List UInt8) × (List UInt8))) × (List ((Int) × (Ty91)))) (y : Nat × Nat) => .bool r.1) (fun r y => [obj bp1 125 [.slice ap1_0 xp1_0.length cp1_0, .int .i64 r.2.1, .int .i64 r.2.2.1], obj bp0 76 [.pointer (some ⟨bp1, 0, none⟩), .int .i64 r.2.2.2.1], obj bp2 58 [.map (some y.1), .map (some y.2)], mapO y.1 enc9 enc9 r.2.2.2.2.1, mapO y.2 enc3 enc69 r.2.2.2.2.2]) := by
 unfold kv_reader_pairs_s.f
 refine fn_intro 51 Tryz.func31 rfl Tryz.ntmps31 rfl ?_
 refine sr ?_
 refine simL_eff (re_box rfl rfl rfl) rfl rfl rfl ?_
 intro b1v
 refine va rfl rfl (simL_nil (nrm_then (sim_seq ?_)))
 refine sim_bind (fun s2v hs3v => ?_)
 refine sim_draw (Γ := Unit) () [[], [], [1], [1, 2], [1, 2, 3], [1, 2, 3, 4], rL 6, rL 7, rL 8, rL 8, rL 9, rL 11] [6] [0, 1, 2, 3, 4, 5, 7, 8, 9, 10, 11] (fun i => [[0], [0], [0], [0], [0], [0], [], [1], [1], [1], [1], [1]].getD i []) (fun i => [[], [], [], [], [], [], rL 6, [], [], [], [], []].getD i []) (fun γ i => [.pointer (some ⟨bp0, 0, none⟩), .pointer (some ⟨bp0, 0, none⟩), .pointer (some ⟨bp0, 0, none⟩), .pointer (some ⟨bp0, 0, none⟩), .pointer (some ⟨bp1, 0, none⟩), .func (.func 59) #[.pointer (some ⟨bp1, 0, none⟩)] #[], .tuple #[.int .i64 s2v.1, .bool s2v.2.1], .tuple #[.int .i64 s2v.1, .bool s2v.2.1], .int .i64 s2v.1, .bool s2v.2.1, .int .i64 s2v.1, .bool s2v.2.1].getD i undef) (fun j γ => [[obj b1v 72 [.pointer (some ⟨bp0, 0, none⟩)], obj bp1 125 [.slice ap1_0 xp1_0.length cp1_0, .int .i64 xp1_1, .int .i64 xp1_2], obj bp0 76 [.pointer (some ⟨bp1, 0, none⟩), .int .i64 xp0_1], obj bp2 58 [.map (some mp2_0), .map (some mp2_1)], mapO mp2_0 enc9 enc9 xp2_0, mapO mp2_1 enc3 enc69 xp2_1, F], [obj bp1 125 [.slice ap1_0 xp1_0.length cp1_0, .int .i64 s2v.2.2.1, .int .i64 s2v.2.2.2.1], obj bp0 76 [.pointer (some ⟨bp1, 0, none⟩), .int .i64 s2v.2.2.2.2], obj b1v 72 [.pointer (some ⟨bp0, 0, none⟩)], obj bp2 58 [.map (some mp2_0), .map (some mp2_1)], mapO mp2_0 enc9 enc9 xp2_0, mapO mp2_1 enc3 enc69 xp2_1, F]].getD j []) (fun γ => [(1, .pointer (some ⟨bp2, 0, none⟩)), (2, .pointer (some ⟨b1v, 0, none⟩)), (5, .int .i64 s2v.1), (6, .bool s2v.2.1)]) mixed (by decide) (by decide) (by decide) (by decide) (by decide) (by decide) (by decide) 51 rfl (by decide) (by decide) (by decide) (Ent.refl _) ?_ ?_ (fun _ => ⟨rfl, rfl, rfl, rfl, trivial⟩) ?_
 exact (aq rfl (fun γ => qp rfl rfl (.o (s := 2) rfl (by decide) .nil) (q_load rfl rfl Tryz.isAgg72 (.obj 0 rfl rfl)) rfl) (aq rfl (fun γ => qp rfl rfl (.o (s := 2) rfl (by decide) .nil) (q_load rfl rfl Tryz.isAgg72 (.obj 0 rfl rfl)) rfl) (aq rfl (fun γ => qp rfl rfl (.v 1 rfl rfl .nil) (q_nil rfl rfl) rfl) (aq rfl (fun γ => qp rfl rfl (.v 2 rfl rfl .nil) (q_fa rfl rfl Tryz.underlying76 rfl rfl Tryz.sizeOf73 rfl) rfl) (aq rfl (fun γ => qp rfl rfl (.v 3 rfl rfl .nil) (q_load rfl rfl Tryz.isAgg73 (.obj 2 rfl rfl)) rfl) (aq rfl (fun γ => qp rfl rfl (.v 4 rfl rfl .nil) (q_mkfn rfl rfl rfl) rfl) (aq rfl (fun γ => qm rfl (.v 6 rfl rfl .nil) rfl) (aq rfl (fun γ => qp rfl rfl (.v 7 rfl rfl .nil) (q_ext rfl rfl rfl) rfl) (aq rfl (fun γ => qp rfl rfl (.v 7 rfl rfl .nil) (q_ext rfl rfl rfl) rfl) (aq rfl (fun γ => qp rfl rfl (.v 8 rfl rfl .nil) (q_asg rfl rfl) rfl) (aq rfl (fun γ => qp rfl rfl (.v 9 rfl rfl .nil) (q_asg rfl rfl) rfl) zA)))))))))))
 exact (ac (fun γ => eo (Z := Unit) (fun z => ()) rfl rfl (.v 0 rfl rfl (.v 5 rfl rfl .nil)) (re_call (vs := [.pointer (some ⟨bp0, 0, none⟩), .func (.func 59) #[.pointer (some ⟨bp1, 0, none⟩)] #[], .func (.func 60) #[] #[], .int .i64 23]) (cap := []) (A := [obj bp1 125 [.slice ap1_0 xp1_0.length cp1_0, .int .i64 xp1_1, .int .i64 xp1_2], obj bp0 76 [.pointer (some ⟨bp1, 0, none⟩), .int .i64 xp0_1]]) (rst := [obj b1v 72 [.pointer (some ⟨bp0, 0, none⟩)], obj bp2 58 [.map (some mp2_0), .map (some mp2_1)], mapO mp2_0 enc9 enc9 xp2_0, mapO mp2_1 enc3 enc69 xp2_1, F]) rfl rfl rfl rfl rfl rfl Tryz.call58 (.sel 1 rfl (.sel 1 rfl (.sel 0 rfl (.sel 0 rfl (.sel 0 rfl (.sel 0 rfl (.sel 0 rfl (.nil _)))))))) (kv_is_int_wire_Reader_Int_kv_reader_pairs_1.calls _ _ k bp0 bp1 ap1_0 cp1_0 xp1_0 xp1_1 xp1_2 xp0_1 (23 : Int) (hp1_0.lend 4 rfl) hcp1_0 hmp1_0) hs3v) (fun _ => ⟨rfl, rfl, rfl, rfl, rfl, rfl, trivial⟩) (fun _ => .inr rfl) (fun z => Ent.refl _)) zA)
 intro g5v
 refine nrm_then (sr ?_)
 refine simL_eff (re_alloc rfl Tryz.zeroValue9 rfl) rfl rfl rfl ?_
 intro b6v
 refine simL_do (re_store 0 rfl rfl rfl Tryz.sizeOf9 rfl rfl (one_of (by rfl)) rfl rfl) rfl rfl ?_
 intro _
 refine simL_nil (nrm_then ?_)
 refine sim_cutR (S := Bool × Int × Int × Int × (List ((List UInt8) × (List UInt8)))) (Unit) (fun s y => [(6, .bool s.1)]) (fun s y => [obj bp1 125 [.slice ap1_0 xp1_0.length cp1_0, .int .i64 s.2.1, .int .i64 s.2.2.1], obj bp0 76 [.pointer (some ⟨bp1, 0, none⟩), .int .i64 s.2.2.2.1], obj bp2 58 [.map (some mp2_0), .map (some mp2_1)], mapO mp2_0 enc9 enc9 s.2.2.2.2, mapO mp2_1 enc3 enc69 xp2_1, F]) ?_ ?_
 refine sr ?_
 refine va rfl rfl (simL_nil (nrm_then ?_))
 refine sim_block ?_
 refine sim_loop (S := Bool × Int × List UInt8 × Int × Int × Int × (List ((List UInt8) × (List UInt8)))) (Unit) (fun k s => kv_reader_pairs_s.l0 xp1_0 xp2_1 s2v k s.1 s.2.1 s.2.2.1 s.2.2.2.1 s.2.2.2.2.1 s.2.2.2.2.2.1 s.2.2.2.2.2.2) (fun s y => [(1, .pointer (some ⟨bp2, 0, none⟩)), (2, .pointer (some ⟨b1v, 0, none⟩)), (5, .int .i64 s2v.1), (6, .bool s.1), (7, .pointer (some ⟨b6v, 0, none⟩)), (8, .int .i64 s.2.1)]) (fun s y => [obj b6v 9 [str s.2.2.1], obj bp1 125 [.slice ap1_0 xp1_0.length cp1_0, .int .i64 s.2.2.2.1, .int .i64 s.2.2.2.2.1], obj bp0 76 [.pointer (some ⟨bp1, 0, none⟩), .int .i64 s.2.2.2.2.2.1], obj b1v 72 [.pointer (some ⟨bp0, 0, none⟩)], obj bp2 58 [.map (some mp2_0), .map (some mp2_1)], mapO mp2_0 enc9 enc9 s.2.2.2.2.2.2, mapO mp2_1 enc3 enc69 xp2_1, F]) (fun _ => by rw [kv_reader_pairs_s.l0]) ?_ k (s2v.2.1, 0, ([] : List UInt8), s2v.2.2.1, s2v.2.2.2.1, s2v.2.2.2.2, xp2_0) () ⟨rfl, rfl, rfl, rfl, rfl, rfl, trivial⟩ (.sel 0 rfl (.sel 0 rfl (.sel 0 rfl (.sel 0 rfl (.sel 0 rfl (.sel 0 rfl (.sel 0 rfl (.sel 0 rfl (.nil _)))))))))
 intro k s9v y10v
 refine sim_eq (by rw [kv_reader_pairs_s.l0]) ?_
 refine sim_seq (sr ?_)
 refine vm rfl rfl ?_
 refine vm rfl rfl ?_
 refine simL_valc (b := s9v.1) (fun hb31v => RQ.sub (E' := [(8, .int .i64 s9v.2.1)]) ⟨rfl, trivial⟩ (q_move rfl rfl)) rfl rfl rfl rfl rfl ?_
 refine simL_valc (b := s9v.1) (fun hb30v => RQ.sub (E' := [(5, .int .i64 s2v.1)]) ⟨rfl, trivial⟩ (q_move rfl rfl)) rfl rfl rfl rfl rfl ?_
 refine simL_valc (b := s9v.1) (fun hb29v => RQ.sub (E' := [(23, .int .i64 s9v.2.1), (24, .int .i64 s2v.1)]) ⟨lk_cv rfl hb29v, lk_cv rfl hb29v, trivial⟩ (q_lss rfl rfl rfl)) rfl rfl rfl rfl rfl ?_
 refine vq (q_and rfl rfl rfl) rfl (simL_nil (nrm_then ?_))
 refine sim_condb rfl (fun h18v => ?_) (fun h19v => ?_)
 refine sim_skip ?_
 refine nrm_then (sim_seq ?_)
 refine sim_block ?_
 refine sr ?_
 refine vq (q_load rfl rfl Tryz.isAgg72 (.obj 3 rfl rfl)) rfl ?_
 refine vq (q_mkfn rfl rfl rfl) rfl ?_
 refine vq (q_mkfn rfl rfl rfl) rfl ?_
 refine simL_bind (fun s20v hs21v => ?_)
 refine simL_eff (re_call (vs := [.pointer (some ⟨bp0, 0, none⟩), .func (.func 62) #[] #[.pointer (some ⟨b1v, 0, none⟩)], .func (.func 64) #[] #[.pointer (some ⟨b6v, 0, none⟩)], .int .i64 4]) (cap := []) (A := [obj bp1 125 [.slice ap1_0 xp1_0.length cp1_0, .int .i64 s9v.2.2.2.1, .int .i64 s9v.2.2.2.2.1], obj bp0 76 [.pointer (some ⟨bp1, 0, none⟩), .int .i64 s9v.2.2.2.2.2.1], obj b1v 72 [.pointer (some ⟨bp0, 0, none⟩)], obj b6v 9 [str s9v.2.2.1]]) (rst := [obj bp2 58 [.map (some mp2_0), .map (some mp2_1)], mapO mp2_0 enc9 enc9 s9v.2.2.2.2.2.2, mapO mp2_1 enc3 enc69 xp2_1, F]) rfl rfl rfl rfl rfl rfl Tryz.call61 (.sel 1 rfl (.sel 1 rfl (.sel 1 rfl (.sel 0 rfl (.sel 0 rfl (.sel 0 rfl (.sel 0 rfl (.sel 0 rfl (.nil _))))))))) (kv_is_string_kv_reader_pairs_2_kv_reader_pairs_3.calls _ _ k bp0 bp1 ap1_0 cp1_0 xp1_0 s9v.2.2.2.1 s9v.2.2.2.2.1 s9v.2.2.2.2.2.1 b1v b6v s9v.2.2.1 (4 : Int) (hp1_0.lend 3 rfl) hcp1_0 hmp1_0) hs21v) rfl rfl rfl ?_
 intro y22v
 refine vm rfl rfl ?_
 refine vq (q_ext rfl rfl rfl) rfl ?_
 refine vq (q_ext rfl rfl rfl) rfl ?_
 refine va rfl rfl ?_
 refine va rfl rfl (simL_nil (nrm_then (sim_seq (sr ?_))))
 refine vm rfl rfl ?_
 refine vq (q_not rfl rfl) rfl (simL_nil (nrm_then ?_))
 refine sim_condb rfl (fun h23v => ?_) (fun h24v => ?_)
 refine sr ?_
 refine va rfl rfl (simL_nil (nrm_then (sim_rtn ?_)))
 refine rtn_then ?_
 refine rtn_block ?_
 refine rtn_then ?_
 refine rtn_loop ?_
 refine rtn_block ?_
 refine rtn_cutR ?_
 exact rtn_fn (mp2_0, mp2_1) rfl rfl rfl (.sel 0 rfl (.sel 0 rfl (.sel 2 rfl (.sel 2 rfl (.sel 2 rfl (.sel 2 rfl (.nil _)))))))
 refine sim_skip ?_
 refine nrm_then (sr ?_)
 refine vm rfl rfl ?_
 refine simL_do (re_store 3 rfl rfl rfl Tryz.sizeOf9 rfl rfl (one_of (by rfl)) rfl rfl) rfl rfl ?_
 intro _
 refine simL_nil (nrm_then ?_)
 refine sim_bind (fun s25v hs26v => ?_)
 refine sim_draw (Γ := Unit) () [[], [0], [0, 1], [0, 1, 2], [], [], [], [5, 6], [5, 6, 7], [5, 6, 7, 8], [5, 6, 7, 8], rL 10, rL 12] [7, 11] [0, 1, 2, 3, 4, 5, 6, 8, 9, 10, 12] (fun i => [[0, 1], [0, 1], [0, 1], [0, 1], [0, 1], [0], [0], [], [1], [1], [1, 2], [], [2]].getD i []) (fun i => [[], [], [], [], [], [], [], rL 7, [], [], [], rL 11, []].getD i []) (fun γ i => [.pointer (some ⟨bp2, 0, none⟩), .pointer (some ⟨bp2, 0, none⟩), .pointer (some ⟨bp2, 0, none⟩), .map (some mp2_0), str s20v.1, .pointer (some ⟨bp0, 0, none⟩), .func (.func 65) #[] #[.pointer (some ⟨b1v, 0, none⟩)], .tuple #[str s25v.1, .bool s25v.2.1], .tuple #[str s25v.1, .bool s25v.2.1], str s25v.1, .bool s25v.2.1, undef, .bool s25v.2.1].getD i undef) (fun j γ => [[obj bp1 125 [.slice ap1_0 xp1_0.length cp1_0, .int .i64 s20v.2.2.1, .int .i64 s20v.2.2.2.1], obj bp0 76 [.pointer (some ⟨bp1, 0, none⟩), .int .i64 s20v.2.2.2.2], obj b1v 72 [.pointer (some ⟨bp0, 0, none⟩)], obj b6v 9 [str s20v.1], obj bp2 58 [.map (some mp2_0), .map (some mp2_1)], mapO mp2_0 enc9 enc9 s9v.2.2.2.2.2.2, mapO mp2_1 enc3 enc69 xp2_1, F], [obj bp1 125 [.slice ap1_0 xp1_0.length cp1_0, .int .i64 s25v.2.2.1, .int .i64 s25v.2.2.2.1], obj bp0 76 [.pointer (some ⟨bp1, 0, none⟩), .int .i64 s25v.2.2.2.2], obj b1v 72 [.pointer (some ⟨bp0, 0, none⟩)], obj b6v 9 [str s20v.1], obj bp2 58 [.map (some mp2_0), .map (some mp2_1)], mapO mp2_0 enc9 enc9 s9v.2.2.2.2.2.2, mapO mp2_1 enc3 enc69 xp2_1, F], [obj bp1 125 [.slice ap1_0 xp1_0.length cp1_0, .int .i64 s25v.2.2.1, .int .i64 s25v.2.2.2.1], obj bp0 76 [.pointer (some ⟨bp1, 0, none⟩), .int .i64 s25v.2.2.2.2], obj b1v 72 [.pointer (some ⟨bp0, 0, none⟩)], obj b6v 9 [str s20v.1], obj bp2 58 [.map (some mp2_0), .map (some mp2_1)], mapO mp2_0 enc9 enc9 (mput s9v.2.2.2.2.2.2 s20v.1 s25v.1), mapO mp2_1 enc3 enc69 xp2_1, F]].getD j []) (fun γ => [(1, .pointer (some ⟨bp2, 0, none⟩)), (2, .pointer (some ⟨b1v, 0, none⟩)), (5, .int .i64 s2v.1), (6, .bool s25v.2.1), (7, .pointer (some ⟨b6v, 0, none⟩)), (8, .int .i64 s9v.2.1), (23, cv (s9v.1 == true) (.int .i64 s9v.2.1)), (24, cv (s9v.1 == true) (.int .i64 s2v.1)), (25, cv (s9v.1 == true) (.bool (decide (s9v.2.1 < s2v.1))))]) mixed (by decide) (by decide) (by decide) (by decide) (by decide) (by decide) (by decide) 51 rfl (by decide) (by decide) (by decide) (Ent.refl _) ?_ ?_ (fun _ => ⟨rfl, rfl, rfl, rfl, rfl, rfl, rfl, rfl, rfl, trivial⟩) ?_
 exact (ac (fun γ => (ac (qm rfl (.o (s := 1) rfl (by decide) .nil) rfl) (ac (qm rfl (.o (s := 1) rfl (by decide) .nil) rfl) zA))) (ac (fun γ => (ac (qp rfl rfl (.v 0 rfl rfl .nil) (q_nil rfl rfl) rfl) (ac (qp rfl rfl (.v 0 rfl rfl .nil) (q_nil rfl rfl) rfl) zA))) (ac (fun γ => (ac (qp rfl rfl (.v 1 rfl rfl .nil) (q_fa rfl rfl Tryz.underlying58 rfl rfl Tryz.sizeOf55 rfl) rfl) (ac (qp rfl rfl (.v 1 rfl rfl .nil) (q_fa rfl rfl Tryz.underlying58 rfl rfl Tryz.sizeOf55 rfl) rfl) zA))) (ac (fun γ => (ac (qp rfl rfl (.v 2 rfl rfl .nil) (q_load rfl rfl Tryz.isAgg55 (.obj 4 rfl rfl)) rfl) (ac (qp rfl rfl (.v 2 rfl rfl .nil) (q_load rfl rfl Tryz.isAgg55 (.obj 4 rfl rfl)) rfl) zA))) (ac (fun γ => (ac (qm rfl (.o (s := 9) rfl (by decide) .nil) rfl) (ac (qm rfl (.o (s := 9) rfl (by decide) .nil) rfl) zA))) (aq rfl (fun γ => qp rfl rfl (.o (s := 2) rfl (by decide) .nil) (q_load rfl rfl Tryz.isAgg72 (.obj 2 rfl rfl)) rfl) (aq rfl (fun γ => qp rfl rfl (.o (s := 2) rfl (by decide) .nil) (q_mkfn rfl rfl rfl) rfl) (aq rfl (fun γ => qm rfl (.v 7 rfl rfl .nil) rfl) (aq rfl (fun γ => qp rfl rfl (.v 8 rfl rfl .nil) (q_ext rfl rfl rfl) rfl) (ac (fun γ => (ac (qp rfl rfl (.v 8 rfl rfl .nil) (q_ext rfl rfl rfl) rfl) (ac (qp rfl rfl (.v 8 rfl rfl .nil) (q_ext rfl rfl rfl) rfl) zA))) (aq rfl (fun γ => qp rfl rfl (.v 10 rfl rfl .nil) (q_asg rfl rfl) rfl) zA)))))))))))
 exact (ac (fun γ => eo (Z := Unit) (fun z => ()) rfl rfl (.v 5 rfl rfl (.v 6 rfl rfl .nil)) (re_call (vs := [.pointer (some ⟨bp0, 0, none⟩), .func (.func 65) #[] #[.pointer (some ⟨b1v, 0, none⟩)], .func (.func 66) #[] #[], .int .i64 0]) (cap := []) (A := [obj bp1 125 [.slice ap1_0 xp1_0.length cp1_0, .int .i64 s20v.2.2.1, .int .i64 s20v.2.2.2.1], obj bp0 76 [.pointer (some ⟨bp1, 0, none⟩), .int .i64 s20v.2.2.2.2], obj b1v 72 [.pointer (some ⟨bp0, 0, none⟩)]]) (rst := [obj b6v 9 [str s20v.1], obj bp2 58 [.map (some mp2_0), .map (some mp2_1)], mapO mp2_0 enc9 enc9 s9v.2.2.2.2.2.2, mapO mp2_1 enc3 enc69 xp2_1, F]) rfl rfl rfl rfl rfl rfl Tryz.call61 (.sel 0 rfl (.sel 0 rfl (.sel 0 rfl (.sel 0 rfl (.sel 0 rfl (.sel 0 rfl (.sel 0 rfl (.sel 0 rfl (.nil _))))))))) (kv_is_string_kv_reader_pairs_4_kv_reader_pairs_5.calls _ _ k bp0 bp1 ap1_0 cp1_0 xp1_0 s20v.2.2.1 s20v.2.2.2.1 s20v.2.2.2.2 b1v (0 : Int) (hp1_0.lend 4 rfl) hcp1_0 hmp1_0) hs26v) (fun _ => ⟨rfl, rfl, rfl, rfl, rfl, rfl, rfl, trivial⟩) (fun _ => .inr rfl) (fun z => Ent.refl _)) (ac (fun γ => eo (Z := Unit) (fun z => ()) rfl rfl (.v 3 rfl rfl (.v 4 rfl rfl (.v 9 rfl rfl .nil))) (re_mput (ek := enc9) (ev := enc9) 5 s20v.1 s25v.1 rfl rfl rfl rfl Tryz.underlying55 key9 rfl) (fun _ => ⟨rfl, rfl, rfl, rfl, rfl, rfl, rfl, rfl, rfl, rfl, rfl, trivial⟩) (fun _ => .inl rfl) (fun z => Ent.refl _)) zA))
 intro g28v
 refine nrm_block (nrm_then (sim_region ?_))
 refine vm rfl rfl ?_
 refine vq (q_add rfl rfl rfl) rfl ?_
 refine va rfl rfl (simL_nil ?_)
 exact nrm_again (s := (s25v.2.1, IntKind.i64.wrap (s9v.2.1 + 1), s20v.1, s25v.2.2.1, s25v.2.2.2.1, s25v.2.2.2.2, mput s9v.2.2.2.2.2.2 s20v.1 s25v.1)) () ⟨rfl, rfl, rfl, rfl, rfl, rfl, trivial⟩ (.sel 3 rfl (.sel 0 rfl (.sel 0 rfl (.sel 0 rfl (.sel 0 rfl (.sel 0 rfl (.sel 0 rfl (.sel 0 rfl (.nil _)))))))))
 refine sim_exi ?_
 refine exi_then ?_
 refine exi_loop ?_
 refine exi_here ?_
 exact nrm_cutR (s := (s9v.1, s9v.2.2.2.1, s9v.2.2.2.2.1, s9v.2.2.2.2.2.1, s9v.2.2.2.2.2.2)) () ⟨rfl, trivial⟩ (.sel 1 rfl (.sel 1 rfl (.sel 2 rfl (.sel 2 rfl (.sel 2 rfl (.sel 2 rfl (.nil _)))))))
 intro s7v y8v
 refine sr ?_
 refine vm rfl rfl ?_
 refine va rfl rfl (simL_nil (nrm_then (sim_rtn ?_)))
 exact rtn_fn (mp2_0, mp2_1) rfl rfl rfl (.sel 0 rfl (.sel 0 rfl (.sel 0 rfl (.sel 0 rfl (.sel 0 rfl (.sel 0 rfl (.nil _)))))))

def kv_is_int_wire_Reader_Int_kv_reader_clients_1.f (k : Nat) (xp1_0 : List UInt8) (xp1_1 : Int) (xp1_2 : Int) (xp0_1 : Int) (x3 : Int) : Option (Int × Bool × Int × Int × Int) := (wire_Reader_At.f xp1_0 xp1_1 xp1_2).bind fun s1v => ((wire_Reader_Int.f k xp1_0 xp1_1 xp1_2).bind fun s4v => ((wire_Reader_At.f xp1_0 s4v.2.1 s4v.2.2).bind fun s7v => (if s7v = s1v then ((wire_Reader_Done.f xp1_0 s4v.2.1 s4v.2.2).bind fun s12v => (some (s4v.1, decide (s12v = (0 : Int)), s4v.2.1, s4v.2.2, s12v))) else ((kv_reader_clients_1.f s4v.1).bind fun s16v => (if (!s16v) = true then (some (s4v.1, decide (x3 = (0 : Int)), s4v.2.1, s4v.2.2, x3)) else (some (s4v.1, decide (xp0_1 = (0 : Int)), s4v.2.1, s4v.2.2, xp0_1)))))))
theorem kv_is_int_wire_Reader_Int_kv_reader_clients_1.calls (W : World) (F : HA) (k : Nat) (bp0 : Nat) (bp1 : Nat) (ap1_0 : Option Addr) (cp1_0 : Nat) (xp1_0 : List UInt8) (xp1_1 : Int) (xp1_2 : Int) (xp0_1 : Int) (x3 : Int) (hp1_0 : Rd F ap1_0 (encB xp1_0)) (hcp1_0 : xp1_0.length ≤ cp1_0) (hmp1_0 : cp1_0 ≤ maxLen) :
    Fn Tryz.prog W 58 [.pointer (some ⟨bp0, 0, none⟩), .func (.func 59) #[.pointer (some ⟨bp1, 0, none⟩)] #[], .func (.func 67) #[] #[], .int .i64 x3] [obj bp1 125 [.slice ap1_0 xp1_0.length cp1_0, .int .i64 xp1_1, .int .i64 xp1_2], obj bp0 76 [.pointer (some ⟨bp1, 0, none⟩), .int .i64 xp0_1]] F (kv_is_int_wire_Reader_Int_kv_reader_clients_1.f k xp1_0 xp1_1 xp1_2 xp0_1 x3) (fun (r : Int × Bool × Int × Int × Int) (y : Unit) => .tuple #[.int .i64 r.1, .bool r.2.1]) (fun r y => [obj bp1 125 [.slice ap1_0 xp1_0.length cp1_0, .int .i64 r.2.2.1, .int .i64 r.2.2.2.1], obj bp0 76 [.pointer (some ⟨bp1, 0, none⟩), .int .i64 r.2.2.2.2]]) := by
 unfold kv_is_int_wire_Reader_Int_kv_reader_clients_1.f
 refine fn_intro 50 Tryz.func58 rfl Tryz.ntmps58 rfl ?_
 refine sr ?_
 refine va rfl rfl ?_
 refine va rfl rfl (nx ?_)
 refine vm rfl rfl ?_
 refine vn rfl rfl ?_
 refine vq (q_fa rfl rfl Tryz.underlying76 rfl rfl Tryz.sizeOf73 rfl) rfl ?_
 refine vq (q_load rfl rfl Tryz.isAgg73 (.obj 1 rfl rfl)) rfl ?_
 refine simL_bind (fun s1v hs2v => ?_)
 refine simL_eff (re_call (vs := [.pointer (some ⟨bp1, 0, none⟩)]) (cap := []) (A := [obj bp1 125 [.slice ap1_0 xp1_0.length cp1_0, .int .i64 xp1_1, .int .i64 xp1_2]]) (rst := [obj bp0 76 [.pointer (some ⟨bp1, 0, none⟩), .int .i64 xp0_1], F]) rfl rfl rfl rfl rfl rfl Tryz.call94 (.sel 0 rfl (.sel 0 rfl (.sel 0 rfl (.nil _)))) (wire_Reader_At.calls _ _ bp1 ap1_0 cp1_0 xp1_0 xp1_1 xp1_2 (hp1_0.lend 1 rfl) hcp1_0 hmp1_0) hs2v) rfl rfl rfl ?_
 intro y3v
 refine va rfl rfl (nx ?_)
 refine vm rfl rfl ?_
 refine simL_bind (fun s4v hs5v => ?_)
 refine simL_eff (re_callf (fst := [.pointer (some ⟨bp1, 0, none⟩)]) (vs := []) (cap := []) (A := [obj bp1 125 [.slice ap1_0 xp1_0.length cp1_0, .int .i64 xp1_1, .int .i64 xp1_2]]) (rst := [obj bp0 76 [.pointer (some ⟨bp1, 0, none⟩), .int .i64 xp0_1], F]) rfl rfl rfl rfl rfl rfl Tryz.call59 (.sel 0 rfl (.sel 0 rfl (.sel 0 rfl (.nil _)))) (wire_Reader_Int.calls _ _ k bp1 ap1_0 cp1_0 xp1_0 xp1_1 xp1_2 (hp1_0.lend 1 rfl) hcp1_0 hmp1_0) hs5v) rfl rfl rfl ?_
 intro y6v
 refine va rfl rfl (simL_nil (nrm_then (sim_seq ?_)))
 refine sim_block ?_
 refine sr ?_
 refine vm rfl rfl ?_
 refine vn rfl rfl ?_
 refine vq (q_fa rfl rfl Tryz.underlying76 rfl rfl Tryz.sizeOf73 rfl) rfl ?_
 refine vq (q_load rfl rfl Tryz.isAgg73 (.obj 1 rfl rfl)) rfl ?_
 refine simL_bind (fun s7v hs8v => ?_)
 refine simL_eff (re_call (vs := [.pointer (some ⟨bp1, 0, none⟩)]) (cap := []) (A := [obj bp1 125 [.slice ap1_0 xp1_0.length cp1_0, .int .i64 s4v.2.1, .int .i64 s4v.2.2]]) (rst := [obj bp0 76 [.pointer (some ⟨bp1, 0, none⟩), .int .i64 xp0_1], F]) rfl rfl rfl rfl rfl rfl Tryz.call94 (.sel 0 rfl (.sel 0 rfl (.sel 0 rfl (.nil _)))) (wire_Reader_At.calls _ _ bp1 ap1_0 cp1_0 xp1_0 s4v.2.1 s4v.2.2 (hp1_0.lend 1 rfl) hcp1_0 hmp1_0) hs8v) rfl rfl rfl ?_
 intro y9v
 refine vm rfl rfl ?_
 refine vq (q_eql rfl rfl rfl) rfl ?_
 refine va rfl rfl (simL_nil (nrm_then ?_))
 refine sim_cond rfl (fun h10v => ?_) (fun h11v => ?_)
 refine sim_region ?_
 refine vm rfl rfl ?_
 refine vm rfl rfl ?_
 refine vn rfl rfl ?_
 refine vq (q_fa rfl rfl Tryz.underlying76 rfl rfl Tryz.sizeOf73 rfl) rfl ?_
 refine vq (q_load rfl rfl Tryz.isAgg73 (.obj 1 rfl rfl)) rfl ?_
 refine simL_bind (fun s12v hs13v => ?_)
 refine simL_eff (re_call (vs := [.pointer (some ⟨bp1, 0, none⟩)]) (cap := []) (A := [obj bp1 125 [.slice ap1_0 xp1_0.length cp1_0, .int .i64 s4v.2.1, .int .i64 s4v.2.2]]) (rst := [obj bp0 76 [.pointer (some ⟨bp1, 0, none⟩), .int .i64 xp0_1], F]) rfl rfl rfl rfl rfl rfl Tryz.call33 (.sel 0 rfl (.sel 0 rfl (.sel 0 rfl (.nil _)))) (wire_Reader_Done.calls _ _ bp1 ap1_0 cp1_0 xp1_0 s4v.2.1 s4v.2.2 (hp1_0.lend 1 rfl) hcp1_0 hmp1_0) hs13v) rfl rfl rfl ?_
 intro y14v
 refine vn rfl rfl ?_
 refine vq (q_fa rfl rfl Tryz.underlying76 rfl rfl Tryz.sizeOf31 rfl) rfl ?_
 refine simL_do (re_store 1 rfl rfl rfl Tryz.sizeOf31 rfl rfl (one_of (by rfl)) rfl rfl) rfl rfl ?_
 intro _
 refine simL_nil (nrm_block (nrm_then (sim_seq ?_)))
 refine sim_draw (Γ := Unit) () [[], [], [1], [1, 2], [1, 2, 3], [1, 2, 3, 4], [0], rL 7] [] [0, 1, 2, 3, 4, 5, 6, 7] (fun i => [[0], [0], [0], [0], [0], [0], [0], [0]].getD i []) (fun i => [[], [], [], [], [], [], [], []].getD i []) (fun γ i => [.int .i64 s4v.1, .pointer (some ⟨bp0, 0, none⟩), .pointer (some ⟨bp0, 0, none⟩), .pointer (some ⟨bp0, 1, none⟩), .int .i64 s12v, .bool (decide (s12v = (0 : Int))), .int .i64 s4v.1, .bool (decide (s12v = (0 : Int)))].getD i undef) (fun j γ => [[obj bp1 125 [.slice ap1_0 xp1_0.length cp1_0, .int .i64 s4v.2.1, .int .i64 s4v.2.2], obj bp0 76 [.pointer (some ⟨bp1, 0, none⟩), .int .i64 s12v], F]].getD j []) (fun γ => [(8, .int .i64 s4v.1), (9, .bool (decide (s12v = (0 : Int))))]) mixed (by decide) (by decide) (by decide) (by decide) (by decide) (by decide) (by decide) 50 rfl (by decide) (by decide) (by decide) (Ent.refl _) ?_ ?_ (fun _ => ⟨rfl, rfl, trivial⟩) ?_
 exact (aq rfl (fun γ => qm rfl (.o (s := 11) rfl (by decide) .nil) rfl) (aq rfl (fun γ => qm rfl (.o (s := 0) rfl (by decide) .nil) rfl) (aq rfl (fun γ => qp rfl rfl (.v 1 rfl rfl .nil) (q_nil rfl rfl) rfl) (aq rfl (fun γ => qp rfl rfl (.v 2 rfl rfl .nil) (q_fa rfl rfl Tryz.underlying76 rfl rfl Tryz.sizeOf31 rfl) rfl) (aq rfl (fun γ => qp rfl rfl (.v 3 rfl rfl .nil) (q_load rfl rfl Tryz.isAgg31 (.obj 1 rfl rfl)) rfl) (aq rfl (fun γ => qp rfl rfl (.v 4 rfl rfl .nil) (q_eql rfl rfl rfl) rfl) (aq rfl (fun γ => qp rfl rfl (.v 0 rfl rfl .nil) (q_asg rfl rfl) rfl) (aq rfl (fun γ => qp rfl rfl (.v 5 rfl rfl .nil) (q_asg rfl rfl) rfl) zA))))))))
 exact zA
 intro g15v
 refine nrm_then (sim_rtn ?_)
 exact rtn_fn () rfl rfl rfl (.sel 0 rfl (.sel 0 rfl (.sel 0 rfl (.nil _))))
 refine sr ?_
 refine vm rfl rfl ?_
 refine vm rfl rfl ?_
 refine simL_bind (fun s16v hs17v => ?_)
 refine simL_eff (re_call (vs := [.int .i64 s4v.1]) (cap := []) (A := []) (rst := [obj bp1 125 [.slice ap1_0 xp1_0.length cp1_0, .int .i64 s4v.2.1, .int .i64 s4v.2.2], obj bp0 76 [.pointer (some ⟨bp1, 0, none⟩), .int .i64 xp0_1], F]) rfl rfl rfl rfl rfl rfl Tryz.call67 (.sel 0 rfl (.sel 0 rfl (.sel 0 rfl (.nil _)))) (kv_reader_clients_1.calls _ _ s4v.1 ) hs17v) rfl rfl rfl ?_
 intro y18v
 refine vq (q_not rfl rfl) rfl ?_
 refine va rfl rfl (simL_nil (nrm_then ?_))
 refine sim_condb rfl (fun h19v => ?_) (fun h20v => ?_)
 refine sim_region ?_
 refine vm rfl rfl ?_
 refine vm rfl rfl ?_
 refine vn rfl rfl ?_
 refine vq (q_fa rfl rfl Tryz.underlying76 rfl rfl Tryz.sizeOf31 rfl) rfl ?_
 refine simL_do (re_store 1 rfl rfl rfl Tryz.sizeOf31 rfl rfl (one_of (by rfl)) rfl rfl) rfl rfl ?_
 intro _
 refine simL_nil (nrm_block (nrm_then (sim_seq ?_)))
 refine sim_draw (Γ := Unit) () [[], [], [1], [1, 2], [1, 2, 3], [1, 2, 3, 4], [0], rL 7] [] [0, 1, 2, 3, 4, 5, 6, 7] (fun i => [[0], [0], [0], [0], [0], [0], [0], [0]].getD i []) (fun i => [[], [], [], [], [], [], [], []].getD i []) (fun γ i => [.int .i64 s4v.1, .pointer (some ⟨bp0, 0, none⟩), .pointer (some ⟨bp0, 0, none⟩), .pointer (some ⟨bp0, 1, none⟩), .int .i64 x3, .bool (decide (x3 = (0 : Int))), .int .i64 s4v.1, .bool (decide (x3 = (0 : Int)))].getD i undef) (fun j γ => [[obj bp1 125 [.slice ap1_0 xp1_0.length cp1_0, .int .i64 s4v.2.1, .int .i64 s4v.2.2], obj bp0 76 [.pointer (some ⟨bp1, 0, none⟩), .int .i64 x3], F]].getD j []) (fun γ => [(8, .int .i64 s4v.1), (9, .bool (decide (x3 = (0 : Int))))]) mixed (by decide) (by decide) (by decide) (by decide) (by decide) (by decide) (by decide) 50 rfl (by decide) (by decide) (by decide) (Ent.refl _) ?_ ?_ (fun _ => ⟨rfl, rfl, trivial⟩) ?_
 exact (aq rfl (fun γ => qm rfl (.o (s := 11) rfl (by decide) .nil) rfl) (aq rfl (fun γ => qm rfl (.o (s := 0) rfl (by decide) .nil) rfl) (aq rfl (fun γ => qp rfl rfl (.v 1 rfl rfl .nil) (q_nil rfl rfl) rfl) (aq rfl (fun γ => qp rfl rfl (.v 2 rfl rfl .nil) (q_fa rfl rfl Tryz.underlying76 rfl rfl Tryz.sizeOf31 rfl) rfl) (aq rfl (fun γ => qp rfl rfl (.v 3 rfl rfl .nil) (q_load rfl rfl Tryz.isAgg31 (.obj 1 rfl rfl)) rfl) (aq rfl (fun γ => qp rfl rfl (.v 4 rfl rfl .nil) (q_eql rfl rfl rfl) rfl) (aq rfl (fun γ => qp rfl rfl (.v 0 rfl rfl .nil) (q_asg rfl rfl) rfl) (aq rfl (fun γ => qp rfl rfl (.v 5 rfl rfl .nil) (q_asg rfl rfl) rfl) zA))))))))
 exact zA
 intro g21v
 refine nrm_then (sim_rtn ?_)
 exact rtn_fn () rfl rfl rfl (.sel 0 rfl (.sel 0 rfl (.sel 0 rfl (.nil _))))
 refine sim_skip ?_
 refine nrm_block (nrm_then (sim_seq ?_))
 refine sim_draw (Γ := Unit) () [[], [], [1], [1, 2], [1, 2, 3], [1, 2, 3, 4], [0], rL 7] [] [0, 1, 2, 3, 4, 5, 6, 7] (fun i => [[0], [0], [0], [0], [0], [0], [0], [0]].getD i []) (fun i => [[], [], [], [], [], [], [], []].getD i []) (fun γ i => [.int .i64 s4v.1, .pointer (some ⟨bp0, 0, none⟩), .pointer (some ⟨bp0, 0, none⟩), .pointer (some ⟨bp0, 1, none⟩), .int .i64 xp0_1, .bool (decide (xp0_1 = (0 : Int))), .int .i64 s4v.1, .bool (decide (xp0_1 = (0 : Int)))].getD i undef) (fun j γ => [[obj bp1 125 [.slice ap1_0 xp1_0.length cp1_0, .int .i64 s4v.2.1, .int .i64 s4v.2.2], obj bp0 76 [.pointer (some ⟨bp1, 0, none⟩), .int .i64 xp0_1], F]].getD j []) (fun γ => [(8, .int .i64 s4v.1), (9, .bool (decide (xp0_1 = (0 : Int))))]) mixed (by decide) (by decide) (by decide) (by decide) (by decide) (by decide) (by decide) 50 rfl (by decide) (by decide) (by decide) (Ent.refl _) ?_ ?_ (fun _ => ⟨rfl, rfl, trivial⟩) ?_
 exact (aq rfl (fun γ => qm rfl (.o (s := 11) rfl (by decide) .nil) rfl) (aq rfl (fun γ => qm rfl (.o (s := 0) rfl (by decide) .nil) rfl) (aq rfl (fun γ => qp rfl rfl (.v 1 rfl rfl .nil) (q_nil rfl rfl) rfl) (aq rfl (fun γ => qp rfl rfl (.v 2 rfl rfl .nil) (q_fa rfl rfl Tryz.underlying76 rfl rfl Tryz.sizeOf31 rfl) rfl) (aq rfl (fun γ => qp rfl rfl (.v 3 rfl rfl .nil) (q_load rfl rfl Tryz.isAgg31 (.obj 1 rfl rfl)) rfl) (aq rfl (fun γ => qp rfl rfl (.v 4 rfl rfl .nil) (q_eql rfl rfl rfl) rfl) (aq rfl (fun γ => qp rfl rfl (.v 0 rfl rfl .nil) (q_asg rfl rfl) rfl) (aq rfl (fun γ => qp rfl rfl (.v 5 rfl rfl .nil) (q_asg rfl rfl) rfl) zA))))))))
 exact zA
 intro g22v
 refine nrm_then (sim_rtn ?_)
 exact rtn_fn () rfl rfl rfl (.sel 0 rfl (.sel 0 rfl (.sel 0 rfl (.nil _))))

def kv_is_int_wire_Reader_Int_kv_reader_clients_2.f (k : Nat) (xp1_0 : List UInt8) (xp1_1 : Int) (xp1_2 : Int) (xp0_1 : Int) (xp2_0 : Int) (x3 : Int) : Option (Int × Bool × Int × Int × Int) := (wire_Reader_At.f xp1_0 xp1_1 xp1_2).bind fun s1v => ((wire_Reader_Int.f k xp1_0 xp1_1 xp1_2).bind fun s4v => ((wire_Reader_At.f xp1_0 s4v.2.1 s4v.2.2).bind fun s7v => (if s7v = s1v then ((wire_Reader_Done.f xp1_0 s4v.2.1 s4v.2.2).bind fun s12v => (some (s4v.1, decide (s12v = (0 : Int)), s4v.2.1, s4v.2.2, s12v))) else ((kv_reader_clients_2.f s4v.1 xp2_0).bind fun s16v => (if (!s16v) = true then (some (s4v.1, decide (x3 = (0 : Int)), s4v.2.1, s4v.2.2, x3)) else (some (s4v.1, decide (xp0_1 = (0 : Int)), s4v.2.1, s4v.2.2, xp0_1)))))))
theorem kv_is_int_wire_Reader_Int_kv_reader_clients_2.calls (W : World) (F : HA) (k : Nat) (bp0 : Nat) (bp1 : Nat) (ap1_0 : Option Addr) (cp1_0 : Nat) (xp1_0 : List UInt8) (xp1_1 : Int) (xp1_2 : Int) (xp0_1 : Int) (bp2 : Nat) (xp2_0 : Int) (x3 : Int) (hp1_0 : Rd F ap1_0 (encB xp1_0)) (hcp1_0 : xp1_0.length ≤ cp1_0) (hmp1_0 : cp1_0 ≤ maxLen) :
    Fn Tryz.prog W 58 [.pointer (some ⟨bp0, 0, none⟩), .func (.func 59) #[.pointer (some ⟨bp1, 0, none⟩)] #[], .func (.func 68) #[] #[.pointer (some ⟨bp2, 0, none⟩)], .int .i64 x3] [obj bp1 125 [.slice ap1_0 xp1_0.length cp1_0, .int .i64 xp1_1, .int .i64 xp1_2], obj bp0 76 [.pointer (some ⟨bp1, 0, none⟩), .int .i64 xp0_1], obj bp2 3 [.int .i64 xp2_0]] F (kv_is_int_wire_Reader_Int_kv_reader_clients_2.f k xp1_0 xp1_1 xp1_2 xp0_1 xp2_0 x3) (fun (r : Int × Bool × Int × Int × Int) (y : Unit) => .tuple #[.int .i64 r.1, .bool r.2.1]) (fun r y => [obj bp1 125 [.slice ap1_0 xp1_0.length cp1_0, .int .i64 r.2.2.1, .int .i64 r.2.2.2.1], obj bp0 76 [.pointer (some ⟨bp1, 0, none⟩), .int .i64 r.2.2.2.2], obj bp2 3 [.int .i64 xp2_0]]) := by
 unfold kv_is_int_wire_Reader_Int_kv_reader_clients_2.f
 refine fn_intro 50 Tryz.func58 rfl Tryz.ntmps58 rfl ?_
 refine sr ?_
 refine va rfl rfl ?_
 refine va rfl rfl (nx ?_)
 refine vm rfl rfl ?_
 refine vn rfl rfl ?_
 refine vq (q_fa rfl rfl Tryz.underlying76 rfl rfl Tryz.sizeOf73 rfl) rfl ?_
 refine vq (q_load rfl rfl Tryz.isAgg73 (.obj 1 rfl rfl)) rfl ?_
 refine simL_bind (fun s1v hs2v => ?_)
 refine simL_eff (re_call (vs := [.pointer (some ⟨bp1, 0, none⟩)]) (cap := []) (A := [obj bp1 125 [.slice ap1_0 xp1_0.length cp1_0, .int .i64 xp1_1, .int .i64 xp1_2]]) (rst := [obj bp0 76 [.pointer (some ⟨bp1, 0, none⟩), .int .i64 xp0_1], obj bp2 3 [.int .i64 xp2_0], F]) rfl rfl rfl rfl rfl rfl Tryz.call94 (.sel 0 rfl (.sel 0 rfl (.sel 0 rfl (.sel 0 rfl (.nil _))))) (wire_Reader_At.calls _ _ bp1 ap1_0 cp1_0 xp1_0 xp1_1 xp1_2 (hp1_0.lend 2 rfl) hcp1_0 hmp1_0) hs2v) rfl rfl rfl ?_
 intro y3v
 refine va rfl rfl (nx ?_)
 refine vm rfl rfl ?_
 refine simL_bind (fun s4v hs5v => ?_)
 refine simL_eff (re_callf (fst := [.pointer (some ⟨bp1, 0, none⟩)]) (vs := []) (cap := []) (A := [obj bp1 125 [.slice ap1_0 xp1_0.length cp1_0, .int .i64 xp1_1, .int .i64 xp1_2]]) (rst := [obj bp0 76 [.pointer (some ⟨bp1, 0, none⟩), .int .i64 xp0_1], obj bp2 3 [.int .i64 xp2_0], F]) rfl rfl rfl rfl rfl rfl Tryz.call59 (.sel 0 rfl (.sel 0 rfl (.sel 0 rfl (.sel 0 rfl (.nil _))))) (wire_Reader_Int.calls _ _ k bp1 ap1_0 cp1_0 xp1_0 xp1_1 xp1_2 (hp1_0.lend 2 rfl) hcp1_0 hmp1_0) hs5v) rfl rfl rfl ?_
 intro y6v
 refine va rfl rfl (simL_nil (nrm_then (sim_seq ?_)))
 refine sim_block ?_
 refine sr ?_
 refine vm rfl rfl ?_
 refine vn rfl rfl ?_
 refine vq (q_fa rfl rfl Tryz.underlying76 rfl rfl Tryz.sizeOf73 rfl) rfl ?_
 refine vq (q_load rfl rfl Tryz.isAgg73 (.obj 1 rfl rfl)) rfl ?_
 refine simL_bind (fun s7v hs8v => ?_)
 refine simL_eff (re_call (vs := [.pointer (some ⟨bp1, 0, none⟩)]) (cap := []) (A := [obj bp1 125 [.slice ap1_0 xp1_0.length cp1_0, .int .i64 s4v.2.1, .int .i64 s4v.2.2]]) (rst := [obj bp0 76 [.pointer (some ⟨bp1, 0, none⟩), .int .i64 xp0_1], obj bp2 3 [.int .i64 xp2_0], F]) rfl rfl rfl rfl rfl rfl Tryz.call94 (.sel 0 rfl (.sel 0 rfl (.sel 0 rfl (.sel 0 rfl (.nil _))))) (wire_Reader_At.calls _ _ bp1 ap1_0 cp1_0 xp1_0 s4v.2.1 s4v.2.2 (hp1_0.lend 2 rfl) hcp1_0 hmp1_0) hs8v) rfl rfl rfl ?_
 intro y9v
 refine vm rfl rfl ?_
 refine vq (q_eql rfl rfl rfl) rfl ?_
 refine va rfl rfl (simL_nil (nrm_then ?_))
 refine sim_cond rfl (fun h10v => ?_) (fun h11v => ?_)
 refine sim_region ?_
 refine vm rfl rfl ?_
 refine vm rfl rfl ?_
 refine vn rfl rfl ?_
 refine vq (q_fa rfl rfl Tryz.underlying76 rfl rfl Tryz.sizeOf73 rfl) rfl ?_
 refine vq (q_load rfl rfl Tryz.isAgg73 (.obj 1 rfl rfl)) rfl ?_
 refine simL_bind (fun s12v hs13v => ?_)
 refine simL_eff (re_call (vs := [.pointer (some ⟨bp1, 0, none⟩)]) (cap := []) (A := [obj bp1 125 [.slice ap1_0 xp1_0.length cp1_0, .int .i64 s4v.2.1, .int .i64 s4v.2.2]]) (rst := [obj bp0 76 [.pointer (some ⟨bp1, 0, none⟩), .int .i64 xp0_1], obj bp2 3 [.int .i64 xp2_0], F]) rfl rfl rfl rfl rfl rfl Tryz.call33 (.sel 0 rfl (.sel 0 rfl (.sel 0 rfl (.sel 0 rfl (.nil _))))) (wire_Reader_Done.calls _ _ bp1 ap1_0 cp1_0 xp1_0 s4v.2.1 s4v.2.2 (hp1_0.lend 2 rfl) hcp1_0 hmp1_0) hs13v) rfl rfl rfl ?_
 intro y14v
 refine vn rfl rfl ?_
 refine vq (q_fa rfl rfl Tryz.underlying76 rfl rfl Tryz.sizeOf31 rfl) rfl ?_
 refine simL_do (re_store 1 rfl rfl rfl Tryz.sizeOf31 rfl rfl (one_of (by rfl)) rfl rfl) rfl rfl ?_
 intro _
 refine simL_nil (nrm_block (nrm_then (sim_seq ?_)))
 refine sim_draw (Γ := Unit) () [[], [], [1], [1, 2], [1, 2, 3], [1, 2, 3, 4], [0], rL 7] [] [0, 1, 2, 3, 4, 5, 6, 7] (fun i => [[0], [0], [0], [0], [0], [0], [0], [0]].getD i []) (fun i => [[], [], [], [], [], [], [], []].getD i []) (fun γ i => [.int .i64 s4v.1, .pointer (some ⟨bp0, 0, none⟩), .pointer (some ⟨bp0, 0, none⟩), .pointer (some ⟨bp0, 1, none⟩), .int .i64 s12v, .bool (decide (s12v = (0 : Int))), .int .i64 s4v.1, .bool (decide (s12v = (0 : Int)))].getD i undef) (fun j γ => [[obj bp1 125 [.slice ap1_0 xp1_0.length cp1_0, .int .i64 s4v.2.1, .int .i64 s4v.2.2], obj bp0 76 [.pointer (some ⟨bp1, 0, none⟩), .int .i64 s12v], obj bp2 3 [.int .i64 xp2_0], F]].getD j []) (fun γ => [(8, .int .i64 s4v.1), (9, .bool (decide (s12v = (0 : Int))))]) mixed (by decide) (by decide) (by decide) (by decide) (by decide) (by decide) (by decide) 50 rfl (by decide) (by decide) (by decide) (Ent.refl _) ?_ ?_ (fun _ => ⟨rfl, rfl, trivial⟩) ?_
 exact (aq rfl (fun γ => qm rfl (.o (s := 11) rfl (by decide) .nil) rfl) (aq rfl (fun γ => qm rfl (.o (s := 0) rfl (by decide) .nil) rfl) (aq rfl (fun γ => qp rfl rfl (.v 1 rfl rfl .nil) (q_nil rfl rfl) rfl) (aq rfl (fun γ => qp rfl rfl (.v 2 rfl rfl .nil) (q_fa rfl rfl Tryz.underlying76 rfl rfl Tryz.sizeOf31 rfl) rfl) (aq rfl (fun γ => qp rfl rfl (.v 3 rfl rfl .nil) (q_load rfl rfl Tryz.isAgg31 (.obj 1 rfl rfl)) rfl) (aq rfl (fun γ => qp rfl rfl (.v 4 rfl rfl .nil) (q_eql rfl rfl rfl) rfl) (aq rfl (fun γ => qp rfl rfl (.v 0 rfl rfl .nil) (q_asg rfl rfl) rfl) (aq rfl (fun γ => qp rfl rfl (.v 5 rfl rfl .nil) (q_asg rfl rfl) rfl) zA))))))))
 exact zA
 intro g15v
 refine nrm_then (sim_rtn ?_)
 exact rtn_fn () rfl rfl rfl (.sel 0 rfl (.sel 0 rfl (.sel 0 rfl (.sel 0 rfl (.nil _)))))
 refine sr ?_
 refine vm rfl rfl ?_
 refine vm rfl rfl ?_
 refine simL_bind (fun s16v hs17v => ?_)
 refine simL_eff (re_call (vs := [.int .i64 s4v.1]) (cap := [.pointer (some ⟨bp2, 0, none⟩)]) (A := [obj bp2 3 [.int .i64 xp2_0]]) (rst := [obj bp1 125 [.slice ap1_0 xp1_0.length cp1_0, .int .i64 s4v.2.1, .int .i64 s4v.2.2], obj bp0 76 [.pointer (some ⟨bp1, 0, none⟩), .int .i64 xp0_1], F]) rfl rfl rfl rfl rfl rfl Tryz.call68 (.sel 2 rfl (.sel 0 rfl (.sel 0 rfl (.sel 0 rfl (.nil _))))) (kv_reader_clients_2.calls _ _ s4v.1 bp2 xp2_0 ) hs17v) rfl rfl rfl ?_
 intro y18v
 refine vq (q_not rfl rfl) rfl ?_
 refine va rfl rfl (simL_nil (nrm_then ?_))
 refine sim_condb rfl (fun h19v => ?_) (fun h20v => ?_)
 refine sim_region ?_
 refine vm rfl rfl ?_
 refine vm rfl rfl ?_
 refine vn rfl rfl ?_
 refine vq (q_fa rfl rfl Tryz.underlying76 rfl rfl Tryz.sizeOf31 rfl) rfl ?_
 refine simL_do (re_store 2 rfl rfl rfl Tryz.sizeOf31 rfl rfl (one_of (by rfl)) rfl rfl) rfl rfl ?_
 intro _
 refine simL_nil (nrm_block (nrm_then (sim_seq ?_)))
 refine sim_draw (Γ := Unit) () [[], [], [1], [1, 2], [1, 2, 3], [1, 2, 3, 4], [0], rL 7] [] [0, 1, 2, 3, 4, 5, 6, 7] (fun i => [[0], [0], [0], [0], [0], [0], [0], [0]].getD i []) (fun i => [[], [], [], [], [], [], [], []].getD i []) (fun γ i => [.int .i64 s4v.1, .pointer (some ⟨bp0, 0, none⟩), .pointer (some ⟨bp0, 0, none⟩), .pointer (some ⟨bp0, 1, none⟩), .int .i64 x3, .bool (decide (x3 = (0 : Int))), .int .i64 s4v.1, .bool (decide (x3 = (0 : Int)))].getD i undef) (fun j γ => [[obj bp2 3 [.int .i64 xp2_0], obj bp1 125 [.slice ap1_0 xp1_0.length cp1_0, .int .i64 s4v.2.1, .int .i64 s4v.2.2], obj bp0 76 [.pointer (some ⟨bp1, 0, none⟩), .int .i64 x3], F]].getD j []) (fun γ => [(8, .int .i64 s4v.1), (9, .bool (decide (x3 = (0 : Int))))]) mixed (by decide) (by decide) (by decide) (by decide) (by decide) (by decide) (by decide) 50 rfl (by decide) (by decide) (by decide) (Ent.refl _) ?_ ?_ (fun _ => ⟨rfl, rfl, trivial⟩) ?_
 exact (aq rfl (fun γ => qm rfl (.o (s := 11) rfl (by decide) .nil) rfl) (aq rfl (fun γ => qm rfl (.o (s := 0) rfl (by decide) .nil) rfl) (aq rfl (fun γ => qp rfl rfl (.v 1 rfl rfl .nil) (q_nil rfl rfl) rfl) (aq rfl (fun γ => qp rfl rfl (.v 2 rfl rfl .nil) (q_fa rfl rfl Tryz.underlying76 rfl rfl Tryz.sizeOf31 rfl) rfl) (aq rfl (fun γ => qp rfl rfl (.v 3 rfl rfl .nil) (q_load rfl rfl Tryz.isAgg31 (.obj 2 rfl rfl)) rfl) (aq rfl (fun γ => qp rfl rfl (.v 4 rfl rfl .nil) (q_eql rfl rfl rfl) rfl) (aq rfl (fun γ => qp rfl rfl (.v 0 rfl rfl .nil) (q_asg rfl rfl) rfl) (aq rfl (fun γ => qp rfl rfl (.v 5 rfl rfl .nil) (q_asg rfl rfl) rfl) zA))))))))
 exact zA
 intro g21v
 refine nrm_then (sim_rtn ?_)
 exact rtn_fn () rfl rfl rfl (.sel 1 rfl (.sel 1 rfl (.sel 0 rfl (.sel 0 rfl (.nil _)))))
 refine sim_skip ?_
 refine nrm_block (nrm_then (sim_seq ?_))
 refine sim_draw (Γ := Unit) () [[], [], [1], [1, 2], [1, 2, 3], [1, 2, 3, 4], [0], rL 7] [] [0, 1, 2, 3, 4, 5, 6, 7] (fun i => [[0], [0], [0], [0], [0], [0], [0], [0]].getD i []) (fun i => [[], [], [], [], [], [], [], []].getD i []) (fun γ i => [.int .i64 s4v.1, .pointer (some ⟨bp0, 0, none⟩), .pointer (some ⟨bp0, 0, none⟩), .pointer (some ⟨bp0, 1, none⟩), .int .i64 xp0_1, .bool (decide (xp0_1 = (0 : Int))), .int .i64 s4v.1, .bool (decide (xp0_1 = (0 : Int)))].getD i undef) (fun j γ => [[obj bp2 3 [.int .i64 xp2_0], obj bp1 125 [.slice ap1_0 xp1_0.length cp1_0, .int .i64 s4v.2.1, .int .i64 s4v.2.2], obj bp0 76 [.pointer (some ⟨bp1, 0, none⟩), .int .i64 xp0_1], F]].getD j []) (fun γ => [(8, .int .i64 s4v.1), (9, .bool (decide (xp0_1 = (0 : Int))))]) mixed (by decide) (by decide) (by decide) (by decide) (by decide) (by decide) (by decide) 50 rfl (by decide) (by decide) (by decide) (Ent.refl _) ?_ ?_ (fun _ => ⟨rfl, rfl, trivial⟩) ?_
 exact (aq rfl (fun γ => qm rfl (.o (s := 11) rfl (by decide) .nil) rfl) (aq rfl (fun γ => qm rfl (.o (s := 0) rfl (by decide) .nil) rfl) (aq rfl (fun γ => qp rfl rfl (.v 1 rfl rfl .nil) (q_nil rfl rfl) rfl) (aq rfl (fun γ => qp rfl rfl (.v 2 rfl rfl .nil) (q_fa rfl rfl Tryz.underlying76 rfl rfl Tryz.sizeOf31 rfl) rfl) (aq rfl (fun γ => qp rfl rfl (.v 3 rfl rfl .nil) (q_load rfl rfl Tryz.isAgg31 (.obj 2 rfl rfl)) rfl) (aq rfl (fun γ => qp rfl rfl (.v 4 rfl rfl .nil) (q_eql rfl rfl rfl) rfl) (aq rfl (fun γ => qp rfl rfl (.v 0 rfl rfl .nil) (q_asg rfl rfl) rfl) (aq rfl (fun γ => qp rfl rfl (.v 5 rfl rfl .nil) (q_asg rfl rfl) rfl) zA))))))))
 exact zA
 intro g22v
 refine nrm_then (sim_rtn ?_)
 exact rtn_fn () rfl rfl rfl (.sel 1 rfl (.sel 1 rfl (.sel 0 rfl (.sel 0 rfl (.nil _)))))

def kv_is_int_wire_Reader_Int_kv_reader_clients_3.f (k : Nat) (xp1_0 : List UInt8) (xp1_1 : Int) (xp1_2 : Int) (xp0_1 : Int) (x3 : Int) : Option (Int × Bool × Int × Int × Int) := (wire_Reader_At.f xp1_0 xp1_1 xp1_2).bind fun s1v => ((wire_Reader_Int.f k xp1_0 xp1_1 xp1_2).bind fun s4v => ((wire_Reader_At.f xp1_0 s4v.2.1 s4v.2.2).bind fun s7v => (if s7v = s1v then ((wire_Reader_Done.f xp1_0 s4v.2.1 s4v.2.2).bind fun s12v => (some (s4v.1, decide (s12v = (0 : Int)), s4v.2.1, s4v.2.2, s12v))) else ((kv_reader_clients_3.f s4v.1).bind fun s16v => (if (!s16v) = true then (some (s4v.1, decide (x3 = (0 : Int)), s4v.2.1, s4v.2.2, x3)) else (some (s4v.1, decide (xp0_1 = (0 : Int)), s4v.2.1, s4v.2.2, xp0_1)))))))
theorem kv_is_int_wire_Reader_Int_kv_reader_clients_3.calls (W : World) (F : HA) (k : Nat) (bp0 : Nat) (bp1 : Nat) (ap1_0 : Option Addr) (cp1_0 : Nat) (xp1_0 : List UInt8) (xp1_1 : Int) (xp1_2 : Int) (xp0_1 : Int) (x3 : Int) (hp1_0 : Rd F ap1_0 (encB xp1_0)) (hcp1_0 : xp1_0.length ≤ cp1_0) (hmp1_0 : cp1_0 ≤ maxLen) :
    Fn Tryz.prog W 58 [.pointer (some ⟨bp0, 0, none⟩), .func (.func 59) #[.pointer (some ⟨bp1, 0, none⟩)] #[], .func (.func 69) #[] #[], .int .i64 x3] [obj bp1 125 [.slice ap1_0 xp1_0.length cp1_0, .int .i64 xp1_1, .int .i64 xp1_2], obj bp0 76 [.pointer (some ⟨bp1, 0, none⟩), .int .i64 xp0_1]] F (kv_is_int_wire_Reader_Int_kv_reader_clients_3.f k xp1_0 xp1_1 xp1_2 xp0_1 x3) (fun (r : Int × Bool × Int × Int × Int) (y : Unit) => .tuple #[.int .i64 r.1, .bool r.2.1]) (fun r y => [obj bp1 125 [.slice ap1_0 xp1_0.length cp1_0, .int .i64 r.2.2.1, .int .i64 r.2.2.2.1], obj bp0 76 [.pointer (some ⟨bp1, 0, none⟩), .int .i64 r.2.2.2.2]]) := by
 unfold kv_is_int_wire_Reader_Int_kv_reader_clients_3.f
 refine fn_intro 50 Tryz.func58 rfl Tryz.ntmps58 rfl ?_
 refine sr ?_
 refine va rfl rfl ?_
 refine va rfl rfl (nx ?_)
 refine vm rfl rfl ?_
 refine vn rfl rfl ?_
 refine vq (q_fa rfl rfl Tryz.underlying76 rfl rfl Tryz.sizeOf73 rfl) rfl ?_
 refine vq (q_load rfl rfl Tryz.isAgg73 (.obj 1 rfl rfl)) rfl ?_
 refine simL_bind (fun s1v hs2v => ?_)
 refine simL_eff (re_call (vs := [.pointer (some ⟨bp1, 0, none⟩)]) (cap := []) (A := [obj bp1 125 [.slice ap1_0 xp1_0.length cp1_0, .int .i64 xp1_1, .int .i64 xp1_2]]) (rst := [obj bp0 76 [.pointer (some ⟨bp1, 0, none⟩), .int .i64 xp0_1], F]) rfl rfl rfl rfl rfl rfl Tryz.call94 (.sel 0 rfl (.sel 0 rfl (.sel 0 rfl (.nil _)))) (wire_Reader_At.calls _ _ bp1 ap1_0 cp1_0 xp1_0 xp1_1 xp1_2 (hp1_0.lend 1 rfl) hcp1_0 hmp1_0) hs2v) rfl rfl rfl ?_
 intro y3v
 refine va rfl rfl (nx ?_)
 refine vm rfl rfl ?_
 refine simL_bind (fun s4v hs5v => ?_)
 refine simL_eff (re_callf (fst := [.pointer (some ⟨bp1, 0, none⟩)]) (vs := []) (cap := []) (A := [obj bp1 125 [.slice ap1_0 xp1_0.length cp1_0, .int .i64 xp1_1, .int .i64 xp1_2]]) (rst := [obj bp0 76 [.pointer (some ⟨bp1, 0, none⟩), .int .i64 xp0_1], F]) rfl rfl rfl rfl rfl rfl Tryz.call59 (.sel 0 rfl (.sel 0 rfl (.sel 0 rfl (.nil _)))) (wire_Reader_Int.calls _ _ k bp1 ap1_0 cp1_0 xp1_0 xp1_1 xp1_2 (hp1_0.lend 1 rfl) hcp1_0 hmp1_0) hs5v) rfl rfl rfl ?_
 intro y6v
 refine va rfl rfl (simL_nil (nrm_then (sim_seq ?_)))
 refine sim_block ?_
 refine sr ?_
 refine vm rfl rfl ?_
 refine vn rfl rfl ?_
 refine vq (q_fa rfl rfl Tryz.underlying76 rfl rfl Tryz.sizeOf73 rfl) rfl ?_
 refine vq (q_load rfl rfl Tryz.isAgg73 (.obj 1 rfl rfl)) rfl ?_
 refine simL_bind (fun s7v hs8v => ?_)
 refine simL_eff (re_call (vs := [.pointer (some ⟨bp1, 0, none⟩)]) (cap := []) (A := [obj bp1 125 [.slice ap1_0 xp1_0.length cp1_0, .int .i64 s4v.2.1, .int .i64 s4v.2.2]]) (rst := [obj bp0 76 [.pointer (some ⟨bp1, 0, none⟩), .int .i64 xp0_1], F]) rfl rfl rfl rfl rfl rfl Tryz.call94 (.sel 0 rfl (.sel 0 rfl (.sel 0 rfl (.nil _)))) (wire_Reader_At.calls _ _ bp1 ap1_0 cp1_0 xp1_0 s4v.2.1 s4v.2.2 (hp1_0.lend 1 rfl) hcp1_0 hmp1_0) hs8v) rfl rfl rfl ?_
 intro y9v
 refine vm rfl rfl ?_
 refine vq (q_eql rfl rfl rfl) rfl ?_
 refine va rfl rfl (simL_nil (nrm_then ?_))
 refine sim_cond rfl (fun h10v => ?_) (fun h11v => ?_)
 refine sim_region ?_
 refine vm rfl rfl ?_
 refine vm rfl rfl ?_
 refine vn rfl rfl ?_
 refine vq (q_fa rfl rfl Tryz.underlying76 rfl rfl Tryz.sizeOf73 rfl) rfl ?_
 refine vq (q_load rfl rfl Tryz.isAgg73 (.obj 1 rfl rfl)) rfl ?_
 refine simL_bind (fun s12v hs13v => ?_)
 refine simL_eff (re_call (vs := [.pointer (some ⟨bp1, 0, none⟩)]) (cap := []) (A := [obj bp1 125 [.slice ap1_0 xp1_0.length cp1_0, .int .i64 s4v.2.1, .int .i64 s4v.2.2]]) (rst := [obj bp0 76 [.pointer (some ⟨bp1, 0, none⟩), .int .i64 xp0_1], F]) rfl rfl rfl rfl rfl rfl Tryz.call33 (.sel 0 rfl (.sel 0 rfl (.sel 0 rfl (.nil _)))) (wire_Reader_Done.calls _ _ bp1 ap1_0 cp1_0 xp1_0 s4v.2.1 s4v.2.2 (hp1_0.lend 1 rfl) hcp1_0 hmp1_0) hs13v) rfl rfl rfl ?_
 intro y14v
 refine vn rfl rfl ?_
 refine vq (q_fa rfl rfl Tryz.underlying76 rfl rfl Tryz.sizeOf31 rfl) rfl ?_
 refine simL_do (re_store 1 rfl rfl rfl Tryz.sizeOf31 rfl rfl (one_of (by rfl)) rfl rfl) rfl rfl ?_
 intro _
 refine simL_nil (nrm_block (nrm_then (sim_seq ?_)))
 refine sim_draw (Γ := Unit) () [[], [], [1], [1, 2], [1, 2, 3], [1, 2, 3, 4], [0], rL 7] [] [0, 1, 2, 3, 4, 5, 6, 7] (fun i => [[0], [0], [0], [0], [0], [0], [0], [0]].getD i []) (fun i => [[], [], [], [], [], [], [], []].getD i []) (fun γ i => [.int .i64 s4v.1, .pointer (some ⟨bp0, 0, none⟩), .pointer (some ⟨bp0, 0, none⟩), .pointer (some ⟨bp0, 1, none⟩), .int .i64 s12v, .bool (decide (s12v = (0 : Int))), .int .i64 s4v.1, .bool (decide (s12v = (0 : Int)))].getD i undef) (fun j γ => [[obj bp1 125 [.slice ap1_0 xp1_0.length cp1_0, .int .i64 s4v.2.1, .int .i64 s4v.2.2], obj bp0 76 [.pointer (some ⟨bp1, 0, none⟩), .int .i64 s12v], F]].getD j []) (fun γ => [(8, .int .i64 s4v.1), (9, .bool (decide (s12v = (0 : Int))))]) mixed (by decide) (by decide) (by decide) (by decide) (by decide) (by decide) (by decide) 50 rfl (by decide) (by decide) (by decide) (Ent.refl _) ?_ ?_ (fun _ => ⟨rfl, rfl, trivial⟩) ?_
 exact (aq rfl (fun γ => qm rfl (.o (s := 11) rfl (by decide) .nil) rfl) (aq rfl (fun γ => qm rfl (.o (s := 0) rfl (by decide) .nil) rfl) (aq rfl (fun γ => qp rfl rfl (.v 1 rfl rfl .nil) (q_nil rfl rfl) rfl) (aq rfl (fun γ => qp rfl rfl (.v 2 rfl rfl .nil) (q_fa rfl rfl Tryz.underlying76 rfl rfl Tryz.sizeOf31 rfl) rfl) (aq rfl (fun γ => qp rfl rfl (.v 3 rfl rfl .nil) (q_load rfl rfl Tryz.isAgg31 (.obj 1 rfl rfl)) rfl) (aq rfl (fun γ => qp rfl rfl (.v 4 rfl rfl .nil) (q_eql rfl rfl rfl) rfl) (aq rfl (fun γ => qp rfl rfl (.v 0 rfl rfl .nil) (q_asg rfl rfl) rfl) (aq rfl (fun γ => qp rfl rfl (.v 5 rfl rfl .nil) (q_asg rfl rfl) rfl) zA))))))))
 exact zA
 intro g15v
 refine nrm_then (sim_rtn ?_)
 exact rtn_fn () rfl rfl rfl (.sel 0 rfl (.sel 0 rfl (.sel 0 rfl (.nil _))))
 refine sr ?_
 refine vm rfl rfl ?_
 refine vm rfl rfl ?_
 refine simL_bind (fun s16v hs17v => ?_)
 refine simL_eff (re_call (vs := [.int .i64 s4v.1]) (cap := []) (A := []) (rst := [obj bp1 125 [.slice ap1_0 xp1_0.length cp1_0, .int .i64 s4v.2.1, .int .i64 s4v.2.2], obj bp0 76 [.pointer (some ⟨bp1, 0, none⟩), .int .i64 xp0_1], F]) rfl rfl rfl rfl rfl rfl Tryz.call69 (.sel 0 rfl (.sel 0 rfl (.sel 0 rfl (.nil _)))) (kv_reader_clients_3.calls _ _ s4v.1 ) hs17v) rfl rfl rfl ?_
 intro y18v
 refine vq (q_not rfl rfl) rfl ?_
 refine va rfl rfl (simL_nil (nrm_then ?_))
 refine sim_condb rfl (fun h19v => ?_) (fun h20v => ?_)
 refine sim_region ?_
 refine vm rfl rfl ?_
 refine vm rfl rfl ?_
 refine vn rfl rfl ?_
 refine vq (q_fa rfl rfl Tryz.underlying76 rfl rfl Tryz.sizeOf31 rfl) rfl ?_
 refine simL_do (re_store 1 rfl rfl rfl Tryz.sizeOf31 rfl rfl (one_of (by rfl)) rfl rfl) rfl rfl ?_
 intro _
 refine simL_nil (nrm_block (nrm_then (sim_seq ?_)))
 refine sim_draw (Γ := Unit) () [[], [], [1], [1, 2], [1, 2, 3], [1, 2, 3, 4], [0], rL 7] [] [0, 1, 2, 3, 4, 5, 6, 7] (fun i => [[0], [0], [0], [0], [0], [0], [0], [0]].getD i []) (fun i => [[], [], [], [], [], [], [], []].getD i []) (fun γ i => [.int .i64 s4v.1, .pointer (some ⟨bp0, 0, none⟩), .pointer (some ⟨bp0, 0, none⟩), .pointer (some ⟨bp0, 1, none⟩), .int .i64 x3, .bool (decide (x3 = (0 : Int))), .int .i64 s4v.1, .bool (decide (x3 = (0 : Int)))].getD i undef) (fun j γ => [[obj bp1 125 [.slice ap1_0 xp1_0.length cp1_0, .int .i64 s4v.2.1, .int .i64 s4v.2.2], obj bp0 76 [.pointer (some ⟨bp1, 0, none⟩), .int .i64 x3], F]].getD j []) (fun γ => [(8, .int .i64 s4v.1), (9, .bool (decide (x3 = (0 : Int))))]) mixed (by decide) (by decide) (by decide) (by decide) (by decide) (by decide) (by decide) 50 rfl (by decide) (by decide) (by decide) (Ent.refl _) ?_ ?_ (fun _ => ⟨rfl, rfl, trivial⟩) ?_
 exact (aq rfl (fun γ => qm rfl (.o (s := 11) rfl (by decide) .nil) rfl) (aq rfl (fun γ => qm rfl (.o (s := 0) rfl (by decide) .nil) rfl) (aq rfl (fun γ => qp rfl rfl (.v 1 rfl rfl .nil) (q_nil rfl rfl) rfl) (aq rfl (fun γ => qp rfl rfl (.v 2 rfl rfl .nil) (q_fa rfl rfl Tryz.underlying76 rfl rfl Tryz.sizeOf31 rfl) rfl) (aq rfl (fun γ => qp rfl rfl (.v 3 rfl rfl .nil) (q_load rfl rfl Tryz.isAgg31 (.obj 1 rfl rfl)) rfl) (aq rfl (fun γ => qp rfl rfl (.v 4 rfl rfl .nil) (q_eql rfl rfl rfl) rfl) (aq rfl (fun γ => qp rfl rfl (.v 0 rfl rfl .nil) (q_asg rfl rfl) rfl) (aq rfl (fun γ => qp rfl rfl (.v 5 rfl rfl .nil) (q_asg rfl rfl) rfl) zA))))))))
 exact zA
 intro g21v
 refine nrm_then (sim_rtn ?_)
 exact rtn_fn () rfl rfl rfl (.sel 0 rfl (.sel 0 rfl (.sel 0 rfl (.nil _))))
 refine sim_skip ?_
 refine nrm_block (nrm_then (sim_seq ?_))
 refine sim_draw (Γ := Unit) () [[], [], [1], [1, 2], [1, 2, 3], [1, 2, 3, 4], [0], rL 7] [] [0, 1, 2, 3, 4, 5, 6, 7] (fun i => [[0], [0], [0], [0], [0], [0], [0], [0]].getD i []) (fun i => [[], [], [], [], [], [], [], []].getD i []) (fun γ i => [.int .i64 s4v.1, .pointer (some ⟨bp0, 0, none⟩), .pointer (some ⟨bp0, 0, none⟩), .pointer (some ⟨bp0, 1, none⟩), .int .i64 xp0_1, .bool (decide (xp0_1 = (0 : Int))), .int .i64 s4v.1, .bool (decide (xp0_1 = (0 : Int)))].getD i undef) (fun j γ => [[obj bp1 125 [.slice ap1_0 xp1_0.length cp1_0, .int .i64 s4v.2.1, .int .i64 s4v.2.2], obj bp0 76 [.pointer (some ⟨bp1, 0, none⟩), .int .i64 xp0_1], F]].getD j []) (fun γ => [(8, .int .i64 s4v.1), (9, .bool (decide (xp0_1 = (0 : Int))))]) mixed (by decide) (by decide) (by decide) (by decide) (by decide) (by decide) (by decide) 50 rfl (by decide) (by decide) (by decide) (Ent.refl _) ?_ ?_ (fun _ => ⟨rfl, rfl, trivial⟩) ?_
 exact (aq rfl (fun γ => qm rfl (.o (s := 11) rfl (by decide) .nil) rfl) (aq rfl (fun γ => qm rfl (.o (s := 0) rfl (by decide) .nil) rfl) (aq rfl (fun γ => qp rfl rfl (.v 1 rfl rfl .nil) (q_nil rfl rfl) rfl) (aq rfl (fun γ => qp rfl rfl (.v 2 rfl rfl .nil) (q_fa rfl rfl Tryz.underlying76 rfl rfl Tryz.sizeOf31 rfl) rfl) (aq rfl (fun γ => qp rfl rfl (.v 3 rfl rfl .nil) (q_load rfl rfl Tryz.isAgg31 (.obj 1 rfl rfl)) rfl) (aq rfl (fun γ => qp rfl rfl (.v 4 rfl rfl .nil) (q_eql rfl rfl rfl) rfl) (aq rfl (fun γ => qp rfl rfl (.v 0 rfl rfl .nil) (q_asg rfl rfl) rfl) (aq rfl (fun γ => qp rfl rfl (.v 5 rfl rfl .nil) (q_asg rfl rfl) rfl) zA))))))))
 exact zA
 intro g22v
 refine nrm_then (sim_rtn ?_)
 exact rtn_fn () rfl rfl rfl (.sel 0 rfl (.sel 0 rfl (.sel 0 rfl (.nil _))))

def kv_is_int_wire_Reader_Int_kv_kept.f (k : Nat) (xp1_0 : List UInt8) (xp1_1 : Int) (xp1_2 : Int) (xp0_1 : Int) (x3 : Int) : Option (Int × Bool × Int × Int × Int) := (wire_Reader_At.f xp1_0 xp1_1 xp1_2).bind fun s1v => ((wire_Reader_Int.f k xp1_0 xp1_1 xp1_2).bind fun s4v => ((wire_Reader_At.f xp1_0 s4v.2.1 s4v.2.2).bind fun s7v => (if s7v = s1v then ((wire_Reader_Done.f xp1_0 s4v.2.1 s4v.2.2).bind fun s12v => (some (s4v.1, decide (s12v = (0 : Int)), s4v.2.1, s4v.2.2, s12v))) else ((kv_kept.f s4v.1).bind fun s16v => (if (!s16v) = true then (some (s4v.1, decide (x3 = (0 : Int)), s4v.2.1, s4v.2.2, x3)) else (some (s4v.1, decide (xp0_1 = (0 : Int)), s4v.2.1, s4v.2.2, xp0_1)))))))
theorem kv_is_int_wire_Reader_Int_kv_kept.calls (W : World) (F : HA) (k : Nat) (bp0 : Nat) (bp1 : Nat) (ap1_0 : Option Addr) (cp1_0 : Nat) (xp1_0 : List UInt8) (xp1_1 : Int) (xp1_2 : Int) (xp0_1 : Int) (x3 : Int) (hp1_0 : Rd F ap1_0 (encB xp1_0)) (hcp1_0 : xp1_0.length ≤ cp1_0) (hmp1_0 : cp1_0 ≤ maxLen) :
    Fn Tryz.prog W 58 [.pointer (some ⟨bp0, 0, none⟩), .func (.func 59) #[.pointer (some ⟨bp1, 0, none⟩)] #[], .func (.func 70) #[] #[], .int .i64 x3] [obj bp1 125 [.slice ap1_0 xp1_0.length cp1_0, .int .i64 xp1_1, .int .i64 xp1_2], obj bp0 76 [.pointer (some ⟨bp1, 0, none⟩), .int .i64 xp0_1]] F (kv_is_int_wire_Reader_Int_kv_kept.f k xp1_0 xp1_1 xp1_2 xp0_1 x3) (fun (r : Int × Bool × Int × Int × Int) (y : Unit) => .tuple #[.int .i64 r.1, .bool r.2.1]) (fun r y => [obj bp1 125 [.slice ap1_0 xp1_0.length cp1_0, .int .i64 r.2.2.1, .int .i64 r.2.2.2.1], obj bp0 76 [.pointer (some ⟨bp1, 0, none⟩), .int .i64 r.2.2.2.2]]) := by
 unfold kv_is_int_wire_Reader_Int_kv_kept.f
 refine fn_intro 50 Tryz.func58 rfl Tryz.ntmps58 rfl ?_
 refine sr ?_
 refine va rfl rfl ?_
 refine va rfl rfl (nx ?_)
 refine vm rfl rfl ?_
 refine vn rfl rfl ?_
 refine vq (q_fa rfl rfl Tryz.underlying76 rfl rfl Tryz.sizeOf73 rfl) rfl ?_
 refine vq (q_load rfl rfl Tryz.isAgg73 (.obj 1 rfl rfl)) rfl ?_
 refine simL_bind (fun s1v hs2v => ?_)
 refine simL_eff (re_call (vs := [.pointer (some ⟨bp1, 0, none⟩)]) (cap := []) (A := [obj bp1 125 [.slice ap1_0 xp1_0.length cp1_0, .int .i64 xp1_1, .int .i64 xp1_2]]) (rst := [obj bp0 76 [.pointer (some ⟨bp1, 0, none⟩), .int .i64 xp0_1], F]) rfl rfl rfl rfl rfl rfl Tryz.call94 (.sel 0 rfl (.sel 0 rfl (.sel 0 rfl (.nil _)))) (wire_Reader_At.calls _ _ bp1 ap1_0 cp1_0 xp1_0 xp1_1 xp1_2 (hp1_0.lend 1 rfl) hcp1_0 hmp1_0) hs2v) rfl rfl rfl ?_
 intro y3v
 refine va rfl rfl (nx ?_)
 refine vm rfl rfl ?_
 refine simL_bind (fun s4v hs5v => ?_)
 refine simL_eff (re_callf (fst := [.pointer (some ⟨bp1, 0, none⟩)]) (vs := []) (cap := []) (A := [obj bp1 125 [.slice ap1_0 xp1_0.length cp1_0, .int .i64 xp1_1, .int .i64 xp1_2]]) (rst := [obj bp0 76 [.pointer (some ⟨bp1, 0, none⟩), .int .i64 xp0_1], F]) rfl rfl rfl rfl rfl rfl Tryz.call59 (.sel 0 rfl (.sel 0 rfl (.sel 0 rfl (.nil _)))) (wire_Reader_Int.calls _ _ k bp1 ap1_0 cp1_0 xp1_0 xp1_1 xp1_2 (hp1_0.lend 1 rfl) hcp1_0 hmp1_0) hs5v) rfl rfl rfl ?_
 intro y6v
 refine va rfl rfl (simL_nil (nrm_then (sim_seq ?_)))
 refine sim_block ?_
 refine sr ?_
 refine vm rfl rfl ?_
 refine vn rfl rfl ?_
 refine vq (q_fa rfl rfl Tryz.underlying76 rfl rfl Tryz.sizeOf73 rfl) rfl ?_
 refine vq (q_load rfl rfl Tryz.isAgg73 (.obj 1 rfl rfl)) rfl ?_
 refine simL_bind (fun s7v hs8v => ?_)
 refine simL_eff (re_call (vs := [.pointer (some ⟨bp1, 0, none⟩)]) (cap := []) (A := [obj bp1 125 [.slice ap1_0 xp1_0.length cp1_0, .int .i64 s4v.2.1, .int .i64 s4v.2.2]]) (rst := [obj bp0 76 [.pointer (some ⟨bp1, 0, none⟩), .int .i64 xp0_1], F]) rfl rfl rfl rfl rfl rfl Tryz.call94 (.sel 0 rfl (.sel 0 rfl (.sel 0 rfl (.nil _)))) (wire_Reader_At.calls _ _ bp1 ap1_0 cp1_0 xp1_0 s4v.2.1 s4v.2.2 (hp1_0.lend 1 rfl) hcp1_0 hmp1_0) hs8v) rfl rfl rfl ?_
 intro y9v
 refine vm rfl rfl ?_
 refine vq (q_eql rfl rfl rfl) rfl ?_
 refine va rfl rfl (simL_nil (nrm_then ?_))
 refine sim_cond rfl (fun h10v => ?_) (fun h11v => ?_)
 refine sim_region ?_
 refine vm rfl rfl ?_
 refine vm rfl rfl ?_
 refine vn rfl rfl ?_
 refine vq (q_fa rfl rfl Tryz.underlying76 rfl rfl Tryz.sizeOf73 rfl) rfl ?_
 refine vq (q_load rfl rfl Tryz.isAgg73 (.obj 1 rfl rfl)) rfl ?_
 refine simL_bind (fun s12v hs13v => ?_)
 refine simL_eff (re_call (vs := [.pointer (some ⟨bp1, 0, none⟩)]) (cap := []) (A := [obj bp1 125 [.slice ap1_0 xp1_0.length cp1_0, .int .i64 s4v.2.1, .int .i64 s4v.2.2]]) (rst := [obj bp0 76 [.pointer (some ⟨bp1, 0, none⟩), .int .i64 xp0_1], F]) rfl rfl rfl rfl rfl rfl Tryz.call33 (.sel 0 rfl (.sel 0 rfl (.sel 0 rfl (.nil _)))) (wire_Reader_Done.calls _ _ bp1 ap1_0 cp1_0 xp1_0 s4v.2.1 s4v.2.2 (hp1_0.lend 1 rfl) hcp1_0 hmp1_0) hs13v) rfl rfl rfl ?_
 intro y14v
 refine vn rfl rfl ?_
 refine vq (q_fa rfl rfl Tryz.underlying76 rfl rfl Tryz.sizeOf31 rfl) rfl ?_
 refine simL_do (re_store 1 rfl rfl rfl Tryz.sizeOf31 rfl rfl (one_of (by rfl)) rfl rfl) rfl rfl ?_
 intro _
 refine simL_nil (nrm_block (nrm_then (sim_seq ?_)))
 refine sim_draw (Γ := Unit) () [[], [], [1], [1, 2], [1, 2, 3], [1, 2, 3, 4], [0], rL 7] [] [0, 1, 2, 3, 4, 5, 6, 7] (fun i => [[0], [0], [0], [0], [0], [0], [0], [0]].getD i []) (fun i => [[], [], [], [], [], [], [], []].getD i []) (fun γ i => [.int .i64 s4v.1, .pointer (some ⟨bp0, 0, none⟩), .pointer (some ⟨bp0, 0, none⟩), .pointer (some ⟨bp0, 1, none⟩), .int .i64 s12v, .bool (decide (s12v = (0 : Int))), .int .i64 s4v.1, .bool (decide (s12v = (0 : Int)))].getD i undef) (fun j γ => [[obj bp1 125 [.slice ap1_0 xp1_0.length cp1_0, .int .i64 s4v.2.1, .int .i64 s4v.2.2], obj bp0 76 [.pointer (some ⟨bp1, 0, none⟩), .int .i64 s12v], F]].getD j []) (fun γ => [(8, .int .i64 s4v.1), (9, .bool (decide (s12v = (0 : Int))))]) mixed (by decide) (by decide) (by decide) (by decide) (by decide) (by decide) (by decide) 50 rfl (by decide) (by decide) (by decide) (Ent.refl _) ?_ ?_ (fun _ => ⟨rfl, rfl, trivial⟩) ?_
 exact (aq rfl (fun γ => qm rfl (.o (s := 11) rfl (by decide) .nil) rfl) (aq rfl (fun γ => qm rfl (.o (s := 0) rfl (by decide) .nil) rfl) (aq rfl (fun γ => qp rfl rfl (.v 1 rfl rfl .nil) (q_nil rfl rfl) rfl) (aq rfl (fun γ => qp rfl rfl (.v 2 rfl rfl .nil) (q_fa rfl rfl Tryz.underlying76 rfl rfl Tryz.sizeOf31 rfl) rfl) (aq rfl (fun γ => qp rfl rfl (.v 3 rfl rfl .nil) (q_load rfl rfl Tryz.isAgg31 (.obj 1 rfl rfl)) rfl) (aq rfl (fun γ => qp rfl rfl (.v 4 rfl rfl .nil) (q_eql rfl rfl rfl) rfl) (aq rfl (fun γ => qp rfl rfl (.v 0 rfl rfl .nil) (q_asg rfl rfl) rfl) (aq rfl (fun γ => qp rfl rfl (.v 5 rfl rfl .nil) (q_asg rfl rfl) rfl) zA))))))))
 exact zA
 intro g15v
 refine nrm_then (sim_rtn ?_)
 exact rtn_fn () rfl rfl rfl (.sel 0 rfl (.sel 0 rfl (.sel 0 rfl (.nil _))))
 refine sr ?_
 refine vm rfl rfl ?_
 refine vm rfl rfl ?_
 refine simL_bind (fun s16v hs17v => ?_)
 refine simL_eff (re_call (vs := [.int .i64 s4v.1]) (cap := []) (A := []) (rst := [obj bp1 125 [.slice ap1_0 xp1_0.length cp1_0, .int .i64 s4v.2.1, .int .i64 s4v.2.2], obj bp0 76 [.pointer (some ⟨bp1, 0, none⟩), .int .i64 xp0_1], F]) rfl rfl rfl rfl rfl rfl Tryz.call70 (.sel 0 rfl (.sel 0 rfl (.sel 0 rfl (.nil _)))) (kv_kept.calls _ _ s4v.1 ) hs17v) rfl rfl rfl ?_
 intro y18v
 refine vq (q_not rfl rfl) rfl ?_
 refine va rfl rfl (simL_nil (nrm_then ?_))
 refine sim_condb rfl (fun h19v => ?_) (fun h20v => ?_)
 refine sim_region ?_
 refine vm rfl rfl ?_
 refine vm rfl rfl ?_
 refine vn rfl rfl ?_
 refine vq (q_fa rfl rfl Tryz.underlying76 rfl rfl Tryz.sizeOf31 rfl) rfl ?_
 refine simL_do (re_store 1 rfl rfl rfl Tryz.sizeOf31 rfl rfl (one_of (by rfl)) rfl rfl) rfl rfl ?_
 intro _
 refine simL_nil (nrm_block (nrm_then (sim_seq ?_)))
 refine sim_draw (Γ := Unit) () [[], [], [1], [1, 2], [1, 2, 3], [1, 2, 3, 4], [0], rL 7] [] [0, 1, 2, 3, 4, 5, 6, 7] (fun i => [[0], [0], [0], [0], [0], [0], [0], [0]].getD i []) (fun i => [[], [], [], [], [], [], [], []].getD i []) (fun γ i => [.int .i64 s4v.1, .pointer (some ⟨bp0, 0, none⟩), .pointer (some ⟨bp0, 0, none⟩), .pointer (some ⟨bp0, 1, none⟩), .int .i64 x3, .bool (decide (x3 = (0 : Int))), .int .i64 s4v.1, .bool (decide (x3 = (0 : Int)))].getD i undef) (fun j γ => [[obj bp1 125 [.slice ap1_0 xp1_0.length cp1_0, .int .i64 s4v.2.1, .int .i64 s4v.2.2], obj bp0 76 [.pointer (some ⟨bp1, 0, none⟩), .int .i64 x3], F]].getD j []) (fun γ => [(8, .int .i64 s4v.1), (9, .bool (decide (x3 = (0 : Int))))]) mixed (by decide) (by decide) (by decide) (by decide) (by decide) (by decide) (by decide) 50 rfl (by decide) (by decide) (by decide) (Ent.refl _) ?_ ?_ (fun _ => ⟨rfl, rfl, trivial⟩) ?_
 exact (aq rfl (fun γ => qm rfl (.o (s := 11) rfl (by decide) .nil) rfl) (aq rfl (fun γ => qm rfl (.o (s := 0) rfl (by decide) .nil) rfl) (aq rfl (fun γ => qp rfl rfl (.v 1 rfl rfl .nil) (q_nil rfl rfl) rfl) (aq rfl (fun γ => qp rfl rfl (.v 2 rfl rfl .nil) (q_fa rfl rfl Tryz.underlying76 rfl rfl Tryz.sizeOf31 rfl) rfl) (aq rfl (fun γ => qp rfl rfl (.v 3 rfl rfl .nil) (q_load rfl rfl Tryz.isAgg31 (.obj 1 rfl rfl)) rfl) (aq rfl (fun γ => qp rfl rfl (.v 4 rfl rfl .nil) (q_eql rfl rfl rfl) rfl) (aq rfl (fun γ => qp rfl rfl (.v 0 rfl rfl .nil) (q_asg rfl rfl) rfl) (aq rfl (fun γ => qp rfl rfl (.v 5 rfl rfl .nil) (q_asg rfl rfl) rfl) zA))))))))
 exact zA
 intro g21v
 refine nrm_then (sim_rtn ?_)
 exact rtn_fn () rfl rfl rfl (.sel 0 rfl (.sel 0 rfl (.sel 0 rfl (.nil _))))
 refine sim_skip ?_
 refine nrm_block (nrm_then (sim_seq ?_))
 refine sim_draw (Γ := Unit) () [[], [], [1], [1, 2], [1, 2, 3], [1, 2, 3, 4], [0], rL 7] [] [0, 1, 2, 3, 4, 5, 6, 7] (fun i => [[0], [0], [0], [0], [0], [0], [0], [0]].getD i []) (fun i => [[], [], [], [], [], [], [], []].getD i []) (fun γ i => [.int .i64 s4v.1, .pointer (some ⟨bp0, 0, none⟩), .pointer (some ⟨bp0, 0, none⟩), .pointer (some ⟨bp0, 1, none⟩), .int .i64 xp0_1, .bool (decide (xp0_1 = (0 : Int))), .int .i64 s4v.1, .bool (decide (xp0_1 = (0 : Int)))].getD i undef) (fun j γ => [[obj bp1 125 [.slice ap1_0 xp1_0.length cp1_0, .int .i64 s4v.2.1, .int .i64 s4v.2.2], obj bp0 76 [.pointer (some ⟨bp1, 0, none⟩), .int .i64 xp0_1], F]].getD j []) (fun γ => [(8, .int .i64 s4v.1), (9, .bool (decide (xp0_1 = (0 : Int))))]) mixed (by decide) (by decide) (by decide) (by decide) (by decide) (by decide) (by decide) 50 rfl (by decide) (by decide) (by decide) (Ent.refl _) ?_ ?_ (fun _ => ⟨rfl, rfl, trivial⟩) ?_
 exact (aq rfl (fun γ => qm rfl (.o (s := 11) rfl (by decide) .nil) rfl) (aq rfl (fun γ => qm rfl (.o (s := 0) rfl (by decide) .nil) rfl) (aq rfl (fun γ => qp rfl rfl (.v 1 rfl rfl .nil) (q_nil rfl rfl) rfl) (aq rfl (fun γ => qp rfl rfl (.v 2 rfl rfl .nil) (q_fa rfl rfl Tryz.underlying76 rfl rfl Tryz.sizeOf31 rfl) rfl) (aq rfl (fun γ => qp rfl rfl (.v 3 rfl rfl .nil) (q_load rfl rfl Tryz.isAgg31 (.obj 1 rfl rfl)) rfl) (aq rfl (fun γ => qp rfl rfl (.v 4 rfl rfl .nil) (q_eql rfl rfl rfl) rfl) (aq rfl (fun γ => qp rfl rfl (.v 0 rfl rfl .nil) (q_asg rfl rfl) rfl) (aq rfl (fun γ => qp rfl rfl (.v 5 rfl rfl .nil) (q_asg rfl rfl) rfl) zA))))))))
 exact zA
 intro g22v
 refine nrm_then (sim_rtn ?_)
 exact rtn_fn () rfl rfl rfl (.sel 0 rfl (.sel 0 rfl (.sel 0 rfl (.nil _))))

def kv_reader_clients_4_s.f (k : Nat) (xp2_0 : List UInt8) (xp2_1 : Int) (xp2_2 : Int) (xp1_1 : Int) : Option (List UInt8 × Int × Int) := (wire_Reader_Text.f k xp2_0 xp2_1 xp2_2 (1024 : Int)).bind fun s1v => (some (s1v.1, s1v.2.1, s1v.2.2))
theorem kv_reader_clients_4_s.calls (W : World) (F : HA) (k : Nat) (bp0 : Nat) (bp1 : Nat) (bp2 : Nat) (ap2_0 : Option Addr) (cp2_0 : Nat) (xp2_0 : List UInt8) (xp2_1 : Int) (xp2_2 : Int) (xp1_1 : Int) (hp2_0 : Rd F ap2_0 (encB xp2_0)) (hcp2_0 : xp2_0.length ≤ cp2_0) (hmp2_0 : cp2_0 ≤ maxLen) :
    Fn Tryz.prog W 71 [.pointer (some ⟨bp0, 0, none⟩)] [obj bp2 125 [.slice ap2_0 xp2_0.length cp2_0, .int .i64 xp2_1, .int .i64 xp2_2], obj bp1 76 [.pointer (some ⟨bp2, 0, none⟩), .int .i64 xp1_1], obj bp0 72 [.pointer (some ⟨bp1, 0, none⟩)]] F (kv_reader_clients_4_s.f k xp2_0 xp2_1 xp2_2 xp1_1) (fun (r : List UInt8 × Int × Int) (y : Unit) => str r.1) (fun r y => [obj bp2 125 [.slice ap2_0 xp2_0.length cp2_0, .int .i64 r.2.1, .int .i64 r.2.2], obj bp1 76 [.pointer (some ⟨bp2, 0, none⟩), .int .i64 xp1_1], obj bp0 72 [.pointer (some ⟨bp1, 0, none⟩)]]) := by
 unfold kv_reader_clients_4_s.f
 refine fn_intro 7 Tryz.func71 rfl Tryz.ntmps71 rfl ?_
 refine sr ?_
 refine va rfl rfl (nx ?_)
 refine vq (q_load rfl rfl Tryz.isAgg72 (.obj 2 rfl rfl)) rfl ?_
 refine vn rfl rfl ?_
 refine vq (q_fa rfl rfl Tryz.underlying76 rfl rfl Tryz.sizeOf73 rfl) rfl ?_
 refine vq (q_load rfl rfl Tryz.isAgg73 (.obj 1 rfl rfl)) rfl ?_
 refine simL_bind (fun s1v hs2v => ?_)
 refine simL_eff (re_call (vs := [.pointer (some ⟨bp2, 0, none⟩), .int .i64 1024]) (cap := []) (A := [obj bp2 125 [.slice ap2_0 xp2_0.length cp2_0, .int .i64 xp2_1, .int .i64 xp2_2]]) (rst := [obj bp1 76 [.pointer (some ⟨bp2, 0, none⟩), .int .i64 xp1_1], obj bp0 72 [.pointer (some ⟨bp1, 0, none⟩)], F]) rfl rfl rfl rfl rfl rfl Tryz.call63 (.sel 0 rfl (.sel 0 rfl (.sel 0 rfl (.sel 0 rfl (.nil _))))) (wire_Reader_Text.calls _ _ k bp2 ap2_0 cp2_0 xp2_0 xp2_1 xp2_2 (1024 : Int) (hp2_0.lend 2 rfl) hcp2_0 hmp2_0) hs2v) rfl rfl rfl ?_
 intro y3v
 refine va rfl rfl (simL_nil (nrm_then (sim_rtn ?_)))
 exact rtn_fn () rfl rfl rfl (.sel 0 rfl (.sel 0 rfl (.sel 0 rfl (.sel 0 rfl (.nil _)))))

def kv_is_string_kv_reader_clients_4_kv_reader_clients_5.f (k : Nat) (xp1_0 : List UInt8) (xp1_1 : Int) (xp1_2 : Int) (xp0_1 : Int) (xp3_0 : Int) (xp3_1 : Int) (xp3_2 : Int) (xp3_3 : List UInt8) (x3 : Int) : Option (List UInt8 × Bool × Int × Int × Int) := (wire_Reader_At.f xp1_0 xp1_1 xp1_2).bind fun s1v => ((kv_reader_clients_4_s.f k xp1_0 xp1_1 xp1_2 xp0_1).bind fun s4v => ((wire_Reader_At.f xp1_0 s4v.2.1 s4v.2.2).bind fun s7v => (if s7v = s1v then ((wire_Reader_Done.f xp1_0 s4v.2.1 s4v.2.2).bind fun s12v => (some (s4v.1, decide (s12v = (0 : Int)), s4v.2.1, s4v.2.2, s12v))) else ((kv_reader_clients_5.f s4v.1 xp3_0 xp3_1 xp3_2 xp3_3).bind fun s16v => (if (!s16v) = true then (some (s4v.1, decide (x3 = (0 : Int)), s4v.2.1, s4v.2.2, x3)) else (some (s4v.1, decide (xp0_1 = (0 : Int)), s4v.2.1, s4v.2.2, xp0_1)))))))
theorem kv_is_string_kv_reader_clients_4_kv_reader_clients_5.calls (W : World) (F : HA) (k : Nat) (bp0 : Nat) (bp1 : Nat) (ap1_0 : Option Addr) (cp1_0 : Nat) (xp1_0 : List UInt8) (xp1_1 : Int) (xp1_2 : Int) (xp0_1 : Int) (bp2 : Nat) (bp3 : Nat) (xp3_0 : Int) (xp3_1 : Int) (xp3_2 : Int) (xp3_3 : List UInt8) (x3 : Int) (hp1_0 : Rd F ap1_0 (encB xp1_0)) (hcp1_0 : xp1_0.length ≤ cp1_0) (hmp1_0 : cp1_0 ≤ maxLen) :
    Fn Tryz.prog W 61 [.pointer (some ⟨bp0, 0, none⟩), .func (.func 71) #[] #[.pointer (some ⟨bp2, 0, none⟩)], .func (.func 72) #[] #[.pointer (some ⟨bp3, 0, none⟩)], .int .i64 x3] [obj bp1 125 [.slice ap1_0 xp1_0.length cp1_0, .int .i64 xp1_1, .int .i64 xp1_2], obj bp0 76 [.pointer (some ⟨bp1, 0, none⟩), .int .i64 xp0_1], obj bp2 72 [.pointer (some ⟨bp0, 0, none⟩)], obj bp3 69 [.int .i64 xp3_0, .int .i64 xp3_1, .int .i64 xp3_2, str xp3_3]] F (kv_is_string_kv_reader_clients_4_kv_reader_clients_5.f k xp1_0 xp1_1 xp1_2 xp0_1 xp3_0 xp3_1 xp3_2 xp3_3 x3) (fun (r : List UInt8 × Bool × Int × Int × Int) (y : Unit) => .tuple #[str r.1, .bool r.2.1]) (fun r y => [obj bp1 125 [.slice ap1_0 xp1_0.length cp1_0, .int .i64 r.2.2.1, .int .i64 r.2.2.2.1], obj bp0 76 [.pointer (some ⟨bp1, 0, none⟩), .int .i64 r.2.2.2.2], obj bp2 72 [.pointer (some ⟨bp0, 0, none⟩)], obj bp3 69 [.int .i64 xp3_0, .int .i64 xp3_1, .int .i64 xp3_2, str xp3_3]]) := by
 unfold kv_is_string_kv_reader_clients_4_kv_reader_clients_5.f
 refine fn_intro 50 Tryz.func61 rfl Tryz.ntmps61 rfl ?_
 refine sr ?_
 refine va rfl rfl ?_
 refine va rfl rfl (nx ?_)
 refine vm rfl rfl ?_
 refine vn rfl rfl ?_
 refine vq (q_fa rfl rfl Tryz.underlying76 rfl rfl Tryz.sizeOf73 rfl) rfl ?_
 refine vq (q_load rfl rfl Tryz.isAgg73 (.obj 1 rfl rfl)) rfl ?_
 refine simL_bind (fun s1v hs2v => ?_)
 refine simL_eff (re_call (vs := [.pointer (some ⟨bp1, 0, none⟩)]) (cap := []) (A := [obj bp1 125 [.slice ap1_0 xp1_0.length cp1_0, .int .i64 xp1_1, .int .i64 xp1_2]]) (rst := [obj bp0 76 [.pointer (some ⟨bp1, 0, none⟩), .int .i64 xp0_1], obj bp2 72 [.pointer (some ⟨bp0, 0, none⟩)], obj bp3 69 [.int .i64 xp3_0, .int .i64 xp3_1, .int .i64 xp3_2, str xp3_3], F]) rfl rfl rfl rfl rfl rfl Tryz.call94 (.sel 0 rfl (.sel 0 rfl (.sel 0 rfl (.sel 0 rfl (.sel 0 rfl (.nil _)))))) (wire_Reader_At.calls _ _ bp1 ap1_0 cp1_0 xp1_0 xp1_1 xp1_2 (hp1_0.lend 3 rfl) hcp1_0 hmp1_0) hs2v) rfl rfl rfl ?_
 intro y3v
 refine va rfl rfl (nx ?_)
 refine vm rfl rfl ?_
 refine simL_bind (fun s4v hs5v => ?_)
 refine simL_eff (re_call (vs := []) (cap := [.pointer (some ⟨bp2, 0, none⟩)]) (A := [obj bp1 125 [.slice ap1_0 xp1_0.length cp1_0, .int .i64 xp1_1, .int .i64 xp1_2], obj bp0 76 [.pointer (some ⟨bp1, 0, none⟩), .int .i64 xp0_1], obj bp2 72 [.pointer (some ⟨bp0, 0, none⟩)]]) (rst := [obj bp3 69 [.int .i64 xp3_0, .int .i64 xp3_1, .int .i64 xp3_2, str xp3_3], F]) rfl rfl rfl rfl rfl rfl Tryz.call71 (.sel 0 rfl (.sel 0 rfl (.sel 0 rfl (.sel 0 rfl (.sel 0 rfl (.nil _)))))) (kv_reader_clients_4_s.calls _ _ k bp2 bp0 bp1 ap1_0 cp1_0 xp1_0 xp1_1 xp1_2 xp0_1 (hp1_0.lend 1 rfl) hcp1_0 hmp1_0) hs5v) rfl rfl rfl ?_
 intro y6v
 refine va rfl rfl (simL_nil (nrm_then (sim_seq ?_)))
 refine sim_block ?_
 refine sr ?_
 refine vm rfl rfl ?_
 refine vn rfl rfl ?_
 refine vq (q_fa rfl rfl Tryz.underlying76 rfl rfl Tryz.sizeOf73 rfl) rfl ?_
 refine vq (q_load rfl rfl Tryz.isAgg73 (.obj 1 rfl rfl)) rfl ?_
 refine simL_bind (fun s7v hs8v => ?_)
 refine simL_eff (re_call (vs := [.pointer (some ⟨bp1, 0, none⟩)]) (cap := []) (A := [obj bp1 125 [.slice ap1_0 xp1_0.length cp1_0, .int .i64 s4v.2.1, .int .i64 s4v.2.2]]) (rst := [obj bp0 76 [.pointer (some ⟨bp1, 0, none⟩), .int .i64 xp0_1], obj bp2 72 [.pointer (some ⟨bp0, 0, none⟩)], obj bp3 69 [.int .i64 xp3_0, .int .i64 xp3_1, .int .i64 xp3_2, str xp3_3], F]) rfl rfl rfl rfl rfl rfl Tryz.call94 (.sel 0 rfl (.sel 0 rfl (.sel 0 rfl (.sel 0 rfl (.sel 0 rfl (.nil _)))))) (wire_Reader_At.calls _ _ bp1 ap1_0 cp1_0 xp1_0 s4v.2.1 s4v.2.2 (hp1_0.lend 3 rfl) hcp1_0 hmp1_0) hs8v) rfl rfl rfl ?_
 intro y9v
 refine vm rfl rfl ?_
 refine vq (q_eql rfl rfl rfl) rfl ?_
 refine va rfl rfl (simL_nil (nrm_then ?_))
 refine sim_cond rfl (fun h10v => ?_) (fun h11v => ?_)
 refine sim_region ?_
 refine vm rfl rfl ?_
 refine vm rfl rfl ?_
 refine vn rfl rfl ?_
 refine vq (q_fa rfl rfl Tryz.underlying76 rfl rfl Tryz.sizeOf73 rfl) rfl ?_
 refine vq (q_load rfl rfl Tryz.isAgg73 (.obj 1 rfl rfl)) rfl ?_
 refine simL_bind (fun s12v hs13v => ?_)
 refine simL_eff (re_call (vs := [.pointer (some ⟨bp1, 0, none⟩)]) (cap := []) (A := [obj bp1 125 [.slice ap1_0 xp1_0.length cp1_0, .int .i64 s4v.2.1, .int .i64 s4v.2.2]]) (rst := [obj bp0 76 [.pointer (some ⟨bp1, 0, none⟩), .int .i64 xp0_1], obj bp2 72 [.pointer (some ⟨bp0, 0, none⟩)], obj bp3 69 [.int .i64 xp3_0, .int .i64 xp3_1, .int .i64 xp3_2, str xp3_3], F]) rfl rfl rfl rfl rfl rfl Tryz.call33 (.sel 0 rfl (.sel 0 rfl (.sel 0 rfl (.sel 0 rfl (.sel 0 rfl (.nil _)))))) (wire_Reader_Done.calls _ _ bp1 ap1_0 cp1_0 xp1_0 s4v.2.1 s4v.2.2 (hp1_0.lend 3 rfl) hcp1_0 hmp1_0) hs13v) rfl rfl rfl ?_
 intro y14v
 refine vn rfl rfl ?_
 refine vq (q_fa rfl rfl Tryz.underlying76 rfl rfl Tryz.sizeOf31 rfl) rfl ?_
 refine simL_do (re_store 1 rfl rfl rfl Tryz.sizeOf31 rfl rfl (one_of (by rfl)) rfl rfl) rfl rfl ?_
 intro _
 refine simL_nil (nrm_block (nrm_then (sim_seq ?_)))
 refine sim_draw (Γ := Unit) () [[], [], [1], [1, 2], [1, 2, 3], [1, 2, 3, 4], [0], rL 7] [] [0, 1, 2, 3, 4, 5, 6, 7] (fun i => [[0], [0], [0], [0], [0], [0], [0], [0]].getD i []) (fun i => [[], [], [], [], [], [], [], []].getD i []) (fun γ i => [str s4v.1, .pointer (some ⟨bp0, 0, none⟩), .pointer (some ⟨bp0, 0, none⟩), .pointer (some ⟨bp0, 1, none⟩), .int .i64 s12v, .bool (decide (s12v = (0 : Int))), str s4v.1, .bool (decide (s12v = (0 : Int)))].getD i undef) (fun j γ => [[obj bp1 125 [.slice ap1_0 xp1_0.length cp1_0, .int .i64 s4v.2.1, .int .i64 s4v.2.2], obj bp0 76 [.pointer (some ⟨bp1, 0, none⟩), .int .i64 s12v], obj bp2 72 [.pointer (some ⟨bp0, 0, none⟩)], obj bp3 69 [.int .i64 xp3_0, .int .i64 xp3_1, .int .i64 xp3_2, str xp3_3], F]].getD j []) (fun γ => [(8, str s4v.1), (9, .bool (decide (s12v = (0 : Int))))]) mixed (by decide) (by decide) (by decide) (by decide) (by decide) (by decide) (by decide) 50 rfl (by decide) (by decide) (by decide) (Ent.refl _) ?_ ?_ (fun _ => ⟨rfl, rfl, trivial⟩) ?_
 exact (aq rfl (fun γ => qm rfl (.o (s := 11) rfl (by decide) .nil) rfl) (aq rfl (fun γ => qm rfl (.o (s := 0) rfl (by decide) .nil) rfl) (aq rfl (fun γ => qp rfl rfl (.v 1 rfl rfl .nil) (q_nil rfl rfl) rfl) (aq rfl (fun γ => qp rfl rfl (.v 2 rfl rfl .nil) (q_fa rfl rfl Tryz.underlying76 rfl rfl Tryz.sizeOf31 rfl) rfl) (aq rfl (fun γ => qp rfl rfl (.v 3 rfl rfl .nil) (q_load rfl rfl Tryz.isAgg31 (.obj 1 rfl rfl)) rfl) (aq rfl (fun γ => qp rfl rfl (.v 4 rfl rfl .nil) (q_eql rfl rfl rfl) rfl) (aq rfl (fun γ => qp rfl rfl (.v 0 rfl rfl .nil) (q_asg rfl rfl) rfl) (aq rfl (fun γ => qp rfl rfl (.v 5 rfl rfl .nil) (q_asg rfl rfl) rfl) zA))))))))
 exact zA
 intro g15v
 refine nrm_then (sim_rtn ?_)
 exact rtn_fn () rfl rfl rfl (.sel 0 rfl (.sel 0 rfl (.sel 0 rfl (.sel 0 rfl (.sel 0 rfl (.nil _))))))
 refine sr ?_
 refine vm rfl rfl ?_
 refine vm rfl rfl ?_
 refine simL_bind (fun s16v hs17v => ?_)
 refine simL_eff (re_call (vs := [str s4v.1]) (cap := [.pointer (some ⟨bp3, 0, none⟩)]) (A := [obj bp3 69 [.int .i64 xp3_0, .int .i64 xp3_1, .int .i64 xp3_2, str xp3_3]]) (rst := [obj bp1 125 [.slice ap1_0 xp1_0.length cp1_0, .int .i64 s4v.2.1, .int .i64 s4v.2.2], obj bp0 76 [.pointer (some ⟨bp1, 0, none⟩), .int .i64 xp0_1], obj bp2 72 [.pointer (some ⟨bp0, 0, none⟩)], F]) rfl rfl rfl rfl rfl rfl Tryz.call72 (.sel 3 rfl (.sel 0 rfl (.sel 0 rfl (.sel 0 rfl (.sel 0 rfl (.nil _)))))) (kv_reader_clients_5.calls _ _ s4v.1 bp3 xp3_0 xp3_1 xp3_2 xp3_3 ) hs17v) rfl rfl rfl ?_
 intro y18v
 refine vq (q_not rfl rfl) rfl ?_
 refine va rfl rfl (simL_nil (nrm_then ?_))
 refine sim_condb rfl (fun h19v => ?_) (fun h20v => ?_)
 refine sim_region ?_
 refine vm rfl rfl ?_
 refine vm rfl rfl ?_
 refine vn rfl rfl ?_
 refine vq (q_fa rfl rfl Tryz.underlying76 rfl rfl Tryz.sizeOf31 rfl) rfl ?_
 refine simL_do (re_store 2 rfl rfl rfl Tryz.sizeOf31 rfl rfl (one_of (by rfl)) rfl rfl) rfl rfl ?_
 intro _
 refine simL_nil (nrm_block (nrm_then (sim_seq ?_)))
 refine sim_draw (Γ := Unit) () [[], [], [1], [1, 2], [1, 2, 3], [1, 2, 3, 4], [0], rL 7] [] [0, 1, 2, 3, 4, 5, 6, 7] (fun i => [[0], [0], [0], [0], [0], [0], [0], [0]].getD i []) (fun i => [[], [], [], [], [], [], [], []].getD i []) (fun γ i => [str s4v.1, .pointer (some ⟨bp0, 0, none⟩), .pointer (some ⟨bp0, 0, none⟩), .pointer (some ⟨bp0, 1, none⟩), .int .i64 x3, .bool (decide (x3 = (0 : Int))), str s4v.1, .bool (decide (x3 = (0 : Int)))].getD i undef) (fun j γ => [[obj bp3 69 [.int .i64 xp3_0, .int .i64 xp3_1, .int .i64 xp3_2, str xp3_3], obj bp1 125 [.slice ap1_0 xp1_0.length cp1_0, .int .i64 s4v.2.1, .int .i64 s4v.2.2], obj bp0 76 [.pointer (some ⟨bp1, 0, none⟩), .int .i64 x3], obj bp2 72 [.pointer (some ⟨bp0, 0, none⟩)], F]].getD j []) (fun γ => [(8, str s4v.1), (9, .bool (decide (x3 = (0 : Int))))]) mixed (by decide) (by decide) (by decide) (by decide) (by decide) (by decide) (by decide) 50 rfl (by decide) (by decide) (by decide) (Ent.refl _) ?_ ?_ (fun _ => ⟨rfl, rfl, trivial⟩) ?_
 exact (aq rfl (fun γ => qm rfl (.o (s := 11) rfl (by decide) .nil) rfl) (aq rfl (fun γ => qm rfl (.o (s := 0) rfl (by decide) .nil) rfl) (aq rfl (fun γ => qp rfl rfl (.v 1 rfl rfl .nil) (q_nil rfl rfl) rfl) (aq rfl (fun γ => qp rfl rfl (.v 2 rfl rfl .nil) (q_fa rfl rfl Tryz.underlying76 rfl rfl Tryz.sizeOf31 rfl) rfl) (aq rfl (fun γ => qp rfl rfl (.v 3 rfl rfl .nil) (q_load rfl rfl Tryz.isAgg31 (.obj 2 rfl rfl)) rfl) (aq rfl (fun γ => qp rfl rfl (.v 4 rfl rfl .nil) (q_eql rfl rfl rfl) rfl) (aq rfl (fun γ => qp rfl rfl (.v 0 rfl rfl .nil) (q_asg rfl rfl) rfl) (aq rfl (fun γ => qp rfl rfl (.v 5 rfl rfl .nil) (q_asg rfl rfl) rfl) zA))))))))
 exact zA
 intro g21v
 refine nrm_then (sim_rtn ?_)
 exact rtn_fn () rfl rfl rfl (.sel 1 rfl (.sel 1 rfl (.sel 1 rfl (.sel 0 rfl (.sel 0 rfl (.nil _))))))
 refine sim_skip ?_
 refine nrm_block (nrm_then (sim_seq ?_))
 refine sim_draw (Γ := Unit) () [[], [], [1], [1, 2], [1, 2, 3], [1, 2, 3, 4], [0], rL 7] [] [0, 1, 2, 3, 4, 5, 6, 7] (fun i => [[0], [0], [0], [0], [0], [0], [0], [0]].getD i []) (fun i => [[], [], [], [], [], [], [], []].getD i []) (fun γ i => [str s4v.1, .pointer (some ⟨bp0, 0, none⟩), .pointer (some ⟨bp0, 0, none⟩), .pointer (some ⟨bp0, 1, none⟩), .int .i64 xp0_1, .bool (decide (xp0_1 = (0 : Int))), str s4v.1, .bool (decide (xp0_1 = (0 : Int)))].getD i undef) (fun j γ => [[obj bp3 69 [.int .i64 xp3_0, .int .i64 xp3_1, .int .i64 xp3_2, str xp3_3], obj bp1 125 [.slice ap1_0 xp1_0.length cp1_0, .int .i64 s4v.2.1, .int .i64 s4v.2.2], obj bp0 76 [.pointer (some ⟨bp1, 0, none⟩), .int .i64 xp0_1], obj bp2 72 [.pointer (some ⟨bp0, 0, none⟩)], F]].getD j []) (fun γ => [(8, str s4v.1), (9, .bool (decide (xp0_1 = (0 : Int))))]) mixed (by decide) (by decide) (by decide) (by decide) (by decide) (by decide) (by decide) 50 rfl (by decide) (by decide) (by decide) (Ent.refl _) ?_ ?_ (fun _ => ⟨rfl, rfl, trivial⟩) ?_
 exact (aq rfl (fun γ => qm rfl (.o (s := 11) rfl (by decide) .nil) rfl) (aq rfl (fun γ => qm rfl (.o (s := 0) rfl (by decide) .nil) rfl) (aq rfl (fun γ => qp rfl rfl (.v 1 rfl rfl .nil) (q_nil rfl rfl) rfl) (aq rfl (fun γ => qp rfl rfl (.v 2 rfl rfl .nil) (q_fa rfl rfl Tryz.underlying76 rfl rfl Tryz.sizeOf31 rfl) rfl) (aq rfl (fun γ => qp rfl rfl (.v 3 rfl rfl .nil) (q_load rfl rfl Tryz.isAgg31 (.obj 2 rfl rfl)) rfl) (aq rfl (fun γ => qp rfl rfl (.v 4 rfl rfl .nil) (q_eql rfl rfl rfl) rfl) (aq rfl (fun γ => qp rfl rfl (.v 0 rfl rfl .nil) (q_asg rfl rfl) rfl) (aq rfl (fun γ => qp rfl rfl (.v 5 rfl rfl .nil) (q_asg rfl rfl) rfl) zA))))))))
 exact zA
 intro g22v
 refine nrm_then (sim_rtn ?_)
 exact rtn_fn () rfl rfl rfl (.sel 1 rfl (.sel 1 rfl (.sel 1 rfl (.sel 0 rfl (.sel 0 rfl (.nil _))))))

def kv_reader_clients_s.l0 (xp1_0 : List UInt8) (s2v : Int × Bool × Int × Int × Int) : Nat → Bool → Int → Int → Int → Int → Int → List ((Int) × (Ty91)) → Option (Bool × Int × Int × Int × (List ((Int) × (Ty91))))
  | 0, _, _, _, _, _, _, _ => none
  | k + 1, z11v, z12v, z13v, z14v, z15v, z16v, z17v => if (z11v && (decide (z12v < s2v.1))) = true then ((kv_is_int_wire_Reader_Int_kv_reader_clients_2.f k xp1_0 z14v z15v z16v z13v (4 : Int)).bind fun s21v => ((if s21v.2.1 = true then ((kv_is_int_wire_Reader_Int_kv_reader_clients_3.f k xp1_0 s21v.2.2.1 s21v.2.2.2.1 s21v.2.2.2.2 (4 : Int)).bind fun s29v => (some (s29v.2.1, s29v.2.2.1, s29v.2.2.2.1, s29v.2.2.2.2, s29v.1))) else (some (s21v.2.1, s21v.2.2.1, s21v.2.2.2.1, s21v.2.2.2.2, 0))).bind fun s25v => ((if s25v.1 = true then ((kv_is_int_wire_Reader_Int_kv_kept.f k xp1_0 s25v.2.1 s25v.2.2.1 s25v.2.2.2.1 (4 : Int)).bind fun s37v => (some (s37v.2.1, s37v.2.2.1, s37v.2.2.2.1, s37v.2.2.2.2, s37v.1))) else (some (s25v.1, s25v.2.1, s25v.2.2.1, s25v.2.2.2.1, 0))).bind fun s33v => ((if s33v.1 = true then ((kv_is_string_kv_reader_clients_4_kv_reader_clients_5.f k xp1_0 s33v.2.1 s33v.2.2.1 s33v.2.2.2.1 s21v.1 s25v.2.2.2.2 s33v.2.2.2.2 ([] : List UInt8) (4 : Int)).bind fun s45v => (some (s45v.2.1, s45v.2.2.1, s45v.2.2.2.1, s45v.2.2.2.2, s45v.1))) else (some (s33v.1, s33v.2.1, s33v.2.2.1, s33v.2.2.2.1, ([] : List UInt8)))).bind fun s41v => (kv_reader_clients_s.l0 xp1_0 s2v k s41v.1 (IntKind.i64.wrap (z12v + 1)) s21v.1 s41v.2.1 s41v.2.2.1 s41v.2.2.2.1 (mput z17v s21v.1 (s21v.1, s25v.2.2.2.2, s33v.2.2.2.2, s41v.2.2.2.2))))))) else (some (z11v, z14v, z15v, z16v, z17v))
def kv_reader_clients_s.f (k : Nat) (xp1_0 : List UInt8) (xp1_1 : Int) (xp1_2 : Int) (xp0_1 : Int) (xp2_0 : List ((List UInt8) × (List UInt8))) (xp2_1 : List ((Int) × (Ty91))) : Option (Bool × Int × Int × Int × (List ((List UInt8) × (List UInt8))) × (List ((Int) × (Ty91)))) := (kv_is_int_wire_Reader_Int_kv_reader_clients_1.f k xp1_0 xp1_1 xp1_2 xp0_1 (23 : Int)).bind fun s2v => ((kv_reader_clients_s.l0 xp1_0 s2v k s2v.2.1 0 0 s2v.2.2.1 s2v.2.2.2.1 s2v.2.2.2.2 xp2_1).bind fun s7v => (some (s7v.1, s7v.2.1, s7v.2.2.1, s7v.2.2.2.1, xp2_0, s7v.2.2.2.2)))
theorem kv_reader_clients_s.calls (W : World) (F : HA) (k : Nat) (bp0 : Nat) (bp1 : Nat) (ap1_0 : Option Addr) (cp1_0 : Nat) (xp1_0 : List UInt8) (xp1_1 : Int) (xp1_2 : Int) (xp0_1 : Int) (bp2 : Nat) (mp2_0 : Nat) (xp2_0 : List ((List UInt8) × (List UInt8))) (mp2_1 : Nat) (xp2_1 : List ((Int) × (Ty91))) (hp1_0 : Rd F ap1_0 (encB xp1_0)) (hcp1_0 : xp1_0.length ≤ cp1_0) (hmp1_0 : cp1_0 ≤ maxLen) :
    Fn Tryz.prog W 32 [.pointer (some ⟨bp0, 0, none⟩), .pointer (some ⟨bp2, 0, none⟩)] [obj bp1 125 [.slice ap1_0 xp1_0.length cp1_0, .int .i64 xp1_1, .int .i64 xp1_2], obj bp0 76 [.pointer (some ⟨bp1, 0, none⟩), .int .i64 xp0_1], obj bp2 58 [.map (some mp2_0), .map (some mp2_1)], mapO mp2_0 enc9 enc9 xp2_0, mapO mp2_1 enc3 enc69 xp2_1] F (kv_reader_clients_s.f k xp1_0 xp1_1 xp1_2 xp0_1 xp2_0 xp2_1) (fun (r : Bool × Int × Int × Int × (List ((List UInt8) × (List UInt8))) × (List ((Int) × (Ty91)))) (y : Nat × Nat) => .bool r.1) (fun r y => [obj bp1 125 [.slice ap1_0 xp1_0.length cp1_0, .int .i64 r.2.1, .int .i64 r.2.2.1], obj bp0 76 [.pointer (some ⟨bp1, 0, none⟩), .int .i64 r.2.2.2.1], obj bp2 58 [.map (some y.1), .map (some y.2)], mapO y.1 enc9 enc9 r.2.2.2.2.1, mapO y.2 enc3 enc69 r.2.2.2.2.2]) := by
 unfold kv_reader_clients_s.f
 refine fn_intro 86 Tryz.func32 rfl Tryz.ntmps32 rfl ?_
 refine sr ?_
 refine simL_eff (re_box rfl rfl rfl) rfl rfl rfl ?_
 intro b1v
 refine va rfl rfl (simL_nil (nrm_then (sim_seq ?_)))
 refine sim_bind (fun s2v hs3v => ?_)
 refine sim_draw (Γ := Unit) () [[], [], [1], [1, 2], [1, 2, 3], [1, 2, 3, 4], rL 6, rL 7, rL 8, rL 8, rL 9, rL 11] [6] [0, 1, 2, 3, 4, 5, 7, 8, 9, 10, 11] (fun i => [[0], [0], [0], [0], [0], [0], [], [1], [1], [1], [1], [1]].getD i []) (fun i => [[], [], [], [], [], [], rL 6, [], [], [], [], []].getD i []) (fun γ i => [.pointer (some ⟨bp0, 0, none⟩), .pointer (some ⟨bp0, 0, none⟩), .pointer (some ⟨bp0, 0, none⟩), .pointer (some ⟨bp0, 0, none⟩), .pointer (some ⟨bp1, 0, none⟩), .func (.func 59) #[.pointer (some ⟨bp1, 0, none⟩)] #[], .tuple #[.int .i64 s2v.1, .bool s2v.2.1], .tuple #[.int .i64 s2v.1, .bool s2v.2.1], .int .i64 s2v.1, .bool s2v.2.1, .int .i64 s2v.1, .bool s2v.2.1].getD i undef) (fun j γ => [[obj b1v 72 [.pointer (some ⟨bp0, 0, none⟩)], obj bp1 125 [.slice ap1_0 xp1_0.length cp1_0, .int .i64 xp1_1, .int .i64 xp1_2], obj bp0 76 [.pointer (some ⟨bp1, 0, none⟩), .int .i64 xp0_1], obj bp2 58 [.map (some mp2_0), .map (some mp2_1)], mapO mp2_0 enc9 enc9 xp2_0, mapO mp2_1 enc3 enc69 xp2_1, F], [obj bp1 125 [.slice ap1_0 xp1_0.length cp1_0, .int .i64 s2v.2.2.1, .int .i64 s2v.2.2.2.1], obj bp0 76 [.pointer (some ⟨bp1, 0, none⟩), .int .i64 s2v.2.2.2.2], obj b1v 72 [.pointer (some ⟨bp0, 0, none⟩)], obj bp2 58 [.map (some mp2_0), .map (some mp2_1)], mapO mp2_0 enc9 enc9 xp2_0, mapO mp2_1 enc3 enc69 xp2_1, F]].getD j []) (fun γ => [(1, .pointer (some ⟨bp2, 0, none⟩)), (2, .pointer (some ⟨b1v, 0, none⟩)), (5, .int .i64 s2v.1), (6, .bool s2v.2.1)]) mixed (by decide) (by decide) (by decide) (by decide) (by decide) (by decide) (by decide) 86 rfl (by decide) (by decide) (by decide) (Ent.refl _) ?_ ?_ (fun _ => ⟨rfl, rfl, rfl, rfl, trivial⟩) ?_
 exact (aq rfl (fun γ => qp rfl rfl (.o (s := 2) rfl (by decide) .nil) (q_load rfl rfl Tryz.isAgg72 (.obj 0 rfl rfl)) rfl) (aq rfl (fun γ => qp rfl rfl (.o (s := 2) rfl (by decide) .nil) (q_load rfl rfl Tryz.isAgg72 (.obj 0 rfl rfl)) rfl) (aq rfl (fun γ => qp rfl rfl (.v 1 rfl rfl .nil) (q_nil rfl rfl) rfl) (aq rfl (fun γ => qp rfl rfl (.v 2 rfl rfl .nil) (q_fa rfl rfl Tryz.underlying76 rfl rfl Tryz.sizeOf73 rfl) rfl) (aq rfl (fun γ => qp rfl rfl (.v 3 rfl rfl .nil) (q_load rfl rfl Tryz.isAgg73 (.obj 2 rfl rfl)) rfl) (aq rfl (fun γ => qp rfl rfl (.v 4 rfl rfl .nil) (q_mkfn rfl rfl rfl) rfl) (aq rfl (fun γ => qm rfl (.v 6 rfl rfl .nil) rfl) (aq rfl (fun γ => qp rfl rfl (.v 7 rfl rfl .nil) (q_ext rfl rfl rfl) rfl) (aq rfl (fun γ => qp rfl rfl (.v 7 rfl rfl .nil) (q_ext rfl rfl rfl) rfl) (aq rfl (fun γ => qp rfl rfl (.v 8 rfl rfl .nil) (q_asg rfl rfl) rfl) (aq rfl (fun γ => qp rfl rfl (.v 9 rfl rfl .nil) (q_asg rfl rfl) rfl) zA)))))))))))
 exact (ac (fun γ => eo (Z := Unit) (fun z => ()) rfl rfl (.v 0 rfl rfl (.v 5 rfl rfl .nil)) (re_call (vs := [.pointer (some ⟨bp0, 0, none⟩), .func (.func 59) #[.pointer (some ⟨bp1, 0, none⟩)] #[], .func (.func 67) #[] #[], .int .i64 23]) (cap := []) (A := [obj bp1 125 [.slice ap1_0 xp1_0.length cp1_0, .int .i64 xp1_1, .int .i64 xp1_2], obj bp0 76 [.pointer (some ⟨bp1, 0, none⟩), .int .i64 xp0_1]]) (rst := [obj b1v 72 [.pointer (some ⟨bp0, 0, none⟩)], obj bp2 58 [.map (some mp2_0), .map (some mp2_1)], mapO mp2_0 enc9 enc9 xp2_0, mapO mp2_1 enc3 enc69 xp2_1, F]) rfl rfl rfl rfl rfl rfl Tryz.call58 (.sel 1 rfl (.sel 1 rfl (.sel 0 rfl (.sel 0 rfl (.sel 0 rfl (.sel 0 rfl (.sel 0 rfl (.nil _)))))))) (kv_is_int_wire_Reader_Int_kv_reader_clients_1.calls _ _ k bp0 bp1 ap1_0 cp1_0 xp1_0 xp1_1 xp1_2 xp0_1 (23 : Int) (hp1_0.lend 4 rfl) hcp1_0 hmp1_0) hs3v) (fun _ => ⟨rfl, rfl, rfl, rfl, rfl, rfl, trivial⟩) (fun _ => .inr rfl) (fun z => Ent.refl _)) zA)
 intro g5v
 refine nrm_then (sr ?_)
 refine simL_eff (re_alloc rfl Tryz.zeroValue3 rfl) rfl rfl rfl ?_
 intro b6v
 refine simL_do (re_store 0 rfl rfl rfl Tryz.sizeOf3 rfl rfl (one_of (by rfl)) rfl rfl) rfl rfl ?_
 intro _
 refine simL_nil (nrm_then ?_)
 refine sim_cut (S := Bool × Int × Int × Int × (List ((Int) × (Ty91)))) (Unit) (fun s y => [(6, .bool s.1)]) (fun s y => [obj bp1 125 [.slice ap1_0 xp1_0.length cp1_0, .int .i64 s.2.1, .int .i64 s.2.2.1], obj bp0 76 [.pointer (some ⟨bp1, 0, none⟩), .int .i64 s.2.2.2.1], obj bp2 58 [.map (some mp2_0), .map (some mp2_1)], mapO mp2_0 enc9 enc9 xp2_0, mapO mp2_1 enc3 enc69 s.2.2.2.2, F]) ?_ ?_
 refine sr ?_
 refine va rfl rfl (simL_nil (nrm_then ?_))
 refine sim_block ?_
 refine sim_loop (S := Bool × Int × Int × Int × Int × Int × (List ((Int) × (Ty91)))) (Unit) (fun k s => kv_reader_clients_s.l0 xp1_0 s2v k s.1 s.2.1 s.2.2.1 s.2.2.2.1 s.2.2.2.2.1 s.2.2.2.2.2.1 s.2.2.2.2.2.2) (fun s y => [(1, .pointer (some ⟨bp2, 0, none⟩)), (2, .pointer (some ⟨b1v, 0, none⟩)), (5, .int .i64 s2v.1), (6, .bool s.1), (7, .pointer (some ⟨b6v, 0, none⟩)), (8, .int .i64 s.2.1)]) (fun s y => [obj b6v 3 [.int .i64 s.2.2.1], obj bp1 125 [.slice ap1_0 xp1_0.length cp1_0, .int .i64 s.2.2.2.1, .int .i64 s.2.2.2.2.1], obj bp0 76 [.pointer (some ⟨bp1, 0, none⟩), .int .i64 s.2.2.2.2.2.1], obj b1v 72 [.pointer (some ⟨bp0, 0, none⟩)], obj bp2 58 [.map (some mp2_0), .map (some mp2_1)], mapO mp2_0 enc9 enc9 xp2_0, mapO mp2_1 enc3 enc69 s.2.2.2.2.2.2, F]) (fun _ => by rw [kv_reader_clients_s.l0]) ?_ k (s2v.2.1, 0, 0, s2v.2.2.1, s2v.2.2.2.1, s2v.2.2.2.2, xp2_1) () ⟨rfl, rfl, rfl, rfl, rfl, rfl, trivial⟩ (.sel 0 rfl (.sel 0 rfl (.sel 0 rfl (.sel 0 rfl (.sel 0 rfl (.sel 0 rfl (.sel 0 rfl (.sel 0 rfl (.nil _)))))))))
 intro k s9v y10v
 refine sim_eq (by rw [kv_reader_clients_s.l0]) ?_
 refine sim_seq (sr ?_)
 refine vm rfl rfl ?_
 refine vm rfl rfl ?_
 refine simL_valc (b := s9v.1) (fun hb51v => RQ.sub (E' := [(8, .int .i64 s9v.2.1)]) ⟨rfl, trivial⟩ (q_move rfl rfl)) rfl rfl rfl rfl rfl ?_
 refine simL_valc (b := s9v.1) (fun hb50v => RQ.sub (E' := [(5, .int .i64 s2v.1)]) ⟨rfl, trivial⟩ (q_move rfl rfl)) rfl rfl rfl rfl rfl ?_
 refine simL_valc (b := s9v.1) (fun hb49v => RQ.sub (E' := [(22, .int .i64 s9v.2.1), (23, .int .i64 s2v.1)]) ⟨lk_cv rfl hb49v, lk_cv rfl hb49v, trivial⟩ (q_lss rfl rfl rfl)) rfl rfl rfl rfl rfl ?_
 refine vq (q_and rfl rfl rfl) rfl (simL_nil (nrm_then ?_))
 refine sim_condb rfl (fun h18v => ?_) (fun h19v => ?_)
 refine sim_skip ?_
 refine nrm_then (sim_seq ?_)
 refine sim_block ?_
 refine sr ?_
 refine vq (q_build (v := .agg #[.int .i64 0, .int .i64 0, .int .i64 0, str ([] : List UInt8)]) rfl rfl (fun _ => by kernel_rfl)) rfl ?_
 refine simL_eff (re_alloc rfl Tryz.zeroValue69 rfl) rfl rfl rfl ?_
 intro b20v
 refine simL_do (re_store 0 rfl rfl rfl Tryz.sizeOf69 rfl rfl (one_of (by rfl)) rfl rfl) rfl rfl ?_
 intro _
 refine simL_nil (nrm_then (sim_seq ?_))
 refine sim_bind (fun s21v hs22v => ?_)
 refine sim_draw (Γ := Unit) () [[], [], [1], [1, 2], [1, 2, 3], [1, 2, 3, 4], [], rL 7, rL 8, rL 9, rL 9, rL 10, [0, 1, 2, 3, 4, 5, 6, 7, 8, 9, 11], rL 13] [7, 12] [0, 1, 2, 3, 4, 5, 6, 8, 9, 10, 11, 13] (fun i => [[0], [0], [0], [0], [0], [0], [0], [], [1], [1], [1, 2], [1], [], [2]].getD i []) (fun i => [[], [], [], [], [], [], [], rL 7, [], [], [], [], rL 12, []].getD i []) (fun γ i => [.pointer (some ⟨bp0, 0, none⟩), .pointer (some ⟨bp0, 0, none⟩), .pointer (some ⟨bp0, 0, none⟩), .pointer (some ⟨bp0, 0, none⟩), .pointer (some ⟨bp1, 0, none⟩), .func (.func 59) #[.pointer (some ⟨bp1, 0, none⟩)] #[], .func (.func 68) #[] #[.pointer (some ⟨b6v, 0, none⟩)], .tuple #[.int .i64 s21v.1, .bool s21v.2.1], .tuple #[.int .i64 s21v.1, .bool s21v.2.1], .int .i64 s21v.1, .bool s21v.2.1, .pointer (some ⟨b20v, 0, none⟩), undef, .bool s21v.2.1].getD i undef) (fun j γ => [[obj b20v 69 [.int .i64 0, .int .i64 0, .int .i64 0, str ([] : List UInt8)], obj b6v 3 [.int .i64 s9v.2.2.1], obj bp1 125 [.slice ap1_0 xp1_0.length cp1_0, .int .i64 s9v.2.2.2.1, .int .i64 s9v.2.2.2.2.1], obj bp0 76 [.pointer (some ⟨bp1, 0, none⟩), .int .i64 s9v.2.2.2.2.2.1], obj b1v 72 [.pointer (some ⟨bp0, 0, none⟩)], obj bp2 58 [.map (some mp2_0), .map (some mp2_1)], mapO mp2_0 enc9 enc9 xp2_0, mapO mp2_1 enc3 enc69 s9v.2.2.2.2.2.2, F], [obj bp1 125 [.slice ap1_0 xp1_0.length cp1_0, .int .i64 s21v.2.2.1, .int .i64 s21v.2.2.2.1], obj bp0 76 [.pointer (some ⟨bp1, 0, none⟩), .int .i64 s21v.2.2.2.2], obj b6v 3 [.int .i64 s9v.2.2.1], obj b20v 69 [.int .i64 0, .int .i64 0, .int .i64 0, str ([] : List UInt8)], obj b1v 72 [.pointer (some ⟨bp0, 0, none⟩)], obj bp2 58 [.map (some mp2_0), .map (some mp2_1)], mapO mp2_0 enc9 enc9 xp2_0, mapO mp2_1 enc3 enc69 s9v.2.2.2.2.2.2, F], [obj bp1 125 [.slice ap1_0 xp1_0.length cp1_0, .int .i64 s21v.2.2.1, .int .i64 s21v.2.2.2.1], obj bp0 76 [.pointer (some ⟨bp1, 0, none⟩), .int .i64 s21v.2.2.2.2], obj b6v 3 [.int .i64 s9v.2.2.1], obj b20v 69 [.int .i64 s21v.1, .int .i64 0, .int .i64 0, str ([] : List UInt8)], obj b1v 72 [.pointer (some ⟨bp0, 0, none⟩)], obj bp2 58 [.map (some mp2_0), .map (some mp2_1)], mapO mp2_0 enc9 enc9 xp2_0, mapO mp2_1 enc3 enc69 s9v.2.2.2.2.2.2, F]].getD j []) (fun γ => [(1, .pointer (some ⟨bp2, 0, none⟩)), (2, .pointer (some ⟨b1v, 0, none⟩)), (5, .int .i64 s2v.1), (6, .bool s21v.2.1), (7, .pointer (some ⟨b6v, 0, none⟩)), (8, .int .i64 s9v.2.1), (9, .pointer (some ⟨b20v, 0, none⟩)), (22, cv (s9v.1 == true) (.int .i64 s9v.2.1)), (23, cv (s9v.1 == true) (.int .i64 s2v.1)), (24, cv (s9v.1 == true) (.bool (decide (s9v.2.1 < s2v.1))))]) mixed (by decide) (by decide) (by decide) (by decide) (by decide) (by decide) (by decide) 86 rfl (by decide) (by decide) (by decide) (Ent.refl _) ?_ ?_ (fun _ => ⟨rfl, rfl, rfl, rfl, rfl, rfl, rfl, rfl, rfl, rfl, trivial⟩) ?_
 exact (aq rfl (fun γ => qp rfl rfl (.o (s := 2) rfl (by decide) .nil) (q_load rfl rfl Tryz.isAgg72 (.obj 4 rfl rfl)) rfl) (aq rfl (fun γ => qp rfl rfl (.o (s := 2) rfl (by decide) .nil) (q_load rfl rfl Tryz.isAgg72 (.obj 4 rfl rfl)) rfl) (aq rfl (fun γ => qp rfl rfl (.v 1 rfl rfl .nil) (q_nil rfl rfl) rfl) (aq rfl (fun γ => qp rfl rfl (.v 2 rfl rfl .nil) (q_fa rfl rfl Tryz.underlying76 rfl rfl Tryz.sizeOf73 rfl) rfl) (aq rfl (fun γ => qp rfl rfl (.v 3 rfl rfl .nil) (q_load rfl rfl Tryz.isAgg73 (.obj 3 rfl rfl)) rfl) (aq rfl (fun γ => qp rfl rfl (.v 4 rfl rfl .nil) (q_mkfn rfl rfl rfl) rfl) (aq rfl (fun γ => qp rfl rfl (.o (s := 7) rfl (by decide) .nil) (q_mkfn rfl rfl rfl) rfl) (aq rfl (fun γ => qm rfl (.v 7 rfl rfl .nil) rfl) (aq rfl (fun γ => qp rfl rfl (.v 8 rfl rfl .nil) (q_ext rfl rfl rfl) rfl) (ac (fun γ => (ac (qp rfl rfl (.v 8 rfl rfl .nil) (q_ext rfl rfl rfl) rfl) (ac (qp rfl rfl (.v 8 rfl rfl .nil) (q_ext rfl rfl rfl) rfl) zA))) (aq rfl (fun γ => qp rfl rfl (.o (s := 9) rfl (by decide) .nil) (q_fa rfl rfl Tryz.underlying69 rfl rfl Tryz.sizeOf3 rfl) rfl) (aq rfl (fun γ => qp rfl rfl (.v 10 rfl rfl .nil) (q_asg rfl rfl) rfl) zA))))))))))))
 exact (ac (fun γ => eo (Z := Unit) (fun z => ()) rfl rfl (.v 0 rfl rfl (.v 5 rfl rfl (.v 6 rfl rfl .nil))) (re_call (vs := [.pointer (some ⟨bp0, 0, none⟩), .func (.func 59) #[.pointer (some ⟨bp1, 0, none⟩)] #[], .func (.func 68) #[] #[.pointer (some ⟨b6v, 0, none⟩)], .int .i64 4]) (cap := []) (A := [obj bp1 125 [.slice ap1_0 xp1_0.length cp1_0, .int .i64 s9v.2.2.2.1, .int .i64 s9v.2.2.2.2.1], obj bp0 76 [.pointer (some ⟨bp1, 0, none⟩), .int .i64 s9v.2.2.2.2.2.1], obj b6v 3 [.int .i64 s9v.2.2.1]]) (rst := [obj b20v 69 [.int .i64 0, .int .i64 0, .int .i64 0, str ([] : List UInt8)], obj b1v 72 [.pointer (some ⟨bp0, 0, none⟩)], obj bp2 58 [.map (some mp2_0), .map (some mp2_1)], mapO mp2_0 enc9 enc9 xp2_0, mapO mp2_1 enc3 enc69 s9v.2.2.2.2.2.2, F]) rfl rfl rfl rfl rfl rfl Tryz.call58 (.sel 2 rfl (.sel 2 rfl (.sel 1 rfl (.sel 0 rfl (.sel 0 rfl (.sel 0 rfl (.sel 0 rfl (.sel 0 rfl (.sel 0 rfl (.nil _)))))))))) (kv_is_int_wire_Reader_Int_kv_reader_clients_2.calls _ _ k bp0 bp1 ap1_0 cp1_0 xp1_0 s9v.2.2.2.1 s9v.2.2.2.2.1 s9v.2.2.2.2.2.1 b6v s9v.2.2.1 (4 : Int) (hp1_0.lend 5 rfl) hcp1_0 hmp1_0) hs22v) (fun _ => ⟨rfl, rfl, rfl, rfl, rfl, rfl, rfl, trivial⟩) (fun _ => .inr rfl) (fun z => Ent.refl _)) (ac (fun γ => eo (Z := Unit) (fun z => ()) rfl rfl (.v 9 rfl rfl (.v 11 rfl rfl .nil)) (re_store 3 rfl rfl rfl Tryz.sizeOf3 rfl rfl (one_of (by rfl)) rfl rfl) (fun _ => ⟨rfl, rfl, rfl, rfl, rfl, rfl, rfl, rfl, rfl, rfl, rfl, rfl, trivial⟩) (fun _ => .inl rfl) (fun z => Ent.refl _)) zA))
 intro g24v
 refine nrm_then ?_
 refine sim_cut (S := Bool × Int × Int × Int × Int) (Unit) (fun s y => [(1, .pointer (some ⟨bp2, 0, none⟩)), (2, .pointer (some ⟨b1v, 0, none⟩)), (5, .int .i64 s2v.1), (6, .bool s.1), (7, .pointer (some ⟨b6v, 0, none⟩)), (8, .int .i64 s9v.2.1), (9, .pointer (some ⟨b20v, 0, none⟩))]) (fun s y => [obj bp1 125 [.slice ap1_0 xp1_0.length cp1_0, .int .i64 s.2.1, .int .i64 s.2.2.1], obj bp0 76 [.pointer (some ⟨bp1, 0, none⟩), .int .i64 s.2.2.2.1], obj b6v 3 [.int .i64 s9v.2.2.1], obj b20v 69 [.int .i64 s21v.1, .int .i64 s.2.2.2.2, .int .i64 0, str ([] : List UInt8)], obj b1v 72 [.pointer (some ⟨bp0, 0, none⟩)], obj bp2 58 [.map (some mp2_0), .map (some mp2_1)], mapO mp2_0 enc9 enc9 xp2_0, mapO mp2_1 enc3 enc69 s9v.2.2.2.2.2.2, F]) ?_ ?_
 refine sr ?_
 refine vm rfl rfl (simL_nil (nrm_then ?_))
 refine sim_condb rfl (fun h27v => ?_) (fun h28v => ?_)
 refine sim_bind (fun s29v hs30v => ?_)
 refine sim_draw (Γ := Unit) () [[], [], [1], [1, 2], [1, 2, 3], [1, 2, 3, 4], rL 6, rL 7, rL 8, rL 8, rL 9, [0, 1, 2, 3, 4, 5, 6, 7, 8, 10], rL 12] [6, 11] [0, 1, 2, 3, 4, 5, 7, 8, 9, 10, 12] (fun i => [[0], [0], [0], [0], [0], [0], [], [1], [1], [1, 2], [1], [], [2]].getD i []) (fun i => [[], [], [], [], [], [], rL 6, [], [], [], [], rL 11, []].getD i []) (fun γ i => [.pointer (some ⟨bp0, 0, none⟩), .pointer (some ⟨bp0, 0, none⟩), .pointer (some ⟨bp0, 0, none⟩), .pointer (some ⟨bp0, 0, none⟩), .pointer (some ⟨bp1, 0, none⟩), .func (.func 59) #[.pointer (some ⟨bp1, 0, none⟩)] #[], .tuple #[.int .i64 s29v.1, .bool s29v.2.1], .tuple #[.int .i64 s29v.1, .bool s29v.2.1], .int .i64 s29v.1, .bool s29v.2.1, .pointer (some ⟨b20v, 1, none⟩), undef, .bool s29v.2.1].getD i undef) (fun j γ => [[obj bp1 125 [.slice ap1_0 xp1_0.length cp1_0, .int .i64 s21v.2.2.1, .int .i64 s21v.2.2.2.1], obj bp0 76 [.pointer (some ⟨bp1, 0, none⟩), .int .i64 s21v.2.2.2.2], obj b6v 3 [.int .i64 s9v.2.2.1], obj b20v 69 [.int .i64 s21v.1, .int .i64 0, .int .i64 0, str ([] : List UInt8)], obj b1v 72 [.pointer (some ⟨bp0, 0, none⟩)], obj bp2 58 [.map (some mp2_0), .map (some mp2_1)], mapO mp2_0 enc9 enc9 xp2_0, mapO mp2_1 enc3 enc69 s9v.2.2.2.2.2.2, F], [obj bp1 125 [.slice ap1_0 xp1_0.length cp1_0, .int .i64 s29v.2.2.1, .int .i64 s29v.2.2.2.1], obj bp0 76 [.pointer (some ⟨bp1, 0, none⟩), .int .i64 s29v.2.2.2.2], obj b6v 3 [.int .i64 s9v.2.2.1], obj b20v 69 [.int .i64 s21v.1, .int .i64 0, .int .i64 0, str ([] : List UInt8)], obj b1v 72 [.pointer (some ⟨bp0, 0, none⟩)], obj bp2 58 [.map (some mp2_0), .map (some mp2_1)], mapO mp2_0 enc9 enc9 xp2_0, mapO mp2_1 enc3 enc69 s9v.2.2.2.2.2.2, F], [obj bp1 125 [.slice ap1_0 xp1_0.length cp1_0, .int .i64 s29v.2.2.1, .int .i64 s29v.2.2.2.1], obj bp0 76 [.pointer (some ⟨bp1, 0, none⟩), .int .i64 s29v.2.2.2.2], obj b6v 3 [.int .i64 s9v.2.2.1], obj b20v 69 [.int .i64 s21v.1, .int .i64 s29v.1, .int .i64 0, str ([] : List UInt8)], obj b1v 72 [.pointer (some ⟨bp0, 0, none⟩)], obj bp2 58 [.map (some mp2_0), .map (some mp2_1)], mapO mp2_0 enc9 enc9 xp2_0, mapO mp2_1 enc3 enc69 s9v.2.2.2.2.2.2, F]].getD j []) (fun γ => [(1, .pointer (some ⟨bp2, 0, none⟩)), (2, .pointer (some ⟨b1v, 0, none⟩)), (5, .int .i64 s2v.1), (6, .bool s29v.2.1), (7, .pointer (some ⟨b6v, 0, none⟩)), (8, .int .i64 s9v.2.1), (9, .pointer (some ⟨b20v, 0, none⟩)), (22, cv (s9v.1 == true) (.int .i64 s9v.2.1)), (23, cv (s9v.1 == true) (.int .i64 s2v.1)), (24, cv (s9v.1 == true) (.bool (decide (s9v.2.1 < s2v.1))))]) mixed (by decide) (by decide) (by decide) (by decide) (by decide) (by decide) (by decide) 86 rfl (by decide) (by decide) (by decide) (Ent.refl _) ?_ ?_ (fun _ => ⟨rfl, rfl, rfl, rfl, rfl, rfl, rfl, rfl, rfl, rfl, trivial⟩) ?_
 exact (aq rfl (fun γ => qp rfl rfl (.o (s := 2) rfl (by decide) .nil) (q_load rfl rfl Tryz.isAgg72 (.obj 4 rfl rfl)) rfl) (aq rfl (fun γ => qp rfl rfl (.o (s := 2) rfl (by decide) .nil) (q_load rfl rfl Tryz.isAgg72 (.obj 4 rfl rfl)) rfl) (aq rfl (fun γ => qp rfl rfl (.v 1 rfl rfl .nil) (q_nil rfl rfl) rfl) (aq rfl (fun γ => qp rfl rfl (.v 2 rfl rfl .nil) (q_fa rfl rfl Tryz.underlying76 rfl rfl Tryz.sizeOf73 rfl) rfl) (aq rfl (fun γ => qp rfl rfl (.v 3 rfl rfl .nil) (q_load rfl rfl Tryz.isAgg73 (.obj 1 rfl rfl)) rfl) (aq rfl (fun γ => qp rfl rfl (.v 4 rfl rfl .nil) (q_mkfn rfl rfl rfl) rfl) (aq rfl (fun γ => qm rfl (.v 6 rfl rfl .nil) rfl) (aq rfl (fun γ => qp rfl rfl (.v 7 rfl rfl .nil) (q_ext rfl rfl rfl) rfl) (ac (fun γ => (ac (qp rfl rfl (.v 7 rfl rfl .nil) (q_ext rfl rfl rfl) rfl) (ac (qp rfl rfl (.v 7 rfl rfl .nil) (q_ext rfl rfl rfl) rfl) zA))) (aq rfl (fun γ => qp rfl rfl (.o (s := 9) rfl (by decide) .nil) (q_fa rfl rfl Tryz.underlying69 rfl rfl Tryz.sizeOf3 rfl) rfl) (aq rfl (fun γ => qp rfl rfl (.v 9 rfl rfl .nil) (q_asg rfl rfl) rfl) zA)))))))))))
 exact (ac (fun γ => eo (Z := Unit) (fun z => ()) rfl rfl (.v 0 rfl rfl (.v 5 rfl rfl .nil)) (re_call (vs := [.pointer (some ⟨bp0, 0, none⟩), .func (.func 59) #[.pointer (some ⟨bp1, 0, none⟩)] #[], .func (.func 69) #[] #[], .int .i64 4]) (cap := []) (A := [obj bp1 125 [.slice ap1_0 xp1_0.length cp1_0, .int .i64 s21v.2.2.1, .int .i64 s21v.2.2.2.1], obj bp0 76 [.pointer (some ⟨bp1, 0, none⟩), .int .i64 s21v.2.2.2.2]]) (rst := [obj b6v 3 [.int .i64 s9v.2.2.1], obj b20v 69 [.int .i64 s21v.1, .int .i64 0, .int .i64 0, str ([] : List UInt8)], obj b1v 72 [.pointer (some ⟨bp0, 0, none⟩)], obj bp2 58 [.map (some mp2_0), .map (some mp2_1)], mapO mp2_0 enc9 enc9 xp2_0, mapO mp2_1 enc3 enc69 s9v.2.2.2.2.2.2, F]) rfl rfl rfl rfl rfl rfl Tryz.call58 (.sel 0 rfl (.sel 0 rfl (.sel 0 rfl (.sel 0 rfl (.sel 0 rfl (.sel 0 rfl (.sel 0 rfl (.sel 0 rfl (.sel 0 rfl (.nil _)))))))))) (kv_is_int_wire_Reader_Int_kv_reader_clients_3.calls _ _ k bp0 bp1 ap1_0 cp1_0 xp1_0 s21v.2.2.1 s21v.2.2.2.1 s21v.2.2.2.2 (4 : Int) (hp1_0.lend 6 rfl) hcp1_0 hmp1_0) hs30v) (fun _ => ⟨rfl, rfl, rfl, rfl, rfl, rfl, trivial⟩) (fun _ => .inr rfl) (fun z => Ent.refl _)) (ac (fun γ => eo (Z := Unit) (fun z => ()) rfl rfl (.v 8 rfl rfl (.v 10 rfl rfl .nil)) (re_store 3 rfl rfl rfl Tryz.sizeOf3 rfl rfl (one_of (by rfl)) rfl rfl) (fun _ => ⟨rfl, rfl, rfl, rfl, rfl, rfl, rfl, rfl, rfl, rfl, rfl, trivial⟩) (fun _ => .inl rfl) (fun z => Ent.refl _)) zA))
 intro g32v
 exact nrm_cut (s := (s29v.2.1, s29v.2.2.1, s29v.2.2.2.1, s29v.2.2.2.2, s29v.1)) () ⟨rfl, rfl, rfl, rfl, rfl, rfl, rfl, trivial⟩ (.sel 0 rfl (.sel 0 rfl (.sel 0 rfl (.sel 0 rfl (.sel 0 rfl (.sel 0 rfl (.sel 0 rfl (.sel 0 rfl (.sel 0 rfl (.nil _))))))))))
 refine sim_skip ?_
 exact nrm_cut (s := (s21v.2.1, s21v.2.2.1, s21v.2.2.2.1, s21v.2.2.2.2, 0)) () ⟨rfl, rfl, rfl, rfl, rfl, rfl, rfl, trivial⟩ (.sel 0 rfl (.sel 0 rfl (.sel 0 rfl (.sel 0 rfl (.sel 0 rfl (.sel 0 rfl (.sel 0 rfl (.sel 0 rfl (.sel 0 rfl (.nil _))))))))))
 intro s25v y26v
 refine sim_cut (S := Bool × Int × Int × Int × Int) (Unit) (fun s y => [(1, .pointer (some ⟨bp2, 0, none⟩)), (2, .pointer (some ⟨b1v, 0, none⟩)), (5, .int .i64 s2v.1), (6, .bool s.1), (7, .pointer (some ⟨b6v, 0, none⟩)), (8, .int .i64 s9v.2.1), (9, .pointer (some ⟨b20v, 0, none⟩))]) (fun s y => [obj bp1 125 [.slice ap1_0 xp1_0.length cp1_0, .int .i64 s.2.1, .int .i64 s.2.2.1], obj bp0 76 [.pointer (some ⟨bp1, 0, none⟩), .int .i64 s.2.2.2.1], obj b6v 3 [.int .i64 s9v.2.2.1], obj b20v 69 [.int .i64 s21v.1, .int .i64 s25v.2.2.2.2, .int .i64 s.2.2.2.2, str ([] : List UInt8)], obj b1v 72 [.pointer (some ⟨bp0, 0, none⟩)], obj bp2 58 [.map (some mp2_0), .map (some mp2_1)], mapO mp2_0 enc9 enc9 xp2_0, mapO mp2_1 enc3 enc69 s9v.2.2.2.2.2.2, F]) ?_ ?_
 refine sr ?_
 refine vm rfl rfl (simL_nil (nrm_then ?_))
 refine sim_condb rfl (fun h35v => ?_) (fun h36v => ?_)
 refine sim_bind (fun s37v hs38v => ?_)
 refine sim_draw (Γ := Unit) () [[], [], [1], [1, 2], [1, 2, 3], [1, 2, 3, 4], rL 6, rL 7, rL 8, rL 8, rL 9, [0, 1, 2, 3, 4, 5, 6, 7, 8, 10], [0, 1, 2, 3, 4, 5, 6, 7, 8, 10, 11], rL 13] [6, 12] [0, 1, 2, 3, 4, 5, 7, 8, 9, 10, 11, 13] (fun i => [[0], [0], [0], [0], [0], [0], [], [1], [1], [1, 2], [1], [1], [], [2]].getD i []) (fun i => [[], [], [], [], [], [], rL 6, [], [], [], [], [], rL 12, []].getD i []) (fun γ i => [.pointer (some ⟨bp0, 0, none⟩), .pointer (some ⟨bp0, 0, none⟩), .pointer (some ⟨bp0, 0, none⟩), .pointer (some ⟨bp0, 0, none⟩), .pointer (some ⟨bp1, 0, none⟩), .func (.func 59) #[.pointer (some ⟨bp1, 0, none⟩)] #[], .tuple #[.int .i64 s37v.1, .bool s37v.2.1], .tuple #[.int .i64 s37v.1, .bool s37v.2.1], .int .i64 s37v.1, .bool s37v.2.1, .pointer (some ⟨b20v, 2, none⟩), .pointer (some ⟨b20v, 2, none⟩), undef, .bool s37v.2.1].getD i undef) (fun j γ => [[obj bp1 125 [.slice ap1_0 xp1_0.length cp1_0, .int .i64 s25v.2.1, .int .i64 s25v.2.2.1], obj bp0 76 [.pointer (some ⟨bp1, 0, none⟩), .int .i64 s25v.2.2.2.1], obj b6v 3 [.int .i64 s9v.2.2.1], obj b20v 69 [.int .i64 s21v.1, .int .i64 s25v.2.2.2.2, .int .i64 0, str ([] : List UInt8)], obj b1v 72 [.pointer (some ⟨bp0, 0, none⟩)], obj bp2 58 [.map (some mp2_0), .map (some mp2_1)], mapO mp2_0 enc9 enc9 xp2_0, mapO mp2_1 enc3 enc69 s9v.2.2.2.2.2.2, F], [obj bp1 125 [.slice ap1_0 xp1_0.length cp1_0, .int .i64 s37v.2.2.1, .int .i64 s37v.2.2.2.1], obj bp0 76 [.pointer (some ⟨bp1, 0, none⟩), .int .i64 s37v.2.2.2.2], obj b6v 3 [.int .i64 s9v.2.2.1], obj b20v 69 [.int .i64 s21v.1, .int .i64 s25v.2.2.2.2, .int .i64 0, str ([] : List UInt8)], obj b1v 72 [.pointer (some ⟨bp0, 0, none⟩)], obj bp2 58 [.map (some mp2_0), .map (some mp2_1)], mapO mp2_0 enc9 enc9 xp2_0, mapO mp2_1 enc3 enc69 s9v.2.2.2.2.2.2, F], [obj bp1 125 [.slice ap1_0 xp1_0.length cp1_0, .int .i64 s37v.2.2.1, .int .i64 s37v.2.2.2.1], obj bp0 76 [.pointer (some ⟨bp1, 0, none⟩), .int .i64 s37v.2.2.2.2], obj b6v 3 [.int .i64 s9v.2.2.1], obj b20v 69 [.int .i64 s21v.1, .int .i64 s25v.2.2.2.2, .int .i64 s37v.1, str ([] : List UInt8)], obj b1v 72 [.pointer (some ⟨bp0, 0, none⟩)], obj bp2 58 [.map (some mp2_0), .map (some mp2_1)], mapO mp2_0 enc9 enc9 xp2_0, mapO mp2_1 enc3 enc69 s9v.2.2.2.2.2.2, F]].getD j []) (fun γ => [(1, .pointer (some ⟨bp2, 0, none⟩)), (2, .pointer (some ⟨b1v, 0, none⟩)), (5, .int .i64 s2v.1), (6, .bool s37v.2.1), (7, .pointer (some ⟨b6v, 0, none⟩)), (8, .int .i64 s9v.2.1), (9, .pointer (some ⟨b20v, 0, none⟩))]) mixed (by decide) (by decide) (by decide) (by decide) (by decide) (by decide) (by decide) 86 rfl (by decide) (by decide) (by decide) (Ent.refl _) ?_ ?_ (fun _ => ⟨rfl, rfl, rfl, rfl, rfl, rfl, rfl, trivial⟩) ?_
 exact (aq rfl (fun γ => qp rfl rfl (.o (s := 2) rfl (by decide) .nil) (q_load rfl rfl Tryz.isAgg72 (.obj 4 rfl rfl)) rfl) (aq rfl (fun γ => qp rfl rfl (.o (s := 2) rfl (by decide) .nil) (q_load rfl rfl Tryz.isAgg72 (.obj 4 rfl rfl)) rfl) (aq rfl (fun γ => qp rfl rfl (.v 1 rfl rfl .nil) (q_nil rfl rfl) rfl) (aq rfl (fun γ => qp rfl rfl (.v 2 rfl rfl .nil) (q_fa rfl rfl Tryz.underlying76 rfl rfl Tryz.sizeOf73 rfl) rfl) (aq rfl (fun γ => qp rfl rfl (.v 3 rfl rfl .nil) (q_load rfl rfl Tryz.isAgg73 (.obj 1 rfl rfl)) rfl) (aq rfl (fun γ => qp rfl rfl (.v 4 rfl rfl .nil) (q_mkfn rfl rfl rfl) rfl) (aq rfl (fun γ => qm rfl (.v 6 rfl rfl .nil) rfl) (aq rfl (fun γ => qp rfl rfl (.v 7 rfl rfl .nil) (q_ext rfl rfl rfl) rfl) (ac (fun γ => (ac (qp rfl rfl (.v 7 rfl rfl .nil) (q_ext rfl rfl rfl) rfl) (ac (qp rfl rfl (.v 7 rfl rfl .nil) (q_ext rfl rfl rfl) rfl) zA))) (aq rfl (fun γ => qp rfl rfl (.o (s := 9) rfl (by decide) .nil) (q_fa rfl rfl Tryz.underlying69 rfl rfl Tryz.sizeOf45 rfl) rfl) (aq rfl (fun γ => qp rfl rfl (.v 10 rfl rfl .nil) (q_fa rfl rfl Tryz.underlying45 rfl rfl Tryz.sizeOf3 rfl) rfl) (aq rfl (fun γ => qp rfl rfl (.v 9 rfl rfl .nil) (q_asg rfl rfl) rfl) zA))))))))))))
 exact (ac (fun γ => eo (Z := Unit) (fun z => ()) rfl rfl (.v 0 rfl rfl (.v 5 rfl rfl .nil)) (re_call (vs := [.pointer (some ⟨bp0, 0, none⟩), .func (.func 59) #[.pointer (some ⟨bp1, 0, none⟩)] #[], .func (.func 70) #[] #[], .int .i64 4]) (cap := []) (A := [obj bp1 125 [.slice ap1_0 xp1_0.length cp1_0, .int .i64 s25v.2.1, .int .i64 s25v.2.2.1], obj bp0 76 [.pointer (some ⟨bp1, 0, none⟩), .int .i64 s25v.2.2.2.1]]) (rst := [obj b6v 3 [.int .i64 s9v.2.2.1], obj b20v 69 [.int .i64 s21v.1, .int .i64 s25v.2.2.2.2, .int .i64 0, str ([] : List UInt8)], obj b1v 72 [.pointer (some ⟨bp0, 0, none⟩)], obj bp2 58 [.map (some mp2_0), .map (some mp2_1)], mapO mp2_0 enc9 enc9 xp2_0, mapO mp2_1 enc3 enc69 s9v.2.2.2.2.2.2, F]) rfl rfl rfl rfl rfl rfl Tryz.call58 (.sel 0 rfl (.sel 0 rfl (.sel 0 rfl (.sel 0 rfl (.sel 0 rfl (.sel 0 rfl (.sel 0 rfl (.sel 0 rfl (.sel 0 rfl (.nil _)))))))))) (kv_is_int_wire_Reader_Int_kv_kept.calls _ _ k bp0 bp1 ap1_0 cp1_0 xp1_0 s25v.2.1 s25v.2.2.1 s25v.2.2.2.1 (4 : Int) (hp1_0.lend 6 rfl) hcp1_0 hmp1_0) hs38v) (fun _ => ⟨rfl, rfl, rfl, rfl, rfl, rfl, trivial⟩) (fun _ => .inr rfl) (fun z => Ent.refl _)) (ac (fun γ => eo (Z := Unit) (fun z => ()) rfl rfl (.v 8 rfl rfl (.v 11 rfl rfl .nil)) (re_store 3 rfl rfl rfl Tryz.sizeOf3 rfl rfl (one_of (by rfl)) rfl rfl) (fun _ => ⟨rfl, rfl, rfl, rfl, rfl, rfl, rfl, rfl, rfl, rfl, rfl, rfl, trivial⟩) (fun _ => .inl rfl) (fun z => Ent.refl _)) zA))
 intro g40v
 exact nrm_cut (s := (s37v.2.1, s37v.2.2.1, s37v.2.2.2.1, s37v.2.2.2.2, s37v.1)) () ⟨rfl, rfl, rfl, rfl, rfl, rfl, rfl, trivial⟩ (.sel 0 rfl (.sel 0 rfl (.sel 0 rfl (.sel 0 rfl (.sel 0 rfl (.sel 0 rfl (.sel 0 rfl (.sel 0 rfl (.sel 0 rfl (.nil _))))))))))
 refine sim_skip ?_
 exact nrm_cut (s := (s25v.1, s25v.2.1, s25v.2.2.1, s25v.2.2.2.1, 0)) () ⟨rfl, rfl, rfl, rfl, rfl, rfl, rfl, trivial⟩ (.sel 0 rfl (.sel 0 rfl (.sel 0 rfl (.sel 0 rfl (.sel 0 rfl (.sel 0 rfl (.sel 0 rfl (.sel 0 rfl (.sel 0 rfl (.nil _))))))))))
 intro s33v y34v
 refine sim_cut (S := Bool × Int × Int × Int × List UInt8) (Unit) (fun s y => [(1, .pointer (some ⟨bp2, 0, none⟩)), (2, .pointer (some ⟨b1v, 0, none⟩)), (5, .int .i64 s2v.1), (6, .bool s.1), (7, .pointer (some ⟨b6v, 0, none⟩)), (8, .int .i64 s9v.2.1), (9, .pointer (some ⟨b20v, 0, none⟩))]) (fun s y => [obj bp1 125 [.slice ap1_0 xp1_0.length cp1_0, .int .i64 s.2.1, .int .i64 s.2.2.1], obj bp0 76 [.pointer (some ⟨bp1, 0, none⟩), .int .i64 s.2.2.2.1], obj b1v 72 [.pointer (some ⟨bp0, 0, none⟩)], obj b20v 69 [.int .i64 s21v.1, .int .i64 s25v.2.2.2.2, .int .i64 s33v.2.2.2.2, str s.2.2.2.2], obj b6v 3 [.int .i64 s9v.2.2.1], obj bp2 58 [.map (some mp2_0), .map (some mp2_1)], mapO mp2_0 enc9 enc9 xp2_0, mapO mp2_1 enc3 enc69 s9v.2.2.2.2.2.2, F]) ?_ ?_
 refine sr ?_
 refine vm rfl rfl (simL_nil (nrm_then ?_))
 refine sim_condb rfl (fun h43v => ?_) (fun h44v => ?_)
 refine sim_region ?_
 refine vq (q_load rfl rfl Tryz.isAgg72 (.obj 4 rfl rfl)) rfl ?_
 refine vq (q_mkfn rfl rfl rfl) rfl ?_
 refine vq (q_mkfn rfl rfl rfl) rfl ?_
 refine simL_bind (fun s45v hs46v => ?_)
 refine simL_eff (re_call (vs := [.pointer (some ⟨bp0, 0, none⟩), .func (.func 71) #[] #[.pointer (some ⟨b1v, 0, none⟩)], .func (.func 72) #[] #[.pointer (some ⟨b20v, 0, none⟩)], .int .i64 4]) (cap := []) (A := [obj bp1 125 [.slice ap1_0 xp1_0.length cp1_0, .int .i64 s33v.2.1, .int .i64 s33v.2.2.1], obj bp0 76 [.pointer (some ⟨bp1, 0, none⟩), .int .i64 s33v.2.2.2.1], obj b1v 72 [.pointer (some ⟨bp0, 0, none⟩)], obj b20v 69 [.int .i64 s21v.1, .int .i64 s25v.2.2.2.2, .int .i64 s33v.2.2.2.2, str ([] : List UInt8)]]) (rst := [obj b6v 3 [.int .i64 s9v.2.2.1], obj bp2 58 [.map (some mp2_0), .map (some mp2_1)], mapO mp2_0 enc9 enc9 xp2_0, mapO mp2_1 enc3 enc69 s9v.2.2.2.2.2.2, F]) rfl rfl rfl rfl rfl rfl Tryz.call61 (.sel 0 rfl (.sel 0 rfl (.sel 2 rfl (.sel 1 rfl (.sel 0 rfl (.sel 0 rfl (.sel 0 rfl (.sel 0 rfl (.sel 0 rfl (.nil _)))))))))) (kv_is_string_kv_reader_clients_4_kv_reader_clients_5.calls _ _ k bp0 bp1 ap1_0 cp1_0 xp1_0 s33v.2.1 s33v.2.2.1 s33v.2.2.2.1 b1v b20v s21v.1 s25v.2.2.2.2 s33v.2.2.2.2 ([] : List UInt8) (4 : Int) (hp1_0.lend 4 rfl) hcp1_0 hmp1_0) hs46v) rfl rfl rfl ?_
 intro y47v
 refine vm rfl rfl ?_
 refine vq (q_ext rfl rfl rfl) rfl ?_
 refine vq (q_ext rfl rfl rfl) rfl ?_
 refine vq (q_fa rfl rfl Tryz.underlying69 rfl rfl Tryz.sizeOf45 rfl) rfl ?_
 refine vq (q_fa rfl rfl Tryz.underlying45 rfl rfl Tryz.sizeOf9 rfl) rfl ?_
 refine simL_do (re_store 3 rfl rfl rfl Tryz.sizeOf9 rfl rfl (one_of (by rfl)) rfl rfl) rfl rfl ?_
 intro _
 refine va rfl rfl (simL_nil ?_)
 exact nrm_cut (s := (s45v.2.1, s45v.2.2.1, s45v.2.2.2.1, s45v.2.2.2.2, s45v.1)) () ⟨rfl, rfl, rfl, rfl, rfl, rfl, rfl, trivial⟩ (.sel 0 rfl (.sel 0 rfl (.sel 0 rfl (.sel 0 rfl (.sel 0 rfl (.sel 0 rfl (.sel 0 rfl (.sel 0 rfl (.sel 0 rfl (.nil _))))))))))
 refine sim_skip ?_
 exact nrm_cut (s := (s33v.1, s33v.2.1, s33v.2.2.1, s33v.2.2.2.1, ([] : List UInt8))) () ⟨rfl, rfl, rfl, rfl, rfl, rfl, rfl, trivial⟩ (.sel 0 rfl (.sel 0 rfl (.sel 2 rfl (.sel 1 rfl (.sel 0 rfl (.sel 0 rfl (.sel 0 rfl (.sel 0 rfl (.sel 0 rfl (.nil _))))))))))
 intro s41v y42v
 refine sr ?_
 refine vq (q_fa rfl rfl Tryz.underlying69 rfl rfl Tryz.sizeOf3 rfl) rfl ?_
 refine vq (q_load rfl rfl Tryz.isAgg3 (.obj 3 rfl rfl)) rfl ?_
 refine simL_do (re_store 4 rfl rfl rfl Tryz.sizeOf3 rfl rfl (one_of (by rfl)) rfl rfl) rfl rfl ?_
 intro _
 refine simL_nil (nrm_then ?_)
 refine sim_draw (Γ := Unit) () [[], [0], [0, 1], [0, 1, 2], [], [4], [], rL 7] [7] [0, 1, 2, 3, 4, 5, 6] (fun i => [[0], [0], [0], [0], [0], [0], [0], []].getD i []) (fun i => [[], [], [], [], [], [], [], rL 7].getD i []) (fun γ i => [.pointer (some ⟨bp2, 0, none⟩), .pointer (some ⟨bp2, 0, none⟩), .pointer (some ⟨bp2, 1, none⟩), .map (some mp2_1), .pointer (some ⟨b20v, 0, none⟩), .int .i64 s21v.1, .agg #[.int .i64 s21v.1, .int .i64 s25v.2.2.2.2, .int .i64 s33v.2.2.2.2, str s41v.2.2.2.2], undef].getD i undef) (fun j γ => [[obj bp1 125 [.slice ap1_0 xp1_0.length cp1_0, .int .i64 s41v.2.1, .int .i64 s41v.2.2.1], obj bp0 76 [.pointer (some ⟨bp1, 0, none⟩), .int .i64 s41v.2.2.2.1], obj b1v 72 [.pointer (some ⟨bp0, 0, none⟩)], obj b20v 69 [.int .i64 s21v.1, .int .i64 s25v.2.2.2.2, .int .i64 s33v.2.2.2.2, str s41v.2.2.2.2], obj b6v 3 [.int .i64 s21v.1], obj bp2 58 [.map (some mp2_0), .map (some mp2_1)], mapO mp2_0 enc9 enc9 xp2_0, mapO mp2_1 enc3 enc69 s9v.2.2.2.2.2.2, F], [obj bp1 125 [.slice ap1_0 xp1_0.length cp1_0, .int .i64 s41v.2.1, .int .i64 s41v.2.2.1], obj bp0 76 [.pointer (some ⟨bp1, 0, none⟩), .int .i64 s41v.2.2.2.1], obj b1v 72 [.pointer (some ⟨bp0, 0, none⟩)], obj b20v 69 [.int .i64 s21v.1, .int .i64 s25v.2.2.2.2, .int .i64 s33v.2.2.2.2, str s41v.2.2.2.2], obj b6v 3 [.int .i64 s21v.1], obj bp2 58 [.map (some mp2_0), .map (some mp2_1)], mapO mp2_0 enc9 enc9 xp2_0, mapO mp2_1 enc3 enc69 (mput s9v.2.2.2.2.2.2 s21v.1 (s21v.1, s25v.2.2.2.2, s33v.2.2.2.2, s41v.2.2.2.2)), F]].getD j []) (fun γ => [(1, .pointer (some ⟨bp2, 0, none⟩)), (2, .pointer (some ⟨b1v, 0, none⟩)), (5, .int .i64 s2v.1), (6, .bool s41v.1), (7, .pointer (some ⟨b6v, 0, none⟩)), (8, .int .i64 s9v.2.1)]) mixed (by decide) (by decide) (by decide) (by decide) (by decide) (by decide) (by decide) 86 rfl (by decide) (by decide) (by decide) (Ent.refl _) ?_ ?_ (fun _ => ⟨rfl, rfl, rfl, rfl, rfl, rfl, trivial⟩) ?_
 exact (aq rfl (fun γ => qm rfl (.o (s := 1) rfl (by decide) .nil) rfl) (aq rfl (fun γ => qp rfl rfl (.v 0 rfl rfl .nil) (q_nil rfl rfl) rfl) (aq rfl (fun γ => qp rfl rfl (.v 1 rfl rfl .nil) (q_fa rfl rfl Tryz.underlying58 rfl rfl Tryz.sizeOf56 rfl) rfl) (aq rfl (fun γ => qp rfl rfl (.v 2 rfl rfl .nil) (q_load rfl rfl Tryz.isAgg56 (.obj 5 rfl rfl)) rfl) (aq rfl (fun γ => qp rfl rfl (.o (s := 9) rfl (by decide) .nil) (q_fa rfl rfl Tryz.underlying69 rfl rfl Tryz.sizeOf3 rfl) rfl) (aq rfl (fun γ => qp rfl rfl (.v 4 rfl rfl .nil) (q_load rfl rfl Tryz.isAgg3 (.obj 3 rfl rfl)) rfl) (aq rfl (fun γ => qp rfl rfl (.o (s := 9) rfl (by decide) .nil) (q_loado 3 rfl rfl Tryz.isAgg69 Tryz.sizeOf69 rfl rfl) rfl) zA)))))))
 exact (ac (fun γ => eo (Z := Unit) (fun z => ()) rfl rfl (.v 3 rfl rfl (.v 5 rfl rfl (.v 6 rfl rfl .nil))) (re_mput (ek := enc3) (ev := enc69) 7 s21v.1 (s21v.1, s25v.2.2.2.2, s33v.2.2.2.2, s41v.2.2.2.2) rfl rfl rfl rfl Tryz.underlying56 key3 rfl) (fun _ => ⟨rfl, rfl, rfl, rfl, rfl, rfl, rfl, trivial⟩) (fun _ => .inl rfl) (fun z => Ent.refl _)) zA)
 intro g48v
 refine nrm_block (nrm_then (sim_region ?_))
 refine vm rfl rfl ?_
 refine vq (q_add rfl rfl rfl) rfl ?_
 refine va rfl rfl (simL_nil ?_)
 exact nrm_again (s := (s41v.1, IntKind.i64.wrap (s9v.2.1 + 1), s21v.1, s41v.2.1, s41v.2.2.1, s41v.2.2.2.1, mput s9v.2.2.2.2.2.2 s21v.1 (s21v.1, s25v.2.2.2.2, s33v.2.2.2.2, s41v.2.2.2.2))) () ⟨rfl, rfl, rfl, rfl, rfl, rfl, trivial⟩ (.sel 4 rfl (.sel 0 rfl (.sel 0 rfl (.sel 0 rfl (.sel 1 rfl (.sel 1 rfl (.sel 1 rfl (.sel 1 rfl (.nil _)))))))))
 refine sim_exi ?_
 refine exi_then ?_
 refine exi_loop ?_
 refine exi_here ?_
 exact nrm_cut (s := (s9v.1, s9v.2.2.2.1, s9v.2.2.2.2.1, s9v.2.2.2.2.2.1, s9v.2.2.2.2.2.2)) () ⟨rfl, trivial⟩ (.sel 1 rfl (.sel 1 rfl (.sel 2 rfl (.sel 2 rfl (.sel 2 rfl (.sel 2 rfl (.nil _)))))))
 intro s7v y8v
 refine sr ?_
 refine vm rfl rfl ?_
 refine va rfl rfl (simL_nil (nrm_then (sim_rtn ?_)))
 exact rtn_fn (mp2_0, mp2_1) rfl rfl rfl (.sel 0 rfl (.sel 0 rfl (.sel 0 rfl (.sel 0 rfl (.sel 0 rfl (.sel 0 rfl (.nil _)))))))
end Go.Proofs.YtdaedoklkmdhcaaGreat
